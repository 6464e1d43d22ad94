/- What these functions owe, printed by a program of this repo out of the translation. -/
import Derived.Test.YtnmdljikfhafiaaGreatZiTab
import Derived.Test.YtnmdljikfhafiaaGreatZiRj
import Derived.Maps.RangeRun
import Derived.RangeFuncBox
import Derived.Lib.SliceRun
set_option linter.unusedVariables false
set_option maxRecDepth 100000
namespace Go.Proofs.YtnmdljikfhafiaaGreat.Eng
open Go Go.Value
def vc9 (a : OA) (b c : Nat) (d : OA) (f g : Nat) (h : OA) (i j : Nat) (k : OA) (l m : Nat) (n : ByteArray) (w : World) (R : RW) : Prop :=
 ∀ o, o = w.alloc (.cells #[slice a b c, slice d f g, slice h i j, slice k l m] 27) →
 ∃ p q r s t u x y z a1 b1 c1, (o.cell? (nb w) = some (slice p q r) ∧ o.cell? ((nb w).add 1) = some (slice s t u) ∧ o.cell? ((nb w).add 2) = some (slice x y z) ∧ o.cell? ((nb w).add 3) = some (slice a1 b1 c1) ∧ True) ∧
 CP 13 #[agg #[slice p q r, slice s t u, slice x y z, slice a1 b1 c1]] o (fun d1 e1 =>
 ∃ f1, d1 = .returned (int .i64 f1) ∧
 CondP (decide (f1 > 0))
 (CP 31 #[] e1 (fun g1 h1 =>
 ∃ i1, g1 = .returned (bool i1) ∧
 R (bool i1) h1))
 (CondP (decide (((n.size : Int) : Int) > 20))
 (CondP (decide (((n.size : Int) : Int) ≤ 4000))
 (CP 31 #[] e1 (fun j1 k1 =>
 ∃ l1, j1 = .returned (bool l1) ∧
 R (bool l1) k1))
 (CP 31 #[] e1 (fun m1 n1 =>
 ∃ o1, m1 = .returned (bool o1) ∧
 CondP (!o1)
 (CP 31 #[] n1 (fun p1 q1 =>
 ∃ r1, p1 = .returned (bool r1) ∧
 R (bool r1) q1))
 (∃ s1 t1 u1 v1 x1 y1 z1 a2 b2 c2 d2 e2, (n1.cell? (nb w) = some (slice s1 t1 u1) ∧ n1.cell? ((nb w).add 1) = some (slice v1 x1 y1) ∧ n1.cell? ((nb w).add 2) = some (slice z1 a2 b2) ∧ n1.cell? ((nb w).add 3) = some (slice c2 d2 e2) ∧ True) ∧
 CP 15 #[agg #[slice s1 t1 u1, slice v1 x1 y1, slice z1 a2 b2, slice c2 d2 e2]] n1 (fun f2 g2 =>
 ∃ h2 i2 j2 k2 l2 m2 n2 o2 p2 q2 r2 s2 t2 u2 v2 x2, f2 = .returned (tuple #[pointer h2, agg #[slice i2 j2 k2, slice l2 m2 n2, slice o2 p2 q2, slice r2 s2 t2, slice u2 v2 x2]]) ∧
 ∀ y2, y2 = g2.alloc (.cells #[slice none 0 0, slice none 0 0, slice none 0 0, slice none 0 0, slice none 0 0] 39) →
 StoreP y2 (nb g2) (fun z2 =>
 CondP (Option.isNone h2)
 (R (bool false) z2)
 (CP 44 #[pointer h2, string n] z2 (fun a3 b3 =>
 ∃ c3 d3 e3 f3, a3 = .returned (tuple #[slice c3 d3 e3, int .i64 f3]) ∧
 CondP (decide (((n.size : Int) : Int) > 4000))
 (CondP ((d3 : Int) == 0)
 (R (bool (f3 == 3)) b3)
 (R (bool false) b3))
 (∃ g3 h3 i3, b3.cell? ((nb g2).add 4) = some (slice g3 h3 i3) ∧
 CP 45 #[slice g3 h3 i3, string n] b3 (fun j3 k3 =>
 ∃ l3 m3 n3, j3 = .returned (slice l3 m3 n3) ∧
 ∃ o3 p3 q3 r3 s3 t3 u3 v3 x3 y3 z3 a4 b4 c4 d4, (k3.cell? (nb g2) = some (slice o3 p3 q3) ∧ k3.cell? ((nb g2).add 1) = some (slice r3 s3 t3) ∧ k3.cell? ((nb g2).add 2) = some (slice u3 v3 x3) ∧ k3.cell? ((nb g2).add 3) = some (slice y3 z3 a4) ∧ k3.cell? ((nb g2).add 4) = some (slice b4 c4 d4) ∧ True) ∧
 CP 39 #[agg #[slice o3 p3 q3, slice r3 s3 t3, slice u3 v3 x3, slice y3 z3 a4, slice b4 c4 d4], slice l3 m3 n3] k3 (fun e4 f4 =>
 ∃ g4 h4 i4, e4 = .returned (slice g4 h4 i4) ∧
 CondP (decide ((h4 : Int) > 500))
 (CondP ((d3 : Int) == 0)
 (R (bool (f3 == 5)) f4)
 (R (bool false) f4))
 (CP 46 #[pointer h2, slice l3 m3 n3] f4 (fun j4 k4 =>
 ∃ l4 m4 n4 o4, j4 = .returned (tuple #[slice l4 m4 n4, int .i64 o4]) ∧
 ∀ p4 : KW, (∀ (q4 : Int) (r4 : World), (∀ s4 : KW, (∀ (t4 u4 : Int) (v4 : World), (CondP (decide (t4 < (m3 : Int)))
 (∀ x4 : KW, (∀ (y4 : Int) (z4 : World), (Ar .i64 (t4 + 1) (fun a5 =>
 s4 [int .i64 a5, int .i64 y4] z4)) → x4 [int .i64 y4] z4) →
 Ar .i64 (u4 + 1) (fun b5 =>
 NilC l3 (fun c5 =>
 (0 : Int) ≤ t4 ∧ t4 < (m3 : Int) ∧
 ∃ d5, v4.cell? (c5.add (t4.toNat * 1)) = some (int .i64 d5) ∧
 CondP (decide (d5 < 0))
 (x4 [int .i64 0] v4)
 (x4 [int .i64 b5] v4))))
 (∀ e5, e5 = v4.drew →
 CP 40 #[slice c3 d3 e3, slice g4 h4 i4] e5 (fun f5 g5 =>
 ∃ h5, f5 = .returned (bool h5) ∧
 CondP h5
 (CondP (f3 == 0)
 (∃ i5 j5 k5 l5 m5 n5 o5 p5 q5 r5 s5 t5 u5 v5 x5, (g5.cell? (nb g2) = some (slice i5 j5 k5) ∧ g5.cell? ((nb g2).add 1) = some (slice l5 m5 n5) ∧ g5.cell? ((nb g2).add 2) = some (slice o5 p5 q5) ∧ g5.cell? ((nb g2).add 3) = some (slice r5 s5 t5) ∧ g5.cell? ((nb g2).add 4) = some (slice u5 v5 x5) ∧ True) ∧
 (0 : Int) ≤ (0 : Int) ∧ (0 : Int) ≤ q4 ∧ q4 ≤ (n3 : Int) ∧ True ∧ True ∧
 CP 34 #[agg #[slice i5 j5 k5, slice l5 m5 n5, slice o5 p5 q5, slice r5 s5 t5, slice u5 v5 x5], slice (slBase l3 (0 : Int).toNat (n3 : Int).toNat 1) (q4.toNat - (0 : Int).toNat) ((n3 : Int).toNat - (0 : Int).toNat)] g5 (fun y5 z5 =>
 ∃ a6 b6 c6, y5 = .returned (slice a6 b6 c6) ∧
 CP 41 #[slice l4 m4 n4, slice a6 b6 c6] z5 (fun d6 e6 =>
 ∃ f6, d6 = .returned (bool f6) ∧
 CondP f6
 (CondP (o4 == 0)
 (CP 47 #[slice l3 m3 n3] e6 (fun g6 h6 =>
 ∃ i6, g6 = .returned (int .i64 i6) ∧
 R (bool (i6 == u4)) h6))
 (R (bool false) e6))
 (R (bool false) e6))))
 (R (bool false) g5))
 (R (bool false) g5)))) → s4 [int .i64 t4, int .i64 u4] v4) →
 s4 [int .i64 0, int .i64 0] r4) → p4 [int .i64 q4] r4) →
 CondP (decide ((h4 : Int) > 0))
 (NilC g4 (fun j6 =>
 (0 : Int) ≤ 0 ∧ 0 < (h4 : Int) ∧
 ∃ k6, k4.cell? ((j6.add ((0 : Int).toNat * 2)).add 0) = some (int .i64 k6) ∧
 p4 [int .i64 k6] k4))
 (p4 [int .i64 (m3 : Int)] k4))))))))) [slice i2 j2 k2, slice l2 m2 n2, slice o2 p2 q2, slice r2 s2 t2, slice u2 v2 x2] 0)))))
 (CP 31 #[] e1 (fun l6 m6 =>
 ∃ n6, l6 = .returned (bool n6) ∧
 CondP (!n6)
 (CP 31 #[] m6 (fun o6 p6 =>
 ∃ q6, o6 = .returned (bool q6) ∧
 R (bool q6) p6))
 (∃ r6 s6 t6 u6 v6 x6 y6 z6 a7 b7 c7 d7, (m6.cell? (nb w) = some (slice r6 s6 t6) ∧ m6.cell? ((nb w).add 1) = some (slice u6 v6 x6) ∧ m6.cell? ((nb w).add 2) = some (slice y6 z6 a7) ∧ m6.cell? ((nb w).add 3) = some (slice b7 c7 d7) ∧ True) ∧
 CP 15 #[agg #[slice r6 s6 t6, slice u6 v6 x6, slice y6 z6 a7, slice b7 c7 d7]] m6 (fun e7 f7 =>
 ∃ g7 h7 i7 j7 k7 l7 m7 n7 o7 p7 q7 r7 s7 t7 u7 v7, e7 = .returned (tuple #[pointer g7, agg #[slice h7 i7 j7, slice k7 l7 m7, slice n7 o7 p7, slice q7 r7 s7, slice t7 u7 v7]]) ∧
 ∀ x7, x7 = f7.alloc (.cells #[slice none 0 0, slice none 0 0, slice none 0 0, slice none 0 0, slice none 0 0] 39) →
 StoreP x7 (nb f7) (fun y7 =>
 CondP (Option.isNone g7)
 (R (bool false) y7)
 (CP 44 #[pointer g7, string n] y7 (fun z7 a8 =>
 ∃ b8 c8 d8 e8, z7 = .returned (tuple #[slice b8 c8 d8, int .i64 e8]) ∧
 CondP (decide (((n.size : Int) : Int) > 4000))
 (CondP ((c8 : Int) == 0)
 (R (bool (e8 == 3)) a8)
 (R (bool false) a8))
 (∃ f8 g8 h8, a8.cell? ((nb f7).add 4) = some (slice f8 g8 h8) ∧
 CP 45 #[slice f8 g8 h8, string n] a8 (fun i8 j8 =>
 ∃ k8 l8 m8, i8 = .returned (slice k8 l8 m8) ∧
 ∃ n8 o8 p8 q8 r8 s8 t8 u8 v8 x8 y8 z8 a9 b9 c9, (j8.cell? (nb f7) = some (slice n8 o8 p8) ∧ j8.cell? ((nb f7).add 1) = some (slice q8 r8 s8) ∧ j8.cell? ((nb f7).add 2) = some (slice t8 u8 v8) ∧ j8.cell? ((nb f7).add 3) = some (slice x8 y8 z8) ∧ j8.cell? ((nb f7).add 4) = some (slice a9 b9 c9) ∧ True) ∧
 CP 39 #[agg #[slice n8 o8 p8, slice q8 r8 s8, slice t8 u8 v8, slice x8 y8 z8, slice a9 b9 c9], slice k8 l8 m8] j8 (fun d9 e9 =>
 ∃ f9 g9 h9, d9 = .returned (slice f9 g9 h9) ∧
 CondP (decide ((g9 : Int) > 500))
 (CondP ((c8 : Int) == 0)
 (R (bool (e8 == 5)) e9)
 (R (bool false) e9))
 (CP 46 #[pointer g7, slice k8 l8 m8] e9 (fun i9 j9 =>
 ∃ k9 l9 m9 n9, i9 = .returned (tuple #[slice k9 l9 m9, int .i64 n9]) ∧
 ∀ o9 : KW, (∀ (p9 : Int) (q9 : World), (∀ r9 : KW, (∀ (s9 t9 : Int) (u9 : World), (CondP (decide (s9 < (l8 : Int)))
 (∀ v9 : KW, (∀ (x9 : Int) (y9 : World), (Ar .i64 (s9 + 1) (fun z9 =>
 r9 [int .i64 z9, int .i64 x9] y9)) → v9 [int .i64 x9] y9) →
 Ar .i64 (t9 + 1) (fun a10 =>
 NilC k8 (fun b10 =>
 (0 : Int) ≤ s9 ∧ s9 < (l8 : Int) ∧
 ∃ c10, u9.cell? (b10.add (s9.toNat * 1)) = some (int .i64 c10) ∧
 CondP (decide (c10 < 0))
 (v9 [int .i64 0] u9)
 (v9 [int .i64 a10] u9))))
 (∀ d10, d10 = u9.drew →
 CP 40 #[slice b8 c8 d8, slice f9 g9 h9] d10 (fun e10 f10 =>
 ∃ g10, e10 = .returned (bool g10) ∧
 CondP g10
 (CondP (e8 == 0)
 (∃ h10 i10 j10 k10 l10 m10 n10 o10 p10 q10 r10 s10 t10 u10 v10, (f10.cell? (nb f7) = some (slice h10 i10 j10) ∧ f10.cell? ((nb f7).add 1) = some (slice k10 l10 m10) ∧ f10.cell? ((nb f7).add 2) = some (slice n10 o10 p10) ∧ f10.cell? ((nb f7).add 3) = some (slice q10 r10 s10) ∧ f10.cell? ((nb f7).add 4) = some (slice t10 u10 v10) ∧ True) ∧
 (0 : Int) ≤ (0 : Int) ∧ (0 : Int) ≤ p9 ∧ p9 ≤ (m8 : Int) ∧ True ∧ True ∧
 CP 34 #[agg #[slice h10 i10 j10, slice k10 l10 m10, slice n10 o10 p10, slice q10 r10 s10, slice t10 u10 v10], slice (slBase k8 (0 : Int).toNat (m8 : Int).toNat 1) (p9.toNat - (0 : Int).toNat) ((m8 : Int).toNat - (0 : Int).toNat)] f10 (fun x10 y10 =>
 ∃ z10 a11 b11, x10 = .returned (slice z10 a11 b11) ∧
 CP 41 #[slice k9 l9 m9, slice z10 a11 b11] y10 (fun c11 d11 =>
 ∃ e11, c11 = .returned (bool e11) ∧
 CondP e11
 (CondP (n9 == 0)
 (CP 47 #[slice k8 l8 m8] d11 (fun f11 g11 =>
 ∃ h11, f11 = .returned (int .i64 h11) ∧
 R (bool (h11 == t9)) g11))
 (R (bool false) d11))
 (R (bool false) d11))))
 (R (bool false) f10))
 (R (bool false) f10)))) → r9 [int .i64 s9, int .i64 t9] u9) →
 r9 [int .i64 0, int .i64 0] q9) → o9 [int .i64 p9] q9) →
 CondP (decide ((g9 : Int) > 0))
 (NilC f9 (fun i11 =>
 (0 : Int) ≤ 0 ∧ 0 < (g9 : Int) ∧
 ∃ j11, j9.cell? ((i11.add ((0 : Int).toNat * 2)).add 0) = some (int .i64 j11) ∧
 o9 [int .i64 j11] j9))
 (o9 [int .i64 (l8 : Int)] j9))))))))) [slice h7 i7 j7, slice k7 l7 m7, slice n7 o7 p7, slice q7 r7 s7, slice t7 u7 v7] 0))))))
theorem vc9_calls (a : OA) (b c : Nat) (d : OA) (f g : Nat) (h : OA) (i j : Nat) (k : OA) (l m : Nat) (n : ByteArray) (w : World) (R : RW) (hh : vc9 a b c d f g h i j k l m n w R) : CR 9 #[agg #[slice a b c, slice d f g, slice h i j, slice k l m], string n] w R :=
 cden (fn := Tryz.f9) (by kernel_rfl) (by kernel_rfl) (by kernel_rfl) (by kernel_rfl) (by kernel_rfl) hh
def vc31 (w : World) (R : RW) : Prop :=
 ∀ a, a = w.alloc (.cells #[int .i64 97, int .i64 98, int .i64 256, int .i64 99] 89) →
 CP 43 #[agg #[bool false, slice (some (nb w)) 2 2, slice none 0 0, slice none 0 0, slice none 0 0, slice none 0 0]] a (fun b c =>
 ∃ d f g, b = .returned (tuple #[pointer d, int .i64 f, int .i64 g]) ∧
 CP 44 #[pointer d, string ⟨#[120, 97, 98]⟩] c (fun h i =>
 ∃ j k l m, h = .returned (tuple #[slice j k l, int .i64 m]) ∧
 CondP (m == 0)
 (CondP ((k : Int) == 1)
 (NilC j (fun n =>
 (0 : Int) ≤ 0 ∧ 0 < (k : Int) ∧
 ∃ o p, (i.cell? (n.add ((0 : Int).toNat * 2)) = some (int .i64 o) ∧ i.cell? ((n.add ((0 : Int).toNat * 2)).add 1) = some (int .i64 p) ∧ True) ∧
 R (bool ((o == 1) && ((p == 257) && (true)))) i))
 (R (bool false) i))
 (R (bool false) i)))
theorem vc31_calls (w : World) (R : RW) (hh : vc31 w R) : CR 31 #[] w R :=
 cden (fn := Tryz.f31) (by kernel_rfl) (by kernel_rfl) (by kernel_rfl) (by kernel_rfl) (by kernel_rfl) hh
def vc33 (a b : OA) (c d : Nat) (w : World) (R : RW) : Prop :=
 CP 63 #[pointer a, slice b c d] w (fun f g =>
 ∃ h i j, f = .returned (tuple #[pointer h, int .i64 i, int .i64 j]) ∧
 CondP (j != 0)
 (R (tuple #[slice none 0 0, int .i64 i, int .i64 j]) g)
 (CP 64 #[pointer h] g (fun k l =>
 ∃ m n o p, k = .returned (tuple #[slice m n o, int .i64 p]) ∧
 CondP (p != 0)
 (R (tuple #[slice none 0 0, int .i64 0, int .i64 p]) l)
 (R (tuple #[slice m n o, int .i64 i, int .i64 0]) l))))
theorem vc33_calls (a b : OA) (c d : Nat) (w : World) (R : RW) (hh : vc33 a b c d w R) : CR 33 #[pointer a, slice b c d] w R :=
 cden (fn := Tryz.f33) (by kernel_rfl) (by kernel_rfl) (by kernel_rfl) (by kernel_rfl) (by kernel_rfl) hh
def vc39 (a : OA) (b c : Nat) (d : OA) (f g : Nat) (h : OA) (i j : Nat) (k : OA) (l m : Nat) (n : OA) (o p : Nat) (q : OA) (r s : Nat) (w : World) (R : RW) : Prop :=
 ∀ t, t = w.alloc (.cells #[slice a b c, slice d f g, slice h i j, slice k l m, slice n o p] 39) →
 ∀ u : KW, (∀ (x : Int) (y : OA) (z a1 : Nat) (b1 : World), (CondP (decide (x < (r : Int)))
 (∃ c1 d1 e1 f1 g1 h1 i1 j1 k1 l1 m1 n1 o1 p1 q1, (b1.cell? (nb w) = some (slice c1 d1 e1) ∧ b1.cell? ((nb w).add 1) = some (slice f1 g1 h1) ∧ b1.cell? ((nb w).add 2) = some (slice i1 j1 k1) ∧ b1.cell? ((nb w).add 3) = some (slice l1 m1 n1) ∧ b1.cell? ((nb w).add 4) = some (slice o1 p1 q1) ∧ True) ∧
 CP 42 #[agg #[slice c1 d1 e1, slice f1 g1 h1, slice i1 j1 k1, slice l1 m1 n1, slice o1 p1 q1], int .i64 x, slice q r s] b1 (fun r1 s1 =>
 ∃ t1 u1 v1, r1 = .returned (slice t1 u1 v1) ∧
 ∀ x1 : KW, (∀ (y1 : Int) (z1 : OA) (a2 b2 : Nat) (c2 : World), (CondP (decide (y1 < (u1 : Int)))
 (NilC t1 (fun d2 =>
 (0 : Int) ≤ y1 ∧ y1 < (u1 : Int) ∧
 ∃ e2, c2.cell? (d2.add (y1.toNat * 1)) = some (int .i64 e2) ∧
 ∀ f2, f2 = c2.alloc (.cells #[int .i64 x, int .i64 e2] 74) →
 ∃ g2 h2 i2 j2, (Builtin.append_ #[69, 69] 69 #[slice z1 a2 b2, slice (some (nb c2)) 1 1]).run Tryz.prog f2 = .ok (slice g2 h2 i2) j2 ∧
 Ar .i64 (y1 + 1) (fun k2 =>
 x1 [int .i64 k2, slice g2 h2 i2] j2)))
 (Ar .i64 (x + 1) (fun l2 =>
 u [int .i64 l2, slice z1 a2 b2] c2))) → x1 [int .i64 y1, slice z1 a2 b2] c2) →
 x1 [int .i64 0, slice y z a1] s1))
 (R (slice y z a1) b1)) → u [int .i64 x, slice y z a1] b1) →
 u [int .i64 0, slice none 0 0] t
theorem vc39_calls (a : OA) (b c : Nat) (d : OA) (f g : Nat) (h : OA) (i j : Nat) (k : OA) (l m : Nat) (n : OA) (o p : Nat) (q : OA) (r s : Nat) (w : World) (R : RW) (hh : vc39 a b c d f g h i j k l m n o p q r s w R) : CR 39 #[agg #[slice a b c, slice d f g, slice h i j, slice k l m, slice n o p], slice q r s] w R :=
 cden (fn := Tryz.f39) (by kernel_rfl) (by kernel_rfl) (by kernel_rfl) (by kernel_rfl) (by kernel_rfl) hh
def vc40 (a : OA) (b c : Nat) (d : OA) (f g : Nat) (w : World) (R : RW) : Prop :=
 CondP ((b : Int) != (f : Int))
 (R (bool false) w)
 (∀ h : KW, (∀ (i : Int) (j : Bool) (k : World), (CondP (decide (i < (b : Int)))
 (∀ l, l = k.drew →
 NilC a (fun m =>
 (0 : Int) ≤ i ∧ i < (b : Int) ∧
 ∃ n o, (l.cell? (m.add (i.toNat * 2)) = some (int .i64 n) ∧ l.cell? ((m.add (i.toNat * 2)).add 1) = some (int .i64 o) ∧ True) ∧
 NilC d (fun p =>
 (0 : Int) ≤ i ∧ i < (f : Int) ∧
 ∃ q r, (l.cell? (p.add (i.toNat * 2)) = some (int .i64 q) ∧ l.cell? ((p.add (i.toNat * 2)).add 1) = some (int .i64 r) ∧ True) ∧
 CondP (!((n == q) && ((o == r) && (true))))
 (R (bool false) l)
 (Ar .i64 (i + 1) (fun s =>
 h [int .i64 s, bool j] l)))))
 (R (bool true) k)) → h [int .i64 i, bool j] k) →
 h [int .i64 0, bool false] w)
theorem vc40_calls (a : OA) (b c : Nat) (d : OA) (f g : Nat) (w : World) (R : RW) (hh : vc40 a b c d f g w R) : CR 40 #[slice a b c, slice d f g] w R :=
 cden (fn := Tryz.f40) (by kernel_rfl) (by kernel_rfl) (by kernel_rfl) (by kernel_rfl) (by kernel_rfl) hh
def vc41 (a : OA) (b c : Nat) (d : OA) (f g : Nat) (w : World) (R : RW) : Prop :=
 CondP ((b : Int) != (f : Int))
 (R (bool false) w)
 (∀ h : KW, (∀ (i : Int) (j : Bool) (k : World), (CondP (decide (i < (b : Int)))
 (∀ l, l = k.drew →
 NilC a (fun m =>
 (0 : Int) ≤ i ∧ i < (b : Int) ∧
 ∃ n, l.cell? (m.add (i.toNat * 1)) = some (int .i64 n) ∧
 NilC d (fun o =>
 (0 : Int) ≤ i ∧ i < (f : Int) ∧
 ∃ p, l.cell? (o.add (i.toNat * 1)) = some (int .i64 p) ∧
 CondP (n != p)
 (R (bool false) l)
 (Ar .i64 (i + 1) (fun q =>
 h [int .i64 q, bool j] l)))))
 (R (bool true) k)) → h [int .i64 i, bool j] k) →
 h [int .i64 0, bool false] w)
theorem vc41_calls (a : OA) (b c : Nat) (d : OA) (f g : Nat) (w : World) (R : RW) (hh : vc41 a b c d f g w R) : CR 41 #[slice a b c, slice d f g] w R :=
 cden (fn := Tryz.f41) (by kernel_rfl) (by kernel_rfl) (by kernel_rfl) (by kernel_rfl) (by kernel_rfl) hh
def vc42 (a : OA) (b c : Nat) (d : OA) (f g : Nat) (h : OA) (i j : Nat) (k : OA) (l m : Nat) (n : OA) (o p : Nat) (q : Int) (r : OA) (s t : Nat) (w : World) (R : RW) : Prop :=
 ∀ u, u = w.alloc (.cells #[slice a b c, slice d f g, slice h i j, slice k l m, slice n o p] 39) →
 ∀ x, x = u.alloc (.cells #[] 5) →
 ∀ y : KW, (∀ (z : Int) (a1 : OA) (b1 c1 : Nat) (d1 : OA) (e1 f1 : Nat) (g1 : World), (CondP (decide (z < (s : Int)))
 (NilC r (fun h1 =>
 (0 : Int) ≤ z ∧ z < (s : Int) ∧
 ∃ i1, g1.cell? (h1.add (z.toNat * 1)) = some (int .i64 i1) ∧
 CondP (decide (i1 < 0))
 (R (slice none 0 0) g1)
 (NilC r (fun j1 =>
 (0 : Int) ≤ z ∧ z < (s : Int) ∧
 ∃ k1, g1.cell? (j1.add (z.toNat * 1)) = some (int .i64 k1) ∧
 ∀ l1, l1 = g1.alloc (.cells #[int .u8 (IntKind.wrap .u8 k1)] 5) →
 ∃ m1 n1 o1 p1, (Builtin.append_ #[134, 134] 134 #[slice a1 b1 c1, slice (some (nb g1)) 1 1]).run Tryz.prog l1 = .ok (slice m1 n1 o1) p1 ∧
 Ar .i64 (z + 1) (fun q1 =>
 y [int .i64 q1, slice m1 n1 o1, slice d1 e1 f1] p1)))))
 (∃ r1 s1, (convert 134 9 (slice a1 b1 c1)).run Tryz.prog g1 = .ok (string r1) s1 ∧
 ∀ t1, t1 = s1.drew →
 ∃ u1 v1 x1 y1 z1 a2 b2 c2 d2 e2 f2 g2 h2 i2 j2, (t1.cell? (nb w) = some (slice u1 v1 x1) ∧ t1.cell? ((nb w).add 1) = some (slice y1 z1 a2) ∧ t1.cell? ((nb w).add 2) = some (slice b2 c2 d2) ∧ t1.cell? ((nb w).add 3) = some (slice e2 f2 g2) ∧ t1.cell? ((nb w).add 4) = some (slice h2 i2 j2) ∧ True) ∧
 (0 : Int) ≤ (0 : Int) ∧ (0 : Int) ≤ q ∧ q ≤ (t : Int) ∧ True ∧ True ∧
 CP 34 #[agg #[slice u1 v1 x1, slice y1 z1 a2, slice b2 c2 d2, slice e2 f2 g2, slice h2 i2 j2], slice (slBase r (0 : Int).toNat (t : Int).toNat 1) (q.toNat - (0 : Int).toNat) ((t : Int).toNat - (0 : Int).toNat)] t1 (fun k2 l2 =>
 ∃ m2 n2 o2, k2 = .returned (slice m2 n2 o2) ∧
 ∀ p2 : KW, (∀ (q2 : Int) (r2 : OA) (s2 t2 : Nat) (u2 : World), (∃ v2 x2 y2, u2.cell? (((nb w).add 0).add 0) = some (slice v2 x2 y2) ∧
 CondP (decide (q2 < (x2 : Int)))
 (∀ z2 : KW, (∀ (a3 : OA) (b3 c3 : Nat) (d3 : World), (Ar .i64 (q2 + 1) (fun e3 =>
 p2 [int .i64 e3, slice a3 b3 c3] d3)) → z2 [slice a3 b3 c3] d3) →
 ∃ f3 g3 h3, u2.cell? (((nb w).add 0).add 0) = some (slice f3 g3 h3) ∧
 NilC f3 (fun i3 =>
 (0 : Int) ≤ q2 ∧ q2 < (g3 : Int) ∧
 ∃ j3, u2.cell? (i3.add (q2.toNat * 1)) = some (string j3) ∧
 CondP (decide (((j3.size : Int) : Int) ≤ (r1.size : Int)))
 (z2 [slice r2 s2 t2] u2)
 ((0 : Int) ≤ (0 : Int) ∧ (0 : Int) ≤ ((r1.size : Int) : Int) ∧ ((r1.size : Int) : Int) ≤ (j3.size : Int) ∧
 CondP (!((j3.extract (0 : Int).toNat ((r1.size : Int) : Int).toNat : ByteArray).toList == r1.toList))
 (z2 [slice r2 s2 t2] u2)
 (∃ k3 l3 m3 n3, (Builtin.append_ #[28, 28] 28 #[slice none 0 0, slice m2 n2 o2]).run Tryz.prog u2 = .ok (slice k3 l3 m3) n3 ∧
 ∀ o3, o3 = n3.drew →
 ∃ p3 q3 r3 s3 t3 u3 v3 x3 y3 z3 a4 b4 c4 d4 e4, (o3.cell? (nb w) = some (slice p3 q3 r3) ∧ o3.cell? ((nb w).add 1) = some (slice s3 t3 u3) ∧ o3.cell? ((nb w).add 2) = some (slice v3 x3 y3) ∧ o3.cell? ((nb w).add 3) = some (slice z3 a4 b4) ∧ o3.cell? ((nb w).add 4) = some (slice c4 d4 e4) ∧ True) ∧
 ∀ f4, f4 = o3.alloc (.cells #[int .i64 q2] 3) →
 (f4.cell? (nb w) = some (slice p3 q3 r3) ∧ f4.cell? ((nb w).add 1) = some (slice s3 t3 u3) ∧ f4.cell? ((nb w).add 2) = some (slice v3 x3 y3) ∧ f4.cell? ((nb w).add 3) = some (slice z3 a4 b4) ∧ f4.cell? ((nb w).add 4) = some (slice c4 d4 e4) ∧ True) ∧
 ∃ g4 h4 i4 j4, (Builtin.append_ #[28, 28] 28 #[slice k3 l3 m3, slice (some (nb o3)) 1 1]).run Tryz.prog f4 = .ok (slice g4 h4 i4) j4 ∧
 (j4.cell? (nb w) = some (slice p3 q3 r3) ∧ j4.cell? ((nb w).add 1) = some (slice s3 t3 u3) ∧ j4.cell? ((nb w).add 2) = some (slice v3 x3 y3) ∧ j4.cell? ((nb w).add 3) = some (slice z3 a4 b4) ∧ j4.cell? ((nb w).add 4) = some (slice c4 d4 e4) ∧ True) ∧
 CP 50 #[agg #[slice p3 q3 r3, slice s3 t3 u3, slice v3 x3 y3, slice z3 a4 b4, slice c4 d4 e4], slice g4 h4 i4] j4 (fun k4 l4 =>
 ∃ m4, k4 = .returned (bool m4) ∧
 CondP m4
 (∀ n4, n4 = l4.alloc (.cells #[int .i64 q2] 3) →
 ∃ o4 p4 q4 r4, (Builtin.append_ #[28, 28] 28 #[slice r2 s2 t2, slice (some (nb l4)) 1 1]).run Tryz.prog n4 = .ok (slice o4 p4 q4) r4 ∧
 z2 [slice o4 p4 q4] r4)
 (z2 [slice r2 s2 t2] l4))))))
 (R (slice r2 s2 t2) u2)) → p2 [int .i64 q2, slice r2 s2 t2] u2) →
 p2 [int .i64 0, slice none 0 0] l2))) → y [int .i64 z, slice a1 b1 c1, slice d1 e1 f1] g1) →
 y [int .i64 q, slice (some (nb u)) 0 0, slice none 0 0] x
theorem vc42_calls (a : OA) (b c : Nat) (d : OA) (f g : Nat) (h : OA) (i j : Nat) (k : OA) (l m : Nat) (n : OA) (o p : Nat) (q : Int) (r : OA) (s t : Nat) (w : World) (R : RW) (hh : vc42 a b c d f g h i j k l m n o p q r s t w R) : CR 42 #[agg #[slice a b c, slice d f g, slice h i j, slice k l m, slice n o p], int .i64 q, slice r s t] w R :=
 cden (fn := Tryz.f42) (by kernel_rfl) (by kernel_rfl) (by kernel_rfl) (by kernel_rfl) (by kernel_rfl) hh
def vc44 (a : OA) (b : ByteArray) (w : World) (R : RW) : Prop :=
 CondP (Option.isNone a)
 (R (tuple #[slice none 0 0, int .i64 1]) w)
 (CondP (decide (((b.size : Int) : Int) > 4000))
 (R (tuple #[slice none 0 0, int .i64 3]) w)
 (CP 73 #[pointer a] w (fun c d =>
 ∃ f, c = .returned (pointer f) ∧
 CP 74 #[pointer f, string b] d (fun g h =>
 ∃ i j k, g = .returned (slice i j k) ∧
 CP 33 #[pointer a, slice i j k] h (fun l m =>
 ∃ n o p q r, l = .returned (tuple #[slice n o p, int .i64 q, int .i64 r]) ∧
 R (tuple #[slice n o p, int .i64 r]) m)))))
theorem vc44_calls (a : OA) (b : ByteArray) (w : World) (R : RW) (hh : vc44 a b w R) : CR 44 #[pointer a, string b] w R :=
 cden (fn := Tryz.f44) (by kernel_rfl) (by kernel_rfl) (by kernel_rfl) (by kernel_rfl) (by kernel_rfl) hh
def vc45 (a : OA) (b c : Nat) (d : ByteArray) (w : World) (R : RW) : Prop :=
 ∀ f : KW, (∀ (g : OA) (h i : Nat) (j : ByteArray) (k : World), (CondP (decide (((j.size : Int) : Int) > 0))
 (∀ l : KW, (∀ (m : OA) (n o : Nat) (p : ByteArray) (q : World), (f [slice m n o, string p] q) → l [slice m n o, string p] q) →
 CP 75 #[slice a b c, string j] k (fun r s =>
 ∃ t, r = .returned (int .i64 t) ∧
 CondP (t == 0)
 ((0 : Int) ≤ 0 ∧ 0 < (j.size : Int) ∧
 ∀ u, u = s.alloc (.cells #[int .i64 (IntKind.wrap .i64 (btAt j 0))] 3) →
 ∃ x y z a1, (Builtin.append_ #[28, 28] 28 #[slice g h i, slice (some (nb s)) 1 1]).run Tryz.prog u = .ok (slice x y z) a1 ∧
 (0 : Int) ≤ (1 : Int) ∧ (1 : Int) ≤ ((j.size : Nat) : Int) ∧ ((j.size : Nat) : Int) ≤ (j.size : Int) ∧
 l [slice x y z, string (j.extract (1 : Int).toNat ((j.size : Nat) : Int).toNat)] a1)
 (∀ b1, b1 = s.alloc (.cells #[int .i64 t] 3) →
 ∃ c1 d1 e1 f1, (Builtin.append_ #[28, 28] 28 #[slice g h i, slice (some (nb s)) 1 1]).run Tryz.prog b1 = .ok (slice c1 d1 e1) f1 ∧
 Ar .i64 ((-1 : Int) - t) (fun g1 =>
 NilC a (fun h1 =>
 (0 : Int) ≤ g1 ∧ g1 < (b : Int) ∧
 ∃ i1, f1.cell? ((h1.add (g1.toNat * 2)).add 1) = some (string i1) ∧
 (0 : Int) ≤ ((i1.size : Int) : Int) ∧ ((i1.size : Int) : Int) ≤ ((j.size : Nat) : Int) ∧ ((j.size : Nat) : Int) ≤ (j.size : Int) ∧
 l [slice c1 d1 e1, string (j.extract ((i1.size : Int) : Int).toNat ((j.size : Nat) : Int).toNat)] f1)))))
 (R (slice g h i) k)) → f [slice g h i, string j] k) →
 f [slice none 0 0, string d] w
theorem vc45_calls (a : OA) (b c : Nat) (d : ByteArray) (w : World) (R : RW) (hh : vc45 a b c d w R) : CR 45 #[slice a b c, string d] w R :=
 cden (fn := Tryz.f45) (by kernel_rfl) (by kernel_rfl) (by kernel_rfl) (by kernel_rfl) (by kernel_rfl) hh
def vc46 (a b : OA) (c d : Nat) (w : World) (R : RW) : Prop :=
 CP 33 #[pointer a, slice b c d] w (fun f g =>
 ∃ h i j k l, f = .returned (tuple #[slice h i j, int .i64 k, int .i64 l]) ∧
 CondP (l != 0)
 (R (tuple #[slice none 0 0, int .i64 l]) g)
 (∀ m : KW, (∀ (n : Int) (o : World), ((0 : Int) ≤ (0 : Int) ∧ (0 : Int) ≤ n ∧ n ≤ (d : Int) ∧ True ∧ True ∧
 CP 76 #[pointer a, slice (slBase b (0 : Int).toNat (d : Int).toNat 1) (n.toNat - (0 : Int).toNat) ((d : Int).toNat - (0 : Int).toNat)] o (fun p q =>
 ∃ r s t, p = .returned (slice r s t) ∧
 R (tuple #[slice r s t, int .i64 0]) q)) → m [int .i64 n] o) →
 CondP (decide ((i : Int) > 0))
 (NilC h (fun u =>
 (0 : Int) ≤ 0 ∧ 0 < (i : Int) ∧
 ∃ x, g.cell? ((u.add ((0 : Int).toNat * 2)).add 0) = some (int .i64 x) ∧
 m [int .i64 x] g))
 (m [int .i64 (c : Int)] g)))
theorem vc46_calls (a b : OA) (c d : Nat) (w : World) (R : RW) (hh : vc46 a b c d w R) : CR 46 #[pointer a, slice b c d] w R :=
 cden (fn := Tryz.f46) (by kernel_rfl) (by kernel_rfl) (by kernel_rfl) (by kernel_rfl) (by kernel_rfl) hh
def vc47 (a : OA) (b c : Nat) (w : World) (R : RW) : Prop :=
 ∀ d : KW, (∀ (f : Int) (g : World), (CondP (decide (f < (b : Int)))
 (Ar .i64 ((b : Int) - 1) (fun h =>
 Ar .i64 (h - f) (fun i =>
 NilC a (fun j =>
 (0 : Int) ≤ i ∧ i < (b : Int) ∧
 ∃ k, g.cell? (j.add (i.toNat * 1)) = some (int .i64 k) ∧
 CondP (decide (k ≥ 0))
 (Ar .i64 (f + 1) (fun l =>
 d [int .i64 l] g))
 (R (int .i64 f) g)))))
 (R (int .i64 f) g)) → d [int .i64 f] g) →
 d [int .i64 0] w
theorem vc47_calls (a : OA) (b c : Nat) (w : World) (R : RW) (hh : vc47 a b c w R) : CR 47 #[slice a b c] w R :=
 cden (fn := Tryz.f47) (by kernel_rfl) (by kernel_rfl) (by kernel_rfl) (by kernel_rfl) (by kernel_rfl) hh
def vc63 (a b : OA) (c d : Nat) (w : World) (R : RW) : Prop :=
 CP 106 #[pointer a, slice b c d] w (fun f g =>
 ∃ h i j k l, f = .returned (tuple #[slice h i j, int .i64 k, int .i64 l]) ∧
 CondP (l != 0)
 (R (tuple #[pointer none, int .i64 k, int .i64 l]) g)
 (CP 67 #[pointer a] g (fun m n =>
 ∃ o, m = .returned (pointer o) ∧
 CP 86 #[pointer o] n (fun p q =>
 ∃ r, p = .returned (pointer r) ∧
 ∀ s, s = q.alloc (.cells #[pointer r, pointer a, slice b c d] 175) →
 R (tuple #[pointer (some (nb q)), int .i64 (c : Int), int .i64 0]) s))))
theorem vc63_calls (a b : OA) (c d : Nat) (w : World) (R : RW) (hh : vc63 a b c d w R) : CR 63 #[pointer a, slice b c d] w R :=
 cden (fn := Tryz.f63) (by kernel_rfl) (by kernel_rfl) (by kernel_rfl) (by kernel_rfl) (by kernel_rfl) hh
def vc64 (a : OA) (w : World) (R : RW) : Prop :=
 CP 107 #[pointer a, int .i64 500] w (fun b c =>
 ∃ d f g, b = .returned (slice d f g) ∧
 CondP (decide ((f : Int) > 500))
 (R (tuple #[slice none 0 0, int .i64 5]) c)
 (R (tuple #[slice d f g, int .i64 0]) c))
theorem vc64_calls (a : OA) (w : World) (R : RW) (hh : vc64 a w R) : CR 64 #[pointer a] w R :=
 cden (fn := Tryz.f64) (by kernel_rfl) (by kernel_rfl) (by kernel_rfl) (by kernel_rfl) (by kernel_rfl) hh
def vc70 (a : OA) (b : Int) (w : World) (R : RW) : Prop :=
 ∀ c, c = w.alloc (.cells #[pointer a] 130) →
 ∃ d, c.cell? (nb w) = some (pointer d) ∧
 CP 112 #[pointer d] c (fun f g =>
 ∃ h, f = .returned (int .i64 h) ∧
 CondP (decide (b < h))
 (R (slice none 0 0) g)
 (∀ i, i = g.drew →
 ∃ j, i.cell? (nb w) = some (pointer j) ∧
 NilC j (fun k =>
 ∃ l, i.cell? (k.add 0) = some (pointer l) ∧
 ∃ m, i.cell? (nb w) = some (pointer m) ∧
 CP 114 #[pointer m, int .i64 b] i (fun n o =>
 ∃ p, n = .returned (string p) ∧
 (o.cell? (k.add 0) = some (pointer l) ∧ True) ∧
 (o.cell? (nb w) = some (pointer j) ∧ True) ∧
 CP 113 #[pointer l, string p] o (fun q r =>
 ∃ s t x, q = .returned (slice s t x) ∧
 CondP ((t : Int) == 0)
 (R (slice none 0 0) r)
 (∀ y, y = r.drew →
 ∃ z, y.cell? (nb w) = some (pointer z) ∧
 NilC z (fun a1 =>
 ∃ b1, y.cell? (a1.add 1) = some (pointer b1) ∧
 ∃ c1, y.cell? (nb w) = some (pointer c1) ∧
 NilC c1 (fun d1 =>
 ∃ e1 f1 g1, y.cell? (d1.add 2) = some (slice e1 f1 g1) ∧
 (0 : Int) ≤ (0 : Int) ∧ (0 : Int) ≤ b ∧ b ≤ (g1 : Int) ∧ True ∧ True ∧
 CP 76 #[pointer b1, slice (slBase e1 (0 : Int).toNat (g1 : Int).toNat 1) (b.toNat - (0 : Int).toNat) ((g1 : Int).toNat - (0 : Int).toNat)] y (fun h1 i1 =>
 ∃ j1 k1 l1, h1 = .returned (slice j1 k1 l1) ∧
 Ar .i64 ((k1 : Int) - 1) (fun m1 =>
 ∃ n1 o1, (Builtin.max_ #[3, 3] 3 #[int .i64 m1, int .i64 0]).run Tryz.prog i1 = .ok (int .i64 n1) o1 ∧
 (0 : Int) ≤ n1 ∧ n1 ≤ (k1 : Int) ∧ True ∧ True ∧ True ∧
 ∀ p1, p1 = o1.alloc (.cells #[slice none 0 0] 28) →
 (slice (slBase j1 n1.toNat (l1 : Int).toNat 1) ((k1 : Int).toNat - n1.toNat) ((l1 : Int).toNat - n1.toNat)).oneCell' = true ∧ (∃ u, p1.cell? (nb o1) = some u) ∧ p1.frozen? (nb o1) = false ∧
 ∀ q1, q1 = (p1.setCell (nb o1) (slice (slBase j1 n1.toNat (l1 : Int).toNat 1) ((k1 : Int).toNat - n1.toNat) ((l1 : Int).toNat - n1.toNat))) →
 CP 98 #[slice s t x, func (.func 115) #[] #[pointer (some (nb w)), pointer (some (nb o1))]] q1 (fun r1 s1 =>
 ∃ t1 u1 v1, r1 = .returned (slice t1 u1 v1) ∧
 R (slice t1 u1 v1) s1)))))))))))
theorem vc70_calls (a : OA) (b : Int) (w : World) (R : RW) (hh : vc70 a b w R) : CR 70 #[pointer a, int .i64 b] w R :=
 cden (fn := Tryz.f70) (by kernel_rfl) (by kernel_rfl) (by kernel_rfl) (by kernel_rfl) (by kernel_rfl) hh
def vc74 (a : OA) (b : ByteArray) (w : World) (R : RW) : Prop :=
 ∀ c : KW, (∀ (d : Int) (f : OA) (g h : Nat) (i : World), (CondP (decide (d < (b.size : Int)))
 (∀ j : KW, (∀ (k : Int) (l : OA) (m n : Nat) (o : World), (c [int .i64 k, slice l m n] o) → j [int .i64 k, slice l m n] o) →
 (0 : Int) ≤ d ∧ d ≤ ((b.size : Nat) : Int) ∧ ((b.size : Nat) : Int) ≤ (b.size : Int) ∧
 CP 134 #[pointer a, string (b.extract d.toNat ((b.size : Nat) : Int).toNat)] i (fun p q =>
 ∃ r s, p = .returned (tuple #[int .i64 r, bool s]) ∧
 CondP (!s)
 ((0 : Int) ≤ d ∧ d < (b.size : Int) ∧
 ∀ t, t = q.alloc (.cells #[int .i64 (IntKind.wrap .i64 (btAt b d))] 3) →
 ∃ u x y z, (Builtin.append_ #[28, 28] 28 #[slice f g h, slice (some (nb q)) 1 1]).run Tryz.prog t = .ok (slice u x y) z ∧
 Ar .i64 (d + 1) (fun a1 =>
 j [int .i64 a1, slice u x y] z))
 (CP 135 #[pointer a, int .i64 r] q (fun b1 c1 =>
 ∃ d1 e1 f1, b1 = .returned (tuple #[agg #[int .i64 d1, string e1], bool f1]) ∧
 ∀ g1, g1 = c1.alloc (.cells #[int .i64 0, string ⟨#[]⟩] 105) →
 StoreP g1 (nb c1) (fun h1 =>
 ∀ i1, i1 = h1.alloc (.cells #[int .i64 r] 3) →
 ∃ j1 k1 l1 m1, (Builtin.append_ #[28, 28] 28 #[slice f g h, slice (some (nb h1)) 1 1]).run Tryz.prog i1 = .ok (slice j1 k1 l1) m1 ∧
 ∃ n1, m1.cell? ((nb c1).add 1) = some (string n1) ∧
 Ar .i64 (d + (n1.size : Int)) (fun o1 =>
 j [int .i64 o1, slice j1 k1 l1] m1)) [int .i64 d1, string e1] 0))))
 (R (slice f g h) i)) → c [int .i64 d, slice f g h] i) →
 c [int .i64 0, slice none 0 0] w
theorem vc74_calls (a : OA) (b : ByteArray) (w : World) (R : RW) (hh : vc74 a b w R) : CR 74 #[pointer a, string b] w R :=
 cden (fn := Tryz.f74) (by kernel_rfl) (by kernel_rfl) (by kernel_rfl) (by kernel_rfl) (by kernel_rfl) hh
def vc75 (a : OA) (b c : Nat) (d : ByteArray) (w : World) (R : RW) : Prop :=
 ∀ f : KW, (∀ (g h : Int) (i : World), (CondP (decide (g < (b : Int)))
 (∀ j : KW, (∀ (k : Int) (l : World), (Ar .i64 (g + 1) (fun m =>
 f [int .i64 m, int .i64 k] l)) → j [int .i64 k] l) →
 ∀ n, n = i.drew →
 NilC a (fun o =>
 (0 : Int) ≤ g ∧ g < (b : Int) ∧
 ∃ p, n.cell? ((o.add (g.toNat * 2)).add 1) = some (string p) ∧
 CP 136 #[string d, string p] n (fun q r =>
 ∃ s, q = .returned (bool s) ∧
 CondP s
 (CondP (h == 0)
 (Ar .i64 ((-1 : Int) - g) (fun t =>
 j [int .i64 t] r))
 (NilC a (fun u =>
 (0 : Int) ≤ g ∧ g < (b : Int) ∧
 ∃ x, r.cell? ((u.add (g.toNat * 2)).add 1) = some (string x) ∧
 Ar .i64 ((-1 : Int) - h) (fun y =>
 NilC a (fun z =>
 (0 : Int) ≤ y ∧ y < (b : Int) ∧
 ∃ a1, r.cell? ((z.add (y.toNat * 2)).add 1) = some (string a1) ∧
 CondP (decide (((x.size : Int) : Int) > (a1.size : Int)))
 (Ar .i64 ((-1 : Int) - g) (fun b1 =>
 j [int .i64 b1] r))
 (j [int .i64 h] r))))))
 (j [int .i64 h] r))))
 (R (int .i64 h) i)) → f [int .i64 g, int .i64 h] i) →
 f [int .i64 0, int .i64 0] w
theorem vc75_calls (a : OA) (b c : Nat) (d : ByteArray) (w : World) (R : RW) (hh : vc75 a b c d w R) : CR 75 #[slice a b c, string d] w R :=
 cden (fn := Tryz.f75) (by kernel_rfl) (by kernel_rfl) (by kernel_rfl) (by kernel_rfl) (by kernel_rfl) hh
def vc86 (a : OA) (w : World) (R : RW) : Prop :=
 CondP (Option.isNone a)
 (R (pointer none) w)
 (∀ b, b = w.alloc (.cells #[pointer none, int .i64 0] 241) →
 CP 148 #[pointer (some (nb w))] b (fun c d =>
 ∃ f, c = .returned (pointer f) ∧
 (pointer f).oneCell' = true ∧ (∃ u, d.cell? ((nb w).add 0) = some u) ∧ d.frozen? ((nb w).add 0) = false ∧
 ∀ g, g = (d.setCell ((nb w).add 0) (pointer f)) →
 CP 131 #[pointer a] g (fun h i =>
 ∃ j, h = .returned (int .i64 j) ∧
 ∀ k : KW, (∀ (l : Int) (m : World), (CondP (decide (l < j))
 (CP 141 #[pointer a, int .i64 l] m (fun n o =>
 ∃ p q, n = .returned (tuple #[string p, bool q]) ∧
 CP 149 #[pointer (some (nb w)), string p, int .i64 l] o (fun r s =>
 r = .returned (tuple #[]) ∧
 Ar .i64 (l + 1) (fun t =>
 k [int .i64 t] s))))
 (R (pointer (some (nb w))) m)) → k [int .i64 l] m) →
 k [int .i64 0] i)))
theorem vc86_calls (a : OA) (w : World) (R : RW) (hh : vc86 a w R) : CR 86 #[pointer a] w R :=
 cden (fn := Tryz.f86) (by kernel_rfl) (by kernel_rfl) (by kernel_rfl) (by kernel_rfl) (by kernel_rfl) hh
def vc98 (a : OA) (b c : Nat) (d : Value) (w : World) (R : RW) : Prop :=
 CP 94 #[slice a b c, d] w (fun f g =>
 ∃ h, f = .returned (int .i64 h) ∧
 CondP (h == (-1))
 (R (slice a b c) g)
 (Ar .i64 (h + 1) (fun i =>
 ∀ j : KW, (∀ (k l : Int) (m : World), (CondP (decide (k < (b : Int)))
 (∀ n : KW, (∀ (o : Int) (p : World), (Ar .i64 (k + 1) (fun q =>
 j [int .i64 q, int .i64 o] p)) → n [int .i64 o] p) →
 NilC a (fun r =>
 (0 : Int) ≤ k ∧ k < (b : Int) ∧
 ∃ s, m.cell? (r.add (k.toNat * 1)) = some (int .i64 s) ∧
 CallG ctx d [int .i64 s] m (fun t x =>
 ∃ y, t = .returned (bool y) ∧
 CondP (!y)
 (NilC a (fun z =>
 (0 : Int) ≤ l ∧ l < (b : Int) ∧
 (int .i64 s).oneCell' = true ∧ (∃ u, x.cell? (z.add (l.toNat * 1)) = some u) ∧ x.frozen? (z.add (l.toNat * 1)) = false ∧
 ∀ a1, a1 = (x.setCell (z.add (l.toNat * 1)) (int .i64 s)) →
 Ar .i64 (l + 1) (fun b1 =>
 n [int .i64 b1] a1)))
 (n [int .i64 l] x))))
 ((0 : Int) ≤ l ∧ l ≤ (b : Int) ∧ True ∧ True ∧ True ∧
 ∃ c1, (Builtin.clear_ #[28] 0 #[slice (slBase a l.toNat (c : Int).toNat 1) ((b : Int).toNat - l.toNat) ((c : Int).toNat - l.toNat)]).run Tryz.prog m = .ok (tuple #[]) c1 ∧
 (0 : Int) ≤ (0 : Int) ∧ (0 : Int) ≤ l ∧ l ≤ (c : Int) ∧ True ∧ True ∧
 R (slice (slBase a (0 : Int).toNat (c : Int).toNat 1) (l.toNat - (0 : Int).toNat) ((c : Int).toNat - (0 : Int).toNat)) c1)) → j [int .i64 k, int .i64 l] m) →
 j [int .i64 i, int .i64 h] g)))
theorem vc98_calls (a : OA) (b c : Nat) (d : Value) (w : World) (R : RW) (hh : vc98 a b c d w R) : CR 98 #[slice a b c, d] w R :=
 cden (fn := Tryz.f98) (by kernel_rfl) (by kernel_rfl) (by kernel_rfl) (by kernel_rfl) (by kernel_rfl) hh
def vc106 (a b : OA) (c d : Nat) (w : World) (R : RW) : Prop :=
 ∀ f, f = w.alloc (.cells #[pointer a] 31) →
 ∃ g, f.cell? (nb w) = some (pointer g) ∧
 CondP (Option.isNone g)
 (R (tuple #[slice none 0 0, int .i64 0, int .i64 1]) f)
 (CondP (decide ((c : Int) > 4000))
 (R (tuple #[slice none 0 0, int .i64 0, int .i64 3]) f)
 (CP 94 #[slice b c d, func (.func 159) #[] #[pointer (some (nb w))]] f (fun h i =>
 ∃ j, h = .returned (int .i64 j) ∧
 CondP (decide (j ≥ 0))
 (R (tuple #[slice none 0 0, int .i64 j, int .i64 2]) i)
 (∃ k, i.cell? (nb w) = some (pointer k) ∧
 CP 140 #[pointer k, slice b c d] i (fun l m =>
 ∃ n o p, l = .returned (slice n o p) ∧
 R (tuple #[slice n o p, int .i64 (c : Int), int .i64 0]) m)))))
theorem vc106_calls (a b : OA) (c d : Nat) (w : World) (R : RW) (hh : vc106 a b c d w R) : CR 106 #[pointer a, slice b c d] w R :=
 cden (fn := Tryz.f106) (by kernel_rfl) (by kernel_rfl) (by kernel_rfl) (by kernel_rfl) (by kernel_rfl) hh
def vc107 (a : OA) (b : Int) (w : World) (R : RW) : Prop :=
 CP 112 #[pointer a] w (fun c d =>
 ∃ f, c = .returned (int .i64 f) ∧
 ∀ g : KW, (∀ (h : Int) (i : OA) (j k : Nat) (l : World), (NilC a (fun m =>
 ∃ n o p, l.cell? (m.add 2) = some (slice n o p) ∧
 CondP (decide (h < (o : Int)))
 (CondP (decide ((j : Int) ≤ b))
 (CP 70 #[pointer a, int .i64 h] l (fun q r =>
 ∃ s t u, q = .returned (slice s t u) ∧
 ∀ x : KW, (∀ (y : Int) (z : OA) (a1 b1 : Nat) (c1 : World), (CondP (decide (y < (t : Int)))
 (NilC s (fun d1 =>
 (0 : Int) ≤ y ∧ y < (t : Int) ∧
 ∃ e1, c1.cell? (d1.add (y.toNat * 1)) = some (int .i64 e1) ∧
 ∀ f1, f1 = c1.alloc (.cells #[int .i64 h, int .i64 e1] 74) →
 ∃ g1 h1 i1 j1, (Builtin.append_ #[69, 69] 69 #[slice z a1 b1, slice (some (nb c1)) 1 1]).run Tryz.prog f1 = .ok (slice g1 h1 i1) j1 ∧
 Ar .i64 (y + 1) (fun k1 =>
 x [int .i64 k1, slice g1 h1 i1] j1)))
 (Ar .i64 (h + 1) (fun l1 =>
 g [int .i64 l1, slice z a1 b1] c1))) → x [int .i64 y, slice z a1 b1] c1) →
 x [int .i64 0, slice i j k] r))
 (R (slice i j k) l))
 (R (slice i j k) l))) → g [int .i64 h, slice i j k] l) →
 g [int .i64 f, slice none 0 0] d)
theorem vc107_calls (a : OA) (b : Int) (w : World) (R : RW) (hh : vc107 a b w R) : CR 107 #[pointer a, int .i64 b] w R :=
 cden (fn := Tryz.f107) (by kernel_rfl) (by kernel_rfl) (by kernel_rfl) (by kernel_rfl) (by kernel_rfl) hh
def vc112 (a : OA) (w : World) (R : RW) : Prop :=
 ∀ b, b = w.drew →
 NilC a (fun c =>
 ∃ d f g, b.cell? (c.add 2) = some (slice d f g) ∧
 NilC a (fun h =>
 ∃ i, b.cell? (h.add 1) = some (pointer i) ∧
 CP 47 #[slice d f g] b (fun j k =>
 ∃ l, j = .returned (int .i64 l) ∧
 (k.cell? (h.add 1) = some (pointer i) ∧ True) ∧
 CP 67 #[pointer i] k (fun m n =>
 ∃ o, m = .returned (pointer o) ∧
 CP 161 #[pointer o] n (fun p q =>
 ∃ r, p = .returned (int .i64 r) ∧
 ∃ s t, (Builtin.min_ #[3, 3] 3 #[int .i64 l, int .i64 r]).run Tryz.prog q = .ok (int .i64 s) t ∧
 NilC a (fun u =>
 ∃ x y z, t.cell? (u.add 2) = some (slice x y z) ∧
 Ar .i64 ((y : Int) - s) (fun a1 =>
 R (int .i64 a1) t)))))))
theorem vc112_calls (a : OA) (w : World) (R : RW) (hh : vc112 a w R) : CR 112 #[pointer a] w R :=
 cden (fn := Tryz.f112) (by kernel_rfl) (by kernel_rfl) (by kernel_rfl) (by kernel_rfl) (by kernel_rfl) hh
def vc113 (a : OA) (b : ByteArray) (w : World) (R : RW) : Prop :=
 CP 157 #[pointer a, string b] w (fun c d =>
 ∃ f, c = .returned (pointer f) ∧
 ∀ g, g = d.alloc (.cells #[pointer none] 239) →
 (pointer f).oneCell' = true ∧ (∃ u, g.cell? (nb d) = some u) ∧ g.frozen? (nb d) = false ∧
 ∀ h, h = (g.setCell (nb d) (pointer f)) →
 ∃ i, h.cell? (nb d) = some (pointer i) ∧
 CondP (Option.isNone i)
 (R (slice none 0 0) h)
 (∃ j, h.cell? (nb d) = some (pointer j) ∧
 CP 158 #[pointer j] h (fun k l =>
 ∃ m n o, k = .returned (slice m n o) ∧
 CP 98 #[slice m n o, func (.func 162) #[] #[pointer (some (nb d))]] l (fun p q =>
 ∃ r s t, p = .returned (slice r s t) ∧
 R (slice r s t) q))))
theorem vc113_calls (a : OA) (b : ByteArray) (w : World) (R : RW) (hh : vc113 a b w R) : CR 113 #[pointer a, string b] w R :=
 cden (fn := Tryz.f113) (by kernel_rfl) (by kernel_rfl) (by kernel_rfl) (by kernel_rfl) (by kernel_rfl) hh
def vc114 (a : OA) (b : Int) (w : World) (R : RW) : Prop :=
 NilC a (fun c =>
 ∃ d f g, w.cell? (c.add 2) = some (slice d f g) ∧
 (0 : Int) ≤ b ∧ b ≤ (f : Int) ∧ True ∧ True ∧ True ∧
 ∀ h : KW, (∀ (i : Int) (j : OA) (k l : Nat) (m : World), (CondP (decide (i < (((f : Int).toNat - b.toNat : Nat) : Int)))
 (NilC (slBase d b.toNat (g : Int).toNat 1) (fun n =>
 (0 : Int) ≤ i ∧ i < (((f : Int).toNat - b.toNat : Nat) : Int) ∧
 ∃ o, m.cell? (n.add (i.toNat * 1)) = some (int .i64 o) ∧
 ∀ p, p = m.alloc (.cells #[int .u8 (IntKind.wrap .u8 o)] 5) →
 ∃ q r s t, (Builtin.append_ #[134, 134] 134 #[slice j k l, slice (some (nb m)) 1 1]).run Tryz.prog p = .ok (slice q r s) t ∧
 Ar .i64 (i + 1) (fun u =>
 h [int .i64 u, slice q r s] t)))
 (∃ x y, (convert 134 9 (slice j k l)).run Tryz.prog m = .ok (string x) y ∧
 R (string x) y)) → h [int .i64 i, slice j k l] m) →
 h [int .i64 0, slice none 0 0] w)
theorem vc114_calls (a : OA) (b : Int) (w : World) (R : RW) (hh : vc114 a b w R) : CR 114 #[pointer a, int .i64 b] w R :=
 cden (fn := Tryz.f114) (by kernel_rfl) (by kernel_rfl) (by kernel_rfl) (by kernel_rfl) (by kernel_rfl) hh
def vc115 (a : Int) (b c : OA) (w : World) (R : RW) : Prop :=
 ∀ d, d = w.drew →
 NilC b (fun f =>
 ∃ g, d.cell? f = some (pointer g) ∧
 NilC g (fun h =>
 ∃ i, d.cell? (h.add 1) = some (pointer i) ∧
 NilC c (fun j =>
 ∃ k l m, d.cell? j = some (slice k l m) ∧
 (CP 77 #[slice k l m] d (fun n o =>
 ∃ p q r, n = .returned (slice p q r) ∧
 (o.cell? (h.add 1) = some (pointer i) ∧ True) ∧
 (o.cell? f = some (pointer g) ∧ True) ∧
 ∀ s, s = o.alloc (.cells #[int .i64 a] 3) →
 (s.cell? (h.add 1) = some (pointer i) ∧ True) ∧
 (s.cell? f = some (pointer g) ∧ True) ∧
 ∃ t u x y, (Builtin.append_ #[28, 28] 28 #[slice p q r, slice (some (nb o)) 1 1]).run Tryz.prog s = .ok (slice t u x) y ∧
 (y.cell? (h.add 1) = some (pointer i) ∧ True) ∧
 (y.cell? f = some (pointer g) ∧ True) ∧
 CP 116 #[pointer i, slice t u x] y (fun z a1 =>
 ∃ b1 c1, z = .returned (tuple #[int .i64 b1, bool c1]) ∧
 R (bool c1) a1))) ∧
 (∀ d1, d1 = d.alloc (.cells #[int .i64 a] 3) →
 (d1.cell? j = some (slice k l m) ∧ True) ∧
 (d1.cell? (h.add 1) = some (pointer i) ∧ True) ∧
 (d1.cell? f = some (pointer g) ∧ True) ∧
 CP 77 #[slice k l m] d1 (fun e1 f1 =>
 ∃ g1 h1 i1, e1 = .returned (slice g1 h1 i1) ∧
 (f1.cell? (h.add 1) = some (pointer i) ∧ True) ∧
 (f1.cell? f = some (pointer g) ∧ True) ∧
 ∃ j1 k1 l1 m1, (Builtin.append_ #[28, 28] 28 #[slice g1 h1 i1, slice (some (nb d)) 1 1]).run Tryz.prog f1 = .ok (slice j1 k1 l1) m1 ∧
 (m1.cell? (h.add 1) = some (pointer i) ∧ True) ∧
 (m1.cell? f = some (pointer g) ∧ True) ∧
 CP 116 #[pointer i, slice j1 k1 l1] m1 (fun n1 o1 =>
 ∃ p1 q1, n1 = .returned (tuple #[int .i64 p1, bool q1]) ∧
 R (bool q1) o1))))))
theorem vc115_calls (a : Int) (b c : OA) (w : World) (R : RW) (hh : vc115 a b c w R) : CR 115 #[int .i64 a, pointer b, pointer c] w R :=
 cden (fn := Tryz.f115) (by kernel_rfl) (by kernel_rfl) (by kernel_rfl) (by kernel_rfl) (by kernel_rfl) hh
def vc134 (a : OA) (b : ByteArray) (w : World) (R : RW) : Prop :=
 ∀ c, c = w.drew →
 CondP (Option.isNone a)
 (R (tuple #[int .i64 0, bool false]) c)
 (CondP (b.toList == (⟨#[]⟩ : ByteArray).toList)
 (R (tuple #[int .i64 0, bool false]) c)
 ((0 : Int) ≤ 0 ∧ 0 < (b.size : Int) ∧
 NilC a (fun d =>
 (0 : Int) ≤ (btAt b 0) ∧ (btAt b 0) < (256 : Int) ∧
 ∃ f, c.cell? ((d.add 3).add ((btAt b 0 : Int).toNat * 1)) = some (bool f) ∧
 CondP (!f)
 (R (tuple #[int .i64 0, bool false]) c)
 (NilC a (fun g =>
 ∃ h, c.cell? (g.add 259) = some (int .i64 h) ∧
 ∃ i j, (Builtin.min_ #[3, 3] 3 #[int .i64 h, int .i64 (b.size : Int)]).run Tryz.prog c = .ok (int .i64 i) j ∧
 ∀ k : KW, (∀ (l : Int) (m : Bool) (n : Int) (o : World), (CondP (decide (l > 0))
 (∀ p, p = o.drew →
 NilC a (fun q =>
 ∃ r, p.cell? (q.add 2) = some (map r) ∧
 (0 : Int) ≤ (0 : Int) ∧ (0 : Int) ≤ l ∧ l ≤ (b.size : Int) ∧
 ∃ s t u, (Instr.lookup 203 (map r) (string (b.extract (0 : Int).toNat l.toNat)) true).run Tryz.prog p = .ok (tuple #[int .i64 s, bool t]) u ∧
 CondP t
 (CP 183 #[int .i64 s] u (fun x y =>
 ∃ z, x = .returned (int .i64 z) ∧
 R (tuple #[int .i64 z, bool true]) y))
 (Ar .i64 (l - 1) (fun a1 =>
 k [int .i64 a1, bool m, int .i64 n] u))))
 (R (tuple #[int .i64 0, bool false]) o)) → k [int .i64 l, bool m, int .i64 n] o) →
 k [int .i64 i, bool false, int .i64 0] j)))))
theorem vc134_calls (a : OA) (b : ByteArray) (w : World) (R : RW) (hh : vc134 a b w R) : CR 134 #[pointer a, string b] w R :=
 cden (fn := Tryz.f134) (by kernel_rfl) (by kernel_rfl) (by kernel_rfl) (by kernel_rfl) (by kernel_rfl) hh
def vc136 (a b : ByteArray) (w : World) (R : RW) : Prop :=
 CondP (decide (((a.size : Int) : Int) ≥ (b.size : Int)))
 ((0 : Int) ≤ (0 : Int) ∧ (0 : Int) ≤ ((b.size : Int) : Int) ∧ ((b.size : Int) : Int) ≤ (a.size : Int) ∧
 R (bool ((a.extract (0 : Int).toNat ((b.size : Int) : Int).toNat : ByteArray).toList == b.toList)) w)
 (R (bool false) w)
theorem vc136_calls (a b : ByteArray) (w : World) (R : RW) (hh : vc136 a b w R) : CR 136 #[string a, string b] w R :=
 cden (fn := Tryz.f136) (by kernel_rfl) (by kernel_rfl) (by kernel_rfl) (by kernel_rfl) (by kernel_rfl) hh
def vc148 (a : OA) (w : World) (R : RW) : Prop :=
 NilC a (fun b =>
 ∃ c, w.cell? (b.add 1) = some (int .i64 c) ∧
 Ar .i64 (c + 1) (fun d =>
 NilC a (fun f =>
 (int .i64 d).oneCell' = true ∧ (∃ u, w.cell? (f.add 1) = some u) ∧ w.frozen? (f.add 1) = false ∧
 ∀ g, g = (w.setCell (f.add 1) (int .i64 d)) →
 ∃ h i, (Instr.makeMap 256 none).run Tryz.prog g = .ok (map h) i ∧
 ∀ j, j = i.alloc (.cells #[map h, int .i64 (-1)] 258) →
 R (pointer (some (nb i))) j)))
theorem vc148_calls (a : OA) (w : World) (R : RW) (hh : vc148 a w R) : CR 148 #[pointer a] w R :=
 cden (fn := Tryz.f148) (by kernel_rfl) (by kernel_rfl) (by kernel_rfl) (by kernel_rfl) (by kernel_rfl) hh
def vc149 (a : OA) (b : ByteArray) (c : Int) (w : World) (R : RW) : Prop :=
 NilC a (fun d =>
 ∃ f, w.cell? (d.add 0) = some (pointer f) ∧
 ∀ g : KW, (∀ (h : Int) (i : OA) (j : World), (CondP (decide (h < (b.size : Int)))
 (∀ k, k = j.drew →
 NilC i (fun l =>
 ∃ m, k.cell? (l.add 0) = some (map m) ∧
 (0 : Int) ≤ h ∧ h < (b.size : Int) ∧
 ∃ n o p, (Instr.lookup 256 (map m) (int .u8 (btAt b h)) true).run Tryz.prog k = .ok (tuple #[pointer n, bool o]) p ∧
 ∀ q : KW, (∀ (r : OA) (s : World), (Ar .i64 (h + 1) (fun t =>
 g [int .i64 t, pointer r] s)) → q [pointer r] s) →
 CondP (!o)
 (CP 148 #[pointer a] p (fun x y =>
 ∃ z, x = .returned (pointer z) ∧
 ∀ a1, a1 = y.drew →
 NilC i (fun b1 =>
 ∃ c1, a1.cell? (b1.add 0) = some (map c1) ∧
 (0 : Int) ≤ h ∧ h < (b.size : Int) ∧
 ∃ d1, (Instr.mapUpdate 256 (map c1) (int .u8 (btAt b h)) (pointer z)).run Tryz.prog a1 = .ok () d1 ∧
 q [pointer z] d1)))
 (q [pointer n] p)))
 (NilC i (fun e1 =>
 (int .i64 c).oneCell' = true ∧ (∃ u, j.cell? (e1.add 1) = some u) ∧ j.frozen? (e1.add 1) = false ∧
 ∀ f1, f1 = (j.setCell (e1.add 1) (int .i64 c)) →
 R (tuple #[]) f1))) → g [int .i64 h, pointer i] j) →
 g [int .i64 0, pointer f] w)
theorem vc149_calls (a : OA) (b : ByteArray) (c : Int) (w : World) (R : RW) (hh : vc149 a b c w R) : CR 149 #[pointer a, string b, int .i64 c] w R :=
 cden (fn := Tryz.f149) (by kernel_rfl) (by kernel_rfl) (by kernel_rfl) (by kernel_rfl) (by kernel_rfl) hh
def vc157 (a : OA) (b : ByteArray) (w : World) (R : RW) : Prop :=
 CondP (Option.isNone a)
 (R (pointer none) w)
 (NilC a (fun c =>
 ∃ d, w.cell? (c.add 0) = some (pointer d) ∧
 ∀ f : KW, (∀ (g : Int) (h : OA) (i : World), (CondP (decide (g < (b.size : Int)))
 (CondP (!(Option.isNone h))
 (∀ j, j = i.drew →
 NilC h (fun k =>
 ∃ l, j.cell? (k.add 0) = some (map l) ∧
 (0 : Int) ≤ g ∧ g < (b.size : Int) ∧
 ∃ m n, (Instr.lookup 256 (map l) (int .u8 (btAt b g)) false).run Tryz.prog j = .ok (pointer m) n ∧
 Ar .i64 (g + 1) (fun o =>
 f [int .i64 o, pointer m] n)))
 (R (pointer h) i))
 (R (pointer h) i)) → f [int .i64 g, pointer h] i) →
 f [int .i64 0, pointer d] w))
theorem vc157_calls (a : OA) (b : ByteArray) (w : World) (R : RW) (hh : vc157 a b w R) : CR 157 #[pointer a, string b] w R :=
 cden (fn := Tryz.f157) (by kernel_rfl) (by kernel_rfl) (by kernel_rfl) (by kernel_rfl) (by kernel_rfl) hh
def vc158 (a : OA) (w : World) (R : RW) : Prop :=
 ∀ b, b = w.alloc (.cells #[slice none 0 0] 28) →
 ∀ c, c = b.alloc (.cells #[Value.nilFunc] 303) →
 (func (.func 210) #[] #[pointer (some (nb w)), pointer (some (nb b))]).oneCell' = true ∧ (∃ u, c.cell? (nb b) = some u) ∧ c.frozen? (nb b) = false ∧
 ∀ d, d = (c.setCell (nb b) (func (.func 210) #[] #[pointer (some (nb w)), pointer (some (nb b))])) →
 ∃ f, d.cell? (nb b) = some (f) ∧
 CallG ctx f [pointer a] d (fun g h =>
 g = .returned (tuple #[]) ∧
 ∃ i j k, h.cell? (nb w) = some (slice i j k) ∧
 CP 102 #[slice i j k] h (fun l m =>
 l = .returned (tuple #[]) ∧
 ∃ n o p, m.cell? (nb w) = some (slice n o p) ∧
 R (slice n o p) m))
theorem vc158_calls (a : OA) (w : World) (R : RW) (hh : vc158 a w R) : CR 158 #[pointer a] w R :=
 cden (fn := Tryz.f158) (by kernel_rfl) (by kernel_rfl) (by kernel_rfl) (by kernel_rfl) (by kernel_rfl) hh
def vc159 (a : Int) (b : OA) (w : World) (R : RW) : Prop :=
 NilC b (fun c =>
 ∃ d, w.cell? c = some (pointer d) ∧
 CP 139 #[pointer d, int .i64 a] w (fun f g =>
 ∃ h, f = .returned (bool h) ∧
 R (bool (!h)) g))
theorem vc159_calls (a : Int) (b : OA) (w : World) (R : RW) (hh : vc159 a b w R) : CR 159 #[int .i64 a, pointer b] w R :=
 cden (fn := Tryz.f159) (by kernel_rfl) (by kernel_rfl) (by kernel_rfl) (by kernel_rfl) (by kernel_rfl) hh
def vc161 (a : OA) (w : World) (R : RW) : Prop :=
 CondP (Option.isNone a)
 (R (int .i64 0) w)
 (NilC a (fun b =>
 ∃ c, w.cell? (b.add 3) = some (int .i64 c) ∧
 R (int .i64 c) w))
theorem vc161_calls (a : OA) (w : World) (R : RW) (hh : vc161 a w R) : CR 161 #[pointer a] w R :=
 cden (fn := Tryz.f161) (by kernel_rfl) (by kernel_rfl) (by kernel_rfl) (by kernel_rfl) (by kernel_rfl) hh
def vc162 (a : Int) (b : OA) (w : World) (R : RW) : Prop :=
 NilC b (fun c =>
 ∃ d, w.cell? c = some (pointer d) ∧
 NilC d (fun f =>
 ∃ g, w.cell? (f.add 1) = some (int .i64 g) ∧
 R (bool (a == g)) w))
theorem vc162_calls (a : Int) (b : OA) (w : World) (R : RW) (hh : vc162 a b w R) : CR 162 #[int .i64 a, pointer b] w R :=
 cden (fn := Tryz.f162) (by kernel_rfl) (by kernel_rfl) (by kernel_rfl) (by kernel_rfl) (by kernel_rfl) hh
def vc210 (a b c : OA) (w : World) (R : RW) : Prop :=
 ∀ d : KW, (∀ f : World, (NilC a (fun g =>
 ∃ h, f.cell? (g.add 0) = some (map h) ∧
 ∃ i j, (Instr.range 256 (map h)).run Tryz.prog f = .ok (pointer i) j ∧
 ∀ k : KW, (∀ l : World, ((∃ m n, (Instr.next (pointer i) false 0).run Tryz.prog l = .ok (tuple #[bool m]) n ∧
 CondP m
 (∃ o p q, (Instr.entry (pointer i)).run Tryz.prog n = .ok (tuple #[o, p]) q ∧
 NilC c (fun r =>
 ∃ s, q.cell? r = some (s) ∧
 CallG ctx s [p] q (fun t x =>
 t = .returned (tuple #[]) ∧
 k [] x)))
 (R (tuple #[]) n)) ∨
 (∃ y z a1 b1, (Instr.next (pointer i) false 0).run Tryz.prog l = .ok (tuple #[bool y, z, a1]) b1 ∧
 CondP y
 (∃ c1 d1 e1, (Instr.entry (pointer i)).run Tryz.prog b1 = .ok (tuple #[c1, d1]) e1 ∧
 NilC c (fun f1 =>
 ∃ g1, e1.cell? f1 = some (g1) ∧
 CallG ctx g1 [d1] e1 (fun h1 i1 =>
 h1 = .returned (tuple #[]) ∧
 k [] i1)))
 (R (tuple #[]) b1))) → k [] l) →
 k [] j)) → d [] f) →
 NilC a (fun j1 =>
 ∃ k1, w.cell? (j1.add 1) = some (int .i64 k1) ∧
 CondP (k1 != (-1))
 (∀ l1, l1 = w.drew →
 NilC b (fun m1 =>
 ∃ n1 o1 p1, l1.cell? m1 = some (slice n1 o1 p1) ∧
 NilC a (fun q1 =>
 ∃ r1, l1.cell? (q1.add 1) = some (int .i64 r1) ∧
 ∀ s1, s1 = l1.alloc (.cells #[int .i64 r1] 3) →
 (s1.cell? m1 = some (slice n1 o1 p1) ∧ True) ∧
 ∃ t1 u1 v1 x1, (Builtin.append_ #[28, 28] 28 #[slice n1 o1 p1, slice (some (nb l1)) 1 1]).run Tryz.prog s1 = .ok (slice t1 u1 v1) x1 ∧
 NilC b (fun y1 =>
 (slice t1 u1 v1).oneCell' = true ∧ (∃ u, x1.cell? y1 = some u) ∧ x1.frozen? y1 = false ∧
 ∀ z1, z1 = (x1.setCell y1 (slice t1 u1 v1)) →
 d [] z1))))
 (d [] w))
theorem vc210_calls (a b c : OA) (w : World) (R : RW) (hh : vc210 a b c w R) : CR 210 #[pointer a, pointer b, pointer c] w R :=
 cden (fn := Tryz.f210) (by kernel_rfl) (by kernel_rfl) (by kernel_rfl) (by kernel_rfl) (by kernel_rfl) hh
set_option linter.unusedSimpArgs false
set_option linter.unusedSectionVars false
open Go Go.RowKit
abbrev byteKey (b : UInt8) : Value := .int .u8 (b.toNat : Int)
theorem byte_keys {P : Program} {kt : TypeId} (hd : P.underlying kt = some (.int .u8)) : KeyTy P kt UInt8 byteKey := by
 refine keys_now hd (fun a b => ?_) (fun e k w => ?_)
 ·simp only [Instr.sameNow, byteKey]
  rw [if_pos trivial]
  congr 1
  rw [Bool.eq_iff_iff, decide_eq_true_eq, beq_iff_eq]
  refine ⟨fun h => UInt8.toNat_inj.1 (by omega), fun h => by rw [h]⟩
 ·unfold Instr.checkKey
  simp [run_underlying hd, Result.andThen]
def MapIt {κ : Type} (kv : κ → Value) (w : World) (r : Nat) (m : List (κ × Value)) : Prop := ∃ es clock, w.heap[r]? = some (.map es clock) ∧ es.toList.map (fun x => (x.key, x.val)) = m.map (fun p => (kv p.1, p.2)) ∧ (∀ x ∈ es.toList, x.born < clock) ∧ (es.toList.map (·.born)).Nodup
section
variable {P : Program} {kt et t : TypeId} {κ : Type} [DecidableEq κ] {kv : κ → Value}
theorem MapIt.is {w : World} {r : Nat} {m : List (κ × Value)} (h : MapIt kv w r m) : MapIs kv w r m := by
 obtain ⟨es, c, h1, h2, h3, _⟩ := h
 exact ⟨es, c, h1, h2, h3⟩
theorem MapIt.same {w w' : World} {r : Nat} {m : List (κ × Value)} (h : MapIt kv w r m) (hs : w'.heap[r]? = w.heap[r]?) : MapIt kv w' r m := by
 obtain ⟨es, c, h1, h2⟩ := h
 exact ⟨es, c, by rw [hs]; exact h1, h2⟩
theorem MapIt.lt {w : World} {r : Nat} {m : List (κ × Value)} (h : MapIt kv w r m) : r < w.heap.size := h.is.lt
theorem run_putIt (K : KeyTy P kt κ kv) (ht : P.underlying t = some (.map kt et)) {w : World} {r : Nat} {m : List (κ × Value)} (h : MapIt kv w r m) (k : κ) (v : Value) (hk : look k m = none) :
  ∃ w', (Instr.mapUpdate t (.map (some r)) (kv k) v).run P w = .ok () w' ∧ MapIt kv w' r (m ++ [(k, v)]) ∧ (∀ j, j ≠ r → w'.heap[j]? = w.heap[j]?) ∧ w'.heap.size = w.heap.size ∧ (∀ B w0, B ≤ r → Below B w0 w → Below B w0 w') := by
 obtain ⟨es, clock, hb, hm, hst, hnd⟩ := h
 have hlt := (Array.getElem?_eq_some_iff.1 hb).1
 have hl := lookIx_eq k m 0
 rw [hk] at hl
 have hx : lookIx k m 0 = none := by
  cases hx : lookIx k m 0 with
  | none => rfl
  | some q => rw [hx] at hl; cases hl
 refine ⟨{ w with heap := w.heap.setIfInBounds r (.map (es.push { key := kv k, val := v, born := clock }) (clock + 1)) }, ?_, ?_, ?_, by simp, ?_⟩
 ·unfold Instr.mapUpdate
  simp only [Sem.run_bind, run_underlying ht, Result.andThen, getObj_is hb, K.check, K.find k es.toList m w hm, hx]
  exact setObj_is _ hb
 ·refine ⟨es.push { key := kv k, val := v, born := clock }, clock + 1, by simp [hlt], by simp [hm], fun x hx => ?_, ?_⟩
  ·rw [Array.toList_push, List.mem_append, List.mem_singleton] at hx
   rcases hx with hx | rfl
   ·have := hst x hx
    omega
   ·exact Nat.lt_succ_self _
  ·rw [Array.toList_push, List.map_append, List.nodup_append]
   refine ⟨hnd, by simp, fun a ha b hb' e => ?_⟩
   obtain ⟨x, hx, rfl⟩ := List.mem_map.1 ha
   have := hst x hx
   simp at hb'
   omega
 ·intro j hj
  simp [Array.getElem?_setIfInBounds_ne (fun e => hj e.symm)]
 ·intro B w0 hB h0
  exact h0.trans ⟨rfl, rfl, rfl, by simp, fun j hj => by simp [Array.getElem?_setIfInBounds_ne (show r ≠ j by omega)]⟩
end
abbrev tTNode : TypeId := 258
abbrev tTrie : TypeId := 241
abbrev tTMap : TypeId := 256
abbrev tTPtr : TypeId := 239
def kidOf (t u : Bs) : Option UInt8 := if u.dropLast = t then u.getLast? else none
theorem kidOf_iff {t u : Bs} {b : UInt8} : kidOf t u = some b ↔ u = t ++ [b] := by
 unfold kidOf
 constructor
 ·intro h
  split at h
  ·rename_i hd
   obtain ⟨ys, rfl⟩ := List.getLast?_eq_some_iff.1 h
   rw [List.dropLast_concat] at hd
   rw [hd]
  ·cases h
 ·rintro rfl
  simp
def kidEntry (nd : Bs → Nat) (t u : Bs) : Option (UInt8 × Value) := (kidOf t u).map fun b => (b, .pointer (some ⟨nd u, 0, none⟩))
def kids (S : List Bs) (nd : Bs → Nat) (t : Bs) : List (UInt8 × Value) := S.filterMap (kidEntry nd t)
theorem look_kids (nd : Bs → Nat) (t : Bs) (b : UInt8) : ∀ S : List Bs, look b (kids S nd t) = if t ++ [b] ∈ S then some (.pointer (some ⟨nd (t ++ [b]), 0, none⟩)) else none
 | [] => rfl
 | u :: S => by
  have ih := look_kids nd t b S
  unfold kids at ih ⊢
  rw [List.filterMap_cons]
  cases h : kidOf t u with
  | none =>
   have hne : ¬ t ++ [b] = u := fun e => by
    rw [kidOf_iff.2 e.symm] at h
    cases h
   have e : kidEntry nd t u = none := by
    unfold kidEntry
    rw [h]
    rfl
   rw [e]
   dsimp only
   rw [ih]
   simp only [List.mem_cons, hne, false_or]
  | some c =>
   have hu := kidOf_iff.1 h
   have e : kidEntry nd t u = some (c, .pointer (some ⟨nd u, 0, none⟩)) := by
    unfold kidEntry
    rw [h]
    rfl
   rw [e]
   dsimp only
   rw [look]
   by_cases hb : b = c
   ·subst hb
    rw [if_pos rfl, if_pos (by rw [← hu]; exact List.mem_cons_self), ← hu]
   ·have hne : ¬ t ++ [b] = u := fun e => by
     rw [hu] at e
     have := List.append_cancel_left e
     simp at this
     exact hb this
    rw [if_neg hb, ih]
    simp only [List.mem_cons, hne, false_or]
theorem mem_kids {S : List Bs} {nd : Bs → Nat} {t : Bs} {p : UInt8 × Value} : p ∈ kids S nd t ↔ t ++ [p.1] ∈ S ∧ p.2 = .pointer (some ⟨nd (t ++ [p.1]), 0, none⟩) := by
 unfold kids
 rw [List.mem_filterMap]
 constructor
 ·rintro ⟨u, hu, h⟩
  unfold kidEntry at h
  cases hk : kidOf t u with
  | none => rw [hk] at h; cases h
  | some b =>
   rw [hk] at h
   cases h
   have := kidOf_iff.1 hk
   subst this
   exact ⟨hu, rfl⟩
 ·rintro ⟨h1, h2⟩
  refine ⟨_, h1, ?_⟩
  unfold kidEntry
  rw [kidOf_iff.2 rfl]
  rw [← h2]
  rfl
theorem filterMap_same {α β : Type} {f g : α → Option β} : ∀ {l : List α}, (∀ x ∈ l, f x = g x) → l.filterMap f = l.filterMap g
 | [], _ => rfl
 | x :: l, h => by rw [List.filterMap_cons, List.filterMap_cons, h x List.mem_cons_self, filterMap_same fun y hy => h y (List.mem_cons_of_mem _ hy)]
def upd {α : Type} (f : Bs → α) (s : Bs) (v : α) (u : Bs) : α := if u = s then v else f u
theorem upd_same {α : Type} (f : Bs → α) (s : Bs) (v : α) : upd f s v s = v := if_pos rfl
theorem upd_other {α : Type} {f : Bs → α} {s : Bs} {v : α} {u : Bs} (h : u ≠ s) : upd f s v u = f u := if_neg h
theorem kids_upd {S : List Bs} {nd : Bs → Nat} {s : Bs} (k : Nat) (hs : s ∉ S) (t : Bs) : kids S (upd nd s k) t = kids S nd t := by
 unfold kids
 refine filterMap_same fun u hu => ?_
 unfold kidEntry
 rw [upd_other (fun e => hs (by rw [← e]; exact hu))]
structure TrieAt (w : World) (n₀ : Nat) (S : List Bs) (nd mp : Bs → Nat) (idf : Bs → Int) : Prop where
 root : [] ∈ S
 nodup : S.Nodup
 closed : ∀ t b, t ++ [b] ∈ S → t ∈ S
 base : ∀ t ∈ S, n₀ ≤ nd t ∧ n₀ ≤ mp t
 node : ∀ t ∈ S, w.heap[nd t]? = some (.cells #[.map (some (mp t)), .int .i64 (idf t)] tTNode (0, 0))
 map : ∀ t ∈ S, MapIt byteKey w (mp t) (kids S nd t)
 ndInj : ∀ t ∈ S, ∀ u ∈ S, nd t = nd u → t = u
 mpInj : ∀ t ∈ S, ∀ u ∈ S, mp t = mp u → t = u
 off : ∀ t, t ∉ S → idf t = -1
theorem TrieAt.on {w w' : World} {n₀ : Nat} {S : List Bs} {nd mp : Bs → Nat} {idf : Bs → Int} (h : TrieAt w n₀ S nd mp idf) (hb : Below w.heap.size w w') : TrieAt w' n₀ S nd mp idf :=
 ⟨h.root, h.nodup, h.closed, h.base, fun t ht => held_on hb (h.node t ht), fun t ht => (h.map t ht).same (hb.block _ (h.map t ht).lt), h.ndInj, h.mpInj, h.off⟩
theorem TrieAt.ne {w : World} {n₀ : Nat} {S : List Bs} {nd mp : Bs → Nat} {idf : Bs → Int} (h : TrieAt w n₀ S nd mp idf) {t u : Bs} (ht : t ∈ S) (hu : u ∈ S) : nd t ≠ mp u := by
 intro e
 have h1 := h.node t ht
 obtain ⟨es, c, h2, _⟩ := h.map u hu
 rw [e, h2] at h1
 cases h1
theorem TrieAt.grow {w w4 : World} {n₀ : Nat} {S : List Bs} {nd mp : Bs → Nat} {idf : Bs → Int} (h : TrieAt w n₀ S nd mp idf) {t : Bs} {b : UInt8} (ht : t ∈ S) (hs : t ++ [b] ∉ S) {k1 k2 r : Nat} (hn : n₀ ≤ w.heap.size) (hk1 : w.heap.size ≤ k1) (hk2 : w.heap.size ≤ k2)
  (hnode : w4.heap[k2]? = some (.cells #[.map (some k1), .int .i64 (-1)] tTNode (0, 0))) (hmap : MapIt byteKey w4 k1 []) (hput : MapIt byteKey w4 (mp t) (kids S nd t ++ [(b, .pointer (some ⟨k2, 0, none⟩))]))
  (hsame : ∀ j, j < w.heap.size → j ≠ mp t → j ≠ r → w4.heap[j]? = w.heap[j]?) (hr : ∀ u ∈ S, nd u ≠ r ∧ mp u ≠ r) :
  TrieAt w4 n₀ (S ++ [t ++ [b]]) (upd nd (t ++ [b]) k2) (upd mp (t ++ [b]) k1) idf := by
 have old : ∀ {u : Bs}, u ∈ S → u ≠ t ++ [b] := fun hu e => hs (by rw [← e]; exact hu)
 have ndl : ∀ u ∈ S, nd u < w.heap.size := fun u hu => (Array.getElem?_eq_some_iff.1 (h.node u hu)).1
 have mpl : ∀ u ∈ S, mp u < w.heap.size := fun u hu => (h.map u hu).lt
 have two : ∀ {u : Bs}, u ∈ S ++ [t ++ [b]] → u ∈ S ∨ u = t ++ [b] := fun hu => by simpa using hu
 have kid : ∀ u, kids (S ++ [t ++ [b]]) (upd nd (t ++ [b]) k2) u = kids S nd u ++ if u = t then [(b, .pointer (some ⟨k2, 0, none⟩))] else [] := by
  intro u
  have e := kids_upd (S := S) (nd := nd) k2 hs u
  unfold kids at e ⊢
  rw [List.filterMap_append, e]
  congr 1
  rw [List.filterMap_cons, List.filterMap_nil]
  by_cases hu : u = t
  ·subst hu
   have e2 : kidEntry (upd nd (u ++ [b]) k2) u (u ++ [b]) = some (b, .pointer (some ⟨k2, 0, none⟩)) := by
    unfold kidEntry
    rw [kidOf_iff.2 rfl, upd_same]
    rfl
   rw [e2, if_pos rfl]
  ·have e2 : kidEntry (upd nd (t ++ [b]) k2) u (t ++ [b]) = none := by
    unfold kidEntry
    cases hk : kidOf u (t ++ [b]) with
    | none => rfl
    | some c =>
     have := kidOf_iff.1 hk
     have := (List.append_inj' this rfl).1
     exact absurd this.symm hu
   rw [e2, if_neg hu]
 refine ⟨List.mem_append_left _ h.root, by rw [List.nodup_append]; exact ⟨h.nodup, by simp, fun a ha b hb e => by rw [List.mem_singleton.1 hb] at e; exact old ha e⟩, ?_, ?_, ?_, ?_, ?_, ?_, ?_⟩
 ·intro u c hu
  rcases two hu with hu | hu
  ·exact List.mem_append_left _ (h.closed u c hu)
  ·have := (List.append_inj' hu rfl).1
   subst this
   exact List.mem_append_left _ ht
 ·intro u hu
  rcases two hu with hu | rfl
  ·rw [upd_other (old hu), upd_other (old hu)]
   exact h.base u hu
  ·rw [upd_same, upd_same]
   omega
 ·intro u hu
  rcases two hu with hu | rfl
  ·rw [upd_other (old hu), upd_other (old hu), hsame _ (ndl u hu) (h.ne hu ht) (hr u hu).1]
   exact h.node u hu
  ·rw [upd_same, upd_same, hnode, h.off _ hs]
 ·intro u hu
  rw [kid u]
  rcases two hu with hu | rfl
  ·rw [upd_other (old hu)]
   by_cases e : u = t
   ·subst e
    rw [if_pos rfl]
    exact hput
   ·rw [if_neg e, List.append_nil]
    exact (h.map u hu).same (hsame _ (mpl u hu) (fun e2 => e (h.mpInj u hu t ht e2)) (hr u hu).2)
  ·have e : t ++ [b] ≠ t := fun e => by
    have := congrArg List.length e
    simp at this
   rw [upd_same, if_neg e, List.append_nil]
   have : kids S nd (t ++ [b]) = [] := by
    refine List.eq_nil_iff_forall_not_mem.2 fun p hp => ?_
    exact hs (h.closed _ _ (mem_kids.1 hp).1)
   rw [this]
   exact hmap
 ·intro u hu x hx e
  rcases two hu with hu | rfl
  ·rcases two hx with hx | rfl
   ·rw [upd_other (old hu), upd_other (old hx)] at e
    exact h.ndInj u hu x hx e
   ·rw [upd_other (old hu), upd_same] at e
    have := ndl u hu
    omega
  ·rcases two hx with hx | rfl
   ·rw [upd_other (old hx), upd_same] at e
    have := ndl x hx
    omega
   ·rfl
 ·intro u hu x hx e
  rcases two hu with hu | rfl
  ·rcases two hx with hx | rfl
   ·rw [upd_other (old hu), upd_other (old hx)] at e
    exact h.mpInj u hu x hx e
   ·rw [upd_other (old hu), upd_same] at e
    have := mpl u hu
    omega
  ·rcases two hx with hx | rfl
   ·rw [upd_other (old hx), upd_same] at e
    have := mpl x hx
    omega
   ·rfl
 ·intro u hu
  exact h.off u fun hx => hu (List.mem_append_left _ hx)
theorem TrieAt.setId {w : World} {n₀ : Nat} {S : List Bs} {nd mp : Bs → Nat} {idf : Bs → Int} (h : TrieAt w n₀ S nd mp idf) {s : Bs} (hs : s ∈ S) (id : Int) : TrieAt (w.setCell ((⟨nd s, 0, none⟩ : Addr).add 1) (.int .i64 id)) n₀ S nd mp (upd idf s id) := by
 have other : ∀ j, j ≠ nd s → (w.setCell ((⟨nd s, 0, none⟩ : Addr).add 1) (.int .i64 id)).heap[j]? = w.heap[j]? := fun j hj => Below.heap_setCell _ _ _ j (fun e => hj e)
 refine ⟨h.root, h.nodup, h.closed, h.base, ?_, ?_, h.ndInj, h.mpInj, ?_⟩
 ·intro t ht
  by_cases e : t = s
  ·subst e
   rw [heap_put (h.node t ht), upd_same]
   rfl
  ·rw [other _ (fun e2 => e (h.ndInj t ht s hs e2)), upd_other e]
   exact h.node t ht
 ·intro t ht
  exact (h.map t ht).same (other _ (h.ne hs ht).symm)
 ·intro t ht
  rw [upd_other (fun e => ht (by rw [e]; exact hs))]
  exact h.off t ht
abbrev tByte : TypeId := 5
theorem undTMap : Tryz.prog.underlying tTMap = some (.map tByte tTPtr) := by kernel_rfl
theorem zeroTPtr : (Tryz.prog.info? tTPtr).map (·.zero) = some (some (.pointer none)) := by kernel_rfl
theorem tKeys : KeyTy Tryz.prog tByte UInt8 byteKey := byte_keys (by kernel_rfl)
def RootAt (w : World) (r : Nat) (root : Nat) (n : Int) : Prop := w.heap[r]? = some (.cells #[.pointer (some ⟨root, 0, none⟩), .int .i64 n] tTrie (0, 0))
theorem RootAt.off {w : World} {n₀ r : Nat} {S : List Bs} {nd mp : Bs → Nat} {idf : Bs → Int} {root : Nat} {n : Int} (hR : RootAt w r root n) (h : TrieAt w n₀ S nd mp idf) : ∀ u ∈ S, nd u ≠ r ∧ mp u ≠ r := by
 intro u hu
 constructor
 ·intro e
  have := h.node u hu
  rw [e] at this
  rw [show w.heap[r]? = _ from hR] at this
  cases this
 ·intro e
  obtain ⟨es, c, hm, _⟩ := h.map u hu
  rw [e] at hm
  rw [show w.heap[r]? = _ from hR] at hm
  cases hm
theorem trieNode_spec (w : World) (r : Nat) (p : Value) (n : Int) (h : w.heap[r]? = some (.cells #[p, .int .i64 n] tTrie (0, 0))) (hn : 0 ≤ n ∧ n ≤ 1000000000) :
  CP 148 #[.pointer (some ⟨r, 0, none⟩)] w fun e w' => e = .returned (.pointer (some ⟨w.heap.size + 1, 0, none⟩)) ∧ w'.heap[r]? = some (.cells #[p, .int .i64 (n + 1)] tTrie (0, 0)) ∧ w'.heap[w.heap.size]? = some (.map #[] 0) ∧ w'.heap[w.heap.size + 1]? = some (.cells #[.map (some w.heap.size), .int .i64 (-1)] tTNode (0, 0)) ∧ w'.heap.size = w.heap.size + 2 ∧ (∀ j, j < w.heap.size → j ≠ r → w'.heap[j]? = w.heap[j]?) ∧ Below r w w' := by
 refine calls_ret (vc148_calls (some ⟨r, 0, none⟩) w (fun u w' => u = .pointer (some ⟨w.heap.size + 1, 0, none⟩) ∧ w'.heap[r]? = some (.cells #[p, .int .i64 (n + 1)] tTrie (0, 0)) ∧ w'.heap[w.heap.size]? = some (.map #[] 0) ∧ w'.heap[w.heap.size + 1]? = some (.cells #[.map (some w.heap.size), .int .i64 (-1)] tTNode (0, 0)) ∧ w'.heap.size = w.heap.size + 2 ∧ (∀ j, j < w.heap.size → j ≠ r → w'.heap[j]? = w.heap[j]?) ∧ Below r w w') ?_) (by rintro v w' ⟨rfl, h⟩; exact ⟨rfl, h⟩)
 have hlt := (Array.getElem?_eq_some_iff.1 h).1
 refine NilC.mk _ rfl ⟨n, ptr_add0 _ _ h 1, Ar.ok64 (by omega) (by omega) (NilC.mk _ rfl ⟨rfl, ⟨_, ptr_add0 _ _ h 1⟩, frozen_put h, ?_⟩)⟩
 intro w1 hw1
 have h1 : w1.heap[r]? = some (.cells #[p, .int .i64 (n + 1)] tTrie (0, 0)) := by subst hw1; exact heap_put h _
 have z1 : w1.heap.size = w.heap.size := by subst hw1; rw [size_setCell]
 have s1 : ∀ j, j ≠ r → w1.heap[j]? = w.heap[j]? := by
  intro j hj
  subst hw1
  exact Below.heap_setCell _ _ _ j (fun e => hj e)
 have b1 : Below r w w1 := by subst hw1; exact below_put (Below.refl r w) (Nat.le_refl _) _
 refine ⟨_, _, run_make tTMap, ?_⟩
 intro w3 hw3
 obtain ⟨w2, hw2⟩ : ∃ w2, w1.alloc (.map #[] 0) = w2 := ⟨_, rfl⟩
 rw [hw2] at hw3 ⊢
 have b2 : Below w1.heap.size w1 w2 := by subst hw2; exact below_alloc _ _
 have z2 : w2.heap.size = w.heap.size + 1 := by subst hw2; rw [World.size_alloc, z1]
 have m2 : w2.heap[w.heap.size]? = some (.map #[] 0) := by subst hw2; rw [← z1]; exact alloc_new _ _
 have b3 : Below w2.heap.size w2 w3 := by subst hw3; exact below_alloc _ _
 have n3 : w3.heap[w.heap.size + 1]? = some (.cells #[.map (some w.heap.size), .int .i64 (-1)] tTNode (0, 0)) := by
  subst hw3
  rw [← z2, ← z1]
  exact alloc_new _ _
 have z3 : w3.heap.size = w.heap.size + 2 := by subst hw3; rw [World.size_alloc, z2]
 refine ⟨?_, held_on b3 (held_on b2 h1), ?_, n3, z3, ?_, ?_⟩
 ·unfold nb
  rw [z2]
 ·rw [b3.block _ (by omega)]
  exact m2
 ·intro j hj hne
  rw [b3.block _ (by omega), b2.block _ (by omega), s1 j hne]
 ·exact b1.trans ((b2.mono (by omega)).trans (b3.mono (by omega)))
theorem mapIt_of {w : World} {k : Nat} (h : w.heap[k]? = some (.map #[] 0)) : MapIt byteKey w k [] := ⟨#[], 0, h, rfl, by simp, by simp⟩
theorem take_one {s : Bs} {i : Nat} (hi : i < s.length) : s.take (i + 1) = s.take i ++ [s[i]] := by
 rw [List.take_add_one, List.getElem?_eq_getElem hi]
 rfl
set_option maxHeartbeats 1000000 in
theorem trieAdd_spec (w : World) (n₀ r : Nat) (S : List Bs) (nd mp : Bs → Nat) (idf : Bs → Int) (h : TrieAt w n₀ S nd mp idf) (n : Int) (hR : RootAt w r (nd []) n) (hr : n₀ ≤ r) (hn : 0 ≤ n ∧ n ≤ 100000000) (s : Bs) (hs : s.length ≤ 1000) (id : Int) :
  CP 149 #[.pointer (some ⟨r, 0, none⟩), .string (str s), .int .i64 id] w fun e w' => e = .returned (.tuple #[]) ∧ ∃ (S' : List Bs) (nd' mp' : Bs → Nat) (n' : Int), TrieAt w' n₀ S' nd' mp' (upd idf s id) ∧ RootAt w' r (nd' []) n' ∧ 0 ≤ n' ∧ n' ≤ n + s.length ∧ (∀ u, u ∈ S' ↔ u ∈ S ∨ u <+: s) ∧ Below n₀ w w' := by
 refine calls_ret (vc149_calls (some ⟨r, 0, none⟩) (str s) id w (fun u w' => u = .tuple #[] ∧ ∃ (S' : List Bs) (nd' mp' : Bs → Nat) (n' : Int), TrieAt w' n₀ S' nd' mp' (upd idf s id) ∧ RootAt w' r (nd' []) n' ∧ 0 ≤ n' ∧ n' ≤ n + s.length ∧ (∀ u, u ∈ S' ↔ u ∈ S ∨ u <+: s) ∧ Below n₀ w w') ?_) (by rintro v w' ⟨rfl, h⟩; exact ⟨rfl, h⟩)
 have hrl := (Array.getElem?_eq_some_iff.1 (show w.heap[r]? = _ from hR)).1
 refine NilC.mk _ rfl ⟨_, ptr_add0 _ _ hR 0, ?_⟩
 intro I hI
 have key := climb2 (α := World × List Bs × (Bs → Nat) × (Bs → Nat) × Int) s.length
  (fun i y => TrieAt y.1 n₀ y.2.1 y.2.2.1 y.2.2.2.1 idf ∧ RootAt y.1 r (y.2.2.1 []) y.2.2.2.2 ∧ 0 ≤ y.2.2.2.2 ∧ y.2.2.2.2 ≤ n + i ∧ (∀ u, u ∈ y.2.1 ↔ u ∈ S ∨ ∃ j, j ≤ i ∧ u = s.take j) ∧ Below n₀ w y.1)
  (fun i y => I [.int .i64 (i : Int), .pointer (some ⟨y.2.2.1 (s.take i), 0, none⟩)] y.1) (w, S, nd, mp, n) ?_ ?_ ?_
 ·exact key
 ·refine ⟨h, hR, hn.1, by show n ≤ n + _; omega, fun u => ⟨.inl, ?_⟩, Below.refl _ _⟩
  rintro (hu | ⟨j, hj, rfl⟩)
  ·exact hu
  ·rw [show j = 0 by omega]
   exact h.root
 ·rintro i hi ih ⟨q, S1, nd1, mp1, n1⟩ ⟨hT, hRq, hn1, hn2, hS, hB⟩
  change TrieAt q n₀ S1 nd1 mp1 idf at hT
  change RootAt q r (nd1 []) n1 at hRq
  change 0 ≤ n1 at hn1
  change n1 ≤ n + i at hn2
  change ∀ u, u ∈ S1 ↔ u ∈ S ∨ ∃ j, j ≤ i ∧ u = s.take j at hS
  change Below n₀ w q at hB
  have ht : s.take i ∈ S1 := (hS _).2 (.inr ⟨i, Nat.le_refl _, rfl⟩)
  refine hI _ _ q (CondP.yes (decide_eq_true (by rw [str_size]; omega)) ?_)
  intro w2 hw2
  have b2 : Below q.heap.size q w2 := by subst hw2; exact drew_on q
  have hqz : n₀ ≤ q.heap.size := Nat.le_trans (hT.base _ ht).2 (Nat.le_of_lt (hT.map _ ht).lt)
  have hB2 : Below n₀ w w2 := hB.trans (b2.mono hqz)
  have hT2 := hT.on b2
  have hR2 : RootAt w2 r (nd1 []) n1 := held_on b2 hRq
  have hbt : btAt (str s) (i : Int) = ((s[i]).toNat : Int) := btAt_str s i hi
  have hlk := run_look tKeys undTMap zeroTPtr (hT2.map _ ht).is s[i]
  rw [look_kids, ← take_one hi] at hlk
  refine NilC.mk _ rfl ⟨_, ptr_add0 _ _ (hT2.node _ ht) 0, by omega, by rw [str_size]; omega, ?_⟩
  rw [hbt]
  by_cases hin : s.take (i + 1) ∈ S1
  ·rw [if_pos hin] at hlk
   refine ⟨_, _, w2, hlk, ?_⟩
   intro J hJ
   refine CondP.no rfl (hJ _ _ (Ar.nat (i + 1) rfl (by omega) (ih (w2, S1, nd1, mp1, n1) ⟨hT2, hR2, hn1, by show n1 ≤ n + ((i + 1 : Nat) : Int); omega, ?_, hB2⟩)))
   intro u
   show u ∈ S1 ↔ _
   rw [hS]
   refine ⟨?_, ?_⟩
   ·rintro (hu | ⟨j, hj, rfl⟩)
    ·exact .inl hu
    ·exact .inr ⟨j, by omega, rfl⟩
   ·rintro (hu | ⟨j, hj, rfl⟩)
    ·exact .inl hu
    ·by_cases e : j = i + 1
     ·subst e
      exact (hS _).1 hin
     ·exact .inr ⟨j, by omega, rfl⟩
  ·rw [if_neg hin] at hlk
   refine ⟨_, _, w2, hlk, ?_⟩
   intro J hJ
   refine CondP.yes rfl ((trieNode_spec w2 r _ n1 hR2 ⟨hn1, by omega⟩).mono ?_)
   rintro e w5 ⟨rfl, r5, m5, n5, z5, s5, b5⟩
   refine ⟨_, rfl, ?_⟩
   intro w6 hw6
   have b6 : Below w5.heap.size w5 w6 := by subst hw6; exact drew_on w5
   have off := RootAt.off hR2 hT2
   have hnode : w6.heap[nd1 (s.take i)]? = some (.cells #[.map (some (mp1 (s.take i))), .int .i64 (idf (s.take i))] tTNode (0, 0)) := by
    have hl := (Array.getElem?_eq_some_iff.1 (hT2.node _ ht)).1
    rw [b6.block _ (by omega), s5 _ hl (off _ ht).1]
    exact hT2.node _ ht
   have hmap : MapIt byteKey w6 (mp1 (s.take i)) (kids S1 nd1 (s.take i)) := by
    have hl := (hT2.map _ ht).lt
    exact (hT2.map _ ht).same (by rw [b6.block _ (by omega), s5 _ hl (off _ ht).2])
   obtain ⟨w7, hp7, m7, s7, z7, k7⟩ := run_putIt tKeys undTMap hmap s[i] (.pointer (some ⟨w2.heap.size + 1, 0, none⟩)) (by rw [look_kids, ← take_one hi, if_neg hin])
   refine NilC.mk _ rfl ⟨_, ptr_add0 _ _ hnode 0, by omega, by rw [str_size]; omega, w7, hp7, ?_⟩
   have hmz := (hT2.map _ ht).lt
   have mb : n₀ ≤ mp1 (s.take i) := (hT2.base _ ht).2
   have z6 : w6.heap.size = w2.heap.size + 2 := by subst hw6; exact z5
   have hB7 : Below n₀ w w7 := k7 n₀ w mb ((hB2.trans (b5.mono hr)).trans (b6.mono (by omega)))
   have same7 : ∀ j, j < w2.heap.size → j ≠ mp1 (s.take i) → j ≠ r → w7.heap[j]? = w2.heap[j]? := by
    intro j hj h1 h2
    rw [s7 j h1, b6.block _ (by omega), s5 j hj h2]
   have hT7 : TrieAt w7 n₀ (S1 ++ [s.take (i + 1)]) (upd nd1 (s.take (i + 1)) (w2.heap.size + 1)) (upd mp1 (s.take (i + 1)) w2.heap.size) idf := by
    rw [take_one hi] at hin ⊢
    refine hT2.grow ht hin (r := r) (by omega) (Nat.le_refl _) (by omega) ?_ ?_ m7 same7 off
    ·rw [s7 _ (by omega), b6.block _ (by omega)]
     exact n5
    ·refine mapIt_of ?_
     rw [s7 _ (by omega), b6.block _ (by omega)]
     exact m5
   have hR7 : RootAt w7 r (nd1 []) (n1 + 1) := by
    show w7.heap[r]? = _
    have hrl2 := (Array.getElem?_eq_some_iff.1 (show w2.heap[r]? = _ from hR2)).1
    rw [s7 _ (fun e => (off _ ht).2 e.symm), b6.block _ (by omega)]
    exact r5
   have hne : ([] : Bs) ≠ s.take (i + 1) := fun e => by
    have := congrArg List.length e
    rw [List.length_take] at this
    simp at this
    omega
   have := ih (w7, S1 ++ [s.take (i + 1)], upd nd1 (s.take (i + 1)) (w2.heap.size + 1), upd mp1 (s.take (i + 1)) w2.heap.size, n1 + 1) ⟨hT7, by show RootAt w7 r (upd nd1 (s.take (i + 1)) (w2.heap.size + 1) []) (n1 + 1); rw [upd_other hne]; exact hR7, by show 0 ≤ n1 + 1; omega, by show n1 + 1 ≤ n + ((i + 1 : Nat) : Int); omega, ?_, hB7⟩
   ·dsimp only at this
    rw [upd_same] at this
    exact hJ _ _ (Ar.nat (i + 1) rfl (by omega) this)
   ·intro u
    show u ∈ S1 ++ [s.take (i + 1)] ↔ _
    rw [List.mem_append, List.mem_singleton, hS]
    refine ⟨?_, ?_⟩
    ·rintro ((hu | ⟨j, hj, rfl⟩) | rfl)
     ·exact .inl hu
     ·exact .inr ⟨j, by omega, rfl⟩
     ·exact .inr ⟨i + 1, Nat.le_refl _, rfl⟩
    ·rintro (hu | ⟨j, hj, rfl⟩)
     ·exact .inl (.inl hu)
     ·by_cases e : j = i + 1
      ·subst e; exact .inr rfl
      ·exact .inl (.inr ⟨j, by omega, rfl⟩)
 ·rintro ⟨q, S1, nd1, mp1, n1⟩ ⟨hT, hRq, hn1, hn2, hS, hB⟩
  change TrieAt q n₀ S1 nd1 mp1 idf at hT
  change RootAt q r (nd1 []) n1 at hRq
  change ∀ u, u ∈ S1 ↔ u ∈ S ∨ ∃ j, j ≤ s.length ∧ u = s.take j at hS
  change Below n₀ w q at hB
  have ht : s ∈ S1 := (hS _).2 (.inr ⟨s.length, Nat.le_refl _, by rw [List.take_length]⟩)
  refine hI _ _ q (CondP.no (decide_eq_false (by rw [str_size]; omega)) ?_)
  show NilC (some ⟨nd1 (s.take s.length), 0, none⟩) _
  rw [List.take_length]
  refine NilC.mk _ rfl ⟨rfl, ⟨_, ptr_add0 _ _ (hT.node _ ht) 1⟩, frozen_put (hT.node _ ht), ?_⟩
  intro w8 hw8
  subst hw8
  have hne := (RootAt.off hRq hT s ht).1
  refine ⟨rfl, S1, nd1, mp1, n1, hT.setId ht id, ?_, hn1, hn2, ?_, below_put hB (hT.base _ ht).1 _⟩
  ·show (q.setCell _ _).heap[r]? = _
   rw [Below.heap_setCell _ _ _ r (fun e => hne e.symm)]
   exact hRq
  ·intro u
   rw [hS]
   refine ⟨?_, ?_⟩
   ·rintro (hu | ⟨j, _, rfl⟩)
    ·exact .inl hu
    ·exact .inr (List.take_prefix j s)
   ·rintro (hu | hu)
    ·exact .inl hu
    ·exact .inr ⟨u.length, hu.length_le, (List.prefix_iff_eq_take.1 hu)⟩
theorem TrieAt.pre {w : World} {n₀ : Nat} {S : List Bs} {nd mp : Bs → Nat} {idf : Bs → Int} (h : TrieAt w n₀ S nd mp idf) {u t : Bs} (hu : u ∈ S) (ht : t <+: u) : t ∈ S := by
 obtain ⟨x, rfl⟩ := ht
 obtain ⟨n, hn⟩ : ∃ n, x.length = n := ⟨_, rfl⟩
 induction n generalizing x with
 | zero =>
  rw [List.eq_nil_of_length_eq_zero hn, List.append_nil] at hu
  exact hu
 | succ n ih =>
  have hx : x ≠ [] := fun e => by rw [e] at hn; cases hn
  have e : t ++ x = (t ++ x.dropLast) ++ [x.getLast hx] := by rw [List.append_assoc, List.dropLast_concat_getLast]
  rw [e] at hu
  exact ih x.dropLast (h.closed _ _ hu) (by rw [List.length_dropLast]; omega)
theorem trieFind_spec (w : World) (n₀ r : Nat) (S : List Bs) (nd mp : Bs → Nat) (idf : Bs → Int) (h : TrieAt w n₀ S nd mp idf) (n : Int) (hR : RootAt w r (nd []) n) (s : Bs) (hs : s.length ≤ 1000000000) :
  CP 157 #[.pointer (some ⟨r, 0, none⟩), .string (str s)] w fun e w' => e = .returned (.pointer (if s ∈ S then some ⟨nd s, 0, none⟩ else none)) ∧ Below w.heap.size w w' := by
 refine calls_ret (vc157_calls (some ⟨r, 0, none⟩) (str s) w (fun u w' => u = .pointer (if s ∈ S then some ⟨nd s, 0, none⟩ else none) ∧ Below w.heap.size w w') ?_) (by rintro v w' ⟨rfl, h⟩; exact ⟨rfl, h⟩)
 refine CondP.no rfl (NilC.mk _ rfl ⟨_, ptr_add0 _ _ hR 0, ?_⟩)
 intro I hI
 have key := climb2 (α := World) s.length (fun i q => Below w.heap.size w q) (fun i q => I [.int .i64 (i : Int), .pointer (if s.take i ∈ S then some ⟨nd (s.take i), 0, none⟩ else none)] q) w (Below.refl _ _) ?_ ?_
 ·rw [List.take_zero, if_pos h.root] at key
  exact key
 ·intro i hi ih q hq
  by_cases hin : s.take i ∈ S
  ·rw [if_pos hin]
   refine hI _ _ q (CondP.yes (decide_eq_true (by rw [str_size]; omega)) (CondP.yes rfl ?_))
   intro w2 hw2
   have b2 := below_then hq (show Below q.heap.size q w2 by subst hw2; exact drew_on q)
   have hT2 := h.on b2
   have hbt : btAt (str s) (i : Int) = ((s[i]).toNat : Int) := btAt_str s i hi
   have hlk := run_look1 tKeys undTMap zeroTPtr (hT2.map _ hin).is s[i]
   rw [look_kids, ← take_one hi] at hlk
   refine NilC.mk _ rfl ⟨_, ptr_add0 _ _ (hT2.node _ hin) 0, by omega, by rw [str_size]; omega, ?_⟩
   rw [hbt]
   have ih2 := ih w2 b2
   by_cases hin2 : s.take (i + 1) ∈ S
   ·rw [if_pos hin2] at hlk ih2
    exact ⟨_, _, hlk, Ar.nat (i + 1) rfl (by omega) ih2⟩
   ·rw [if_neg hin2] at hlk ih2
    exact ⟨_, _, hlk, Ar.nat (i + 1) rfl (by omega) ih2⟩
  ·rw [if_neg hin]
   refine hI _ _ q (CondP.yes (decide_eq_true (by rw [str_size]; omega)) (CondP.no rfl ⟨?_, hq⟩))
   rw [if_neg fun hx => hin (h.pre hx (List.take_prefix i s))]
 ·intro q hq
  show I [.int .i64 _, .pointer (if s.take s.length ∈ S then some ⟨nd (s.take s.length), 0, none⟩ else none)] q
  rw [List.take_length]
  refine hI _ _ q (CondP.no (decide_eq_false (by rw [str_size]; omega)) ⟨rfl, hq⟩)
def idOf (T : List Ent) (u : Bs) : Int := idx (fun e : Ent => decide (e.1 = u)) T
theorem idx_snoc {α : Type} (p : α → Bool) (l : List α) (x : α) : idx p (l ++ [x]) = if idx p l = -1 then (if p x = true then (l.length : Int) else -1) else idx p l := by
 unfold idx
 rw [List.findIdx?_append]
 cases h : l.findIdx? p with
 | some i =>
  have : ¬ ((i : Nat) : Int) = -1 := by omega
  simp [this]
 | none =>
  simp only [Option.none_or]
  rw [List.findIdx?_cons]
  by_cases hp : p x = true
  ·simp [hp]
  ·simp [hp]
theorem idOf_step {T : List Ent} (hn : (T.map (·.1)).Nodup) {i : Nat} (hi : i < T.length) : idOf (T.take (i + 1)) = upd (idOf (T.take i)) (T[i]).1 (i : Int) := by
 funext u
 have e : T.take (i + 1) = T.take i ++ [T[i]] := by rw [List.take_add_one, List.getElem?_eq_getElem hi]; rfl
 have hl : (T.take i).length = i := by rw [List.length_take]; omega
 unfold idOf
 rw [e, idx_snoc, hl]
 by_cases hu : u = (T[i]).1
 ·subst hu
  rw [upd_same]
  have : idx (fun e : Ent => decide (e.1 = (T[i]).1)) (T.take i) = -1 := by
   refine idx_none fun j hj => ?_
   rw [hl] at hj
   rw [decide_eq_false]
   intro e
   rw [List.getElem_take] at e
   have := (List.getElem?_inj (i := j) (j := i) (by rw [List.length_map]; omega) hn).1 (by rw [List.getElem?_map, List.getElem?_map, List.getElem?_eq_getElem (show j < T.length by omega), List.getElem?_eq_getElem hi]; simp [e])
   omega
  rw [if_pos this, if_pos (by simp)]
 ·rw [upd_other hu]
  by_cases h1 : idx (fun e : Ent => decide (e.1 = u)) (T.take i) = -1
  ·rw [if_pos h1, h1, if_neg (by simp; exact fun e => hu e.symm)]
  ·rw [if_neg h1]
set_option maxHeartbeats 1000000 in
theorem trieNew_spec (w : World) (tp : Nat) (T : List Ent) (hT : TabIs w tp T) (hok : TOk T) :
  CP 86 #[.pointer (some ⟨tp, 0, none⟩)] w fun e w' => ∃ (r : Nat) (S : List Bs) (nd mp : Bs → Nat) (n : Int), e = .returned (.pointer (some ⟨r, 0, none⟩)) ∧ w.heap.size ≤ r ∧ TrieAt w' w.heap.size S nd mp (idOf T) ∧ RootAt w' r (nd []) n ∧ (∀ u, u ∈ S ↔ u = [] ∨ ∃ e ∈ T, u <+: e.1) ∧ Below w.heap.size w w' := by
 refine calls_ret (vc86_calls (some ⟨tp, 0, none⟩) w (fun u w' => ∃ (r : Nat) (S : List Bs) (nd mp : Bs → Nat) (n : Int), u = .pointer (some ⟨r, 0, none⟩) ∧ w.heap.size ≤ r ∧ TrieAt w' w.heap.size S nd mp (idOf T) ∧ RootAt w' r (nd []) n ∧ (∀ u, u ∈ S ↔ u = [] ∨ ∃ e ∈ T, u <+: e.1) ∧ Below w.heap.size w w') ?_) (by rintro v w' ⟨r, S, nd, mp, n, rfl, h⟩; exact ⟨r, S, nd, mp, n, rfl, h⟩)
 refine CondP.no rfl ?_
 intro w1 hw1
 have b1 : Below w.heap.size w w1 := by subst hw1; exact below_alloc _ _
 have l1 : w1.heap[w.heap.size]? = some (.cells #[.pointer none, .int .i64 0] tTrie (0, 0)) := by subst hw1; exact alloc_new _ _
 have z1 : w1.heap.size = w.heap.size + 1 := by subst hw1; rw [World.size_alloc]
 refine (trieNode_spec w1 w.heap.size _ 0 l1 (by omega)).mono ?_
 rintro e w2 ⟨rfl, r2, m2, n2, z2, s2, b2⟩
 have hb2 := b1.trans b2
 refine ⟨_, rfl, rfl, ⟨_, ptr_add0 _ _ r2 0⟩, frozen_put r2, ?_⟩
 intro w3 hw3
 have r3 : RootAt w3 w.heap.size (w1.heap.size + 1) 1 := by subst hw3; exact heap_put r2 _
 have s3 : ∀ j, j ≠ w.heap.size → w3.heap[j]? = w2.heap[j]? := by
  intro j hj
  subst hw3
  exact Below.heap_setCell _ _ _ j (fun e => hj e)
 have hb3 : Below w.heap.size w w3 := by subst hw3; exact below_put hb2 (Nat.le_refl _) _
 have hT3 : TrieAt w3 w.heap.size [[]] (fun _ => w1.heap.size + 1) (fun _ => w1.heap.size) (idOf []) := by
  have one : ∀ {u : Bs}, u ∈ [([] : Bs)] → u = [] := fun h => by simpa using h
  refine ⟨by simp, by simp, fun t b h => ?_, fun t _ => by omega, fun t _ => ?_, fun t ht => ?_, fun t ht u hu _ => by rw [one ht, one hu], fun t ht u hu _ => by rw [one ht, one hu], fun t _ => rfl⟩
  ·have := one h
   simp at this
  ·rw [s3 _ (by omega), n2]
   rfl
  ·obtain rfl := one ht
   have : kids [[]] (fun _ => w1.heap.size + 1) [] = [] := by
    refine List.eq_nil_iff_forall_not_mem.2 fun p hp => ?_
    have := (mem_kids.1 hp).1
    simp at this
   rw [this]
   refine mapIt_of ?_
   rw [s3 _ (by omega)]
   exact m2
 refine (tokLen_spec w3 tp T (hT.on hb3)).mono ?_
 rintro e w4 ⟨rfl, hw⟩
 subst w4
 refine ⟨_, rfl, ?_⟩
 intro I hI
 have hmost := hok.most
 have key := climb2 (α := World × List Bs × (Bs → Nat) × (Bs → Nat) × Int) T.length
  (fun i y => TrieAt y.1 w.heap.size y.2.1 y.2.2.1 y.2.2.2.1 (idOf (T.take i)) ∧ RootAt y.1 w.heap.size (y.2.2.1 []) y.2.2.2.2 ∧ 0 ≤ y.2.2.2.2 ∧ y.2.2.2.2 ≤ 1 + 64 * i ∧ (∀ u, u ∈ y.2.1 ↔ u = [] ∨ ∃ e ∈ T.take i, u <+: e.1) ∧ Below w.heap.size w y.1)
  (fun i y => I [.int .i64 (i : Int)] y.1) (w3, [[]], fun _ => w1.heap.size + 1, fun _ => w1.heap.size, 1) ⟨hT3, r3, by show (0 : Int) ≤ 1; omega, by show (1 : Int) ≤ 1 + 64 * _; omega, fun u => by simp, hb3⟩ ?_ ?_
 ·exact key
 ·rintro i hi ih ⟨q, S1, nd1, mp1, n1⟩ ⟨hTq, hRq, hn1, hn2, hS, hB⟩
  change TrieAt q w.heap.size S1 nd1 mp1 (idOf (T.take i)) at hTq
  change RootAt q w.heap.size (nd1 []) n1 at hRq
  change 0 ≤ n1 at hn1
  change n1 ≤ 1 + 64 * i at hn2
  change ∀ u, u ∈ S1 ↔ u = [] ∨ ∃ e ∈ T.take i, u <+: e.1 at hS
  change Below w.heap.size w q at hB
  have htab : inTab T (i : Int) := ⟨by omega, by omega⟩
  obtain ⟨e0, he0, hb0⟩ := bytesOf_at htab
  have he1 : T[i] = e0 := by
   rw [show ((i : Nat) : Int).toNat = i by omega, List.getElem?_eq_getElem hi] at he0
   exact Option.some.inj he0
  refine hI _ q (CondP.yes (decide_eq_true (by omega)) ?_)
  refine (tokBytes_spec q tp T (hT.on hB) (i : Int)).mono ?_
  rintro e w6 ⟨rfl, hw⟩
  subst w6
  refine ⟨_, _, rfl, ?_⟩
  rw [if_pos htab, hb0, ← he1]
  have hsh := hok.short _ (List.getElem_mem hi)
  refine (trieAdd_spec q w.heap.size w.heap.size S1 nd1 mp1 _ hTq n1 hRq (Nat.le_refl _) ⟨hn1, by omega⟩ (T[i]).1 (by omega) (i : Int)).mono ?_
  rintro e w7 ⟨rfl, S2, nd2, mp2, n2', hT2, hR2, hn3, hn4, hS2, b7⟩
  rw [← idOf_step hok.nodup hi] at hT2
  refine ⟨rfl, Ar.nat (i + 1) rfl (by omega) (ih (w7, S2, nd2, mp2, n2') ⟨hT2, hR2, hn3, ?_, ?_, hB.trans b7⟩)⟩
  ·show n2' ≤ 1 + 64 * ((i + 1 : Nat) : Int)
   omega
  ·intro u
   show u ∈ S2 ↔ _
   have e : T.take (i + 1) = T.take i ++ [T[i]] := by rw [List.take_add_one, List.getElem?_eq_getElem hi]; rfl
   rw [hS2, hS, e]
   simp only [List.mem_append, List.mem_singleton]
   constructor
   ·rintro ((h | ⟨x, hx, hp⟩) | h)
    ·exact .inl h
    ·exact .inr ⟨x, .inl hx, hp⟩
    ·exact .inr ⟨_, .inr rfl, h⟩
   ·rintro (h | ⟨x, hx | rfl, hp⟩)
    ·exact .inl (.inl h)
    ·exact .inl (.inr ⟨x, hx, hp⟩)
    ·exact .inr hp
 ·rintro ⟨q, S1, nd1, mp1, n1⟩ ⟨hTq, hRq, hn1, hn2, hS, hB⟩
  change TrieAt q w.heap.size S1 nd1 mp1 (idOf (T.take T.length)) at hTq
  change RootAt q w.heap.size (nd1 []) n1 at hRq
  change ∀ u, u ∈ S1 ↔ u = [] ∨ ∃ e ∈ T.take T.length, u <+: e.1 at hS
  rw [List.take_length] at hTq hS
  exact hI _ q (CondP.no (decide_eq_false (by omega)) ⟨_, S1, nd1, mp1, n1, rfl, Nat.le_refl _, hTq, hRq, hS, hB⟩)
abbrev tGFun : TypeId := 303
theorem kids_nodup (nd : Bs → Nat) (t : Bs) : ∀ {S : List Bs}, S.Nodup → ((kids S nd t).map (·.1)).Nodup
 | [], _ => List.nodup_nil
 | u :: S, h => by
  rw [List.nodup_cons] at h
  have ih := kids_nodup nd t h.2
  unfold kids at ih ⊢
  rw [List.filterMap_cons]
  cases hk : kidOf t u with
  | none =>
   have e : kidEntry nd t u = none := by
    unfold kidEntry
    rw [hk]
    rfl
   rw [e]
   exact ih
  | some b =>
   have e : kidEntry nd t u = some (b, .pointer (some ⟨nd u, 0, none⟩)) := by
    unfold kidEntry
    rw [hk]
    rfl
   rw [e]
   dsimp only
   rw [List.map_cons, List.nodup_cons]
   refine ⟨fun hb => ?_, ih⟩
   obtain ⟨p, hp, hpb⟩ := List.mem_map.1 hb
   have := (mem_kids (S := S) (nd := nd) (t := t) (p := p)).1 hp
   rw [hpb] at this
   have hu := kidOf_iff.1 hk
   exact h.1 (by rw [hu]; exact this.1)
def Bel (S : List Bs) (idf : Bs → Int) (t : Bs) (x : Int) : Prop := x ≠ -1 ∧ ∃ u ∈ S, t <+: u ∧ idf u = x
theorem Bel.up {S : List Bs} {idf : Bs → Int} {t u : Bs} {x : Int} (h : Bel S idf u x) (htu : t <+: u) : Bel S idf t x := by
 obtain ⟨h1, y, hy, hp, he⟩ := h
 exact ⟨h1, y, hy, htu.trans hp, he⟩
theorem bel_iff {w : World} {n₀ : Nat} {S : List Bs} {nd mp : Bs → Nat} {idf : Bs → Int} (h : TrieAt w n₀ S nd mp idf) {t : Bs} (ht : t ∈ S) (x : Int) : Bel S idf t x ↔ (x ≠ -1 ∧ idf t = x) ∨ ∃ b, t ++ [b] ∈ S ∧ Bel S idf (t ++ [b]) x := by
 constructor
 ·rintro ⟨h1, u, hu, ⟨y, rfl⟩, he⟩
  cases y with
  | nil => rw [List.append_nil] at he; exact .inl ⟨h1, he⟩
  | cons b y =>
   have hp : t ++ [b] <+: t ++ b :: y := ⟨y, by simp⟩
   exact .inr ⟨b, h.pre hu hp, h1, _, hu, hp, he⟩
 ·rintro (⟨h1, h2⟩ | ⟨b, _, hb⟩)
  ·exact ⟨h1, t, ht, List.prefix_rfl, h2⟩
  ·exact hb.up ⟨[b], rfl⟩
structure GaAt (w0 w : World) (xs : List Int) : Prop where
 le : Below w0.heap.size w0 w
 gb : w.heap[w0.heap.size + 1]? = some (.cells #[.func (.func 210) #[] #[.pointer (some ⟨w0.heap.size, 0, none⟩), .pointer (some ⟨w0.heap.size + 1, 0, none⟩)]] tGFun (0, 0))
 out : ∃ o : Sl, Boxed w w0.heap.size tInts o.v ∧ w.ownsRow w0.heap.size tInt 1 o.v o.n (xs.flatMap encInt)
theorem GaAt.on {w0 w w' : World} {xs : List Int} (h : GaAt w0 w xs) (hb : Below w.heap.size w w') : GaAt w0 w' xs := by
 obtain ⟨o, h1, h2⟩ := h.out
 exact ⟨below_then h.le hb, held_on hb h.gb, o, held_on hb h1, own_on h2 hb⟩
theorem few_of {xs : List Int} {N : Nat} (hn : xs.Nodup) (hr : ∀ x ∈ xs, 0 ≤ x ∧ x < N) : xs.length ≤ N := by
 have := List.Nodup.length_le_of_subset (l₂ := (List.range N).map fun (i : Nat) => (i : Int)) hn (fun x hx => by
  obtain ⟨h1, h2⟩ := hr x hx
  exact List.mem_map.2 ⟨x.toNat, List.mem_range.2 (by omega), by omega⟩)
 rwa [List.length_map, List.length_range] at this
theorem GaAt.push {w0 w1 w2 : World} {xs : List Int} {o : Sl} (h : GaAt w0 w1 xs) (hb : Boxed w1 w0.heap.size tInts o.v) (ho : w1.ownsRow w0.heap.size tInt 1 o.v o.n (xs.flatMap encInt)) (hl : xs.length ≤ 1000000) (x : Int) (hw : w2 = w1.alloc (.cells #[.int .i64 x] tInt)) :
  ∃ la ln lc w3, (Builtin.append_ #[tInts, tInts] tInts #[.slice o.a o.n o.c, .slice (some (nb w1)) 1 1]).run Tryz.prog w2 = .ok (.slice la ln lc) w3 ∧ Boxed w3 w0.heap.size tInts o.v ∧ GaAt w0 (w3.setCell ⟨w0.heap.size, 0, none⟩ (.slice la ln lc)) (xs ++ [x]) ∧ KeepsOthers w1 (w3.setCell ⟨w0.heap.size, 0, none⟩ (.slice la ln lc)) := by
 have hon : o.n = xs.length := (Rw.of_own ho (fun _ => rfl) (by decide)).2
 have hz := h.le.size
 obtain ⟨l, w3, hln, hrun, ho3, hbel, hkeep⟩ := elInt.push ho x hw rfl hz (by omega) (by decide)
 have hne := hb.not_row (by decide) ho
 have h3 := hbel w1 (Below.refl _ _)
 have hb3 : Boxed w3 w0.heap.size tInts o.v := by
  show w3.heap[_]? = _
  rw [hkeep _ hb.lt (fun e => hne e.symm)]
  exact hb
 have hgb : Boxed w1 (w0.heap.size + 1) tGFun _ := h.gb
 have hg3 : Boxed w3 (w0.heap.size + 1) tGFun (.func (.func 210) #[] #[.pointer (some ⟨w0.heap.size, 0, none⟩), .pointer (some ⟨w0.heap.size + 1, 0, none⟩)]) := by
  show w3.heap[_]? = _
  rw [hkeep _ hgb.lt (fun e => hgb.not_row (by decide) ho e.symm)]
  exact hgb
 have hg5 := grownBy_setCell' w3 w0.heap.size l.v
 have hset : KeepsOthers w3 (w3.setCell ⟨w0.heap.size, 0, none⟩ l.v) := KeepsOthers.setCell _ _ _
 refine ⟨l.a, l.n, l.c, w3, hrun, hb3, ⟨(hbel w0 h.le).trans ((Below.refl _ w3).setCell (p := ⟨w0.heap.size, 0, none⟩) (Nat.le_refl _) _), hg3.kept hg5 (fun e => by have := Option.some.inj e; omega), l, hb3.set _, ho3.kept hg5 (.inr (hb3.not_row (by decide) ho3).symm)⟩, ?_⟩
 refine ⟨Nat.le_trans h3.size hset.size, fun j u hj hu => hset.same j u ?_ hu⟩
 rw [hkeep j (Array.getElem?_eq_some_iff.1 hj).1 (fun e => ?_)]
 ·exact hj
 ·rcases ho.2 with ⟨e0, _⟩ | ⟨g, cap, cur, e0, _, hgb, _⟩
  ·rw [e0] at e
   simp [Value.ownBlock] at e
  ·rw [e0] at e
   obtain rfl : g = j := by simpa [Value.ownBlock] using e
   rw [hgb] at hj
   cases hj
   cases hu
section
variable (w0 : World) (S : List Bs) (nd : Bs → Nat) (idf : Bs → Int) (N : Nat)
def Gather (t : Bs) : Prop := ∀ (w : World) (xs : List Int), GaAt w0 w xs → xs.Nodup → (∀ x ∈ xs, 0 ≤ x ∧ x < N) → (∀ x, Bel S idf t x → x ∉ xs) →
 CP 210 #[.pointer (some ⟨nd t, 0, none⟩), .pointer (some ⟨w0.heap.size, 0, none⟩), .pointer (some ⟨w0.heap.size + 1, 0, none⟩)] w fun e w' => e = .returned (.tuple #[]) ∧ ∃ ys, GaAt w0 w' (xs ++ ys) ∧ (xs ++ ys).Nodup ∧ (∀ x, x ∈ ys ↔ Bel S idf t x) ∧ KeepsOthers w w'
end
set_option maxHeartbeats 1000000 in
theorem gather_step {w0 : World} {n1 : Nat} {S : List Bs} {nd mp : Bs → Nat} {idf : Bs → Int} (hT : TrieAt w0 n1 S nd mp idf) {N : Nat} (hN : N ≤ 1000000) (hid : ∀ u, idf u = -1 ∨ (0 ≤ idf u ∧ idf u < N)) (hinj : ∀ u ∈ S, ∀ x ∈ S, idf u = idf x → idf u ≠ -1 → u = x)
  {t : Bs} (ht : t ∈ S) (ih : ∀ b, t ++ [b] ∈ S → Gather w0 S nd idf N (t ++ [b])) : Gather w0 S nd idf N t := by
 intro w xs hG hnd hrg hdis
 refine calls_ret (vc210_calls (some ⟨nd t, 0, none⟩) (some ⟨w0.heap.size, 0, none⟩) (some ⟨w0.heap.size + 1, 0, none⟩) w (fun u w' => u = .tuple #[] ∧ ∃ ys, GaAt w0 w' (xs ++ ys) ∧ (xs ++ ys).Nodup ∧ (∀ x, x ∈ ys ↔ Bel S idf t x) ∧ KeepsOthers w w') ?_) (by rintro v w' ⟨rfl, h⟩; exact ⟨rfl, h⟩)
 have inS : ∀ {x : Int}, Bel S idf t x → 0 ≤ x ∧ x < N := by
  rintro x ⟨h1, u, _, _, rfl⟩
  rcases hid u with h | h
  ·exact absurd h h1
  ·exact h
 intro J hJ
 have rest : ∀ (w1 : World) (ys0 : List Int), GaAt w0 w1 (xs ++ ys0) → (xs ++ ys0).Nodup → (∀ x, x ∈ ys0 ↔ x ≠ -1 ∧ idf t = x) → KeepsOthers w w1 → J [] w1 := by
  intro w1 ys0 hG1 hnd1 hys0 hk1
  have hT1 := hT.on hG1.le
  refine hJ w1 (NilC.mk _ rfl ⟨_, ptr_add0 _ _ (hT1.node _ ht) 0, ?_⟩)
  obtain ⟨es, clock, hm, hkv, hborn, hbn⟩ := hT1.map _ ht
  have hkn := kids_nodup nd t hT.nodup
  have hm0 : w0.heap[mp t]? = some (.map es clock) := by
   rw [← hm]
   exact (hG1.le.block _ (hT.map _ ht).lt).symm
  have kid : ∀ e ∈ es.toList, ∃ b, e.key = byteKey b ∧ e.val = .pointer (some ⟨nd (t ++ [b]), 0, none⟩) ∧ t ++ [b] ∈ S := by
   intro e he
   have : (e.key, e.val) ∈ es.toList.map (fun x => (x.key, x.val)) := List.mem_map.2 ⟨e, he, rfl⟩
   rw [hkv] at this
   obtain ⟨p, hp, hpe⟩ := List.mem_map.1 this
   have hp2 := mem_kids.1 hp
   simp only [Prod.mk.injEq] at hpe
   exact ⟨p.1, hpe.1.symm, by rw [← hpe.2]; exact hp2.2, hp2.1⟩
  have keyInj : ∀ {b c : UInt8}, byteKey b = byteKey c → b = c := by
   intro b c h
   simp only [byteKey, Value.int.injEq, true_and] at h
   exact UInt8.toNat_inj.1 (by omega)
  have same : ∀ e ∈ es.toList, ∀ e' ∈ es.toList, e.key = e'.key → e = e' := by
   intro e he e' he' hk
   obtain ⟨i, hi, rfl⟩ := List.getElem_of_mem he
   obtain ⟨j, hj, rfl⟩ := List.getElem_of_mem he'
   have hlen := congrArg List.length hkv
   rw [List.length_map, List.length_map] at hlen
   have at_ : ∀ (i : Nat) (hi : i < es.toList.length), (es.toList[i]).key = byteKey ((kids S nd t)[i]'(by omega)).1 := by
    intro i hi
    have h1 := congrArg (fun l => l[i]?) hkv
    simp only [List.getElem?_map, List.getElem?_eq_getElem hi, List.getElem?_eq_getElem (show i < (kids S nd t).length by omega), Option.map_some, Option.some.injEq, Prod.mk.injEq] at h1
    exact h1.1
   rw [at_ i hi, at_ j hj] at hk
   have hk := keyInj hk
   have := (List.getElem?_inj (i := i) (j := j) (by rw [List.length_map]; omega) hkn).1 (by rw [List.getElem?_map, List.getElem?_map, List.getElem?_eq_getElem (show i < (kids S nd t).length by omega), List.getElem?_eq_getElem (show j < (kids S nd t).length by omega)]; simp [hk])
   subst this
   rfl
  refine ⟨_, _, run_range_map w1 tTMap tByte tTPtr (mp t) es clock undTMap hm, ?_⟩
  intro I hI
  have hpw : w.heap.size ≤ w1.heap.size := hk1.size
  have loop : ∀ (k : Nat) (seen : Array Nat) (q : World) (ys : List Int), (leftOf es seen).size ≤ k → q.heap[w1.heap.size]? = some (.mapIter (some (mp t)) clock seen clock) → GaAt w0 q (xs ++ ys) → (xs ++ ys).Nodup →
    (∀ x, x ∈ ys ↔ (x ≠ -1 ∧ idf t = x) ∨ ∃ e ∈ es.toList, seen.contains e.born = true ∧ ∃ b, e.key = byteKey b ∧ Bel S idf (t ++ [b]) x) → KeepsOthers w q → I [] q := by
   intro k
   induction k with
   | zero =>
    intro seen q ys hk hp hGq hndq hys hkq
    have hmq : q.heap[mp t]? = some (.map es clock) := by rw [hGq.le.block _ (hT.map _ ht).lt]; exact hm0
    refine hI q (.inl ?_)
    rcases run_next_at (P := Tryz.prog) q 0 w1.heap.size (mp t) clock clock seen es clock hp hmq hborn (Nat.le_refl _) with ⟨h0, hrun⟩ | ⟨e, he, _⟩
    ·refine ⟨false, q, hrun, CondP.no rfl ⟨rfl, ys, hGq, hndq, fun x => ?_, hkq⟩⟩
     rw [hys, bel_iff hT ht]
     constructor
     ·rintro (h | ⟨e, he, _, b, hb, hx⟩)
      ·exact .inl h
      ·obtain ⟨c, hc, _, hcS⟩ := kid e he
       have := keyInj (hb.symm.trans hc)
       subst this
       exact .inr ⟨_, hcS, hx⟩
     ·rintro (h | ⟨b, hb, hx⟩)
      ·exact .inl h
      ·have : (b, Value.pointer (some ⟨nd (t ++ [b]), 0, none⟩)) ∈ kids S nd t := mem_kids.2 ⟨hb, rfl⟩
       have : (byteKey b, Value.pointer (some ⟨nd (t ++ [b]), 0, none⟩)) ∈ (kids S nd t).map (fun p => (byteKey p.1, p.2)) := List.mem_map.2 ⟨_, this, rfl⟩
       rw [← hkv] at this
       obtain ⟨e, he, hee⟩ := List.mem_map.1 this
       simp only [Prod.mk.injEq] at hee
       exact .inr ⟨e, he, all_seen es seen h0 e he, b, hee.1, hx⟩
    ·have := List.length_pos_of_mem he
     rw [Array.length_toList] at this
     omega
   | succ k ihk =>
    intro seen q ys hk hp hGq hndq hys hkq
    have hmq : q.heap[mp t]? = some (.map es clock) := by rw [hGq.le.block _ (hT.map _ ht).lt]; exact hm0
    rcases run_next_at (P := Tryz.prog) q 0 w1.heap.size (mp t) clock clock seen es clock hp hmq hborn (Nat.le_refl _) with ⟨h0, hrun⟩ | ⟨e, he, q1, hq1, hrun⟩
    ·exact ihk seen q ys (by omega) hp hGq hndq hys hkq
    ·obtain ⟨heE, heN⟩ := mem_left he
     obtain ⟨b, hbk, hbv, hbS⟩ := kid e heE
     have b1 : Below q.heap.size q q1 := by
      rcases hq1 with rfl | rfl
      ·exact Below.refl _ _
      ·exact drew_on _
     have hG1' := hGq.on b1
     have hpl : w1.heap.size < q1.heap.size := Nat.lt_of_lt_of_le (Array.getElem?_eq_some_iff.1 hp).1 b1.size
     obtain ⟨w7, hw7⟩ : ∃ w7, Go.ChangeMaps.setBlock q1 w1.heap.size (.mapIter (some (mp t)) clock (seen.push e.born) clock) = w7 := ⟨_, rfl⟩
     rw [hw7] at hrun
     have z7 : w7.heap.size = q1.heap.size := by subst hw7; simp [Go.ChangeMaps.setBlock]
     have o7 : ∀ j, j ≠ w1.heap.size → w7.heap[j]? = q1.heap[j]? := by
      intro j hj
      subst hw7
      simp [Go.ChangeMaps.setBlock, Array.getElem?_setIfInBounds_ne (fun e => hj e.symm)]
     have p7 : w7.heap[w1.heap.size]? = some (.mapIter (some (mp t)) clock (seen.push e.born) clock) := by
      subst hw7
      simp [Go.ChangeMaps.setBlock, hpl]
     have hz1 := hG1.le.size
     have hlt0 : w0.heap.size + 1 < w1.heap.size := (Array.getElem?_eq_some_iff.1 hG1.gb).1
     have hG7 : GaAt w0 w7 (xs ++ ys) := by
      obtain ⟨o, g1, g2⟩ := hG1'.out
      refine ⟨?_, ?_, o, ?_, ?_⟩
      ·refine hG1'.le.trans ⟨?_, ?_, ?_, Nat.le_of_eq z7.symm, fun j hj => o7 j (by omega)⟩ <;> (subst hw7; rfl)
      ·rw [o7 _ (by omega)]
       exact hG1'.gb
      ·show w7.heap[_]? = _
       rw [o7 _ (by omega)]
       exact g1
      ·refine own_same g2 fun j hj => o7 j fun e => ?_
       subst e
       rcases g2.2 with ⟨e0, _⟩ | ⟨g, cap, cur, e0, _, hgb, _⟩
       ·rw [e0] at hj
        simp [Value.ownBlock] at hj
       ·rw [e0] at hj
        obtain rfl : g = w1.heap.size := by simpa [Value.ownBlock] using hj
        have := b1.block _ (Array.getElem?_eq_some_iff.1 hp).1
        rw [hgb, hp] at this
        cases this
     have m7 : w7.heap[mp t]? = some (.map es clock) := by rw [hG7.le.block _ (hT.map _ ht).lt]; exact hm0
     have hent := run_entry_at (P := Tryz.prog) w7 w1.heap.size (mp t) clock seen es clock e p7 m7 heE hbn
     refine hI q (.inr ⟨true, e.key, e.val, w7, hrun, CondP.yes rfl ⟨_, _, w7, hent, NilC.mk _ rfl ⟨_, cell_heap hG7.gb, ?_⟩⟩⟩)
     rw [hbv]
     refine callG_of (by kernel_rfl) ?_
     have hdis7 : ∀ x, Bel S idf (t ++ [b]) x → x ∉ xs ++ ys := by
      intro x hx hmem
      rcases List.mem_append.1 hmem with hm1 | hm1
      ·exact hdis x (hx.up ⟨[b], rfl⟩) hm1
      ·obtain ⟨hx1, u, hu, hpu, hxu⟩ := hx
       rcases (hys x).1 hm1 with ⟨_, h2⟩ | ⟨e', he', hs', c, hc, ⟨_, u', hu', hpu', hxu'⟩⟩
       ·have := hinj u hu t ht (by rw [hxu, h2]) (by rw [hxu]; exact hx1)
        subst this
        have := hpu.length_le
        rw [List.length_append] at this
        simp at this
        omega
       ·have := hinj u hu u' hu' (by rw [hxu, hxu']) (by rw [hxu]; exact hx1)
        subst this
        have h3 := List.prefix_iff_eq_take.1 hpu
        have h4 := List.prefix_iff_eq_take.1 hpu'
        rw [List.length_append] at h3 h4
        have h5 := h3.trans h4.symm
        have hbc : b = c := by
         have := List.append_cancel_left h5
         simpa using this
        subst hbc
        have := same e heE e' he' (hbk.trans hc.symm)
        subst this
        rw [hs'] at heN
        cases heN
     have hrg7 : ∀ x ∈ xs ++ ys, 0 ≤ x ∧ x < N := by
      intro x hx
      rcases List.mem_append.1 hx with hx | hx
      ·exact hrg x hx
      ·refine inS ((bel_iff hT ht x).2 ?_)
       rcases (hys x).1 hx with h | ⟨e', he', _, c, hc, hb'⟩
       ·exact .inl h
       ·obtain ⟨c', hc', _, hcS⟩ := kid e' he'
        have := keyInj (hc.symm.trans hc')
        subst this
        exact .inr ⟨_, hcS, hb'⟩
     refine (ih b hbS w7 (xs ++ ys) hG7 hndq hrg7 hdis7).mono ?_
     rintro e9 w9 ⟨rfl, zs, hG9, hnd9, hzs, hk9⟩
     rw [List.append_assoc] at hG9 hnd9
     refine ⟨rfl, ihk (seen.push e.born) w9 (ys ++ zs) ?_ (hk9.same _ _ p7 rfl) hG9 hnd9 ?_ ?_⟩
     ·have := left_shrinks es seen e he
      omega
     ·intro x
      rw [List.mem_append, hys, hzs]
      constructor
      ·rintro ((h | ⟨e', he', hs', hx⟩) | hx)
       ·exact .inl h
       ·exact .inr ⟨e', he', by rw [contains_push, hs']; rfl, hx⟩
       ·exact .inr ⟨e, heE, by rw [contains_push]; simp, b, hbk, hx⟩
      ·rintro (h | ⟨e', he', hs', c, hc, hx⟩)
       ·exact .inl (.inl h)
       ·rw [contains_push, Bool.or_eq_true] at hs'
        rcases hs' with hs' | hs'
        ·exact .inl (.inr ⟨e', he', hs', c, hc, hx⟩)
        ·have hee := born_inj hbn he' heE (by simpa using hs')
         subst hee
         have := keyInj (hbk.symm.trans hc)
         subst this
         exact .inr hx
     ·refine ⟨Nat.le_trans hkq.size (Nat.le_trans b1.size (Nat.le_trans (Nat.le_of_eq z7.symm) hk9.size)), fun j u hj hu => hk9.same j u ?_ hu⟩
      have hjl := (Array.getElem?_eq_some_iff.1 hj).1
      have hq := hkq.same j u hj hu
      rw [o7 j (by omega), b1.block _ (Array.getElem?_eq_some_iff.1 hq).1]
      exact hq
  have b2 : Below w1.heap.size w1 (w1.alloc (.mapIter (some (mp t)) clock #[] clock)) := below_alloc _ _
  refine loop _ #[] _ ys0 (Nat.le_refl _) (alloc_new _ _) (hG1.on b2) hnd1 (fun x => ?_) (hk1.trans (KeepsOthers.alloc _ _))
  rw [hys0]
  simp
 have hTw := hT.on hG.le
 refine NilC.mk _ rfl ⟨_, ptr_add0 _ _ (hTw.node _ ht) 1, CondP.mk (fun h0 => ?_) fun h0 => ?_⟩
 ·have h0 : idf t ≠ -1 := by simpa using h0
  intro w10 hw10
  have b10 : Below w.heap.size w w10 := by subst hw10; exact drew_on w
  have hG10 := hG.on b10
  obtain ⟨o, hb, ho⟩ := hG10.out
  have hT10 := hT.on hG10.le
  refine NilC.mk _ rfl ⟨_, _, _, hb.cell, NilC.mk _ rfl ⟨_, ptr_add0 _ _ (hT10.node _ ht) 1, ?_⟩⟩
  intro w11 hw11
  have hxl := few_of hnd hrg
  obtain ⟨la, ln, lc, w3, hrun, hb3, hG3, hk3⟩ := hG10.push hb ho (by omega) (idf t) hw11
  refine ⟨⟨?_, trivial⟩, la, ln, lc, w3, hrun, NilC.mk _ rfl ⟨rfl, ⟨_, hb3.cell⟩, hb3.frozen, ?_⟩⟩
  ·subst hw11
   exact (hb.alloc _).cell
  intro w13 hw13
  subst hw13
  have hk0 : KeepsOthers w w10 := by subst hw10; exact KeepsOthers.drew w
  refine rest _ [idf t] hG3 ?_ (fun x => ?_) (hk0.trans hk3)
  ·rw [List.nodup_append]
   refine ⟨hnd, by simp, fun a ha b hb e => ?_⟩
   rw [List.mem_singleton.1 hb] at e
   exact hdis _ ((bel_iff hT ht _).2 (.inl ⟨h0, rfl⟩)) (by rw [← e]; exact ha)
  ·rw [List.mem_singleton]
   constructor
   ·rintro rfl
    exact ⟨h0, rfl⟩
   ·rintro ⟨_, rfl⟩
    rfl
 ·have h0 : idf t = -1 := by simpa using h0
  refine rest w [] (by rw [List.append_nil]; exact hG) (by rw [List.append_nil]; exact hnd) (fun x => ?_) (KeepsOthers.refl _)
  constructor
  ·intro h
   cases h
  ·rintro ⟨h1, h2⟩
   exact absurd (h2.symm.trans h0) h1
theorem gather_spec {w0 : World} {n1 : Nat} {S : List Bs} {nd mp : Bs → Nat} {idf : Bs → Int} (hT : TrieAt w0 n1 S nd mp idf) {N : Nat} (hN : N ≤ 1000000) (hid : ∀ u, idf u = -1 ∨ (0 ≤ idf u ∧ idf u < N)) (hinj : ∀ u ∈ S, ∀ x ∈ S, idf u = idf x → idf u ≠ -1 → u = x) :
  ∀ (d : Nat) (t : Bs), t ∈ S → (∀ u ∈ S, t <+: u → u.length ≤ t.length + d) → Gather w0 S nd idf N t
 | 0, t, ht, hd => gather_step hT hN hid hinj ht fun b hb => by
  have := hd _ hb ⟨[b], rfl⟩
  rw [List.length_append] at this
  simp at this
  omega
 | d + 1, t, ht, hd => gather_step hT hN hid hinj ht fun b hb => gather_spec hT hN hid hinj d (t ++ [b]) hb fun u hu hp => by
  have := hd u hu ((show t <+: t ++ [b] from ⟨[b], rfl⟩).trans hp)
  rw [List.length_append]
  simp
  omega
theorem indexK_spec (K : World → Prop) (a : Option Addr) (c : Nat) (xs : List Int) (f : Value) (p : Int → Bool) (hl : xs.length ≤ 1000000000000000) (hrow : ∀ q, K q → Rw encInt 1 q a xs)
  (hf : ∀ x ∈ xs, ∀ q, K q → CallG ctx f [.int .i64 x] q (fun e q' => e = .returned (.bool (p x)) ∧ K q')) (w : World) (h : K w) :
  CP 94 #[.slice a xs.length c, f] w fun e w' => e = .returned (.int .i64 (idx p xs)) ∧ K w' := by
 refine calls_ret (vc94_calls a xs.length c f w (fun v w' => v = .int .i64 (idx p xs) ∧ K w') ?_) (by rintro v w' ⟨rfl, h⟩; exact ⟨rfl, h⟩)
 intro I hI
 have key := climb (α := Int × World) xs.length (fun i x => (∀ j (hj : j < xs.length), j < i → p xs[j] = false) ∧ K x.2) (fun i x => I [.int .i64 (i : Int), .int .i64 x.1] x.2) ?_ ?_ 0 (Nat.zero_le _) (0, w)
 ·exact key ⟨fun j _ hj => absurd hj (Nat.not_lt_zero j), h⟩
 ·rintro ⟨y, w1⟩ ⟨hb, hB⟩
  exact hI _ _ _ (CondP.no (by simp) ⟨by rw [idx_none fun j hj => hb j hj hj], hB⟩)
 ·rintro i hi ih ⟨y, w1⟩ ⟨hb, hB⟩
  obtain ⟨q, hq, _, hcx⟩ := (hrow w1 hB) i _ (List.getElem?_eq_getElem hi)
  refine hI _ _ _ (CondP.yes (by simp; omega) (NilC.mk q hq ⟨by omega, by omega, xs[i], by have := hcx 0 _ rfl; simpa [add_zero] using this, ?_⟩))
  refine (hf xs[i] (List.getElem_mem hi) w1 hB).mono ?_
  rintro e w2 ⟨rfl, h2⟩
  refine ⟨_, rfl, CondP.mk ?_ ?_⟩
  ·intro hp
   exact ⟨by rw [idx_some hi hp fun j hj => hb j (by omega) hj], h2⟩
  ·intro hp
   refine Ar.ok64 (by omega) (by omega) (ih (y, w2) ⟨?_, h2⟩)
   intro j hj hji
   by_cases he : j = i
   ·subst he; exact hp
   ·exact hb j hj (by omega)
structure OnlyB (b : Nat) (w w' : World) : Prop where
 os : w'.os = w.os
 tape : w'.tape = w.tape
 output : w'.output = w.output
 size : w'.heap.size = w.heap.size
 ne : ∀ j, j ≠ b → w'.heap[j]? = w.heap[j]?
theorem OnlyB.refl (b : Nat) (w : World) : OnlyB b w w := ⟨rfl, rfl, rfl, rfl, fun _ _ => rfl⟩
theorem OnlyB.trans {b : Nat} {u v w : World} (h : OnlyB b u v) (k : OnlyB b v w) : OnlyB b u w := ⟨k.os.trans h.os, k.tape.trans h.tape, k.output.trans h.output, k.size.trans h.size, fun j hj => (k.ne j hj).trans (h.ne j hj)⟩
theorem OnlyB.set (b o : Nat) (w : World) (v : Value) : OnlyB b w (w.setCell ⟨b, o, none⟩ v) := ⟨rfl, rfl, rfl, size_setCell .., fun j hj => Below.heap_setCell _ _ _ j (fun e => hj e)⟩
theorem OnlyB.below {b B : Nat} {w w' : World} (h : OnlyB b w w') (hB : B ≤ b) : Below B w w' := ⟨h.os, h.tape, h.output, Nat.le_of_eq h.size.symm, fun k hk => h.ne k (by omega)⟩
theorem setCells_only (b : Nat) (e : TypeId) : ∀ (vs : List Value) (o : Nat) (w : World) (c : Array Value), w.heap[b]? = some (.cells c e (0, 0)) → OnlyB b w (w.setCells b o vs) ∧ ∃ c', (w.setCells b o vs).heap[b]? = some (.cells c' e (0, 0)) ∧ c'.size = c.size ∧ ∀ k, k < o → c'[k]? = c[k]?
 | [], o, w, c, h => ⟨OnlyB.refl b w, c, h, rfl, fun _ _ => rfl⟩
 | v :: vs, o, w, c, h => by
  have h1 : (w.setCell ⟨b, o, none⟩ v).heap[b]? = some (.cells (c.setIfInBounds o v) e (0, 0)) := setCell_heap h v
  obtain ⟨k1, c', h2, h3, h4⟩ := setCells_only b e vs (o + 1) _ _ h1
  refine ⟨(OnlyB.set b o w v).trans k1, c', h2, by rw [h3]; simp, fun k hk => ?_⟩
  rw [h4 k (by omega), Array.getElem?_setIfInBounds_ne (by omega)]
def RowB (w : World) (b cap : Nat) (xs : List Int) : Prop := ∃ cur : Array Value, w.heap[b]? = some (.cells cur tInt (0, 0)) ∧ xs.length ≤ cap ∧ cap ≤ maxLen ∧ cur.size = cap ∧ ∀ (j : Nat) (h : j < xs.length), cur[j]? = some (.int .i64 xs[j])
theorem ints_cells : ∀ xs : List Int, xs.flatMap encInt = xs.map fun x => Value.int .i64 x
 | [] => rfl
 | x :: xs => by rw [List.flatMap_cons, ints_cells xs]; rfl
theorem RowB.own {w : World} {b cap B : Nat} {xs : List Int} (h : RowB w b cap xs) (hB : B ≤ b) : w.ownsRow B tInt 1 (.slice (some ⟨b, 0, none⟩) xs.length cap) xs.length (xs.flatMap encInt) := by
 obtain ⟨cur, h1, h2, h3, h4, h5⟩ := h
 rw [ints_cells]
 refine ⟨by rw [List.length_map, Nat.mul_one], .inr ⟨b, cap, cur, rfl, hB, h1, h2, h3, by omega, ?_⟩⟩
 apply List.ext_getElem?
 intro j
 rw [List.getElem?_take, Nat.mul_one]
 by_cases hj : j < xs.length
 ·rw [if_pos hj, List.getElem?_map, List.getElem?_eq_getElem hj, Array.getElem?_toList, h5 j hj]
  rfl
 ·rw [if_neg hj, List.getElem?_map, List.getElem?_eq_none_iff.2 (by omega)]
  rfl
theorem RowB.of_own {w : World} {B : Nat} {l : Sl} {xs : List Int} (h : w.ownsRow B tInt 1 l.v l.n (xs.flatMap encInt)) : l.n = xs.length ∧ (l = sl0 ∨ ∃ b cap, l = ⟨some ⟨b, 0, none⟩, xs.length, cap⟩ ∧ B ≤ b ∧ RowB w b cap xs) := by
 have hn : l.n = xs.length := (Rw.of_own h (fun _ => rfl) (by decide)).2
 refine ⟨hn, ?_⟩
 obtain ⟨a, n, c⟩ := l
 change n = _ at hn
 subst hn
 rcases h.2 with ⟨e, h0⟩ | ⟨g, cap, cur, e, hB, hg, h1, h2, h3, h4⟩
 ·left
  simp only [Sl.v, Value.slice.injEq] at e
  obtain ⟨rfl, h0, rfl⟩ := e
  have h0 : xs.length = 0 := h0
  rw [h0]
 ·right
  simp only [Sl.v, Value.slice.injEq, true_and] at e
  obtain ⟨rfl, rfl⟩ := e
  refine ⟨g, c, rfl, hB, cur, hg, h1, h2, by omega, fun j hj => ?_⟩
  have e := ints_cells xs
  have := congrArg (fun l => l[j]?) h4
  simp only [List.getElem?_take, Nat.mul_one] at this
  rw [if_pos hj, e, List.getElem?_map, List.getElem?_eq_getElem hj, Array.getElem?_toList] at this
  exact this
theorem RowB.rw {w : World} {b cap : Nat} {xs : List Int} (h : RowB w b cap xs) : Rw encInt 1 w (some ⟨b, 0, none⟩) xs := (Rw.of_own (s := ⟨some ⟨b, 0, none⟩, xs.length, cap⟩) (h.own (Nat.le_refl _)) (fun _ => rfl) (by decide)).1
theorem RowB.same {w w' : World} {b cap : Nat} {xs : List Int} (h : RowB w b cap xs) (hs : w'.heap[b]? = w.heap[b]?) : RowB w' b cap xs := by
 obtain ⟨cur, h1, h2⟩ := h
 exact ⟨cur, by rw [hs]; exact h1, h2⟩
theorem filter_until {p : Int → Bool} {xs : List Int} {n : Nat} (hn : n < xs.length) (h1 : p xs[n] = true) (h2 : ∀ j (hj : j < n), p (xs[j]'(by omega)) = false) : (xs.take (n + 1)).filter (fun x => !p x) = xs.take n := by
 have e : xs.take (n + 1) = xs.take n ++ [xs[n]] := by
  rw [List.take_add_one, List.getElem?_eq_getElem hn]
  rfl
 rw [e, List.filter_append]
 have : [xs[n]].filter (fun x => !p x) = [] := by simp [h1]
 rw [this, List.append_nil, List.filter_eq_self]
 intro x hx
 obtain ⟨j, hj, rfl⟩ := List.mem_take_iff_getElem.1 hx
 rw [h2 j (by omega)]
 rfl
def IntsB (w : World) (b : Nat) : Prop := ∃ c : Array Value, w.heap[b]? = some (.cells c tInt (0, 0))
theorem RowB.ints {w : World} {b cap : Nat} {xs : List Int} (h : RowB w b cap xs) : IntsB w b := by
 obtain ⟨c, h, _⟩ := h
 exact ⟨c, h⟩
set_option maxHeartbeats 1000000 in
theorem deleteI_spec (L : World → Prop) (b cap : Nat) (xs : List Int) (hl : xs.length ≤ 1000000000) (del : Value) (p : Int → Bool) (hL : ∀ q q', L q → IntsB q b → OnlyB b q q' → L q')
  (hf : ∀ x ∈ xs, ∀ q, L q → IntsB q b → CallG ctx del [.int .i64 x] q (fun e q' => e = .returned (.bool (p x)) ∧ L q' ∧ q'.heap[b]? = q.heap[b]?)) (w : World) (h0 : L w) (hr : RowB w b cap xs) :
  CP 98 #[.slice (some ⟨b, 0, none⟩) xs.length cap, del] w fun e w' => e = .returned (.slice (some ⟨b, 0, none⟩) (xs.filter (fun x => !p x)).length cap) ∧ L w' ∧ RowB w' b cap (xs.filter (fun x => !p x)) := by
 refine calls_ret (vc98_calls (some ⟨b, 0, none⟩) xs.length cap del w (fun u w' => u = .slice (some ⟨b, 0, none⟩) (xs.filter (fun x => !p x)).length cap ∧ L w' ∧ RowB w' b cap (xs.filter (fun x => !p x))) ?_) (by rintro v w' ⟨rfl, h⟩; exact ⟨rfl, h⟩)
 have hcap : xs.length ≤ cap := by
  obtain ⟨_, _, h, _⟩ := hr
  exact h
 refine (indexK_spec (fun q => L q ∧ RowB q b cap xs) (some ⟨b, 0, none⟩) cap xs del p (by omega) (fun q hq => hq.2.rw) (fun x hx q hq => (hf x hx q hq.1 hq.2.ints).mono ?_) w ⟨h0, hr⟩).mono ?_
 ·rintro e q' ⟨rfl, h1, h2⟩
  exact ⟨rfl, h1, hq.2.same h2⟩
 rintro e w1 ⟨rfl, hL1, hr1⟩
 refine ⟨_, rfl, CondP.mk (fun hno => ?_) fun hyes => ?_⟩
 ·have hno : idx p xs = -1 := by simpa using hno
  have : xs.filter (fun x => !p x) = xs := by
   rw [List.filter_eq_self]
   intro x hx
   unfold idx at hno
   cases hi : xs.findIdx? p with
   | some i => rw [hi] at hno; exact absurd hno (by show ¬ ((i : Nat) : Int) = -1; omega)
   | none =>
    have := List.findIdx?_eq_none_iff.1 hi x hx
    rw [this]
    rfl
  rw [this]
  exact ⟨rfl, hL1, hr1⟩
 ·have hyes : ¬ idx p xs = -1 := by simpa using hyes
  obtain ⟨n, hn, hpn, hbn, hidx⟩ : ∃ (n : Nat) (hn : n < xs.length), p xs[n] = true ∧ (∀ j (hj : j < n), p (xs[j]'(by omega)) = false) ∧ idx p xs = n := by
   unfold idx at hyes ⊢
   cases hi : xs.findIdx? p with
   | none => rw [hi] at hyes; exact absurd rfl hyes
   | some i =>
    obtain ⟨h1, h2, h3⟩ := List.findIdx?_eq_some_iff_getElem.1 hi
    exact ⟨i, h1, h2, fun j hj => by simpa using h3 j hj, rfl⟩
  rw [hidx]
  refine Ar.nat (n + 1) rfl (by omega) ?_
  intro I hI
  obtain ⟨keep, hkeep⟩ : ∃ keep : Nat → List Int, keep = fun j => (xs.take j).filter (fun x => !p x) := ⟨_, rfl⟩
  have kstep : ∀ (j : Nat) (hj : j < xs.length), keep (j + 1) = keep j ++ if p xs[j] = true then [] else [xs[j]] := by
   intro j hj
   rw [hkeep]
   dsimp only
   rw [List.take_add_one, List.getElem?_eq_getElem hj, List.filter_append]
   congr 1
   by_cases hp : p xs[j] = true
   ·simp [hp]
   ·simp [hp]
  have kn : keep (n + 1) = xs.take n := by
   rw [hkeep]
   exact filter_until hn hpn hbn
  have kle : ∀ j, n < j → j ≤ xs.length → (keep j).length < j := by
   intro j hj hjx
   induction j with
   | zero => omega
   | succ j ihj =>
    by_cases e : j = n
    ·subst e
     rw [kn, List.length_take]
     omega
    ·have := ihj (by omega) (by omega)
     rw [kstep j (by omega), List.length_append]
     split
     ·simp; omega
     ·simp; omega
  have key := climb2 (α := World) (xs.length - (n + 1))
   (fun i q => L q ∧ ∃ cur : Array Value, q.heap[b]? = some (.cells cur tInt (0, 0)) ∧ cur.size = cap ∧ (∀ (k : Nat) (h : k < (keep (n + 1 + i)).length), cur[k]? = some (.int .i64 (keep (n + 1 + i))[k])) ∧ ∀ (k : Nat) (h : k < xs.length), n + 1 + i ≤ k → cur[k]? = some (.int .i64 xs[k]))
   (fun i q => I [.int .i64 ((n + 1 + i : Nat) : Int), .int .i64 ((keep (n + 1 + i)).length : Int)] q) w1 ?_ ?_ ?_
  ·rw [Nat.add_zero, kn, List.length_take, Nat.min_eq_left (by omega)] at key
   exact key
  ·obtain ⟨cur, g1, g2, g3, g4, g5⟩ := hr1
   refine ⟨hL1, cur, g1, g4, fun k hk => ?_, fun k hk _ => g5 k hk⟩
   have e : keep (n + 1 + 0) = xs.take n := kn
   have hk' : k < n := by
    rw [e, List.length_take] at hk
    omega
   rw [g5 k (by omega)]
   simp only [e, List.getElem_take]
  ·rintro i hi ih q ⟨hLq, cur, g1, g2, g3, g4⟩
   have hj : n + 1 + i < xs.length := by omega
   refine hI _ _ q (CondP.yes (decide_eq_true (by omega)) ?_)
   intro J hJ
   refine NilC.mk _ rfl ⟨by omega, by omega, xs[n + 1 + i], ?_, ?_⟩
   ·rw [ptr_add0 _ _ g1, show ((n + 1 + i : Nat) : Int).toNat * 1 = n + 1 + i by omega]
    exact g4 _ hj (Nat.le_refl _)
   refine (hf _ (List.getElem_mem hj) q hLq ⟨_, g1⟩).mono ?_
   rintro e q4 ⟨rfl, hL4, hb4⟩
   have g1' := hb4.trans g1
   have hkl := kle (n + 1 + i) (by omega) (by omega)
   refine ⟨_, rfl, CondP.mk (fun hp => ?_) fun hp => ?_⟩
   ·have hp : p xs[n + 1 + i] = false := by simpa using hp
    have es : keep (n + 1 + (i + 1)) = keep (n + 1 + i) ++ [xs[n + 1 + i]] := by
     have := kstep (n + 1 + i) hj
     rw [if_neg (by rw [hp]; decide)] at this
     exact this
    have hcell : q4.cell? ((⟨b, 0, none⟩ : Addr).add (keep (n + 1 + i)).length) = cur[(keep (n + 1 + i)).length]? := ptr_add0 _ _ g1' _
    refine NilC.mk _ rfl ⟨by omega, by omega, rfl, ⟨cur[(keep (n + 1 + i)).length]'(by omega), ?_⟩, ?_, ?_⟩
    ·rw [show (((keep (n + 1 + i)).length : Nat) : Int).toNat * 1 = (keep (n + 1 + i)).length by omega, hcell]
     exact Array.getElem?_eq_getElem (by omega)
    ·rw [show (((keep (n + 1 + i)).length : Nat) : Int).toNat * 1 = (keep (n + 1 + i)).length by omega]
     exact frozen_put g1'
    intro w5 hw5
    rw [show (((keep (n + 1 + i)).length : Nat) : Int).toNat * 1 = (keep (n + 1 + i)).length by omega] at hw5
    have o5 : OnlyB b q4 w5 := by
     subst hw5
     rw [add_lit, Nat.zero_add]
     exact OnlyB.set ..
    have h5 : w5.heap[b]? = some (.cells (cur.setIfInBounds (keep (n + 1 + i)).length (.int .i64 xs[n + 1 + i])) tInt (0, 0)) := by
     subst hw5
     exact heap_put g1' _
    refine Ar.nat ((keep (n + 1 + i)).length + 1) rfl (by omega) (hJ _ _ (Ar.nat (n + 1 + (i + 1)) rfl (by omega) ?_))
    have := ih w5 ⟨hL _ _ hL4 ⟨_, g1'⟩ o5, _, h5, by simp [g2], fun k hk => ?_, fun k hk hk2 => ?_⟩
    ·rw [es, List.length_append] at this
     exact this
    ·rw [Array.getElem?_setIfInBounds]
     by_cases e : (keep (n + 1 + i)).length = k
     ·subst e
      rw [if_pos rfl, if_pos (by omega)]
      congr 2
      simp [es]
     ·rw [if_neg e]
      have hk' : k < (keep (n + 1 + i)).length := by
       rw [es, List.length_append] at hk
       simp at hk
       omega
      rw [g3 k hk']
      congr 2
      simp only [es]
      rw [List.getElem_append_left hk']
    ·rw [Array.getElem?_setIfInBounds_ne (by omega)]
     exact g4 k hk (by omega)
   ·have hp : p xs[n + 1 + i] = true := by simpa using hp
    have es : keep (n + 1 + (i + 1)) = keep (n + 1 + i) := by
     have := kstep (n + 1 + i) hj
     rw [if_pos hp, List.append_nil] at this
     exact this
    refine hJ _ _ (Ar.nat (n + 1 + (i + 1)) rfl (by omega) ?_)
    have := ih q4 ⟨hL4, cur, g1', g2, fun k hk => ?_, fun k hk hk2 => g4 k hk (by omega)⟩
    ·rw [es] at this
     exact this
    ·have hk' : k < (keep (n + 1 + i)).length := by rw [es] at hk; exact hk
     rw [g3 k hk']
     congr 2
     simp only [es]
  ·rintro q ⟨hLq, cur, g1, g2, g3, g4⟩
   have e : n + 1 + (xs.length - (n + 1)) = xs.length := by omega
   have ek : keep xs.length = xs.filter (fun x => !p x) := by
    rw [hkeep]
    dsimp only
    rw [List.take_length]
   have hkl := kle xs.length hn (Nat.le_refl _)
   rw [e] at g3 ⊢
   rw [ek] at g3 hkl ⊢
   obtain ⟨ys, hys⟩ : ∃ ys, ys = xs.filter (fun x => !p x) := ⟨_, rfl⟩
   rw [← hys] at g3 hkl ⊢
   refine hI _ _ q (CondP.no (decide_eq_false (by omega)) ⟨by omega, by omega, trivial, trivial, trivial, ?_⟩)
   have hbase : slBase (some ⟨b, 0, none⟩) (((ys.length : Nat) : Int).toNat) (((cap : Nat) : Int).toNat) 1 = some ⟨b, ys.length, none⟩ := by
    unfold slBase
    rw [if_neg (by omega)]
    show some ((⟨b, 0, none⟩ : Addr).add _) = _
    rw [add_lit, Nat.zero_add]
    congr 2
    omega
   obtain ⟨o6, c6, h6, z6, k6⟩ := setCells_only b tInt (List.replicate (xs.length - ys.length) (.int .i64 0)) ys.length q cur g1
   have hrun := Lib.run_clear_slice (P := Tryz.prog) q tInts tInt 0 (.int .i64 0) undInts (run_zero' zeroInt) rfl rfl b ys.length (xs.length - ys.length) (((cap : Nat) : Int).toNat - ((ys.length : Nat) : Int).toNat) (by omega) (fun j hj => by
    rw [cell_heap g1, Array.getElem?_eq_getElem (by omega)]
    rfl) (fun j hj => frozen_heap g1)
   refine ⟨q.setCells b ys.length (List.replicate (xs.length - ys.length) (.int .i64 0)), ?_, by omega, by omega, by omega, trivial, trivial, ?_⟩
   ·rw [hbase, show ((xs.length : Nat) : Int).toNat - ((ys.length : Nat) : Int).toNat = xs.length - ys.length by omega]
    exact hrun
   subst hys
   refine ⟨?_, hL _ _ hLq ⟨_, g1⟩ o6, c6, h6, by omega, ?_, by omega, fun j hj => ?_⟩
   ·have e0 : ∀ m, slBase (some ⟨b, 0, none⟩) 0 m 1 = some ⟨b, 0, none⟩ := by
     intro m
     unfold slBase
     split
     ·rfl
     ·show some ((⟨b, 0, none⟩ : Addr).add (0 * 1)) = _
      rw [Nat.zero_mul, add_zero]
    rw [show Int.toNat 0 = 0 from rfl, e0]
    congr 1 <;> omega
   ·obtain ⟨_, _, _, g, _⟩ := hr
    exact g
   ·rw [k6 j hj]
    exact g3 j hj
end Go.Proofs.YtnmdljikfhafiaaGreat.Eng
