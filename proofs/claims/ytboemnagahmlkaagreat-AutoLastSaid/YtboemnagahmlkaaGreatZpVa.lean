/- What these functions owe, printed by a program of this repo out of the translation. -/
import Derived.Test.YtboemnagahmlkaaGreatZpTab
import Derived.Test.YtboemnagahmlkaaGreatZpGr
set_option linter.unusedVariables false
set_option maxRecDepth 100000
namespace Go.Proofs.YtboemnagahmlkaaGreat.Eng
open Go Go.Value
def vc8 (a : OA) (b c : Nat) (d : OA) (f g : Nat) (h : OA) (i j : Nat) (k : OA) (l m : Nat) (n : OA) (o p : Nat) (q : OA) (r s : Nat) (t : Int) (w : World) (R : RW) : Prop :=
 ∀ u, u = w.alloc (.cells #[slice a b c, slice d f g, slice h i j, slice k l m] 27) →
 ∃ x y z a1 b1 c1 d1 e1 f1 g1 h1 i1, (u.cell? (nb w) = some (slice x y z) ∧ u.cell? ((nb w).add 1) = some (slice a1 b1 c1) ∧ u.cell? ((nb w).add 2) = some (slice d1 e1 f1) ∧ u.cell? ((nb w).add 3) = some (slice g1 h1 i1) ∧ True) ∧
 CP 15 #[agg #[slice x y z, slice a1 b1 c1, slice d1 e1 f1, slice g1 h1 i1]] u (fun j1 k1 =>
 ∃ l1, j1 = .returned (int .i64 l1) ∧
 CondP (decide (l1 > 0))
 (CP 38 #[] k1 (fun m1 n1 =>
 ∃ o1, m1 = .returned (bool o1) ∧
 R (bool o1) n1))
 (CondP (decide ((o : Int) > 10))
 (CP 38 #[] k1 (fun p1 q1 =>
 ∃ r1, p1 = .returned (bool r1) ∧
 R (bool r1) q1))
 (CondP (decide ((r : Int) > 10))
 (CP 38 #[] k1 (fun s1 t1 =>
 ∃ u1, s1 = .returned (bool u1) ∧
 R (bool u1) t1))
 (CP 38 #[] k1 (fun v1 x1 =>
 ∃ y1, v1 = .returned (bool y1) ∧
 CondP (!y1)
 (CP 38 #[] x1 (fun z1 a2 =>
 ∃ b2, z1 = .returned (bool b2) ∧
 R (bool b2) a2))
 (∃ c2 d2 e2 f2 g2 h2 i2 j2 k2 l2 m2 n2, (x1.cell? (nb w) = some (slice c2 d2 e2) ∧ x1.cell? ((nb w).add 1) = some (slice f2 g2 h2) ∧ x1.cell? ((nb w).add 2) = some (slice i2 j2 k2) ∧ x1.cell? ((nb w).add 3) = some (slice l2 m2 n2) ∧ True) ∧
 CP 39 #[agg #[slice c2 d2 e2, slice f2 g2 h2, slice i2 j2 k2, slice l2 m2 n2]] x1 (fun o2 p2 =>
 ∃ q2 r2 s2 t2 u2 v2 x2 y2 z2 a3 b3 c3 d3 e3 f3 g3 h3, o2 = .returned (tuple #[pointer q2, pointer r2, agg #[slice s2 t2 u2, slice v2 x2 y2, slice z2 a3 b3, slice c3 d3 e3, slice f3 g3 h3]]) ∧
 ∀ i3, i3 = p2.alloc (.cells #[slice none 0 0, slice none 0 0, slice none 0 0, slice none 0 0, slice none 0 0] 39) →
 StoreP i3 (nb p2) (fun j3 =>
 CondP (Option.isNone q2)
 (R (bool false) j3)
 (CondP (Option.isNone r2)
 (R (bool false) j3)
 (CP 24 #[pointer q2] j3 (fun k3 l3 =>
 ∃ m3, k3 = .returned (int .i64 m3) ∧
 CP 42 #[pointer q2, int .i64 t] l3 (fun n3 o3 =>
 ∃ p3 q3, n3 = .returned (tuple #[pointer p3, int .i64 q3]) ∧
 CP 43 #[pointer r2] o3 (fun r3 s3 =>
 ∃ t3, r3 = .returned (int .i64 t3) ∧
 Ar .i64 (m3 + 2) (fun u3 =>
 CondP (t3 != u3)
 (R (bool false) s3)
 (Ar .i64 (m3 + 2) (fun v3 =>
 Ar .i64 (v3 * m3) (fun x3 =>
 CondP (!((q3 == 0) == (decide (t ≥ x3))))
 (R (bool false) s3)
 (CondP (q3 != 0)
 (CondP (q3 != 5)
 (R (bool false) s3)
 (∀ y3 : KW, (∀ (z3 : Int) (a4 : Bool) (b4 : World), (CondP (decide (z3 < (r : Int)))
 (NilC q (fun c4 =>
 (0 : Int) ≤ z3 ∧ z3 < (r : Int) ∧
 ∃ d4, b4.cell? (c4.add (z3.toNat * 1)) = some (int .i64 d4) ∧
 CP 44 #[pointer r2, int .i64 d4] b4 (fun e4 f4 =>
 ∃ g4, e4 = .returned (bool g4) ∧
 CondP (decide (d4 ≥ 0))
 (CondP (!(g4 == (decide (d4 ≤ m3))))
 (R (bool false) f4)
 (∀ h4 : KW, (∀ (i4 : Int) (j4 : Bool) (k4 : World), (CondP (decide (i4 < (o : Int)))
 (∀ l4 : KW, (∀ (m4 : Bool) (n4 : World), (Ar .i64 (i4 + 1) (fun o4 =>
 h4 [int .i64 o4, bool m4] n4)) → l4 [bool m4] n4) →
 NilC n (fun p4 =>
 (0 : Int) ≤ i4 ∧ i4 < (o : Int) ∧
 ∃ q4, k4.cell? (p4.add (i4.toNat * 1)) = some (int .i64 q4) ∧
 CP 41 #[pointer q2, int .i64 q4] k4 (fun r4 s4 =>
 ∃ t4 u4, r4 = .returned (tuple #[int .i64 t4, bool u4]) ∧
 NilC n (fun v4 =>
 (0 : Int) ≤ i4 ∧ i4 < (o : Int) ∧
 ∃ x4, s4.cell? (v4.add (i4.toNat * 1)) = some (int .i64 x4) ∧
 CP 45 #[pointer r2, int .i64 d4, int .i64 x4] s4 (fun y4 z4 =>
 ∃ a5 b5, y4 = .returned (tuple #[int .i64 a5, bool b5]) ∧
 CondP u4
 (CondP (decide (d4 ≥ 0))
 (Ar .i64 (m3 + 1) (fun c5 =>
 CondP (!(b5 == (decide (d4 ≤ c5))))
 (R (bool false) z4)
 (CondP (!b5)
 (l4 [bool j4] z4)
 (CondP (d4 == 0)
 (NilC n (fun d5 =>
 (0 : Int) ≤ i4 ∧ i4 < (o : Int) ∧
 ∃ e5, z4.cell? (d5.add (i4.toNat * 1)) = some (int .i64 e5) ∧
 CP 32 #[pointer q2, int .i64 e5] z4 (fun f5 g5 =>
 ∃ h5, f5 = .returned (bool h5) ∧
 ∀ i5 : KW, (∀ (j5 : Bool) (k5 : World), (Ar .i64 (m3 + 1) (fun l5 =>
 ∀ m5 : KW, (∀ (n5 : Int) (o5 : World), (CondP (a5 != n5)
 (R (bool false) o5)
 (l4 [bool j4] o5)) → m5 [int .i64 n5] o5) →
 CondP j5
 (Ar .i64 (t4 + 1) (fun p5 =>
 m5 [int .i64 p5] k5))
 (m5 [int .i64 l5] k5))) → i5 [bool j5] k5) →
 CondP (decide (d4 > 0))
 (CondP (decide (d4 ≤ m3))
 (Ar .i64 (d4 - 1) (fun q5 =>
 CP 25 #[pointer q2, int .i64 q5] g5 (fun r5 s5 =>
 ∃ t5 u5, r5 = .returned (tuple #[int .i64 t5, bool u5]) ∧
 NilC n (fun v5 =>
 (0 : Int) ≤ i4 ∧ i4 < (o : Int) ∧
 ∃ x5, s5.cell? (v5.add (i4.toNat * 1)) = some (int .i64 x5) ∧
 CP 33 #[pointer q2, int .i64 t5, int .i64 x5] s5 (fun y5 z5 =>
 ∃ a6, y5 = .returned (bool a6) ∧
 i5 [bool a6] z5)))))
 (i5 [bool h5] g5))
 (i5 [bool h5] g5))))
 (∀ b6 : KW, (∀ (c6 : Bool) (d6 : World), (Ar .i64 (m3 + 1) (fun e6 =>
 ∀ f6 : KW, (∀ (g6 : Int) (h6 : World), (CondP (a5 != g6)
 (R (bool false) h6)
 (l4 [bool j4] h6)) → f6 [int .i64 g6] h6) →
 CondP c6
 (Ar .i64 (t4 + 1) (fun i6 =>
 f6 [int .i64 i6] d6))
 (f6 [int .i64 e6] d6))) → b6 [bool c6] d6) →
 CondP (decide (d4 > 0))
 (CondP (decide (d4 ≤ m3))
 (Ar .i64 (d4 - 1) (fun j6 =>
 CP 25 #[pointer q2, int .i64 j6] z4 (fun k6 l6 =>
 ∃ m6 n6, k6 = .returned (tuple #[int .i64 m6, bool n6]) ∧
 NilC n (fun o6 =>
 (0 : Int) ≤ i4 ∧ i4 < (o : Int) ∧
 ∃ p6, l6.cell? (o6.add (i4.toNat * 1)) = some (int .i64 p6) ∧
 CP 33 #[pointer q2, int .i64 m6, int .i64 p6] l6 (fun q6 r6 =>
 ∃ s6, q6 = .returned (bool s6) ∧
 b6 [bool s6] r6)))))
 (b6 [bool false] z4))
 (b6 [bool false] z4))))))
 (CondP (!(b5 == false))
 (R (bool false) z4)
 (CondP (!b5)
 (l4 [bool j4] z4)
 (CondP (d4 == 0)
 (NilC n (fun t6 =>
 (0 : Int) ≤ i4 ∧ i4 < (o : Int) ∧
 ∃ u6, z4.cell? (t6.add (i4.toNat * 1)) = some (int .i64 u6) ∧
 CP 32 #[pointer q2, int .i64 u6] z4 (fun v6 x6 =>
 ∃ y6, v6 = .returned (bool y6) ∧
 ∀ z6 : KW, (∀ (a7 : Bool) (b7 : World), (Ar .i64 (m3 + 1) (fun c7 =>
 ∀ d7 : KW, (∀ (e7 : Int) (f7 : World), (CondP (a5 != e7)
 (R (bool false) f7)
 (l4 [bool j4] f7)) → d7 [int .i64 e7] f7) →
 CondP a7
 (Ar .i64 (t4 + 1) (fun g7 =>
 d7 [int .i64 g7] b7))
 (d7 [int .i64 c7] b7))) → z6 [bool a7] b7) →
 CondP (decide (d4 > 0))
 (CondP (decide (d4 ≤ m3))
 (Ar .i64 (d4 - 1) (fun h7 =>
 CP 25 #[pointer q2, int .i64 h7] x6 (fun i7 j7 =>
 ∃ k7 l7, i7 = .returned (tuple #[int .i64 k7, bool l7]) ∧
 NilC n (fun m7 =>
 (0 : Int) ≤ i4 ∧ i4 < (o : Int) ∧
 ∃ n7, j7.cell? (m7.add (i4.toNat * 1)) = some (int .i64 n7) ∧
 CP 33 #[pointer q2, int .i64 k7, int .i64 n7] j7 (fun o7 p7 =>
 ∃ q7, o7 = .returned (bool q7) ∧
 z6 [bool q7] p7)))))
 (z6 [bool y6] x6))
 (z6 [bool y6] x6))))
 (∀ r7 : KW, (∀ (s7 : Bool) (t7 : World), (Ar .i64 (m3 + 1) (fun u7 =>
 ∀ v7 : KW, (∀ (x7 : Int) (y7 : World), (CondP (a5 != x7)
 (R (bool false) y7)
 (l4 [bool j4] y7)) → v7 [int .i64 x7] y7) →
 CondP s7
 (Ar .i64 (t4 + 1) (fun z7 =>
 v7 [int .i64 z7] t7))
 (v7 [int .i64 u7] t7))) → r7 [bool s7] t7) →
 CondP (decide (d4 > 0))
 (CondP (decide (d4 ≤ m3))
 (Ar .i64 (d4 - 1) (fun a8 =>
 CP 25 #[pointer q2, int .i64 a8] z4 (fun b8 c8 =>
 ∃ d8 e8, b8 = .returned (tuple #[int .i64 d8, bool e8]) ∧
 NilC n (fun f8 =>
 (0 : Int) ≤ i4 ∧ i4 < (o : Int) ∧
 ∃ g8, c8.cell? (f8.add (i4.toNat * 1)) = some (int .i64 g8) ∧
 CP 33 #[pointer q2, int .i64 d8, int .i64 g8] c8 (fun h8 i8 =>
 ∃ j8, h8 = .returned (bool j8) ∧
 r7 [bool j8] i8)))))
 (r7 [bool false] z4))
 (r7 [bool false] z4))))))
 (CondP (!(b5 == false))
 (R (bool false) z4)
 (CondP (!b5)
 (l4 [bool j4] z4)
 (CondP (d4 == 0)
 (NilC n (fun k8 =>
 (0 : Int) ≤ i4 ∧ i4 < (o : Int) ∧
 ∃ l8, z4.cell? (k8.add (i4.toNat * 1)) = some (int .i64 l8) ∧
 CP 32 #[pointer q2, int .i64 l8] z4 (fun m8 n8 =>
 ∃ o8, m8 = .returned (bool o8) ∧
 ∀ p8 : KW, (∀ (q8 : Bool) (r8 : World), (Ar .i64 (m3 + 1) (fun s8 =>
 ∀ t8 : KW, (∀ (u8 : Int) (v8 : World), (CondP (a5 != u8)
 (R (bool false) v8)
 (l4 [bool j4] v8)) → t8 [int .i64 u8] v8) →
 CondP q8
 (Ar .i64 (t4 + 1) (fun x8 =>
 t8 [int .i64 x8] r8))
 (t8 [int .i64 s8] r8))) → p8 [bool q8] r8) →
 CondP (decide (d4 > 0))
 (CondP (decide (d4 ≤ m3))
 (Ar .i64 (d4 - 1) (fun y8 =>
 CP 25 #[pointer q2, int .i64 y8] n8 (fun z8 a9 =>
 ∃ b9 c9, z8 = .returned (tuple #[int .i64 b9, bool c9]) ∧
 NilC n (fun d9 =>
 (0 : Int) ≤ i4 ∧ i4 < (o : Int) ∧
 ∃ e9, a9.cell? (d9.add (i4.toNat * 1)) = some (int .i64 e9) ∧
 CP 33 #[pointer q2, int .i64 b9, int .i64 e9] a9 (fun f9 g9 =>
 ∃ h9, f9 = .returned (bool h9) ∧
 p8 [bool h9] g9)))))
 (p8 [bool o8] n8))
 (p8 [bool o8] n8))))
 (∀ i9 : KW, (∀ (j9 : Bool) (k9 : World), (Ar .i64 (m3 + 1) (fun l9 =>
 ∀ m9 : KW, (∀ (n9 : Int) (o9 : World), (CondP (a5 != n9)
 (R (bool false) o9)
 (l4 [bool j4] o9)) → m9 [int .i64 n9] o9) →
 CondP j9
 (Ar .i64 (t4 + 1) (fun p9 =>
 m9 [int .i64 p9] k9))
 (m9 [int .i64 l9] k9))) → i9 [bool j9] k9) →
 CondP (decide (d4 > 0))
 (CondP (decide (d4 ≤ m3))
 (Ar .i64 (d4 - 1) (fun q9 =>
 CP 25 #[pointer q2, int .i64 q9] z4 (fun r9 s9 =>
 ∃ t9 u9, r9 = .returned (tuple #[int .i64 t9, bool u9]) ∧
 NilC n (fun v9 =>
 (0 : Int) ≤ i4 ∧ i4 < (o : Int) ∧
 ∃ x9, s9.cell? (v9.add (i4.toNat * 1)) = some (int .i64 x9) ∧
 CP 33 #[pointer q2, int .i64 t9, int .i64 x9] s9 (fun y9 z9 =>
 ∃ a10, y9 = .returned (bool a10) ∧
 i9 [bool a10] z9)))))
 (i9 [bool false] z4))
 (i9 [bool false] z4))))))))))
 (Ar .i64 (z3 + 1) (fun b10 =>
 y3 [int .i64 b10, bool j4] k4))) → h4 [int .i64 i4, bool j4] k4) →
 h4 [int .i64 0, bool a4] f4))
 (CondP (!(g4 == false))
 (R (bool false) f4)
 (∀ c10 : KW, (∀ (d10 : Int) (e10 : Bool) (f10 : World), (CondP (decide (d10 < (o : Int)))
 (∀ g10 : KW, (∀ (h10 : Bool) (i10 : World), (Ar .i64 (d10 + 1) (fun j10 =>
 c10 [int .i64 j10, bool h10] i10)) → g10 [bool h10] i10) →
 NilC n (fun k10 =>
 (0 : Int) ≤ d10 ∧ d10 < (o : Int) ∧
 ∃ l10, f10.cell? (k10.add (d10.toNat * 1)) = some (int .i64 l10) ∧
 CP 41 #[pointer q2, int .i64 l10] f10 (fun m10 n10 =>
 ∃ o10 p10, m10 = .returned (tuple #[int .i64 o10, bool p10]) ∧
 NilC n (fun q10 =>
 (0 : Int) ≤ d10 ∧ d10 < (o : Int) ∧
 ∃ r10, n10.cell? (q10.add (d10.toNat * 1)) = some (int .i64 r10) ∧
 CP 45 #[pointer r2, int .i64 d4, int .i64 r10] n10 (fun s10 t10 =>
 ∃ u10 v10, s10 = .returned (tuple #[int .i64 u10, bool v10]) ∧
 CondP p10
 (CondP (decide (d4 ≥ 0))
 (Ar .i64 (m3 + 1) (fun x10 =>
 CondP (!(v10 == (decide (d4 ≤ x10))))
 (R (bool false) t10)
 (CondP (!v10)
 (g10 [bool e10] t10)
 (CondP (d4 == 0)
 (NilC n (fun y10 =>
 (0 : Int) ≤ d10 ∧ d10 < (o : Int) ∧
 ∃ z10, t10.cell? (y10.add (d10.toNat * 1)) = some (int .i64 z10) ∧
 CP 32 #[pointer q2, int .i64 z10] t10 (fun a11 b11 =>
 ∃ c11, a11 = .returned (bool c11) ∧
 ∀ d11 : KW, (∀ (e11 : Bool) (f11 : World), (Ar .i64 (m3 + 1) (fun g11 =>
 ∀ h11 : KW, (∀ (i11 : Int) (j11 : World), (CondP (u10 != i11)
 (R (bool false) j11)
 (g10 [bool e10] j11)) → h11 [int .i64 i11] j11) →
 CondP e11
 (Ar .i64 (o10 + 1) (fun k11 =>
 h11 [int .i64 k11] f11))
 (h11 [int .i64 g11] f11))) → d11 [bool e11] f11) →
 CondP (decide (d4 > 0))
 (CondP (decide (d4 ≤ m3))
 (Ar .i64 (d4 - 1) (fun l11 =>
 CP 25 #[pointer q2, int .i64 l11] b11 (fun m11 n11 =>
 ∃ o11 p11, m11 = .returned (tuple #[int .i64 o11, bool p11]) ∧
 NilC n (fun q11 =>
 (0 : Int) ≤ d10 ∧ d10 < (o : Int) ∧
 ∃ r11, n11.cell? (q11.add (d10.toNat * 1)) = some (int .i64 r11) ∧
 CP 33 #[pointer q2, int .i64 o11, int .i64 r11] n11 (fun s11 t11 =>
 ∃ u11, s11 = .returned (bool u11) ∧
 d11 [bool u11] t11)))))
 (d11 [bool c11] b11))
 (d11 [bool c11] b11))))
 (∀ v11 : KW, (∀ (x11 : Bool) (y11 : World), (Ar .i64 (m3 + 1) (fun z11 =>
 ∀ a12 : KW, (∀ (b12 : Int) (c12 : World), (CondP (u10 != b12)
 (R (bool false) c12)
 (g10 [bool e10] c12)) → a12 [int .i64 b12] c12) →
 CondP x11
 (Ar .i64 (o10 + 1) (fun d12 =>
 a12 [int .i64 d12] y11))
 (a12 [int .i64 z11] y11))) → v11 [bool x11] y11) →
 CondP (decide (d4 > 0))
 (CondP (decide (d4 ≤ m3))
 (Ar .i64 (d4 - 1) (fun e12 =>
 CP 25 #[pointer q2, int .i64 e12] t10 (fun f12 g12 =>
 ∃ h12 i12, f12 = .returned (tuple #[int .i64 h12, bool i12]) ∧
 NilC n (fun j12 =>
 (0 : Int) ≤ d10 ∧ d10 < (o : Int) ∧
 ∃ k12, g12.cell? (j12.add (d10.toNat * 1)) = some (int .i64 k12) ∧
 CP 33 #[pointer q2, int .i64 h12, int .i64 k12] g12 (fun l12 m12 =>
 ∃ n12, l12 = .returned (bool n12) ∧
 v11 [bool n12] m12)))))
 (v11 [bool false] t10))
 (v11 [bool false] t10))))))
 (CondP (!(v10 == false))
 (R (bool false) t10)
 (CondP (!v10)
 (g10 [bool e10] t10)
 (CondP (d4 == 0)
 (NilC n (fun o12 =>
 (0 : Int) ≤ d10 ∧ d10 < (o : Int) ∧
 ∃ p12, t10.cell? (o12.add (d10.toNat * 1)) = some (int .i64 p12) ∧
 CP 32 #[pointer q2, int .i64 p12] t10 (fun q12 r12 =>
 ∃ s12, q12 = .returned (bool s12) ∧
 ∀ t12 : KW, (∀ (u12 : Bool) (v12 : World), (Ar .i64 (m3 + 1) (fun x12 =>
 ∀ y12 : KW, (∀ (z12 : Int) (a13 : World), (CondP (u10 != z12)
 (R (bool false) a13)
 (g10 [bool e10] a13)) → y12 [int .i64 z12] a13) →
 CondP u12
 (Ar .i64 (o10 + 1) (fun b13 =>
 y12 [int .i64 b13] v12))
 (y12 [int .i64 x12] v12))) → t12 [bool u12] v12) →
 CondP (decide (d4 > 0))
 (CondP (decide (d4 ≤ m3))
 (Ar .i64 (d4 - 1) (fun c13 =>
 CP 25 #[pointer q2, int .i64 c13] r12 (fun d13 e13 =>
 ∃ f13 g13, d13 = .returned (tuple #[int .i64 f13, bool g13]) ∧
 NilC n (fun h13 =>
 (0 : Int) ≤ d10 ∧ d10 < (o : Int) ∧
 ∃ i13, e13.cell? (h13.add (d10.toNat * 1)) = some (int .i64 i13) ∧
 CP 33 #[pointer q2, int .i64 f13, int .i64 i13] e13 (fun j13 k13 =>
 ∃ l13, j13 = .returned (bool l13) ∧
 t12 [bool l13] k13)))))
 (t12 [bool s12] r12))
 (t12 [bool s12] r12))))
 (∀ m13 : KW, (∀ (n13 : Bool) (o13 : World), (Ar .i64 (m3 + 1) (fun p13 =>
 ∀ q13 : KW, (∀ (r13 : Int) (s13 : World), (CondP (u10 != r13)
 (R (bool false) s13)
 (g10 [bool e10] s13)) → q13 [int .i64 r13] s13) →
 CondP n13
 (Ar .i64 (o10 + 1) (fun t13 =>
 q13 [int .i64 t13] o13))
 (q13 [int .i64 p13] o13))) → m13 [bool n13] o13) →
 CondP (decide (d4 > 0))
 (CondP (decide (d4 ≤ m3))
 (Ar .i64 (d4 - 1) (fun u13 =>
 CP 25 #[pointer q2, int .i64 u13] t10 (fun v13 x13 =>
 ∃ y13 z13, v13 = .returned (tuple #[int .i64 y13, bool z13]) ∧
 NilC n (fun a14 =>
 (0 : Int) ≤ d10 ∧ d10 < (o : Int) ∧
 ∃ b14, x13.cell? (a14.add (d10.toNat * 1)) = some (int .i64 b14) ∧
 CP 33 #[pointer q2, int .i64 y13, int .i64 b14] x13 (fun c14 d14 =>
 ∃ e14, c14 = .returned (bool e14) ∧
 m13 [bool e14] d14)))))
 (m13 [bool false] t10))
 (m13 [bool false] t10))))))
 (CondP (!(v10 == false))
 (R (bool false) t10)
 (CondP (!v10)
 (g10 [bool e10] t10)
 (CondP (d4 == 0)
 (NilC n (fun f14 =>
 (0 : Int) ≤ d10 ∧ d10 < (o : Int) ∧
 ∃ g14, t10.cell? (f14.add (d10.toNat * 1)) = some (int .i64 g14) ∧
 CP 32 #[pointer q2, int .i64 g14] t10 (fun h14 i14 =>
 ∃ j14, h14 = .returned (bool j14) ∧
 ∀ k14 : KW, (∀ (l14 : Bool) (m14 : World), (Ar .i64 (m3 + 1) (fun n14 =>
 ∀ o14 : KW, (∀ (p14 : Int) (q14 : World), (CondP (u10 != p14)
 (R (bool false) q14)
 (g10 [bool e10] q14)) → o14 [int .i64 p14] q14) →
 CondP l14
 (Ar .i64 (o10 + 1) (fun r14 =>
 o14 [int .i64 r14] m14))
 (o14 [int .i64 n14] m14))) → k14 [bool l14] m14) →
 CondP (decide (d4 > 0))
 (CondP (decide (d4 ≤ m3))
 (Ar .i64 (d4 - 1) (fun s14 =>
 CP 25 #[pointer q2, int .i64 s14] i14 (fun t14 u14 =>
 ∃ v14 x14, t14 = .returned (tuple #[int .i64 v14, bool x14]) ∧
 NilC n (fun y14 =>
 (0 : Int) ≤ d10 ∧ d10 < (o : Int) ∧
 ∃ z14, u14.cell? (y14.add (d10.toNat * 1)) = some (int .i64 z14) ∧
 CP 33 #[pointer q2, int .i64 v14, int .i64 z14] u14 (fun a15 b15 =>
 ∃ c15, a15 = .returned (bool c15) ∧
 k14 [bool c15] b15)))))
 (k14 [bool j14] i14))
 (k14 [bool j14] i14))))
 (∀ d15 : KW, (∀ (e15 : Bool) (f15 : World), (Ar .i64 (m3 + 1) (fun g15 =>
 ∀ h15 : KW, (∀ (i15 : Int) (j15 : World), (CondP (u10 != i15)
 (R (bool false) j15)
 (g10 [bool e10] j15)) → h15 [int .i64 i15] j15) →
 CondP e15
 (Ar .i64 (o10 + 1) (fun k15 =>
 h15 [int .i64 k15] f15))
 (h15 [int .i64 g15] f15))) → d15 [bool e15] f15) →
 CondP (decide (d4 > 0))
 (CondP (decide (d4 ≤ m3))
 (Ar .i64 (d4 - 1) (fun l15 =>
 CP 25 #[pointer q2, int .i64 l15] t10 (fun m15 n15 =>
 ∃ o15 p15, m15 = .returned (tuple #[int .i64 o15, bool p15]) ∧
 NilC n (fun q15 =>
 (0 : Int) ≤ d10 ∧ d10 < (o : Int) ∧
 ∃ r15, n15.cell? (q15.add (d10.toNat * 1)) = some (int .i64 r15) ∧
 CP 33 #[pointer q2, int .i64 o15, int .i64 r15] n15 (fun s15 t15 =>
 ∃ u15, s15 = .returned (bool u15) ∧
 d15 [bool u15] t15)))))
 (d15 [bool false] t10))
 (d15 [bool false] t10))))))))))
 (Ar .i64 (z3 + 1) (fun v15 =>
 y3 [int .i64 v15, bool e10] f10))) → c10 [int .i64 d10, bool e10] f10) →
 c10 [int .i64 0, bool a4] f4)))))
 (R (bool true) b4)) → y3 [int .i64 z3, bool a4] b4) →
 y3 [int .i64 0, bool false] s3))
 (∀ x15 : KW, (∀ (y15 : Int) (z15 : Bool) (a16 : World), (CondP (decide (y15 < (r : Int)))
 (NilC q (fun b16 =>
 (0 : Int) ≤ y15 ∧ y15 < (r : Int) ∧
 ∃ c16, a16.cell? (b16.add (y15.toNat * 1)) = some (int .i64 c16) ∧
 CP 44 #[pointer r2, int .i64 c16] a16 (fun d16 e16 =>
 ∃ f16, d16 = .returned (bool f16) ∧
 CondP (decide (c16 ≥ 0))
 (CondP (!(f16 == (decide (c16 ≤ m3))))
 (R (bool false) e16)
 (∀ g16 : KW, (∀ (h16 : Int) (i16 : Bool) (j16 : World), (CondP (decide (h16 < (o : Int)))
 (∀ k16 : KW, (∀ (l16 : Bool) (m16 : World), (Ar .i64 (h16 + 1) (fun n16 =>
 g16 [int .i64 n16, bool l16] m16)) → k16 [bool l16] m16) →
 NilC n (fun o16 =>
 (0 : Int) ≤ h16 ∧ h16 < (o : Int) ∧
 ∃ p16, j16.cell? (o16.add (h16.toNat * 1)) = some (int .i64 p16) ∧
 CP 41 #[pointer q2, int .i64 p16] j16 (fun q16 r16 =>
 ∃ s16 t16, q16 = .returned (tuple #[int .i64 s16, bool t16]) ∧
 NilC n (fun u16 =>
 (0 : Int) ≤ h16 ∧ h16 < (o : Int) ∧
 ∃ v16, r16.cell? (u16.add (h16.toNat * 1)) = some (int .i64 v16) ∧
 CP 45 #[pointer r2, int .i64 c16, int .i64 v16] r16 (fun x16 y16 =>
 ∃ z16 a17, x16 = .returned (tuple #[int .i64 z16, bool a17]) ∧
 CondP t16
 (CondP (decide (c16 ≥ 0))
 (Ar .i64 (m3 + 1) (fun b17 =>
 CondP (!(a17 == (decide (c16 ≤ b17))))
 (R (bool false) y16)
 (CondP (!a17)
 (k16 [bool i16] y16)
 (CondP (c16 == 0)
 (NilC n (fun c17 =>
 (0 : Int) ≤ h16 ∧ h16 < (o : Int) ∧
 ∃ d17, y16.cell? (c17.add (h16.toNat * 1)) = some (int .i64 d17) ∧
 CP 32 #[pointer q2, int .i64 d17] y16 (fun e17 f17 =>
 ∃ g17, e17 = .returned (bool g17) ∧
 ∀ h17 : KW, (∀ (i17 : Bool) (j17 : World), (Ar .i64 (m3 + 1) (fun k17 =>
 ∀ l17 : KW, (∀ (m17 : Int) (n17 : World), (CondP (z16 != m17)
 (R (bool false) n17)
 (k16 [bool i16] n17)) → l17 [int .i64 m17] n17) →
 CondP i17
 (Ar .i64 (s16 + 1) (fun o17 =>
 l17 [int .i64 o17] j17))
 (l17 [int .i64 k17] j17))) → h17 [bool i17] j17) →
 CondP (decide (c16 > 0))
 (CondP (decide (c16 ≤ m3))
 (Ar .i64 (c16 - 1) (fun p17 =>
 CP 25 #[pointer q2, int .i64 p17] f17 (fun q17 r17 =>
 ∃ s17 t17, q17 = .returned (tuple #[int .i64 s17, bool t17]) ∧
 NilC n (fun u17 =>
 (0 : Int) ≤ h16 ∧ h16 < (o : Int) ∧
 ∃ v17, r17.cell? (u17.add (h16.toNat * 1)) = some (int .i64 v17) ∧
 CP 33 #[pointer q2, int .i64 s17, int .i64 v17] r17 (fun x17 y17 =>
 ∃ z17, x17 = .returned (bool z17) ∧
 h17 [bool z17] y17)))))
 (h17 [bool g17] f17))
 (h17 [bool g17] f17))))
 (∀ a18 : KW, (∀ (b18 : Bool) (c18 : World), (Ar .i64 (m3 + 1) (fun d18 =>
 ∀ e18 : KW, (∀ (f18 : Int) (g18 : World), (CondP (z16 != f18)
 (R (bool false) g18)
 (k16 [bool i16] g18)) → e18 [int .i64 f18] g18) →
 CondP b18
 (Ar .i64 (s16 + 1) (fun h18 =>
 e18 [int .i64 h18] c18))
 (e18 [int .i64 d18] c18))) → a18 [bool b18] c18) →
 CondP (decide (c16 > 0))
 (CondP (decide (c16 ≤ m3))
 (Ar .i64 (c16 - 1) (fun i18 =>
 CP 25 #[pointer q2, int .i64 i18] y16 (fun j18 k18 =>
 ∃ l18 m18, j18 = .returned (tuple #[int .i64 l18, bool m18]) ∧
 NilC n (fun n18 =>
 (0 : Int) ≤ h16 ∧ h16 < (o : Int) ∧
 ∃ o18, k18.cell? (n18.add (h16.toNat * 1)) = some (int .i64 o18) ∧
 CP 33 #[pointer q2, int .i64 l18, int .i64 o18] k18 (fun p18 q18 =>
 ∃ r18, p18 = .returned (bool r18) ∧
 a18 [bool r18] q18)))))
 (a18 [bool false] y16))
 (a18 [bool false] y16))))))
 (CondP (!(a17 == false))
 (R (bool false) y16)
 (CondP (!a17)
 (k16 [bool i16] y16)
 (CondP (c16 == 0)
 (NilC n (fun s18 =>
 (0 : Int) ≤ h16 ∧ h16 < (o : Int) ∧
 ∃ t18, y16.cell? (s18.add (h16.toNat * 1)) = some (int .i64 t18) ∧
 CP 32 #[pointer q2, int .i64 t18] y16 (fun u18 v18 =>
 ∃ x18, u18 = .returned (bool x18) ∧
 ∀ y18 : KW, (∀ (z18 : Bool) (a19 : World), (Ar .i64 (m3 + 1) (fun b19 =>
 ∀ c19 : KW, (∀ (d19 : Int) (e19 : World), (CondP (z16 != d19)
 (R (bool false) e19)
 (k16 [bool i16] e19)) → c19 [int .i64 d19] e19) →
 CondP z18
 (Ar .i64 (s16 + 1) (fun f19 =>
 c19 [int .i64 f19] a19))
 (c19 [int .i64 b19] a19))) → y18 [bool z18] a19) →
 CondP (decide (c16 > 0))
 (CondP (decide (c16 ≤ m3))
 (Ar .i64 (c16 - 1) (fun g19 =>
 CP 25 #[pointer q2, int .i64 g19] v18 (fun h19 i19 =>
 ∃ j19 k19, h19 = .returned (tuple #[int .i64 j19, bool k19]) ∧
 NilC n (fun l19 =>
 (0 : Int) ≤ h16 ∧ h16 < (o : Int) ∧
 ∃ m19, i19.cell? (l19.add (h16.toNat * 1)) = some (int .i64 m19) ∧
 CP 33 #[pointer q2, int .i64 j19, int .i64 m19] i19 (fun n19 o19 =>
 ∃ p19, n19 = .returned (bool p19) ∧
 y18 [bool p19] o19)))))
 (y18 [bool x18] v18))
 (y18 [bool x18] v18))))
 (∀ q19 : KW, (∀ (r19 : Bool) (s19 : World), (Ar .i64 (m3 + 1) (fun t19 =>
 ∀ u19 : KW, (∀ (v19 : Int) (x19 : World), (CondP (z16 != v19)
 (R (bool false) x19)
 (k16 [bool i16] x19)) → u19 [int .i64 v19] x19) →
 CondP r19
 (Ar .i64 (s16 + 1) (fun y19 =>
 u19 [int .i64 y19] s19))
 (u19 [int .i64 t19] s19))) → q19 [bool r19] s19) →
 CondP (decide (c16 > 0))
 (CondP (decide (c16 ≤ m3))
 (Ar .i64 (c16 - 1) (fun z19 =>
 CP 25 #[pointer q2, int .i64 z19] y16 (fun a20 b20 =>
 ∃ c20 d20, a20 = .returned (tuple #[int .i64 c20, bool d20]) ∧
 NilC n (fun e20 =>
 (0 : Int) ≤ h16 ∧ h16 < (o : Int) ∧
 ∃ f20, b20.cell? (e20.add (h16.toNat * 1)) = some (int .i64 f20) ∧
 CP 33 #[pointer q2, int .i64 c20, int .i64 f20] b20 (fun g20 h20 =>
 ∃ i20, g20 = .returned (bool i20) ∧
 q19 [bool i20] h20)))))
 (q19 [bool false] y16))
 (q19 [bool false] y16))))))
 (CondP (!(a17 == false))
 (R (bool false) y16)
 (CondP (!a17)
 (k16 [bool i16] y16)
 (CondP (c16 == 0)
 (NilC n (fun j20 =>
 (0 : Int) ≤ h16 ∧ h16 < (o : Int) ∧
 ∃ k20, y16.cell? (j20.add (h16.toNat * 1)) = some (int .i64 k20) ∧
 CP 32 #[pointer q2, int .i64 k20] y16 (fun l20 m20 =>
 ∃ n20, l20 = .returned (bool n20) ∧
 ∀ o20 : KW, (∀ (p20 : Bool) (q20 : World), (Ar .i64 (m3 + 1) (fun r20 =>
 ∀ s20 : KW, (∀ (t20 : Int) (u20 : World), (CondP (z16 != t20)
 (R (bool false) u20)
 (k16 [bool i16] u20)) → s20 [int .i64 t20] u20) →
 CondP p20
 (Ar .i64 (s16 + 1) (fun v20 =>
 s20 [int .i64 v20] q20))
 (s20 [int .i64 r20] q20))) → o20 [bool p20] q20) →
 CondP (decide (c16 > 0))
 (CondP (decide (c16 ≤ m3))
 (Ar .i64 (c16 - 1) (fun x20 =>
 CP 25 #[pointer q2, int .i64 x20] m20 (fun y20 z20 =>
 ∃ a21 b21, y20 = .returned (tuple #[int .i64 a21, bool b21]) ∧
 NilC n (fun c21 =>
 (0 : Int) ≤ h16 ∧ h16 < (o : Int) ∧
 ∃ d21, z20.cell? (c21.add (h16.toNat * 1)) = some (int .i64 d21) ∧
 CP 33 #[pointer q2, int .i64 a21, int .i64 d21] z20 (fun e21 f21 =>
 ∃ g21, e21 = .returned (bool g21) ∧
 o20 [bool g21] f21)))))
 (o20 [bool n20] m20))
 (o20 [bool n20] m20))))
 (∀ h21 : KW, (∀ (i21 : Bool) (j21 : World), (Ar .i64 (m3 + 1) (fun k21 =>
 ∀ l21 : KW, (∀ (m21 : Int) (n21 : World), (CondP (z16 != m21)
 (R (bool false) n21)
 (k16 [bool i16] n21)) → l21 [int .i64 m21] n21) →
 CondP i21
 (Ar .i64 (s16 + 1) (fun o21 =>
 l21 [int .i64 o21] j21))
 (l21 [int .i64 k21] j21))) → h21 [bool i21] j21) →
 CondP (decide (c16 > 0))
 (CondP (decide (c16 ≤ m3))
 (Ar .i64 (c16 - 1) (fun p21 =>
 CP 25 #[pointer q2, int .i64 p21] y16 (fun q21 r21 =>
 ∃ s21 t21, q21 = .returned (tuple #[int .i64 s21, bool t21]) ∧
 NilC n (fun u21 =>
 (0 : Int) ≤ h16 ∧ h16 < (o : Int) ∧
 ∃ v21, r21.cell? (u21.add (h16.toNat * 1)) = some (int .i64 v21) ∧
 CP 33 #[pointer q2, int .i64 s21, int .i64 v21] r21 (fun x21 y21 =>
 ∃ z21, x21 = .returned (bool z21) ∧
 h21 [bool z21] y21)))))
 (h21 [bool false] y16))
 (h21 [bool false] y16))))))))))
 (Ar .i64 (y15 + 1) (fun a22 =>
 x15 [int .i64 a22, bool i16] j16))) → g16 [int .i64 h16, bool i16] j16) →
 g16 [int .i64 0, bool z15] e16))
 (CondP (!(f16 == false))
 (R (bool false) e16)
 (∀ b22 : KW, (∀ (c22 : Int) (d22 : Bool) (e22 : World), (CondP (decide (c22 < (o : Int)))
 (∀ f22 : KW, (∀ (g22 : Bool) (h22 : World), (Ar .i64 (c22 + 1) (fun i22 =>
 b22 [int .i64 i22, bool g22] h22)) → f22 [bool g22] h22) →
 NilC n (fun j22 =>
 (0 : Int) ≤ c22 ∧ c22 < (o : Int) ∧
 ∃ k22, e22.cell? (j22.add (c22.toNat * 1)) = some (int .i64 k22) ∧
 CP 41 #[pointer q2, int .i64 k22] e22 (fun l22 m22 =>
 ∃ n22 o22, l22 = .returned (tuple #[int .i64 n22, bool o22]) ∧
 NilC n (fun p22 =>
 (0 : Int) ≤ c22 ∧ c22 < (o : Int) ∧
 ∃ q22, m22.cell? (p22.add (c22.toNat * 1)) = some (int .i64 q22) ∧
 CP 45 #[pointer r2, int .i64 c16, int .i64 q22] m22 (fun r22 s22 =>
 ∃ t22 u22, r22 = .returned (tuple #[int .i64 t22, bool u22]) ∧
 CondP o22
 (CondP (decide (c16 ≥ 0))
 (Ar .i64 (m3 + 1) (fun v22 =>
 CondP (!(u22 == (decide (c16 ≤ v22))))
 (R (bool false) s22)
 (CondP (!u22)
 (f22 [bool d22] s22)
 (CondP (c16 == 0)
 (NilC n (fun x22 =>
 (0 : Int) ≤ c22 ∧ c22 < (o : Int) ∧
 ∃ y22, s22.cell? (x22.add (c22.toNat * 1)) = some (int .i64 y22) ∧
 CP 32 #[pointer q2, int .i64 y22] s22 (fun z22 a23 =>
 ∃ b23, z22 = .returned (bool b23) ∧
 ∀ c23 : KW, (∀ (d23 : Bool) (e23 : World), (Ar .i64 (m3 + 1) (fun f23 =>
 ∀ g23 : KW, (∀ (h23 : Int) (i23 : World), (CondP (t22 != h23)
 (R (bool false) i23)
 (f22 [bool d22] i23)) → g23 [int .i64 h23] i23) →
 CondP d23
 (Ar .i64 (n22 + 1) (fun j23 =>
 g23 [int .i64 j23] e23))
 (g23 [int .i64 f23] e23))) → c23 [bool d23] e23) →
 CondP (decide (c16 > 0))
 (CondP (decide (c16 ≤ m3))
 (Ar .i64 (c16 - 1) (fun k23 =>
 CP 25 #[pointer q2, int .i64 k23] a23 (fun l23 m23 =>
 ∃ n23 o23, l23 = .returned (tuple #[int .i64 n23, bool o23]) ∧
 NilC n (fun p23 =>
 (0 : Int) ≤ c22 ∧ c22 < (o : Int) ∧
 ∃ q23, m23.cell? (p23.add (c22.toNat * 1)) = some (int .i64 q23) ∧
 CP 33 #[pointer q2, int .i64 n23, int .i64 q23] m23 (fun r23 s23 =>
 ∃ t23, r23 = .returned (bool t23) ∧
 c23 [bool t23] s23)))))
 (c23 [bool b23] a23))
 (c23 [bool b23] a23))))
 (∀ u23 : KW, (∀ (v23 : Bool) (x23 : World), (Ar .i64 (m3 + 1) (fun y23 =>
 ∀ z23 : KW, (∀ (a24 : Int) (b24 : World), (CondP (t22 != a24)
 (R (bool false) b24)
 (f22 [bool d22] b24)) → z23 [int .i64 a24] b24) →
 CondP v23
 (Ar .i64 (n22 + 1) (fun c24 =>
 z23 [int .i64 c24] x23))
 (z23 [int .i64 y23] x23))) → u23 [bool v23] x23) →
 CondP (decide (c16 > 0))
 (CondP (decide (c16 ≤ m3))
 (Ar .i64 (c16 - 1) (fun d24 =>
 CP 25 #[pointer q2, int .i64 d24] s22 (fun e24 f24 =>
 ∃ g24 h24, e24 = .returned (tuple #[int .i64 g24, bool h24]) ∧
 NilC n (fun i24 =>
 (0 : Int) ≤ c22 ∧ c22 < (o : Int) ∧
 ∃ j24, f24.cell? (i24.add (c22.toNat * 1)) = some (int .i64 j24) ∧
 CP 33 #[pointer q2, int .i64 g24, int .i64 j24] f24 (fun k24 l24 =>
 ∃ m24, k24 = .returned (bool m24) ∧
 u23 [bool m24] l24)))))
 (u23 [bool false] s22))
 (u23 [bool false] s22))))))
 (CondP (!(u22 == false))
 (R (bool false) s22)
 (CondP (!u22)
 (f22 [bool d22] s22)
 (CondP (c16 == 0)
 (NilC n (fun n24 =>
 (0 : Int) ≤ c22 ∧ c22 < (o : Int) ∧
 ∃ o24, s22.cell? (n24.add (c22.toNat * 1)) = some (int .i64 o24) ∧
 CP 32 #[pointer q2, int .i64 o24] s22 (fun p24 q24 =>
 ∃ r24, p24 = .returned (bool r24) ∧
 ∀ s24 : KW, (∀ (t24 : Bool) (u24 : World), (Ar .i64 (m3 + 1) (fun v24 =>
 ∀ x24 : KW, (∀ (y24 : Int) (z24 : World), (CondP (t22 != y24)
 (R (bool false) z24)
 (f22 [bool d22] z24)) → x24 [int .i64 y24] z24) →
 CondP t24
 (Ar .i64 (n22 + 1) (fun a25 =>
 x24 [int .i64 a25] u24))
 (x24 [int .i64 v24] u24))) → s24 [bool t24] u24) →
 CondP (decide (c16 > 0))
 (CondP (decide (c16 ≤ m3))
 (Ar .i64 (c16 - 1) (fun b25 =>
 CP 25 #[pointer q2, int .i64 b25] q24 (fun c25 d25 =>
 ∃ e25 f25, c25 = .returned (tuple #[int .i64 e25, bool f25]) ∧
 NilC n (fun g25 =>
 (0 : Int) ≤ c22 ∧ c22 < (o : Int) ∧
 ∃ h25, d25.cell? (g25.add (c22.toNat * 1)) = some (int .i64 h25) ∧
 CP 33 #[pointer q2, int .i64 e25, int .i64 h25] d25 (fun i25 j25 =>
 ∃ k25, i25 = .returned (bool k25) ∧
 s24 [bool k25] j25)))))
 (s24 [bool r24] q24))
 (s24 [bool r24] q24))))
 (∀ l25 : KW, (∀ (m25 : Bool) (n25 : World), (Ar .i64 (m3 + 1) (fun o25 =>
 ∀ p25 : KW, (∀ (q25 : Int) (r25 : World), (CondP (t22 != q25)
 (R (bool false) r25)
 (f22 [bool d22] r25)) → p25 [int .i64 q25] r25) →
 CondP m25
 (Ar .i64 (n22 + 1) (fun s25 =>
 p25 [int .i64 s25] n25))
 (p25 [int .i64 o25] n25))) → l25 [bool m25] n25) →
 CondP (decide (c16 > 0))
 (CondP (decide (c16 ≤ m3))
 (Ar .i64 (c16 - 1) (fun t25 =>
 CP 25 #[pointer q2, int .i64 t25] s22 (fun u25 v25 =>
 ∃ x25 y25, u25 = .returned (tuple #[int .i64 x25, bool y25]) ∧
 NilC n (fun z25 =>
 (0 : Int) ≤ c22 ∧ c22 < (o : Int) ∧
 ∃ a26, v25.cell? (z25.add (c22.toNat * 1)) = some (int .i64 a26) ∧
 CP 33 #[pointer q2, int .i64 x25, int .i64 a26] v25 (fun b26 c26 =>
 ∃ d26, b26 = .returned (bool d26) ∧
 l25 [bool d26] c26)))))
 (l25 [bool false] s22))
 (l25 [bool false] s22))))))
 (CondP (!(u22 == false))
 (R (bool false) s22)
 (CondP (!u22)
 (f22 [bool d22] s22)
 (CondP (c16 == 0)
 (NilC n (fun e26 =>
 (0 : Int) ≤ c22 ∧ c22 < (o : Int) ∧
 ∃ f26, s22.cell? (e26.add (c22.toNat * 1)) = some (int .i64 f26) ∧
 CP 32 #[pointer q2, int .i64 f26] s22 (fun g26 h26 =>
 ∃ i26, g26 = .returned (bool i26) ∧
 ∀ j26 : KW, (∀ (k26 : Bool) (l26 : World), (Ar .i64 (m3 + 1) (fun m26 =>
 ∀ n26 : KW, (∀ (o26 : Int) (p26 : World), (CondP (t22 != o26)
 (R (bool false) p26)
 (f22 [bool d22] p26)) → n26 [int .i64 o26] p26) →
 CondP k26
 (Ar .i64 (n22 + 1) (fun q26 =>
 n26 [int .i64 q26] l26))
 (n26 [int .i64 m26] l26))) → j26 [bool k26] l26) →
 CondP (decide (c16 > 0))
 (CondP (decide (c16 ≤ m3))
 (Ar .i64 (c16 - 1) (fun r26 =>
 CP 25 #[pointer q2, int .i64 r26] h26 (fun s26 t26 =>
 ∃ u26 v26, s26 = .returned (tuple #[int .i64 u26, bool v26]) ∧
 NilC n (fun x26 =>
 (0 : Int) ≤ c22 ∧ c22 < (o : Int) ∧
 ∃ y26, t26.cell? (x26.add (c22.toNat * 1)) = some (int .i64 y26) ∧
 CP 33 #[pointer q2, int .i64 u26, int .i64 y26] t26 (fun z26 a27 =>
 ∃ b27, z26 = .returned (bool b27) ∧
 j26 [bool b27] a27)))))
 (j26 [bool i26] h26))
 (j26 [bool i26] h26))))
 (∀ c27 : KW, (∀ (d27 : Bool) (e27 : World), (Ar .i64 (m3 + 1) (fun f27 =>
 ∀ g27 : KW, (∀ (h27 : Int) (i27 : World), (CondP (t22 != h27)
 (R (bool false) i27)
 (f22 [bool d22] i27)) → g27 [int .i64 h27] i27) →
 CondP d27
 (Ar .i64 (n22 + 1) (fun j27 =>
 g27 [int .i64 j27] e27))
 (g27 [int .i64 f27] e27))) → c27 [bool d27] e27) →
 CondP (decide (c16 > 0))
 (CondP (decide (c16 ≤ m3))
 (Ar .i64 (c16 - 1) (fun k27 =>
 CP 25 #[pointer q2, int .i64 k27] s22 (fun l27 m27 =>
 ∃ n27 o27, l27 = .returned (tuple #[int .i64 n27, bool o27]) ∧
 NilC n (fun p27 =>
 (0 : Int) ≤ c22 ∧ c22 < (o : Int) ∧
 ∃ q27, m27.cell? (p27.add (c22.toNat * 1)) = some (int .i64 q27) ∧
 CP 33 #[pointer q2, int .i64 n27, int .i64 q27] m27 (fun r27 s27 =>
 ∃ t27, r27 = .returned (bool t27) ∧
 c27 [bool t27] s27)))))
 (c27 [bool false] s22))
 (c27 [bool false] s22))))))))))
 (Ar .i64 (y15 + 1) (fun u27 =>
 x15 [int .i64 u27, bool d22] e22))) → b22 [int .i64 c22, bool d22] e22) →
 b22 [int .i64 0, bool z15] e16)))))
 (R (bool true) a16)) → x15 [int .i64 y15, bool z15] a16) →
 x15 [int .i64 0, bool false] s3)))))))))))) [slice s2 t2 u2, slice v2 x2 y2, slice z2 a3 b3, slice c3 d3 e3, slice f3 g3 h3] 0)))))))
theorem vc8_calls (a : OA) (b c : Nat) (d : OA) (f g : Nat) (h : OA) (i j : Nat) (k : OA) (l m : Nat) (n : OA) (o p : Nat) (q : OA) (r s : Nat) (t : Int) (w : World) (R : RW) (hh : vc8 a b c d f g h i j k l m n o p q r s t w R) : CR 8 #[agg #[slice a b c, slice d f g, slice h i j, slice k l m], slice n o p, slice q r s, int .i64 t] w R :=
 cden (fn := Tryz.f8) (by kernel_rfl) (by kernel_rfl) (by kernel_rfl) (by kernel_rfl) (by kernel_rfl) hh
def vc38 (w : World) (R : RW) : Prop :=
 ∀ a, a = w.alloc (.cells #[int .i64 97, int .i64 98] 98) →
 CP 64 #[agg #[bool false, slice (some (nb w)) 1 1, slice none 0 0, slice none 0 0, slice none 0 0, slice none 0 0]] a (fun b c =>
 ∃ d f g, b = .returned (tuple #[pointer d, int .i64 f, int .i64 g]) ∧
 CP 61 #[pointer d, int .i64 1048576] c (fun h i =>
 ∃ j k, h = .returned (tuple #[pointer j, int .i64 k]) ∧
 CP 42 #[pointer j, int .i64 1048576] i (fun l m =>
 ∃ n o, l = .returned (tuple #[pointer n, int .i64 o]) ∧
 CondP (o == 0)
 (CP 43 #[pointer n] m (fun p q =>
 ∃ r, p = .returned (int .i64 r) ∧
 CondP (r == 259)
 (CP 46 #[pointer n] q (fun s t =>
 ∃ u, s = .returned (pointer u) ∧
 CP 43 #[pointer u] t (fun x y =>
 ∃ z, x = .returned (int .i64 z) ∧
 R (bool (z == 3)) y)))
 (R (bool false) q)))
 (R (bool false) m))))
theorem vc38_calls (w : World) (R : RW) (hh : vc38 w R) : CR 38 #[] w R :=
 cden (fn := Tryz.f38) (by kernel_rfl) (by kernel_rfl) (by kernel_rfl) (by kernel_rfl) (by kernel_rfl) hh
def vc39 (a : OA) (b c : Nat) (d : OA) (f g : Nat) (h : OA) (i j : Nat) (k : OA) (l m : Nat) (w : World) (R : RW) : Prop :=
 ∀ n, n = w.alloc (.cells #[slice a b c, slice d f g, slice h i j, slice k l m] 27) →
 ∀ o, o = n.alloc (.cells #[slice none 0 0, slice none 0 0, slice none 0 0, slice none 0 0, slice none 0 0] 39) →
 ∃ p q r s t u x y z a1 b1 c1, (o.cell? (nb w) = some (slice p q r) ∧ o.cell? ((nb w).add 1) = some (slice s t u) ∧ o.cell? ((nb w).add 2) = some (slice x y z) ∧ o.cell? ((nb w).add 3) = some (slice a1 b1 c1) ∧ True) ∧
 CP 17 #[agg #[slice p q r, slice s t u, slice x y z, slice a1 b1 c1]] o (fun d1 e1 =>
 ∃ f1 g1 h1 i1 j1 k1 l1 m1 n1 o1 p1 q1 r1 s1 t1 u1, d1 = .returned (tuple #[pointer f1, agg #[slice g1 h1 i1, slice j1 k1 l1, slice m1 n1 o1, slice p1 q1 r1, slice s1 t1 u1]]) ∧
 ∀ v1, v1 = e1.alloc (.cells #[slice none 0 0, slice none 0 0, slice none 0 0, slice none 0 0, slice none 0 0] 39) →
 StoreP v1 (nb e1) (fun x1 =>
 CP 61 #[pointer f1, int .i64 1048576] x1 (fun y1 z1 =>
 ∃ a2 b2, y1 = .returned (tuple #[pointer a2, int .i64 b2]) ∧
 CP 42 #[pointer a2, int .i64 1048576] z1 (fun c2 d2 =>
 ∃ e2 f2, c2 = .returned (tuple #[pointer e2, int .i64 f2]) ∧
 CondP (b2 != 0)
 (∀ g2, g2 = d2.drew →
 ∃ h2 i2 j2 k2 l2 m2 n2 o2 p2 q2 r2 s2 t2 u2 v2, (g2.cell? (nb e1) = some (slice h2 i2 j2) ∧ g2.cell? ((nb e1).add 1) = some (slice k2 l2 m2) ∧ g2.cell? ((nb e1).add 2) = some (slice n2 o2 p2) ∧ g2.cell? ((nb e1).add 3) = some (slice q2 r2 s2) ∧ g2.cell? ((nb e1).add 4) = some (slice t2 u2 v2) ∧ True) ∧
 StoreP g2 (nb n) (fun x2 =>
 ∃ y2 z2 a3 b3 c3 d3 e3 f3 g3 h3 i3 j3 k3 l3 m3, (x2.cell? (nb n) = some (slice y2 z2 a3) ∧ x2.cell? ((nb n).add 1) = some (slice b3 c3 d3) ∧ x2.cell? ((nb n).add 2) = some (slice e3 f3 g3) ∧ x2.cell? ((nb n).add 3) = some (slice h3 i3 j3) ∧ x2.cell? ((nb n).add 4) = some (slice k3 l3 m3) ∧ True) ∧
 R (tuple #[pointer none, pointer none, agg #[slice y2 z2 a3, slice b3 c3 d3, slice e3 f3 g3, slice h3 i3 j3, slice k3 l3 m3]]) x2) [slice h2 i2 j2, slice k2 l2 m2, slice n2 o2 p2, slice q2 r2 s2, slice t2 u2 v2] 0)
 (CondP (f2 != 0)
 (∀ n3, n3 = d2.drew →
 ∃ o3 p3 q3 r3 s3 t3 u3 v3 x3 y3 z3 a4 b4 c4 d4, (n3.cell? (nb e1) = some (slice o3 p3 q3) ∧ n3.cell? ((nb e1).add 1) = some (slice r3 s3 t3) ∧ n3.cell? ((nb e1).add 2) = some (slice u3 v3 x3) ∧ n3.cell? ((nb e1).add 3) = some (slice y3 z3 a4) ∧ n3.cell? ((nb e1).add 4) = some (slice b4 c4 d4) ∧ True) ∧
 StoreP n3 (nb n) (fun e4 =>
 ∃ f4 g4 h4 i4 j4 k4 l4 m4 n4 o4 p4 q4 r4 s4 t4, (e4.cell? (nb n) = some (slice f4 g4 h4) ∧ e4.cell? ((nb n).add 1) = some (slice i4 j4 k4) ∧ e4.cell? ((nb n).add 2) = some (slice l4 m4 n4) ∧ e4.cell? ((nb n).add 3) = some (slice o4 p4 q4) ∧ e4.cell? ((nb n).add 4) = some (slice r4 s4 t4) ∧ True) ∧
 R (tuple #[pointer none, pointer none, agg #[slice f4 g4 h4, slice i4 j4 k4, slice l4 m4 n4, slice o4 p4 q4, slice r4 s4 t4]]) e4) [slice o3 p3 q3, slice r3 s3 t3, slice u3 v3 x3, slice y3 z3 a4, slice b4 c4 d4] 0)
 (∀ u4, u4 = d2.drew →
 ∃ v4 x4 y4 z4 a5 b5 c5 d5 e5 f5 g5 h5 i5 j5 k5, (u4.cell? (nb e1) = some (slice v4 x4 y4) ∧ u4.cell? ((nb e1).add 1) = some (slice z4 a5 b5) ∧ u4.cell? ((nb e1).add 2) = some (slice c5 d5 e5) ∧ u4.cell? ((nb e1).add 3) = some (slice f5 g5 h5) ∧ u4.cell? ((nb e1).add 4) = some (slice i5 j5 k5) ∧ True) ∧
 StoreP u4 (nb n) (fun l5 =>
 ∃ m5 n5 o5 p5 q5 r5 s5 t5 u5 v5 x5 y5 z5 a6 b6, (l5.cell? (nb n) = some (slice m5 n5 o5) ∧ l5.cell? ((nb n).add 1) = some (slice p5 q5 r5) ∧ l5.cell? ((nb n).add 2) = some (slice s5 t5 u5) ∧ l5.cell? ((nb n).add 3) = some (slice v5 x5 y5) ∧ l5.cell? ((nb n).add 4) = some (slice z5 a6 b6) ∧ True) ∧
 R (tuple #[pointer a2, pointer e2, agg #[slice m5 n5 o5, slice p5 q5 r5, slice s5 t5 u5, slice v5 x5 y5, slice z5 a6 b6]]) l5) [slice v4 x4 y4, slice z4 a5 b5, slice c5 d5 e5, slice f5 g5 h5, slice i5 j5 k5] 0))))) [slice g1 h1 i1, slice j1 k1 l1, slice m1 n1 o1, slice p1 q1 r1, slice s1 t1 u1] 0)
theorem vc39_calls (a : OA) (b c : Nat) (d : OA) (f g : Nat) (h : OA) (i j : Nat) (k : OA) (l m : Nat) (w : World) (R : RW) (hh : vc39 a b c d f g h i j k l m w R) : CR 39 #[agg #[slice a b c, slice d f g, slice h i j, slice k l m]] w R :=
 cden (fn := Tryz.f39) (by kernel_rfl) (by kernel_rfl) (by kernel_rfl) (by kernel_rfl) (by kernel_rfl) hh
def vc42 (a : OA) (b : Int) (w : World) (R : RW) : Prop :=
 ∀ c, c = w.alloc (.cells #[pointer a] 48) →
 ∃ d, c.cell? (nb w) = some (pointer d) ∧
 CP 24 #[pointer d] c (fun f g =>
 ∃ h, f = .returned (int .i64 h) ∧
 ∃ i, g.cell? (nb w) = some (pointer i) ∧
 CondP (Option.isNone i)
 (R (tuple #[pointer none, int .i64 1]) g)
 (Ar .i64 (h + 2) (fun j =>
 Ar .i64 (j * h) (fun k =>
 CondP (decide (k > b))
 (R (tuple #[pointer none, int .i64 5]) g)
 (∃ l, g.cell? (nb w) = some (pointer l) ∧
 ∀ m, m = g.alloc (.cells #[pointer l, slice none 0 0, slice none 0 0, int .u32 0, int .i32 0, int .u32 0, slice none 0 0] 136) →
 Ar .i64 (h + 1) (fun n =>
 ∀ o, o = m.alloc (.cells #[Value.nilFunc] 137) →
 (func (.func 77) #[] #[pointer (some (nb w))]).oneCell' = true ∧ (∃ u, o.cell? (nb m) = some u) ∧ o.frozen? (nb m) = false ∧
 ∀ p, p = (o.setCell (nb m) (func (.func 77) #[] #[pointer (some (nb w))])) →
 ∀ q, q = p.drew →
 ∃ r s t, q.cell? ((nb g).add 1) = some (slice r s t) ∧
 CP 78 #[int .i64 h, int .i64 n, func (.func 79) #[] #[pointer (some (nb w)), pointer (some (nb m))]] q (fun x y =>
 ∃ z a1 b1, x = .returned (slice z a1 b1) ∧
 (y.cell? ((nb g).add 1) = some (slice r s t) ∧ True) ∧
 ∀ c1, c1 = y.alloc (.cells #[slice z a1 b1] 28) →
 (c1.cell? ((nb g).add 1) = some (slice r s t) ∧ True) ∧
 ∃ d1 e1 f1 g1, (Builtin.append_ #[120, 120] 120 #[slice r s t, slice (some (nb y)) 1 1]).run Tryz.prog c1 = .ok (slice d1 e1 f1) g1 ∧
 (slice d1 e1 f1).oneCell' = true ∧ (∃ u, g1.cell? ((nb g).add 1) = some u) ∧ g1.frozen? ((nb g).add 1) = false ∧
 ∀ h1, h1 = (g1.setCell ((nb g).add 1) (slice d1 e1 f1)) →
 ∀ i1 : KW, (∀ (j1 : Int) (k1 : World), (CondP (decide (j1 < h))
 (∀ l1, l1 = k1.drew →
 ∃ m1, l1.cell? (nb w) = some (pointer m1) ∧
 ∃ n1, l1.cell? (nb m) = some (n1) ∧
 (CallG ctx n1 [int .i64 j1] l1 (fun o1 p1 =>
 ∃ q1, o1 = .returned (int .i64 q1) ∧
 (p1.cell? (nb w) = some (pointer m1) ∧ True) ∧
 (CP 31 #[pointer m1, int .i64 q1] p1 (fun r1 s1 =>
 ∃ t1 u1 v1, r1 = .returned (slice t1 u1 v1) ∧
 ∀ x1, x1 = s1.alloc (.cells #[slice none 0 0] 55) →
 (slice t1 u1 v1).oneCell' = true ∧ (∃ u, x1.cell? (nb s1) = some u) ∧ x1.frozen? (nb s1) = false ∧
 ∀ y1, y1 = (x1.setCell (nb s1) (slice t1 u1 v1)) →
 ∀ z1, z1 = y1.drew →
 ∃ a2 b2 c2, z1.cell? ((nb g).add 1) = some (slice a2 b2 c2) ∧
 CP 78 #[int .i64 h, int .i64 n, func (.func 80) #[] #[pointer (some (nb s1))]] z1 (fun d2 e2 =>
 ∃ f2 g2 h2, d2 = .returned (slice f2 g2 h2) ∧
 (e2.cell? ((nb g).add 1) = some (slice a2 b2 c2) ∧ True) ∧
 ∀ i2, i2 = e2.alloc (.cells #[slice f2 g2 h2] 28) →
 (i2.cell? ((nb g).add 1) = some (slice a2 b2 c2) ∧ True) ∧
 ∃ j2 k2 l2 m2, (Builtin.append_ #[120, 120] 120 #[slice a2 b2 c2, slice (some (nb e2)) 1 1]).run Tryz.prog i2 = .ok (slice j2 k2 l2) m2 ∧
 (slice j2 k2 l2).oneCell' = true ∧ (∃ u, m2.cell? ((nb g).add 1) = some u) ∧ m2.frozen? ((nb g).add 1) = false ∧
 ∀ n2, n2 = (m2.setCell ((nb g).add 1) (slice j2 k2 l2)) →
 Ar .i64 (j1 + 1) (fun o2 =>
 i1 [int .i64 o2] n2)))) ∧
 (∀ p2, p2 = p1.alloc (.cells #[slice none 0 0] 55) →
 (p2.cell? (nb w) = some (pointer m1) ∧ True) ∧
 CP 31 #[pointer m1, int .i64 q1] p2 (fun q2 r2 =>
 ∃ s2 t2 u2, q2 = .returned (slice s2 t2 u2) ∧
 (slice s2 t2 u2).oneCell' = true ∧ (∃ u, r2.cell? (nb p1) = some u) ∧ r2.frozen? (nb p1) = false ∧
 ∀ v2, v2 = (r2.setCell (nb p1) (slice s2 t2 u2)) →
 ∀ x2, x2 = v2.drew →
 ∃ y2 z2 a3, x2.cell? ((nb g).add 1) = some (slice y2 z2 a3) ∧
 CP 78 #[int .i64 h, int .i64 n, func (.func 80) #[] #[pointer (some (nb p1))]] x2 (fun b3 c3 =>
 ∃ d3 e3 f3, b3 = .returned (slice d3 e3 f3) ∧
 (c3.cell? ((nb g).add 1) = some (slice y2 z2 a3) ∧ True) ∧
 ∀ g3, g3 = c3.alloc (.cells #[slice d3 e3 f3] 28) →
 (g3.cell? ((nb g).add 1) = some (slice y2 z2 a3) ∧ True) ∧
 ∃ h3 i3 j3 k3, (Builtin.append_ #[120, 120] 120 #[slice y2 z2 a3, slice (some (nb c3)) 1 1]).run Tryz.prog g3 = .ok (slice h3 i3 j3) k3 ∧
 (slice h3 i3 j3).oneCell' = true ∧ (∃ u, k3.cell? ((nb g).add 1) = some u) ∧ k3.frozen? ((nb g).add 1) = false ∧
 ∀ l3, l3 = (k3.setCell ((nb g).add 1) (slice h3 i3 j3)) →
 Ar .i64 (j1 + 1) (fun m3 =>
 i1 [int .i64 m3] l3)))))) ∧
 (∀ n3, n3 = l1.alloc (.cells #[slice none 0 0] 55) →
 (n3.cell? (nb m) = some (n1) ∧ True) ∧
 (n3.cell? (nb w) = some (pointer m1) ∧ True) ∧
 CallG ctx n1 [int .i64 j1] n3 (fun o3 p3 =>
 ∃ q3, o3 = .returned (int .i64 q3) ∧
 (p3.cell? (nb w) = some (pointer m1) ∧ True) ∧
 CP 31 #[pointer m1, int .i64 q3] p3 (fun r3 s3 =>
 ∃ t3 u3 v3, r3 = .returned (slice t3 u3 v3) ∧
 (slice t3 u3 v3).oneCell' = true ∧ (∃ u, s3.cell? (nb l1) = some u) ∧ s3.frozen? (nb l1) = false ∧
 ∀ x3, x3 = (s3.setCell (nb l1) (slice t3 u3 v3)) →
 ∀ y3, y3 = x3.drew →
 ∃ z3 a4 b4, y3.cell? ((nb g).add 1) = some (slice z3 a4 b4) ∧
 CP 78 #[int .i64 h, int .i64 n, func (.func 80) #[] #[pointer (some (nb l1))]] y3 (fun c4 d4 =>
 ∃ e4 f4 g4, c4 = .returned (slice e4 f4 g4) ∧
 (d4.cell? ((nb g).add 1) = some (slice z3 a4 b4) ∧ True) ∧
 ∀ h4, h4 = d4.alloc (.cells #[slice e4 f4 g4] 28) →
 (h4.cell? ((nb g).add 1) = some (slice z3 a4 b4) ∧ True) ∧
 ∃ i4 j4 k4 l4, (Builtin.append_ #[120, 120] 120 #[slice z3 a4 b4, slice (some (nb d4)) 1 1]).run Tryz.prog h4 = .ok (slice i4 j4 k4) l4 ∧
 (slice i4 j4 k4).oneCell' = true ∧ (∃ u, l4.cell? ((nb g).add 1) = some u) ∧ l4.frozen? ((nb g).add 1) = false ∧
 ∀ m4, m4 = (l4.setCell ((nb g).add 1) (slice i4 j4 k4)) →
 Ar .i64 (j1 + 1) (fun n4 =>
 i1 [int .i64 n4] m4))))))
 (∀ o4, o4 = k1.drew →
 ∃ p4 q4 r4, o4.cell? ((nb g).add 1) = some (slice p4 q4 r4) ∧
 CP 78 #[int .i64 h, int .i64 n, func (.func 81) #[] #[]] o4 (fun s4 t4 =>
 ∃ u4 v4 x4, s4 = .returned (slice u4 v4 x4) ∧
 (t4.cell? ((nb g).add 1) = some (slice p4 q4 r4) ∧ True) ∧
 ∀ y4, y4 = t4.alloc (.cells #[slice u4 v4 x4] 28) →
 (y4.cell? ((nb g).add 1) = some (slice p4 q4 r4) ∧ True) ∧
 ∃ z4 a5 b5 c5, (Builtin.append_ #[120, 120] 120 #[slice p4 q4 r4, slice (some (nb t4)) 1 1]).run Tryz.prog y4 = .ok (slice z4 a5 b5) c5 ∧
 (slice z4 a5 b5).oneCell' = true ∧ (∃ u, c5.cell? ((nb g).add 1) = some u) ∧ c5.frozen? ((nb g).add 1) = false ∧
 ∀ d5, d5 = (c5.setCell ((nb g).add 1) (slice z4 a5 b5)) →
 ∀ e5, e5 = d5.alloc (.cells #[bool true] 4) →
 Ar .i64 (h + 2) (fun f5 =>
 CP 82 #[slice (some (nb d5)) 1 1, int .i64 f5] e5 (fun g5 h5 =>
 ∃ i5 j5 k5, g5 = .returned (slice i5 j5 k5) ∧
 (slice i5 j5 k5).oneCell' = true ∧ (∃ u, h5.cell? ((nb g).add 2) = some u) ∧ h5.frozen? ((nb g).add 2) = false ∧
 ∀ l5, l5 = (h5.setCell ((nb g).add 2) (slice i5 j5 k5)) →
 ∃ m5 n5 o5, l5.cell? ((nb g).add 2) = some (slice m5 n5 o5) ∧
 NilC m5 (fun p5 =>
 (0 : Int) ≤ n ∧ n < (n5 : Int) ∧
 (bool false).oneCell' = true ∧ (∃ u, l5.cell? (p5.add (n.toNat * 1)) = some u) ∧ l5.frozen? (p5.add (n.toNat * 1)) = false ∧
 ∀ q5, q5 = (l5.setCell (p5.add (n.toNat * 1)) (bool false)) →
 R (tuple #[pointer (some (nb g)), int .i64 0]) q5)))))) → i1 [int .i64 j1] k1) →
 i1 [int .i64 0] h1)))))))
theorem vc42_calls (a : OA) (b : Int) (w : World) (R : RW) (hh : vc42 a b w R) : CR 42 #[pointer a, int .i64 b] w R :=
 cden (fn := Tryz.f42) (by kernel_rfl) (by kernel_rfl) (by kernel_rfl) (by kernel_rfl) (by kernel_rfl) hh
def vc43 (a : OA) (w : World) (R : RW) : Prop :=
 CondP (Option.isNone a)
 (R (int .i64 0) w)
 (NilC a (fun b =>
 ∃ c d f, w.cell? (b.add 1) = some (slice c d f) ∧
 R (int .i64 (d : Int)) w))
theorem vc43_calls (a : OA) (w : World) (R : RW) (hh : vc43 a w R) : CR 43 #[pointer a] w R :=
 cden (fn := Tryz.f43) (by kernel_rfl) (by kernel_rfl) (by kernel_rfl) (by kernel_rfl) (by kernel_rfl) hh
def vc44 (a : OA) (b : Int) (w : World) (R : RW) : Prop :=
 CP 75 #[pointer a, int .i64 b] w (fun c d =>
 ∃ f, c = .returned (bool f) ∧
 CondP f
 (NilC a (fun g =>
 ∃ h i j, d.cell? (g.add 2) = some (slice h i j) ∧
 NilC h (fun k =>
 (0 : Int) ≤ b ∧ b < (i : Int) ∧
 ∃ l, d.cell? (k.add (b.toNat * 1)) = some (bool l) ∧
 R (bool l) d)))
 (R (bool false) d))
theorem vc44_calls (a : OA) (b : Int) (w : World) (R : RW) (hh : vc44 a b w R) : CR 44 #[pointer a, int .i64 b] w R :=
 cden (fn := Tryz.f44) (by kernel_rfl) (by kernel_rfl) (by kernel_rfl) (by kernel_rfl) (by kernel_rfl) hh
def vc45 (a : OA) (b c : Int) (w : World) (R : RW) : Prop :=
 CP 75 #[pointer a, int .i64 b] w (fun d f =>
 ∃ g, d = .returned (bool g) ∧
 CondP (!g)
 (R (tuple #[int .i64 0, bool false]) f)
 (NilC a (fun h =>
 ∃ i, f.cell? (h.add 0) = some (pointer i) ∧
 CP 41 #[pointer i, int .i64 c] f (fun j k =>
 ∃ l m, j = .returned (tuple #[int .i64 l, bool m]) ∧
 CondP (!m)
 (R (tuple #[int .i64 0, bool false]) k)
 (NilC a (fun n =>
 ∃ o p q, k.cell? (n.add 1) = some (slice o p q) ∧
 NilC o (fun r =>
 (0 : Int) ≤ b ∧ b < (p : Int) ∧
 ∃ s t u, k.cell? (r.add (b.toNat * 1)) = some (slice s t u) ∧
 NilC s (fun x =>
 (0 : Int) ≤ l ∧ l < (t : Int) ∧
 ∃ y, k.cell? (x.add (l.toNat * 1)) = some (int .i64 y) ∧
 R (tuple #[int .i64 y, bool true]) k))))))))
theorem vc45_calls (a : OA) (b c : Int) (w : World) (R : RW) (hh : vc45 a b c w R) : CR 45 #[pointer a, int .i64 b, int .i64 c] w R :=
 cden (fn := Tryz.f45) (by kernel_rfl) (by kernel_rfl) (by kernel_rfl) (by kernel_rfl) (by kernel_rfl) hh
def vc46 (a : OA) (w : World) (R : RW) : Prop :=
 CondP (Option.isNone a)
 (R (pointer none) w)
 (CP 76 #[pointer a] w (fun b c =>
 ∃ d f g, b = .returned (slice d f g) ∧
 ∀ h, h = c.alloc (.cells #[slice none 0 0] 28) →
 (slice d f g).oneCell' = true ∧ (∃ u, h.cell? (nb c) = some u) ∧ h.frozen? (nb c) = false ∧
 ∀ i, i = (h.setCell (nb c) (slice d f g)) →
 CP 83 #[pointer a, func (.func 84) #[] #[pointer (some (nb c))]] i (fun j k =>
 ∃ l m n o, j = .returned (tuple #[slice l m n, map o]) ∧
 NilC a (fun p =>
 ∃ q, k.cell? (p.add 0) = some (pointer q) ∧
 ∀ r, r = k.alloc (.cells #[pointer q, slice none 0 0, slice none 0 0, int .u32 0, int .i32 0, int .u32 0, slice none 0 0] 136) →
 ∀ s : KW, (∀ (t : Int) (x : World), (CondP (decide (t < (m : Int)))
 (NilC l (fun y =>
 (0 : Int) ≤ t ∧ t < (m : Int) ∧
 ∃ z, x.cell? (y.add (t.toNat * 1)) = some (int .i64 z) ∧
 NilC a (fun a1 =>
 ∃ b1 c1 d1, x.cell? (a1.add 1) = some (slice b1 c1 d1) ∧
 NilC b1 (fun e1 =>
 (0 : Int) ≤ z ∧ z < (c1 : Int) ∧
 ∃ f1 g1 h1, x.cell? (e1.add (z.toNat * 1)) = some (slice f1 g1 h1) ∧
 ∀ i1 : KW, (∀ (j1 : Int) (k1 : OA) (l1 m1 : Nat) (n1 : World), (CondP (decide (j1 < (g1 : Int)))
 (NilC f1 (fun o1 =>
 (0 : Int) ≤ j1 ∧ j1 < (g1 : Int) ∧
 ∃ p1, n1.cell? (o1.add (j1.toNat * 1)) = some (int .i64 p1) ∧
 ∃ q1 r1 s1, n1.cell? (nb c) = some (slice q1 r1 s1) ∧
 NilC q1 (fun t1 =>
 (0 : Int) ≤ p1 ∧ p1 < (r1 : Int) ∧
 ∃ u1, n1.cell? (t1.add (p1.toNat * 1)) = some (int .i64 u1) ∧
 ∃ v1 x1, (Instr.lookup 107 (map o) (int .i64 u1) false).run Tryz.prog n1 = .ok (int .i64 v1) x1 ∧
 ∀ y1, y1 = x1.alloc (.cells #[int .i64 v1] 3) →
 ∃ z1 a2 b2 c2, (Builtin.append_ #[28, 28] 28 #[slice k1 l1 m1, slice (some (nb x1)) 1 1]).run Tryz.prog y1 = .ok (slice z1 a2 b2) c2 ∧
 Ar .i64 (j1 + 1) (fun d2 =>
 i1 [int .i64 d2, slice z1 a2 b2] c2))))
 (∃ e2 f2 g2, n1.cell? ((nb k).add 1) = some (slice e2 f2 g2) ∧
 ∀ h2, h2 = n1.alloc (.cells #[slice k1 l1 m1] 28) →
 ∃ i2 j2 k2 l2, (Builtin.append_ #[120, 120] 120 #[slice e2 f2 g2, slice (some (nb n1)) 1 1]).run Tryz.prog h2 = .ok (slice i2 j2 k2) l2 ∧
 (slice i2 j2 k2).oneCell' = true ∧ (∃ u, l2.cell? ((nb k).add 1) = some u) ∧ l2.frozen? ((nb k).add 1) = false ∧
 ∀ m2, m2 = (l2.setCell ((nb k).add 1) (slice i2 j2 k2)) →
 ∀ n2, n2 = m2.drew →
 ∃ o2 p2 q2, n2.cell? ((nb k).add 2) = some (slice o2 p2 q2) ∧
 NilC a (fun r2 =>
 ∃ s2 t2 u2, n2.cell? (r2.add 2) = some (slice s2 t2 u2) ∧
 NilC s2 (fun v2 =>
 (0 : Int) ≤ z ∧ z < (t2 : Int) ∧
 ∃ x2, n2.cell? (v2.add (z.toNat * 1)) = some (bool x2) ∧
 ∀ y2, y2 = n2.alloc (.cells #[bool x2] 4) →
 (y2.cell? ((nb k).add 2) = some (slice o2 p2 q2) ∧ True) ∧
 ∃ z2 a3 b3 c3, (Builtin.append_ #[72, 72] 72 #[slice o2 p2 q2, slice (some (nb n2)) 1 1]).run Tryz.prog y2 = .ok (slice z2 a3 b3) c3 ∧
 (slice z2 a3 b3).oneCell' = true ∧ (∃ u, c3.cell? ((nb k).add 2) = some u) ∧ c3.frozen? ((nb k).add 2) = false ∧
 ∀ d3, d3 = (c3.setCell ((nb k).add 2) (slice z2 a3 b3)) →
 Ar .i64 (t + 1) (fun e3 =>
 s [int .i64 e3] d3))))) → i1 [int .i64 j1, slice k1 l1 m1] n1) →
 i1 [int .i64 0, slice none 0 0] x))))
 (R (pointer (some (nb k))) x)) → s [int .i64 t] x) →
 s [int .i64 0] r))))
theorem vc46_calls (a : OA) (w : World) (R : RW) (hh : vc46 a w R) : CR 46 #[pointer a] w R :=
 cden (fn := Tryz.f46) (by kernel_rfl) (by kernel_rfl) (by kernel_rfl) (by kernel_rfl) (by kernel_rfl) hh
def vc75 (a : OA) (b : Int) (w : World) (R : RW) : Prop :=
 CondP (decide (b ≥ 0))
 (CP 43 #[pointer a] w (fun c d =>
 ∃ f, c = .returned (int .i64 f) ∧
 R (bool (decide (b < f))) d))
 (R (bool false) w)
theorem vc75_calls (a : OA) (b : Int) (w : World) (R : RW) (hh : vc75 a b w R) : CR 75 #[pointer a, int .i64 b] w R :=
 cden (fn := Tryz.f75) (by kernel_rfl) (by kernel_rfl) (by kernel_rfl) (by kernel_rfl) (by kernel_rfl) hh
def vc76 (a : OA) (w : World) (R : RW) : Prop :=
 NilC a (fun b =>
 CP 113 #[pointer (some ((b.add 3).add 0)), func (.func 114) #[pointer a] #[]] w (fun c d =>
 c = .returned (tuple #[]) ∧
 NilC a (fun f =>
 ∃ g h i, d.cell? ((f.add 3).add 3) = some (slice g h i) ∧
 R (slice g h i) d)))
theorem vc76_calls (a : OA) (w : World) (R : RW) (hh : vc76 a w R) : CR 76 #[pointer a] w R :=
 cden (fn := Tryz.f76) (by kernel_rfl) (by kernel_rfl) (by kernel_rfl) (by kernel_rfl) (by kernel_rfl) hh
def vc77 (a : Int) (b : OA) (w : World) (R : RW) : Prop :=
 NilC b (fun c =>
 ∃ d, w.cell? c = some (pointer d) ∧
 CP 25 #[pointer d, int .i64 a] w (fun f g =>
 ∃ h i, f = .returned (tuple #[int .i64 h, bool i]) ∧
 R (int .i64 h) g))
theorem vc77_calls (a : Int) (b : OA) (w : World) (R : RW) (hh : vc77 a b w R) : CR 77 #[int .i64 a, pointer b] w R :=
 cden (fn := Tryz.f77) (by kernel_rfl) (by kernel_rfl) (by kernel_rfl) (by kernel_rfl) (by kernel_rfl) hh
def vc78 (a b : Int) (c : Value) (w : World) (R : RW) : Prop :=
 ∃ d f g h, (Instr.makeSlice 28 (int .i64 a) (int .i64 a)).run Tryz.prog w = .ok (slice d f g) h ∧
 ∀ i : KW, (∀ (j : Int) (k : World), (CondP (decide (j < (f : Int)))
 (∀ l : KW, (∀ m : World, (Ar .i64 (j + 1) (fun n =>
 i [int .i64 n] m)) → l [] m) →
 NilC d (fun o =>
 (0 : Int) ≤ j ∧ j < (f : Int) ∧
 (int .i64 b).oneCell' = true ∧ (∃ u, k.cell? (o.add (j.toNat * 1)) = some u) ∧ k.frozen? (o.add (j.toNat * 1)) = false ∧
 ∀ p, p = (k.setCell (o.add (j.toNat * 1)) (int .i64 b)) →
 CallG ctx c [int .i64 j] p (fun q r =>
 ∃ s, q = .returned (bool s) ∧
 CondP s
 (Ar .i64 (j + 1) (fun t =>
 NilC d (fun x =>
 (0 : Int) ≤ j ∧ j < (f : Int) ∧
 (int .i64 t).oneCell' = true ∧ (∃ u, r.cell? (x.add (j.toNat * 1)) = some u) ∧ r.frozen? (x.add (j.toNat * 1)) = false ∧
 ∀ y, y = (r.setCell (x.add (j.toNat * 1)) (int .i64 t)) →
 l [] y)))
 (l [] r))))
 (R (slice d f g) k)) → i [int .i64 j] k) →
 i [int .i64 0] h
theorem vc78_calls (a b : Int) (c : Value) (w : World) (R : RW) (hh : vc78 a b c w R) : CR 78 #[int .i64 a, int .i64 b, c] w R :=
 cden (fn := Tryz.f78) (by kernel_rfl) (by kernel_rfl) (by kernel_rfl) (by kernel_rfl) (by kernel_rfl) hh
def vc79 (a : Int) (b c : OA) (w : World) (R : RW) : Prop :=
 ∀ d, d = w.drew →
 NilC b (fun f =>
 ∃ g, d.cell? f = some (pointer g) ∧
 NilC c (fun h =>
 ∃ i, d.cell? h = some (i) ∧
 CallG ctx i [int .i64 a] d (fun j k =>
 ∃ l, j = .returned (int .i64 l) ∧
 (k.cell? f = some (pointer g) ∧ True) ∧
 CP 32 #[pointer g, int .i64 l] k (fun m n =>
 ∃ o, m = .returned (bool o) ∧
 R (bool o) n))))
theorem vc79_calls (a : Int) (b c : OA) (w : World) (R : RW) (hh : vc79 a b c w R) : CR 79 #[int .i64 a, pointer b, pointer c] w R :=
 cden (fn := Tryz.f79) (by kernel_rfl) (by kernel_rfl) (by kernel_rfl) (by kernel_rfl) (by kernel_rfl) hh
def vc80 (a : Int) (b : OA) (w : World) (R : RW) : Prop :=
 NilC b (fun c =>
 ∃ d f g, w.cell? c = some (slice d f g) ∧
 (64 : Int) ≠ 0 ∧
 NilC d (fun h =>
 (0 : Int) ≤ (IntKind.wrap .i64 (Int.tdiv a 64)) ∧ (IntKind.wrap .i64 (Int.tdiv a 64)) < (f : Int) ∧
 ∃ i, w.cell? (h.add ((IntKind.wrap .i64 (Int.tdiv a 64) : Int).toNat * 1)) = some (int .u64 i) ∧
 (64 : Int) ≠ 0 ∧
 (0 : Int) ≤ (Int.tmod a 64) ∧
 R (bool ((IntKind.wrap .u64 ((BitVec.ofInt (IntKind.bits .u64) (Int.fdiv i (2 ^ (min (Int.tmod a 64 : Int).toNat (IntKind.bits .u64)))) &&& BitVec.ofInt (IntKind.bits .u64) 1).toNat : Int) : Int) == 1)) w))
theorem vc80_calls (a : Int) (b : OA) (w : World) (R : RW) (hh : vc80 a b w R) : CR 80 #[int .i64 a, pointer b] w R :=
 cden (fn := Tryz.f80) (by kernel_rfl) (by kernel_rfl) (by kernel_rfl) (by kernel_rfl) (by kernel_rfl) hh
def vc81 (a : Int) (w : World) (R : RW) : Prop :=
 R (bool false) w
theorem vc81_calls (a : Int) (w : World) (R : RW) (hh : vc81 a w R) : CR 81 #[int .i64 a] w R :=
 cden (fn := Tryz.f81) (by kernel_rfl) (by kernel_rfl) (by kernel_rfl) (by kernel_rfl) (by kernel_rfl) hh
def vc82 (a : OA) (b c : Nat) (d : Int) (w : World) (R : RW) : Prop :=
 ∀ f : KW, (∀ g : World, (CP 115 #[int .u64 (IntKind.wrap .u64 (b : Int)), int .u64 (IntKind.wrap .u64 d)] g (fun h i =>
 ∃ j k, h = .returned (tuple #[int .u64 j, int .u64 k]) ∧
 ∀ l : KW, (∀ m : World, (∃ n o p q, (Instr.makeSlice 72 (int .i64 (IntKind.wrap .i64 k)) (int .i64 (IntKind.wrap .i64 k))).run Tryz.prog m = .ok (slice n o p) q ∧
 ∃ r s, (Builtin.copy_ #[72, 72] 3 #[slice n o p, slice a b c]).run Tryz.prog q = .ok (int .i64 r) s ∧
 ∀ t : KW, (∀ (u : Int) (x : World), (CondP (decide (u < (o : Int)))
 (∀ y, y = x.drew →
 (0 : Int) ≤ u ∧ u ≤ (o : Int) ∧ True ∧ True ∧ True ∧
 (0 : Int) ≤ (0 : Int) ∧ (0 : Int) ≤ u ∧ u ≤ (p : Int) ∧ True ∧ True ∧
 ∃ z a1, (Builtin.copy_ #[72, 72] 3 #[slice (slBase n u.toNat (p : Int).toNat 1) ((o : Int).toNat - u.toNat) ((p : Int).toNat - u.toNat), slice (slBase n (0 : Int).toNat (p : Int).toNat 1) (u.toNat - (0 : Int).toNat) ((p : Int).toNat - (0 : Int).toNat)]).run Tryz.prog y = .ok (int .i64 z) a1 ∧
 Ar .i64 (u + z) (fun b1 =>
 t [int .i64 b1] a1))
 (R (slice n o p) x)) → t [int .i64 u] x) →
 t [int .i64 r] s) → l [] m) →
 CondP (decide (j > 0))
 (False)
 (CondP (decide (k > 9223372036854775807))
 (False)
 (l [] i)))) → f [] g) →
 CondP (decide (d < 0))
 (False)
 (f [] w)
theorem vc82_calls (a : OA) (b c : Nat) (d : Int) (w : World) (R : RW) (hh : vc82 a b c d w R) : CR 82 #[slice a b c, int .i64 d] w R :=
 cden (fn := Tryz.f82) (by kernel_rfl) (by kernel_rfl) (by kernel_rfl) (by kernel_rfl) (by kernel_rfl) hh
def vc83 (a : OA) (b : Value) (w : World) (R : RW) : Prop :=
 ∀ c, c = w.alloc (.cells #[int .i64 0] 3) →
 ∃ d f, (Instr.makeMap 107 none).run Tryz.prog c = .ok (map d) f ∧
 CallG ctx b [int .i64 0] f (fun g h =>
 ∃ i, g = .returned (int .i64 i) ∧
 ∃ j, (Instr.mapUpdate 107 (map d) (int .i64 i) (int .i64 0)).run Tryz.prog h = .ok () j ∧
 ∀ k : KW, (∀ (l : Int) (m : OA) (n o : Nat) (p : World), (CondP (decide (l < (n : Int)))
 (∀ q, q = p.drew →
 NilC a (fun r =>
 ∃ s t u, q.cell? (r.add 1) = some (slice s t u) ∧
 NilC m (fun x =>
 (0 : Int) ≤ l ∧ l < (n : Int) ∧
 ∃ y, q.cell? (x.add (l.toNat * 1)) = some (int .i64 y) ∧
 NilC s (fun z =>
 (0 : Int) ≤ y ∧ y < (t : Int) ∧
 ∃ a1 b1 c1, q.cell? (z.add (y.toNat * 1)) = some (slice a1 b1 c1) ∧
 ∀ d1 : KW, (∀ (e1 : Int) (f1 : OA) (g1 h1 : Nat) (i1 : World), (CondP (decide (e1 < (b1 : Int)))
 (∀ j1 : KW, (∀ (k1 : OA) (l1 m1 : Nat) (n1 : World), (Ar .i64 (e1 + 1) (fun o1 =>
 d1 [int .i64 o1, slice k1 l1 m1] n1)) → j1 [slice k1 l1 m1] n1) →
 NilC a1 (fun p1 =>
 (0 : Int) ≤ e1 ∧ e1 < (b1 : Int) ∧
 ∃ q1, i1.cell? (p1.add (e1.toNat * 1)) = some (int .i64 q1) ∧
 CallG ctx b [int .i64 q1] i1 (fun r1 s1 =>
 ∃ t1, r1 = .returned (int .i64 t1) ∧
 ∃ u1 v1 x1, (Instr.lookup 107 (map d) (int .i64 t1) true).run Tryz.prog s1 = .ok (tuple #[int .i64 u1, bool v1]) x1 ∧
 CondP (!v1)
 (CallG ctx b [int .i64 q1] x1 (fun y1 z1 =>
 ∃ a2, y1 = .returned (int .i64 a2) ∧
 ∃ b2, (Instr.mapUpdate 107 (map d) (int .i64 a2) (int .i64 (g1 : Int))).run Tryz.prog z1 = .ok () b2 ∧
 ∀ c2, c2 = b2.alloc (.cells #[int .i64 q1] 3) →
 ∃ d2 e2 f2 g2, (Builtin.append_ #[28, 28] 28 #[slice f1 g1 h1, slice (some (nb b2)) 1 1]).run Tryz.prog c2 = .ok (slice d2 e2 f2) g2 ∧
 j1 [slice d2 e2 f2] g2))
 (j1 [slice f1 g1 h1] x1))))
 (Ar .i64 (l + 1) (fun h2 =>
 k [int .i64 h2, slice f1 g1 h1] i1))) → d1 [int .i64 e1, slice f1 g1 h1] i1) →
 d1 [int .i64 0, slice m n o] q))))
 (R (tuple #[slice m n o, map d]) p)) → k [int .i64 l, slice m n o] p) →
 k [int .i64 0, slice (some (nb w)) 1 1] j)
theorem vc83_calls (a : OA) (b : Value) (w : World) (R : RW) (hh : vc83 a b w R) : CR 83 #[pointer a, b] w R :=
 cden (fn := Tryz.f83) (by kernel_rfl) (by kernel_rfl) (by kernel_rfl) (by kernel_rfl) (by kernel_rfl) hh
def vc84 (a : Int) (b : OA) (w : World) (R : RW) : Prop :=
 NilC b (fun c =>
 ∃ d f g, w.cell? c = some (slice d f g) ∧
 NilC d (fun h =>
 (0 : Int) ≤ a ∧ a < (f : Int) ∧
 ∃ i, w.cell? (h.add (a.toNat * 1)) = some (int .i64 i) ∧
 R (int .i64 i) w))
theorem vc84_calls (a : Int) (b : OA) (w : World) (R : RW) (hh : vc84 a b w R) : CR 84 #[int .i64 a, pointer b] w R :=
 cden (fn := Tryz.f84) (by kernel_rfl) (by kernel_rfl) (by kernel_rfl) (by kernel_rfl) (by kernel_rfl) hh
def vc114 (a : OA) (w : World) (R : RW) : Prop :=
 ∀ b, b = w.alloc (.cells #[pointer a] 62) →
 ∃ c, b.cell? (nb w) = some (pointer c) ∧
 CP 43 #[pointer c] b (fun d f =>
 ∃ g, d = .returned (int .i64 g) ∧
 CP 161 #[int .i64 g, func (.func 162) #[] #[pointer (some (nb w))]] f (fun h i =>
 ∃ j k l m, h = .returned (tuple #[slice j k l, int .i64 m]) ∧
 ∀ n, n = i.alloc (.cells #[slice none 0 0] 28) →
 (slice j k l).oneCell' = true ∧ (∃ u, n.cell? (nb i) = some u) ∧ n.frozen? (nb i) = false ∧
 ∀ o, o = (n.setCell (nb i) (slice j k l)) →
 ∀ p : KW, (∀ (q : Int) (r : World), (∃ s, r.cell? (nb w) = some (pointer s) ∧
 CP 43 #[pointer s] r (fun t x =>
 ∃ y, t = .returned (int .i64 y) ∧
 CP 163 #[int .i64 y, func (.func 164) #[] #[pointer (some (nb i)), pointer (some (nb w))]] x (fun z a1 =>
 ∃ b1 c1 d1 e1, z = .returned (tuple #[slice b1 c1 d1, int .i64 e1]) ∧
 (slice b1 c1 d1).oneCell' = true ∧ (∃ u, a1.cell? (nb i) = some u) ∧ a1.frozen? (nb i) = false ∧
 ∀ f1, f1 = (a1.setCell (nb i) (slice b1 c1 d1)) →
 CondP (e1 == q)
 (∃ g1, f1.cell? (nb w) = some (pointer g1) ∧
 ∃ h1 i1 j1, f1.cell? (nb i) = some (slice h1 i1 j1) ∧
 NilC g1 (fun k1 =>
 (slice h1 i1 j1).oneCell' = true ∧ (∃ u, f1.cell? ((k1.add 3).add 3) = some u) ∧ f1.frozen? ((k1.add 3).add 3) = false ∧
 ∀ l1, l1 = (f1.setCell ((k1.add 3).add 3) (slice h1 i1 j1)) →
 R (tuple #[]) l1))
 (p [int .i64 e1] f1)))) → p [int .i64 q] r) →
 p [int .i64 m] o))
theorem vc114_calls (a : OA) (w : World) (R : RW) (hh : vc114 a w R) : CR 114 #[pointer a] w R :=
 cden (fn := Tryz.f114) (by kernel_rfl) (by kernel_rfl) (by kernel_rfl) (by kernel_rfl) (by kernel_rfl) hh
def vc115 (a b : Int) (w : World) (R : RW) : Prop :=
 CP 167 #[int .u64 a, int .u64 b] w (fun c d =>
 ∃ f g, c = .returned (tuple #[int .u64 f, int .u64 g]) ∧
 R (tuple #[int .u64 f, int .u64 g]) d)
theorem vc115_calls (a b : Int) (w : World) (R : RW) (hh : vc115 a b w R) : CR 115 #[int .u64 a, int .u64 b] w R :=
 cden (fn := Tryz.f115) (by kernel_rfl) (by kernel_rfl) (by kernel_rfl) (by kernel_rfl) (by kernel_rfl) hh
def vc161 (a : Int) (b : Value) (w : World) (R : RW) : Prop :=
 ∃ c d, (Instr.makeMap 299 none).run Tryz.prog w = .ok (map c) d ∧
 ∃ f g h i, (Instr.makeSlice 28 (int .i64 a) (int .i64 a)).run Tryz.prog d = .ok (slice f g h) i ∧
 ∀ j : KW, (∀ (k : Int) (l : World), (CondP (decide (k < a))
 (CallG ctx b [int .i64 k] l (fun m n =>
 ∃ o, m = .returned (bool o) ∧
 ∃ p q r, (Instr.lookup 299 (map c) (bool o) true).run Tryz.prog n = .ok (tuple #[int .i64 p, bool q]) r ∧
 ∀ s : KW, (∀ (t : Int) (x : World), (NilC f (fun y =>
 (0 : Int) ≤ k ∧ k < (g : Int) ∧
 (int .i64 t).oneCell' = true ∧ (∃ u, x.cell? (y.add (k.toNat * 1)) = some u) ∧ x.frozen? (y.add (k.toNat * 1)) = false ∧
 ∀ z, z = (x.setCell (y.add (k.toNat * 1)) (int .i64 t)) →
 Ar .i64 (k + 1) (fun a1 =>
 j [int .i64 a1] z))) → s [int .i64 t] x) →
 CondP (!q)
 (∃ b1 c1, (Builtin.len_ #[299] 3 #[map c]).run Tryz.prog r = .ok (int .i64 b1) c1 ∧
 ∃ d1, (Instr.mapUpdate 299 (map c) (bool o) (int .i64 b1)).run Tryz.prog c1 = .ok () d1 ∧
 s [int .i64 b1] d1)
 (s [int .i64 p] r)))
 (∃ e1 f1, (Builtin.len_ #[299] 3 #[map c]).run Tryz.prog l = .ok (int .i64 e1) f1 ∧
 R (tuple #[slice f g h, int .i64 e1]) f1)) → j [int .i64 k] l) →
 j [int .i64 0] i
theorem vc161_calls (a : Int) (b : Value) (w : World) (R : RW) (hh : vc161 a b w R) : CR 161 #[int .i64 a, b] w R :=
 cden (fn := Tryz.f161) (by kernel_rfl) (by kernel_rfl) (by kernel_rfl) (by kernel_rfl) (by kernel_rfl) hh
def vc162 (a : Int) (b : OA) (w : World) (R : RW) : Prop :=
 NilC b (fun c =>
 ∃ d, w.cell? c = some (pointer d) ∧
 NilC d (fun f =>
 ∃ g h i, w.cell? (f.add 2) = some (slice g h i) ∧
 NilC g (fun j =>
 (0 : Int) ≤ a ∧ a < (h : Int) ∧
 ∃ k, w.cell? (j.add (a.toNat * 1)) = some (bool k) ∧
 R (bool k) w)))
theorem vc162_calls (a : Int) (b : OA) (w : World) (R : RW) (hh : vc162 a b w R) : CR 162 #[int .i64 a, pointer b] w R :=
 cden (fn := Tryz.f162) (by kernel_rfl) (by kernel_rfl) (by kernel_rfl) (by kernel_rfl) (by kernel_rfl) hh
def vc163 (a : Int) (b : Value) (w : World) (R : RW) : Prop :=
 ∃ c d, (Instr.makeMap 177 none).run Tryz.prog w = .ok (map c) d ∧
 ∃ f g h i, (Instr.makeSlice 28 (int .i64 a) (int .i64 a)).run Tryz.prog d = .ok (slice f g h) i ∧
 ∀ j : KW, (∀ (k : Int) (l : World), (CondP (decide (k < a))
 (CallG ctx b [int .i64 k] l (fun m n =>
 ∃ o, m = .returned (string o) ∧
 ∃ p q r, (Instr.lookup 177 (map c) (string o) true).run Tryz.prog n = .ok (tuple #[int .i64 p, bool q]) r ∧
 ∀ s : KW, (∀ (t : Int) (x : World), (NilC f (fun y =>
 (0 : Int) ≤ k ∧ k < (g : Int) ∧
 (int .i64 t).oneCell' = true ∧ (∃ u, x.cell? (y.add (k.toNat * 1)) = some u) ∧ x.frozen? (y.add (k.toNat * 1)) = false ∧
 ∀ z, z = (x.setCell (y.add (k.toNat * 1)) (int .i64 t)) →
 Ar .i64 (k + 1) (fun a1 =>
 j [int .i64 a1] z))) → s [int .i64 t] x) →
 CondP (!q)
 (∃ b1 c1, (Builtin.len_ #[177] 3 #[map c]).run Tryz.prog r = .ok (int .i64 b1) c1 ∧
 ∃ d1, (Instr.mapUpdate 177 (map c) (string o) (int .i64 b1)).run Tryz.prog c1 = .ok () d1 ∧
 s [int .i64 b1] d1)
 (s [int .i64 p] r)))
 (∃ e1 f1, (Builtin.len_ #[177] 3 #[map c]).run Tryz.prog l = .ok (int .i64 e1) f1 ∧
 R (tuple #[slice f g h, int .i64 e1]) f1)) → j [int .i64 k] l) →
 j [int .i64 0] i
theorem vc163_calls (a : Int) (b : Value) (w : World) (R : RW) (hh : vc163 a b w R) : CR 163 #[int .i64 a, b] w R :=
 cden (fn := Tryz.f163) (by kernel_rfl) (by kernel_rfl) (by kernel_rfl) (by kernel_rfl) (by kernel_rfl) hh
def vc164 (a : Int) (b c : OA) (w : World) (R : RW) : Prop :=
 ∀ d, d = w.drew →
 NilC b (fun f =>
 ∃ g h i, d.cell? f = some (slice g h i) ∧
 NilC g (fun j =>
 (0 : Int) ≤ a ∧ a < (h : Int) ∧
 ∃ k, d.cell? (j.add (a.toNat * 1)) = some (int .i64 k) ∧
 NilC c (fun l =>
 ∃ m, d.cell? l = some (pointer m) ∧
 NilC m (fun n =>
 ∃ o p q, d.cell? (n.add 1) = some (slice o p q) ∧
 NilC o (fun r =>
 (0 : Int) ≤ a ∧ a < (p : Int) ∧
 ∃ s t u, d.cell? (r.add (a.toNat * 1)) = some (slice s t u) ∧
 NilC b (fun x =>
 ∃ y z a1, d.cell? x = some (slice y z a1) ∧
 CP 165 #[int .i64 k, slice s t u, slice y z a1] d (fun b1 c1 =>
 ∃ d1, b1 = .returned (string d1) ∧
 R (string d1) c1)))))))
theorem vc164_calls (a : Int) (b c : OA) (w : World) (R : RW) (hh : vc164 a b c w R) : CR 164 #[int .i64 a, pointer b, pointer c] w R :=
 cden (fn := Tryz.f164) (by kernel_rfl) (by kernel_rfl) (by kernel_rfl) (by kernel_rfl) (by kernel_rfl) hh
def vc165 (a : Int) (b : OA) (c d : Nat) (f : OA) (g h : Nat) (w : World) (R : RW) : Prop :=
 Ar .i64 ((2 : Int) * (c : Int)) (fun i =>
 Ar .i64 (i + 2) (fun j =>
 ∃ k l m n, (Instr.makeSlice 178 (int .i64 0) (int .i64 j)).run Tryz.prog w = .ok (slice k l m) n ∧
 (0 : Int) ≤ 8 ∧
 ∀ o, o = n.alloc (.cells #[int .u8 (IntKind.wrap .u8 a), int .u8 (IntKind.wrap .u8 (Int.fdiv a (2 ^ (min (8 : Int).toNat (IntKind.bits .i64)))))] 5) →
 ∃ p q r s, (Builtin.append_ #[178, 178] 178 #[slice k l m, slice (some (nb n)) 2 2]).run Tryz.prog o = .ok (slice p q r) s ∧
 ∀ t : KW, (∀ (u : Int) (x : OA) (y z : Nat) (a1 : World), (CondP (decide (u < (c : Int)))
 (NilC b (fun b1 =>
 (0 : Int) ≤ u ∧ u < (c : Int) ∧
 ∃ c1, a1.cell? (b1.add (u.toNat * 1)) = some (int .i64 c1) ∧
 ∀ d1, d1 = a1.drew →
 NilC f (fun e1 =>
 (0 : Int) ≤ c1 ∧ c1 < (g : Int) ∧
 ∃ f1, d1.cell? (e1.add (c1.toNat * 1)) = some (int .i64 f1) ∧
 NilC f (fun g1 =>
 (0 : Int) ≤ c1 ∧ c1 < (g : Int) ∧
 ∃ h1, d1.cell? (g1.add (c1.toNat * 1)) = some (int .i64 h1) ∧
 (0 : Int) ≤ 8 ∧
 ∀ i1, i1 = d1.alloc (.cells #[int .u8 (IntKind.wrap .u8 f1), int .u8 (IntKind.wrap .u8 (Int.fdiv h1 (2 ^ (min (8 : Int).toNat (IntKind.bits .i64)))))] 5) →
 ∃ j1 k1 l1 m1, (Builtin.append_ #[178, 178] 178 #[slice x y z, slice (some (nb d1)) 2 2]).run Tryz.prog i1 = .ok (slice j1 k1 l1) m1 ∧
 Ar .i64 (u + 1) (fun n1 =>
 t [int .i64 n1, slice j1 k1 l1] m1)))))
 (∃ o1 p1, (convert 178 9 (slice x y z)).run Tryz.prog a1 = .ok (string o1) p1 ∧
 R (string o1) p1)) → t [int .i64 u, slice x y z] a1) →
 t [int .i64 0, slice p q r] s))
theorem vc165_calls (a : Int) (b : OA) (c d : Nat) (f : OA) (g h : Nat) (w : World) (R : RW) (hh : vc165 a b c d f g h w R) : CR 165 #[int .i64 a, slice b c d, slice f g h] w R :=
 cden (fn := Tryz.f165) (by kernel_rfl) (by kernel_rfl) (by kernel_rfl) (by kernel_rfl) (by kernel_rfl) hh
def vc167 (a b : Int) (w : World) (R : RW) : Prop :=
 (0 : Int) ≤ 32 ∧
 (0 : Int) ≤ 32 ∧
 Ar .u64 ((IntKind.wrap .u64 ((BitVec.ofInt (IntKind.bits .u64) a &&& BitVec.ofInt (IntKind.bits .u64) 4294967295).toNat : Int) : Int) * (IntKind.wrap .u64 ((BitVec.ofInt (IntKind.bits .u64) b &&& BitVec.ofInt (IntKind.bits .u64) 4294967295).toNat : Int))) (fun c =>
 Ar .u64 ((Int.fdiv a (2 ^ (min (32 : Int).toNat (IntKind.bits .u64))) : Int) * (IntKind.wrap .u64 ((BitVec.ofInt (IntKind.bits .u64) b &&& BitVec.ofInt (IntKind.bits .u64) 4294967295).toNat : Int))) (fun d =>
 (0 : Int) ≤ 32 ∧
 Ar .u64 (d + (Int.fdiv c (2 ^ (min (32 : Int).toNat (IntKind.bits .u64))))) (fun f =>
 (0 : Int) ≤ 32 ∧
 Ar .u64 ((IntKind.wrap .u64 ((BitVec.ofInt (IntKind.bits .u64) a &&& BitVec.ofInt (IntKind.bits .u64) 4294967295).toNat : Int) : Int) * (Int.fdiv b (2 ^ (min (32 : Int).toNat (IntKind.bits .u64))))) (fun g =>
 Ar .u64 ((IntKind.wrap .u64 ((BitVec.ofInt (IntKind.bits .u64) f &&& BitVec.ofInt (IntKind.bits .u64) 4294967295).toNat : Int) : Int) + g) (fun h =>
 Ar .u64 ((Int.fdiv a (2 ^ (min (32 : Int).toNat (IntKind.bits .u64))) : Int) * (Int.fdiv b (2 ^ (min (32 : Int).toNat (IntKind.bits .u64))))) (fun i =>
 Ar .u64 (i + (Int.fdiv f (2 ^ (min (32 : Int).toNat (IntKind.bits .u64))))) (fun j =>
 (0 : Int) ≤ 32 ∧
 Ar .u64 (j + (Int.fdiv h (2 ^ (min (32 : Int).toNat (IntKind.bits .u64))))) (fun k =>
 Ar .u64 (a * b) (fun l =>
 R (tuple #[int .u64 k, int .u64 l]) w)))))))))
theorem vc167_calls (a b : Int) (w : World) (R : RW) (hh : vc167 a b w R) : CR 167 #[int .u64 a, int .u64 b] w R :=
 cden (fn := Tryz.f167) (by kernel_rfl) (by kernel_rfl) (by kernel_rfl) (by kernel_rfl) (by kernel_rfl) hh
set_option linter.unusedSimpArgs false
open Go Go.RowKit
theorem infoInt3 : ∃ i, Tryz.prog.info? tInt = some i ∧ i.zero = some (.int .i64 0) ∧ i.size = 1 ∧ i.bytes = 8 := by
 have h : (Tryz.prog.info? tInt).map (fun i => (i.zero, i.size, i.bytes)) = some (some (.int .i64 0), 1, 8) := by kernel_rfl
 obtain ⟨i, hi, he⟩ := Option.map_eq_some_iff.1 h
 simp only [Prod.mk.injEq] at he
 exact ⟨i, hi, he.1, he.2.1, he.2.2⟩
theorem run_makeInts (w : World) (n : Nat) (hn : n ≤ 1000000) : (Instr.makeSlice tInts (.int .i64 n) (.int .i64 n)).run Tryz.prog w = .ok (.slice (some (nb w)) n n) (w.alloc (.cells (Array.replicate n (.int .i64 0)) tInt)) := by
 obtain ⟨i, hi, hz, hs, hb⟩ := infoInt3
 have := Go.run_make (P := Tryz.prog) w tInts tInt i (.int .i64 0) (by kernel_rfl) hi hz .i64 .i64 (n : Int) (n : Int) (by omega) (Int.le_refl _) (by rw [hb]; omega) (by omega)
 rw [this]
 congr 3
 rw [hs]
 apply Array.ext
 ·rw [size_madeCells]
  simp
 ·intro j h1 h2
  simp only [madeCells, Array.getElem_map, Array.getElem_range, Array.getElem_replicate]
  show (#[Value.int .i64 0] : Array Value)[j % 1]! = _
  rw [Nat.mod_one]
  rfl
def part {α : Type} (z : α) (f : Nat → α) (n i : Nat) : List α := (List.range n).map fun j => if j < i then f j else z
theorem part_length {α : Type} (z : α) (f : Nat → α) (n i : Nat) : (part z f n i).length = n := by simp [part]
theorem part_get {α : Type} (z : α) (f : Nat → α) {n i j : Nat} (hj : j < n) : (part z f n i)[j]? = some (if j < i then f j else z) := by simp [part, List.getElem?_range hj]
theorem part_set {α : Type} (z : α) (f : Nat → α) {n i : Nat} (hi : i < n) : (part z f n i).set i (f i) = part z f n (i + 1) := by
 apply List.ext_getElem?
 intro j
 by_cases hj : j < n
 ·rw [List.getElem?_set, part_get z f hj, part_get z f hj]
  by_cases e : i = j
  ·subst e; simp [part_length, hi]
  ·rw [if_neg e]
   by_cases h : j < i
   ·rw [if_pos h, if_pos (by omega)]
   ·rw [if_neg h, if_neg (by omega)]
 ·rw [List.getElem?_eq_none_iff.2 (by rw [List.length_set, part_length]; omega), List.getElem?_eq_none_iff.2 (by rw [part_length]; omega)]
theorem part_none {α : Type} (z : α) (f : Nat → α) (n : Nat) : part z f n 0 = List.replicate n z := by
 apply List.ext_getElem?
 intro j
 by_cases hj : j < n
 ·rw [part_get z f hj, List.getElem?_replicate, if_pos hj, if_neg (by omega)]
 ·rw [List.getElem?_eq_none_iff.2 (by rw [part_length]; omega), List.getElem?_eq_none_iff.2 (by simp; omega)]
theorem part_all {α : Type} (z : α) (f : Nat → α) (n : Nat) : part z f n n = (List.range n).map f := by
 apply List.map_congr_left
 intro j hj
 rw [if_pos (List.mem_range.1 hj)]
theorem own_part {α : Type} {enc : α → List Value} (z : α) (zv : Value) (henc : enc z = [zv]) (e : TypeId) (f : Nat → α) (w : World) {n : Nat} (hn : n ≤ 1000000) : (w.alloc (.cells (Array.replicate n zv) e)).ownsRow w.heap.size e 1 (.slice (some (nb w)) n n) n ((part z f n 0).flatMap enc) := by
 have hf : (part z f n 0).flatMap enc = List.replicate n zv := by
  rw [part_none, List.flatMap_replicate, henc]
  simp
 rw [hf, show Array.replicate n zv = (List.replicate n zv).toArray by simp]
 exact own_made _ (by simp) hn (Nat.le_refl _)
theorem leads_spec (w : World) (n bad : Nat) (may : Value) (m : Nat → Bool) (hn : n ≤ 10000) (hm : ∀ k, k < n → ∀ w1, Below w.heap.size w w1 → CallG ctx may [.int .i64 (k : Int)] w1 (fun e w2 => e = .returned (.bool (m k)) ∧ Below w1.heap.size w1 w2)) :
  CP 78 #[.int .i64 (n : Int), .int .i64 (bad : Int), may] w fun e w' => ∃ l : Sl, e = .returned l.v ∧ l.n = n ∧ w'.ownsRow w.heap.size tInt 1 l.v l.n (((List.range n).map fun k => ((if m k then k + 1 else bad : Nat) : Int)).flatMap encInt) ∧ Below w.heap.size w w' := by
 refine calls_ret (vc78_calls n bad may w (fun u w' => ∃ l : Sl, u = l.v ∧ l.n = n ∧ w'.ownsRow w.heap.size tInt 1 l.v l.n (((List.range n).map fun k => ((if m k then k + 1 else bad : Nat) : Int)).flatMap encInt) ∧ Below w.heap.size w w') ?_) (by rintro v w' ⟨l, rfl, h⟩; exact ⟨l, rfl, h⟩)
 obtain ⟨f, hf⟩ : ∃ f : Nat → Int, f = fun k => ((if m k then k + 1 else bad : Nat) : Int) := ⟨_, rfl⟩
 refine ⟨some (nb w), n, n, _, run_makeInts w n (by omega), ?_⟩
 intro I hI
 have b0 := below_alloc w (.cells (Array.replicate n (.int .i64 0)) tInt)
 have o0 := own_part (enc := encInt) (0 : Int) (.int .i64 0) rfl tInt f w (n := n) (by omega)
 obtain ⟨l, hl⟩ : ∃ l : Sl, l = ⟨some (nb w), n, n⟩ := ⟨_, rfl⟩
 have key := climb2 (α := World) n (fun i q => q.ownsRow w.heap.size tInt 1 l.v l.n ((part 0 f n i).flatMap encInt) ∧ Below w.heap.size w q) (fun i q => I [.int .i64 (i : Int)] q) _ ⟨by subst hl; exact o0, b0⟩ ?_ ?_
 ·exact key
 ·rintro i hi ih q ⟨ho, hB⟩
  refine hI _ _ (CondP.yes (decide_eq_true (by omega)) ?_)
  intro J hJ
  have hln : l.n = n := by subst hl; rfl
  have hla : l.a = some (nb w) := by subst hl; rfl
  obtain ⟨u, fz, k⟩ := own_write (l := l) (enc := encInt) (sz := 1) (fun _ => rfl) (by decide) ho (by rw [part_length]; exact hln) hla (part_get 0 f hi) (k := 0) (by decide) (bad : Int) (.int .i64 (bad : Int)) rfl
  rw [add_zero] at u fz k
  refine NilC.mk _ rfl ⟨by omega, by omega, rfl, u, fz, ?_⟩
  intro w4 hw4
  obtain ⟨o4, _, _, b4⟩ := k w4 hw4
  have hB4 := b4 _ _ (Nat.le_refl _) hB
  refine (hm i hi w4 hB4).mono ?_
  rintro e w5 ⟨rfl, b5⟩
  have o5 := own_on o4 b5
  have hB5 := below_then hB4 b5
  refine ⟨_, rfl, CondP.mk (fun h => ?_) fun h => ?_⟩
  ·have hget : ((part 0 f n i).set i (bad : Int))[i]? = some (bad : Int) := by rw [List.getElem?_set_self (by rw [part_length]; exact hi)]
   obtain ⟨u2, fz2, k2⟩ := own_write (l := l) (enc := encInt) (sz := 1) (fun _ => rfl) (by decide) o5 (by rw [List.length_set, part_length]; exact hln) hla hget (k := 0) (by decide) ((i + 1 : Nat) : Int) (.int .i64 ((i + 1 : Nat) : Int)) rfl
   rw [add_zero] at u2 fz2 k2
   refine Ar.nat (i + 1) rfl (by omega) (NilC.mk _ rfl ⟨by omega, by omega, rfl, u2, fz2, ?_⟩)
   intro w6 hw6
   obtain ⟨o6, _, _, b6⟩ := k2 w6 hw6
   refine hJ _ (Ar.nat (i + 1) rfl (by omega) (ih w6 ⟨?_, b6 _ _ (Nat.le_refl _) hB5⟩))
   rw [List.set_set] at o6
   have := part_set (0 : Int) f hi
   rw [show f i = ((i + 1 : Nat) : Int) by rw [hf]; show ((if m i then i + 1 else bad : Nat) : Int) = _; rw [if_pos h]] at this
   rw [this] at o6
   exact o6
  ·refine hJ _ (Ar.nat (i + 1) rfl (by omega) (ih w5 ⟨?_, hB5⟩))
   have := part_set (0 : Int) f hi
   rw [show f i = (bad : Int) by rw [hf]; show ((if m i then i + 1 else bad : Nat) : Int) = _; rw [if_neg (by rw [h]; decide)]] at this
   rw [this] at o5
   exact o5
 ·rintro q ⟨ho, hB⟩
  refine hI _ _ (CondP.no (decide_eq_false (by omega)) ⟨l, by subst hl; rfl, by subst hl; rfl, ?_, hB⟩)
  rw [part_all, hf] at ho
  exact ho
theorem sh8 (x : Nat) : Int.fdiv (x : Int) (2 ^ (min (8 : Int).toNat (IntKind.bits .i64))) = ((x / 256 : Nat) : Int) := by
 rw [show (2 : Int) ^ (min (8 : Int).toNat (IntKind.bits .i64)) = ((256 : Nat) : Int) by decide, Int.fdiv_eq_ediv_of_nonneg _ (by omega)]
 rfl
theorem two_u8 (x : Nat) : (#[Value.int .u8 (IntKind.wrap .u8 (x : Int)), Value.int .u8 (IntKind.wrap .u8 (Int.fdiv (x : Int) (2 ^ (min (8 : Int).toNat (IntKind.bits .i64)))))] : Array Value) = ((num2 x).flatMap encU8).toArray := by
 rw [sh8, wrap_u8, wrap_u8]
 rfl
theorem run_make0 (w : World) (c : Nat) (hc : c ≤ 1000000) : ∃ w1, (Instr.makeSlice tBytes (.int .i64 0) (.int .i64 (c : Int))).run Tryz.prog w = .ok (.slice (some (nb w)) 0 c) w1 ∧ w1.ownsRow w.heap.size tU8 1 (.slice (some (nb w)) 0 c) 0 (([] : List UInt8).flatMap encU8) ∧ Below w.heap.size w w1 := by
 have h : (Tryz.prog.info? tU8).map (fun i => (i.zero, i.size, i.bytes)) = some (some (.int .u8 0), 1, 1) := by kernel_rfl
 obtain ⟨i, hi, he⟩ := Option.map_eq_some_iff.1 h
 simp only [Prod.mk.injEq] at he
 obtain ⟨hz, hs, hb⟩ := he
 have := Go.run_make (P := Tryz.prog) w tBytes tU8 i (.int .u8 0) (by kernel_rfl) hi hz .i64 .i64 0 (c : Int) (by omega) (by omega) (by rw [hb]; omega) (by omega)
 refine ⟨_, this, ?_, below_alloc _ _⟩
 refine ⟨rfl, .inr ⟨w.heap.size, c, _, rfl, Nat.le_refl _, alloc_new _ _, Nat.zero_le _, by unfold maxLen; omega, ?_, by simp⟩⟩
 rw [size_madeCells, hs]
 simp
theorem text17_spec (w : World) (x : Nat) (A A2 : Option Addr) (C C2 : Nat) (l of : List Nat) (hl : Rw encInt 1 w A (l.map fun i : Nat => (i : Int))) (ho : Rw encInt 1 w A2 (of.map fun i : Nat => (i : Int))) (hin : ∀ y ∈ l, y < of.length) (hn : l.length ≤ 10000) :
  CP 165 #[.int .i64 (x : Int), .slice A l.length C, .slice A2 of.length C2] w fun e w' => e = .returned (.string (str (num2 x ++ (l.map fun y => of.getD y 0).flatMap num2))) ∧ Below w.heap.size w w' := by
 refine calls_ret (vc165_calls x A l.length C A2 of.length C2 w (fun u w' => u = .string (str (num2 x ++ (l.map fun y => of.getD y 0).flatMap num2)) ∧ Below w.heap.size w w') ?_) (by rintro v w' ⟨rfl, h⟩; exact ⟨rfl, h⟩)
 obtain ⟨w1, hr1, o1, b1⟩ := run_make0 w (2 * l.length + 2) (by omega)
 refine Ar.nat (2 * l.length) (by omega) (by omega) (Ar.nat (2 * l.length + 2) (by omega) (by omega) ⟨_, _, _, w1, hr1, by decide, ?_⟩)
 intro w2 hw2
 rw [two_u8] at hw2
 have b2 : Below w1.heap.size w1 w2 := by subst hw2; exact below_alloc _ _
 have h2 : LsAt encU8 1 w2 ⟨some (nb w1), 2, 2⟩ (num2 x) := LsAt.of_own elU8 (B := 0) (by subst hw2; exact own_made (n := 2) _ rfl (by decide) (Nat.zero_le _))
 obtain ⟨f0, w3, f1, f2, f3, f4, _, _⟩ := elU8.spread (s := ⟨some (nb w), 0, 2 * l.length + 2⟩) (xs := []) (own_on o1 b2) h2 (below_then b1 b2).size (by show 0 ≤ _; omega) (by show 2 ≤ _; omega) (by decide)
 refine ⟨f0.a, f0.n, f0.c, w3, f2, ?_⟩
 intro I hI
 let g (y : Nat) : Nat := of.getD y 0
 have key := climb2 (α := Sl × World) l.length (fun i y => y.2.ownsRow w.heap.size tU8 1 y.1.v y.1.n ((num2 x ++ ((l.take i).map g).flatMap num2).flatMap encU8) ∧ y.1.n = 2 + 2 * i ∧ Below w.heap.size w y.2) (fun i y => I [.int .i64 (i : Int), y.1.v] y.2) (f0, w3) ⟨by simpa using f3, f1, f4 _ (below_then b1 b2)⟩ ?_ ?_
 ·exact key
 ·rintro i hi ih ⟨f, q⟩ ⟨hown, hfn, hB⟩
  change q.ownsRow w.heap.size tU8 1 f.v f.n _ at hown
  change f.n = 2 + 2 * i at hfn
  change Below w.heap.size w q at hB
  obtain ⟨p, hp, c0⟩ := cell_rw (hl.on hB) (show i < (l.map fun i : Nat => (i : Int)).length by simpa using hi) (v := .int .i64 ((l[i] : Nat) : Int)) (by simp [encInt])
  have hlt := hin _ (List.getElem_mem hi)
  refine hI _ f.a f.n f.c q (CondP.yes (decide_eq_true (by omega)) (NilC.mk p hp ⟨by omega, by omega, _, c0, ?_⟩))
  intro q1 hq1
  have bq1 : Below q.heap.size q q1 := by subst hq1; exact drew_on q
  have hB1 := below_then hB bq1
  obtain ⟨p2, hp2, c2⟩ := cell_rw (ho.on hB1) (show l[i] < (of.map fun i : Nat => (i : Int)).length by simpa using hlt) (v := .int .i64 ((of[l[i]] : Nat) : Int)) (by simp [encInt])
  refine NilC.mk p2 hp2 ⟨by omega, by omega, _, c2, NilC.mk p2 hp2 ⟨by omega, by omega, _, c2, by decide, ?_⟩⟩
  intro q2 hq2
  rw [two_u8] at hq2
  have bq2 : Below q1.heap.size q1 q2 := by subst hq2; exact below_alloc _ _
  have h3 : LsAt encU8 1 q2 ⟨some (nb q1), 2, 2⟩ (num2 of[l[i]]) := LsAt.of_own elU8 (B := 0) (by subst hq2; exact own_made (n := 2) _ rfl (by decide) (Nat.zero_le _))
  obtain ⟨f', q3, e1, e2, e3, e4, _, _⟩ := elU8.spread (own_on (own_on hown bq1) bq2) h3 (below_then hB1 bq2).size (by omega) (by show 2 ≤ _; omega) (by decide)
  refine ⟨f'.a, f'.n, f'.c, q3, e2, Ar.nat (i + 1) rfl (by omega) (ih (f', q3) ⟨?_, ?_, e4 _ (below_then hB1 bq2)⟩)⟩
  ·have e : num2 x ++ ((l.take (i + 1)).map g).flatMap num2 = (num2 x ++ ((l.take i).map g).flatMap num2) ++ num2 of[l[i]] := by
    have hg : g l[i] = of[l[i]] := getD_of hlt 0
    rw [List.take_add_one, List.getElem?_eq_getElem hi, List.map_append, List.flatMap_append, List.append_assoc]
    simp [hg]
   show q3.ownsRow w.heap.size tU8 1 f'.v f'.n ((num2 x ++ ((l.take (i + 1)).map g).flatMap num2).flatMap encU8)
   rw [e]
   exact e3
  ·show f'.n = 2 + 2 * (i + 1)
   change f'.n = f.n + 2 at e1
   omega
 ·rintro ⟨f, q⟩ ⟨hown, hfn, hB⟩
  change q.ownsRow w.heap.size tU8 1 f.v f.n _ at hown
  rw [List.take_length] at hown
  exact hI _ f.a f.n f.c q (CondP.no (decide_eq_false (by omega)) ⟨_, q, run_str_own (P := Tryz.prog) undBytes undU8 undStr (by rw [← u8_cells]; exact hown), rfl, hB⟩)
section
variable {κ : Type} [DecidableEq κ] [BEq κ] [LawfulBEq κ] {kv : κ → Value}
def gkm7 (k : Nat → κ) (i : Nat) : List (κ × Value) := (firsts k i).zipIdx.map fun x => (k x.1, .int .i64 (x.2 : Int))
theorem look_gkm7 (k : Nat → κ) (i : Nat) : look (k i) (gkm7 k i) = ((firsts k i).findIdx? fun a => decide (k a = k i)).map fun c : Nat => Value.int .i64 (c : Int) := by
 have := look_zipf k (k i) (firsts k i) 0
 simp only [Nat.zero_add] at this
 rw [show look (k i) (gkm7 k i) = _ from this]
 congr 1
 rw [List.idxOf?, List.findIdx?_map]
 congr 1
 funext a
 show (k a == k i) = _
 by_cases h : k a = k i
 ·simp [h]
 ·simp [h]
end
section
variable {κ : Type} [DecidableEq κ]
theorem gkm7_new {k : Nat → κ} {i : Nat} (h : firsts k (i + 1) = firsts k i ++ [i]) : gkm7 k (i + 1) = gkm7 k i ++ [(k i, .int .i64 (((firsts k i).length : Nat) : Int))] := by
 unfold gkm7
 rw [h, List.zipIdx_append, List.map_append]
 simp
theorem gkm7_length (k : Nat → κ) (i : Nat) : (gkm7 k i).length = (firsts k i).length := by simp [gkm7]
end
section
variable {κ : Type} {kv : κ → Value}
theorem run_mlen {t kt et : TypeId} (ht : Tryz.prog.underlying t = some (.map kt et)) {w : World} {r : Nat} {m : List (κ × Value)} (h : MapIs kv w r m) (t2 : TypeId) : (Builtin.len_ #[t] t2 #[.map (some r)]).run Tryz.prog w = .ok (.int .i64 (m.length : Int)) w := by
 obtain ⟨es, clock, hb, hm, _⟩ := h
 have : es.size = m.length := by
  have := congrArg List.length hm
  simpa using this
 rw [← this]
 simp [Builtin.len_, Sem.run_bind, run_underlying ht, Result.andThen, getObj_is hb, goInt]
end
def boolKey (b : Bool) : Value := .bool b
theorem keysT : KeyTy Tryz.prog tBool Bool boolKey := by
 refine keys_now (d := .bool) (by kernel_rfl) (fun a b => by cases a <;> cases b <;> rfl) (fun e k w => ?_)
 unfold Instr.checkKey
 simp [run_underlying (show Tryz.prog.underlying tBool = some .bool by kernel_rfl), Result.andThen]
theorem undMapT : Tryz.prog.underlying 299 = some (.map tBool tInt) := by kernel_rfl
theorem groupT_spec (w : World) (n : Nat) (key : Value) (k : Nat → Bool) (hn : n ≤ 10000) (his : ∀ i, i < n → ∀ w1, Below w.heap.size w w1 → CallG ctx key [.int .i64 (i : Int)] w1 (fun e w2 => e = .returned (boolKey (k i)) ∧ Below w1.heap.size w1 w2)) :
  CP 161 #[.int .i64 (n : Int), key] w fun e w' => ∃ of : Sl, e = .returned (.tuple #[of.v, .int .i64 (((firsts k n).length : Nat) : Int)]) ∧ of.n = n ∧ w'.ownsRow w.heap.size tInt 1 of.v of.n (((List.range n).map fun i => ((clsOf k i : Nat) : Int)).flatMap encInt) ∧ Below w.heap.size w w' := by
 refine calls_ret (vc161_calls n key w (fun u w' => ∃ of : Sl, u = .tuple #[of.v, .int .i64 (((firsts k n).length : Nat) : Int)] ∧ of.n = n ∧ w'.ownsRow w.heap.size tInt 1 of.v of.n (((List.range n).map fun i => ((clsOf k i : Nat) : Int)).flatMap encInt) ∧ Below w.heap.size w w') ?_) (by rintro v w' ⟨of, rfl, h⟩; exact ⟨of, rfl, h⟩)
 refine ⟨_, _, run_make _, ?_⟩
 have b1 := below_alloc w (.map #[] 0)
 have m1 : MapIs boolKey (w.alloc (.map #[] 0)) w.heap.size (gkm7 k 0) := map_new w
 obtain ⟨w1, hw1⟩ : ∃ w1, w1 = w.alloc (.map #[] 0) := ⟨_, rfl⟩
 rw [← hw1] at b1 m1
 rw [← hw1]
 refine ⟨some (nb w1), n, n, _, run_makeInts w1 n (by omega), ?_⟩
 have b2 := below_alloc w1 (.cells (Array.replicate n (.int .i64 0)) tInt)
 obtain ⟨f, hf⟩ : ∃ f : Nat → Int, f = fun i => ((clsOf k i : Nat) : Int) := ⟨_, rfl⟩
 have o2 := own_part (enc := encInt) (0 : Int) (.int .i64 0) rfl tInt f w1 (n := n) (by omega)
 obtain ⟨l, hl⟩ : ∃ l : Sl, l = ⟨some (nb w1), n, n⟩ := ⟨_, rfl⟩
 have hln : l.n = n := by subst hl; rfl
 have hla : l.a = some (nb w1) := by subst hl; rfl
 obtain ⟨w2, hw2⟩ : ∃ w2, w2 = w1.alloc (.cells (Array.replicate n (.int .i64 0)) tInt) := ⟨_, rfl⟩
 rw [← hw2] at b2 o2
 rw [← hw2]
 have s1 : w.heap.size < w1.heap.size := m1.lt
 intro I hI
 have key := climb2 (α := World) n (fun i q => q.ownsRow w1.heap.size tInt 1 l.v l.n ((part 0 f n i).flatMap encInt) ∧ MapIs boolKey q w.heap.size (gkm7 k i) ∧ Below w.heap.size w q) (fun i q => I [.int .i64 (i : Int)] q) w2 ⟨by subst hl; exact o2, m1.on b2, below_then b1 b2⟩ ?_ ?_
 ·exact key
 ·rintro i hi ih q ⟨ho, hm, hB⟩
  refine hI _ _ (CondP.yes (decide_eq_true (by omega)) ((his i hi q hB).mono ?_))
  rintro e w5 ⟨rfl, b5⟩
  have hB5 := below_then hB b5
  have ho5 := own_on ho b5
  have hm5 := hm.on b5
  have hl5 := run_look keysT undMapT zeroInt hm5 (k i)
  rw [look_gkm7] at hl5
  refine ⟨_, rfl, ?_⟩
  have next : ∀ (z : World), z.ownsRow w1.heap.size tInt 1 l.v l.n ((part 0 f n i).flatMap encInt) → MapIs boolKey z w.heap.size (gkm7 k (i + 1)) → Below w.heap.size w z →
    NilC (some (nb w1)) (fun pa => (0 : Int) ≤ (i : Int) ∧ (i : Int) < ((n : Nat) : Int) ∧
     (Value.int .i64 ((clsOf k i : Nat) : Int)).oneCell' = true ∧ (∃ u, z.cell? (pa.add ((i : Int).toNat * 1)) = some u) ∧ z.frozen? (pa.add ((i : Int).toNat * 1)) = false ∧
     ∀ w7 : World, w7 = (z.setCell (pa.add ((i : Int).toNat * 1)) (Value.int .i64 ((clsOf k i : Nat) : Int))) →
     Ar .i64 ((i : Int) + 1) (fun n_3 => I [Value.int .i64 n_3] w7)) := by
   intro z zo zm zB
   obtain ⟨u, fz, kk⟩ := own_write (l := l) (enc := encInt) (sz := 1) (fun _ => rfl) (by decide) zo (by rw [part_length]; exact hln) hla (part_get 0 f hi) (k := 0) (by decide) (f i) (.int .i64 (f i)) rfl
   rw [add_zero] at u fz kk
   refine NilC.mk _ rfl ⟨by omega, by omega, rfl, u, fz, ?_⟩
   intro w7 hw7
   rw [show ((clsOf k i : Nat) : Int) = f i by rw [hf]] at hw7
   obtain ⟨o7, s7, z7, b7⟩ := kk w7 hw7
   refine Ar.nat (i + 1) rfl (by omega) (ih w7 ⟨?_, zm.same (s7 _ (own_ne_map zo zm)), b7 _ _ (by omega) zB⟩)
   rw [part_set (0 : Int) f hi] at o7
   exact o7
  rcases firsts_step (k := k) i with ⟨c, hc, h2, h3, _⟩ | ⟨hc, h2, h3, _⟩
  ·rw [hc] at hl5
   refine ⟨_, _, w5, hl5, ?_⟩
   intro J hJ
   refine CondP.no rfl (hJ _ _ ?_)
   have := next w5 ho5 (by rw [show gkm7 k (i + 1) = gkm7 k i by unfold gkm7; rw [h2]]; exact hm5) hB5
   rw [h3] at this
   exact this
  ·rw [hc] at hl5
   refine ⟨_, _, w5, hl5, ?_⟩
   intro J hJ
   obtain ⟨w11, hr, hm11, hs11, hz11, hB11⟩ := run_put_new keysT undMapT hm5 (k i) (.int .i64 (((gkm7 k i).length : Nat) : Int)) (by rw [look_gkm7, hc]; rfl)
   refine CondP.yes rfl ⟨_, _, run_mlen undMapT hm5 _, w11, hr, hJ _ _ ?_⟩
   rw [gkm7_length] at hm11 ⊢
   have := next w11 (own_same ho5 fun j hj => hs11 j fun e => own_ne_map ho5 hm5 (by rw [hj, e])) (by rw [gkm7_new h2]; exact hm11) (hB11 _ _ (Nat.le_refl _) hB5)
   rw [h3] at this
   exact this
 ·rintro q ⟨ho, hm, hB⟩
  refine hI _ _ (CondP.no (decide_eq_false (by omega)) ⟨_, _, run_mlen undMapT hm _, l, ?_, hln, ?_, hB⟩)
  ·rw [gkm7_length]; subst hl; rfl
  ·rw [part_all, hf] at ho
   exact own_base ho (by omega)
theorem groupS_spec (w : World) (n : Nat) (key : Value) (k : Nat → Bs) (hn : n ≤ 10000) (his : ∀ i, i < n → ∀ w1, Below w.heap.size w w1 → CallG ctx key [.int .i64 (i : Int)] w1 (fun e w2 => e = .returned (strKey (k i)) ∧ Below w1.heap.size w1 w2)) :
  CP 163 #[.int .i64 (n : Int), key] w fun e w' => ∃ of : Sl, e = .returned (.tuple #[of.v, .int .i64 (((firsts k n).length : Nat) : Int)]) ∧ of.n = n ∧ w'.ownsRow w.heap.size tInt 1 of.v of.n (((List.range n).map fun i => ((clsOf k i : Nat) : Int)).flatMap encInt) ∧ Below w.heap.size w w' := by
 refine calls_ret (vc163_calls n key w (fun u w' => ∃ of : Sl, u = .tuple #[of.v, .int .i64 (((firsts k n).length : Nat) : Int)] ∧ of.n = n ∧ w'.ownsRow w.heap.size tInt 1 of.v of.n (((List.range n).map fun i => ((clsOf k i : Nat) : Int)).flatMap encInt) ∧ Below w.heap.size w w') ?_) (by rintro v w' ⟨of, rfl, h⟩; exact ⟨of, rfl, h⟩)
 refine ⟨_, _, run_make _, ?_⟩
 have b1 := below_alloc w (.map #[] 0)
 have m1 : MapIs strKey (w.alloc (.map #[] 0)) w.heap.size (gkm7 k 0) := map_new w
 obtain ⟨w1, hw1⟩ : ∃ w1, w1 = w.alloc (.map #[] 0) := ⟨_, rfl⟩
 rw [← hw1] at b1 m1
 rw [← hw1]
 refine ⟨some (nb w1), n, n, _, run_makeInts w1 n (by omega), ?_⟩
 have b2 := below_alloc w1 (.cells (Array.replicate n (.int .i64 0)) tInt)
 obtain ⟨f, hf⟩ : ∃ f : Nat → Int, f = fun i => ((clsOf k i : Nat) : Int) := ⟨_, rfl⟩
 have o2 := own_part (enc := encInt) (0 : Int) (.int .i64 0) rfl tInt f w1 (n := n) (by omega)
 obtain ⟨l, hl⟩ : ∃ l : Sl, l = ⟨some (nb w1), n, n⟩ := ⟨_, rfl⟩
 have hln : l.n = n := by subst hl; rfl
 have hla : l.a = some (nb w1) := by subst hl; rfl
 obtain ⟨w2, hw2⟩ : ∃ w2, w2 = w1.alloc (.cells (Array.replicate n (.int .i64 0)) tInt) := ⟨_, rfl⟩
 rw [← hw2] at b2 o2
 rw [← hw2]
 have s1 : w.heap.size < w1.heap.size := m1.lt
 intro I hI
 have key := climb2 (α := World) n (fun i q => q.ownsRow w1.heap.size tInt 1 l.v l.n ((part 0 f n i).flatMap encInt) ∧ MapIs strKey q w.heap.size (gkm7 k i) ∧ Below w.heap.size w q) (fun i q => I [.int .i64 (i : Int)] q) w2 ⟨by subst hl; exact o2, m1.on b2, below_then b1 b2⟩ ?_ ?_
 ·exact key
 ·rintro i hi ih q ⟨ho, hm, hB⟩
  refine hI _ _ (CondP.yes (decide_eq_true (by omega)) ((his i hi q hB).mono ?_))
  rintro e w5 ⟨rfl, b5⟩
  have hB5 := below_then hB b5
  have ho5 := own_on ho b5
  have hm5 := hm.on b5
  have hl5 := run_look keysB undMapB zeroInt hm5 (k i)
  rw [look_gkm7] at hl5
  refine ⟨_, rfl, ?_⟩
  have next : ∀ (z : World), z.ownsRow w1.heap.size tInt 1 l.v l.n ((part 0 f n i).flatMap encInt) → MapIs strKey z w.heap.size (gkm7 k (i + 1)) → Below w.heap.size w z →
    NilC (some (nb w1)) (fun pa => (0 : Int) ≤ (i : Int) ∧ (i : Int) < ((n : Nat) : Int) ∧
     (Value.int .i64 ((clsOf k i : Nat) : Int)).oneCell' = true ∧ (∃ u, z.cell? (pa.add ((i : Int).toNat * 1)) = some u) ∧ z.frozen? (pa.add ((i : Int).toNat * 1)) = false ∧
     ∀ w7 : World, w7 = (z.setCell (pa.add ((i : Int).toNat * 1)) (Value.int .i64 ((clsOf k i : Nat) : Int))) →
     Ar .i64 ((i : Int) + 1) (fun n_3 => I [Value.int .i64 n_3] w7)) := by
   intro z zo zm zB
   obtain ⟨u, fz, kk⟩ := own_write (l := l) (enc := encInt) (sz := 1) (fun _ => rfl) (by decide) zo (by rw [part_length]; exact hln) hla (part_get 0 f hi) (k := 0) (by decide) (f i) (.int .i64 (f i)) rfl
   rw [add_zero] at u fz kk
   refine NilC.mk _ rfl ⟨by omega, by omega, rfl, u, fz, ?_⟩
   intro w7 hw7
   rw [show ((clsOf k i : Nat) : Int) = f i by rw [hf]] at hw7
   obtain ⟨o7, s7, z7, b7⟩ := kk w7 hw7
   refine Ar.nat (i + 1) rfl (by omega) (ih w7 ⟨?_, zm.same (s7 _ (own_ne_map zo zm)), b7 _ _ (by omega) zB⟩)
   rw [part_set (0 : Int) f hi] at o7
   exact o7
  rcases firsts_step (k := k) i with ⟨c, hc, h2, h3, _⟩ | ⟨hc, h2, h3, _⟩
  ·rw [hc] at hl5
   refine ⟨_, _, w5, hl5, ?_⟩
   intro J hJ
   refine CondP.no rfl (hJ _ _ ?_)
   have := next w5 ho5 (by rw [show gkm7 k (i + 1) = gkm7 k i by unfold gkm7; rw [h2]]; exact hm5) hB5
   rw [h3] at this
   exact this
  ·rw [hc] at hl5
   refine ⟨_, _, w5, hl5, ?_⟩
   intro J hJ
   obtain ⟨w11, hr, hm11, hs11, hz11, hB11⟩ := run_put_new keysB undMapB hm5 (k i) (.int .i64 (((gkm7 k i).length : Nat) : Int)) (by rw [look_gkm7, hc]; rfl)
   refine CondP.yes rfl ⟨_, _, run_mlen undMapB hm5 _, w11, hr, hJ _ _ ?_⟩
   rw [gkm7_length] at hm11 ⊢
   have := next w11 (own_same ho5 fun j hj => hs11 j fun e => own_ne_map ho5 hm5 (by rw [hj, e])) (by rw [gkm7_new h2]; exact hm11) (hB11 _ _ (Nat.le_refl _) hB5)
   rw [h3] at this
   exact this
 ·rintro q ⟨ho, hm, hB⟩
  refine hI _ _ (CondP.no (decide_eq_false (by omega)) ⟨_, _, run_mlen undMapB hm _, l, ?_, hln, ?_, hB⟩)
  ·rw [gkm7_length]; subst hl; rfl
  ·rw [part_all, hf] at ho
   exact own_base ho (by omega)
abbrev tAuto : TypeId := 136
abbrev tIntss : TypeId := 120
theorem undIntss : Tryz.prog.underlying tIntss = some (.slice tInts) := by kernel_rfl
theorem infoIntss : (Tryz.prog.info? tInts).map (fun i => (i.zero, i.size, i.bytes)) = some (some (.slice none 0 0), 1, 24) := by kernel_rfl
theorem elIntss : ElT encS 1 tIntss tInts 24 := ⟨fun _ => rfl, by decide, fun x u hu => by rw [List.mem_singleton.1 hu]; rfl, undIntss, _, infoIntss, rfl⟩
abbrev nat1 (l : List Nat) : List Value := (l.map fun i : Nat => (i : Int)).flatMap encInt
structure AutR (w : World) (M : Aut) (next good : Sl) (rs : List Sl) : Prop where
 onx : w.ownsRow 0 tInts 1 next.v next.n (rs.flatMap encS)
 rl : rs.length = M.N
 each : ∀ (i : Nat) (r : Sl), rs[i]? = some r → w.ownsRow 0 tInt 1 r.v r.n (nat1 ((List.range M.n).map (M.nxt i)))
 ogd : w.ownsRow 0 tBool 1 good.v good.n (((List.range M.N).map M.good).flatMap encB1)
 ok : M.Ok
theorem AutR.on {w w' : World} {M : Aut} {next good : Sl} {rs : List Sl} (h : AutR w M next good rs) (hb : Below w.heap.size w w') : AutR w' M next good rs :=
 ⟨own_on h.onx hb, h.rl, fun i r hr => own_on (h.each i r hr) hb, own_on h.ogd hb, h.ok⟩
theorem AutR.touch {w w' : World} {M : Aut} {next good : Sl} {rs : List Sl} (h : AutR w M next good rs) {a : Nat} {c : Array Value} (hb : w.heap[a]? = some (.cells c tAuto (0, 0))) (t : Touch a w w') : AutR w' M next good rs :=
 ⟨t.own h.onx (row_ne_blk h.onx hb (by decide)), h.rl, fun i r hr => t.own (h.each i r hr) (row_ne_blk (h.each i r hr) hb (by decide)), t.own h.ogd (row_ne_blk h.ogd hb (by decide)), h.ok⟩
theorem AutR.len {w : World} {M : Aut} {next good : Sl} {rs : List Sl} (h : AutR w M next good rs) : next.n = M.N ∧ good.n = M.N := by
 have h1 := (LsAt.of_own elIntss h.onx).n
 have h2 := (LsAt.of_own elBl h.ogd).n
 exact ⟨by rw [h1, h.rl], by simpa using h2⟩
theorem AutR.row {w : World} {M : Aut} {next good : Sl} {rs : List Sl} (h : AutR w M next good rs) {i : Nat} (hi : i < M.N) : ∃ (p : Addr) (r : Sl), next.a = some p ∧ w.cell? (p.add (i * 1)) = some (.slice r.a r.n r.c) ∧ r.n = M.n ∧ Rw encInt 1 w r.a (((List.range M.n).map (M.nxt i)).map fun i : Nat => (i : Int)) := by
 have hls := LsAt.of_own elIntss h.onx
 have hl : i < rs.length := by rw [h.rl]; exact hi
 obtain ⟨p, hp, c⟩ := cell_rw hls.r hl (v := rs[i].v) rfl
 have hr := LsAt.of_own elInt (h.each i _ (List.getElem?_eq_getElem hl))
 exact ⟨p, rs[i], hp, c, by simpa using hr.n, hr.r⟩
theorem AutR.rowAt {w : World} {M : Aut} {next good : Sl} {rs : List Sl} (h : AutR w M next good rs) {i : Nat} (hi : i < M.N) (hl : i < rs.length) : ∃ p : Addr, next.a = some p ∧ w.cell? (p.add (i * 1)) = some (.slice rs[i].a rs[i].n rs[i].c) ∧ rs[i].n = M.n ∧ Rw encInt 1 w rs[i].a (((List.range M.n).map (M.nxt i)).map fun i : Nat => (i : Int)) := by
 have hls := LsAt.of_own elIntss h.onx
 obtain ⟨p, hp, c⟩ := cell_rw hls.r hl (v := rs[i].v) rfl
 have hr := LsAt.of_own elInt (h.each i _ (List.getElem?_eq_getElem hl))
 exact ⟨p, hp, c, by simpa using hr.n, hr.r⟩
theorem AutR.good {w : World} {M : Aut} {next good : Sl} {rs : List Sl} (h : AutR w M next good rs) {i : Nat} (hi : i < M.N) : ∃ p : Addr, good.a = some p ∧ w.cell? (p.add (i * 1)) = some (.bool (M.good i)) := by
 have hls := LsAt.of_own elBl h.ogd
 obtain ⟨p, hp, c⟩ := cell_rw hls.r (show i < ((List.range M.N).map M.good).length by simpa using hi) (v := .bool (M.good i)) (by simp [encB1])
 exact ⟨p, hp, c⟩
theorem nums_cell {w : World} {A : Option Addr} {n : Nat} {f : Nat → Nat} (h : Rw encInt 1 w A (((List.range n).map f).map fun i : Nat => (i : Int))) {i : Nat} (hi : i < n) : ∃ p : Addr, A = some p ∧ w.cell? (p.add (i * 1)) = some (.int .i64 ((f i : Nat) : Int)) :=
 cell_rw h (show i < (((List.range n).map f).map fun i : Nat => (i : Int)).length by simpa using hi) (v := .int .i64 ((f i : Nat) : Int)) (by simp [encInt])
theorem acell {w : World} {a : Nat} {c : Array Value} {fz : Nat × Nat} (h : w.heap[a]? = some (.cells c tAuto fz)) (j : Nat) : w.cell? ((⟨a, 0, none⟩ : Addr).add j) = c[j]? := ptr_add0 _ _ h j
theorem states_spec (w : World) (a : Nat) {c : Array Value} {fz : Nat × Nat} (h : w.heap[a]? = some (.cells c tAuto fz)) (next : Sl) (h1 : c[1]? = some next.v) :
  CP 43 #[.pointer (some ⟨a, 0, none⟩)] w fun e w' => e = .returned (.int .i64 (next.n : Int)) ∧ w' = w := by
 refine calls_ret (vc43_calls (some ⟨a, 0, none⟩) w (fun u w' => u = .int .i64 (next.n : Int) ∧ w' = w) ?_) (by rintro v w' ⟨rfl, h⟩; exact ⟨rfl, h⟩)
 exact CondP.no rfl (NilC.mk _ rfl ⟨_, _, _, by rw [acell h]; exact h1, rfl, rfl⟩)
theorem keyA1_spec (w : World) (cb a : Nat) {ec : TypeId} (hc : w.heap[cb]? = some (.cells #[.pointer (some ⟨a, 0, none⟩)] ec (0, 0))) {c : Array Value} {fz : Nat × Nat} (h : w.heap[a]? = some (.cells c tAuto fz)) (M : Aut) (next good : Sl) (rs : List Sl) (hM : AutR w M next good rs) (h2 : c[2]? = some good.v) (i : Nat) (hi : i < M.N) :
  CP 162 #[.int .i64 (i : Int), .pointer (some ⟨cb, 0, none⟩)] w fun e w' => e = .returned (boolKey (M.good i)) ∧ Below w.heap.size w w' := by
 refine calls_ret (vc162_calls i (some ⟨cb, 0, none⟩) w (fun u w' => u = boolKey (M.good i) ∧ Below w.heap.size w w') ?_) (by rintro v w' ⟨rfl, h⟩; exact ⟨rfl, h⟩)
 obtain ⟨p, hp, hg⟩ := hM.good hi
 have hl := hM.len.2
 exact NilC.mk _ rfl ⟨_, cell1 hc, NilC.mk _ rfl ⟨_, _, _, by rw [acell h]; exact h2, NilC.mk p hp ⟨by omega, by omega, _, hg, rfl, Below.refl _ _⟩⟩⟩
theorem keyA2_spec (w : World) (ob cb a : Nat) {eo ec : TypeId} (of : Sl) (f : Nat → Nat) (ho : w.heap[ob]? = some (.cells #[of.v] eo (0, 0))) (hc : w.heap[cb]? = some (.cells #[.pointer (some ⟨a, 0, none⟩)] ec (0, 0))) {c : Array Value} {fz : Nat × Nat} (h : w.heap[a]? = some (.cells c tAuto fz)) (M : Aut) (next good : Sl) (rs : List Sl) (hM : AutR w M next good rs) (h1 : c[1]? = some next.v) (hof : w.ownsRow 0 tInt 1 of.v of.n (nat1 ((List.range M.N).map f))) (hn : M.n ≤ 10000) (i : Nat) (hi : i < M.N) :
  CP 164 #[.int .i64 (i : Int), .pointer (some ⟨ob, 0, none⟩), .pointer (some ⟨cb, 0, none⟩)] w fun e w' => e = .returned (strKey (M.keyT f i)) ∧ Below w.heap.size w w' := by
 refine calls_ret (vc164_calls i (some ⟨ob, 0, none⟩) (some ⟨cb, 0, none⟩) w (fun u w' => u = strKey (M.keyT f i) ∧ Below w.heap.size w w') ?_) (by rintro v w' ⟨rfl, h⟩; exact ⟨rfl, h⟩)
 intro w1 hw1
 have b1 : Below w.heap.size w w1 := by subst hw1; exact drew_on w
 have hof1 := LsAt.of_own elInt (own_on hof b1)
 have hofn : of.n = ((List.range M.N).map f).length := by simpa using hof1.n
 have hM1 := hM.on b1
 obtain ⟨p, hp, c0⟩ := nums_cell hof1.r hi
 obtain ⟨p2, r, hp2, c2, hrn, hr⟩ := hM1.row hi
 have hln := hM1.len.1
 have hlen : ((List.range M.N).map f).length = M.N := by simp
 have hfa : (M.n = ((List.range M.n).map (M.nxt i)).length) := by simp
 refine NilC.mk _ rfl ⟨_, _, _, cell1 (held_on b1 ho), NilC.mk p hp ⟨by omega, by omega, _, c0, NilC.mk _ rfl ⟨_, cell1 (held_on b1 hc), NilC.mk _ rfl ⟨_, _, _, by rw [acell (held_on b1 h)]; exact h1, NilC.mk p2 hp2 ⟨by omega, by omega, _, _, _, c2, NilC.mk _ rfl ⟨_, _, _, cell1 (held_on b1 ho), ?_⟩⟩⟩⟩⟩⟩
 have ht := text17_spec w1 (f i) r.a of.a r.c of.c ((List.range M.n).map (M.nxt i)) ((List.range M.N).map f) hr hof1.r (by
  intro y hy
  obtain ⟨k, hk, rfl⟩ := List.mem_map.1 hy
  rw [hlen]
  exact hM.ok.lt _ _ hi (List.mem_range.1 hk)) (by simp; exact hn)
 rw [← hfa, ← hofn, ← hrn] at ht
 refine ht.mono ?_
 rintro e w2 ⟨rfl, b2⟩
 refine ⟨_, rfl, ?_, below_then b1 b2⟩
 show Value.string (str _) = Value.string (str _)
 congr 2
 unfold Aut.keyT
 congr 2
 rw [hrn, List.map_map]
 apply List.map_congr_left
 intro k hk
 show ((List.range M.N).map f).getD (M.nxt i k) 0 = f (M.nxt i k)
 have := hM.ok.lt _ _ hi (List.mem_range.1 hk)
 simp [List.getD, this]
set_option maxHeartbeats 1000000 in
theorem refine_spec (w : World) (a : Nat) (c : Array Value) (h : w.heap[a]? = some (.cells c tAuto (0, 0))) (hs : c.size = 7) (M : Aut) (next good : Sl) (rs : List Sl) (hM : AutR w M next good rs) (h1 : c[1]? = some next.v) (h2 : c[2]? = some good.v) (hN : M.N ≤ 10000) (hn : M.n ≤ 10000) :
  CP 114 #[.pointer (some ⟨a, 0, none⟩)] w fun e w' => e = .returned (.tuple #[]) ∧ ∃ (of : Sl) (f : Nat → Nat), w'.heap[a]? = some (.cells (c.setIfInBounds 6 of.v) tAuto (0, 0)) ∧ Aut.Cls M f ∧ of.n = M.N ∧ w'.ownsRow w.heap.size tInt 1 of.v of.n (nat1 ((List.range M.N).map f)) ∧ Touch a w w' := by
 refine calls_ret (vc114_calls (some ⟨a, 0, none⟩) w (fun u w' => u = .tuple #[] ∧ ∃ (of : Sl) (f : Nat → Nat), w'.heap[a]? = some (.cells (c.setIfInBounds 6 of.v) tAuto (0, 0)) ∧ Aut.Cls M f ∧ of.n = M.N ∧ w'.ownsRow w.heap.size tInt 1 of.v of.n (nat1 ((List.range M.N).map f)) ∧ Touch a w w') ?_) (by rintro v w' ⟨rfl, h⟩; exact ⟨rfl, h⟩)
 intro w1 hw1
 have b1 : Below w.heap.size w w1 := by subst hw1; exact below_alloc _ _
 have c1 : w1.heap[w.heap.size]? = some (.cells #[.pointer (some ⟨a, 0, none⟩)] 62 (0, 0)) := by subst hw1; exact alloc_new _ _
 have lt1 := (Array.getElem?_eq_some_iff.1 c1).1
 have hal : a < w.heap.size := (Array.getElem?_eq_some_iff.1 h).1
 have hok := hM.ok
 obtain ⟨hnl, hgl⟩ := hM.len
 refine ⟨_, cell1 c1, (states_spec w1 a (held_on b1 h) next h1).mono ?_⟩
 rintro e w2 ⟨rfl, rfl⟩
 rw [hnl]
 refine ⟨_, rfl, (groupT_spec w2 M.N _ M.good hN fun i hi q hq => callG_of (by kernel_rfl) (keyA1_spec q w.heap.size a (held_on hq c1) (held_on hq (held_on b1 h)) M next good rs ((hM.on b1).on hq) h2 i hi)).mono ?_⟩
 rintro e w3 ⟨of, rfl, hofn, hof, b3⟩
 have hb3 := below_then b1 b3
 have c3 := held_on b3 c1
 refine ⟨_, _, _, _, rfl, ?_⟩
 intro w4 hw4
 refine box_store hw4 rfl ?_
 intro w5 o5 b5
 have hb5 := below_then hb3 b5
 have c5 := held_on b5 c3
 have lt3 : w.heap.size < w3.heap.size := (Array.getElem?_eq_some_iff.1 c3).1
 intro I hI
 have bar : ∀ (q : World) (of : Sl) (f : Nat → Nat), q.ownsRow w.heap.size tInt 1 of.v of.n (((List.range M.N).map fun i => ((f i : Nat) : Int)).flatMap encInt) → q.ownsRow w.heap.size tInt 1 of.v of.n (nat1 ((List.range M.N).map f)) := by
  intro q of f h
  unfold nat1
  rw [List.map_map]
  exact h
 have round : ∀ (r : Nat) (q : World) (of : Sl), q.heap[w3.heap.size]? = some (.cells #[of.v] tInts (0, 0)) → q.ownsRow w.heap.size tInt 1 of.v of.n (nat1 ((List.range M.N).map (M.ofR r))) → Below w.heap.size w q → q.heap[w.heap.size]? = some (.cells #[.pointer (some ⟨a, 0, none⟩)] 62 (0, 0)) →
   (M.cntR (r + 1) ≠ M.cntR r → ∀ (q' : World) (of' : Sl), q'.heap[w3.heap.size]? = some (.cells #[of'.v] tInts (0, 0)) → q'.ownsRow w.heap.size tInt 1 of'.v of'.n (nat1 ((List.range M.N).map (M.ofR (r + 1)))) → Below w.heap.size w q' → q'.heap[w.heap.size]? = some (.cells #[.pointer (some ⟨a, 0, none⟩)] 62 (0, 0)) → I [.int .i64 ((M.cntR (r + 1) : Nat) : Int)] q') → I [.int .i64 ((M.cntR r : Nat) : Int)] q := by
  intro r q of ho hof hB hcq again
  have hq := held_on hB h
  have hMq := hM.on hB
  refine hI _ _ ⟨_, cell1 hcq, (states_spec q a hq next h1).mono ?_⟩
  rintro e q1 ⟨rfl, rfl⟩
  rw [hnl]
  refine ⟨_, rfl, (groupS_spec q1 M.N _ (M.keyT (M.ofR r)) hN fun i hi z hz => callG_of (by kernel_rfl) (keyA2_spec z w3.heap.size w.heap.size a of (M.ofR r) (held_on hz ho) (held_on hz hcq) (held_on hz hq) M next good rs (hMq.on hz) h1 (own_base (own_on hof hz) (Nat.zero_le _)) hn i hi)).mono ?_⟩
  rintro e q2 ⟨of', rfl, hofn, hof', b2⟩
  have hB2 := below_then hB b2
  have ho2 := held_on b2 ho
  have hof2 := bar _ _ _ (own_base hof' (show w.heap.size ≤ _ from hB.size))
  refine ⟨_, _, _, _, rfl, rfl, ⟨_, cell1 ho2⟩, frozen_heap ho2, ?_⟩
  intro q3 hq3
  have ho3 : q3.heap[w3.heap.size]? = some (.cells #[of'.v] tInts (0, 0)) := by subst hq3; exact setCell_heap ho2 of'.v
  have hB3 : Below w.heap.size w q3 := by subst hq3; exact hB2.setCell (p := ⟨w3.heap.size, 0, none⟩) (by show w.heap.size ≤ w3.heap.size; omega) _
  have hof3 : q3.ownsRow w.heap.size tInt 1 of'.v of'.n (nat1 ((List.range M.N).map (M.ofR (r + 1)))) := by subst hq3; exact own_setCell hof2 _ (row_ne_blk hof2 ho2 (by decide))
  have hc3 : q3.heap[w.heap.size]? = some (.cells #[.pointer (some ⟨a, 0, none⟩)] 62 (0, 0)) := by
   subst hq3
   rw [heap_setCell_ne (show w.heap.size ≠ w3.heap.size by omega)]
   exact held_on b2 hcq
  have hcnt : (firsts (M.keyT (M.ofR r)) M.N).length = M.cntR (r + 1) := rfl
  rw [hcnt]
  by_cases he : M.cntR (r + 1) = M.cntR r
  ·have ha3 := held_on hB3 h
   have e6 : ((⟨a, 0, none⟩ : Addr).add 3).add 3 = (⟨a, 0, none⟩ : Addr).add 6 := by rw [Addr.add_add]
   refine CondP.yes (by rw [he]; simp) ⟨_, cell1 hc3, _, _, _, cell1 ho3, NilC.mk _ rfl ⟨rfl, ⟨c[6]'(by omega), by rw [e6, cell_put ha3, Array.getElem?_eq_getElem (by omega)]⟩, by rw [e6]; exact frozen_put ha3, ?_⟩⟩
   intro q4 hq4
   rw [e6] at hq4
   refine ⟨rfl, of', M.ofR (r + 1), by subst hq4; exact heap_put ha3 _, Aut.cls_done hok he, hofn, ?_, ?_⟩
   ·subst hq4
    exact own_setCell hof3 _ (by rw [add_block]; exact row_ne_blk hof3 ha3 (by decide))
   ·refine (Touch.of_below hB3).trans ?_
    subst hq4
    exact ⟨rfl, rfl, rfl, by rw [size_setCell]; exact Nat.le_refl _, fun k _ hk => heap_setCell_ne (by rw [add_block]; exact hk)⟩
  ·refine CondP.no (by simp; omega) (again he q3 of' ho3 hof3 hB3 hc3)
 have loop : ∀ (d r : Nat) (q : World) (of : Sl), M.N - M.cntR r ≤ d → q.heap[w3.heap.size]? = some (.cells #[of.v] tInts (0, 0)) → q.ownsRow w.heap.size tInt 1 of.v of.n (nat1 ((List.range M.N).map (M.ofR r))) → Below w.heap.size w q → q.heap[w.heap.size]? = some (.cells #[.pointer (some ⟨a, 0, none⟩)] 62 (0, 0)) → I [.int .i64 ((M.cntR r : Nat) : Int)] q := by
  intro d
  induction d with
  | zero =>
   intro r q of hd ho hof hB hcq
   refine round r q of ho hof hB hcq fun hne => ?_
   have := Aut.cntR_mono hok r
   have := Aut.cntR_le (M := M) (r + 1)
   omega
  | succ d ihd =>
   intro r q of hd ho hof hB hcq
   refine round r q of ho hof hB hcq fun hne q' of' h1 h2 h3 h4 => ihd (r + 1) q' of' ?_ h1 h2 h3 h4
   have := Aut.cntR_mono hok r
   have := Aut.cntR_le (M := M) (r + 1)
   omega
 exact loop M.N 0 w5 of (by omega) o5 (bar _ _ _ (own_base (own_on hof b5) (by omega))) hb5 c5
set_option maxHeartbeats 1600000 in
theorem once_slow17 (v : Nat) (w : World) (K : World → Prop)
  (hfind : CP 114 #[.pointer (some ⟨v, 0, none⟩)] (w.setCell ⟨v, 4, none⟩ (.int .i32 1)) fun e w' => e = .returned (.tuple #[]) ∧ K w')
  (hK : ∀ w', K w' → w'.cell? ⟨v, 3, none⟩ = some (.int .u32 0) ∧ w'.frozen? ⟨v, 3, none⟩ = false ∧ w'.cell? ⟨v, 4, none⟩ = some (.int .i32 1) ∧ w'.frozen? ⟨v, 4, none⟩ = false)
  (h0 : w.cell? ⟨v, 3, none⟩ = some (.int .u32 0)) (h1 : w.cell? ⟨v, 4, none⟩ = some (.int .i32 0)) (f0 : w.frozen? ⟨v, 3, none⟩ = false) (f1 : w.frozen? ⟨v, 4, none⟩ = false) :
  CP 160 #[.pointer (some ⟨v, 3, none⟩), .func (.func 114) #[.pointer (some ⟨v, 0, none⟩)] #[]] w fun e w' => e = .returned (.tuple #[]) ∧ ∃ w2, K w2 ∧ w' = (w2.drew.setCell ⟨v, 3, none⟩ (.int .u32 1)).setCell ⟨v, 4, none⟩ (.int .i32 0) := by
 have hl := run_call_load (P := Tryz.prog) Tryz.func217 (by kernel_rfl) (by kernel_rfl) (by kernel_rfl) .u32 (by kernel_rfl) (w := w.setCell ⟨v, 4, none⟩ (.int .i32 1)) (a := ⟨v, 3, none⟩) (x := 0) ((World.cell?_setCell_other _ ⟨v, 4, none⟩ ⟨v, 3, none⟩ _ (by simp)).trans h0)
 have hnot : ∀ (x : Bool) (w : World), (Op.unary .not (.bool x)).run Tryz.prog w = .ok (.bool (!x)) w := fun _ _ => rfl
 go_enter_defers Tryz.func160, Tryz.ntmps160
 go_wp2_with (go_at_call 218; refine (once_lock ⟨v, 4, none⟩ _ (by go_simp) (by go_simp)).mono ?_; rintro e w' ⟨rfl, rfl⟩)
 go_wp2_with (first | (go_at_call 114; refine hfind.mono ?_; rintro e w' ⟨rfl, hk⟩) | go_in)
 obtain ⟨k0, k1, k2, k3⟩ := hK _ hk
 refine leaves_cons (f := 220) (args := #[.pointer (some ⟨v, 3, none⟩), .bool true]) (by simp) (by simp [go_sem]) ?_
 refine (once_store ⟨v, 3, none⟩ (.int .u32 0) .returning _ k0 k1).mono ?_
 rintro e u' w'' ⟨rfl, rfl, rfl⟩
 refine leaves_cons (f := 219) (args := #[.pointer (some ⟨v, 4, none⟩)]) (by simp [settle]) (by simp [go_sem]) ?_
 refine (once_unlock ⟨v, 4, none⟩ _ _ ?_ ?_).mono ?_
 ·refine (World.cell?_setCell_other _ ⟨v, 3, none⟩ ⟨v, 4, none⟩ _ (by simp)).trans ?_
  rw [World.cell?_drew]
  exact k2
 ·simp [k3]
 rintro e u' w'' ⟨rfl, rfl, rfl⟩
 simp [Leaves, settle, results, Tryz.results160]
 exact ⟨_, hk, rfl⟩
set_option maxHeartbeats 1600000 in
theorem once_do17 (v : Nat) (w : World) (K : World → Prop)
  (hfind : CP 114 #[.pointer (some ⟨v, 0, none⟩)] (w.setCell ⟨v, 4, none⟩ (.int .i32 1)) fun e w' => e = .returned (.tuple #[]) ∧ K w')
  (hK : ∀ w', K w' → w'.cell? ⟨v, 3, none⟩ = some (.int .u32 0) ∧ w'.frozen? ⟨v, 3, none⟩ = false ∧ w'.cell? ⟨v, 4, none⟩ = some (.int .i32 1) ∧ w'.frozen? ⟨v, 4, none⟩ = false)
  (h0 : w.cell? ⟨v, 3, none⟩ = some (.int .u32 0)) (h1 : w.cell? ⟨v, 4, none⟩ = some (.int .i32 0)) (f0 : w.frozen? ⟨v, 3, none⟩ = false) (f1 : w.frozen? ⟨v, 4, none⟩ = false) :
  CP 113 #[.pointer (some ⟨v, 3, none⟩), .func (.func 114) #[.pointer (some ⟨v, 0, none⟩)] #[]] w fun e w' => e = .returned (.tuple #[]) ∧ ∃ w2, K w2 ∧ w' = (w2.drew.setCell ⟨v, 3, none⟩ (.int .u32 1)).setCell ⟨v, 4, none⟩ (.int .i32 0) := by
 have hl := run_call_load (P := Tryz.prog) Tryz.func217 (by kernel_rfl) (by kernel_rfl) (by kernel_rfl) .u32 (by kernel_rfl) h0
 have hnot : ∀ (x : Bool) (w : World), (Op.unary .not (.bool x)).run Tryz.prog w = .ok (.bool (!x)) w := fun _ _ => rfl
 go_enter Tryz.func113, Tryz.ntmps113
 go_wp2_with (first | (go_at_call 160; refine (once_slow17 v w K hfind hK h0 h1 f0 f1).mono ?_; rintro e w' ⟨rfl, hk⟩) | (go_at_call 159; go_in))
 go_end0
 exact ⟨rfl, hk⟩
abbrev autC (g : Nat) (next good : Sl) (d l : Int) (of : Sl) : Array Value := #[.pointer (some ⟨g, 0, none⟩), next.v, good.v, .int .u32 d, .int .i32 l, .int .u32 0, of.v]
def AutW (w : World) (a g : Nat) (M : Aut) (o : Option (Nat → Nat)) : Prop := ∃ (next good of : Sl) (rs : List Sl) (d : Int), w.heap[a]? = some (.cells (autC g next good d 0 of) tAuto (0, 0)) ∧ AutR w M next good rs ∧ (match o with
 | none => d = 0 ∧ of = sl0
 | some f => d = 1 ∧ Aut.Cls M f ∧ of.n = M.N ∧ w.ownsRow 0 tInt 1 of.v of.n (nat1 ((List.range M.N).map f)))
def AutIs (w : World) (a g : Nat) (M : Aut) : Prop := ∃ o, AutW w a g M o
theorem AutW.on {w w' : World} {a g : Nat} {M : Aut} {o : Option (Nat → Nat)} (h : AutW w a g M o) (hb : Below w.heap.size w w') : AutW w' a g M o := by
 obtain ⟨next, good, of, rs, d, h1, h2, h3⟩ := h
 refine ⟨next, good, of, rs, d, held_on hb h1, h2.on hb, ?_⟩
 cases o with
 | none => exact h3
 | some f => exact ⟨h3.1, h3.2.1, h3.2.2.1, own_on h3.2.2.2 hb⟩
theorem AutIs.on {w w' : World} {a g : Nat} {M : Aut} (h : AutIs w a g M) (hb : Below w.heap.size w w') : AutIs w' a g M := by
 obtain ⟨o, h⟩ := h
 exact ⟨o, h.on hb⟩
theorem AutW.lt {w : World} {a g : Nat} {M : Aut} {o : Option (Nat → Nat)} (h : AutW w a g M o) : a < w.heap.size := by
 obtain ⟨next, good, of, rs, d, h1, _⟩ := h
 exact (Array.getElem?_eq_some_iff.1 h1).1
theorem aput {w : World} {a : Nat} {c : Array Value} (h : w.heap[a]? = some (.cells c tAuto (0, 0))) (j : Nat) (u : Value) :
  (w.setCell ⟨a, j, none⟩ u).heap[a]? = some (.cells (c.setIfInBounds j u) tAuto (0, 0)) ∧ Touch a w (w.setCell ⟨a, j, none⟩ u) :=
 ⟨setCell_heap h u, ⟨rfl, rfl, rfl, by rw [size_setCell]; exact Nat.le_refl _, fun k _ hk => heap_setCell_ne hk⟩⟩
theorem alike_spec (w : World) (a g : Nat) (M : Aut) (o : Option (Nat → Nat)) (h : AutW w a g M o) (hN : M.N ≤ 10000) (hn : M.n ≤ 10000) :
  CP 76 #[.pointer (some ⟨a, 0, none⟩)] w fun e w' => ∃ (of : Sl) (f : Nat → Nat), e = .returned of.v ∧ (∀ f0, o = some f0 → f = f0 ∧ w' = w) ∧ of.n = M.N ∧ Rw encInt 1 w' of.a (((List.range M.N).map f).map fun i : Nat => (i : Int)) ∧ AutW w' a g M (some f) ∧ Touch a w w' := by
 obtain ⟨next, good, of, rs, d, hblk, hM, ho⟩ := h
 refine calls_ret (vc76_calls (some ⟨a, 0, none⟩) w (fun u w' => ∃ (of : Sl) (f : Nat → Nat), u = of.v ∧ (∀ f0, o = some f0 → f = f0 ∧ w' = w) ∧ of.n = M.N ∧ Rw encInt 1 w' of.a (((List.range M.N).map f).map fun i : Nat => (i : Int)) ∧ AutW w' a g M (some f) ∧ Touch a w w') ?_) (by rintro v w' ⟨of, f, rfl, h⟩; exact ⟨of, f, rfl, h⟩)
 have e3 : ((⟨a, 0, none⟩ : Addr).add 3).add 0 = ⟨a, 3, none⟩ := by rw [add_lit, add_lit]
 have e6 : ((⟨a, 0, none⟩ : Addr).add 3).add 3 = (⟨a, 0, none⟩ : Addr).add 6 := by rw [Addr.add_add]
 have at_ : ∀ {w' : World} {c : Array Value}, w'.heap[a]? = some (.cells c tAuto (0, 0)) → ∀ j, w'.cell? ⟨a, j, none⟩ = c[j]? := fun h j => cell_heap h
 have fz : ∀ {w' : World} {c : Array Value}, w'.heap[a]? = some (.cells c tAuto (0, 0)) → ∀ j, w'.frozen? ⟨a, j, none⟩ = false := fun h j => frozen_heap h
 refine NilC.mk _ rfl ?_
 rw [e3]
 have rest : ∀ (w3 : World) (of3 : Sl) (f : Nat → Nat), (∀ f0, o = some f0 → f = f0 ∧ w3 = w) → w3.heap[a]? = some (.cells (autC g next good 1 0 of3) tAuto (0, 0)) → Aut.Cls M f → of3.n = M.N → w3.ownsRow 0 tInt 1 of3.v of3.n (nat1 ((List.range M.N).map f)) → Touch a w w3 →
   NilC (some ⟨a, 0, none⟩) (fun pa_1 => ∃ lA : Option Addr, ∃ lN : Nat, ∃ lC : Nat, w3.cell? ((pa_1.add 3).add 3) = some (Value.slice lA lN lC) ∧
    (∃ (of : Sl) (f : Nat → Nat), Value.slice lA lN lC = of.v ∧ (∀ f0, o = some f0 → f = f0 ∧ w3 = w) ∧ of.n = M.N ∧ Rw encInt 1 w3 of.a (((List.range M.N).map f).map fun i : Nat => (i : Int)) ∧ AutW w3 a g M (some f) ∧ Touch a w w3)) := by
  intro w3 of3 f hf hb hc hl hown t
  exact NilC.mk _ rfl ⟨_, _, _, by rw [e6, acell hb]; rfl, of3, f, rfl, hf, hl, (LsAt.of_own elInt hown).r, ⟨next, good, of3, rs, 1, hb, hM.touch hblk t, rfl, hc, hl, hown⟩, t⟩
 cases o with
 | none =>
  obtain ⟨rfl, rfl⟩ := ho
  obtain ⟨b2, t2⟩ := aput hblk 4 (.int .i32 1)
  have hM2 := hM.touch hblk t2
  refine (once_do17 a w (fun w' => ∃ (of : Sl) (f : Nat → Nat), w'.heap[a]? = some (.cells (((autC g next good 0 0 sl0).setIfInBounds 4 (.int .i32 1)).setIfInBounds 6 of.v) tAuto (0, 0)) ∧ Aut.Cls M f ∧ of.n = M.N ∧ w'.ownsRow (w.setCell ⟨a, 4, none⟩ (.int .i32 1)).heap.size tInt 1 of.v of.n (nat1 ((List.range M.N).map f)) ∧ Touch a (w.setCell ⟨a, 4, none⟩ (.int .i32 1)) w') (refine_spec _ a _ b2 rfl M next good rs hM2 rfl rfl hN hn) ?_ (at_ hblk 3) (at_ hblk 4) (fz hblk 3) (fz hblk 4)).mono ?_
  ·rintro w' ⟨of', f, hb', _⟩
   exact ⟨at_ hb' 3, fz hb' 3, at_ hb' 4, fz hb' 4⟩
  ·rintro e w3 ⟨rfl, wf, ⟨of', f, hbf, hc, hl, hof, tf⟩, hw3⟩
   refine ⟨rfl, ?_⟩
   have hbd : wf.drew.heap[a]? = some (.cells (((autC g next good 0 0 sl0).setIfInBounds 4 (.int .i32 1)).setIfInBounds 6 of'.v) tAuto (0, 0)) := hbf
   obtain ⟨b4, t4⟩ := aput hbd 3 (.int .u32 1)
   obtain ⟨b5, t5⟩ := aput b4 4 (.int .i32 0)
   rw [← hw3] at b5 t5
   have tt : Touch a wf w3 := ((Touch.of_below (drew_on wf)).trans t4).trans t5
   exact rest w3 of' f (fun f0 h => by cases h) b5 hc hl (tt.own (own_base hof (Nat.zero_le _)) (row_ne_blk hof hbf (by decide))) ((t2.trans tf).trans tt)
 | some f =>
  obtain ⟨rfl, hc, hl, hown⟩ := ho
  refine (once_done ⟨a, 3, none⟩ 1 (by decide) _ w (at_ hblk 3)).mono ?_
  rintro e w3 ⟨rfl, hw⟩
  subst hw
  exact ⟨rfl, rest w3 of f (fun f0 h => by cases h; exact ⟨rfl, rfl⟩) hblk hc hl hown (Touch.of_below (Below.refl _ _))⟩
theorem AutW.blk {w : World} {a g : Nat} {M : Aut} {o : Option (Nat → Nat)} (h : AutW w a g M o) : ∃ (next good of : Sl) (rs : List Sl) (d : Int), w.heap[a]? = some (.cells (autC g next good d 0 of) tAuto (0, 0)) ∧ AutR w M next good rs := by
 obtain ⟨next, good, of, rs, d, h1, h2, _⟩ := h
 exact ⟨next, good, of, rs, d, h1, h2⟩
theorem aStates_spec (w : World) (a g : Nat) (M : Aut) (h : AutIs w a g M) :
  CP 43 #[.pointer (some ⟨a, 0, none⟩)] w fun e w' => e = .returned (.int .i64 (M.N : Int)) ∧ w' = w := by
 obtain ⟨o, h⟩ := h
 obtain ⟨next, good, of, rs, d, h1, h2⟩ := h.blk
 have := states_spec w a h1 next rfl
 rw [h2.len.1] at this
 exact this
theorem aHas_spec (w : World) (a g : Nat) (M : Aut) (h : AutIs w a g M) (x : Int) :
  CP 75 #[.pointer (some ⟨a, 0, none⟩), .int .i64 x] w fun e w' => e = .returned (.bool (decide (0 ≤ x ∧ x < (M.N : Int)))) ∧ w' = w := by
 refine calls_ret (vc75_calls (some ⟨a, 0, none⟩) x w (fun u w' => u = .bool (decide (0 ≤ x ∧ x < (M.N : Int))) ∧ w' = w) ?_) (by rintro v w' ⟨rfl, h⟩; exact ⟨rfl, h⟩)
 refine CondP.mk (fun h0 => (aStates_spec w a g M h).mono ?_) fun h0 => ⟨?_, rfl⟩
 ·rintro e w1 ⟨rfl, hw⟩
  have h0 := of_decide_eq_true h0
  refine ⟨_, rfl, ?_, hw⟩
  rw [decide_eq_decide.2 (show x < (M.N : Int) ↔ 0 ≤ x ∧ x < (M.N : Int) from ⟨fun h => ⟨h0, h⟩, fun h => h.2⟩)]
 ·have h0 := of_decide_eq_false h0
  rw [decide_eq_false fun h => h0 h.1]
open Aut (metF metL scan visit)
abbrev tMii : TypeId := 107
theorem undMii : Tryz.prog.underlying tMii = some (.map tInt tInt) := by kernel_rfl
def mmap (f : Nat → Nat) (l : List Nat) : List (Int × Value) := l.zipIdx.map fun x => (((f x.1 : Nat) : Int), .int .i64 (x.2 : Int))
theorem mmap_snoc (f : Nat → Nat) (l : List Nat) (x : Nat) : mmap f (l ++ [x]) = mmap f l ++ [(((f x : Nat) : Int), .int .i64 (l.length : Int))] := by simp [mmap, List.zipIdx_append]
theorem look_mmap (f : Nat → Nat) (l : List Nat) (x : Nat) : look ((x : Nat) : Int) (mmap f l) = ((l.map f).idxOf? x).map fun i : Nat => Value.int .i64 (i : Int) := by
 have := look_zipf (fun s : Nat => ((f s : Nat) : Int)) ((x : Nat) : Int) l 0
 simp only [Nat.zero_add] at this
 rw [show look ((x : Nat) : Int) (mmap f l) = _ from this]
 congr 1
 have key : ∀ l : List Nat, (l.map fun s : Nat => ((f s : Nat) : Int)).idxOf? ((x : Nat) : Int) = (l.map f).idxOf? x := by
  intro l
  induction l with
  | nil => rfl
  | cons y l ih =>
   simp only [List.map_cons, List.idxOf?_cons, ih]
   by_cases h : f y = x
   ·simp [h]
   ·simp [h]; omega
 exact key l
theorem nat1_snoc (l : List Nat) (x : Nat) : nat1 (l ++ [x]) = ((l.map fun i : Nat => (i : Int)) ++ [((x : Nat) : Int)]).flatMap encInt := by simp [nat1]
theorem met_spec (w : World) (a : Nat) {c : Array Value} (h : w.heap[a]? = some (.cells c tAuto (0, 0))) (M : Aut) (next good : Sl) (rs : List Sl) (hM : AutR w M next good rs) (h1 : c[1]? = some next.v) (hN : M.N ≤ 10000) (hn : M.n ≤ 10000) (cb : Value) (f : Nat → Nat) (hf : ∀ i, i < M.N → f i < M.N)
  (his : ∀ s, s < M.N → ∀ w1, Below w.heap.size w w1 → CallG ctx cb [.int .i64 (s : Int)] w1 (fun e w2 => e = .returned (.int .i64 ((f s : Nat) : Int)) ∧ w2 = w1)) :
  CP 83 #[.pointer (some ⟨a, 0, none⟩), cb] w fun e w' => ∃ (l : Sl) (m : Nat), e = .returned (.tuple #[l.v, .map (some m)]) ∧ l.n = (metL M f).length ∧ w'.ownsRow w.heap.size tInt 1 l.v l.n (nat1 (metL M f)) ∧ MapIs intKey w' m (mmap f (metL M f)) ∧ Below w.heap.size w w' := by
 refine calls_ret (vc83_calls (some ⟨a, 0, none⟩) cb w (fun u w' => ∃ (l : Sl) (m : Nat), u = .tuple #[l.v, .map (some m)] ∧ l.n = (metL M f).length ∧ w'.ownsRow w.heap.size tInt 1 l.v l.n (nat1 (metL M f)) ∧ MapIs intKey w' m (mmap f (metL M f)) ∧ Below w.heap.size w w') ?_) (by rintro v w' ⟨l, m, rfl, h⟩; exact ⟨l, m, rfl, h⟩)
 have hok := hM.ok
 intro w1 hw1
 have b1 : Below w.heap.size w w1 := by subst hw1; exact below_alloc _ _
 have o1 : w1.ownsRow w.heap.size tInt 1 (.slice (some (nb w)) 1 1) 1 (nat1 [0]) := by subst hw1; exact own_made _ rfl (by decide) (Nat.le_refl _)
 have lt1 : w.heap.size < w1.heap.size := by subst hw1; rw [alloc_size]; omega
 refine ⟨_, _, run_make _, ?_⟩
 have b2 := below_alloc w1 (.map #[] 0)
 have m2 : MapIs intKey (w1.alloc (.map #[] 0)) w1.heap.size ([] : List (Int × Value)) := map_new w1
 obtain ⟨w2, hw2⟩ : ∃ w2, w2 = w1.alloc (.map #[] 0) := ⟨_, rfl⟩
 rw [← hw2] at b2 m2
 rw [← hw2]
 have hb2 := below_then b1 b2
 refine (his 0 hok.pos w2 hb2).mono ?_
 rintro e w3 ⟨rfl, rfl⟩
 obtain ⟨w4, hr4, m4, hs4, hz4, hB4⟩ := run_put_new keysI undMii m2 ((f 0 : Nat) : Int) (.int .i64 0) rfl
 refine ⟨_, rfl, w4, hr4, ?_⟩
 have o4 : w4.ownsRow w.heap.size tInt 1 (.slice (some (nb w)) 1 1) 1 (nat1 [0]) := own_same (own_on o1 b2) fun k hk => hs4 k (fun e => own_ne_map (own_on o1 b2) m2 (by rw [hk, e]))
 have hb4 := hB4 _ _ (Nat.le_of_lt lt1) hb2
 intro I hI
 have hln := hM.len.1
 have inner : ∀ (i s : Nat) (L : List Nat), (metF M f i)[i]? = some s → L = metF M f i → s < M.N → ∀ (q : World) (l : Sl), q.ownsRow w.heap.size tInt 1 l.v l.n (nat1 L) → l.n = L.length → MapIs intKey q w1.heap.size (mmap f L) → Below w.heap.size w q →
   (∀ (q' : World) (l' : Sl), q'.ownsRow w.heap.size tInt 1 l'.v l'.n (nat1 (metF M f (i + 1))) → l'.n = (metF M f (i + 1)).length → MapIs intKey q' w1.heap.size (mmap f (metF M f (i + 1))) → Below w.heap.size w q' → I [.int .i64 ((i + 1 : Nat) : Int), l'.v] q') → i ≤ 10000 → I [.int .i64 (i : Int), l.v] q := by
  intro i s L hs hL hsN q l ho hl hm hB cont hi4
  have hlt := (List.getElem?_eq_some_iff.1 hs).1
  rw [← hL] at hs hlt
  have hrl : s < rs.length := by rw [hM.rl]; exact hsN
  have few : ∀ k, k ≤ M.n → (scan M f L s k).length ≤ M.N := by
   intro k hk
   have p1 := (Aut.scan_mono (M := M) f L s k (M.n - k)).length_le
   rw [show k + (M.n - k) = M.n by omega] at p1
   have p2 := Aut.met_few hok hf (i + 1)
   rw [metF, ← hL, hs] at p2
   exact Nat.le_trans p1 p2
  refine hI _ l.a l.n l.c q (CondP.yes (decide_eq_true (by omega)) ?_)
  intro q1 hq1
  have bq : Below q.heap.size q q1 := by subst hq1; exact drew_on q
  have hB1 := below_then hB bq
  have ho1 := own_on ho bq
  have hMq := hM.on hB1
  have hls := LsAt.of_own elInt (xs := L.map fun i : Nat => (i : Int)) ho1
  have hsv : L[i] = s := (List.getElem?_eq_some_iff.1 hs).2
  obtain ⟨p, hp, c0⟩ := cell_rw hls.r (show i < (L.map fun i : Nat => (i : Int)).length by simpa using hlt) (v := .int .i64 ((s : Nat) : Int)) (by simp [encInt, hsv])
  obtain ⟨p2, hp2, c2, hrn, _⟩ := hMq.rowAt hsN hrl
  refine NilC.mk _ rfl ⟨_, _, _, by rw [acell (held_on hB1 h)]; exact h1, NilC.mk p hp ⟨by omega, by omega, _, c0, NilC.mk p2 hp2 ⟨by omega, by omega, _, _, _, c2, ?_⟩⟩⟩
  intro I2 hI2
  have key := climb2 (α := Sl × World) M.n (fun k y => y.2.ownsRow w.heap.size tInt 1 y.1.v y.1.n (nat1 (scan M f L s k)) ∧ y.1.n = (scan M f L s k).length ∧ MapIs intKey y.2 w1.heap.size (mmap f (scan M f L s k)) ∧ Below w.heap.size w y.2) (fun k y => I2 [.int .i64 (k : Int), y.1.v] y.2) (l, q1) ⟨ho1, hl, hm.on bq, hB1⟩ ?_ ?_
  ·exact key
  ·rintro k hk ih ⟨l', z⟩ ⟨hoz, hlz, hmz, hBz⟩
   change z.ownsRow w.heap.size tInt 1 l'.v l'.n _ at hoz
   change l'.n = _ at hlz
   change MapIs intKey z _ _ at hmz
   change Below w.heap.size w z at hBz
   obtain ⟨_, _, _, _, hrr⟩ := (hM.on hBz).rowAt hsN hrl
   obtain ⟨p3, hp3, c3⟩ := nums_cell hrr hk
   have hx := hok.lt s k hsN hk
   obtain ⟨x, hxe⟩ : ∃ x, x = M.nxt s k := ⟨_, rfl⟩
   rw [← hxe] at c3 hx
   have hfew := few k (by omega)
   have hvis : scan M f L s (k + 1) = visit f (scan M f L s k) x := by rw [scan, ← hxe]
   refine hI2 _ l'.a l'.n l'.c z (CondP.yes (decide_eq_true (by omega)) ?_)
   intro J hJ
   refine NilC.mk p3 hp3 ⟨by omega, by omega, _, c3, (his x hx z hBz).mono ?_⟩
   rintro e z1 ⟨rfl, rfl⟩
   have hlk := run_look keysI undMii zeroInt hmz ((f x : Nat) : Int)
   rw [look_mmap] at hlk
   cases hc : ((scan M f L s k).map f).idxOf? (f x) with
   | some j =>
    rw [hc] at hlk
    have hmem : f x ∈ (scan M f L s k).map f := by
     have := List.isSome_idxOf?.1 (show (((scan M f L s k).map f).idxOf? (f x)).isSome = true by rw [hc]; rfl)
     exact this
    have hv : scan M f L s (k + 1) = scan M f L s k := by rw [hvis, visit, if_pos hmem]
    exact ⟨_, rfl, _, _, z1, hlk, CondP.no rfl (hJ _ _ _ _ (Ar.nat (k + 1) rfl (by omega) (ih (l', z1) ⟨by rw [hv]; exact hoz, by rw [hv]; exact hlz, by rw [hv]; exact hmz, hBz⟩)))⟩
   | none =>
    rw [hc] at hlk
    have hmem : f x ∉ (scan M f L s k).map f := List.idxOf?_eq_none_iff.1 hc
    have hv : scan M f L s (k + 1) = scan M f L s k ++ [x] := by rw [hvis, visit, if_neg hmem]
    refine ⟨_, rfl, _, _, z1, hlk, CondP.yes rfl ((his x hx z1 hBz).mono ?_)⟩
    rintro e z2 ⟨rfl, rfl⟩
    obtain ⟨z3, hr3, hm3, hs3, hz3, hB3⟩ := run_put_new keysI undMii hmz ((f x : Nat) : Int) (.int .i64 ((l'.n : Nat) : Int)) (by rw [look_mmap, hc]; rfl)
    have ho3 := own_same hoz fun j hj => hs3 j fun e => own_ne_map hoz hmz (by rw [hj, e])
    have hBz3 := hB3 _ _ (Nat.le_of_lt lt1) hBz
    refine ⟨_, rfl, z3, hr3, ?_⟩
    intro z4 hz4
    obtain ⟨l'', z5, e1, e2, e3, e4, e5⟩ := elInt.push (xs := (scan M f L s k).map fun i : Nat => (i : Int)) ho3 ((x : Nat) : Int) hz4 rfl hBz3.size (by omega) (by decide)
    refine ⟨l''.a, l''.n, l''.c, z5, e2, hJ _ _ _ _ (Ar.nat (k + 1) rfl (by omega) (ih (l'', z5) ⟨?_, ?_, ?_, e4 _ hBz3⟩))⟩
    ·rw [hv, nat1_snoc]; exact e3
    ·show l''.n = _
     rw [hv, List.length_append, List.length_singleton, e1, hlz]
    ·rw [hv, mmap_snoc, ← hlz]
     exact hm3.same (e5 _ hm3.lt (own_ne_map ho3 hm3))
  ·rintro ⟨l', z⟩ ⟨hoz, hlz, hmz, hBz⟩
   change z.ownsRow w.heap.size tInt 1 l'.v l'.n _ at hoz
   change l'.n = _ at hlz
   have hfull : metF M f (i + 1) = scan M f L s M.n := by rw [metF, ← hL, hs]
   refine hI2 _ l'.a l'.n l'.c z (CondP.no (decide_eq_false (by omega)) (Ar.nat (i + 1) rfl (by omega) (cont z l' ?_ ?_ ?_ hBz)))
   ·rw [hfull]; exact hoz
   ·rw [hfull]; exact hlz
   ·rw [hfull]; exact hmz
 have loop : ∀ (d i : Nat) (q : World) (l : Sl), M.N - i ≤ d → i ≤ (metF M f i).length → q.ownsRow w.heap.size tInt 1 l.v l.n (nat1 (metF M f i)) → l.n = (metF M f i).length → MapIs intKey q w1.heap.size (mmap f (metF M f i)) → Below w.heap.size w q → I [.int .i64 (i : Int), l.v] q := by
  have fin : ∀ (i : Nat) (q : World) (l : Sl), (metF M f i).length ≤ i → q.ownsRow w.heap.size tInt 1 l.v l.n (nat1 (metF M f i)) → l.n = (metF M f i).length → MapIs intKey q w1.heap.size (mmap f (metF M f i)) → Below w.heap.size w q → I [.int .i64 (i : Int), l.v] q := by
   intro i q l hi ho hl hm hB
   have e := Aut.met_done hok hf hi
   rw [e] at ho hl hm
   rw [e] at hi
   exact hI _ l.a l.n l.c q (CondP.no (decide_eq_false (by omega)) ⟨l, w1.heap.size, rfl, hl, ho, hm, hB⟩)
  intro d
  induction d with
  | zero =>
   intro i q l hd hi ho hl hm hB
   have := Aut.met_few hok hf i
   exact fin i q l (by omega) ho hl hm hB
  | succ d ihd =>
   intro i q l hd hi ho hl hm hB
   by_cases e : i < (metF M f i).length
   ·have hfe := Aut.met_few hok hf i
    refine inner i _ _ (List.getElem?_eq_getElem e) rfl ((Aut.metF_mid hok f i).lt _ (List.getElem_mem e)) q l ho hl hm hB (fun q' l' h1 h2 h3 h4 => ihd (i + 1) q' l' (by omega) ?_ h1 h2 h3 h4) (by omega)
    have := (Aut.metF_pre (M := M) f i).length_le
    omega
   ·exact fin i q l (by omega) ho hl hm hB
 exact loop M.N 0 w4 ⟨some (nb w), 1, 1⟩ (by omega) (Nat.zero_le _) o4 rfl m4 hb4
open Aut (metF metL scan visit)
structure AutB (w : World) (B b g : Nat) (M : Aut) (nx gd : Sl) (rs : List Sl) (m j : Nat) : Prop where
 blk : w.heap[b]? = some (.cells (autC g nx gd 0 0 sl0) tAuto (0, 0))
 onx : w.ownsRow B tInts 1 nx.v nx.n (rs.flatMap encS)
 rl : rs.length = m
 each : ∀ (i : Nat) (r : Sl), rs[i]? = some r → w.ownsRow B tInt 1 r.v r.n (nat1 ((List.range M.n).map (M.nxt i)))
 ogd : w.ownsRow B tBool 1 gd.v gd.n (((List.range j).map M.good).flatMap encB1)
theorem AutB.on {w w' : World} {B b g : Nat} {M : Aut} {nx gd : Sl} {rs : List Sl} {m j : Nat} (h : AutB w B b g M nx gd rs m j) (hb : Below w.heap.size w w') : AutB w' B b g M nx gd rs m j :=
 ⟨held_on hb h.blk, own_on h.onx hb, h.rl, fun i r hr => own_on (h.each i r hr) hb, own_on h.ogd hb⟩
theorem AutB.pushRow {w : World} {B b g : Nat} {M : Aut} {nx gd : Sl} {rs : List Sl} {m j : Nat} (h : AutB w B b g M nx gd rs m j) (hBb : B ≤ b) {r : Sl} (hr : w.ownsRow B tInt 1 r.v r.n (nat1 ((List.range M.n).map (M.nxt m)))) {w1 : World} (hw1 : w1 = w.alloc (.cells #[r.v] tInts)) (hB : B ≤ w.heap.size) (hm : m ≤ 100000) :
  ∃ (nx' : Sl) (w2 : World), (Builtin.append_ #[tIntss, tIntss] tIntss #[.slice nx.a nx.n nx.c, .slice (some (nb w)) 1 1]).run Tryz.prog w1 = .ok (.slice nx'.a nx'.n nx'.c) w2 ∧ (∃ u, w2.cell? ((⟨b, 0, none⟩ : Addr).add 1) = some u) ∧ w2.frozen? ((⟨b, 0, none⟩ : Addr).add 1) = false ∧ ∀ w3, w3 = w2.setCell ((⟨b, 0, none⟩ : Addr).add 1) nx'.v → AutB w3 B b g M nx' gd (rs ++ [r]) (m + 1) j ∧ (∀ w0, Below B w0 w → Below B w0 w3) ∧ ∀ {k : Nat} {c : Array Value} {e : TypeId} {fz : Nat × Nat}, w.heap[k]? = some (.cells c e fz) → e ≠ tInts → e ≠ tAuto → w3.heap[k]? = some (.cells c e fz) := by
 have hnn := (LsAt.of_own elIntss h.onx).n
 have hrl := h.rl
 obtain ⟨nx', w2, e1, e2, e3, e4, e5⟩ := elIntss.push h.onx r hw1 rfl hB (by omega) (by decide)
 have y1 : w2.heap[b]? = some (.cells (autC g nx gd 0 0 sl0) tAuto (0, 0)) := (e5 b (Array.getElem?_eq_some_iff.1 h.blk).1 (row_ne_blk h.onx h.blk (by decide))).trans h.blk
 refine ⟨nx', w2, e2, ⟨_, by rw [cell_put y1]; rfl⟩, frozen_put y1, ?_⟩
 intro w3 hw3
 have hs : ∀ j, j ≠ b → w3.heap[j]? = w2.heap[j]? := by
  intro j hj
  subst hw3
  exact heap_setCell_ne (by rw [add_block]; exact hj)
 have same : ∀ {B sz n : Nat} {e : TypeId} {u : Value} {xs : List Value}, w.ownsRow B e sz u n xs → e ≠ tInts → e ≠ tAuto → w3.ownsRow B e sz u n xs := by
  intro B sz n e u xs ho h1 h2
  refine own_same ho fun k hk => ?_
  rw [hs k fun e => row_ne_blk ho h.blk h2 (by rw [hk, e])]
  exact e5 k (own_lt ho k hk).2 (row_ne_row ho h.onx h1 k hk)
 refine ⟨⟨by subst hw3; exact heap_put y1 _, own_same e3 fun k hk => hs k fun e => row_ne_blk e3 y1 (by decide) (by rw [hk, e]), by simp; omega, ?_, same h.ogd (by decide) (by decide)⟩, fun w0 h0 => by subst hw3; exact below_put (e4 _ h0) hBb _, ?_⟩
 ·intro i r' hi
  by_cases hcl : i < rs.length
  ·rw [List.getElem?_append_left hcl] at hi
   exact same (h.each i r' hi) (by decide) (by decide)
  ·have hci : i = m := by
    have := (List.getElem?_eq_some_iff.1 hi).1
    simp at this
    omega
   subst hci
   rw [List.getElem?_append_right (by omega), hrl, Nat.sub_self] at hi
   cases hi
   exact same hr (by decide) (by decide)
 ·intro k c e fz hk h1 h2
  have hkb : k ≠ b := by
   rintro rfl
   rw [h.blk] at hk
   cases hk
   exact h2 rfl
  rw [hs k hkb, e5 k (Array.getElem?_eq_some_iff.1 hk).1 (row_ne_blk h.onx hk fun e => h1 e.symm)]
  exact hk
theorem AutB.pushGood {w : World} {B b g : Nat} {M : Aut} {nx gd : Sl} {rs : List Sl} {m j : Nat} (h : AutB w B b g M nx gd rs m j) (hBb : B ≤ b) {v : Bool} (hv : v = M.good j) {w1 : World} (hw1 : w1 = w.alloc (.cells #[.bool v] tBool)) (hB : B ≤ w.heap.size) (hj : j ≤ 100000) :
  ∃ (gd' : Sl) (w2 : World), (Builtin.append_ #[tBools, tBools] tBools #[.slice gd.a gd.n gd.c, .slice (some (nb w)) 1 1]).run Tryz.prog w1 = .ok (.slice gd'.a gd'.n gd'.c) w2 ∧ (∃ u, w2.cell? ((⟨b, 0, none⟩ : Addr).add 2) = some u) ∧ w2.frozen? ((⟨b, 0, none⟩ : Addr).add 2) = false ∧ ∀ w3, w3 = w2.setCell ((⟨b, 0, none⟩ : Addr).add 2) gd'.v → AutB w3 B b g M nx gd' rs m (j + 1) ∧ (∀ w0, Below B w0 w → Below B w0 w3) := by
 have hnn := (LsAt.of_own elBl h.ogd).n
 rw [List.length_map, List.length_range] at hnn
 obtain ⟨gd', w2, e1, e2, e3, e4, e5⟩ := elBl.push h.ogd v hw1 rfl hB (by omega) (by decide)
 have y1 : w2.heap[b]? = some (.cells (autC g nx gd 0 0 sl0) tAuto (0, 0)) := (e5 b (Array.getElem?_eq_some_iff.1 h.blk).1 (row_ne_blk h.ogd h.blk (by decide))).trans h.blk
 refine ⟨gd', w2, e2, ⟨_, by rw [cell_put y1]; rfl⟩, frozen_put y1, ?_⟩
 intro w3 hw3
 have hs : ∀ j, j ≠ b → w3.heap[j]? = w2.heap[j]? := by
  intro j hj
  subst hw3
  exact heap_setCell_ne (by rw [add_block]; exact hj)
 have same : ∀ {B sz n : Nat} {e : TypeId} {u : Value} {xs : List Value}, w.ownsRow B e sz u n xs → e ≠ tBool → e ≠ tAuto → w3.ownsRow B e sz u n xs := by
  intro B sz n e u xs ho h1 h2
  refine own_same ho fun k hk => ?_
  rw [hs k fun e => row_ne_blk ho h.blk h2 (by rw [hk, e])]
  exact e5 k (own_lt ho k hk).2 (row_ne_row ho h.ogd h1 k hk)
 refine ⟨⟨by subst hw3; exact heap_put y1 _, same h.onx (by decide) (by decide), h.rl, fun i r hr => same (h.each i r hr) (by decide) (by decide), ?_⟩, fun w0 h0 => by subst hw3; exact below_put (e4 _ h0) hBb _⟩
 rw [List.range_succ, List.map_append, List.map_cons, List.map_nil, ← hv]
 exact own_same e3 fun k hk => hs k fun e => row_ne_blk e3 y1 (by decide) (by rw [hk, e])
theorem AutB.done {w : World} {B b g : Nat} {M : Aut} {nx gd : Sl} {rs : List Sl} (h : AutB w B b g M nx gd rs M.N M.N) (hok : M.Ok) : AutW w b g M none :=
 ⟨nx, gd, sl0, rs, 0, h.blk, ⟨own_base h.onx (Nat.zero_le _), h.rl, fun i r hr => own_base (h.each i r hr) (Nat.zero_le _), own_base h.ogd (Nat.zero_le _), hok⟩, rfl, rfl⟩
theorem leastKey_spec (w : World) (ob : Nat) {eo : TypeId} (of : Sl) (f : Nat → Nat) (n : Nat) (ho : w.heap[ob]? = some (.cells #[of.v] eo (0, 0))) (hl : of.n = n) (hr : Rw encInt 1 w of.a (((List.range n).map f).map fun i : Nat => (i : Int))) (s : Nat) (hs : s < n) :
  CP 84 #[.int .i64 (s : Int), .pointer (some ⟨ob, 0, none⟩)] w fun e w' => e = .returned (.int .i64 ((f s : Nat) : Int)) ∧ w' = w := by
 refine calls_ret (vc84_calls s (some ⟨ob, 0, none⟩) w (fun u w' => u = .int .i64 ((f s : Nat) : Int) ∧ w' = w) ?_) (by rintro v w' ⟨rfl, h⟩; exact ⟨rfl, h⟩)
 obtain ⟨p, hp, c⟩ := nums_cell hr hs
 exact NilC.mk _ rfl ⟨_, _, _, cell1 ho, NilC.mk p hp ⟨by omega, by omega, _, c, rfl, rfl⟩⟩
theorem idxOf_of {l : List Nat} {x : Nat} (h : x ∈ l) : l.idxOf? x = some (l.idxOf x) := by
 induction l with
 | nil => cases h
 | cons y l ih =>
  rw [List.idxOf?_cons, List.idxOf_cons]
  by_cases e : y = x
  ·simp [e]
  ·have : x ∈ l := by
    rcases List.mem_cons.1 h with h | h
    ·exact absurd h.symm e
    ·exact h
   have hb : (y == x) = false := by simpa using e
   simp [hb, ih this]
set_option maxHeartbeats 1000000 in
theorem least_spec (w : World) (a g : Nat) (M : Aut) (h : AutIs w a g M) (hN : M.N ≤ 10000) (hn : M.n ≤ 10000) :
  CP 46 #[.pointer (some ⟨a, 0, none⟩)] w fun e w' => ∃ (b : Nat) (f : Nat → Nat), e = .returned (.pointer (some ⟨b, 0, none⟩)) ∧ Aut.Cls M f ∧ AutIs w' b g (Aut.least M f) ∧ AutIs w' a g M ∧ w.heap.size ≤ b ∧ Touch a w w' := by
 obtain ⟨o, h⟩ := h
 refine calls_ret (vc46_calls (some ⟨a, 0, none⟩) w (fun u w' => ∃ (b : Nat) (f : Nat → Nat), u = .pointer (some ⟨b, 0, none⟩) ∧ Aut.Cls M f ∧ AutIs w' b g (Aut.least M f) ∧ AutIs w' a g M ∧ w.heap.size ≤ b ∧ Touch a w w') ?_) (by rintro v w' ⟨b, f, rfl, h⟩; exact ⟨b, f, rfl, h⟩)
 refine CondP.no rfl ((alike_spec w a g M o h hN hn).mono ?_)
 rintro e w1 ⟨of, f, rfl, _, hofn, hofr, hA, t1⟩
 have hc : Aut.Cls M f := by
  obtain ⟨_, _, _, _, _, _, _, _, h, _⟩ := hA
  exact h
 obtain ⟨next, good, of', rs0, d, hblk, hM⟩ := hA.blk
 have hok := hM.ok
 have hal := hA.lt
 refine ⟨_, _, _, rfl, ?_⟩
 intro w2 hw2
 refine box_store hw2 rfl ?_
 intro w3 o3 b3
 have hM3 := hM.on b3
 refine (met_spec w3 a (held_on b3 hblk) M next good rs0 hM3 rfl hN hn _ f hc.lt fun s hs z hz => callG_of (by kernel_rfl) (leastKey_spec z w1.heap.size of f M.N (held_on hz o3) hofn ((hofr.on b3).on hz) s hs)).mono ?_
 rintro e w4 ⟨l, m, rfl, hln, hlo, hm, b4⟩
 have hb4 := below_then b3 b4
 have hA4 := hA.on hb4
 refine ⟨_, _, _, _, rfl, NilC.mk _ rfl ⟨_, by rw [acell (held_on hb4 hblk)]; rfl, ?_⟩⟩
 intro w5 hw5
 have b5 : Below w4.heap.size w4 w5 := by subst hw5; exact below_alloc _ _
 obtain ⟨M', hM'⟩ : ∃ M', M' = Aut.least M f := ⟨_, rfl⟩
 have hok' : M'.Ok := by rw [hM']; exact Aut.least_ok hok hc.lt
 have hN' : M'.N = (metL M f).length := by rw [hM']; rfl
 have hn' : M'.n = M.n := by rw [hM']; rfl
 have hfew := Aut.met_few hok hc.lt M.N
 change (metL M f).length ≤ M.N at hfew
 have start : AutB w5 w4.heap.size w4.heap.size g M' sl0 sl0 [] 0 0 := ⟨by subst hw5; exact alloc_new _ _, own_none _ _ _ _ encS, rfl, (by intro i r h; cases h), own_none _ _ _ _ encB1⟩
 have hl1 : w1.heap.size < w4.heap.size := (Array.getElem?_eq_some_iff.1 (held_on b4 o3)).1
 intro I hI
 let Inv (p : Nat) (q : World) : Prop := ∃ nx gd rs, AutB q w4.heap.size w4.heap.size g M' nx gd rs p p ∧ Below w4.heap.size w4 q
 have key := climb2 (α := World) M'.N Inv (fun p q => I [.int .i64 (p : Int)] q) w5 ⟨sl0, sl0, [], start, b5⟩ ?_ ?_
 ·exact key
 ·rintro p hp ih q ⟨nx, gd, rs, R, hB⟩
  have hpl : p < (metL M f).length := by omega
  obtain ⟨s, hs⟩ : ∃ s, s = (metL M f)[p] := ⟨_, rfl⟩
  have hsN : s < M.N := by rw [hs]; exact (Aut.met_mid hok f).lt _ (List.getElem_mem hpl)
  have hsD : (metL M f).getD p 0 = s := by rw [Aut.getD_at hpl, hs]
  have hnxt : ∀ k, M'.nxt p k = ((metL M f).map f).idxOf (f (M.nxt s k)) := by
   intro k
   rw [hM']
   show ((metL M f).map f).idxOf (f (M.nxt ((metL M f).getD p 0) k)) = _
   rw [hsD]
  have hgd : M'.good p = M.good s := by
   rw [hM']
   show M.good ((metL M f).getD p 0) = _
   rw [hsD]
  have hlsq := (LsAt.of_own elInt (xs := (metL M f).map fun i : Nat => (i : Int)) hlo).r.on hB
  obtain ⟨p0, hp0, c0⟩ := cell_rw hlsq (show p < ((metL M f).map fun i : Nat => (i : Int)).length by simpa using hpl) (v := .int .i64 ((s : Nat) : Int)) (by simp [encInt, hs])
  have hrl : s < rs0.length := by rw [hM.rl]; exact hsN
  have hMq := (hM.on hb4).on hB
  have hbq := held_on hB (held_on hb4 hblk)
  obtain ⟨p2, hp2, c2, hrn, _⟩ := hMq.rowAt hsN hrl
  have hnl := hM.len
  refine hI _ _ (CondP.yes (decide_eq_true (by omega)) (NilC.mk p0 hp0 ⟨by omega, by omega, _, c0, NilC.mk _ rfl ⟨_, _, _, by rw [acell hbq]; rfl, NilC.mk p2 hp2 ⟨by omega, by omega, _, _, _, c2, ?_⟩⟩⟩))
  intro I2 hI2
  have key2 := climb2 (α := Sl × World) M.n (fun k y => y.2.ownsRow q.heap.size tInt 1 y.1.v y.1.n (nat1 ((List.range k).map (M'.nxt p))) ∧ y.1.n = k ∧ Below q.heap.size q y.2) (fun k y => I2 [.int .i64 (k : Int), y.1.v] y.2) (sl0, q) ⟨own_none _ _ _ _ encInt, rfl, Below.refl _ _⟩ ?_ ?_
  ·exact key2
  ·rintro k hk ih2 ⟨t, z⟩ ⟨hto, htn, hBz⟩
   change z.ownsRow q.heap.size tInt 1 t.v t.n _ at hto
   change t.n = k at htn
   change Below q.heap.size q z at hBz
   have hB4z : Below w4.heap.size w4 z := below_then hB hBz
   obtain ⟨_, _, _, _, hrr⟩ := (hMq.on hBz).rowAt hsN hrl
   obtain ⟨p3, hp3, c3⟩ := nums_cell hrr hk
   obtain ⟨x, hx⟩ : ∃ x, x = M.nxt s k := ⟨_, rfl⟩
   have hxN : x < M.N := by rw [hx]; exact hok.lt s k hsN hk
   rw [← hx] at c3
   have oz := held_on hB4z (held_on b4 o3)
   obtain ⟨p4, hp4, c4⟩ := nums_cell (((hofr.on b3).on b4).on hB4z) hxN
   have hmem : f x ∈ (metL M f).map f := by
    rw [hx]
    exact Aut.met_in hok hc.lt (j := p) (by rw [List.getElem?_eq_getElem hpl, hs]) hk
   have hlk := run_look1 keysI undMii zeroInt (hm.on hB4z) ((f x : Nat) : Int)
   rw [look_mmap, idxOf_of hmem] at hlk
   refine hI2 _ t.a t.n t.c z (CondP.yes (decide_eq_true (by omega)) (NilC.mk p3 hp3 ⟨by omega, by omega, _, c3, _, _, _, cell1 oz, NilC.mk p4 hp4 ⟨by omega, by omega, _, c4, _, z, hlk, ?_⟩⟩))
   intro z1 hz1
   obtain ⟨t', z2, e1, e2, e3, e4, _⟩ := elInt.push (xs := ((List.range k).map (M'.nxt p)).map fun i : Nat => (i : Int)) hto ((((metL M f).map f).idxOf (f x) : Nat) : Int) hz1 rfl hBz.size (by omega) (by decide)
   refine ⟨t'.a, t'.n, t'.c, z2, e2, Ar.nat (k + 1) rfl (by omega) (ih2 (t', z2) ⟨?_, by show t'.n = k + 1; omega, e4 _ hBz⟩)⟩
   rw [List.range_succ, List.map_append, List.map_cons, List.map_nil, nat1_snoc, hnxt k, ← hx]
   exact e3
  ·rintro ⟨t, z⟩ ⟨hto, htn, hBz⟩
   change z.ownsRow q.heap.size tInt 1 t.v t.n _ at hto
   change Below q.heap.size q z at hBz
   have hB4z : Below w4.heap.size w4 z := below_then hB hBz
   have Rz := R.on hBz
   rw [← hn'] at hto
   refine hI2 _ t.a t.n t.c z (CondP.no (decide_eq_false (by omega)) ⟨_, _, _, by rw [cell_put Rz.blk]; rfl, ?_⟩)
   intro z1 hz1
   obtain ⟨nx', z2, e2, u2, f2, k2⟩ := Rz.pushRow (Nat.le_refl _) (own_base hto hB.size) hz1 hB4z.size (by omega)
   refine ⟨nx'.a, nx'.n, nx'.c, z2, e2, rfl, u2, f2, ?_⟩
   intro z3 hz3
   obtain ⟨R3, bz3, _⟩ := k2 z3 hz3
   have hB3 := bz3 _ hB4z
   intro z4 hz4
   have b34 : Below z3.heap.size z3 z4 := by subst hz4; exact drew_on z3
   have R4 := R3.on b34
   have hB4' := below_then hB3 b34
   have hM4 := (hM.on hb4).on hB4'
   obtain ⟨p5, hp5, c5⟩ := hM4.good hsN
   refine ⟨_, _, _, by rw [cell_put R4.blk]; rfl, NilC.mk _ rfl ⟨_, _, _, by rw [acell (held_on hB4' (held_on hb4 hblk))]; rfl, NilC.mk p5 hp5 ⟨by omega, by omega, _, c5, ?_⟩⟩⟩
   intro z5 hz5
   obtain ⟨gd', z6, e6, u6, f6, k6⟩ := R4.pushGood (Nat.le_refl _) hgd.symm hz5 hB4'.size (by omega)
   have b45 : Below z4.heap.size z4 z5 := by subst hz5; exact below_alloc _ _
   refine ⟨⟨by rw [cell_put (R4.on b45).blk]; rfl, trivial⟩, gd'.a, gd'.n, gd'.c, z6, e6, rfl, u6, f6, ?_⟩
   intro z7 hz7
   obtain ⟨R7, bz7⟩ := k6 z7 hz7
   exact Ar.nat (p + 1) rfl (by omega) (ih z7 ⟨nx', gd', _, R7, bz7 _ hB4'⟩)
 ·rintro q ⟨nx, gd, rs, R, hB⟩
  have hw1 : w.heap.size ≤ w1.heap.size := t1.size
  refine hI _ _ (CondP.no (decide_eq_false (by omega)) ⟨w4.heap.size, f, rfl, hc, ⟨none, ?_⟩, ⟨_, hA4.on hB⟩, by omega, (t1.trans (Touch.of_below hb4)).trans (Touch.of_below hB)⟩)
  rw [← hM']
  exact R.done hok'
end Go.Proofs.YtboemnagahmlkaaGreat.Eng
