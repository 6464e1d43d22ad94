/- What these functions owe, printed by a program of this repo out of the translation. -/
import Derived.Test.YtpklkijdlnioaaaGreatZhTab
set_option linter.unusedVariables false
set_option maxRecDepth 100000
namespace Go.Proofs.YtpklkijdlnioaaaGreat.Eng
open Go Go.Value
def vc10 (a : OA) (b c : Nat) (d : OA) (f g : Nat) (h : OA) (i j : Nat) (k : OA) (l m : Nat) (n : OA) (o p : Nat) (q : Int) (w : World) (R : RW) : Prop :=
 ∀ r, r = w.alloc (.cells #[slice a b c, slice d f g, slice h i j, slice k l m] 27) →
 ∃ s t u x y z a1 b1 c1 d1 e1 f1, (r.cell? (nb w) = some (slice s t u) ∧ r.cell? ((nb w).add 1) = some (slice x y z) ∧ r.cell? ((nb w).add 2) = some (slice a1 b1 c1) ∧ r.cell? ((nb w).add 3) = some (slice d1 e1 f1) ∧ True) ∧
 Calls Tryz.prog 15 #[agg #[slice s t u, slice x y z, slice a1 b1 c1, slice d1 e1 f1]] r (fun g1 h1 =>
 ∃ i1, g1 = .returned (int .i64 i1) ∧
 CondP (decide (i1 > 0))
 (Calls Tryz.prog 29 #[] h1 (fun j1 k1 =>
 ∃ l1, j1 = .returned (bool l1) ∧
 R (bool l1) k1))
 (CondP (decide ((o : Int) > 8))
 (Calls Tryz.prog 29 #[] h1 (fun m1 n1 =>
 ∃ o1, m1 = .returned (bool o1) ∧
 R (bool o1) n1))
 (Calls Tryz.prog 29 #[] h1 (fun p1 q1 =>
 ∃ r1, p1 = .returned (bool r1) ∧
 CondP (!r1)
 (Calls Tryz.prog 29 #[] q1 (fun s1 t1 =>
 ∃ u1, s1 = .returned (bool u1) ∧
 R (bool u1) t1))
 (∃ v1 x1 y1 z1 a2 b2 c2 d2 e2 f2 g2 h2, (q1.cell? (nb w) = some (slice v1 x1 y1) ∧ q1.cell? ((nb w).add 1) = some (slice z1 a2 b2) ∧ q1.cell? ((nb w).add 2) = some (slice c2 d2 e2) ∧ q1.cell? ((nb w).add 3) = some (slice f2 g2 h2) ∧ True) ∧
 Calls Tryz.prog 17 #[agg #[slice v1 x1 y1, slice z1 a2 b2, slice c2 d2 e2, slice f2 g2 h2]] q1 (fun i2 j2 =>
 ∃ k2 l2 m2 n2 o2 p2 q2 r2 s2 t2 u2 v2 x2 y2 z2 a3, i2 = .returned (tuple #[pointer k2, agg #[slice l2 m2 n2, slice o2 p2 q2, slice r2 s2 t2, slice u2 v2 x2, slice y2 z2 a3]]) ∧
 ∀ b3, b3 = j2.alloc (.cells #[slice none 0 0, slice none 0 0, slice none 0 0, slice none 0 0, slice none 0 0] 39) →
 StoreP b3 (nb j2) (fun c3 =>
 CondP (Option.isNone k2)
 (R (bool false) c3)
 (∃ d3 e3 f3, c3.cell? (((nb j2).add 0).add 0) = some (slice d3 e3 f3) ∧
 ∃ g3 h3 i3, c3.cell? ((nb j2).add 4) = some (slice g3 h3 i3) ∧
 Ar .i64 ((e3 : Int) + (h3 : Int)) (fun j3 =>
 Calls Tryz.prog 30 #[pointer k2, int .i64 q] c3 (fun k3 l3 =>
 ∃ m3 n3, k3 = .returned (tuple #[pointer m3, int .i64 n3]) ∧
 Ar .i64 (j3 * j3) (fun o3 =>
 Calls Tryz.prog 30 #[pointer k2, int .i64 o3] l3 (fun p3 q3 =>
 ∃ r3 s3, p3 = .returned (tuple #[pointer r3, int .i64 s3]) ∧
 Ar .i64 (j3 * j3) (fun t3 =>
 CondP (!((n3 == 0) == (decide (q ≥ t3))))
 (R (bool false) q3)
 (CondP (n3 != 0)
 (CondP (n3 != 5)
 (R (bool false) q3)
 (CondP (s3 != 0)
 (R (bool false) q3)
 (Calls Tryz.prog 35 #[pointer r3] q3 (fun u3 v3 =>
 ∃ x3, u3 = .returned (int .i64 x3) ∧
 CondP (x3 != j3)
 (R (bool false) v3)
 (∀ y3 : KW, (∀ (z3 : Int) (a4 : Bool) (b4 : World), (CondP (decide (z3 < (o : Int)))
 (∀ c4 : KW, (∀ (d4 : Bool) (e4 : World), (Ar .i64 (z3 + 1) (fun f4 =>
 y3 [int .i64 f4, bool d4] e4)) → c4 [bool d4] e4) →
 NilC n (fun g4 =>
 (0 : Int) ≤ z3 ∧ z3 < (o : Int) ∧
 ∃ h4, b4.cell? (g4.add (z3.toNat * 1)) = some (int .i64 h4) ∧
 Calls Tryz.prog 37 #[pointer r3, int .i64 h4] b4 (fun i4 j4 =>
 ∃ k4 l4, i4 = .returned (tuple #[int .i64 k4, bool l4]) ∧
 ∃ m4 n4 o4 p4 q4 r4 s4 t4 u4 v4 x4 y4 z4 a5 b5, (j4.cell? (nb j2) = some (slice m4 n4 o4) ∧ j4.cell? ((nb j2).add 1) = some (slice p4 q4 r4) ∧ j4.cell? ((nb j2).add 2) = some (slice s4 t4 u4) ∧ j4.cell? ((nb j2).add 3) = some (slice v4 x4 y4) ∧ j4.cell? ((nb j2).add 4) = some (slice z4 a5 b5) ∧ True) ∧
 Calls Tryz.prog 38 #[agg #[slice m4 n4 o4, slice p4 q4 r4, slice s4 t4 u4, slice v4 x4 y4, slice z4 a5 b5], int .i64 h4] j4 (fun c5 d5 =>
 ∃ e5, c5 = .returned (bool e5) ∧
 CondP (!(l4 == e5))
 (R (bool false) d5)
 (CondP (!l4)
 (Calls Tryz.prog 39 #[pointer r3, int .i64 h4] d5 (fun f5 g5 =>
 ∃ h5, f5 = .returned (bool h5) ∧
 CondP h5
 (R (bool false) g5)
 (Calls Tryz.prog 32 #[pointer r3, int .i64 h4] g5 (fun i5 j5 =>
 ∃ k5 l5 m5, i5 = .returned (slice k5 l5 m5) ∧
 CondP ((l5 : Int) != 0)
 (R (bool false) j5)
 (Calls Tryz.prog 36 #[pointer r3, int .i64 h4] j5 (fun n5 o5 =>
 ∃ p5, n5 = .returned (int .i64 p5) ∧
 CondP (p5 != 0)
 (R (bool false) o5)
 (Calls Tryz.prog 34 #[pointer r3, int .i64 h4, int .i64 97] o5 (fun q5 r5 =>
 ∃ s5, q5 = .returned (bool s5) ∧
 CondP s5
 (R (bool false) r5)
 (Calls Tryz.prog 34 #[pointer r3, int .i64 97, int .i64 h4] r5 (fun t5 u5 =>
 ∃ v5, t5 = .returned (bool v5) ∧
 CondP v5
 (R (bool false) u5)
 (c4 [bool a4] u5)))))))))))
 (Calls Tryz.prog 33 #[pointer r3, int .i64 k4] d5 (fun x5 y5 =>
 ∃ z5 a6, x5 = .returned (tuple #[int .i64 z5, bool a6]) ∧
 ∀ b6, b6 = y5.drew →
 CondP (z5 != h4)
 ((R (bool false) b6) ∧
 (R (bool false) b6))
 (CondP (!a6)
 ((R (bool false) b6) ∧
 (R (bool false) b6))
 (∃ c6 d6 e6 f6 g6 h6 i6 j6 k6 l6 m6 n6 o6 p6 q6, (b6.cell? (nb j2) = some (slice c6 d6 e6) ∧ b6.cell? ((nb j2).add 1) = some (slice f6 g6 h6) ∧ b6.cell? ((nb j2).add 2) = some (slice i6 j6 k6) ∧ b6.cell? ((nb j2).add 3) = some (slice l6 m6 n6) ∧ b6.cell? ((nb j2).add 4) = some (slice o6 p6 q6) ∧ True) ∧
 (Calls Tryz.prog 39 #[pointer r3, int .i64 h4] b6 (fun r6 s6 =>
 ∃ t6, r6 = .returned (bool t6) ∧
 (s6.cell? (nb j2) = some (slice c6 d6 e6) ∧ s6.cell? ((nb j2).add 1) = some (slice f6 g6 h6) ∧ s6.cell? ((nb j2).add 2) = some (slice i6 j6 k6) ∧ s6.cell? ((nb j2).add 3) = some (slice l6 m6 n6) ∧ s6.cell? ((nb j2).add 4) = some (slice o6 p6 q6) ∧ True) ∧
 ∀ u6, u6 = s6.alloc (.cells #[int .i64 h4] 3) →
 (u6.cell? (nb j2) = some (slice c6 d6 e6) ∧ u6.cell? ((nb j2).add 1) = some (slice f6 g6 h6) ∧ u6.cell? ((nb j2).add 2) = some (slice i6 j6 k6) ∧ u6.cell? ((nb j2).add 3) = some (slice l6 m6 n6) ∧ u6.cell? ((nb j2).add 4) = some (slice o6 p6 q6) ∧ True) ∧
 Calls Tryz.prog 20 #[agg #[slice c6 d6 e6, slice f6 g6 h6, slice i6 j6 k6, slice l6 m6 n6, slice o6 p6 q6], slice (some (nb s6)) 1 1] u6 (fun v6 x6 =>
 ∃ y6, v6 = .returned (bool y6) ∧
 CondP (!(t6 == y6))
 (R (bool false) x6)
 (Ar .i64 (j3 + 63) (fun z6 =>
 (64 : Int) ≠ 0 ∧
 Calls Tryz.prog 32 #[pointer r3, int .i64 h4] x6 (fun a7 b7 =>
 ∃ c7 d7 e7, a7 = .returned (slice c7 d7 e7) ∧
 CondP ((d7 : Int) != (IntKind.wrap .i64 (Int.tdiv z6 64)))
 (R (bool false) b7)
 (∀ f7 : KW, (∀ (g7 : Int) (h7 : Bool) (i7 : World), (CondP (decide (g7 < (o : Int)))
 (NilC n (fun j7 =>
 (0 : Int) ≤ g7 ∧ g7 < (o : Int) ∧
 ∃ k7, i7.cell? (j7.add (g7.toNat * 1)) = some (int .i64 k7) ∧
 Calls Tryz.prog 37 #[pointer r3, int .i64 k7] i7 (fun l7 m7 =>
 ∃ n7 o7, l7 = .returned (tuple #[int .i64 n7, bool o7]) ∧
 ∀ p7, p7 = m7.drew →
 CondP o7
 (∃ q7 r7 s7 t7 u7 v7 x7 y7 z7 a8 b8 c8 d8 e8 f8, (p7.cell? (nb j2) = some (slice q7 r7 s7) ∧ p7.cell? ((nb j2).add 1) = some (slice t7 u7 v7) ∧ p7.cell? ((nb j2).add 2) = some (slice x7 y7 z7) ∧ p7.cell? ((nb j2).add 3) = some (slice a8 b8 c8) ∧ p7.cell? ((nb j2).add 4) = some (slice d8 e8 f8) ∧ True) ∧
 Calls Tryz.prog 34 #[pointer r3, int .i64 h4, int .i64 k7] p7 (fun g8 h8 =>
 ∃ i8, g8 = .returned (bool i8) ∧
 (h8.cell? (nb j2) = some (slice q7 r7 s7) ∧ h8.cell? ((nb j2).add 1) = some (slice t7 u7 v7) ∧ h8.cell? ((nb j2).add 2) = some (slice x7 y7 z7) ∧ h8.cell? ((nb j2).add 3) = some (slice a8 b8 c8) ∧ h8.cell? ((nb j2).add 4) = some (slice d8 e8 f8) ∧ True) ∧
 Calls Tryz.prog 40 #[agg #[slice q7 r7 s7, slice t7 u7 v7, slice x7 y7 z7, slice a8 b8 c8, slice d8 e8 f8], int .i64 h4, int .i64 k7] h8 (fun j8 k8 =>
 ∃ l8, j8 = .returned (bool l8) ∧
 CondP (!(i8 == l8))
 (R (bool false) k8)
 ((64 : Int) ≠ 0 ∧
 (64 : Int) ≠ 0 ∧
 Calls Tryz.prog 34 #[pointer r3, int .i64 h4, int .i64 k7] k8 (fun m8 n8 =>
 ∃ o8, m8 = .returned (bool o8) ∧
 Calls Tryz.prog 32 #[pointer r3, int .i64 h4] n8 (fun p8 q8 =>
 ∃ r8 s8 t8, p8 = .returned (slice r8 s8 t8) ∧
 NilC r8 (fun u8 =>
 (0 : Int) ≤ (IntKind.wrap .i64 (Int.tdiv n7 64)) ∧ (IntKind.wrap .i64 (Int.tdiv n7 64)) < (s8 : Int) ∧
 ∃ v8, q8.cell? (u8.add ((IntKind.wrap .i64 (Int.tdiv n7 64) : Int).toNat * 1)) = some (int .u64 v8) ∧
 (0 : Int) ≤ (Int.tmod (IntKind.wrap .u64 n7) 64) ∧
 CondP (!(o8 == ((IntKind.wrap .u64 ((BitVec.ofInt (IntKind.bits .u64) (Int.fdiv v8 (2 ^ (min (Int.tmod (IntKind.wrap .u64 n7) 64 : Int).toNat (IntKind.bits .u64)))) &&& BitVec.ofInt (IntKind.bits .u64) 1).toNat : Int) : Int) == 1)))
 (R (bool false) q8)
 (Ar .i64 (g7 + 1) (fun x8 =>
 f7 [int .i64 x8, bool h7] q8)))))))))
 (Ar .i64 (g7 + 1) (fun y8 =>
 f7 [int .i64 y8, bool h7] p7)))))
 (c4 [bool h7] i7)) → f7 [int .i64 g7, bool h7] i7) →
 f7 [int .i64 0, bool a4] b7))))))) ∧
 (∀ z8, z8 = b6.alloc (.cells #[int .i64 h4] 3) →
 (z8.cell? (nb j2) = some (slice c6 d6 e6) ∧ z8.cell? ((nb j2).add 1) = some (slice f6 g6 h6) ∧ z8.cell? ((nb j2).add 2) = some (slice i6 j6 k6) ∧ z8.cell? ((nb j2).add 3) = some (slice l6 m6 n6) ∧ z8.cell? ((nb j2).add 4) = some (slice o6 p6 q6) ∧ True) ∧
 Calls Tryz.prog 39 #[pointer r3, int .i64 h4] z8 (fun a9 b9 =>
 ∃ c9, a9 = .returned (bool c9) ∧
 (b9.cell? (nb j2) = some (slice c6 d6 e6) ∧ b9.cell? ((nb j2).add 1) = some (slice f6 g6 h6) ∧ b9.cell? ((nb j2).add 2) = some (slice i6 j6 k6) ∧ b9.cell? ((nb j2).add 3) = some (slice l6 m6 n6) ∧ b9.cell? ((nb j2).add 4) = some (slice o6 p6 q6) ∧ True) ∧
 Calls Tryz.prog 20 #[agg #[slice c6 d6 e6, slice f6 g6 h6, slice i6 j6 k6, slice l6 m6 n6, slice o6 p6 q6], slice (some (nb b6)) 1 1] b9 (fun d9 e9 =>
 ∃ f9, d9 = .returned (bool f9) ∧
 CondP (!(c9 == f9))
 (R (bool false) e9)
 (Ar .i64 (j3 + 63) (fun g9 =>
 (64 : Int) ≠ 0 ∧
 Calls Tryz.prog 32 #[pointer r3, int .i64 h4] e9 (fun h9 i9 =>
 ∃ j9 k9 l9, h9 = .returned (slice j9 k9 l9) ∧
 CondP ((k9 : Int) != (IntKind.wrap .i64 (Int.tdiv g9 64)))
 (R (bool false) i9)
 (∀ m9 : KW, (∀ (n9 : Int) (o9 : Bool) (p9 : World), (CondP (decide (n9 < (o : Int)))
 (NilC n (fun q9 =>
 (0 : Int) ≤ n9 ∧ n9 < (o : Int) ∧
 ∃ r9, p9.cell? (q9.add (n9.toNat * 1)) = some (int .i64 r9) ∧
 Calls Tryz.prog 37 #[pointer r3, int .i64 r9] p9 (fun s9 t9 =>
 ∃ u9 v9, s9 = .returned (tuple #[int .i64 u9, bool v9]) ∧
 ∀ x9, x9 = t9.drew →
 CondP v9
 (∃ y9 z9 a10 b10 c10 d10 e10 f10 g10 h10 i10 j10 k10 l10 m10, (x9.cell? (nb j2) = some (slice y9 z9 a10) ∧ x9.cell? ((nb j2).add 1) = some (slice b10 c10 d10) ∧ x9.cell? ((nb j2).add 2) = some (slice e10 f10 g10) ∧ x9.cell? ((nb j2).add 3) = some (slice h10 i10 j10) ∧ x9.cell? ((nb j2).add 4) = some (slice k10 l10 m10) ∧ True) ∧
 Calls Tryz.prog 34 #[pointer r3, int .i64 h4, int .i64 r9] x9 (fun n10 o10 =>
 ∃ p10, n10 = .returned (bool p10) ∧
 (o10.cell? (nb j2) = some (slice y9 z9 a10) ∧ o10.cell? ((nb j2).add 1) = some (slice b10 c10 d10) ∧ o10.cell? ((nb j2).add 2) = some (slice e10 f10 g10) ∧ o10.cell? ((nb j2).add 3) = some (slice h10 i10 j10) ∧ o10.cell? ((nb j2).add 4) = some (slice k10 l10 m10) ∧ True) ∧
 Calls Tryz.prog 40 #[agg #[slice y9 z9 a10, slice b10 c10 d10, slice e10 f10 g10, slice h10 i10 j10, slice k10 l10 m10], int .i64 h4, int .i64 r9] o10 (fun q10 r10 =>
 ∃ s10, q10 = .returned (bool s10) ∧
 CondP (!(p10 == s10))
 (R (bool false) r10)
 ((64 : Int) ≠ 0 ∧
 (64 : Int) ≠ 0 ∧
 Calls Tryz.prog 34 #[pointer r3, int .i64 h4, int .i64 r9] r10 (fun t10 u10 =>
 ∃ v10, t10 = .returned (bool v10) ∧
 Calls Tryz.prog 32 #[pointer r3, int .i64 h4] u10 (fun x10 y10 =>
 ∃ z10 a11 b11, x10 = .returned (slice z10 a11 b11) ∧
 NilC z10 (fun c11 =>
 (0 : Int) ≤ (IntKind.wrap .i64 (Int.tdiv u9 64)) ∧ (IntKind.wrap .i64 (Int.tdiv u9 64)) < (a11 : Int) ∧
 ∃ d11, y10.cell? (c11.add ((IntKind.wrap .i64 (Int.tdiv u9 64) : Int).toNat * 1)) = some (int .u64 d11) ∧
 (0 : Int) ≤ (Int.tmod (IntKind.wrap .u64 u9) 64) ∧
 CondP (!(v10 == ((IntKind.wrap .u64 ((BitVec.ofInt (IntKind.bits .u64) (Int.fdiv d11 (2 ^ (min (Int.tmod (IntKind.wrap .u64 u9) 64 : Int).toNat (IntKind.bits .u64)))) &&& BitVec.ofInt (IntKind.bits .u64) 1).toNat : Int) : Int) == 1)))
 (R (bool false) y10)
 (Ar .i64 (n9 + 1) (fun e11 =>
 m9 [int .i64 e11, bool o9] y10)))))))))
 (Ar .i64 (n9 + 1) (fun f11 =>
 m9 [int .i64 f11, bool o9] x9)))))
 (c4 [bool o9] p9)) → m9 [int .i64 n9, bool o9] p9) →
 m9 [int .i64 0, bool a4] i9))))))))))))))))
 (R (bool true) b4)) → y3 [int .i64 z3, bool a4] b4) →
 y3 [int .i64 0, bool false] v3)))))
 (CondP (s3 != 0)
 (R (bool false) q3)
 (Calls Tryz.prog 35 #[pointer r3] q3 (fun g11 h11 =>
 ∃ i11, g11 = .returned (int .i64 i11) ∧
 CondP (i11 != j3)
 (R (bool false) h11)
 (∀ j11 : KW, (∀ (k11 : Int) (l11 : Bool) (m11 : World), (CondP (decide (k11 < (o : Int)))
 (∀ n11 : KW, (∀ (o11 : Bool) (p11 : World), (Ar .i64 (k11 + 1) (fun q11 =>
 j11 [int .i64 q11, bool o11] p11)) → n11 [bool o11] p11) →
 NilC n (fun r11 =>
 (0 : Int) ≤ k11 ∧ k11 < (o : Int) ∧
 ∃ s11, m11.cell? (r11.add (k11.toNat * 1)) = some (int .i64 s11) ∧
 Calls Tryz.prog 37 #[pointer r3, int .i64 s11] m11 (fun t11 u11 =>
 ∃ v11 x11, t11 = .returned (tuple #[int .i64 v11, bool x11]) ∧
 ∃ y11 z11 a12 b12 c12 d12 e12 f12 g12 h12 i12 j12 k12 l12 m12, (u11.cell? (nb j2) = some (slice y11 z11 a12) ∧ u11.cell? ((nb j2).add 1) = some (slice b12 c12 d12) ∧ u11.cell? ((nb j2).add 2) = some (slice e12 f12 g12) ∧ u11.cell? ((nb j2).add 3) = some (slice h12 i12 j12) ∧ u11.cell? ((nb j2).add 4) = some (slice k12 l12 m12) ∧ True) ∧
 Calls Tryz.prog 38 #[agg #[slice y11 z11 a12, slice b12 c12 d12, slice e12 f12 g12, slice h12 i12 j12, slice k12 l12 m12], int .i64 s11] u11 (fun n12 o12 =>
 ∃ p12, n12 = .returned (bool p12) ∧
 CondP (!(x11 == p12))
 (R (bool false) o12)
 (CondP (!x11)
 (Calls Tryz.prog 39 #[pointer r3, int .i64 s11] o12 (fun q12 r12 =>
 ∃ s12, q12 = .returned (bool s12) ∧
 CondP s12
 (R (bool false) r12)
 (Calls Tryz.prog 32 #[pointer r3, int .i64 s11] r12 (fun t12 u12 =>
 ∃ v12 x12 y12, t12 = .returned (slice v12 x12 y12) ∧
 CondP ((x12 : Int) != 0)
 (R (bool false) u12)
 (Calls Tryz.prog 36 #[pointer r3, int .i64 s11] u12 (fun z12 a13 =>
 ∃ b13, z12 = .returned (int .i64 b13) ∧
 CondP (b13 != 0)
 (R (bool false) a13)
 (Calls Tryz.prog 34 #[pointer r3, int .i64 s11, int .i64 97] a13 (fun c13 d13 =>
 ∃ e13, c13 = .returned (bool e13) ∧
 CondP e13
 (R (bool false) d13)
 (Calls Tryz.prog 34 #[pointer r3, int .i64 97, int .i64 s11] d13 (fun f13 g13 =>
 ∃ h13, f13 = .returned (bool h13) ∧
 CondP h13
 (R (bool false) g13)
 (n11 [bool l11] g13)))))))))))
 (Calls Tryz.prog 33 #[pointer r3, int .i64 v11] o12 (fun i13 j13 =>
 ∃ k13 l13, i13 = .returned (tuple #[int .i64 k13, bool l13]) ∧
 ∀ m13, m13 = j13.drew →
 CondP (k13 != s11)
 ((R (bool false) m13) ∧
 (R (bool false) m13))
 (CondP (!l13)
 ((R (bool false) m13) ∧
 (R (bool false) m13))
 (∃ n13 o13 p13 q13 r13 s13 t13 u13 v13 x13 y13 z13 a14 b14 c14, (m13.cell? (nb j2) = some (slice n13 o13 p13) ∧ m13.cell? ((nb j2).add 1) = some (slice q13 r13 s13) ∧ m13.cell? ((nb j2).add 2) = some (slice t13 u13 v13) ∧ m13.cell? ((nb j2).add 3) = some (slice x13 y13 z13) ∧ m13.cell? ((nb j2).add 4) = some (slice a14 b14 c14) ∧ True) ∧
 (Calls Tryz.prog 39 #[pointer r3, int .i64 s11] m13 (fun d14 e14 =>
 ∃ f14, d14 = .returned (bool f14) ∧
 (e14.cell? (nb j2) = some (slice n13 o13 p13) ∧ e14.cell? ((nb j2).add 1) = some (slice q13 r13 s13) ∧ e14.cell? ((nb j2).add 2) = some (slice t13 u13 v13) ∧ e14.cell? ((nb j2).add 3) = some (slice x13 y13 z13) ∧ e14.cell? ((nb j2).add 4) = some (slice a14 b14 c14) ∧ True) ∧
 ∀ g14, g14 = e14.alloc (.cells #[int .i64 s11] 3) →
 (g14.cell? (nb j2) = some (slice n13 o13 p13) ∧ g14.cell? ((nb j2).add 1) = some (slice q13 r13 s13) ∧ g14.cell? ((nb j2).add 2) = some (slice t13 u13 v13) ∧ g14.cell? ((nb j2).add 3) = some (slice x13 y13 z13) ∧ g14.cell? ((nb j2).add 4) = some (slice a14 b14 c14) ∧ True) ∧
 Calls Tryz.prog 20 #[agg #[slice n13 o13 p13, slice q13 r13 s13, slice t13 u13 v13, slice x13 y13 z13, slice a14 b14 c14], slice (some (nb e14)) 1 1] g14 (fun h14 i14 =>
 ∃ j14, h14 = .returned (bool j14) ∧
 CondP (!(f14 == j14))
 (R (bool false) i14)
 (Ar .i64 (j3 + 63) (fun k14 =>
 (64 : Int) ≠ 0 ∧
 Calls Tryz.prog 32 #[pointer r3, int .i64 s11] i14 (fun l14 m14 =>
 ∃ n14 o14 p14, l14 = .returned (slice n14 o14 p14) ∧
 CondP ((o14 : Int) != (IntKind.wrap .i64 (Int.tdiv k14 64)))
 (R (bool false) m14)
 (∀ q14 : KW, (∀ (r14 : Int) (s14 : Bool) (t14 : World), (CondP (decide (r14 < (o : Int)))
 (NilC n (fun u14 =>
 (0 : Int) ≤ r14 ∧ r14 < (o : Int) ∧
 ∃ v14, t14.cell? (u14.add (r14.toNat * 1)) = some (int .i64 v14) ∧
 Calls Tryz.prog 37 #[pointer r3, int .i64 v14] t14 (fun x14 y14 =>
 ∃ z14 a15, x14 = .returned (tuple #[int .i64 z14, bool a15]) ∧
 ∀ b15, b15 = y14.drew →
 CondP a15
 (∃ c15 d15 e15 f15 g15 h15 i15 j15 k15 l15 m15 n15 o15 p15 q15, (b15.cell? (nb j2) = some (slice c15 d15 e15) ∧ b15.cell? ((nb j2).add 1) = some (slice f15 g15 h15) ∧ b15.cell? ((nb j2).add 2) = some (slice i15 j15 k15) ∧ b15.cell? ((nb j2).add 3) = some (slice l15 m15 n15) ∧ b15.cell? ((nb j2).add 4) = some (slice o15 p15 q15) ∧ True) ∧
 Calls Tryz.prog 34 #[pointer r3, int .i64 s11, int .i64 v14] b15 (fun r15 s15 =>
 ∃ t15, r15 = .returned (bool t15) ∧
 (s15.cell? (nb j2) = some (slice c15 d15 e15) ∧ s15.cell? ((nb j2).add 1) = some (slice f15 g15 h15) ∧ s15.cell? ((nb j2).add 2) = some (slice i15 j15 k15) ∧ s15.cell? ((nb j2).add 3) = some (slice l15 m15 n15) ∧ s15.cell? ((nb j2).add 4) = some (slice o15 p15 q15) ∧ True) ∧
 Calls Tryz.prog 40 #[agg #[slice c15 d15 e15, slice f15 g15 h15, slice i15 j15 k15, slice l15 m15 n15, slice o15 p15 q15], int .i64 s11, int .i64 v14] s15 (fun u15 v15 =>
 ∃ x15, u15 = .returned (bool x15) ∧
 CondP (!(t15 == x15))
 (R (bool false) v15)
 ((64 : Int) ≠ 0 ∧
 (64 : Int) ≠ 0 ∧
 Calls Tryz.prog 34 #[pointer r3, int .i64 s11, int .i64 v14] v15 (fun y15 z15 =>
 ∃ a16, y15 = .returned (bool a16) ∧
 Calls Tryz.prog 32 #[pointer r3, int .i64 s11] z15 (fun b16 c16 =>
 ∃ d16 e16 f16, b16 = .returned (slice d16 e16 f16) ∧
 NilC d16 (fun g16 =>
 (0 : Int) ≤ (IntKind.wrap .i64 (Int.tdiv z14 64)) ∧ (IntKind.wrap .i64 (Int.tdiv z14 64)) < (e16 : Int) ∧
 ∃ h16, c16.cell? (g16.add ((IntKind.wrap .i64 (Int.tdiv z14 64) : Int).toNat * 1)) = some (int .u64 h16) ∧
 (0 : Int) ≤ (Int.tmod (IntKind.wrap .u64 z14) 64) ∧
 CondP (!(a16 == ((IntKind.wrap .u64 ((BitVec.ofInt (IntKind.bits .u64) (Int.fdiv h16 (2 ^ (min (Int.tmod (IntKind.wrap .u64 z14) 64 : Int).toNat (IntKind.bits .u64)))) &&& BitVec.ofInt (IntKind.bits .u64) 1).toNat : Int) : Int) == 1)))
 (R (bool false) c16)
 (Ar .i64 (r14 + 1) (fun i16 =>
 q14 [int .i64 i16, bool s14] c16)))))))))
 (Ar .i64 (r14 + 1) (fun j16 =>
 q14 [int .i64 j16, bool s14] b15)))))
 (n11 [bool s14] t14)) → q14 [int .i64 r14, bool s14] t14) →
 q14 [int .i64 0, bool l11] m14))))))) ∧
 (∀ k16, k16 = m13.alloc (.cells #[int .i64 s11] 3) →
 (k16.cell? (nb j2) = some (slice n13 o13 p13) ∧ k16.cell? ((nb j2).add 1) = some (slice q13 r13 s13) ∧ k16.cell? ((nb j2).add 2) = some (slice t13 u13 v13) ∧ k16.cell? ((nb j2).add 3) = some (slice x13 y13 z13) ∧ k16.cell? ((nb j2).add 4) = some (slice a14 b14 c14) ∧ True) ∧
 Calls Tryz.prog 39 #[pointer r3, int .i64 s11] k16 (fun l16 m16 =>
 ∃ n16, l16 = .returned (bool n16) ∧
 (m16.cell? (nb j2) = some (slice n13 o13 p13) ∧ m16.cell? ((nb j2).add 1) = some (slice q13 r13 s13) ∧ m16.cell? ((nb j2).add 2) = some (slice t13 u13 v13) ∧ m16.cell? ((nb j2).add 3) = some (slice x13 y13 z13) ∧ m16.cell? ((nb j2).add 4) = some (slice a14 b14 c14) ∧ True) ∧
 Calls Tryz.prog 20 #[agg #[slice n13 o13 p13, slice q13 r13 s13, slice t13 u13 v13, slice x13 y13 z13, slice a14 b14 c14], slice (some (nb m13)) 1 1] m16 (fun o16 p16 =>
 ∃ q16, o16 = .returned (bool q16) ∧
 CondP (!(n16 == q16))
 (R (bool false) p16)
 (Ar .i64 (j3 + 63) (fun r16 =>
 (64 : Int) ≠ 0 ∧
 Calls Tryz.prog 32 #[pointer r3, int .i64 s11] p16 (fun s16 t16 =>
 ∃ u16 v16 x16, s16 = .returned (slice u16 v16 x16) ∧
 CondP ((v16 : Int) != (IntKind.wrap .i64 (Int.tdiv r16 64)))
 (R (bool false) t16)
 (∀ y16 : KW, (∀ (z16 : Int) (a17 : Bool) (b17 : World), (CondP (decide (z16 < (o : Int)))
 (NilC n (fun c17 =>
 (0 : Int) ≤ z16 ∧ z16 < (o : Int) ∧
 ∃ d17, b17.cell? (c17.add (z16.toNat * 1)) = some (int .i64 d17) ∧
 Calls Tryz.prog 37 #[pointer r3, int .i64 d17] b17 (fun e17 f17 =>
 ∃ g17 h17, e17 = .returned (tuple #[int .i64 g17, bool h17]) ∧
 ∀ i17, i17 = f17.drew →
 CondP h17
 (∃ j17 k17 l17 m17 n17 o17 p17 q17 r17 s17 t17 u17 v17 x17 y17, (i17.cell? (nb j2) = some (slice j17 k17 l17) ∧ i17.cell? ((nb j2).add 1) = some (slice m17 n17 o17) ∧ i17.cell? ((nb j2).add 2) = some (slice p17 q17 r17) ∧ i17.cell? ((nb j2).add 3) = some (slice s17 t17 u17) ∧ i17.cell? ((nb j2).add 4) = some (slice v17 x17 y17) ∧ True) ∧
 Calls Tryz.prog 34 #[pointer r3, int .i64 s11, int .i64 d17] i17 (fun z17 a18 =>
 ∃ b18, z17 = .returned (bool b18) ∧
 (a18.cell? (nb j2) = some (slice j17 k17 l17) ∧ a18.cell? ((nb j2).add 1) = some (slice m17 n17 o17) ∧ a18.cell? ((nb j2).add 2) = some (slice p17 q17 r17) ∧ a18.cell? ((nb j2).add 3) = some (slice s17 t17 u17) ∧ a18.cell? ((nb j2).add 4) = some (slice v17 x17 y17) ∧ True) ∧
 Calls Tryz.prog 40 #[agg #[slice j17 k17 l17, slice m17 n17 o17, slice p17 q17 r17, slice s17 t17 u17, slice v17 x17 y17], int .i64 s11, int .i64 d17] a18 (fun c18 d18 =>
 ∃ e18, c18 = .returned (bool e18) ∧
 CondP (!(b18 == e18))
 (R (bool false) d18)
 ((64 : Int) ≠ 0 ∧
 (64 : Int) ≠ 0 ∧
 Calls Tryz.prog 34 #[pointer r3, int .i64 s11, int .i64 d17] d18 (fun f18 g18 =>
 ∃ h18, f18 = .returned (bool h18) ∧
 Calls Tryz.prog 32 #[pointer r3, int .i64 s11] g18 (fun i18 j18 =>
 ∃ k18 l18 m18, i18 = .returned (slice k18 l18 m18) ∧
 NilC k18 (fun n18 =>
 (0 : Int) ≤ (IntKind.wrap .i64 (Int.tdiv g17 64)) ∧ (IntKind.wrap .i64 (Int.tdiv g17 64)) < (l18 : Int) ∧
 ∃ o18, j18.cell? (n18.add ((IntKind.wrap .i64 (Int.tdiv g17 64) : Int).toNat * 1)) = some (int .u64 o18) ∧
 (0 : Int) ≤ (Int.tmod (IntKind.wrap .u64 g17) 64) ∧
 CondP (!(h18 == ((IntKind.wrap .u64 ((BitVec.ofInt (IntKind.bits .u64) (Int.fdiv o18 (2 ^ (min (Int.tmod (IntKind.wrap .u64 g17) 64 : Int).toNat (IntKind.bits .u64)))) &&& BitVec.ofInt (IntKind.bits .u64) 1).toNat : Int) : Int) == 1)))
 (R (bool false) j18)
 (Ar .i64 (z16 + 1) (fun p18 =>
 y16 [int .i64 p18, bool a17] j18)))))))))
 (Ar .i64 (z16 + 1) (fun q18 =>
 y16 [int .i64 q18, bool a17] i17)))))
 (n11 [bool a17] b17)) → y16 [int .i64 z16, bool a17] b17) →
 y16 [int .i64 0, bool l11] t16))))))))))))))))
 (R (bool true) m11)) → j11 [int .i64 k11, bool l11] m11) →
 j11 [int .i64 0, bool false] h11)))))))))))) [slice l2 m2 n2, slice o2 p2 q2, slice r2 s2 t2, slice u2 v2 x2, slice y2 z2 a3] 0))))))
theorem vc10_calls (a : OA) (b c : Nat) (d : OA) (f g : Nat) (h : OA) (i j : Nat) (k : OA) (l m : Nat) (n : OA) (o p : Nat) (q : Int) (w : World) (R : RW) (hh : vc10 a b c d f g h i j k l m n o p q w R) : Calls Tryz.prog 10 #[agg #[slice a b c, slice d f g, slice h i j, slice k l m], slice n o p, int .i64 q] w fun e w' => ∃ v, e = .returned v ∧ R v w' :=
 calls_of_den ctxOk (fn := Tryz.f10) (by kernel_rfl) (body := bodyOf Tryz.f10) (by kernel_rfl) (by kernel_rfl) (by kernel_rfl) (Eq.mp (by kernel_rfl) hh)
def vc29 (w : World) (R : RW) : Prop :=
 ∀ a, a = w.alloc (.cells #[int .i64 97, int .i64 98] 81) →
 Calls Tryz.prog 53 #[agg #[bool false, slice (some (nb w)) 1 1, slice none 0 0, slice none 0 0, slice none 0 0, slice none 0 0]] a (fun b c =>
 ∃ d f g, b = .returned (tuple #[pointer d, int .i64 f, int .i64 g]) ∧
 Calls Tryz.prog 30 #[pointer d, int .i64 1048576] c (fun h i =>
 ∃ j k, h = .returned (tuple #[pointer j, int .i64 k]) ∧
 CondP (k == 0)
 (Calls Tryz.prog 35 #[pointer j] i (fun l m =>
 ∃ n, l = .returned (int .i64 n) ∧
 CondP (n == 257)
 (Calls Tryz.prog 34 #[pointer j, int .i64 97, int .i64 98] m (fun o p =>
 ∃ q, o = .returned (bool q) ∧
 CondP (!q)
 (Calls Tryz.prog 34 #[pointer j, int .i64 98, int .i64 97] p (fun r s =>
 ∃ t, r = .returned (bool t) ∧
 CondP t
 (Calls Tryz.prog 36 #[pointer j, int .i64 97] s (fun u x =>
 ∃ y, u = .returned (int .i64 y) ∧
 R (bool (y == 256)) x))
 (R (bool false) s)))
 (R (bool false) p)))
 (R (bool false) m)))
 (R (bool false) i)))
theorem vc29_calls (w : World) (R : RW) (hh : vc29 w R) : Calls Tryz.prog 29 #[] w fun e w' => ∃ v, e = .returned v ∧ R v w' :=
 calls_of_den ctxOk (fn := Tryz.f29) (by kernel_rfl) (body := bodyOf Tryz.f29) (by kernel_rfl) (by kernel_rfl) (by kernel_rfl) (Eq.mp (by kernel_rfl) hh)
def vc30 (a : OA) (b : Int) (w : World) (R : RW) : Prop :=
 ∀ c, c = w.alloc (.cells #[pointer a] 31) →
 ∃ d, c.cell? (nb w) = some (pointer d) ∧
 Calls Tryz.prog 65 #[pointer d] c (fun f g =>
 ∃ h i j, f = .returned (slice h i j) ∧
 ∀ k, k = g.alloc (.cells #[slice none 0 0] 28) →
 (slice h i j).oneCell' = true ∧ (∃ u, k.cell? (nb g) = some u) ∧ k.frozen? (nb g) = false ∧
 ∀ l, l = (k.setCell (nb g) (slice h i j)) →
 ∃ m, l.cell? (nb w) = some (pointer m) ∧
 CondP (Option.isNone m)
 (R (tuple #[pointer none, int .i64 1]) l)
 (∃ n o p, l.cell? (nb g) = some (slice n o p) ∧
 ∃ q r s, l.cell? (nb g) = some (slice q r s) ∧
 Ar .i64 ((o : Int) * (r : Int)) (fun t =>
 CondP (decide (t > b))
 (R (tuple #[pointer none, int .i64 5]) l)
 (∃ x y z, l.cell? (nb g) = some (slice x y z) ∧
 ∃ a1 b1, (Instr.makeMap 100 none).run Tryz.prog l = .ok (map a1) b1 ∧
 ∀ c1, c1 = b1.alloc (.cells #[slice x y z, map a1, slice none 0 0, slice none 0 0] 104) →
 ∀ d1, d1 = c1.alloc (.cells #[pointer none] 57) →
 (pointer (some (nb b1))).oneCell' = true ∧ (∃ u, d1.cell? (nb c1) = some u) ∧ d1.frozen? (nb c1) = false ∧
 ∀ e1, e1 = (d1.setCell (nb c1) (pointer (some (nb b1)))) →
 ∃ f1 g1 h1, e1.cell? (nb g) = some (slice f1 g1 h1) ∧
 ∀ i1 : KW, (∀ (j1 : Int) (k1 : World), (CondP (decide (j1 < (g1 : Int)))
 (NilC f1 (fun l1 =>
 (0 : Int) ≤ j1 ∧ j1 < (g1 : Int) ∧
 ∃ m1, k1.cell? (l1.add (j1.toNat * 1)) = some (int .i64 m1) ∧
 ∃ n1, k1.cell? (nb c1) = some (pointer n1) ∧
 NilC n1 (fun o1 =>
 ∃ p1, k1.cell? (o1.add 1) = some (map p1) ∧
 ∃ q1, (Instr.mapUpdate 100 (map p1) (int .i64 m1) (int .i64 j1)).run Tryz.prog k1 = .ok () q1 ∧
 Ar .i64 (j1 + 1) (fun r1 =>
 i1 [int .i64 r1] q1))))
 (∀ s1, s1 = k1.drew →
 ∃ t1, s1.cell? (nb c1) = some (pointer t1) ∧
 ∃ u1 v1 x1, s1.cell? (nb g) = some (slice u1 v1 x1) ∧
 Calls Tryz.prog 66 #[int .i64 (v1 : Int), func (.func 67) #[] #[pointer (some (nb w)), pointer (some (nb g))]] s1 (fun y1 z1 =>
 ∃ a2 b2 c2, y1 = .returned (slice a2 b2 c2) ∧
 (z1.cell? (nb c1) = some (pointer t1) ∧ True) ∧
 NilC t1 (fun d2 =>
 (slice a2 b2 c2).oneCell' = true ∧ (∃ u, z1.cell? (d2.add 3) = some u) ∧ z1.frozen? (d2.add 3) = false ∧
 ∀ e2, e2 = (z1.setCell (d2.add 3) (slice a2 b2 c2)) →
 ∃ f2 g2 h2, e2.cell? (nb g) = some (slice f2 g2 h2) ∧
 ∀ i2 : KW, (∀ (j2 : Int) (k2 : World), (CondP (decide (j2 < (g2 : Int)))
 (NilC f2 (fun l2 =>
 (0 : Int) ≤ j2 ∧ j2 < (g2 : Int) ∧
 ∃ m2, k2.cell? (l2.add (j2.toNat * 1)) = some (int .i64 m2) ∧
 ∀ n2, n2 = k2.alloc (.cells #[int .i64 0] 3) →
 ∀ o2, o2 = n2.alloc (.cells #[int .i64 0] 3) →
 (int .i64 j2).oneCell' = true ∧ (∃ u, o2.cell? (nb k2) = some u) ∧ o2.frozen? (nb k2) = false ∧
 ∀ p2, p2 = (o2.setCell (nb k2) (int .i64 j2)) →
 (int .i64 m2).oneCell' = true ∧ (∃ u, p2.cell? (nb n2) = some u) ∧ p2.frozen? (nb n2) = false ∧
 ∀ q2, q2 = (p2.setCell (nb n2) (int .i64 m2)) →
 ∀ r2, r2 = q2.drew →
 ∃ s2, r2.cell? (nb c1) = some (pointer s2) ∧
 ∃ t2, r2.cell? (nb c1) = some (pointer t2) ∧
 NilC t2 (fun u2 =>
 ∃ v2 x2 y2, r2.cell? (u2.add 2) = some (slice v2 x2 y2) ∧
 ∃ z2 a3 b3, r2.cell? (nb g) = some (slice z2 a3 b3) ∧
 Calls Tryz.prog 66 #[int .i64 (a3 : Int), func (.func 69) #[] #[pointer (some (nb c1)), pointer (some (nb k2)), pointer (some (nb w)), pointer (some (nb n2)), pointer (some (nb g))]] r2 (fun c3 d3 =>
 ∃ e3 f3 g3, c3 = .returned (slice e3 f3 g3) ∧
 (d3.cell? (u2.add 2) = some (slice v2 x2 y2) ∧ True) ∧
 (d3.cell? (nb c1) = some (pointer t2) ∧ True) ∧
 (d3.cell? (nb c1) = some (pointer s2) ∧ True) ∧
 ∀ h3, h3 = d3.alloc (.cells #[slice e3 f3 g3] 102) →
 (h3.cell? (u2.add 2) = some (slice v2 x2 y2) ∧ True) ∧
 (h3.cell? (nb c1) = some (pointer t2) ∧ True) ∧
 (h3.cell? (nb c1) = some (pointer s2) ∧ True) ∧
 ∃ i3 j3 k3 l3, (Builtin.append_ #[101, 101] 101 #[slice v2 x2 y2, slice (some (nb d3)) 1 1]).run Tryz.prog h3 = .ok (slice i3 j3 k3) l3 ∧
 (l3.cell? (nb c1) = some (pointer s2) ∧ True) ∧
 NilC s2 (fun m3 =>
 (slice i3 j3 k3).oneCell' = true ∧ (∃ u, l3.cell? (m3.add 2) = some u) ∧ l3.frozen? (m3.add 2) = false ∧
 ∀ n3, n3 = (l3.setCell (m3.add 2) (slice i3 j3 k3)) →
 Ar .i64 (j2 + 1) (fun o3 =>
 i2 [int .i64 o3] n3))))))
 (∃ p3, k2.cell? (nb c1) = some (pointer p3) ∧
 R (tuple #[pointer p3, int .i64 0]) k2)) → i2 [int .i64 j2] k2) →
 i2 [int .i64 0] e2)))) → i1 [int .i64 j1] k1) →
 i1 [int .i64 0] e1))))
theorem vc30_calls (a : OA) (b : Int) (w : World) (R : RW) (hh : vc30 a b w R) : Calls Tryz.prog 30 #[pointer a, int .i64 b] w fun e w' => ∃ v, e = .returned v ∧ R v w' :=
 calls_of_den ctxOk (fn := Tryz.f30) (by kernel_rfl) (body := bodyOf Tryz.f30) (by kernel_rfl) (by kernel_rfl) (by kernel_rfl) (Eq.mp (by kernel_rfl) hh)
def vc32 (a : OA) (b : Int) (w : World) (R : RW) : Prop :=
 Calls Tryz.prog 37 #[pointer a, int .i64 b] w (fun c d =>
 ∃ f g, c = .returned (tuple #[int .i64 f, bool g]) ∧
 CondP (!g)
 (R (slice none 0 0) d)
 (NilC a (fun h =>
 ∃ i j k, d.cell? (h.add 2) = some (slice i j k) ∧
 NilC i (fun l =>
 (0 : Int) ≤ f ∧ f < (j : Int) ∧
 ∃ m n o, d.cell? (l.add (f.toNat * 1)) = some (slice m n o) ∧
 Calls Tryz.prog 72 #[slice m n o] d (fun p q =>
 ∃ r s t, p = .returned (slice r s t) ∧
 R (slice r s t) q)))))
theorem vc32_calls (a : OA) (b : Int) (w : World) (R : RW) (hh : vc32 a b w R) : Calls Tryz.prog 32 #[pointer a, int .i64 b] w fun e w' => ∃ v, e = .returned v ∧ R v w' :=
 calls_of_den ctxOk (fn := Tryz.f32) (by kernel_rfl) (body := bodyOf Tryz.f32) (by kernel_rfl) (by kernel_rfl) (by kernel_rfl) (Eq.mp (by kernel_rfl) hh)
def vc33 (a : OA) (b : Int) (w : World) (R : RW) : Prop :=
 CondP (decide (b < 0))
 (R (tuple #[int .i64 0, bool false]) w)
 (Calls Tryz.prog 35 #[pointer a] w (fun c d =>
 ∃ f, c = .returned (int .i64 f) ∧
 CondP (decide (b ≥ f))
 (R (tuple #[int .i64 0, bool false]) d)
 (NilC a (fun g =>
 ∃ h i j, d.cell? (g.add 0) = some (slice h i j) ∧
 NilC h (fun k =>
 (0 : Int) ≤ b ∧ b < (i : Int) ∧
 ∃ l, d.cell? (k.add (b.toNat * 1)) = some (int .i64 l) ∧
 R (tuple #[int .i64 l, bool true]) d)))))
theorem vc33_calls (a : OA) (b : Int) (w : World) (R : RW) (hh : vc33 a b w R) : Calls Tryz.prog 33 #[pointer a, int .i64 b] w fun e w' => ∃ v, e = .returned v ∧ R v w' :=
 calls_of_den ctxOk (fn := Tryz.f33) (by kernel_rfl) (body := bodyOf Tryz.f33) (by kernel_rfl) (by kernel_rfl) (by kernel_rfl) (Eq.mp (by kernel_rfl) hh)
def vc34 (a : OA) (b c : Int) (w : World) (R : RW) : Prop :=
 Calls Tryz.prog 37 #[pointer a, int .i64 b] w (fun d f =>
 ∃ g h, d = .returned (tuple #[int .i64 g, bool h]) ∧
 Calls Tryz.prog 37 #[pointer a, int .i64 c] f (fun i j =>
 ∃ k l, i = .returned (tuple #[int .i64 k, bool l]) ∧
 CondP h
 (CondP l
 (NilC a (fun m =>
 ∃ n o p, j.cell? (m.add 2) = some (slice n o p) ∧
 NilC n (fun q =>
 (0 : Int) ≤ g ∧ g < (o : Int) ∧
 ∃ r s t, j.cell? (q.add (g.toNat * 1)) = some (slice r s t) ∧
 Calls Tryz.prog 70 #[slice r s t, int .i64 k] j (fun u x =>
 ∃ y, u = .returned (bool y) ∧
 R (bool y) x))))
 (R (bool false) j))
 (R (bool false) j)))
theorem vc34_calls (a : OA) (b c : Int) (w : World) (R : RW) (hh : vc34 a b c w R) : Calls Tryz.prog 34 #[pointer a, int .i64 b, int .i64 c] w fun e w' => ∃ v, e = .returned v ∧ R v w' :=
 calls_of_den ctxOk (fn := Tryz.f34) (by kernel_rfl) (body := bodyOf Tryz.f34) (by kernel_rfl) (by kernel_rfl) (by kernel_rfl) (Eq.mp (by kernel_rfl) hh)
def vc35 (a : OA) (w : World) (R : RW) : Prop :=
 CondP (Option.isNone a)
 (R (int .i64 0) w)
 (NilC a (fun b =>
 ∃ c d f, w.cell? (b.add 0) = some (slice c d f) ∧
 R (int .i64 (d : Int)) w))
theorem vc35_calls (a : OA) (w : World) (R : RW) (hh : vc35 a w R) : Calls Tryz.prog 35 #[pointer a] w fun e w' => ∃ v, e = .returned v ∧ R v w' :=
 calls_of_den ctxOk (fn := Tryz.f35) (by kernel_rfl) (body := bodyOf Tryz.f35) (by kernel_rfl) (by kernel_rfl) (by kernel_rfl) (Eq.mp (by kernel_rfl) hh)
def vc36 (a : OA) (b : Int) (w : World) (R : RW) : Prop :=
 Calls Tryz.prog 37 #[pointer a, int .i64 b] w (fun c d =>
 ∃ f g, c = .returned (tuple #[int .i64 f, bool g]) ∧
 CondP (!g)
 (R (int .i64 0) d)
 (NilC a (fun h =>
 ∃ i j k, d.cell? (h.add 2) = some (slice i j k) ∧
 NilC i (fun l =>
 (0 : Int) ≤ f ∧ f < (j : Int) ∧
 ∃ m n o, d.cell? (l.add (f.toNat * 1)) = some (slice m n o) ∧
 Calls Tryz.prog 73 #[slice m n o] d (fun p q =>
 ∃ r, p = .returned (int .i64 r) ∧
 R (int .i64 r) q)))))
theorem vc36_calls (a : OA) (b : Int) (w : World) (R : RW) (hh : vc36 a b w R) : Calls Tryz.prog 36 #[pointer a, int .i64 b] w fun e w' => ∃ v, e = .returned v ∧ R v w' :=
 calls_of_den ctxOk (fn := Tryz.f36) (by kernel_rfl) (body := bodyOf Tryz.f36) (by kernel_rfl) (by kernel_rfl) (by kernel_rfl) (Eq.mp (by kernel_rfl) hh)
def vc37 (a : OA) (b : Int) (w : World) (R : RW) : Prop :=
 CondP (Option.isNone a)
 (R (tuple #[int .i64 0, bool false]) w)
 (NilC a (fun c =>
 ∃ d, w.cell? (c.add 1) = some (map d) ∧
 ∃ f g h, (Instr.lookup 100 (map d) (int .i64 b) true).run Tryz.prog w = .ok (tuple #[int .i64 f, bool g]) h ∧
 R (tuple #[int .i64 f, bool g]) h))
theorem vc37_calls (a : OA) (b : Int) (w : World) (R : RW) (hh : vc37 a b w R) : Calls Tryz.prog 37 #[pointer a, int .i64 b] w fun e w' => ∃ v, e = .returned v ∧ R v w' :=
 calls_of_den ctxOk (fn := Tryz.f37) (by kernel_rfl) (body := bodyOf Tryz.f37) (by kernel_rfl) (by kernel_rfl) (by kernel_rfl) (Eq.mp (by kernel_rfl) hh)
def vc39 (a : OA) (b : Int) (w : World) (R : RW) : Prop :=
 Calls Tryz.prog 37 #[pointer a, int .i64 b] w (fun c d =>
 ∃ f g, c = .returned (tuple #[int .i64 f, bool g]) ∧
 CondP g
 (NilC a (fun h =>
 ∃ i j k, d.cell? (h.add 3) = some (slice i j k) ∧
 Calls Tryz.prog 70 #[slice i j k, int .i64 f] d (fun l m =>
 ∃ n, l = .returned (bool n) ∧
 R (bool n) m)))
 (R (bool false) d))
theorem vc39_calls (a : OA) (b : Int) (w : World) (R : RW) (hh : vc39 a b w R) : Calls Tryz.prog 39 #[pointer a, int .i64 b] w fun e w' => ∃ v, e = .returned v ∧ R v w' :=
 calls_of_den ctxOk (fn := Tryz.f39) (by kernel_rfl) (body := bodyOf Tryz.f39) (by kernel_rfl) (by kernel_rfl) (by kernel_rfl) (Eq.mp (by kernel_rfl) hh)
def vc40 (a : OA) (b c : Nat) (d : OA) (f g : Nat) (h : OA) (i j : Nat) (k : OA) (l m : Nat) (n : OA) (o p : Nat) (q r : Int) (w : World) (R : RW) : Prop :=
 ∀ s, s = w.alloc (.cells #[slice a b c, slice d f g, slice h i j, slice k l m, slice n o p] 39) →
 ∃ t u x y z a1 b1 c1 d1 e1 f1 g1 h1 i1 j1, (s.cell? (nb w) = some (slice t u x) ∧ s.cell? ((nb w).add 1) = some (slice y z a1) ∧ s.cell? ((nb w).add 2) = some (slice b1 c1 d1) ∧ s.cell? ((nb w).add 3) = some (slice e1 f1 g1) ∧ s.cell? ((nb w).add 4) = some (slice h1 i1 j1) ∧ True) ∧
 ∀ k1, k1 = s.alloc (.cells #[int .i64 q, int .i64 r] 3) →
 Calls Tryz.prog 20 #[agg #[slice t u x, slice y z a1, slice b1 c1 d1, slice e1 f1 g1, slice h1 i1 j1], slice (some (nb s)) 2 2] k1 (fun l1 m1 =>
 ∃ n1, l1 = .returned (bool n1) ∧
 R (bool n1) m1)
theorem vc40_calls (a : OA) (b c : Nat) (d : OA) (f g : Nat) (h : OA) (i j : Nat) (k : OA) (l m : Nat) (n : OA) (o p : Nat) (q r : Int) (w : World) (R : RW) (hh : vc40 a b c d f g h i j k l m n o p q r w R) : Calls Tryz.prog 40 #[agg #[slice a b c, slice d f g, slice h i j, slice k l m, slice n o p], int .i64 q, int .i64 r] w fun e w' => ∃ v, e = .returned v ∧ R v w' :=
 calls_of_den ctxOk (fn := Tryz.f40) (by kernel_rfl) (body := bodyOf Tryz.f40) (by kernel_rfl) (by kernel_rfl) (by kernel_rfl) (Eq.mp (by kernel_rfl) hh)
def vc65 (a : OA) (w : World) (R : RW) : Prop :=
 Calls Tryz.prog 94 #[pointer a] w (fun b c =>
 ∃ d, b = .returned (int .i64 d) ∧
 ∀ f : KW, (∀ (g : Int) (h : OA) (i j : Nat) (k : World), (CondP (decide (g < d))
 (∀ l, l = k.alloc (.cells #[int .i64 g] 3) →
 ∃ m n o p, (Builtin.append_ #[28, 28] 28 #[slice h i j, slice (some (nb k)) 1 1]).run Tryz.prog l = .ok (slice m n o) p ∧
 Ar .i64 (g + 1) (fun q =>
 f [int .i64 q, slice m n o] p))
 (Calls Tryz.prog 92 #[pointer a] k (fun r s =>
 ∃ t, r = .returned (pointer t) ∧
 Calls Tryz.prog 96 #[pointer t] s (fun u x =>
 ∃ y z a1, u = .returned (slice y z a1) ∧
 ∀ b1 : KW, (∀ (c1 : Int) (d1 : OA) (e1 f1 : Nat) (g1 : World), (CondP (decide (c1 < (z : Int)))
 (NilC y (fun h1 =>
 (0 : Int) ≤ c1 ∧ c1 < (z : Int) ∧
 ∃ i1 j1, (g1.cell? (h1.add (c1.toNat * 2)) = some (int .i64 i1) ∧ g1.cell? ((h1.add (c1.toNat * 2)).add 1) = some (string j1) ∧ True) ∧
 ∀ k1, k1 = g1.alloc (.cells #[int .i64 0, string ⟨#[]⟩] 93) →
 StoreP k1 (nb g1) (fun l1 =>
 ∃ m1, l1.cell? ((nb g1).add 0) = some (int .i64 m1) ∧
 ∀ n1, n1 = l1.alloc (.cells #[int .i64 m1] 3) →
 ∃ o1 p1 q1 r1, (Builtin.append_ #[28, 28] 28 #[slice d1 e1 f1, slice (some (nb l1)) 1 1]).run Tryz.prog n1 = .ok (slice o1 p1 q1) r1 ∧
 Ar .i64 (c1 + 1) (fun s1 =>
 b1 [int .i64 s1, slice o1 p1 q1] r1)) [int .i64 i1, string j1] 0))
 (Calls Tryz.prog 97 #[slice d1 e1 f1] g1 (fun t1 u1 =>
 t1 = .returned (tuple #[]) ∧
 R (slice d1 e1 f1) u1))) → b1 [int .i64 c1, slice d1 e1 f1] g1) →
 b1 [int .i64 0, slice h i j] x)))) → f [int .i64 g, slice h i j] k) →
 f [int .i64 0, slice none 0 0] c)
theorem vc65_calls (a : OA) (w : World) (R : RW) (hh : vc65 a w R) : Calls Tryz.prog 65 #[pointer a] w fun e w' => ∃ v, e = .returned v ∧ R v w' :=
 calls_of_den ctxOk (fn := Tryz.f65) (by kernel_rfl) (body := bodyOf Tryz.f65) (by kernel_rfl) (by kernel_rfl) (by kernel_rfl) (Eq.mp (by kernel_rfl) hh)
def vc66 (a : Int) (b : Value) (w : World) (R : RW) : Prop :=
 Ar .i64 (a + 64) (fun c =>
 Ar .i64 (c - 1) (fun d =>
 (64 : Int) ≠ 0 ∧
 ∃ f g h i, (Instr.makeSlice 102 (int .i64 (IntKind.wrap .i64 (Int.tdiv d 64))) (int .i64 (IntKind.wrap .i64 (Int.tdiv d 64)))).run Tryz.prog w = .ok (slice f g h) i ∧
 ∀ j : KW, (∀ (k : Int) (l : World), (CondP (decide (k < a))
 (∀ m : KW, (∀ n : World, (Ar .i64 (k + 1) (fun o =>
 j [int .i64 o] n)) → m [] n) →
 CallG ctx b [int .i64 k] l (fun p q =>
 ∃ r, p = .returned (bool r) ∧
 CondP r
 (Calls Tryz.prog 98 #[slice f g h, int .i64 k] q (fun s t =>
 s = .returned (tuple #[]) ∧
 m [] t))
 (m [] q)))
 (R (slice f g h) l)) → j [int .i64 k] l) →
 j [int .i64 0] i))
theorem vc66_calls (a : Int) (b : Value) (w : World) (R : RW) (hh : vc66 a b w R) : Calls Tryz.prog 66 #[int .i64 a, b] w fun e w' => ∃ v, e = .returned v ∧ R v w' :=
 calls_of_den ctxOk (fn := Tryz.f66) (by kernel_rfl) (body := bodyOf Tryz.f66) (by kernel_rfl) (by kernel_rfl) (by kernel_rfl) (Eq.mp (by kernel_rfl) hh)
def vc67 (a : Int) (b c : OA) (w : World) (R : RW) : Prop :=
 ∀ d, d = w.drew →
 NilC b (fun f =>
 ∃ g, d.cell? f = some (pointer g) ∧
 NilC c (fun h =>
 ∃ i j k, d.cell? h = some (slice i j k) ∧
 NilC i (fun l =>
 (0 : Int) ≤ a ∧ a < (j : Int) ∧
 ∃ m, d.cell? (l.add (a.toNat * 1)) = some (int .i64 m) ∧
 Calls Tryz.prog 68 #[pointer g, int .i64 m] d (fun n o =>
 ∃ p, n = .returned (bool p) ∧
 R (bool p) o))))
theorem vc67_calls (a : Int) (b c : OA) (w : World) (R : RW) (hh : vc67 a b c w R) : Calls Tryz.prog 67 #[int .i64 a, pointer b, pointer c] w fun e w' => ∃ v, e = .returned v ∧ R v w' :=
 calls_of_den ctxOk (fn := Tryz.f67) (by kernel_rfl) (body := bodyOf Tryz.f67) (by kernel_rfl) (by kernel_rfl) (by kernel_rfl) (Eq.mp (by kernel_rfl) hh)
def vc69 (a : Int) (b c d f g : OA) (w : World) (R : RW) : Prop :=
 ∀ h, h = w.drew →
 NilC b (fun i =>
 ∃ j, h.cell? i = some (pointer j) ∧
 NilC j (fun k =>
 ∃ l m n, h.cell? (k.add 3) = some (slice l m n) ∧
 NilC c (fun o =>
 ∃ p, h.cell? o = some (int .i64 p) ∧
 Calls Tryz.prog 70 #[slice l m n, int .i64 p] h (fun q r =>
 ∃ s, q = .returned (bool s) ∧
 CondP s
 (NilC b (fun t =>
 ∃ u, r.cell? t = some (pointer u) ∧
 NilC u (fun x =>
 ∃ y z a1, r.cell? (x.add 3) = some (slice y z a1) ∧
 Calls Tryz.prog 70 #[slice y z a1, int .i64 a] r (fun b1 c1 =>
 ∃ d1, b1 = .returned (bool d1) ∧
 CondP d1
 (NilC d (fun e1 =>
 ∃ f1, c1.cell? e1 = some (pointer f1) ∧
 NilC f (fun g1 =>
 ∃ h1, c1.cell? g1 = some (int .i64 h1) ∧
 NilC g (fun i1 =>
 ∃ j1 k1 l1, c1.cell? i1 = some (slice j1 k1 l1) ∧
 NilC j1 (fun m1 =>
 (0 : Int) ≤ a ∧ a < (k1 : Int) ∧
 ∃ n1, c1.cell? (m1.add (a.toNat * 1)) = some (int .i64 n1) ∧
 Calls Tryz.prog 71 #[pointer f1, int .i64 h1, int .i64 n1] c1 (fun o1 p1 =>
 ∃ q1, o1 = .returned (bool q1) ∧
 R (bool q1) p1))))))
 (R (bool false) c1)))))
 (R (bool false) r)))))
theorem vc69_calls (a : Int) (b c d f g : OA) (w : World) (R : RW) (hh : vc69 a b c d f g w R) : Calls Tryz.prog 69 #[int .i64 a, pointer b, pointer c, pointer d, pointer f, pointer g] w fun e w' => ∃ v, e = .returned v ∧ R v w' :=
 calls_of_den ctxOk (fn := Tryz.f69) (by kernel_rfl) (body := bodyOf Tryz.f69) (by kernel_rfl) (by kernel_rfl) (by kernel_rfl) (Eq.mp (by kernel_rfl) hh)
def vc70 (a : OA) (b c : Nat) (d : Int) (w : World) (R : RW) : Prop :=
 (64 : Int) ≠ 0 ∧
 NilC a (fun f =>
 (0 : Int) ≤ (IntKind.wrap .i64 (Int.tdiv d 64)) ∧ (IntKind.wrap .i64 (Int.tdiv d 64)) < (b : Int) ∧
 ∃ g, w.cell? (f.add ((IntKind.wrap .i64 (Int.tdiv d 64) : Int).toNat * 1)) = some (int .u64 g) ∧
 (64 : Int) ≠ 0 ∧
 (0 : Int) ≤ (Int.tmod d 64) ∧
 R (bool ((IntKind.wrap .u64 ((BitVec.ofInt (IntKind.bits .u64) (Int.fdiv g (2 ^ (min (Int.tmod d 64 : Int).toNat (IntKind.bits .u64)))) &&& BitVec.ofInt (IntKind.bits .u64) 1).toNat : Int) : Int) == 1)) w)
theorem vc70_calls (a : OA) (b c : Nat) (d : Int) (w : World) (R : RW) (hh : vc70 a b c d w R) : Calls Tryz.prog 70 #[slice a b c, int .i64 d] w fun e w' => ∃ v, e = .returned v ∧ R v w' :=
 calls_of_den ctxOk (fn := Tryz.f70) (by kernel_rfl) (body := bodyOf Tryz.f70) (by kernel_rfl) (by kernel_rfl) (by kernel_rfl) (Eq.mp (by kernel_rfl) hh)
def vc71 (a : OA) (b c : Int) (w : World) (R : RW) : Prop :=
 Calls Tryz.prog 68 #[pointer a, int .i64 b] w (fun d f =>
 ∃ g, d = .returned (bool g) ∧
 CondP g
 (Calls Tryz.prog 68 #[pointer a, int .i64 c] f (fun h i =>
 ∃ j, h = .returned (bool j) ∧
 CondP j
 (Calls Tryz.prog 102 #[pointer a, int .i64 b, int .i64 c] i (fun k l =>
 ∃ m, k = .returned (bool m) ∧
 R (bool m) l))
 (R (bool false) i)))
 (R (bool false) f))
theorem vc71_calls (a : OA) (b c : Int) (w : World) (R : RW) (hh : vc71 a b c w R) : Calls Tryz.prog 71 #[pointer a, int .i64 b, int .i64 c] w fun e w' => ∃ v, e = .returned v ∧ R v w' :=
 calls_of_den ctxOk (fn := Tryz.f71) (by kernel_rfl) (body := bodyOf Tryz.f71) (by kernel_rfl) (by kernel_rfl) (by kernel_rfl) (Eq.mp (by kernel_rfl) hh)
def vc72 (a : OA) (b c : Nat) (w : World) (R : RW) : Prop :=
 CondP (Option.isNone a)
 (R (slice none 0 0) w)
 (∀ d, d = w.alloc (.cells #[] 64) →
 ∃ f g h i, (Builtin.append_ #[102, 102] 102 #[slice (some (nb w)) 0 0, slice a b c]).run Tryz.prog d = .ok (slice f g h) i ∧
 R (slice f g h) i)
theorem vc72_calls (a : OA) (b c : Nat) (w : World) (R : RW) (hh : vc72 a b c w R) : Calls Tryz.prog 72 #[slice a b c] w fun e w' => ∃ v, e = .returned v ∧ R v w' :=
 calls_of_den ctxOk (fn := Tryz.f72) (by kernel_rfl) (body := bodyOf Tryz.f72) (by kernel_rfl) (by kernel_rfl) (by kernel_rfl) (Eq.mp (by kernel_rfl) hh)
def vc73 (a : OA) (b c : Nat) (w : World) (R : RW) : Prop :=
 ∀ d : KW, (∀ (f g : Int) (h : World), (CondP (decide (f < (b : Int)))
 (NilC a (fun i =>
 (0 : Int) ≤ f ∧ f < (b : Int) ∧
 ∃ j, h.cell? (i.add (f.toNat * 1)) = some (int .u64 j) ∧
 Calls Tryz.prog 103 #[int .u64 j] h (fun k l =>
 ∃ m, k = .returned (int .i64 m) ∧
 Ar .i64 (g + m) (fun n =>
 Ar .i64 (f + 1) (fun o =>
 d [int .i64 o, int .i64 n] l)))))
 (R (int .i64 g) h)) → d [int .i64 f, int .i64 g] h) →
 d [int .i64 0, int .i64 0] w
theorem vc73_calls (a : OA) (b c : Nat) (w : World) (R : RW) (hh : vc73 a b c w R) : Calls Tryz.prog 73 #[slice a b c] w fun e w' => ∃ v, e = .returned v ∧ R v w' :=
 calls_of_den ctxOk (fn := Tryz.f73) (by kernel_rfl) (body := bodyOf Tryz.f73) (by kernel_rfl) (by kernel_rfl) (by kernel_rfl) (Eq.mp (by kernel_rfl) hh)
def vc96 (a : OA) (w : World) (R : RW) : Prop :=
 CondP (Option.isNone a)
 (R (slice none 0 0) w)
 (NilC a (fun b =>
 ∃ c d f, w.cell? (b.add 0) = some (slice c d f) ∧
 Calls Tryz.prog 128 #[slice c d f] w (fun g h =>
 ∃ i j k, g = .returned (slice i j k) ∧
 R (slice i j k) h)))
theorem vc96_calls (a : OA) (w : World) (R : RW) (hh : vc96 a w R) : Calls Tryz.prog 96 #[pointer a] w fun e w' => ∃ v, e = .returned v ∧ R v w' :=
 calls_of_den ctxOk (fn := Tryz.f96) (by kernel_rfl) (body := bodyOf Tryz.f96) (by kernel_rfl) (by kernel_rfl) (by kernel_rfl) (Eq.mp (by kernel_rfl) hh)
def vc97 (a : OA) (b c : Nat) (w : World) (R : RW) : Prop :=
 Calls Tryz.prog 130 #[int .u64 (IntKind.wrap .u64 (b : Int))] w (fun d f =>
 ∃ g, d = .returned (int .i64 g) ∧
 Calls Tryz.prog 129 #[slice a b c, int .i64 0, int .i64 (b : Int), int .i64 g] f (fun h i =>
 h = .returned (tuple #[]) ∧
 R (tuple #[]) i))
theorem vc97_calls (a : OA) (b c : Nat) (w : World) (R : RW) (hh : vc97 a b c w R) : Calls Tryz.prog 97 #[slice a b c] w fun e w' => ∃ v, e = .returned v ∧ R v w' :=
 calls_of_den ctxOk (fn := Tryz.f97) (by kernel_rfl) (body := bodyOf Tryz.f97) (by kernel_rfl) (by kernel_rfl) (by kernel_rfl) (Eq.mp (by kernel_rfl) hh)
def vc98 (a : OA) (b c : Nat) (d : Int) (w : World) (R : RW) : Prop :=
 ∀ f, f = w.drew →
 (64 : Int) ≠ 0 ∧
 NilC a (fun g =>
 (0 : Int) ≤ (IntKind.wrap .i64 (Int.tdiv d 64)) ∧ (IntKind.wrap .i64 (Int.tdiv d 64)) < (b : Int) ∧
 ∃ h, f.cell? (g.add ((IntKind.wrap .i64 (Int.tdiv d 64) : Int).toNat * 1)) = some (int .u64 h) ∧
 (64 : Int) ≠ 0 ∧
 (0 : Int) ≤ (Int.tmod d 64) ∧
 NilC a (fun i =>
 (0 : Int) ≤ (IntKind.wrap .i64 (Int.tdiv d 64)) ∧ (IntKind.wrap .i64 (Int.tdiv d 64)) < (b : Int) ∧
 (int .u64 (IntKind.wrap .u64 ((BitVec.ofInt (IntKind.bits .u64) h ||| BitVec.ofInt (IntKind.bits .u64) (IntKind.wrap .u64 ((1 : Int) * 2 ^ (min (Int.tmod d 64 : Int).toNat (IntKind.bits .u64))))).toNat : Int))).oneCell' = true ∧ (∃ u, f.cell? (i.add ((IntKind.wrap .i64 (Int.tdiv d 64) : Int).toNat * 1)) = some u) ∧ f.frozen? (i.add ((IntKind.wrap .i64 (Int.tdiv d 64) : Int).toNat * 1)) = false ∧
 ∀ j, j = (f.setCell (i.add ((IntKind.wrap .i64 (Int.tdiv d 64) : Int).toNat * 1)) (int .u64 (IntKind.wrap .u64 ((BitVec.ofInt (IntKind.bits .u64) h ||| BitVec.ofInt (IntKind.bits .u64) (IntKind.wrap .u64 ((1 : Int) * 2 ^ (min (Int.tmod d 64 : Int).toNat (IntKind.bits .u64))))).toNat : Int)))) →
 R (tuple #[]) j))
theorem vc98_calls (a : OA) (b c : Nat) (d : Int) (w : World) (R : RW) (hh : vc98 a b c d w R) : Calls Tryz.prog 98 #[slice a b c, int .i64 d] w fun e w' => ∃ v, e = .returned v ∧ R v w' :=
 calls_of_den ctxOk (fn := Tryz.f98) (by kernel_rfl) (body := bodyOf Tryz.f98) (by kernel_rfl) (by kernel_rfl) (by kernel_rfl) (Eq.mp (by kernel_rfl) hh)
def vc103 (a : Int) (w : World) (R : RW) : Prop :=
 (0 : Int) ≤ 1 ∧
 Ar .u64 ((IntKind.wrap .u64 ((BitVec.ofInt (IntKind.bits .u64) (Int.fdiv a (2 ^ (min (1 : Int).toNat (IntKind.bits .u64)))) &&& BitVec.ofInt (IntKind.bits .u64) 6148914691236517205).toNat : Int) : Int) + (IntKind.wrap .u64 ((BitVec.ofInt (IntKind.bits .u64) a &&& BitVec.ofInt (IntKind.bits .u64) 6148914691236517205).toNat : Int))) (fun b =>
 (0 : Int) ≤ 2 ∧
 Ar .u64 ((IntKind.wrap .u64 ((BitVec.ofInt (IntKind.bits .u64) (Int.fdiv b (2 ^ (min (2 : Int).toNat (IntKind.bits .u64)))) &&& BitVec.ofInt (IntKind.bits .u64) 3689348814741910323).toNat : Int) : Int) + (IntKind.wrap .u64 ((BitVec.ofInt (IntKind.bits .u64) b &&& BitVec.ofInt (IntKind.bits .u64) 3689348814741910323).toNat : Int))) (fun c =>
 (0 : Int) ≤ 4 ∧
 Ar .u64 ((Int.fdiv c (2 ^ (min (4 : Int).toNat (IntKind.bits .u64))) : Int) + c) (fun d =>
 (0 : Int) ≤ 8 ∧
 Ar .u64 ((IntKind.wrap .u64 ((BitVec.ofInt (IntKind.bits .u64) d &&& BitVec.ofInt (IntKind.bits .u64) 1085102592571150095).toNat : Int) : Int) + (Int.fdiv (IntKind.wrap .u64 ((BitVec.ofInt (IntKind.bits .u64) d &&& BitVec.ofInt (IntKind.bits .u64) 1085102592571150095).toNat : Int)) (2 ^ (min (8 : Int).toNat (IntKind.bits .u64))))) (fun f =>
 (0 : Int) ≤ 16 ∧
 Ar .u64 (f + (Int.fdiv f (2 ^ (min (16 : Int).toNat (IntKind.bits .u64))))) (fun g =>
 (0 : Int) ≤ 32 ∧
 Ar .u64 (g + (Int.fdiv g (2 ^ (min (32 : Int).toNat (IntKind.bits .u64))))) (fun h =>
 R (int .i64 (IntKind.wrap .i64 ((BitVec.ofInt (IntKind.bits .i64) (IntKind.wrap .i64 h) &&& BitVec.ofInt (IntKind.bits .i64) 127).toNat : Int))) w))))))
theorem vc103_calls (a : Int) (w : World) (R : RW) (hh : vc103 a w R) : Calls Tryz.prog 103 #[int .u64 a] w fun e w' => ∃ v, e = .returned v ∧ R v w' :=
 calls_of_den ctxOk (fn := Tryz.f103) (by kernel_rfl) (body := bodyOf Tryz.f103) (by kernel_rfl) (by kernel_rfl) (by kernel_rfl) (Eq.mp (by kernel_rfl) hh)
def vc129 (a : OA) (b c : Nat) (d f g : Int) (w : World) (R : RW) : Prop :=
 ∀ h : KW, (∀ (i j : Bool) (k l m : Int) (n : World), (∀ o : KW, (∀ (p q : Bool) (r s t : Int) (u : World), (h [bool p, bool q, int .i64 r, int .i64 s, int .i64 t] u) → o [bool p, bool q, int .i64 r, int .i64 s, int .i64 t] u) →
 Ar .i64 (l - k) (fun x =>
 CondP (decide (x ≤ 12))
 (Calls Tryz.prog 164 #[slice a b c, int .i64 k, int .i64 l] n (fun y z =>
 y = .returned (tuple #[]) ∧
 R (tuple #[]) z))
 (CondP (m == 0)
 (Calls Tryz.prog 165 #[slice a b c, int .i64 k, int .i64 l] n (fun a1 b1 =>
 a1 = .returned (tuple #[]) ∧
 R (tuple #[]) b1))
 (∀ c1 : KW, (∀ (d1 : Int) (e1 : World), (Calls Tryz.prog 167 #[slice a b c, int .i64 k, int .i64 l] e1 (fun f1 g1 =>
 ∃ h1 i1, f1 = .returned (tuple #[int .i64 h1, int .i64 i1]) ∧
 ∀ j1 : KW, (∀ (k1 l1 : Int) (m1 : World), (∀ n1 : KW, (∀ o1 : World, (∀ p1, p1 = o1.drew →
 CondP (decide (k > 0))
 (Ar .i64 (k - 1) (fun q1 =>
 NilC a (fun r1 =>
 (0 : Int) ≤ q1 ∧ q1 < (b : Int) ∧
 ∃ s1, p1.cell? (r1.add (q1.toNat * 1)) = some (int .i64 s1) ∧
 NilC a (fun t1 =>
 (0 : Int) ≤ l1 ∧ l1 < (b : Int) ∧
 ∃ u1, p1.cell? (t1.add (l1.toNat * 1)) = some (int .i64 u1) ∧
 Calls Tryz.prog 170 #[int .i64 s1, int .i64 u1] p1 (fun v1 x1 =>
 ∃ y1, v1 = .returned (bool y1) ∧
 CondP (!y1)
 (Calls Tryz.prog 171 #[slice a b c, int .i64 k, int .i64 l, int .i64 l1] x1 (fun z1 a2 =>
 ∃ b2, z1 = .returned (int .i64 b2) ∧
 o [bool i, bool j, int .i64 b2, int .i64 l, int .i64 d1] a2))
 (Calls Tryz.prog 172 #[slice a b c, int .i64 k, int .i64 l, int .i64 l1] x1 (fun c2 d2 =>
 ∃ e2 f2, c2 = .returned (tuple #[int .i64 e2, bool f2]) ∧
 Ar .i64 (e2 - k) (fun g2 =>
 Ar .i64 (l - e2) (fun h2 =>
 (8 : Int) ≠ 0 ∧
 CondP (decide (g2 < h2))
 (Calls Tryz.prog 129 #[slice a b c, int .i64 k, int .i64 e2, int .i64 d1] d2 (fun i2 j2 =>
 i2 = .returned (tuple #[]) ∧
 Ar .i64 (e2 + 1) (fun k2 =>
 o [bool f2, bool (decide (g2 ≥ (IntKind.wrap .i64 (Int.tdiv x 8)))), int .i64 k2, int .i64 l, int .i64 d1] j2)))
 (Ar .i64 (e2 + 1) (fun l2 =>
 Calls Tryz.prog 129 #[slice a b c, int .i64 l2, int .i64 l, int .i64 d1] d2 (fun m2 n2 =>
 m2 = .returned (tuple #[]) ∧
 o [bool f2, bool (decide (h2 ≥ (IntKind.wrap .i64 (Int.tdiv x 8)))), int .i64 k, int .i64 e2, int .i64 d1] n2))))))))))))
 (Calls Tryz.prog 172 #[slice a b c, int .i64 k, int .i64 l, int .i64 l1] p1 (fun o2 p2 =>
 ∃ q2 r2, o2 = .returned (tuple #[int .i64 q2, bool r2]) ∧
 Ar .i64 (q2 - k) (fun s2 =>
 Ar .i64 (l - q2) (fun t2 =>
 (8 : Int) ≠ 0 ∧
 CondP (decide (s2 < t2))
 (Calls Tryz.prog 129 #[slice a b c, int .i64 k, int .i64 q2, int .i64 d1] p2 (fun u2 v2 =>
 u2 = .returned (tuple #[]) ∧
 Ar .i64 (q2 + 1) (fun x2 =>
 o [bool r2, bool (decide (s2 ≥ (IntKind.wrap .i64 (Int.tdiv x 8)))), int .i64 x2, int .i64 l, int .i64 d1] v2)))
 (Ar .i64 (q2 + 1) (fun y2 =>
 Calls Tryz.prog 129 #[slice a b c, int .i64 y2, int .i64 l, int .i64 d1] p2 (fun z2 a3 =>
 z2 = .returned (tuple #[]) ∧
 o [bool r2, bool (decide (t2 ≥ (IntKind.wrap .i64 (Int.tdiv x 8)))), int .i64 k, int .i64 q2, int .i64 d1] a3)))))))) → n1 [] o1) →
 CondP j
 (CondP i
 (CondP (k1 == 1)
 (Calls Tryz.prog 169 #[slice a b c, int .i64 k, int .i64 l] m1 (fun b3 c3 =>
 ∃ d3, b3 = .returned (bool d3) ∧
 CondP d3
 (R (tuple #[]) c3)
 (n1 [] c3)))
 (n1 [] m1))
 (n1 [] m1))
 (n1 [] m1)) → j1 [int .i64 k1, int .i64 l1] m1) →
 CondP (i1 == 2)
 (Calls Tryz.prog 168 #[slice a b c, int .i64 k, int .i64 l] g1 (fun e3 f3 =>
 e3 = .returned (tuple #[]) ∧
 Ar .i64 (l - 1) (fun g3 =>
 Ar .i64 (h1 - k) (fun h3 =>
 Ar .i64 (g3 - h3) (fun i3 =>
 j1 [int .i64 1, int .i64 i3] f3)))))
 (j1 [int .i64 i1, int .i64 h1] g1))) → c1 [int .i64 d1] e1) →
 CondP (!j)
 (Calls Tryz.prog 166 #[slice a b c, int .i64 k, int .i64 l] n (fun j3 k3 =>
 j3 = .returned (tuple #[]) ∧
 Ar .i64 (m - 1) (fun l3 =>
 c1 [int .i64 l3] k3)))
 (c1 [int .i64 m] n))))) → h [bool i, bool j, int .i64 k, int .i64 l, int .i64 m] n) →
 h [bool true, bool true, int .i64 d, int .i64 f, int .i64 g] w
theorem vc129_calls (a : OA) (b c : Nat) (d f g : Int) (w : World) (R : RW) (hh : vc129 a b c d f g w R) : Calls Tryz.prog 129 #[slice a b c, int .i64 d, int .i64 f, int .i64 g] w fun e w' => ∃ v, e = .returned v ∧ R v w' :=
 calls_of_den ctxOk (fn := Tryz.f129) (by kernel_rfl) (body := bodyOf Tryz.f129) (by kernel_rfl) (by kernel_rfl) (by kernel_rfl) (Eq.mp (by kernel_rfl) hh)
def vc130 (a : Int) (w : World) (R : RW) : Prop :=
 Calls Tryz.prog 174 #[int .u64 a] w (fun b c =>
 ∃ d, b = .returned (int .i64 d) ∧
 R (int .i64 d) c)
theorem vc130_calls (a : Int) (w : World) (R : RW) (hh : vc130 a w R) : Calls Tryz.prog 130 #[int .u64 a] w fun e w' => ∃ v, e = .returned v ∧ R v w' :=
 calls_of_den ctxOk (fn := Tryz.f130) (by kernel_rfl) (body := bodyOf Tryz.f130) (by kernel_rfl) (by kernel_rfl) (by kernel_rfl) (Eq.mp (by kernel_rfl) hh)
def vc167 (a : OA) (b c : Nat) (d f : Int) (w : World) (R : RW) : Prop :=
 Ar .i64 (f - d) (fun g =>
 ∀ h, h = w.alloc (.cells #[int .i64 0] 3) →
 (4 : Int) ≠ 0 ∧
 Ar .i64 ((IntKind.wrap .i64 (Int.tdiv g 4) : Int) * 1) (fun i =>
 Ar .i64 (d + i) (fun j =>
 (4 : Int) ≠ 0 ∧
 Ar .i64 ((IntKind.wrap .i64 (Int.tdiv g 4) : Int) * 2) (fun k =>
 Ar .i64 (d + k) (fun l =>
 (4 : Int) ≠ 0 ∧
 Ar .i64 ((IntKind.wrap .i64 (Int.tdiv g 4) : Int) * 3) (fun m =>
 Ar .i64 (d + m) (fun n =>
 ∀ o : KW, (∀ (p q r : Int) (s : World), (∃ t, s.cell? (nb w) = some (int .i64 t) ∧
 CondP (t == 0)
 (R (tuple #[int .i64 q, int .i64 1]) s)
 (CondP (t == 12)
 (R (tuple #[int .i64 q, int .i64 2]) s)
 (R (tuple #[int .i64 q, int .i64 0]) s))) → o [int .i64 p, int .i64 q, int .i64 r] s) →
 CondP (decide (g ≥ 8))
 (∀ u : KW, (∀ (x y z : Int) (a1 : World), (Calls Tryz.prog 198 #[slice a b c, int .i64 z, int .i64 y, int .i64 x, pointer (some (nb w))] a1 (fun b1 c1 =>
 ∃ d1, b1 = .returned (int .i64 d1) ∧
 o [int .i64 x, int .i64 d1, int .i64 z] c1)) → u [int .i64 x, int .i64 y, int .i64 z] a1) →
 CondP (decide (g ≥ 50))
 (Calls Tryz.prog 197 #[slice a b c, int .i64 j, pointer (some (nb w))] h (fun e1 f1 =>
 ∃ g1, e1 = .returned (int .i64 g1) ∧
 Calls Tryz.prog 197 #[slice a b c, int .i64 l, pointer (some (nb w))] f1 (fun h1 i1 =>
 ∃ j1, h1 = .returned (int .i64 j1) ∧
 Calls Tryz.prog 197 #[slice a b c, int .i64 n, pointer (some (nb w))] i1 (fun k1 l1 =>
 ∃ m1, k1 = .returned (int .i64 m1) ∧
 u [int .i64 m1, int .i64 j1, int .i64 g1] l1))))
 (u [int .i64 n, int .i64 l, int .i64 j] h))
 (o [int .i64 n, int .i64 l, int .i64 j] h))))))))
theorem vc167_calls (a : OA) (b c : Nat) (d f : Int) (w : World) (R : RW) (hh : vc167 a b c d f w R) : Calls Tryz.prog 167 #[slice a b c, int .i64 d, int .i64 f] w fun e w' => ∃ v, e = .returned v ∧ R v w' :=
 calls_of_den ctxOk (fn := Tryz.f167) (by kernel_rfl) (body := bodyOf Tryz.f167) (by kernel_rfl) (by kernel_rfl) (by kernel_rfl) (Eq.mp (by kernel_rfl) hh)
def vc169 (a : OA) (b c : Nat) (d f : Int) (w : World) (R : RW) : Prop :=
 Ar .i64 (d + 1) (fun g =>
 ∀ h : KW, (∀ (i j : Int) (k : Bool) (l : World), (CondP (decide (i < 5))
 (∀ m : KW, (∀ (n : Int) (o : Bool) (p : World), (Ar .i64 (i + 1) (fun q =>
 h [int .i64 q, int .i64 n, bool o] p)) → m [int .i64 n, bool o] p) →
 ∀ r : KW, (∀ (s : Int) (t : World), (∀ x, x = t.drew →
 CondP (decide (s < f))
 (NilC a (fun y =>
 (0 : Int) ≤ s ∧ s < (b : Int) ∧
 ∃ z, x.cell? (y.add (s.toNat * 1)) = some (int .i64 z) ∧
 Ar .i64 (s - 1) (fun a1 =>
 NilC a (fun b1 =>
 (0 : Int) ≤ a1 ∧ a1 < (b : Int) ∧
 ∃ c1, x.cell? (b1.add (a1.toNat * 1)) = some (int .i64 c1) ∧
 Calls Tryz.prog 170 #[int .i64 z, int .i64 c1] x (fun d1 e1 =>
 ∃ f1, d1 = .returned (bool f1) ∧
 CondP (!f1)
 (Ar .i64 (s + 1) (fun g1 =>
 r [int .i64 g1] e1))
 (CondP (s == f)
 (R (bool true) e1)
 (Ar .i64 (f - d) (fun h1 =>
 CondP (decide (h1 < 50))
 (R (bool false) e1)
 (∀ i1, i1 = e1.drew →
 Ar .i64 (s - 1) (fun j1 =>
 Ar .i64 (s - 1) (fun k1 =>
 NilC a (fun l1 =>
 (0 : Int) ≤ k1 ∧ k1 < (b : Int) ∧
 ∃ m1, i1.cell? (l1.add (k1.toNat * 1)) = some (int .i64 m1) ∧
 NilC a (fun n1 =>
 (0 : Int) ≤ s ∧ s < (b : Int) ∧
 ∃ o1, i1.cell? (n1.add (s.toNat * 1)) = some (int .i64 o1) ∧
 NilC a (fun p1 =>
 (0 : Int) ≤ s ∧ s < (b : Int) ∧
 (int .i64 m1).oneCell' = true ∧ (∃ u, i1.cell? (p1.add (s.toNat * 1)) = some u) ∧ i1.frozen? (p1.add (s.toNat * 1)) = false ∧
 ∀ q1, q1 = (i1.setCell (p1.add (s.toNat * 1)) (int .i64 m1)) →
 NilC a (fun r1 =>
 (0 : Int) ≤ j1 ∧ j1 < (b : Int) ∧
 (int .i64 o1).oneCell' = true ∧ (∃ u, q1.cell? (r1.add (j1.toNat * 1)) = some u) ∧ q1.frozen? (r1.add (j1.toNat * 1)) = false ∧
 ∀ s1, s1 = (q1.setCell (r1.add (j1.toNat * 1)) (int .i64 o1)) →
 ∀ t1 : KW, (∀ u1 : World, (Ar .i64 (f - s) (fun v1 =>
 CondP (decide (v1 ≥ 2))
 (Ar .i64 (s + 1) (fun x1 =>
 ∀ y1 : KW, (∀ (z1 : Int) (a2 : World), (m [int .i64 s, bool k] a2) → y1 [int .i64 z1] a2) →
 ∀ b2 : KW, (∀ (c2 : Int) (d2 : World), (CondP (decide (c2 < f))
 (∀ e2, e2 = d2.drew →
 NilC a (fun f2 =>
 (0 : Int) ≤ c2 ∧ c2 < (b : Int) ∧
 ∃ g2, e2.cell? (f2.add (c2.toNat * 1)) = some (int .i64 g2) ∧
 Ar .i64 (c2 - 1) (fun h2 =>
 NilC a (fun i2 =>
 (0 : Int) ≤ h2 ∧ h2 < (b : Int) ∧
 ∃ j2, e2.cell? (i2.add (h2.toNat * 1)) = some (int .i64 j2) ∧
 Calls Tryz.prog 170 #[int .i64 g2, int .i64 j2] e2 (fun k2 l2 =>
 ∃ m2, k2 = .returned (bool m2) ∧
 CondP (!m2)
 (y1 [int .i64 c2] l2)
 (∀ n2, n2 = l2.drew →
 Ar .i64 (c2 - 1) (fun o2 =>
 Ar .i64 (c2 - 1) (fun p2 =>
 NilC a (fun q2 =>
 (0 : Int) ≤ p2 ∧ p2 < (b : Int) ∧
 ∃ r2, n2.cell? (q2.add (p2.toNat * 1)) = some (int .i64 r2) ∧
 NilC a (fun s2 =>
 (0 : Int) ≤ c2 ∧ c2 < (b : Int) ∧
 ∃ t2, n2.cell? (s2.add (c2.toNat * 1)) = some (int .i64 t2) ∧
 NilC a (fun u2 =>
 (0 : Int) ≤ c2 ∧ c2 < (b : Int) ∧
 (int .i64 r2).oneCell' = true ∧ (∃ u, n2.cell? (u2.add (c2.toNat * 1)) = some u) ∧ n2.frozen? (u2.add (c2.toNat * 1)) = false ∧
 ∀ v2, v2 = (n2.setCell (u2.add (c2.toNat * 1)) (int .i64 r2)) →
 NilC a (fun x2 =>
 (0 : Int) ≤ o2 ∧ o2 < (b : Int) ∧
 (int .i64 t2).oneCell' = true ∧ (∃ u, v2.cell? (x2.add (o2.toNat * 1)) = some u) ∧ v2.frozen? (x2.add (o2.toNat * 1)) = false ∧
 ∀ y2, y2 = (v2.setCell (x2.add (o2.toNat * 1)) (int .i64 t2)) →
 Ar .i64 (c2 + 1) (fun z2 =>
 b2 [int .i64 z2] y2)))))))))))))
 (y1 [int .i64 c2] d2)) → b2 [int .i64 c2] d2) →
 b2 [int .i64 x1] u1))
 (m [int .i64 s, bool k] u1))) → t1 [] u1) →
 Ar .i64 (s - d) (fun a3 =>
 CondP (decide (a3 ≥ 2))
 (Ar .i64 (s - 1) (fun b3 =>
 ∀ c3 : KW, (∀ (d3 : Int) (e3 : World), (t1 [] e3) → c3 [int .i64 d3] e3) →
 ∀ f3 : KW, (∀ (g3 : Int) (h3 : World), (CondP (decide (g3 ≥ 1))
 (∀ i3, i3 = h3.drew →
 NilC a (fun j3 =>
 (0 : Int) ≤ g3 ∧ g3 < (b : Int) ∧
 ∃ k3, i3.cell? (j3.add (g3.toNat * 1)) = some (int .i64 k3) ∧
 Ar .i64 (g3 - 1) (fun l3 =>
 NilC a (fun m3 =>
 (0 : Int) ≤ l3 ∧ l3 < (b : Int) ∧
 ∃ n3, i3.cell? (m3.add (l3.toNat * 1)) = some (int .i64 n3) ∧
 Calls Tryz.prog 170 #[int .i64 k3, int .i64 n3] i3 (fun o3 p3 =>
 ∃ q3, o3 = .returned (bool q3) ∧
 CondP (!q3)
 (c3 [int .i64 g3] p3)
 (∀ r3, r3 = p3.drew →
 Ar .i64 (g3 - 1) (fun s3 =>
 Ar .i64 (g3 - 1) (fun t3 =>
 NilC a (fun u3 =>
 (0 : Int) ≤ t3 ∧ t3 < (b : Int) ∧
 ∃ v3, r3.cell? (u3.add (t3.toNat * 1)) = some (int .i64 v3) ∧
 NilC a (fun x3 =>
 (0 : Int) ≤ g3 ∧ g3 < (b : Int) ∧
 ∃ y3, r3.cell? (x3.add (g3.toNat * 1)) = some (int .i64 y3) ∧
 NilC a (fun z3 =>
 (0 : Int) ≤ g3 ∧ g3 < (b : Int) ∧
 (int .i64 v3).oneCell' = true ∧ (∃ u, r3.cell? (z3.add (g3.toNat * 1)) = some u) ∧ r3.frozen? (z3.add (g3.toNat * 1)) = false ∧
 ∀ a4, a4 = (r3.setCell (z3.add (g3.toNat * 1)) (int .i64 v3)) →
 NilC a (fun b4 =>
 (0 : Int) ≤ s3 ∧ s3 < (b : Int) ∧
 (int .i64 y3).oneCell' = true ∧ (∃ u, a4.cell? (b4.add (s3.toNat * 1)) = some u) ∧ a4.frozen? (b4.add (s3.toNat * 1)) = false ∧
 ∀ c4, c4 = (a4.setCell (b4.add (s3.toNat * 1)) (int .i64 y3)) →
 Ar .i64 (g3 - 1) (fun d4 =>
 f3 [int .i64 d4] c4)))))))))))))
 (c3 [int .i64 g3] h3)) → f3 [int .i64 g3] h3) →
 f3 [int .i64 b3] s1))
 (t1 [] s1)))))))))))))))))
 (CondP (s == f)
 (R (bool true) x)
 (Ar .i64 (f - d) (fun e4 =>
 CondP (decide (e4 < 50))
 (R (bool false) x)
 (∀ f4, f4 = x.drew →
 Ar .i64 (s - 1) (fun g4 =>
 Ar .i64 (s - 1) (fun h4 =>
 NilC a (fun i4 =>
 (0 : Int) ≤ h4 ∧ h4 < (b : Int) ∧
 ∃ j4, f4.cell? (i4.add (h4.toNat * 1)) = some (int .i64 j4) ∧
 NilC a (fun k4 =>
 (0 : Int) ≤ s ∧ s < (b : Int) ∧
 ∃ l4, f4.cell? (k4.add (s.toNat * 1)) = some (int .i64 l4) ∧
 NilC a (fun m4 =>
 (0 : Int) ≤ s ∧ s < (b : Int) ∧
 (int .i64 j4).oneCell' = true ∧ (∃ u, f4.cell? (m4.add (s.toNat * 1)) = some u) ∧ f4.frozen? (m4.add (s.toNat * 1)) = false ∧
 ∀ n4, n4 = (f4.setCell (m4.add (s.toNat * 1)) (int .i64 j4)) →
 NilC a (fun o4 =>
 (0 : Int) ≤ g4 ∧ g4 < (b : Int) ∧
 (int .i64 l4).oneCell' = true ∧ (∃ u, n4.cell? (o4.add (g4.toNat * 1)) = some u) ∧ n4.frozen? (o4.add (g4.toNat * 1)) = false ∧
 ∀ p4, p4 = (n4.setCell (o4.add (g4.toNat * 1)) (int .i64 l4)) →
 ∀ q4 : KW, (∀ r4 : World, (Ar .i64 (f - s) (fun s4 =>
 CondP (decide (s4 ≥ 2))
 (Ar .i64 (s + 1) (fun t4 =>
 ∀ u4 : KW, (∀ (v4 : Int) (x4 : World), (m [int .i64 s, bool k] x4) → u4 [int .i64 v4] x4) →
 ∀ y4 : KW, (∀ (z4 : Int) (a5 : World), (CondP (decide (z4 < f))
 (∀ b5, b5 = a5.drew →
 NilC a (fun c5 =>
 (0 : Int) ≤ z4 ∧ z4 < (b : Int) ∧
 ∃ d5, b5.cell? (c5.add (z4.toNat * 1)) = some (int .i64 d5) ∧
 Ar .i64 (z4 - 1) (fun e5 =>
 NilC a (fun f5 =>
 (0 : Int) ≤ e5 ∧ e5 < (b : Int) ∧
 ∃ g5, b5.cell? (f5.add (e5.toNat * 1)) = some (int .i64 g5) ∧
 Calls Tryz.prog 170 #[int .i64 d5, int .i64 g5] b5 (fun h5 i5 =>
 ∃ j5, h5 = .returned (bool j5) ∧
 CondP (!j5)
 (u4 [int .i64 z4] i5)
 (∀ k5, k5 = i5.drew →
 Ar .i64 (z4 - 1) (fun l5 =>
 Ar .i64 (z4 - 1) (fun m5 =>
 NilC a (fun n5 =>
 (0 : Int) ≤ m5 ∧ m5 < (b : Int) ∧
 ∃ o5, k5.cell? (n5.add (m5.toNat * 1)) = some (int .i64 o5) ∧
 NilC a (fun p5 =>
 (0 : Int) ≤ z4 ∧ z4 < (b : Int) ∧
 ∃ q5, k5.cell? (p5.add (z4.toNat * 1)) = some (int .i64 q5) ∧
 NilC a (fun r5 =>
 (0 : Int) ≤ z4 ∧ z4 < (b : Int) ∧
 (int .i64 o5).oneCell' = true ∧ (∃ u, k5.cell? (r5.add (z4.toNat * 1)) = some u) ∧ k5.frozen? (r5.add (z4.toNat * 1)) = false ∧
 ∀ s5, s5 = (k5.setCell (r5.add (z4.toNat * 1)) (int .i64 o5)) →
 NilC a (fun t5 =>
 (0 : Int) ≤ l5 ∧ l5 < (b : Int) ∧
 (int .i64 q5).oneCell' = true ∧ (∃ u, s5.cell? (t5.add (l5.toNat * 1)) = some u) ∧ s5.frozen? (t5.add (l5.toNat * 1)) = false ∧
 ∀ u5, u5 = (s5.setCell (t5.add (l5.toNat * 1)) (int .i64 q5)) →
 Ar .i64 (z4 + 1) (fun v5 =>
 y4 [int .i64 v5] u5)))))))))))))
 (u4 [int .i64 z4] a5)) → y4 [int .i64 z4] a5) →
 y4 [int .i64 t4] r4))
 (m [int .i64 s, bool k] r4))) → q4 [] r4) →
 Ar .i64 (s - d) (fun x5 =>
 CondP (decide (x5 ≥ 2))
 (Ar .i64 (s - 1) (fun y5 =>
 ∀ z5 : KW, (∀ (a6 : Int) (b6 : World), (q4 [] b6) → z5 [int .i64 a6] b6) →
 ∀ c6 : KW, (∀ (d6 : Int) (e6 : World), (CondP (decide (d6 ≥ 1))
 (∀ f6, f6 = e6.drew →
 NilC a (fun g6 =>
 (0 : Int) ≤ d6 ∧ d6 < (b : Int) ∧
 ∃ h6, f6.cell? (g6.add (d6.toNat * 1)) = some (int .i64 h6) ∧
 Ar .i64 (d6 - 1) (fun i6 =>
 NilC a (fun j6 =>
 (0 : Int) ≤ i6 ∧ i6 < (b : Int) ∧
 ∃ k6, f6.cell? (j6.add (i6.toNat * 1)) = some (int .i64 k6) ∧
 Calls Tryz.prog 170 #[int .i64 h6, int .i64 k6] f6 (fun l6 m6 =>
 ∃ n6, l6 = .returned (bool n6) ∧
 CondP (!n6)
 (z5 [int .i64 d6] m6)
 (∀ o6, o6 = m6.drew →
 Ar .i64 (d6 - 1) (fun p6 =>
 Ar .i64 (d6 - 1) (fun q6 =>
 NilC a (fun r6 =>
 (0 : Int) ≤ q6 ∧ q6 < (b : Int) ∧
 ∃ s6, o6.cell? (r6.add (q6.toNat * 1)) = some (int .i64 s6) ∧
 NilC a (fun t6 =>
 (0 : Int) ≤ d6 ∧ d6 < (b : Int) ∧
 ∃ u6, o6.cell? (t6.add (d6.toNat * 1)) = some (int .i64 u6) ∧
 NilC a (fun v6 =>
 (0 : Int) ≤ d6 ∧ d6 < (b : Int) ∧
 (int .i64 s6).oneCell' = true ∧ (∃ u, o6.cell? (v6.add (d6.toNat * 1)) = some u) ∧ o6.frozen? (v6.add (d6.toNat * 1)) = false ∧
 ∀ x6, x6 = (o6.setCell (v6.add (d6.toNat * 1)) (int .i64 s6)) →
 NilC a (fun y6 =>
 (0 : Int) ≤ p6 ∧ p6 < (b : Int) ∧
 (int .i64 u6).oneCell' = true ∧ (∃ u, x6.cell? (y6.add (p6.toNat * 1)) = some u) ∧ x6.frozen? (y6.add (p6.toNat * 1)) = false ∧
 ∀ z6, z6 = (x6.setCell (y6.add (p6.toNat * 1)) (int .i64 u6)) →
 Ar .i64 (d6 - 1) (fun a7 =>
 c6 [int .i64 a7] z6)))))))))))))
 (z5 [int .i64 d6] e6)) → c6 [int .i64 d6] e6) →
 c6 [int .i64 y5] p4))
 (q4 [] p4))))))))))))) → r [int .i64 s] t) →
 r [int .i64 j] l)
 (R (bool false) l)) → h [int .i64 i, int .i64 j, bool k] l) →
 h [int .i64 0, int .i64 g, bool false] w)
theorem vc169_calls (a : OA) (b c : Nat) (d f : Int) (w : World) (R : RW) (hh : vc169 a b c d f w R) : Calls Tryz.prog 169 #[slice a b c, int .i64 d, int .i64 f] w fun e w' => ∃ v, e = .returned v ∧ R v w' :=
 calls_of_den ctxOk (fn := Tryz.f169) (by kernel_rfl) (body := bodyOf Tryz.f169) (by kernel_rfl) (by kernel_rfl) (by kernel_rfl) (Eq.mp (by kernel_rfl) hh)
def vc170 (a b : Int) (w : World) (R : RW) : Prop :=
 Calls Tryz.prog 199 #[int .i64 a] w (fun c d =>
 ∃ f, c = .returned (bool f) ∧
 CondP f
 (Calls Tryz.prog 199 #[int .i64 b] d (fun g h =>
 ∃ i, g = .returned (bool i) ∧
 CondP (!i)
 (R (bool true) h)
 (R (bool (decide (a < b))) h)))
 (R (bool (decide (a < b))) d))
theorem vc170_calls (a b : Int) (w : World) (R : RW) (hh : vc170 a b w R) : Calls Tryz.prog 170 #[int .i64 a, int .i64 b] w fun e w' => ∃ v, e = .returned v ∧ R v w' :=
 calls_of_den ctxOk (fn := Tryz.f170) (by kernel_rfl) (body := bodyOf Tryz.f170) (by kernel_rfl) (by kernel_rfl) (by kernel_rfl) (Eq.mp (by kernel_rfl) hh)
def vc174 (a : Int) (w : World) (R : RW) : Prop :=
 ∀ b : KW, (∀ (c d : Int) (f : World), (∀ g : KW, (∀ (h i : Int) (j : World), (∀ k : KW, (∀ (l m : Int) (n : World), ((0 : Int) ≤ (IntKind.wrap .u8 m) ∧ (IntKind.wrap .u8 m) < ((⟨#[0, 1, 2, 2, 3, 3, 3, 3, 4, 4, 4, 4, 4, 4, 4, 4, 5, 5, 5, 5, 5, 5, 5, 5, 5, 5, 5, 5, 5, 5, 5, 5, 6, 6, 6, 6, 6, 6, 6, 6, 6, 6, 6, 6, 6, 6, 6, 6, 6, 6, 6, 6, 6, 6, 6, 6, 6, 6, 6, 6, 6, 6, 6, 6, 7, 7, 7, 7, 7, 7, 7, 7, 7, 7, 7, 7, 7, 7, 7, 7, 7, 7, 7, 7, 7, 7, 7, 7, 7, 7, 7, 7, 7, 7, 7, 7, 7, 7, 7, 7, 7, 7, 7, 7, 7, 7, 7, 7, 7, 7, 7, 7, 7, 7, 7, 7, 7, 7, 7, 7, 7, 7, 7, 7, 7, 7, 7, 7, 8, 8, 8, 8, 8, 8, 8, 8, 8, 8, 8, 8, 8, 8, 8, 8, 8, 8, 8, 8, 8, 8, 8, 8, 8, 8, 8, 8, 8, 8, 8, 8, 8, 8, 8, 8, 8, 8, 8, 8, 8, 8, 8, 8, 8, 8, 8, 8, 8, 8, 8, 8, 8, 8, 8, 8, 8, 8, 8, 8, 8, 8, 8, 8, 8, 8, 8, 8, 8, 8, 8, 8, 8, 8, 8, 8, 8, 8, 8, 8, 8, 8, 8, 8, 8, 8, 8, 8, 8, 8, 8, 8, 8, 8, 8, 8, 8, 8, 8, 8, 8, 8, 8, 8, 8, 8, 8, 8, 8, 8, 8, 8, 8, 8, 8, 8, 8, 8, 8, 8, 8, 8, 8, 8, 8, 8, 8, 8]⟩ : ByteArray).size : Int) ∧
 Ar .i64 (l + (IntKind.wrap .i64 (btAt ⟨#[0, 1, 2, 2, 3, 3, 3, 3, 4, 4, 4, 4, 4, 4, 4, 4, 5, 5, 5, 5, 5, 5, 5, 5, 5, 5, 5, 5, 5, 5, 5, 5, 6, 6, 6, 6, 6, 6, 6, 6, 6, 6, 6, 6, 6, 6, 6, 6, 6, 6, 6, 6, 6, 6, 6, 6, 6, 6, 6, 6, 6, 6, 6, 6, 7, 7, 7, 7, 7, 7, 7, 7, 7, 7, 7, 7, 7, 7, 7, 7, 7, 7, 7, 7, 7, 7, 7, 7, 7, 7, 7, 7, 7, 7, 7, 7, 7, 7, 7, 7, 7, 7, 7, 7, 7, 7, 7, 7, 7, 7, 7, 7, 7, 7, 7, 7, 7, 7, 7, 7, 7, 7, 7, 7, 7, 7, 7, 7, 8, 8, 8, 8, 8, 8, 8, 8, 8, 8, 8, 8, 8, 8, 8, 8, 8, 8, 8, 8, 8, 8, 8, 8, 8, 8, 8, 8, 8, 8, 8, 8, 8, 8, 8, 8, 8, 8, 8, 8, 8, 8, 8, 8, 8, 8, 8, 8, 8, 8, 8, 8, 8, 8, 8, 8, 8, 8, 8, 8, 8, 8, 8, 8, 8, 8, 8, 8, 8, 8, 8, 8, 8, 8, 8, 8, 8, 8, 8, 8, 8, 8, 8, 8, 8, 8, 8, 8, 8, 8, 8, 8, 8, 8, 8, 8, 8, 8, 8, 8, 8, 8, 8, 8, 8, 8, 8, 8, 8, 8, 8, 8, 8, 8, 8, 8, 8, 8, 8, 8, 8, 8, 8, 8, 8, 8, 8, 8]⟩ (IntKind.wrap .u8 m)))) (fun o =>
 R (int .i64 o) n)) → k [int .i64 l, int .u64 m] n) →
 CondP (decide (i ≥ 256))
 ((0 : Int) ≤ 8 ∧
 Ar .i64 (h + 8) (fun p =>
 k [int .i64 p, int .u64 (Int.fdiv i (2 ^ (min (8 : Int).toNat (IntKind.bits .u64))))] j))
 (k [int .i64 h, int .u64 i] j)) → g [int .i64 h, int .u64 i] j) →
 CondP (decide (d ≥ 65536))
 ((0 : Int) ≤ 16 ∧
 Ar .i64 (c + 16) (fun q =>
 g [int .i64 q, int .u64 (Int.fdiv d (2 ^ (min (16 : Int).toNat (IntKind.bits .u64))))] f))
 (g [int .i64 c, int .u64 d] f)) → b [int .i64 c, int .u64 d] f) →
 CondP (decide (a ≥ 4294967296))
 ((0 : Int) ≤ 32 ∧
 b [int .i64 32, int .u64 (Int.fdiv a (2 ^ (min (32 : Int).toNat (IntKind.bits .u64))))] w)
 (b [int .i64 0, int .u64 a] w)
theorem vc174_calls (a : Int) (w : World) (R : RW) (hh : vc174 a w R) : Calls Tryz.prog 174 #[int .u64 a] w fun e w' => ∃ v, e = .returned v ∧ R v w' :=
 calls_of_den ctxOk (fn := Tryz.f174) (by kernel_rfl) (body := bodyOf Tryz.f174) (by kernel_rfl) (by kernel_rfl) (by kernel_rfl) (Eq.mp (by kernel_rfl) hh)
def vc197 (a : OA) (b c : Nat) (d : Int) (f : OA) (w : World) (R : RW) : Prop :=
 Ar .i64 (d - 1) (fun g =>
 Ar .i64 (d + 1) (fun h =>
 Calls Tryz.prog 198 #[slice a b c, int .i64 g, int .i64 d, int .i64 h, pointer f] w (fun i j =>
 ∃ k, i = .returned (int .i64 k) ∧
 R (int .i64 k) j)))
theorem vc197_calls (a : OA) (b c : Nat) (d : Int) (f : OA) (w : World) (R : RW) (hh : vc197 a b c d f w R) : Calls Tryz.prog 197 #[slice a b c, int .i64 d, pointer f] w fun e w' => ∃ v, e = .returned v ∧ R v w' :=
 calls_of_den ctxOk (fn := Tryz.f197) (by kernel_rfl) (body := bodyOf Tryz.f197) (by kernel_rfl) (by kernel_rfl) (by kernel_rfl) (Eq.mp (by kernel_rfl) hh)
def vc198 (a : OA) (b c : Nat) (d f g : Int) (h : OA) (w : World) (R : RW) : Prop :=
 Calls Tryz.prog 209 #[slice a b c, int .i64 d, int .i64 f, pointer h] w (fun i j =>
 ∃ k l, i = .returned (tuple #[int .i64 k, int .i64 l]) ∧
 Calls Tryz.prog 209 #[slice a b c, int .i64 l, int .i64 g, pointer h] j (fun m n =>
 ∃ o p, m = .returned (tuple #[int .i64 o, int .i64 p]) ∧
 Calls Tryz.prog 209 #[slice a b c, int .i64 k, int .i64 o, pointer h] n (fun q r =>
 ∃ s t, q = .returned (tuple #[int .i64 s, int .i64 t]) ∧
 R (int .i64 t) r)))
theorem vc198_calls (a : OA) (b c : Nat) (d f g : Int) (h : OA) (w : World) (R : RW) (hh : vc198 a b c d f g h w R) : Calls Tryz.prog 198 #[slice a b c, int .i64 d, int .i64 f, int .i64 g, pointer h] w fun e w' => ∃ v, e = .returned v ∧ R v w' :=
 calls_of_den ctxOk (fn := Tryz.f198) (by kernel_rfl) (body := bodyOf Tryz.f198) (by kernel_rfl) (by kernel_rfl) (by kernel_rfl) (Eq.mp (by kernel_rfl) hh)
def vc199 (a : Int) (w : World) (R : RW) : Prop :=
 R (bool (a != a)) w
theorem vc199_calls (a : Int) (w : World) (R : RW) (hh : vc199 a w R) : Calls Tryz.prog 199 #[int .i64 a] w fun e w' => ∃ v, e = .returned v ∧ R v w' :=
 calls_of_den ctxOk (fn := Tryz.f199) (by kernel_rfl) (body := bodyOf Tryz.f199) (by kernel_rfl) (by kernel_rfl) (by kernel_rfl) (Eq.mp (by kernel_rfl) hh)
def vc209 (a : OA) (b c : Nat) (d f : Int) (g : OA) (w : World) (R : RW) : Prop :=
 ∀ h, h = w.drew →
 NilC a (fun i =>
 (0 : Int) ≤ f ∧ f < (b : Int) ∧
 ∃ j, h.cell? (i.add (f.toNat * 1)) = some (int .i64 j) ∧
 NilC a (fun k =>
 (0 : Int) ≤ d ∧ d < (b : Int) ∧
 ∃ l, h.cell? (k.add (d.toNat * 1)) = some (int .i64 l) ∧
 Calls Tryz.prog 170 #[int .i64 j, int .i64 l] h (fun m n =>
 ∃ o, m = .returned (bool o) ∧
 CondP o
 (NilC g (fun p =>
 ∃ q, n.cell? p = some (int .i64 q) ∧
 Ar .i64 (q + 1) (fun r =>
 NilC g (fun s =>
 (int .i64 r).oneCell' = true ∧ (∃ u, n.cell? s = some u) ∧ n.frozen? s = false ∧
 ∀ t, t = (n.setCell s (int .i64 r)) →
 R (tuple #[int .i64 f, int .i64 d]) t))))
 (R (tuple #[int .i64 d, int .i64 f]) n))))
theorem vc209_calls (a : OA) (b c : Nat) (d f : Int) (g : OA) (w : World) (R : RW) (hh : vc209 a b c d f g w R) : Calls Tryz.prog 209 #[slice a b c, int .i64 d, int .i64 f, pointer g] w fun e w' => ∃ v, e = .returned v ∧ R v w' :=
 calls_of_den ctxOk (fn := Tryz.f209) (by kernel_rfl) (body := bodyOf Tryz.f209) (by kernel_rfl) (by kernel_rfl) (by kernel_rfl) (Eq.mp (by kernel_rfl) hh)
end Go.Proofs.YtpklkijdlnioaaaGreat.Eng
