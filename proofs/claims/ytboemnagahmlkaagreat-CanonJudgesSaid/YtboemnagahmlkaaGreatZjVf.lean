/- What these functions owe, printed by a program of this repo out of the translation. -/
import Derived.Test.YtboemnagahmlkaaGreatZjTab
import Derived.Test.YtboemnagahmlkaaGreatZjVg
set_option linter.unusedVariables false
set_option maxRecDepth 100000
namespace Go.Proofs.YtboemnagahmlkaaGreat.Eng
open Go Go.Value
def vc26 (a : OA) (b : Int) (w : World) (R : RW) : Prop :=
 CP 68 #[pointer a, int .i64 b] w (fun c d =>
 ∃ f g, c = .returned (tuple #[int .i64 f, bool g]) ∧
 CondP (!g)
 (R (tuple #[int .i64 0, bool false]) d)
 (NilC a (fun h =>
 ∃ i j k, d.cell? ((h.add 1).add 0) = some (slice i j k) ∧
 NilC i (fun l =>
 (0 : Int) ≤ f ∧ f < (j : Int) ∧
 ∃ m, d.cell? (l.add (f.toNat * 1)) = some (int .i64 m) ∧
 R (tuple #[int .i64 m, bool true]) d))))
theorem vc26_calls (a : OA) (b : Int) (w : World) (R : RW) (hh : vc26 a b w R) : CR 26 #[pointer a, int .i64 b] w R :=
 cden (fn := Tryz.f26) (by kernel_rfl) (by kernel_rfl) (by kernel_rfl) (by kernel_rfl) (by kernel_rfl) hh
def vc27 (a : OA) (b : Int) (w : World) (R : RW) : Prop :=
 CP 68 #[pointer a, int .i64 b] w (fun c d =>
 ∃ f g, c = .returned (tuple #[int .i64 f, bool g]) ∧
 CondP (!g)
 (R (tuple #[int .i64 0, bool false]) d)
 (NilC a (fun h =>
 ∃ i j k, d.cell? ((h.add 3).add 0) = some (slice i j k) ∧
 NilC i (fun l =>
 (0 : Int) ≤ f ∧ f < (j : Int) ∧
 ∃ m, d.cell? (l.add (f.toNat * 1)) = some (int .i64 m) ∧
 R (tuple #[int .i64 m, bool true]) d))))
theorem vc27_calls (a : OA) (b : Int) (w : World) (R : RW) (hh : vc27 a b w R) : CR 27 #[pointer a, int .i64 b] w R :=
 cden (fn := Tryz.f27) (by kernel_rfl) (by kernel_rfl) (by kernel_rfl) (by kernel_rfl) (by kernel_rfl) hh
def vc34 (a : OA) (b : Int) (w : World) (R : RW) : Prop :=
 CP 27 #[pointer a, int .i64 b] w (fun c d =>
 ∃ f g, c = .returned (tuple #[int .i64 f, bool g]) ∧
 CondP g
 (NilC a (fun h =>
 ∃ i j k, d.cell? (h.add 6) = some (slice i j k) ∧
 NilC i (fun l =>
 (0 : Int) ≤ f ∧ f < (j : Int) ∧
 ∃ m, d.cell? (l.add (f.toNat * 1)) = some (bool m) ∧
 R (bool m) d)))
 (R (bool false) d))
theorem vc34_calls (a : OA) (b : Int) (w : World) (R : RW) (hh : vc34 a b w R) : CR 34 #[pointer a, int .i64 b] w R :=
 cden (fn := Tryz.f34) (by kernel_rfl) (by kernel_rfl) (by kernel_rfl) (by kernel_rfl) (by kernel_rfl) hh
def vc35 (a : OA) (b c : Int) (w : World) (R : RW) : Prop :=
 CP 26 #[pointer a, int .i64 b] w (fun d f =>
 ∃ g h, d = .returned (tuple #[int .i64 g, bool h]) ∧
 CP 27 #[pointer a, int .i64 c] f (fun i j =>
 ∃ k l, i = .returned (tuple #[int .i64 k, bool l]) ∧
 CondP h
 (CondP l
 (NilC a (fun m =>
 ∃ n o p, j.cell? (m.add 5) = some (slice n o p) ∧
 NilC n (fun q =>
 (0 : Int) ≤ g ∧ g < (o : Int) ∧
 ∃ r s t, j.cell? (q.add (g.toNat * 1)) = some (slice r s t) ∧
 NilC r (fun u =>
 (0 : Int) ≤ k ∧ k < (s : Int) ∧
 ∃ x, j.cell? (u.add (k.toNat * 1)) = some (bool x) ∧
 R (bool x) j))))
 (R (bool false) j))
 (R (bool false) j)))
theorem vc35_calls (a : OA) (b c : Int) (w : World) (R : RW) (hh : vc35 a b c w R) : CR 35 #[pointer a, int .i64 b, int .i64 c] w R :=
 cden (fn := Tryz.f35) (by kernel_rfl) (by kernel_rfl) (by kernel_rfl) (by kernel_rfl) (by kernel_rfl) hh
def vc36 (a b : OA) (c d : Nat) (w : World) (R : RW) : Prop :=
 ∀ f : KW, (∀ (g : Int) (h : Bool) (i : Int) (j : World), (CondP (decide (g < (c : Int)))
 (NilC b (fun k =>
 (0 : Int) ≤ g ∧ g < (c : Int) ∧
 ∃ l, j.cell? (k.add (g.toNat * 1)) = some (int .i64 l) ∧
 CP 34 #[pointer a, int .i64 l] j (fun m n =>
 ∃ o, m = .returned (bool o) ∧
 CondP (!o)
 (R (tuple #[int .i64 g, bool true]) n)
 (CondP (decide (g > 0))
 (Ar .i64 (g - 1) (fun p =>
 NilC b (fun q =>
 (0 : Int) ≤ p ∧ p < (c : Int) ∧
 ∃ r, n.cell? (q.add (p.toNat * 1)) = some (int .i64 r) ∧
 CP 35 #[pointer a, int .i64 r, int .i64 l] n (fun s t =>
 ∃ u, s = .returned (bool u) ∧
 CondP (!u)
 (R (tuple #[int .i64 g, bool true]) t)
 (Ar .i64 (g + 1) (fun x =>
 f [int .i64 x, bool h, int .i64 i] t))))))
 (Ar .i64 (g + 1) (fun y =>
 f [int .i64 y, bool h, int .i64 i] n))))))
 (R (tuple #[int .i64 0, bool false]) j)) → f [int .i64 g, bool h, int .i64 i] j) →
 f [int .i64 0, bool false, int .i64 0] w
theorem vc36_calls (a b : OA) (c d : Nat) (w : World) (R : RW) (hh : vc36 a b c d w R) : CR 36 #[pointer a, slice b c d] w R :=
 cden (fn := Tryz.f36) (by kernel_rfl) (by kernel_rfl) (by kernel_rfl) (by kernel_rfl) (by kernel_rfl) hh
def vc37 (a : OA) (w : World) (R : RW) : Prop :=
 ∀ b, b = w.alloc (.cells #[pointer a] 48) →
 ∃ c, b.cell? (nb w) = some (pointer c) ∧
 CondP (Option.isNone c)
 (R (pointer none) b)
 (∃ d, b.cell? (nb w) = some (pointer d) ∧
 ∀ f, f = b.alloc (.cells #[pointer d, slice none 0 0, slice none 0 0, slice none 0 0, slice none 0 0, slice none 0 0, slice none 0 0] 115) →
 ∃ g, f.cell? (nb w) = some (pointer g) ∧
 CP 24 #[pointer g] f (fun h i =>
 ∃ j, h = .returned (int .i64 j) ∧
 CP 71 #[int .i64 j, func (.func 72) #[] #[pointer (some (nb w))]] i (fun k l =>
 ∃ m n o p q r, k = .returned (agg #[slice m n o, slice p q r]) ∧
 StoreP l ((nb b).add 1) (fun s =>
 ∃ t, s.cell? (nb w) = some (pointer t) ∧
 CP 24 #[pointer t] s (fun x y =>
 ∃ z, x = .returned (int .i64 z) ∧
 CP 71 #[int .i64 z, func (.func 74) #[pointer (some (nb b))] #[]] y (fun a1 b1 =>
 ∃ c1 d1 e1 f1 g1 h1, a1 = .returned (agg #[slice c1 d1 e1, slice f1 g1 h1]) ∧
 StoreP b1 ((nb b).add 3) (fun i1 =>
 ∃ j1 k1 l1, i1.cell? (((nb b).add 1).add 1) = some (slice j1 k1 l1) ∧
 ∀ m1 : KW, (∀ (n1 : Int) (o1 : World), (CondP (decide (n1 < (k1 : Int)))
 (NilC j1 (fun p1 =>
 (0 : Int) ≤ n1 ∧ n1 < (k1 : Int) ∧
 ∃ q1, o1.cell? (p1.add (n1.toNat * 1)) = some (int .i64 q1) ∧
 ∃ r1, o1.cell? (nb w) = some (pointer r1) ∧
 CP 25 #[pointer r1, int .i64 q1] o1 (fun s1 t1 =>
 ∃ u1 v1, s1 = .returned (tuple #[int .i64 u1, bool v1]) ∧
 ∃ x1 y1 z1, t1.cell? (((nb b).add 3).add 1) = some (slice x1 y1 z1) ∧
 ∀ a2 : KW, (∀ (b2 : Int) (c2 : OA) (d2 e2 : Nat) (f2 : World), (CondP (decide (b2 < (y1 : Int)))
 (NilC x1 (fun g2 =>
 (0 : Int) ≤ b2 ∧ b2 < (y1 : Int) ∧
 ∃ h2, f2.cell? (g2.add (b2.toNat * 1)) = some (int .i64 h2) ∧
 ∃ i2, f2.cell? (nb w) = some (pointer i2) ∧
 CP 25 #[pointer i2, int .i64 h2] f2 (fun j2 k2 =>
 ∃ l2 m2, j2 = .returned (tuple #[int .i64 l2, bool m2]) ∧
 ∃ n2, k2.cell? (nb w) = some (pointer n2) ∧
 CP 33 #[pointer n2, int .i64 u1, int .i64 l2] k2 (fun o2 p2 =>
 ∃ q2, o2 = .returned (bool q2) ∧
 ∀ r2, r2 = p2.alloc (.cells #[bool q2] 4) →
 ∃ s2 t2 u2 v2, (Builtin.append_ #[72, 72] 72 #[slice c2 d2 e2, slice (some (nb p2)) 1 1]).run Tryz.prog r2 = .ok (slice s2 t2 u2) v2 ∧
 Ar .i64 (b2 + 1) (fun x2 =>
 a2 [int .i64 x2, slice s2 t2 u2] v2)))))
 (∃ y2 z2 a3, f2.cell? ((nb b).add 5) = some (slice y2 z2 a3) ∧
 ∀ b3, b3 = f2.alloc (.cells #[slice c2 d2 e2] 72) →
 ∃ c3 d3 e3 f3, (Builtin.append_ #[71, 71] 71 #[slice y2 z2 a3, slice (some (nb f2)) 1 1]).run Tryz.prog b3 = .ok (slice c3 d3 e3) f3 ∧
 (slice c3 d3 e3).oneCell' = true ∧ (∃ u, f3.cell? ((nb b).add 5) = some u) ∧ f3.frozen? ((nb b).add 5) = false ∧
 ∀ g3, g3 = (f3.setCell ((nb b).add 5) (slice c3 d3 e3)) →
 Ar .i64 (n1 + 1) (fun h3 =>
 m1 [int .i64 h3] g3))) → a2 [int .i64 b2, slice c2 d2 e2] f2) →
 a2 [int .i64 0, slice none 0 0] t1)))
 (∃ i3 j3 k3, o1.cell? (((nb b).add 3).add 1) = some (slice i3 j3 k3) ∧
 ∀ l3 : KW, (∀ (m3 : Int) (n3 : World), (CondP (decide (m3 < (j3 : Int)))
 (NilC i3 (fun o3 =>
 (0 : Int) ≤ m3 ∧ m3 < (j3 : Int) ∧
 ∃ p3, n3.cell? (o3.add (m3.toNat * 1)) = some (int .i64 p3) ∧
 ∃ q3, n3.cell? (nb w) = some (pointer q3) ∧
 CP 25 #[pointer q3, int .i64 p3] n3 (fun r3 s3 =>
 ∃ t3 u3, r3 = .returned (tuple #[int .i64 t3, bool u3]) ∧
 ∀ v3, v3 = s3.drew →
 ∃ x3 y3 z3, v3.cell? ((nb b).add 6) = some (slice x3 y3 z3) ∧
 ∃ a4, v3.cell? (nb w) = some (pointer a4) ∧
 CP 32 #[pointer a4, int .i64 t3] v3 (fun b4 c4 =>
 ∃ d4, b4 = .returned (bool d4) ∧
 (c4.cell? ((nb b).add 6) = some (slice x3 y3 z3) ∧ True) ∧
 ∀ e4, e4 = c4.alloc (.cells #[bool d4] 4) →
 (e4.cell? ((nb b).add 6) = some (slice x3 y3 z3) ∧ True) ∧
 ∃ f4 g4 h4 i4, (Builtin.append_ #[72, 72] 72 #[slice x3 y3 z3, slice (some (nb c4)) 1 1]).run Tryz.prog e4 = .ok (slice f4 g4 h4) i4 ∧
 (slice f4 g4 h4).oneCell' = true ∧ (∃ u, i4.cell? ((nb b).add 6) = some u) ∧ i4.frozen? ((nb b).add 6) = false ∧
 ∀ j4, j4 = (i4.setCell ((nb b).add 6) (slice f4 g4 h4)) →
 Ar .i64 (m3 + 1) (fun k4 =>
 l3 [int .i64 k4] j4)))))
 (R (pointer (some (nb b))) n3)) → l3 [int .i64 m3] n3) →
 l3 [int .i64 0] o1)) → m1 [int .i64 n1] o1) →
 m1 [int .i64 0] i1) [slice c1 d1 e1, slice f1 g1 h1] 0))) [slice m n o, slice p q r] 0)))
theorem vc37_calls (a : OA) (w : World) (R : RW) (hh : vc37 a w R) : CR 37 #[pointer a] w R :=
 cden (fn := Tryz.f37) (by kernel_rfl) (by kernel_rfl) (by kernel_rfl) (by kernel_rfl) (by kernel_rfl) hh
def vc68 (a : OA) (b : Int) (w : World) (R : RW) : Prop :=
 CondP (Option.isNone a)
 (R (tuple #[int .i64 0, bool false]) w)
 (NilC a (fun c =>
 ∃ d, w.cell? (c.add 0) = some (pointer d) ∧
 CP 41 #[pointer d, int .i64 b] w (fun f g =>
 ∃ h i, f = .returned (tuple #[int .i64 h, bool i]) ∧
 R (tuple #[int .i64 h, bool i]) g)))
theorem vc68_calls (a : OA) (b : Int) (w : World) (R : RW) (hh : vc68 a b w R) : CR 68 #[pointer a, int .i64 b] w R :=
 cden (fn := Tryz.f68) (by kernel_rfl) (by kernel_rfl) (by kernel_rfl) (by kernel_rfl) (by kernel_rfl) hh
def vc71 (a : Int) (b : Value) (w : World) (R : RW) : Prop :=
 ∀ c, c = w.alloc (.cells #[slice none 0 0, slice none 0 0] 113) →
 ∀ d, d = c.alloc (.cells #[slice none 0 0, slice none 0 0] 113) →
 ∃ f g, (Instr.makeMap 177 none).run Tryz.prog d = .ok (map f) g ∧
 ∀ h : KW, (∀ (i : Int) (j : World), (CondP (decide (i < a))
 (CallG ctx b [int .i64 i] j (fun k l =>
 ∃ m, k = .returned (string m) ∧
 ∃ n o p, (Instr.lookup 177 (map f) (string m) true).run Tryz.prog l = .ok (tuple #[int .i64 n, bool o]) p ∧
 ∀ q : KW, (∀ (r : Int) (s : World), (∃ t x y, s.cell? ((nb c).add 0) = some (slice t x y) ∧
 ∀ z, z = s.alloc (.cells #[int .i64 r] 3) →
 ∃ a1 b1 c1 d1, (Builtin.append_ #[28, 28] 28 #[slice t x y, slice (some (nb s)) 1 1]).run Tryz.prog z = .ok (slice a1 b1 c1) d1 ∧
 (slice a1 b1 c1).oneCell' = true ∧ (∃ u, d1.cell? ((nb c).add 0) = some u) ∧ d1.frozen? ((nb c).add 0) = false ∧
 ∀ e1, e1 = (d1.setCell ((nb c).add 0) (slice a1 b1 c1)) →
 Ar .i64 (i + 1) (fun f1 =>
 h [int .i64 f1] e1)) → q [int .i64 r] s) →
 CondP (!o)
 (∃ g1 h1 i1, p.cell? ((nb c).add 1) = some (slice g1 h1 i1) ∧
 ∃ j1, (Instr.mapUpdate 177 (map f) (string m) (int .i64 (h1 : Int))).run Tryz.prog p = .ok () j1 ∧
 ∃ k1 l1 m1, j1.cell? ((nb c).add 1) = some (slice k1 l1 m1) ∧
 ∀ n1, n1 = j1.alloc (.cells #[int .i64 i] 3) →
 ∃ o1 p1 q1 r1, (Builtin.append_ #[28, 28] 28 #[slice k1 l1 m1, slice (some (nb j1)) 1 1]).run Tryz.prog n1 = .ok (slice o1 p1 q1) r1 ∧
 (slice o1 p1 q1).oneCell' = true ∧ (∃ u, r1.cell? ((nb c).add 1) = some u) ∧ r1.frozen? ((nb c).add 1) = false ∧
 ∀ s1, s1 = (r1.setCell ((nb c).add 1) (slice o1 p1 q1)) →
 q [int .i64 (h1 : Int)] s1)
 (q [int .i64 n] p)))
 (∃ t1 u1 v1 x1 y1 z1, (j.cell? (nb c) = some (slice t1 u1 v1) ∧ j.cell? ((nb c).add 1) = some (slice x1 y1 z1) ∧ True) ∧
 StoreP j (nb w) (fun a2 =>
 ∃ b2 c2 d2 e2 f2 g2, (a2.cell? (nb w) = some (slice b2 c2 d2) ∧ a2.cell? ((nb w).add 1) = some (slice e2 f2 g2) ∧ True) ∧
 R (agg #[slice b2 c2 d2, slice e2 f2 g2]) a2) [slice t1 u1 v1, slice x1 y1 z1] 0)) → h [int .i64 i] j) →
 h [int .i64 0] g
theorem vc71_calls (a : Int) (b : Value) (w : World) (R : RW) (hh : vc71 a b w R) : CR 71 #[int .i64 a, b] w R :=
 cden (fn := Tryz.f71) (by kernel_rfl) (by kernel_rfl) (by kernel_rfl) (by kernel_rfl) (by kernel_rfl) hh
def vc72 (a : Int) (b : OA) (w : World) (R : RW) : Prop :=
 NilC b (fun c =>
 ∃ d, w.cell? c = some (pointer d) ∧
 CP 25 #[pointer d, int .i64 a] w (fun f g =>
 ∃ h i, f = .returned (tuple #[int .i64 h, bool i]) ∧
 NilC b (fun j =>
 ∃ k, g.cell? j = some (pointer k) ∧
 CP 31 #[pointer k, int .i64 h] g (fun l m =>
 ∃ n o p, l = .returned (slice n o p) ∧
 CP 73 #[slice n o p] m (fun q r =>
 ∃ s, q = .returned (string s) ∧
 R (string s) r)))))
theorem vc72_calls (a : Int) (b : OA) (w : World) (R : RW) (hh : vc72 a b w R) : CR 72 #[int .i64 a, pointer b] w R :=
 cden (fn := Tryz.f72) (by kernel_rfl) (by kernel_rfl) (by kernel_rfl) (by kernel_rfl) (by kernel_rfl) hh
def vc73 (a : OA) (b c : Nat) (w : World) (R : RW) : Prop :=
 ∀ d : KW, (∀ (f : Int) (g : OA) (h i : Nat) (j : World), (CondP (decide (f < (b : Int)))
 (NilC a (fun k =>
 (0 : Int) ≤ f ∧ f < (b : Int) ∧
 ∃ l, j.cell? (k.add (f.toNat * 1)) = some (int .u64 l) ∧
 ∀ m : KW, (∀ (n : Int) (o : OA) (p q : Nat) (r : World), (CondP (decide (n < 64))
 ((0 : Int) ≤ n ∧
 ∀ s, s = r.alloc (.cells #[int .u8 (IntKind.wrap .u8 (Int.fdiv l (2 ^ (min n.toNat (IntKind.bits .u64)))))] 5) →
 ∃ t u x y, (Builtin.append_ #[178, 178] 178 #[slice o p q, slice (some (nb r)) 1 1]).run Tryz.prog s = .ok (slice t u x) y ∧
 Ar .i64 (n + 8) (fun z =>
 m [int .i64 z, slice t u x] y))
 (Ar .i64 (f + 1) (fun a1 =>
 d [int .i64 a1, slice o p q] r))) → m [int .i64 n, slice o p q] r) →
 m [int .i64 0, slice g h i] j))
 (∃ b1 c1, (convert 178 9 (slice g h i)).run Tryz.prog j = .ok (string b1) c1 ∧
 R (string b1) c1)) → d [int .i64 f, slice g h i] j) →
 d [int .i64 0, slice none 0 0] w
theorem vc73_calls (a : OA) (b c : Nat) (w : World) (R : RW) (hh : vc73 a b c w R) : CR 73 #[slice a b c] w R :=
 cden (fn := Tryz.f73) (by kernel_rfl) (by kernel_rfl) (by kernel_rfl) (by kernel_rfl) (by kernel_rfl) hh
def vc74 (a : OA) (b : Int) (w : World) (R : RW) : Prop :=
 NilC a (fun c =>
 ∃ d, w.cell? (c.add 0) = some (pointer d) ∧
 CP 25 #[pointer d, int .i64 b] w (fun f g =>
 ∃ h i, f = .returned (tuple #[int .i64 h, bool i]) ∧
 ∀ j, j = g.alloc (.cells #[int .u8 0] 5) →
 ∀ k : KW, (∀ l : World, (NilC a (fun m =>
 ∃ n o p, l.cell? ((m.add 1).add 1) = some (slice n o p) ∧
 ∀ q : KW, (∀ (r : Int) (s : OA) (t x : Nat) (y : World), (CondP (decide (r < (o : Int)))
 (∀ z : KW, (∀ (a1 : OA) (b1 c1 : Nat) (d1 : World), (Ar .i64 (r + 1) (fun e1 =>
 q [int .i64 e1, slice a1 b1 c1] d1)) → z [slice a1 b1 c1] d1) →
 NilC n (fun f1 =>
 (0 : Int) ≤ r ∧ r < (o : Int) ∧
 ∃ g1, y.cell? (f1.add (r.toNat * 1)) = some (int .i64 g1) ∧
 NilC a (fun h1 =>
 ∃ i1, y.cell? (h1.add 0) = some (pointer i1) ∧
 CP 25 #[pointer i1, int .i64 g1] y (fun j1 k1 =>
 ∃ l1 m1, j1 = .returned (tuple #[int .i64 l1, bool m1]) ∧
 NilC a (fun n1 =>
 ∃ o1, k1.cell? (n1.add 0) = some (pointer o1) ∧
 CP 33 #[pointer o1, int .i64 l1, int .i64 h] k1 (fun p1 q1 =>
 ∃ r1, p1 = .returned (bool r1) ∧
 CondP r1
 (∀ s1, s1 = q1.alloc (.cells #[int .u8 1] 5) →
 ∃ t1 u1 v1 x1, (Builtin.append_ #[178, 178] 178 #[slice s t x, slice (some (nb q1)) 1 1]).run Tryz.prog s1 = .ok (slice t1 u1 v1) x1 ∧
 z [slice t1 u1 v1] x1)
 (∀ y1, y1 = q1.alloc (.cells #[int .u8 0] 5) →
 ∃ z1 a2 b2 c2, (Builtin.append_ #[178, 178] 178 #[slice s t x, slice (some (nb q1)) 1 1]).run Tryz.prog y1 = .ok (slice z1 a2 b2) c2 ∧
 z [slice z1 a2 b2] c2)))))))
 (∃ d2 e2, (convert 178 9 (slice s t x)).run Tryz.prog y = .ok (string d2) e2 ∧
 R (string d2) e2)) → q [int .i64 r, slice s t x] y) →
 q [int .i64 0, slice (some (nb g)) 1 1] l)) → k [] l) →
 NilC a (fun f2 =>
 ∃ g2, j.cell? (f2.add 0) = some (pointer g2) ∧
 CP 32 #[pointer g2, int .i64 h] j (fun h2 i2 =>
 ∃ j2, h2 = .returned (bool j2) ∧
 CondP j2
 ((0 : Int) ≤ 0 ∧ 0 < (1 : Int) ∧
 (int .u8 1).oneCell' = true ∧ (∃ u, i2.cell? ((nb g).add ((0 : Int).toNat * 1)) = some u) ∧ i2.frozen? ((nb g).add ((0 : Int).toNat * 1)) = false ∧
 ∀ k2, k2 = (i2.setCell ((nb g).add ((0 : Int).toNat * 1)) (int .u8 1)) →
 k [] k2)
 (k [] i2)))))
theorem vc74_calls (a : OA) (b : Int) (w : World) (R : RW) (hh : vc74 a b w R) : CR 74 #[pointer a, int .i64 b] w R :=
 cden (fn := Tryz.f74) (by kernel_rfl) (by kernel_rfl) (by kernel_rfl) (by kernel_rfl) (by kernel_rfl) hh
set_option linter.unusedSimpArgs false
open Go Go.RowKit
theorem wrap_u8 (z : Nat) : IntKind.wrap .u8 (z : Int) = (((UInt8.ofNat z).toNat : Nat) : Int) := by
 rw [UInt8.toNat_ofNat']
 unfold IntKind.wrap
 rw [if_neg (by rw [show IntKind.u8.signed = false from rfl, Bool.false_and]; exact Bool.false_ne_true)]
 rfl
theorem text_spec (w : World) (A : Option Addr) (C : Nat) (l : List Nat) (hr : Rw encU64 1 w A (l.map fun x : Nat => (x : Int))) (hl : l.length ≤ 1000) :
  CP 73 #[.slice A l.length C] w fun e w' => e = .returned (.string (str (wTextOf l))) ∧ Below w.heap.size w w' := by
 refine calls_ret (vc73_calls A l.length C w (fun u w' => u = .string (str (wTextOf l)) ∧ Below w.heap.size w w') ?_) (by rintro v w' ⟨rfl, h⟩; exact ⟨rfl, h⟩)
 intro I hI
 have key := climb2 (α := Sl × World) l.length (fun i y => y.2.ownsRow w.heap.size tU8 1 y.1.v y.1.n ((wTextOf (l.take i)).flatMap encU8) ∧ y.1.n = 8 * i ∧ Below w.heap.size w y.2) (fun i y => I [.int .i64 (i : Int), y.1.v] y.2) (sl0, w) ⟨own_none _ _ _ _ encU8, rfl, Below.refl _ _⟩ ?_ ?_
 ·exact key
 ·rintro i hi ih ⟨f, q⟩ ⟨hown, hn, hB⟩
  change q.ownsRow w.heap.size tU8 1 f.v f.n _ at hown
  change f.n = 8 * i at hn
  change Below w.heap.size w q at hB
  obtain ⟨p, hp, c0⟩ := cell_rw (hr.on hB) (show i < (l.map fun x : Nat => (x : Int)).length by simpa using hi) (v := .int .u64 ((l[i] : Nat) : Int)) (by simp [encU64])
  refine hI _ f.a f.n f.c q (CondP.yes (decide_eq_true (by omega)) (NilC.mk p hp ⟨by omega, by omega, _, c0, ?_⟩))
  intro I2 hI2
  have key2 := climb2 (α := Sl × World) 8 (fun j y => y.2.ownsRow w.heap.size tU8 1 y.1.v y.1.n ((wTextOf (l.take i) ++ (List.range j).map (byteOf l[i])).flatMap encU8) ∧ y.1.n = 8 * i + j ∧ Below w.heap.size w y.2) (fun j y => I2 [.int .i64 ((8 * j : Nat) : Int), y.1.v] y.2) (f, q) ⟨by simpa using hown, hn, hB⟩ ?_ ?_
  ·exact key2
  ·rintro j hj ih2 ⟨g, z⟩ ⟨hg, hgn, hBz⟩
   change z.ownsRow w.heap.size tU8 1 g.v g.n _ at hg
   change g.n = 8 * i + j at hgn
   change Below w.heap.size w z at hBz
   refine hI2 _ g.a g.n g.c z (CondP.yes (decide_eq_true (by omega)) ⟨by omega, ?_⟩)
   intro w3 hw3
   rw [sh_k _ _ (by omega), wrap_u8] at hw3
   obtain ⟨g', w4, e1, e2, e3, e4, _⟩ := elU8.push hg (byteOf l[i] j) hw3 rfl hBz.size (by omega) (by decide)
   refine ⟨g'.a, g'.n, g'.c, w4, e2, Ar.nat (8 * (j + 1)) (by omega) (by omega) (ih2 (g', w4) ⟨?_, by show g'.n = 8 * i + (j + 1); omega, e4 _ hBz⟩)⟩
   rw [List.range_succ, List.map_append, ← List.append_assoc]
   exact e3
  ·rintro ⟨g, z⟩ ⟨hg, hgn, hBz⟩
   change z.ownsRow w.heap.size tU8 1 g.v g.n _ at hg
   change g.n = 8 * i + 8 at hgn
   refine hI2 _ g.a g.n g.c z (CondP.no rfl (Ar.nat (i + 1) rfl (by omega) (ih (g, z) ⟨?_, by show g.n = 8 * (i + 1); omega, hBz⟩)))
   have e : wTextOf (l.take (i + 1)) = wTextOf (l.take i) ++ (List.range 8).map (byteOf l[i]) := by
    rw [List.take_add_one, List.getElem?_eq_getElem hi]
    simp only [wTextOf, List.flatMap_append, Option.toList, List.flatMap_cons, List.flatMap_nil, List.append_nil]
    rfl
   rw [e]
   exact hg
 ·rintro ⟨f, q⟩ ⟨hown, hn, hB⟩
  change q.ownsRow w.heap.size tU8 1 f.v f.n _ at hown
  rw [List.take_length] at hown
  exact hI _ f.a f.n f.c q (CondP.no (decide_eq_false (by omega)) ⟨_, q, run_str_own (P := Tryz.prog) undBytes undU8 undStr (by rw [← u8_cells]; exact hown), rfl, hB⟩)
abbrev tGr : TypeId := 113
theorem pushI {B : Nat} {w2 w3 : World} {s : Sl} {xs : List Int} (hown : w2.ownsRow B tInt 1 s.v s.n (xs.flatMap encInt)) (x : Int) (hw : w3 = w2.alloc (.cells #[.int .i64 x] tInt)) (hB : B ≤ w2.heap.size) (hn : s.n ≤ 1000000) :
  ∃ (l : Sl) (w4 : World), l.n = s.n + 1 ∧ (Builtin.append_ #[tInts, tInts] tInts #[.slice s.a s.n s.c, .slice (some (nb w2)) 1 1]).run Tryz.prog w3 = .ok (.slice l.a l.n l.c) w4 ∧ w4.ownsRow B tInt 1 l.v l.n ((xs ++ [x]).flatMap encInt) ∧ (∀ w0, Below B w0 w2 → Below B w0 w4) ∧ (∀ k, k < w2.heap.size → s.v.ownBlock ≠ some k → w4.heap[k]? = w2.heap[k]?) ∧ ∀ k, l.v.ownBlock = some k → s.v.ownBlock = some k ∨ w2.heap.size ≤ k := by
 have hba := below_alloc w2 (.cells #[.int .i64 x] tInt)
 have hb3 : Below w2.heap.size w2 w3 := by subst hw; exact hba
 have hl : LsAt encInt 1 w3 ⟨some (nb w2), 1, 1⟩ [x] := ⟨rfl, intsAt w2 w3 [x] _ rfl hw, .inr ⟨_, rfl⟩⟩
 obtain ⟨l, w4, h1, h2, h3, h4, h5, h6⟩ := elInt.spread (own_on hown hb3) hl (Nat.le_trans hB hb3.size) (by omega) (show 1 ≤ 1000000000 by decide) (by decide)
 refine ⟨l, w4, h1, h2, h3, fun w0 h => h4 w0 (h.trans (hb3.mono hB)), fun k hk hne => (h5 k (Nat.lt_of_lt_of_le hk hb3.size) hne).trans (hb3.block k hk), fun k hk => ?_⟩
 rcases h6 k hk with h | h
 ·exact .inl h
 ·exact .inr (Nat.le_trans hb3.size h)
def gkm (k : Nat → Bs) (i : Nat) : List (Bs × Value) := (firsts k i).zipIdx.map fun x => (k x.1, .int .i64 (x.2 : Int))
theorem look_gkm (k : Nat → Bs) (i : Nat) : look (k i) (gkm k i) = ((firsts k i).findIdx? fun a => decide (k a = k i)).map fun c : Nat => Value.int .i64 (c : Int) := by
 have := look_zipf k (k i) (firsts k i) 0
 simp only [Nat.zero_add] at this
 rw [show look (k i) (gkm k i) = _ from this]
 congr 1
 rw [List.idxOf?, List.findIdx?_map]
 congr 1
 funext a
 show (k a == k i) = _
 by_cases h : k a = k i
 ·simp [h]
 ·simp [h]
theorem ints_snoc (l : List Nat) (x : Nat) : ((l ++ [x]).map fun i : Nat => (i : Int)) = (l.map fun i : Nat => (i : Int)) ++ [(x : Int)] := by simp
theorem gkm_new {k : Nat → Bs} {i : Nat} (h : firsts k (i + 1) = firsts k i ++ [i]) : gkm k (i + 1) = gkm k i ++ [(k i, .int .i64 (((firsts k i).length : Nat) : Int))] := by
 unfold gkm
 rw [h, List.zipIdx_append, List.map_append]
 simp
def GroupR (w : World) (k : Nat → Bs) (n : Nat) (of fi : Sl) (w' : World) : Prop := w'.ownsRow w.heap.size tInt 1 of.v of.n (((List.range n).map fun i => ((clsOf k i : Nat) : Int)).flatMap encInt) ∧ w'.ownsRow w.heap.size tInt 1 fi.v fi.n (((firsts k n).map fun i : Nat => (i : Int)).flatMap encInt) ∧ Below w.heap.size w w'
set_option maxHeartbeats 1000000 in
theorem group_spec (w : World) (n : Nat) (key : Value) (k : Nat → Bs) (hn : n ≤ 10000) (his : ∀ i, i < n → ∀ w1, Below w.heap.size w w1 → CallG ctx key [.int .i64 (i : Int)] w1 (fun e w2 => e = .returned (.string (str (k i))) ∧ Below w1.heap.size w1 w2)) :
  CP 71 #[.int .i64 (n : Int), key] w fun e w' => ∃ of fi : Sl, e = .returned (.agg #[of.v, fi.v]) ∧ GroupR w k n of fi w' := by
 refine calls_ret (vc71_calls n key w (fun u w' => ∃ of fi : Sl, u = .agg #[of.v, fi.v] ∧ GroupR w k n of fi w') ?_) (by rintro v w' ⟨of, fi, rfl, h⟩; exact ⟨of, fi, rfl, h⟩)
 intro w1 hw1 w2 hw2
 have b1 : Below w.heap.size w w1 := by subst hw1; exact below_alloc _ _
 have b2 : Below w1.heap.size w1 w2 := by subst hw2; exact below_alloc _ _
 have l0 : w2.heap[w.heap.size]? = some (.cells #[sl0.v, sl0.v] tGr (0, 0)) := held_on b2 (by subst hw1; exact alloc_new _ _)
 have l1 : w2.heap[w1.heap.size]? = some (.cells #[sl0.v, sl0.v] tGr (0, 0)) := by subst hw2; exact alloc_new _ _
 have lt0 : w.heap.size < w1.heap.size := by subst hw1; rw [alloc_size]; omega
 have lt1 : w1.heap.size < w2.heap.size := (Array.getElem?_eq_some_iff.1 l1).1
 have hb2 := below_then b1 b2
 refine ⟨_, _, run_make _, ?_⟩
 have b3 := below_alloc w2 (.map #[] 0)
 have m3 : MapIs strKey (w2.alloc (.map #[] 0)) w2.heap.size (gkm k 0) := map_new w2
 obtain ⟨w3, hw3⟩ : ∃ w3, w3 = w2.alloc (.map #[] 0) := ⟨_, rfl⟩
 rw [← hw3] at b3 m3
 rw [← hw3]
 intro I hI
 let Inv (i : Nat) (q : World) : Prop := ∃ of fi : Sl, q.heap[w1.heap.size]? = some (.cells #[of.v, fi.v] tGr (0, 0)) ∧ q.heap[w.heap.size]? = some (.cells #[sl0.v, sl0.v] tGr (0, 0)) ∧ q.ownsRow w.heap.size tInt 1 of.v of.n (((List.range i).map fun i => ((clsOf k i : Nat) : Int)).flatMap encInt) ∧ q.ownsRow w.heap.size tInt 1 fi.v fi.n (((firsts k i).map fun i : Nat => (i : Int)).flatMap encInt) ∧ (∀ j, of.v.ownBlock = some j → fi.v.ownBlock ≠ some j) ∧ MapIs strKey q w2.heap.size (gkm k i) ∧ Below w.heap.size w q
 have key := climb2 (α := World) n Inv (fun i q => I [.int .i64 (i : Int)] q) w3 ⟨sl0, sl0, held_on b3 l1, held_on b3 l0, own_none _ _ _ _ encInt, own_none _ _ _ _ encInt, fun j hj => (by cases hj), m3, below_then hb2 b3⟩ ?_ ?_
 ·exact key
 ·rintro i hi ih q ⟨of, fi, g1, g0, oof, ofi, hd, hm, hB⟩
  refine hI _ _ (CondP.yes (decide_eq_true (by omega)) ((his i hi q hB).mono ?_))
  rintro e w5 ⟨rfl, b5⟩
  have hB5 := below_then hB b5
  have g1' := held_on b5 g1
  have g0' := held_on b5 g0
  have oof' := own_on oof b5
  have ofi' := own_on ofi b5
  have hm5 := hm.on b5
  have hof := (LsAt.of_own elInt oof').n
  have hfi := (LsAt.of_own elInt ofi').n
  rw [List.length_map, List.length_range] at hof
  rw [List.length_map] at hfi
  have hfl : (firsts k i).length ≤ i := by
   have : ∀ i, (firsts k i).length ≤ i := by
    intro i
    induction i with
    | zero => exact Nat.le_refl _
    | succ i ih =>
     have h1 := cls_next (k := k) i
     omega
   exact this i
  have hl := run_look keysB undMapB zeroInt hm5 (k i)
  rw [look_gkm] at hl
  refine ⟨_, rfl, ?_⟩
  have next : ∀ (z : World) (fi' : Sl) (J : List Value → World → Prop), (∀ (c : Int) (w7 : World), (∃ lA : Option Addr, ∃ lN : Nat, ∃ lC : Nat, w7.cell? ((nb w1).add 0) = some (Value.slice lA lN lC) ∧
       ∀ w8 : World, w8 = w7.alloc (.cells #[Value.int .i64 c] tInt) →
       ∃ lA_3 : Option Addr, ∃ lN_4 : Nat, ∃ lC_5 : Nat, ∃ w9 : World, (Builtin.append_ #[tInts, tInts] tInts #[Value.slice lA lN lC, Value.slice (some (nb w7)) 1 1]).run Tryz.prog w8 = .ok (Value.slice lA_3 lN_4 lC_5) w9 ∧
       (Value.slice lA_3 lN_4 lC_5).oneCell' = true ∧ (∃ u, w9.cell? ((nb w1).add 0) = some u) ∧ w9.frozen? ((nb w1).add 0) = false ∧
       ∀ w10 : World, w10 = (w9.setCell ((nb w1).add 0) (Value.slice lA_3 lN_4 lC_5)) →
       Ar .i64 ((i : Int) + 1) (fun n_6 =>
       I [Value.int .i64 n_6] w10)) → J [Value.int .i64 c] w7) →
    z.heap[w1.heap.size]? = some (.cells #[of.v, fi'.v] tGr (0, 0)) → z.heap[w.heap.size]? = some (.cells #[sl0.v, sl0.v] tGr (0, 0)) → z.ownsRow w.heap.size tInt 1 of.v of.n (((List.range i).map fun i => ((clsOf k i : Nat) : Int)).flatMap encInt) → z.ownsRow w.heap.size tInt 1 fi'.v fi'.n (((firsts k (i + 1)).map fun i : Nat => (i : Int)).flatMap encInt) → (∀ j, of.v.ownBlock = some j → fi'.v.ownBlock ≠ some j) → MapIs strKey z w2.heap.size (gkm k (i + 1)) → Below w.heap.size w z → J [.int .i64 ((clsOf k i : Nat) : Int)] z := by
   intro z fi' J hJ z1 z0 zo zf zd zm zB
   refine hJ _ _ ⟨of.a, of.n, of.c, by rw [cell_put z1]; rfl, ?_⟩
   intro w8 hw8
   obtain ⟨of', w9, e1, e2, e3, e4, e5, e6⟩ := pushI zo ((clsOf k i : Nat) : Int) hw8 zB.size (by omega)
   have kp : ∀ {j : Nat} {o : Obj}, z.heap[j]? = some o → of.v.ownBlock ≠ some j → w9.heap[j]? = some o := fun {j o} h hne => (e5 j (Array.getElem?_eq_some_iff.1 h).1 hne).trans h
   have y1 := kp z1 (row_ne_blk zo z1 (by decide))
   have y0 := kp z0 (row_ne_blk zo z0 (by decide))
   have yf : w9.ownsRow w.heap.size tInt 1 fi'.v fi'.n _ := own_same zf fun j hj => e5 j (own_lt zf j hj).2 fun h => zd j h hj
   have ym := zm.same (e5 _ zm.lt (own_ne_map zo zm))
   refine ⟨of'.a, of'.n, of'.c, w9, e2, rfl, ⟨_, by rw [cell_put y1]; rfl⟩, frozen_put y1, ?_⟩
   intro w10 hw10
   have hs : ∀ j, j ≠ w1.heap.size → w10.heap[j]? = w9.heap[j]? := by
    intro j hj
    subst hw10
    exact heap_setCell_ne (by rw [add_block]; exact hj)
   refine Ar.nat (i + 1) rfl (by omega) (ih w10 ⟨of', fi', by subst hw10; exact heap_put y1 _, (hs _ (by omega)).trans y0, ?_, own_same yf fun j hj => hs j fun e => row_ne_blk yf y1 (by decide) (by rw [hj, e]), ?_, ym.same (hs _ (by omega)), ?_⟩)
   ·rw [List.range_succ, List.map_append]
    exact own_same e3 fun j hj => hs j fun e => row_ne_blk e3 y1 (by decide) (by rw [hj, e])
   ·intro j hj hf
    rcases e6 j hj with h | h
    ·exact zd j h hf
    ·have := (own_lt zf j hf).2
     omega
   ·subst hw10
    exact below_put (e4 _ zB) (by omega) _
  rcases firsts_step (k := k) i with ⟨c, hc, h2, h3, _⟩ | ⟨hc, h2, h3, _⟩
  ·rw [hc] at hl
   refine ⟨_, _, w5, hl, ?_⟩
   intro J hJ
   refine CondP.no rfl ?_
   have := next w5 fi J hJ g1' g0' oof' (by rw [h2]; exact ofi') hd (by rw [show gkm k (i + 1) = gkm k i by unfold gkm; rw [h2]]; exact hm5) hB5
   rw [h3] at this
   exact this
  ·rw [hc] at hl
   refine ⟨_, _, w5, hl, ?_⟩
   intro J hJ
   refine CondP.yes rfl ⟨fi.a, fi.n, fi.c, by rw [cell_put g1']; rfl, ?_⟩
   obtain ⟨w11, hr, hm11, hs11, hz11, hB11⟩ := run_put_new keysB undMapB hm5 (k i) (.int .i64 ((fi.n : Nat) : Int)) (by rw [look_gkm, hc]; rfl)
   have a1 := (hs11 w1.heap.size (by omega)).trans g1'
   have a0 := (hs11 w.heap.size (by omega)).trans g0'
   have ao := own_same oof' fun j hj => hs11 j fun e => own_ne_map oof' hm5 (by rw [hj, e])
   have af := own_same ofi' fun j hj => hs11 j fun e => own_ne_map ofi' hm5 (by rw [hj, e])
   have aB : Below w.heap.size w w11 := hB11 _ _ (by omega) hB5
   refine ⟨w11, hr, fi.a, fi.n, fi.c, by rw [cell_put a1]; rfl, ?_⟩
   intro w12 hw12
   obtain ⟨fi', w13, e1, e2, e3, e4, e5, e6⟩ := pushI af (i : Int) hw12 aB.size (by omega)
   have kp : ∀ {j : Nat} {o : Obj}, w11.heap[j]? = some o → fi.v.ownBlock ≠ some j → w13.heap[j]? = some o := fun {j o} h hne => (e5 j (Array.getElem?_eq_some_iff.1 h).1 hne).trans h
   have y1 := kp a1 (row_ne_blk af a1 (by decide))
   have y0 := kp a0 (row_ne_blk af a0 (by decide))
   have yo : w13.ownsRow w.heap.size tInt 1 of.v of.n _ := own_same ao fun j hj => e5 j (own_lt ao j hj).2 (hd j hj)
   have ym := hm11.same (e5 _ hm11.lt (own_ne_map af hm11))
   refine ⟨fi'.a, fi'.n, fi'.c, w13, e2, rfl, ⟨_, by rw [cell_put y1]; rfl⟩, frozen_put y1, ?_⟩
   intro w14 hw14
   have hs : ∀ j, j ≠ w1.heap.size → w14.heap[j]? = w13.heap[j]? := by
    intro j hj
    subst hw14
    exact heap_setCell_ne (by rw [add_block]; exact hj)
   have := next w14 fi' J hJ (by subst hw14; exact heap_put y1 _) ((hs _ (by omega)).trans y0) (own_same yo fun j hj => hs j fun e => row_ne_blk yo y1 (by decide) (by rw [hj, e])) (by rw [h2, ints_snoc]; exact own_same e3 fun j hj => hs j fun e => row_ne_blk e3 y1 (by decide) (by rw [hj, e])) (fun j hj hf => by
    rcases e6 j hf with h | h
    ·exact hd j hj h
    ·have := (own_lt ao j hj).2
     omega) (by rw [gkm_new h2, ← hfi]; exact ym.same (hs _ (by omega))) (by subst hw14; exact below_put (e4 _ aB) (by omega) _)
   rw [h3, ← hfi] at this
   exact this
 ·rintro q ⟨of, fi, g1, g0, oof, ofi, hd, hm, hB⟩
  refine hI _ _ (CondP.no (decide_eq_false (by omega)) ⟨of.a, of.n, of.c, fi.a, fi.n, fi.c, ⟨cell_heap g1, by rw [cell_put g1]; rfl, trivial⟩, ?_⟩)
  refine storeP_cells g0 [of.v, fi.v] rfl (by intro v hv; simp only [List.mem_cons, List.not_mem_nil, or_false] at hv; rcases hv with rfl | rfl <;> rfl) ?_
  intro w15 h15 hs hz hB'
  refine ⟨of.a, of.n, of.c, fi.a, fi.n, fi.c, ⟨cell_heap h15, by rw [cell_put h15]; rfl, trivial⟩, of, fi, rfl, ?_, ?_, hB' _ _ (Nat.le_refl _) hB⟩
  ·exact own_same oof fun j hj => hs j fun e => row_ne_blk oof g0 (by decide) (by rw [hj, e])
  ·exact own_same ofi fun j hj => hs j fun e => row_ne_blk ofi g0 (by decide) (by rw [hj, e])
def gN (s : SpecV) (T : List Ent) : Nat := (gids s T).length
def rowK (s : SpecV) (T : List Ent) (i : Nat) : Bs := rowText (gN s T) (relB s T i)
def colK (s : SpecV) (T : List Ent) (i : Nat) : Bs := (if alB s T i then 1 else 0) :: (firsts (rowK s T) (gN s T)).map fun a => if relB s T a i then 1 else 0
abbrev RiseG (s : SpecV) (T : List Ent) : Prop := (gids s T).Pairwise (· < ·)
theorem plc_at {s : SpecV} {T : List Ent} (hr : RiseG s T) {i : Nat} (hi : i < gN s T) : plc s T ((gids s T).getD i 0) = some i := by
 unfold plc
 rw [getD_of hi]
 refine List.findIdx?_eq_some_iff_getElem.2 ⟨hi, by simp, fun j hj => ?_⟩
 have := List.pairwise_iff_getElem.1 hr j i (by unfold gN at hi; omega) hi hj
 simp
 omega
theorem has_at {s : SpecV} {T : List Ent} {i : Nat} (hi : i < gN s T) : hasV2 s T ((gids s T).getD i 0) = true := (gids_has s T _).1 (by rw [getD_of hi]; exact List.getElem_mem hi)
theorem gHas_at {s : SpecV} {T : List Ent} {a i : Nat} (ha : a < gN s T) (hi : i < gN s T) : gHas s T ((gids s T).getD a 0) ((gids s T).getD i 0) = relB s T a i := by
 unfold gHas relB
 rw [has_at ha, has_at hi, Bool.true_and, Bool.true_and]
theorem gAl_at {s : SpecV} {T : List Ent} {i : Nat} (hi : i < gN s T) : gAl s T ((gids s T).getD i 0) = alB s T i := by
 unfold gAl alB
 rw [has_at hi, Bool.true_and]
theorem gId_at (w : World) (g : Nat) (s : SpecV) (T : List Ent) (h : GrIs w g s T) (i : Nat) (hi : i < gN s T) :
  CP 25 #[.pointer (some ⟨g, 0, none⟩), .int .i64 (i : Int)] w fun e w' => e = .returned (.tuple #[.int .i64 ((gids s T).getD i 0), .bool true]) ∧ w' = w := by
 refine (gId_spec w g s T h i).mono ?_
 rintro e w1 ⟨rfl, hw⟩
 refine ⟨?_, hw⟩
 rw [if_pos ⟨by omega, by unfold gN at hi; omega⟩]
 rfl
theorem key1_spec (w : World) (cb g : Nat) {ec : TypeId} (s : SpecV) (T : List Ent) (h : GrIs w g s T) (hn : gN s T ≤ 1032) (hr : RiseG s T) (hc : w.heap[cb]? = some (.cells #[.pointer (some ⟨g, 0, none⟩)] ec (0, 0))) (i : Nat) (hi : i < gN s T) :
  CP 72 #[.int .i64 (i : Int), .pointer (some ⟨cb, 0, none⟩)] w fun e w' => e = .returned (.string (str (rowK s T i))) ∧ Below w.heap.size w w' := by
 refine calls_ret (vc72_calls i (some ⟨cb, 0, none⟩) w (fun u w' => u = .string (str (rowK s T i)) ∧ Below w.heap.size w w') ?_) (by rintro v w' ⟨rfl, h⟩; exact ⟨rfl, h⟩)
 refine NilC.mk _ rfl ⟨_, cell1 hc, (gId_at w g s T h i hi).mono ?_⟩
 rintro e w1 ⟨rfl, rfl⟩
 refine ⟨_, _, rfl, NilC.mk _ rfl ⟨_, cell1 hc, (gRow_spec w1 g s T h hn _).mono ?_⟩⟩
 rintro e w2 ⟨b2, hrow⟩
 rcases hrow with ⟨hno, _⟩ | ⟨k, l, hk, rfl, ho⟩
 ·rw [plc_at hr hi] at hno; cases hno
 rw [plc_at hr hi] at hk
 cases hk
 have hls := LsAt.of_own elU64 ho
 have hln := hls.n
 obtain ⟨L, hL⟩ : ∃ L : List Nat, L = (List.range ((gN s T + 63) / 64)).map (wordAt (gN s T) (relB s T i)) := ⟨_, rfl⟩
 have hw : wordsOf (gids s T).length (relB s T i) = L.map fun x : Nat => (x : Int) := by rw [hL, List.map_map]; rfl
 rw [hw, List.length_map] at hln
 have ht := text_spec w2 l.a l.c L (by rw [← hw]; exact hls.r) (by rw [hL]; simp; omega)
 rw [← hln] at ht
 refine ⟨l.a, l.n, l.c, rfl, ht.mono ?_⟩
 rintro e w3 ⟨rfl, b3⟩
 refine ⟨_, rfl, ?_, below_then b2 b3⟩
 rw [hL]
 rfl
abbrev tFold : TypeId := 115
theorem column_spec (w : World) (f g : Nat) (s : SpecV) (T : List Ent) (h : GrIs w g s T) (hn : gN s T ≤ 1032) (c : Array Value) (hb : w.heap[f]? = some (.cells c tFold (0, 0))) (rfi : Sl) (c0 : c[0]? = some (.pointer (some ⟨g, 0, none⟩))) (c2 : c[2]? = some rfi.v) (hf : w.ownsRow 0 tInt 1 rfi.v rfi.n (((firsts (rowK s T) (gN s T)).map fun i : Nat => (i : Int)).flatMap encInt)) (i : Nat) (hi : i < gN s T) :
  CP 74 #[.pointer (some ⟨f, 0, none⟩), .int .i64 (i : Int)] w fun e w' => e = .returned (.string (str (colK s T i))) ∧ Below w.heap.size w w' := by
 refine calls_ret (vc74_calls (some ⟨f, 0, none⟩) i w (fun u w' => u = .string (str (colK s T i)) ∧ Below w.heap.size w w') ?_) (by rintro v w' ⟨rfl, h⟩; exact ⟨rfl, h⟩)
 refine NilC.mk _ rfl ⟨_, by rw [cell_put hb]; exact c0, (gId_at w g s T h i hi).mono ?_⟩
 rintro e w1 ⟨rfl, rfl⟩
 refine ⟨_, _, rfl, ?_⟩
 intro w2 hw2
 have b2 : Below w1.heap.size w1 w2 := by subst hw2; exact below_alloc _ _
 have o2 : w2.ownsRow w1.heap.size tU8 1 (.slice (some (nb w1)) 1 1) 1 (([0] : List UInt8).flatMap encU8) := by subst hw2; exact own_made [.int .u8 0] rfl (by decide) (Nat.le_refl _)
 have hfl : (firsts (rowK s T) (gN s T)).length ≤ 1032 := by
  have : ∀ i, (firsts (rowK s T) i).length ≤ i := by
   intro i
   induction i with
   | zero => exact Nat.le_refl _
   | succ i ih =>
    have h1 := cls_next (k := rowK s T) i
    omega
  have := this (gN s T)
  omega
 intro J hJ
 have rest : ∀ z : World, Below w1.heap.size w1 z → z.ownsRow w1.heap.size tU8 1 (.slice (some (nb w1)) 1 1) 1 (([if alB s T i then 1 else 0] : List UInt8).flatMap encU8) → J [] z := by
  intro z hz oz
  have hbz := held_on hz hb
  refine hJ _ (NilC.mk _ rfl ⟨rfi.a, rfi.n, rfi.c, by rw [add_lit, add_lit, cell_heap hbz]; exact c2, ?_⟩)
  intro I hI
  have hfz := own_on hf hz
  have hfn := (LsAt.of_own elInt hfz).n
  rw [List.length_map] at hfn
  have key := climb2 (α := Sl × World) (firsts (rowK s T) (gN s T)).length (fun j y => y.2.ownsRow w1.heap.size tU8 1 y.1.v y.1.n ((((if alB s T i then 1 else 0) :: ((firsts (rowK s T) (gN s T)).take j).map fun a => if relB s T a i then 1 else 0 : List UInt8)).flatMap encU8) ∧ y.1.n = j + 1 ∧ Below w1.heap.size w1 y.2) (fun j y => I [.int .i64 (j : Int), y.1.v] y.2) (⟨some (nb w1), 1, 1⟩, z) ⟨oz, rfl, hz⟩ ?_ ?_
  ·exact key
  ·rintro j hj ih ⟨b, q⟩ ⟨hown, hbn, hB⟩
   change q.ownsRow w1.heap.size tU8 1 b.v b.n _ at hown
   change b.n = j + 1 at hbn
   change Below w1.heap.size w1 q at hB
   refine hI _ b.a b.n b.c q (CondP.yes (decide_eq_true (by omega)) ?_)
   intro J4 hJ4
   have hfq := LsAt.of_own elInt (own_on hf hB)
   have hbq := held_on hB hb
   have hGq := h.on hB
   obtain ⟨p, hp, cc⟩ := cell_rw hfq.r (show j < ((firsts (rowK s T) (gN s T)).map fun i : Nat => (i : Int)).length by simpa using hj) (v := .int .i64 (((firsts (rowK s T) (gN s T))[j] : Nat) : Int)) (by simp [encInt])
   have ha := firsts_lt (List.getElem_mem hj)
   refine NilC.mk p hp ⟨by omega, by omega, _, cc, NilC.mk _ rfl ⟨_, by rw [cell_put hbq]; exact c0, (gId_at q g s T hGq _ ha).mono ?_⟩⟩
   rintro e q1 ⟨rfl, rfl⟩
   refine ⟨_, _, rfl, NilC.mk _ rfl ⟨_, by rw [cell_put hbq]; exact c0, (gHas_spec q1 g s T hGq hn _ _).mono ?_⟩⟩
   rintro e q2 ⟨rfl, rfl⟩
   rw [gHas_at ha hi]
   have fin : ∀ (x : UInt8) (q3 : World), x = (if relB s T (firsts (rowK s T) (gN s T))[j] i then 1 else 0) → q3 = q2.alloc (.cells #[.int .u8 ((x.toNat : Nat) : Int)] tU8) → ∃ lA : Option Addr, ∃ lN : Nat, ∃ lC : Nat, ∃ w9 : World, (Builtin.append_ #[tBytes, tBytes] tBytes #[Value.slice b.a b.n b.c, Value.slice (some (nb q2)) 1 1]).run Tryz.prog q3 = .ok (Value.slice lA lN lC) w9 ∧ J4 [Value.slice lA lN lC] w9 := by
    intro x q3 hx hq3
    obtain ⟨b', w9, e1, e2, e3, e4, _⟩ := elU8.push hown x hq3 rfl hB.size (by omega) (by decide)
    refine ⟨b'.a, b'.n, b'.c, w9, e2, hJ4 _ _ _ _ (Ar.nat (j + 1) rfl (by omega) (ih (b', w9) ⟨?_, by show b'.n = j + 1 + 1; omega, e4 _ hB⟩))⟩
    rw [List.take_add_one, List.getElem?_eq_getElem hj, List.map_append]
    show w9.ownsRow w1.heap.size tU8 1 b'.v b'.n ((((if alB s T i then 1 else 0) :: ((firsts (rowK s T) (gN s T)).take j).map fun a => if relB s T a i then 1 else 0 : List UInt8) ++ [if relB s T (firsts (rowK s T) (gN s T))[j] i then 1 else 0]).flatMap encU8)
    rw [← hx]
    exact e3
   refine ⟨_, rfl, CondP.mk (fun ht => ?_) fun ht => ?_⟩
   ·intro w8 hw8
    exact fin 1 w8 (by rw [ht]; rfl) hw8
   ·intro w8 hw8
    exact fin 0 w8 (by rw [ht]; rfl) hw8
  ·rintro ⟨b, q⟩ ⟨hown, hbn, hB⟩
   change q.ownsRow w1.heap.size tU8 1 b.v b.n _ at hown
   change Below w1.heap.size w1 q at hB
   rw [List.take_length] at hown
   exact hI _ b.a b.n b.c q (CondP.no (decide_eq_false (by omega)) ⟨_, q, run_str_own (P := Tryz.prog) undBytes undU8 undStr (by rw [← u8_cells]; exact hown), rfl, hB⟩)
 have hb2 := held_on b2 hb
 refine NilC.mk _ rfl ⟨_, by rw [cell_put hb2]; exact c0, (gAlone_spec w2 g s T (h.on b2) hn _).mono ?_⟩
 rintro e w13 ⟨rfl, rfl⟩
 rw [gAl_at hi]
 refine ⟨_, rfl, CondP.mk (fun ha => ⟨by decide, by decide, ?_⟩) fun ha => rest _ b2 (by rw [ha]; exact o2)⟩
 refine store_one (own_set (enc := encU8) (l := ⟨some (nb w1), 1, 1⟩) (fun _ => rfl) (by decide) (fun y u hu => by rw [List.mem_singleton.1 hu]; rfl) o2 rfl rfl 0 (by decide) (1 : UInt8) ?_)
 intro z oz _ _ hB
 exact rest z (hB _ _ (Nat.le_refl _) b2) (by rw [ha]; exact oz)
abbrev tBools : TypeId := 72
abbrev tBoolss : TypeId := 71
theorem undBls : Tryz.prog.underlying tBools = some (.slice tBool) := by kernel_rfl
theorem undBlss : Tryz.prog.underlying tBoolss = some (.slice tBools) := by kernel_rfl
theorem infoBl : (Tryz.prog.info? tBool).map (fun i => (i.zero, i.size, i.bytes)) = some (some (.bool false), 1, 1) := by kernel_rfl
theorem infoBls : (Tryz.prog.info? tBools).map (fun i => (i.zero, i.size, i.bytes)) = some (some (.slice none 0 0), 1, 24) := by kernel_rfl
theorem elBl : ElT encB1 1 tBools tBool 1 := ⟨fun _ => rfl, by decide, fun x u hu => by rw [List.mem_singleton.1 hu]; rfl, undBls, _, infoBl, rfl⟩
theorem elBls : ElT encS 1 tBoolss tBools 24 := ⟨fun _ => rfl, by decide, fun x u hu => by rw [List.mem_singleton.1 hu]; rfl, undBlss, _, infoBls, rfl⟩
def rowF (s : SpecV) (T : List Ent) : List Nat := firsts (rowK s T) (gN s T)
def colF (s : SpecV) (T : List Ent) : List Nat := firsts (colK s T) (gN s T)
def cints (l : List Nat) : List Value := (l.map fun i : Nat => (i : Int)).flatMap encInt
def clss (k : Nat → Bs) (n : Nat) : List Value := ((List.range n).map fun i => ((clsOf k i : Nat) : Int)).flatMap encInt
def bitsRow (s : SpecV) (T : List Ent) (a : Nat) : List Bool := (colF s T).map fun i => relB s T a i
structure FoldR (w : World) (B f g : Nat) (s : SpecV) (T : List Ent) (rof rfi cof cfi bits alone : Sl) (bl : List Sl) (m j : Nat) : Prop where
 blk : w.heap[f]? = some (.cells #[.pointer (some ⟨g, 0, none⟩), rof.v, rfi.v, cof.v, cfi.v, bits.v, alone.v] tFold (0, 0))
 grid : GrIs w g s T
 orof : w.ownsRow B tInt 1 rof.v rof.n (clss (rowK s T) (gN s T))
 orfi : w.ownsRow B tInt 1 rfi.v rfi.n (cints (rowF s T))
 ocof : w.ownsRow B tInt 1 cof.v cof.n (clss (colK s T) (gN s T))
 ocfi : w.ownsRow B tInt 1 cfi.v cfi.n (cints (colF s T))
 obits : w.ownsRow B tBools 1 bits.v bits.n (bl.flatMap encS)
 blen : bl.length = m
 each : ∀ (c : Nat) (r : Sl) (h : c < (rowF s T).length), bl[c]? = some r → w.ownsRow B tBool 1 r.v r.n ((bitsRow s T (rowF s T)[c]).flatMap encB1)
 oal : w.ownsRow B tBool 1 alone.v alone.n ((((colF s T).take j).map fun i => alB s T i).flatMap encB1)
def FoldIs (w : World) (f g : Nat) (s : SpecV) (T : List Ent) : Prop := ∃ rof rfi cof cfi bits alone bl, FoldR w 0 f g s T rof rfi cof cfi bits alone bl (rowF s T).length (colF s T).length
theorem FoldR.on {w w' : World} {B f g : Nat} {s : SpecV} {T : List Ent} {rof rfi cof cfi bits alone : Sl} {bl : List Sl} {m j : Nat} (h : FoldR w B f g s T rof rfi cof cfi bits alone bl m j) (hb : Below w.heap.size w w') : FoldR w' B f g s T rof rfi cof cfi bits alone bl m j :=
 ⟨held_on hb h.blk, h.grid.on hb, own_on h.orof hb, own_on h.orfi hb, own_on h.ocof hb, own_on h.ocfi hb, own_on h.obits hb, h.blen, fun c r hc hr => own_on (h.each c r hc hr) hb, own_on h.oal hb⟩
theorem FoldIs.on {w w' : World} {f g : Nat} {s : SpecV} {T : List Ent} (h : FoldIs w f g s T) (hb : Below w.heap.size w w') : FoldIs w' f g s T := by
 obtain ⟨rof, rfi, cof, cfi, bits, alone, bl, h⟩ := h
 exact ⟨rof, rfi, cof, cfi, bits, alone, bl, h.on hb⟩
theorem firsts_few (k : Nat → Bs) : ∀ i, (firsts k i).length ≤ i
 | 0 => Nat.le_refl _
 | i + 1 => by
  have h1 := cls_next (k := k) i
  have h2 := firsts_few k i
  omega
theorem cints_cell {w : World} {B : Nat} {l : Sl} {xs : List Nat} (h : w.ownsRow B tInt 1 l.v l.n (cints xs)) {i : Nat} (hi : i < xs.length) : l.n = xs.length ∧ ∃ p, l.a = some p ∧ w.cell? (p.add (i * 1)) = some (.int .i64 ((xs[i] : Nat) : Int)) := by
 have hls := LsAt.of_own elInt (B := B) (xs := xs.map fun i : Nat => (i : Int)) h
 obtain ⟨p, hp, c⟩ := cell_rw hls.r (show i < (xs.map fun i : Nat => (i : Int)).length by simpa using hi) (v := .int .i64 ((xs[i] : Nat) : Int)) (by simp [encInt])
 exact ⟨by simpa using hls.n, p, hp, c⟩
theorem cints_n {w : World} {B : Nat} {l : Sl} {xs : List Nat} (h : w.ownsRow B tInt 1 l.v l.n (cints xs)) : l.n = xs.length := by
 have hls := LsAt.of_own elInt (B := B) (xs := xs.map fun i : Nat => (i : Int)) h
 simpa using hls.n
set_option maxHeartbeats 4000000 in
theorem foldNew_spec (w : World) (g : Nat) (s : SpecV) (T : List Ent) (h : GrIs w g s T) (hn : gN s T ≤ 1032) (hr : RiseG s T) (hg : g < w.heap.size) :
  CP 37 #[.pointer (some ⟨g, 0, none⟩)] w fun e w' => ∃ f, e = .returned (.pointer (some ⟨f, 0, none⟩)) ∧ FoldIs w' f g s T ∧ Below w.heap.size w w' := by
 refine calls_ret (vc37_calls (some ⟨g, 0, none⟩) w (fun u w' => ∃ f, u = .pointer (some ⟨f, 0, none⟩) ∧ FoldIs w' f g s T ∧ Below w.heap.size w w') ?_) (by rintro v w' ⟨f, rfl, h⟩; exact ⟨f, rfl, h⟩)
 intro w1 hw1
 have b1 : Below w.heap.size w w1 := by subst hw1; exact below_alloc _ _
 have l1 : w1.heap[w.heap.size]? = some (.cells #[.pointer (some ⟨g, 0, none⟩)] 48 (0, 0)) := by subst hw1; exact alloc_new _ _
 have s1 : w.heap.size < w1.heap.size := (Array.getElem?_eq_some_iff.1 l1).1
 refine ⟨_, cell1 l1, CondP.no rfl ⟨_, cell1 l1, ?_⟩⟩
 intro w2 hw2
 have b2 : Below w1.heap.size w1 w2 := by subst hw2; exact below_alloc _ _
 have f2 : w2.heap[w1.heap.size]? = some (.cells #[.pointer (some ⟨g, 0, none⟩), sl0.v, sl0.v, sl0.v, sl0.v, sl0.v, sl0.v] tFold (0, 0)) := by subst hw2; exact alloc_new _ _
 have l2 := held_on b2 l1
 have s2 : w1.heap.size < w2.heap.size := (Array.getElem?_eq_some_iff.1 f2).1
 have hb2 := below_then b1 b2
 have h2 := h.on hb2
 refine ⟨_, cell1 l2, (gSize_spec w2 g s T h2).mono ?_⟩
 rintro e w3 ⟨rfl, rfl⟩
 refine ⟨_, rfl, (group_spec w3 (gN s T) _ (rowK s T) (by omega) fun i hi q hq => callG_of (by kernel_rfl) (key1_spec q w.heap.size g s T (h2.on hq) hn hr (held_on hq l2) i hi)).mono ?_⟩
 rintro e w4 ⟨rof, rfi, rfl, orof, orfi, b4⟩
 have f4 := held_on b4 f2
 have l4 := held_on b4 l2
 have hb4 := below_then hb2 b4
 refine ⟨_, _, _, _, _, _, rfl, ?_⟩
 rw [add_lit]
 refine storeP_block [rof.v, rfi.v] 0 w4 _ (0 + 1) f4 (by simp) (by intro v hv; simp only [List.mem_cons, List.not_mem_nil, or_false] at hv; rcases hv with rfl | rfl <;> rfl) ?_
 intro w5 f5 hs5 hz5 hB5
 have f5 : w5.heap[w1.heap.size]? = some (.cells #[.pointer (some ⟨g, 0, none⟩), rof.v, rfi.v, sl0.v, sl0.v, sl0.v, sl0.v] tFold (0, 0)) := f5
 have l5 := (hs5 _ (by omega)).trans l4
 have hb5 : Below w.heap.size w w5 := hB5 _ _ (by omega) hb4
 have h5 := h.on hb5
 have orof5 := own_same orof fun k hk => hs5 k (by have := (own_lt orof k hk).1; omega)
 have orfi5 := own_same orfi fun k hk => hs5 k (by have := (own_lt orfi k hk).1; omega)
 refine ⟨_, cell1 l5, (gSize_spec w5 g s T h5).mono ?_⟩
 rintro e w6 ⟨rfl, rfl⟩
 have key2 : ∀ i, i < gN s T → ∀ q, Below w6.heap.size w6 q → CallG ctx (.func (.func 74) #[.pointer (some (nb w1))] #[]) [.int .i64 (i : Int)] q (fun e q2 => e = .returned (.string (str (colK s T i))) ∧ Below q.heap.size q q2) := by
  intro i hi q hq
  have := column_spec q w1.heap.size g s T (h5.on hq) hn _ (held_on hq f5) rfi rfl rfl (own_base (own_on orfi5 hq) (Nat.zero_le _)) i hi
  unfold CallG
  have hc : ctx.fns 74 = true := by kernel_rfl
  simp only [hc]
  exact this
 refine ⟨_, rfl, (group_spec w6 (gN s T) _ (colK s T) (by omega) key2).mono ?_⟩
 rintro e w7 ⟨cof, cfi, rfl, ocof, ocfi, b7⟩
 have f7 := held_on b7 f5
 have l7 := held_on b7 l5
 have hb7 := below_then hb5 b7
 refine ⟨_, _, _, _, _, _, rfl, ?_⟩
 rw [add_lit]
 refine storeP_block [cof.v, cfi.v] 0 w7 _ (0 + 3) f7 (by simp) (by intro v hv; simp only [List.mem_cons, List.not_mem_nil, or_false] at hv; rcases hv with rfl | rfl <;> rfl) ?_
 intro w8 f8 hs8 hz8 hB8
 have f8 : w8.heap[w1.heap.size]? = some (.cells #[.pointer (some ⟨g, 0, none⟩), rof.v, rfi.v, cof.v, cfi.v, sl0.v, sl0.v] tFold (0, 0)) := f8
 have l8 := (hs8 _ (by omega)).trans l7
 have hb8 : Below w.heap.size w w8 := hB8 _ _ (by omega) hb7
 have z6 : w1.heap.size < w6.heap.size := by rw [hz5]; exact Nat.lt_of_lt_of_le s2 b4.size
 have orof8 := own_same (own_on orof5 b7) fun k hk => hs8 k (by have := (own_lt orof k hk).1; omega)
 have orfi8 := own_same (own_on orfi5 b7) fun k hk => hs8 k (by have := (own_lt orfi k hk).1; omega)
 have ocof8 := own_same ocof fun k hk => hs8 k (by have := (own_lt ocof k hk).1; omega)
 have ocfi8 := own_same ocfi fun k hk => hs8 k (by have := (own_lt ocfi k hk).1; omega)
 have s3 : w.heap.size ≤ w3.heap.size := hb2.size
 have s6 : w.heap.size ≤ w6.heap.size := hb5.size
 have R8 : FoldR w8 w.heap.size w1.heap.size g s T rof rfi cof cfi sl0 sl0 [] 0 0 :=
  ⟨f8, h.on hb8, own_base orof8 s3, own_base orfi8 s3, own_base ocof8 s6, own_base ocfi8 s6, own_none _ _ _ _ encS, rfl, (by intro c r _ h; cases h), own_none _ _ _ _ encB1⟩
 have hrf : (rowF s T).length ≤ 1032 := Nat.le_trans (firsts_few _ _) hn
 have hcf : (colF s T).length ≤ 1032 := Nat.le_trans (firsts_few _ _) hn
 refine ⟨rfi.a, rfi.n, rfi.c, (by first | (rw [cell_heap f8]; rfl) | (rw [add_lit, cell_heap f8]; rfl) | (rw [add_lit, add_lit, cell_heap f8]; rfl)), ?_⟩
 have hrn := cints_n R8.orfi
 have hcn := cints_n R8.ocfi
 intro I hI
 let Inv (i : Nat) (q : World) : Prop := ∃ bits bl, FoldR q w.heap.size w1.heap.size g s T rof rfi cof cfi bits sl0 bl i 0 ∧ q.heap[w.heap.size]? = some (.cells #[.pointer (some ⟨g, 0, none⟩)] 48 (0, 0)) ∧ Below w.heap.size w q
 have key := climb2 (α := World) (rowF s T).length Inv (fun i q => I [.int .i64 (i : Int)] q) w8 ⟨sl0, [], R8, l8, hb8⟩ ?_ ?_
 ·exact key
 ·rintro i hi ih q ⟨bits, bl, R, lq, hB⟩
  obtain ⟨_, p, hp, cc⟩ := cints_cell R.orfi hi
  have hai := firsts_lt (List.getElem_mem hi)
  refine hI _ _ (CondP.yes (decide_eq_true (by omega)) (NilC.mk p hp ⟨by omega, by omega, _, cc, _, cell1 lq, (gId_at q g s T R.grid _ hai).mono ?_⟩))
  rintro e q1 ⟨rfl, rfl⟩
  refine ⟨_, _, rfl, cfi.a, cfi.n, cfi.c, (by first | (rw [cell_heap R.blk]; rfl) | (rw [add_lit, cell_heap R.blk]; rfl) | (rw [add_lit, add_lit, cell_heap R.blk]; rfl)), ?_⟩
  intro I2 hI2
  have key2 := climb2 (α := Sl × World) (colF s T).length (fun j y => y.2.ownsRow q1.heap.size tBool 1 y.1.v y.1.n ((((colF s T).take j).map fun c => relB s T (rowF s T)[i] c).flatMap encB1) ∧ y.1.n = j ∧ Below q1.heap.size q1 y.2) (fun j y => I2 [.int .i64 (j : Int), y.1.v] y.2) (sl0, q1) ⟨own_none _ _ _ _ encB1, rfl, Below.refl _ _⟩ ?_ ?_
  ·exact key2
  ·rintro j hj ih2 ⟨b, z⟩ ⟨hown, hbn, hBz⟩
   change z.ownsRow q1.heap.size tBool 1 b.v b.n _ at hown
   change b.n = j at hbn
   change Below q1.heap.size q1 z at hBz
   have Rz := R.on hBz
   have lz := held_on hBz lq
   obtain ⟨_, p2, hp2, cc2⟩ := cints_cell Rz.ocfi hj
   have haj := firsts_lt (List.getElem_mem hj)
   refine hI2 _ b.a b.n b.c z (CondP.yes (decide_eq_true (by omega)) (NilC.mk p2 hp2 ⟨by omega, by omega, _, cc2, _, cell1 lz, (gId_at z g s T Rz.grid _ haj).mono ?_⟩))
   rintro e z1 ⟨rfl, rfl⟩
   refine ⟨_, _, rfl, _, cell1 lz, (gHas_spec z1 g s T Rz.grid hn _ _).mono ?_⟩
   rintro e z2 ⟨rfl, rfl⟩
   rw [gHas_at hai haj]
   refine ⟨_, rfl, ?_⟩
   intro z3 hz3
   obtain ⟨b', z4, e1, e2, e3, e4, _⟩ := elBl.push hown (relB s T (rowF s T)[i] (colF s T)[j]) hz3 rfl hBz.size (by omega) (by decide)
   refine ⟨b'.a, b'.n, b'.c, z4, e2, Ar.nat (j + 1) rfl (by omega) (ih2 (b', z4) ⟨?_, by show b'.n = j + 1; omega, e4 _ hBz⟩)⟩
   rw [List.take_add_one, List.getElem?_eq_getElem hj, List.map_append]
   exact e3
  ·rintro ⟨b, z⟩ ⟨hown, hbn, hBz⟩
   change z.ownsRow q1.heap.size tBool 1 b.v b.n _ at hown
   change Below q1.heap.size q1 z at hBz
   rw [List.take_length] at hown
   have Rz := R.on hBz
   have lz := held_on hBz lq
   have hBw : Below w.heap.size w z := hB.trans (hBz.mono hB.size)
   refine hI2 _ b.a b.n b.c z (CondP.no (decide_eq_false (by omega)) ⟨bits.a, bits.n, bits.c, by rw [cell_put Rz.blk]; rfl, ?_⟩)
   intro z1 hz1
   have hbn2 := (LsAt.of_own elBls Rz.obits).n
   have hbl := Rz.blen
   obtain ⟨bits', z2, e1, e2, e3, e4, e5⟩ := elBls.push Rz.obits b hz1 rfl hBw.size (by omega) (by decide)
   have kp : ∀ {k : Nat} {o : Obj}, z.heap[k]? = some o → bits.v.ownBlock ≠ some k → z2.heap[k]? = some o := fun {k o} h hne => (e5 k (Array.getElem?_eq_some_iff.1 h).1 hne).trans h
   have y1 := kp Rz.blk (row_ne_blk Rz.obits Rz.blk (by decide))
   have yl := kp lz (row_ne_blk Rz.obits lz (by decide))
   refine ⟨bits'.a, bits'.n, bits'.c, z2, e2, rfl, ⟨_, by rw [cell_put y1]; rfl⟩, frozen_put y1, ?_⟩
   intro z3 hz3
   have hs : ∀ j, j ≠ w1.heap.size → z3.heap[j]? = z2.heap[j]? := by
    intro j hj
    subst hz3
    exact heap_setCell_ne (by rw [add_block]; exact hj)
   have hBw3 : Below w.heap.size w z3 := by subst hz3; exact below_put (e4 _ hBw) (by omega) _
   have same : ∀ {B sz n : Nat} {e : TypeId} {u : Value} {xs : List Value}, z.ownsRow B e sz u n xs → e ≠ tBools → e ≠ tFold → z3.ownsRow B e sz u n xs := by
    intro B sz n e u xs h h1 h2
    refine own_same h fun k hk => ?_
    rw [hs k fun e => row_ne_blk h Rz.blk h2 (by rw [hk, e])]
    exact e5 k (own_lt h k hk).2 (row_ne_row h Rz.obits h1 k hk)
   refine Ar.nat (i + 1) rfl (by omega) (ih z3 ⟨bits', bl ++ [b], ⟨by subst hz3; exact heap_put y1 _, h.on hBw3, same Rz.orof (by decide) (by decide), same Rz.orfi (by decide) (by decide), same Rz.ocof (by decide) (by decide), same Rz.ocfi (by decide) (by decide), own_same e3 fun k hk => hs k fun e => row_ne_blk e3 y1 (by decide) (by rw [hk, e]), by simp; omega, ?_, own_none _ _ _ _ encB1⟩, (hs _ (by omega)).trans yl, hBw3⟩)
   intro c r hc hj
   by_cases hcl : c < bl.length
   ·rw [List.getElem?_append_left hcl] at hj
    exact same (Rz.each c r hc hj) (by decide) (by decide)
   ·have hci : c = i := by
     have := (List.getElem?_eq_some_iff.1 hj).1
     simp at this
     omega
    subst hci
    rw [List.getElem?_append_right (by omega), hbl, Nat.sub_self] at hj
    cases hj
    exact same (own_base hown hB.size) (by decide) (by decide)
 ·rintro q ⟨bits, bl, R, lq, hB⟩
  refine hI _ _ (CondP.no (decide_eq_false (by omega)) ⟨cfi.a, cfi.n, cfi.c, (by first | (rw [cell_heap R.blk]; rfl) | (rw [add_lit, cell_heap R.blk]; rfl) | (rw [add_lit, add_lit, cell_heap R.blk]; rfl)), ?_⟩)
  intro I2 hI2
  let blkA (al : Sl) : Obj := .cells #[.pointer (some ⟨g, 0, none⟩), rof.v, rfi.v, cof.v, cfi.v, bits.v, al.v] tFold (0, 0)
  let Inv2 (j : Nat) (z : World) : Prop := ∃ al : Sl, z.heap[w1.heap.size]? = some (blkA al) ∧ (∀ k, k < q.heap.size → k ≠ w1.heap.size → z.heap[k]? = q.heap[k]?) ∧ q.heap.size ≤ z.heap.size ∧ z.ownsRow q.heap.size tBool 1 al.v al.n ((((colF s T).take j).map fun i => alB s T i).flatMap encB1) ∧ Below w.heap.size w z
  have lts : w1.heap.size < q.heap.size := (Array.getElem?_eq_some_iff.1 R.blk).1
  have ltw : w.heap.size < q.heap.size := (Array.getElem?_eq_some_iff.1 lq).1
  have mk : ∀ {j : Nat} {z : World} {al : Sl}, z.heap[w1.heap.size]? = some (blkA al) → (∀ k, k < q.heap.size → k ≠ w1.heap.size → z.heap[k]? = q.heap[k]?) → z.ownsRow q.heap.size tBool 1 al.v al.n ((((colF s T).take j).map fun i => alB s T i).flatMap encB1) → Below w.heap.size w z → FoldR z w.heap.size w1.heap.size g s T rof rfi cof cfi bits al bl (rowF s T).length j := by
   intro j z al hblk hk hal hBz
   have same : ∀ {B sz n : Nat} {e : TypeId} {u : Value} {xs : List Value}, q.ownsRow B e sz u n xs → e ≠ tFold → z.ownsRow B e sz u n xs := fun h h2 => own_same h fun k hkk => hk k (own_lt h k hkk).2 fun e => row_ne_blk h R.blk h2 (by rw [hkk, e])
   exact ⟨hblk, h.on hBz, same R.orof (by decide), same R.orfi (by decide), same R.ocof (by decide), same R.ocfi (by decide), same R.obits (by decide), R.blen, fun c r hc hr => same (R.each c r hc hr) (by decide), own_base hal (Nat.le_of_lt ltw)⟩
  have key2 := climb2 (α := World) (colF s T).length Inv2 (fun j q => I2 [.int .i64 (j : Int)] q) q ⟨sl0, R.blk, fun _ _ _ => rfl, Nat.le_refl _, own_none _ _ _ _ encB1, hB⟩ ?_ ?_
  ·exact key2
  ·rintro j hj ih z ⟨al, hblk, hkeep, hzz, hal, hBz⟩
   have Rz := mk hblk hkeep hal hBz
   have lz := (hkeep _ ltw (by omega)).trans lq
   obtain ⟨_, p2, hp2, cc2⟩ := cints_cell Rz.ocfi hj
   have haj := firsts_lt (List.getElem_mem hj)
   refine hI2 _ _ (CondP.yes (decide_eq_true (by omega)) (NilC.mk p2 hp2 ⟨by omega, by omega, _, cc2, _, cell1 lz, (gId_at z g s T Rz.grid _ haj).mono ?_⟩))
   rintro e z1 ⟨rfl, rfl⟩
   refine ⟨_, _, rfl, ?_⟩
   intro z2 hz2
   have bd : Below z1.heap.size z1 z2 := by subst hz2; exact drew_on z1
   have R2 := Rz.on bd
   have l2' := held_on bd lz
   have hB2 := below_then hBz bd
   have hal2 := own_on hal bd
   refine ⟨al.a, al.n, al.c, by rw [cell_put R2.blk]; rfl, _, cell1 l2', (gAlone_spec z2 g s T R2.grid hn _).mono ?_⟩
   rintro e z3 ⟨rfl, rfl⟩
   rw [gAl_at haj]
   refine ⟨_, rfl, ⟨by rw [cell_put R2.blk]; rfl, trivial⟩, ?_⟩
   intro z4 hz4
   have b4' : Below z3.heap.size z3 z4 := by subst hz4; exact below_alloc _ _
   have haln := (LsAt.of_own elBl hal2).n
   rw [List.length_map, List.length_take] at haln
   have hzz2 : q.heap.size ≤ z3.heap.size := Nat.le_trans hzz bd.size
   obtain ⟨al', z5, e1, e2, e3, e4, e5⟩ := elBl.push hal2 (alB s T (colF s T)[j]) hz4 rfl hzz2 (by omega) (by decide)
   have y1 : z5.heap[w1.heap.size]? = some (blkA al) := (e5 _ (by omega) (row_ne_blk hal2 R2.blk (by decide))).trans R2.blk
   have b5 : Below q.heap.size z3 z5 := e4 _ (Below.refl _ _)
   refine ⟨⟨by rw [cell_put (held_on b4' R2.blk)]; rfl, trivial⟩, al'.a, al'.n, al'.c, z5, e2, rfl, ⟨_, by rw [cell_put y1]; rfl⟩, frozen_put y1, ?_⟩
   intro z6 hz6
   have hs : ∀ j, j ≠ w1.heap.size → z6.heap[j]? = z5.heap[j]? := by
    intro j hj
    subst hz6
    exact heap_setCell_ne (by rw [add_block]; exact hj)
   have hB6 : Below w.heap.size w z6 := by subst hz6; exact below_put (hB2.trans (b5.mono (Nat.le_of_lt ltw))) (by omega) _
   refine Ar.nat (j + 1) rfl (by omega) (ih z6 ⟨al', by subst hz6; exact heap_put y1 _, fun k hk hne => ?_, ?_, ?_, hB6⟩)
   ·rw [hs k hne, b5.block k hk, bd.block k (by omega)]
    exact hkeep k hk hne
   ·subst hz6
    rw [size_setCell]
    exact Nat.le_trans hzz2 b5.size
   ·rw [List.take_add_one, List.getElem?_eq_getElem hj, List.map_append]
    exact own_same e3 fun k hk => hs k fun e => row_ne_blk e3 y1 (by decide) (by rw [hk, e])
  ·rintro z ⟨al, hblk, hkeep, hzz, hal, hBz⟩
   have Rz := mk hblk hkeep hal hBz
   refine hI2 _ _ (CondP.no (decide_eq_false (by omega)) ⟨w1.heap.size, rfl, ⟨rof, rfi, cof, cfi, bits, al, bl, ?_⟩, hBz⟩)
   exact ⟨Rz.blk, Rz.grid, own_base Rz.orof (Nat.zero_le _), own_base Rz.orfi (Nat.zero_le _), own_base Rz.ocof (Nat.zero_le _), own_base Rz.ocfi (Nat.zero_le _), own_base Rz.obits (Nat.zero_le _), Rz.blen, fun c r hc hr => own_base (Rz.each c r hc hr) (Nat.zero_le _), own_base Rz.oal (Nat.zero_le _)⟩
theorem alone_cls {s : SpecV} {T : List Ent} {j : Nat} (hj : j < gN s T) : ∃ h : clsOf (colK s T) j < (colF s T).length, alB s T (colF s T)[clsOf (colK s T) j] = alB s T j := by
 obtain ⟨h1, h2⟩ := cls_in (k := colK s T) hj
 refine ⟨h1, ?_⟩
 have bit : ∀ b c : Bool, ((if b then 1 else 0 : UInt8) = (if c then 1 else 0)) ↔ b = c := by decide
 exact (bit _ _).1 (List.cons.inj h2).1
theorem col_eq {s : SpecV} {T : List Ent} {i j : Nat} : colK s T i = colK s T j ↔ alB s T i = alB s T j ∧ ∀ a ∈ firsts (rowK s T) (gN s T), relB s T a i = relB s T a j := by
 have bit : ∀ b c : Bool, ((if b then 1 else 0 : UInt8) = (if c then 1 else 0)) ↔ b = c := by decide
 unfold colK
 rw [List.cons.injEq, bit]
 refine and_congr Iff.rfl ⟨fun h a ha => ?_, fun h => List.map_congr_left fun a ha => by rw [h a ha]⟩
 have := List.map_inj_left.1 h a ha
 exact (bit _ _).1 this
theorem row_eq {s : SpecV} {T : List Ent} {i j : Nat} : rowK s T i = rowK s T j ↔ ∀ m, m < gN s T → relB s T i m = relB s T j m := rowText_iff
theorem rel_cls {s : SpecV} {T : List Ent} {i j : Nat} (hi : i < gN s T) (hj : j < gN s T) : ∃ (h : clsOf (rowK s T) i < (rowF s T).length) (h' : clsOf (colK s T) j < (colF s T).length), relB s T (rowF s T)[clsOf (rowK s T) i] (colF s T)[clsOf (colK s T) j] = relB s T i j := by
 obtain ⟨h1, h2⟩ := cls_in (k := rowK s T) hi
 obtain ⟨h3, h4⟩ := cls_in (k := colK s T) hj
 refine ⟨h1, h3, ?_⟩
 have e1 := (col_eq.1 h4).2 _ (List.getElem_mem h1)
 have e2 := row_eq.1 h2 j hj
 exact e1.trans e2
theorem clss_cell {w : World} {B n : Nat} {l : Sl} {k : Nat → Bs} (h : w.ownsRow B tInt 1 l.v l.n (clss k n)) {i : Nat} (hi : i < n) : l.n = n ∧ ∃ p, l.a = some p ∧ w.cell? (p.add (i * 1)) = some (.int .i64 ((clsOf k i : Nat) : Int)) := by
 have hls := LsAt.of_own elInt (B := B) (xs := (List.range n).map fun i => ((clsOf k i : Nat) : Int)) h
 obtain ⟨p, hp, c⟩ := cell_rw hls.r (show i < ((List.range n).map fun i => ((clsOf k i : Nat) : Int)).length by simpa using hi) (v := .int .i64 ((clsOf k i : Nat) : Int)) (by simp [encInt])
 exact ⟨by simpa using hls.n, p, hp, c⟩
def clV (k : Nat → Bs) (o : Option Nat) : Value := match o with
 | some i => .tuple #[.int .i64 ((clsOf k i : Nat) : Int), .bool true]
 | none => .tuple #[.int .i64 0, .bool false]
theorem fPlace_spec (w : World) (f g : Nat) (s : SpecV) (T : List Ent) (h : FoldIs w f g s T) (id : Int) :
  CP 68 #[.pointer (some ⟨f, 0, none⟩), .int .i64 id] w fun e w' => e = .returned (.tuple #[.int .i64 (((plc s T id).getD 0 : Nat) : Int), .bool (plc s T id).isSome]) ∧ w' = w := by
 refine calls_ret (vc68_calls (some ⟨f, 0, none⟩) id w (fun u w' => u = .tuple #[.int .i64 (((plc s T id).getD 0 : Nat) : Int), .bool (plc s T id).isSome] ∧ w' = w) ?_) (by rintro v w' ⟨rfl, h⟩; exact ⟨rfl, h⟩)
 obtain ⟨rof, rfi, cof, cfi, bits, alone, bl, R⟩ := h
 refine CondP.no rfl (NilC.mk _ rfl ⟨_, by rw [cell_put R.blk]; rfl, (gPlace_spec w g s T R.grid id).mono ?_⟩)
 rintro e w1 ⟨rfl, rfl⟩
 exact ⟨_, _, rfl, rfl, rfl⟩
theorem fRow_spec (w : World) (f g : Nat) (s : SpecV) (T : List Ent) (h : FoldIs w f g s T) (id : Int) :
  CP 26 #[.pointer (some ⟨f, 0, none⟩), .int .i64 id] w fun e w' => e = .returned (clV (rowK s T) (plc s T id)) ∧ w' = w := by
 refine calls_ret (vc26_calls (some ⟨f, 0, none⟩) id w (fun u w' => u = clV (rowK s T) (plc s T id) ∧ w' = w) ?_) (by rintro v w' ⟨rfl, h⟩; exact ⟨rfl, h⟩)
 refine (fPlace_spec w f g s T h id).mono ?_
 rintro e w1 ⟨rfl, rfl⟩
 obtain ⟨rof, rfi, cof, cfi, bits, alone, bl, R⟩ := h
 refine ⟨_, _, rfl, CondP.mk (fun h1 => ⟨?_, rfl⟩) fun h1 => ?_⟩
 ·cases hp : plc s T id with
  | none => rfl
  | some i => rw [hp] at h1; cases h1
 ·obtain ⟨i, hi⟩ := Option.isSome_iff_exists.1 (by simpa using h1)
  obtain ⟨hi1, _, _⟩ := plc_some hi
  obtain ⟨hn, p, hp, hc⟩ := clss_cell R.orof (i := i) hi1
  rw [hi]
  refine NilC.mk _ rfl ⟨rof.a, rof.n, rof.c, (by rw [add_lit, add_lit, cell_heap R.blk]; rfl), NilC.mk p hp ⟨by omega, by show ((i : Nat) : Int) < _; unfold gN at hn; omega, _, hc, rfl, rfl⟩⟩
theorem fCol_spec (w : World) (f g : Nat) (s : SpecV) (T : List Ent) (h : FoldIs w f g s T) (id : Int) :
  CP 27 #[.pointer (some ⟨f, 0, none⟩), .int .i64 id] w fun e w' => e = .returned (clV (colK s T) (plc s T id)) ∧ w' = w := by
 refine calls_ret (vc27_calls (some ⟨f, 0, none⟩) id w (fun u w' => u = clV (colK s T) (plc s T id) ∧ w' = w) ?_) (by rintro v w' ⟨rfl, h⟩; exact ⟨rfl, h⟩)
 refine (fPlace_spec w f g s T h id).mono ?_
 rintro e w1 ⟨rfl, rfl⟩
 obtain ⟨rof, rfi, cof, cfi, bits, alone, bl, R⟩ := h
 refine ⟨_, _, rfl, CondP.mk (fun h1 => ⟨?_, rfl⟩) fun h1 => ?_⟩
 ·cases hp : plc s T id with
  | none => rfl
  | some i => rw [hp] at h1; cases h1
 ·obtain ⟨i, hi⟩ := Option.isSome_iff_exists.1 (by simpa using h1)
  obtain ⟨hi1, _, _⟩ := plc_some hi
  obtain ⟨hn, p, hp, hc⟩ := clss_cell R.ocof (i := i) hi1
  rw [hi]
  refine NilC.mk _ rfl ⟨cof.a, cof.n, cof.c, (by rw [add_lit, add_lit, cell_heap R.blk]; rfl), NilC.mk p hp ⟨by omega, by show ((i : Nat) : Int) < _; unfold gN at hn; omega, _, hc, rfl, rfl⟩⟩
theorem fAlone_spec (w : World) (f g : Nat) (s : SpecV) (T : List Ent) (h : FoldIs w f g s T) (id : Int) :
  CP 34 #[.pointer (some ⟨f, 0, none⟩), .int .i64 id] w fun e w' => e = .returned (.bool (gAl s T id)) ∧ w' = w := by
 refine calls_ret (vc34_calls (some ⟨f, 0, none⟩) id w (fun u w' => u = .bool (gAl s T id) ∧ w' = w) ?_) (by rintro v w' ⟨rfl, h⟩; exact ⟨rfl, h⟩)
 refine (fCol_spec w f g s T h id).mono ?_
 rintro e w1 ⟨rfl, rfl⟩
 obtain ⟨rof, rfi, cof, cfi, bits, alone, bl, R⟩ := h
 cases hp : plc s T id with
 | none =>
  refine ⟨_, _, rfl, CondP.no rfl ⟨?_, rfl⟩⟩
  unfold gAl
  rw [plc_none hp, Bool.false_and]
 | some i =>
  obtain ⟨hi1, hi2, hi3⟩ := plc_some hp
  obtain ⟨hc, ha⟩ := alone_cls (s := s) (T := T) (j := i) hi1
  have hls := LsAt.of_own elBl R.oal
  rw [List.take_length] at hls
  have hn := hls.n
  rw [List.length_map] at hn
  obtain ⟨p, hp2, cc⟩ := cell_rw hls.r (show clsOf (colK s T) i < ((colF s T).map fun i => alB s T i).length by simpa using hc) (v := .bool (alB s T i)) (by simp [encB1, ha])
  refine ⟨_, _, rfl, CondP.yes rfl (NilC.mk _ rfl ⟨alone.a, alone.n, alone.c, by rw [cell_put R.blk]; rfl, NilC.mk p hp2 ⟨by omega, by omega, _, cc, ?_, rfl⟩⟩)⟩
  rw [← gAl_at hi1, hi2]
theorem fHas_spec (w : World) (f g : Nat) (s : SpecV) (T : List Ent) (h : FoldIs w f g s T) (a b : Int) :
  CP 35 #[.pointer (some ⟨f, 0, none⟩), .int .i64 a, .int .i64 b] w fun e w' => e = .returned (.bool (gHas s T a b)) ∧ w' = w := by
 refine calls_ret (vc35_calls (some ⟨f, 0, none⟩) a b w (fun u w' => u = .bool (gHas s T a b) ∧ w' = w) ?_) (by rintro v w' ⟨rfl, h⟩; exact ⟨rfl, h⟩)
 refine (fRow_spec w f g s T h a).mono ?_
 rintro e w1 ⟨rfl, rfl⟩
 cases hp : plc s T a with
 | none =>
  refine ⟨_, _, rfl, (fCol_spec w1 f g s T h b).mono ?_⟩
  rintro e w2 ⟨rfl, rfl⟩
  have e0 : gHas s T a b = false := by unfold gHas; rw [plc_none hp, Bool.false_and, Bool.false_and]
  rw [e0]
  cases plc s T b with
  | none => exact ⟨_, _, rfl, CondP.no rfl ⟨rfl, rfl⟩⟩
  | some j => exact ⟨_, _, rfl, CondP.no rfl ⟨rfl, rfl⟩⟩
 | some i =>
  obtain ⟨hi1, hi2, hi3⟩ := plc_some hp
  refine ⟨_, _, rfl, (fCol_spec w1 f g s T h b).mono ?_⟩
  rintro e w2 ⟨rfl, rfl⟩
  obtain ⟨rof, rfi, cof, cfi, bits, alone, bl, R⟩ := h
  cases hq : plc s T b with
  | none =>
   refine ⟨_, _, rfl, CondP.yes rfl (CondP.no rfl ⟨?_, rfl⟩)⟩
   unfold gHas
   rw [plc_none hq, Bool.and_false, Bool.false_and]
  | some j =>
   obtain ⟨hj1, hj2, hj3⟩ := plc_some hq
   obtain ⟨h1, h2, hrel⟩ := rel_cls (s := s) (T := T) (i := i) (j := j) hi1 hj1
   have hls := LsAt.of_own elBls R.obits
   have hbl := R.blen
   have hbn := hls.n
   have hcl : clsOf (rowK s T) i < bl.length := by omega
   obtain ⟨p, hp2, cc⟩ := cell_rw hls.r hcl (v := bl[clsOf (rowK s T) i].v) rfl
   have hrow := R.each _ _ h1 (List.getElem?_eq_getElem hcl)
   have hls2 := LsAt.of_own elBl hrow
   have hn2 := hls2.n
   unfold bitsRow at hls2 hn2
   rw [List.length_map] at hn2
   obtain ⟨p2, hp3, cc2⟩ := cell_rw hls2.r (show clsOf (colK s T) j < ((colF s T).map fun c => relB s T (rowF s T)[clsOf (rowK s T) i] c).length by simpa using h2) (v := .bool (relB s T i j)) (by simp [encB1, hrel])
   refine ⟨_, _, rfl, CondP.yes rfl (CondP.yes rfl (NilC.mk _ rfl ⟨bits.a, bits.n, bits.c, by rw [cell_put R.blk]; rfl, NilC.mk p hp2 ⟨by omega, by omega, _, _, _, cc, NilC.mk p2 hp3 ⟨by omega, by omega, _, cc2, ?_, rfl⟩⟩⟩))⟩
   rw [← gHas_at hi1 hj1, hi2, hj2]
theorem fFirst_spec (w : World) (f g : Nat) (s : SpecV) (T : List Ent) (h : FoldIs w f g s T) (hok : TOk T) (hV : (vocOf s T).Ok) (A : Option Addr) (C : Nat) (ids : List Int) (hr : Rw encInt 1 w A ids) (hl : ids.length ≤ 10000) :
  CP 36 #[.pointer (some ⟨f, 0, none⟩), .slice A ids.length C] w fun e w' => ∃ o : Option Nat, e = .returned (.tuple #[.int .i64 ((o.getD 0 : Nat) : Int), .bool o.isSome]) ∧ FirstR (vocOf s T) ids o ∧ w' = w := by
 refine calls_ret (vc36_calls (some ⟨f, 0, none⟩) A ids.length C w (fun u w' => ∃ o : Option Nat, u = .tuple #[.int .i64 ((o.getD 0 : Nat) : Int), .bool o.isSome] ∧ FirstR (vocOf s T) ids o ∧ w' = w) ?_) (by rintro v w' ⟨o, rfl, h⟩; exact ⟨o, rfl, h⟩)
 have hal : ∀ t, gAl s T t = true ↔ (vocOf s T).Has t ∧ (vocOf s T).Canon [t] := by
  intro t
  unfold gAl
  rw [Bool.and_eq_true, has_iff2 hok, decide_eq_true_iff]
 have hpr : ∀ a b, gHas s T a b = true ↔ ((vocOf s T).Has a ∧ (vocOf s T).Has b) ∧ (vocOf s T).Canon [a, b] := by
  intro a b
  unfold gHas
  rw [Bool.and_eq_true, Bool.and_eq_true, has_iff2 hok, has_iff2 hok, decide_eq_true_iff]
 intro I hI
 have key := climb2 (α := World) ids.length (fun i q => (∀ (j : Nat) (h : j < ids.length), j < i → (vocOf s T).Has ids[j] ∧ (vocOf s T).Canon (ids.take (j + 1))) ∧ q = w) (fun i q => ∀ y5 y4, I [.int .i64 (i : Int), .bool y5, .int .i64 y4] q) w ⟨fun j _ hj => absurd hj (Nat.not_lt_zero j), rfl⟩ ?_ ?_
 ·exact key _ _
 ·rintro i hi ih q ⟨hinv, rfl⟩ y5 y4
  obtain ⟨p, hp, c0⟩ := cell_rw hr hi rfl
  refine hI _ _ _ _ (CondP.yes (by simp; omega) (NilC.mk p hp ⟨by omega, by omega, _, c0, ?_⟩))
  refine (fAlone_spec q f g s T h _).mono ?_
  rintro e w2 ⟨rfl, rfl⟩
  refine ⟨_, rfl, CondP.mk (fun h0 => ?_) fun h0 => ?_⟩
  ·refine ⟨some i, rfl, ⟨fun j hj hji => hinv j hj hji, hi, fun e => ?_⟩, rfl⟩
   have hh : ∀ t ∈ ids.take (i + 1), (vocOf s T).Has t := by
    intro t ht
    obtain ⟨j, hj, rfl⟩ := List.mem_take_iff_getElem.1 ht
    by_cases e2 : j = i
    ·subst e2; exact e.1
    ·exact (hinv j (by omega) (by omega)).1
   have htk : ids.take (i + 1) = ids.take i ++ [ids[i]] := by rw [List.take_add_one, List.getElem?_eq_getElem hi]; rfl
   rw [htk] at hh e
   rw [(hal _).2 ⟨e.1, (Voc.canon_append hV hh e.2).2⟩] at h0
   cases h0
  ·have h1 := (hal _).1 (by simpa using h0)
   have htk : ids.take (i + 1) = ids.take i ++ [ids[i]] := by rw [List.take_add_one, List.getElem?_eq_getElem hi]; rfl
   have next : (vocOf s T).Canon (ids.take (i + 1)) → Ar .i64 ((i : Int) + 1) (fun n => I [.int .i64 n, .bool y5, .int .i64 y4] w2) := by
    intro hc
    refine Ar.nat (i + 1) rfl (by omega) (ih w2 ⟨fun j hj hji => ?_, rfl⟩ _ _)
    by_cases e2 : j = i
    ·subst e2; exact ⟨h1.1, hc⟩
    ·exact hinv j hj (by omega)
   refine CondP.mk (fun hi0 => ?_) fun hi0 => ?_
   ·have hi0 := of_decide_eq_true hi0
    obtain ⟨k, rfl⟩ : ∃ k, i = k + 1 := ⟨i - 1, by omega⟩
    obtain ⟨p2, hp2, c1⟩ := cell_rw hr (show k < ids.length by omega) rfl
    refine Ar.nat k (by omega) (by omega) (NilC.mk p2 hp2 ⟨by omega, by omega, _, c1, ?_⟩)
    refine (fHas_spec w2 f g s T h _ _).mono ?_
    rintro e w3 ⟨rfl, rfl⟩
    have hk := hinv k (by omega) (by omega)
    have htk2 : ids.take (k + 1) = ids.take k ++ [ids[k]] := by rw [List.take_add_one, List.getElem?_eq_getElem (by omega)]; rfl
    have hh : ∀ t ∈ ids.take k ++ [ids[k]], (vocOf s T).Has t := by
     intro t ht
     rw [← htk2] at ht
     obtain ⟨j, hj, rfl⟩ := List.mem_take_iff_getElem.1 ht
     exact (hinv j (by omega) (by omega)).1
    have hc2 := hk.2
    rw [htk2] at hc2
    have m1 := Voc.canon_more hV hh hc2 h1.1
    have m2 : (vocOf s T).Canon [ids[k], ids[k + 1]] ↔ (vocOf s T).Canon [ids[k + 1]] ∧ (vocOf s T).Pair ids[k] ids[k + 1] := Voc.canon_more hV (init := []) (l := ids[k]) (t := ids[k + 1]) (fun x hx => by rw [List.nil_append, List.mem_singleton] at hx; rw [hx]; exact hk.1) (Voc.canon_append hV hh hc2).2 h1.1
    refine ⟨_, rfl, CondP.mk (fun h2 => ?_) fun h2 => ?_⟩
    ·refine ⟨some (k + 1), rfl, ⟨fun j hj hji => hinv j hj hji, hi, fun e => ?_⟩, rfl⟩
     have e2 := e.2
     rw [htk, htk2] at e2
     rw [(hpr _ _).2 ⟨⟨hk.1, h1.1⟩, m2.2 (m1.1 e2)⟩] at h2
     cases h2
    ·have h3 := (hpr _ _).1 (by simpa using h2)
     exact next (by rw [htk, htk2]; exact m1.2 (m2.1 h3.2))
   ·have hi0 := of_decide_eq_false hi0
    obtain rfl : i = 0 := by omega
    refine next ?_
    rw [htk, List.take_zero, List.nil_append]
    exact h1.2
 ·rintro q ⟨hinv, rfl⟩ y5 y4
  exact hI _ _ _ _ (CondP.no (by simp) ⟨none, rfl, fun j hj => hinv j hj hj, rfl⟩)
abbrev V0 : Voc := vocOf sAw tAw
theorem aw_items (t : Int) : V0.items t = V0.ex t := rfl
theorem firsts_sub {κ κ' : Type} [DecidableEq κ] [DecidableEq κ'] {k : Nat → κ} {k' : Nat → κ'} : ∀ {N : Nat}, (∀ i j, i < N → j < N → k' i = k' j → k i = k j) → (firsts k N).Sublist (firsts k' N)
 | 0, _ => List.Sublist.refl _
 | N + 1, h => by
  have ih := firsts_sub (N := N) fun i j hi hj => h i j (by omega) (by omega)
  rcases firsts_step (k := k) N with ⟨c, _, h2, _, _⟩ | ⟨_, h2, _, h4⟩
  ·rw [h2]
   rcases firsts_step (k := k') N with ⟨c', _, g2, _, _⟩ | ⟨_, g2, _, _⟩
   ·rw [g2]; exact ih
   ·rw [g2]; exact ih.trans (List.sublist_append_left _ _)
  ·rw [h2]
   rcases firsts_step (k := k') N with ⟨c', _, g2, _, hc, e⟩ | ⟨_, g2, _, _⟩
   ·exfalso
    have hm := List.getElem_mem hc
    have hl := firsts_lt hm
    obtain ⟨q1, q2⟩ := cls_in (k := k) hl
    exact h4 _ (List.getElem_mem q1) (q2.trans (h _ _ (by omega) (by omega) e))
   ·rw [g2]; exact ih.append (List.Sublist.refl _)
theorem firsts_le {κ : Type} [DecidableEq κ] (k : Nat → κ) : ∀ i, (firsts k i).length ≤ i
 | 0 => Nat.le_refl _
 | i + 1 => by
  have h1 := cls_next (k := k) i
  have h2 := firsts_le k i
  omega
theorem same_kernel {κ κ' : Type} [DecidableEq κ] [DecidableEq κ'] {k : Nat → κ} {k' : Nat → κ'} {N : Nat} (h : ∀ i j, i < N → j < N → k' i = k' j → k i = k j) (hl : (firsts k' N).length = (firsts k N).length) {i j : Nat} (hi : i < N) (hj : j < N) : k i = k j → k' i = k' j := by
 have e := (firsts_sub h).eq_of_length hl.symm
 intro hk
 obtain ⟨i1, i2⟩ := cls_in (k := k') hi
 obtain ⟨j1, j2⟩ := cls_in (k := k') hj
 have mi := firsts_lt (List.getElem_mem i1)
 have mj := firsts_lt (List.getElem_mem j1)
 have ki := h _ _ mi hi i2
 have kj := h _ _ mj hj j2
 have : clsOf k' i = clsOf k' j := firsts_inj (k := k) _ _ (by rw [e]; exact i1) (by rw [e]; exact j1) (by simp only [e]; rw [ki, kj, hk])
 rw [← i2, ← j2]
 simp only [this]
def num2 (x : Nat) : List UInt8 := [UInt8.ofNat x, UInt8.ofNat (x / 256)]
theorem num2_inj {x y : Nat} (hx : x < 65536) (hy : y < 65536) (h : num2 x = num2 y) : x = y := by
 unfold num2 at h
 simp only [List.cons.injEq, and_true] at h
 have a := congrArg UInt8.toNat h.1
 have b := congrArg UInt8.toNat h.2
 simp only [UInt8.toNat_ofNat'] at a b
 omega
theorem nums_inj : ∀ {l m : List Nat}, l.length = m.length → (∀ x ∈ l, x < 65536) → (∀ x ∈ m, x < 65536) → l.flatMap num2 = m.flatMap num2 → l = m
 | [], [], _, _, _, _ => rfl
 | x :: l, y :: m, hl, h1, h2, h => by
  have e : num2 x ++ l.flatMap num2 = num2 y ++ m.flatMap num2 := h
  have := List.append_inj e rfl
  rw [num2_inj (h1 x List.mem_cons_self) (h2 y List.mem_cons_self) this.1, nums_inj (by simpa using hl) (fun z hz => h1 z (List.mem_cons_of_mem _ hz)) (fun z hz => h2 z (List.mem_cons_of_mem _ hz)) this.2]
structure Aut where
 N : Nat
 n : Nat
 nxt : Nat → Nat → Nat
 good : Nat → Bool
structure Aut.Ok (M : Aut) : Prop where
 lt : ∀ i k, i < M.N → k < M.n → M.nxt i k < M.N
 pos : 0 < M.N
 few : M.N ≤ 60000
namespace Aut
variable (M : Aut)
def keyT (of : Nat → Nat) (i : Nat) : List UInt8 := num2 (of i) ++ ((List.range M.n).map fun k => of (M.nxt i k)).flatMap num2
def ofR : Nat → Nat → Nat
 | 0 => clsOf M.good
 | r + 1 => clsOf (M.keyT (ofR r))
def cntR : Nat → Nat
 | 0 => (firsts M.good M.N).length
 | r + 1 => (firsts (M.keyT (M.ofR r)) M.N).length
variable {M}
theorem keyT_iff {of : Nat → Nat} (h : ∀ i, i < M.N → of i < 65536) (hM : M.Ok) {i j : Nat} (hi : i < M.N) (hj : j < M.N) : M.keyT of i = M.keyT of j ↔ of i = of j ∧ ∀ k, k < M.n → of (M.nxt i k) = of (M.nxt j k) := by
 constructor
 ·intro e
  have e : num2 (of i) ++ _ = num2 (of j) ++ _ := e
  have := List.append_inj e rfl
  refine ⟨num2_inj (h i hi) (h j hj) this.1, fun k hk => ?_⟩
  have l := nums_inj (by simp) (by intro x hx; obtain ⟨k, hk, rfl⟩ := List.mem_map.1 hx; exact h _ (hM.lt _ _ hi (List.mem_range.1 hk))) (by intro x hx; obtain ⟨k, hk, rfl⟩ := List.mem_map.1 hx; exact h _ (hM.lt _ _ hj (List.mem_range.1 hk))) this.2
  have := congrArg (fun l => l[k]?) l
  simpa [List.getElem?_range hk] using this
 ·rintro ⟨h1, h2⟩
  unfold keyT
  rw [h1]
  congr 2
  apply List.map_congr_left
  intro k hk
  exact h2 k (List.mem_range.1 hk)
theorem cls_lt {κ : Type} [DecidableEq κ] (k : Nat → κ) (i : Nat) : clsOf k i ≤ i := Nat.le_trans (cls_next (k := k) i).1 (firsts_le k i)
theorem ofR_lt (hM : M.Ok) (r : Nat) {i : Nat} (hi : i < M.N) : M.ofR r i < 60000 := by
 have := hM.few
 cases r with
 | zero => have := cls_lt M.good i; unfold ofR; omega
 | succ r => have := cls_lt (M.keyT (M.ofR r)) i; unfold ofR; omega
theorem ofR_iff (hM : M.Ok) (r : Nat) {i j : Nat} (hi : i < M.N) (hj : j < M.N) : M.ofR (r + 1) i = M.ofR (r + 1) j ↔ M.ofR r i = M.ofR r j ∧ ∀ k, k < M.n → M.ofR r (M.nxt i k) = M.ofR r (M.nxt j k) := by
 rw [← keyT_iff (fun i hi => by have := ofR_lt hM r hi; omega) hM hi hj]
 exact cls_iff hi hj
theorem of0_iff {i j : Nat} (hi : i < M.N) (hj : j < M.N) : M.ofR 0 i = M.ofR 0 j ↔ M.good i = M.good j := cls_iff hi hj
theorem ofR_good (hM : M.Ok) : ∀ (r : Nat) {i j : Nat} (hi : i < M.N) (hj : j < M.N), M.ofR r i = M.ofR r j → M.good i = M.good j
 | 0, i, j, hi, hj, h => (of0_iff hi hj).1 h
 | r + 1, i, j, hi, hj, h => ofR_good hM r hi hj ((ofR_iff hM r hi hj).1 h).1
theorem cntR_le (r : Nat) : M.cntR r ≤ M.N := by
 cases r with
 | zero => exact firsts_le _ _
 | succ r => exact firsts_le _ _
theorem cntR_key (r : Nat) : ∃ (κ : Type) (_ : DecidableEq κ) (k : Nat → κ), M.ofR r = clsOf k ∧ M.cntR r = (firsts k M.N).length := by
 cases r with
 | zero => exact ⟨Bool, inferInstance, M.good, rfl, rfl⟩
 | succ r => exact ⟨List UInt8, inferInstance, M.keyT (M.ofR r), rfl, rfl⟩
theorem firsts_cls {κ : Type} [DecidableEq κ] {k : Nat → κ} {N : Nat} : (firsts (clsOf k) N) = firsts k N := by
 have sub : ∀ {κ κ' : Type} [DecidableEq κ] [DecidableEq κ'] {k : Nat → κ} {k' : Nat → κ'}, (∀ i j, i < N → j < N → k' i = k' j → k i = k j) → (firsts k N).Sublist (firsts k' N) := fun h => firsts_sub h
 have a := sub (k := clsOf k) (k' := k) fun i j hi hj e => (cls_iff (k := k) hi hj).2 e
 have b := sub (k := k) (k' := clsOf k) fun i j hi hj e => (cls_iff (k := k) hi hj).1 e
 exact a.eq_of_length (Nat.le_antisymm a.length_le b.length_le)
theorem cntR_of (r : Nat) : M.cntR r = (firsts (M.ofR r) M.N).length := by
 obtain ⟨κ, _, k, h1, h2⟩ := cntR_key (M := M) r
 rw [h2, h1, firsts_cls]
theorem cntR_mono (hM : M.Ok) (r : Nat) : M.cntR r ≤ M.cntR (r + 1) := by
 rw [cntR_of, cntR_of]
 exact (firsts_sub fun i j hi hj h => ((ofR_iff hM r hi hj).1 h).1).length_le
theorem ofR_stay (hM : M.Ok) {r : Nat} (h : M.cntR (r + 1) = M.cntR r) {i j : Nat} (hi : i < M.N) (hj : j < M.N) : M.ofR r i = M.ofR r j → M.ofR (r + 1) i = M.ofR (r + 1) j := by
 rw [cntR_of, cntR_of] at h
 exact same_kernel (fun i j hi hj h => ((ofR_iff hM r hi hj).1 h).1) h hi hj
structure Bis (M : Aut) (R : Nat → Nat → Prop) : Prop where
 good : ∀ i j, i < M.N → j < M.N → R i j → M.good i = M.good j
 next : ∀ i j k, i < M.N → j < M.N → k < M.n → R i j → R (M.nxt i k) (M.nxt j k)
theorem ofR_coarse (hM : M.Ok) {R : Nat → Nat → Prop} (hR : Bis M R) : ∀ (r : Nat) {i j : Nat} (hi : i < M.N) (hj : j < M.N), R i j → M.ofR r i = M.ofR r j
 | 0, i, j, hi, hj, h => (of0_iff hi hj).2 (hR.good i j hi hj h)
 | r + 1, i, j, hi, hj, h => (ofR_iff hM r hi hj).2 ⟨ofR_coarse hM hR r hi hj h, fun k hk => ofR_coarse hM hR r (hM.lt _ _ hi hk) (hM.lt _ _ hj hk) (hR.next i j k hi hj hk h)⟩
structure Cls (M : Aut) (of : Nat → Nat) : Prop where
 lt : ∀ i, i < M.N → of i < M.N
 bis : Bis M fun i j => of i = of j
 coarse : ∀ R, Bis M R → ∀ i j, i < M.N → j < M.N → R i j → of i = of j
theorem cls_done (hM : M.Ok) {r : Nat} (h : M.cntR (r + 1) = M.cntR r) : Cls M (M.ofR (r + 1)) := by
 refine ⟨fun i hi => Nat.lt_of_le_of_lt (cls_lt _ _) hi, ⟨fun i j hi hj e => ofR_good hM _ hi hj e, fun i j k hi hj hk e => ?_⟩, fun R hR i j hi hj e => ofR_coarse hM hR _ hi hj e⟩
 exact ofR_stay hM h (hM.lt _ _ hi hk) (hM.lt _ _ hj hk) (((ofR_iff hM r hi hj).1 e).2 k hk)
def visit (of : Nat → Nat) (l : List Nat) (x : Nat) : List Nat := if of x ∈ l.map of then l else l ++ [x]
def scan (M : Aut) (of : Nat → Nat) (l : List Nat) (s : Nat) : Nat → List Nat
 | 0 => l
 | k + 1 => visit of (scan M of l s k) (M.nxt s k)
def metF (M : Aut) (of : Nat → Nat) : Nat → List Nat
 | 0 => [0]
 | i + 1 => match (metF M of i)[i]? with
  | some s => scan M of (metF M of i) s M.n
  | none => metF M of i
inductive Reach (M : Aut) : Nat → Prop
 | zero : Reach M 0
 | next {i k : Nat} : Reach M i → k < M.n → Reach M (M.nxt i k)
structure Mid (M : Aut) (of : Nat → Nat) (l : List Nat) : Prop where
 nodup : (l.map of).Nodup
 lt : ∀ x ∈ l, x < M.N
 reach : ∀ x ∈ l, Reach M x
 zero : l[0]? = some 0
theorem visit_pre (of : Nat → Nat) (l : List Nat) (x : Nat) : l <+: visit of l x := by
 unfold visit
 split
 ·exact List.prefix_refl _
 ·exact List.prefix_append _ _
theorem visit_in (of : Nat → Nat) (l : List Nat) (x : Nat) : of x ∈ (visit of l x).map of := by
 unfold visit
 split
 ·assumption
 ·simp
theorem Mid.visit {of : Nat → Nat} {l : List Nat} (h : Mid M of l) {x : Nat} (hx : x < M.N) (hr : Reach M x) : Mid M of (visit of l x) := by
 unfold Aut.visit
 split
 ·exact h
 ·next hn =>
  refine ⟨?_, ?_, ?_, ?_⟩
  ·rw [List.map_append, List.nodup_append]
   refine ⟨h.nodup, by simp, ?_⟩
   intro a ha b hb e
   simp at hb
   subst hb
   subst e
   exact hn ha
  ·intro y hy
   rcases List.mem_append.1 hy with hy | hy
   ·exact h.lt y hy
   ·rw [List.mem_singleton.1 hy]; exact hx
  ·intro y hy
   rcases List.mem_append.1 hy with hy | hy
   ·exact h.reach y hy
   ·rw [List.mem_singleton.1 hy]; exact hr
  ·have := h.zero
   have hl := (List.getElem?_eq_some_iff.1 this).1
   rw [List.getElem?_append_left hl]
   exact this
theorem scan_pre (of : Nat → Nat) (l : List Nat) (s : Nat) : ∀ k, l <+: scan M of l s k
 | 0 => List.prefix_refl _
 | k + 1 => (scan_pre of l s k).trans (visit_pre _ _ _)
theorem scan_mono (of : Nat → Nat) (l : List Nat) (s k : Nat) : ∀ d, scan M of l s k <+: scan M of l s (k + d)
 | 0 => List.prefix_refl _
 | d + 1 => (scan_mono of l s k d).trans (visit_pre _ _ _)
theorem pre_map {of : Nat → Nat} {l m : List Nat} (h : l <+: m) {x : Nat} (hx : x ∈ l.map of) : x ∈ m.map of := by
 obtain ⟨t, rfl⟩ := h
 rw [List.map_append]
 exact List.mem_append_left _ hx
theorem scan_hit (of : Nat → Nat) (l : List Nat) (s : Nat) {k n : Nat} (hk : k < n) : of (M.nxt s k) ∈ (scan M of l s n).map of := by
 have := scan_mono (M := M) of l s (k + 1) (n - (k + 1))
 rw [show k + 1 + (n - (k + 1)) = n by omega] at this
 exact pre_map this (visit_in of _ _)
theorem Mid.scan (hM : M.Ok) {of : Nat → Nat} {l : List Nat} (h : Mid M of l) {s : Nat} (hs : s ∈ l) : ∀ {k : Nat}, k ≤ M.n → Mid M of (scan M of l s k)
 | 0, _ => h
 | k + 1, hk => (Mid.scan hM h hs (k := k) (by omega)).visit (hM.lt _ _ (h.lt s hs) (by omega)) (.next (h.reach s hs) (by omega))
theorem metF_pre (of : Nat → Nat) (i : Nat) : metF M of i <+: metF M of (i + 1) := by
 rw [metF]
 split
 ·exact scan_pre _ _ _ _
 ·exact List.prefix_refl _
theorem metF_mid (hM : M.Ok) (of : Nat → Nat) : ∀ i, Mid M of (metF M of i)
 | 0 => ⟨by simp [metF], by intro x hx; simp [metF] at hx; subst hx; exact hM.pos, by intro x hx; simp [metF] at hx; subst hx; exact .zero, rfl⟩
 | i + 1 => by
  rw [metF]
  split
  ·next s hs => exact (metF_mid hM of i).scan hM (List.mem_of_getElem? hs) (Nat.le_refl _)
  ·exact metF_mid hM of i
theorem metF_in (of : Nat → Nat) : ∀ {i j s : Nat}, j < i → (metF M of i)[j]? = some s → ∀ {k}, k < M.n → of (M.nxt s k) ∈ (metF M of i).map of
 | 0, _, _, h, _, _, _ => absurd h (Nat.not_lt_zero _)
 | i + 1, j, s, hj, hs, k, hk => by
  by_cases e : j < (metF M of i).length
  ·have hs' : (metF M of i)[j]? = some s := by
    obtain ⟨t, ht⟩ := metF_pre (M := M) of i
    rw [← ht, List.getElem?_append_left e] at hs
    exact hs
   by_cases ej : j = i
   ·subst ej
    rw [metF, hs']
    exact scan_hit of _ _ hk
   ·exact pre_map (metF_pre of i) (metF_in of (by omega) hs' hk)
  ·have hn : (metF M of i)[i]? = none := List.getElem?_eq_none_iff.2 (by omega)
   have : metF M of (i + 1) = metF M of i := by rw [metF, hn]
   rw [this] at hs
   have := (List.getElem?_eq_some_iff.1 hs).1
   omega
theorem metF_end (of : Nat → Nat) {i : Nat} (h : (metF M of i).length ≤ i) : ∀ d, metF M of (i + d) = metF M of i
 | 0 => rfl
 | d + 1 => by
  have ih := metF_end of h d
  rw [← Nat.add_assoc, metF, ih, List.getElem?_eq_none_iff.2 (by omega)]
end Aut
theorem nodup_le {α : Type} [DecidableEq α] : ∀ {l m : List α}, l.Nodup → (∀ x ∈ l, x ∈ m) → l.length ≤ m.length
 | [], _, _, _ => Nat.zero_le _
 | x :: l, m, h, hs => by
  have hx := hs x List.mem_cons_self
  have h' := List.nodup_cons.1 h
  have := nodup_le (l := l) (m := m.erase x) h'.2 fun y hy => by
   have : y ≠ x := fun e => h'.1 (e ▸ hy)
   exact (List.mem_erase_of_ne this).2 (hs y (List.mem_cons_of_mem _ hy))
  rw [List.length_erase_of_mem hx] at this
  have := List.length_pos_of_mem hx
  rw [List.length_cons]
  omega
namespace Aut
variable {M : Aut}
def metL (M : Aut) (of : Nat → Nat) : List Nat := metF M of M.N
theorem met_few (hM : M.Ok) {of : Nat → Nat} (h : ∀ i, i < M.N → of i < M.N) (i : Nat) : (metF M of i).length ≤ M.N := by
 have m := metF_mid hM of i
 have := nodup_le (m := List.range M.N) m.nodup fun x hx => by
  obtain ⟨y, hy, rfl⟩ := List.mem_map.1 hx
  exact List.mem_range.2 (h y (m.lt y hy))
 simpa using this
theorem met_done (hM : M.Ok) {of : Nat → Nat} (h : ∀ i, i < M.N → of i < M.N) {i : Nat} (hi : (metF M of i).length ≤ i) : metF M of i = metL M of := by
 unfold metL
 by_cases e : i ≤ M.N
 ·have := metF_end (M := M) of hi (M.N - i)
  rw [show i + (M.N - i) = M.N by omega] at this
  exact this.symm
 ·have := metF_end (M := M) of (met_few hM h M.N) (i - M.N)
  rw [show M.N + (i - M.N) = i by omega] at this
  exact this
theorem met_mid (hM : M.Ok) (of : Nat → Nat) : Mid M of (metL M of) := metF_mid hM of _
theorem met_in (hM : M.Ok) {of : Nat → Nat} (h : ∀ i, i < M.N → of i < M.N) {j s : Nat} (hs : (metL M of)[j]? = some s) {k : Nat} (hk : k < M.n) : of (M.nxt s k) ∈ (metL M of).map of := by
 have := met_few hM h M.N
 have hl := (List.getElem?_eq_some_iff.1 hs).1
 exact metF_in of (by unfold metL at hl; omega) hs hk
theorem met_pos (hM : M.Ok) (of : Nat → Nat) : 0 < (metL M of).length := (List.getElem?_eq_some_iff.1 (met_mid hM of).zero).1
def least (M : Aut) (of : Nat → Nat) : Aut where
 N := (metL M of).length
 n := M.n
 nxt p k := ((metL M of).map of).idxOf (of (M.nxt ((metL M of).getD p 0) k))
 good p := M.good ((metL M of).getD p 0)
theorem getD_at {l : List Nat} {p : Nat} (hp : p < l.length) : l.getD p 0 = l[p] := by simp [List.getD, hp]
theorem least_ok (hM : M.Ok) {of : Nat → Nat} (h : ∀ i, i < M.N → of i < M.N) : (least M of).Ok := by
 refine ⟨fun p k hp hk => ?_, met_pos hM of, Nat.le_trans (met_few hM h _) hM.few⟩
 change p < (metL M of).length at hp
 change k < M.n at hk
 show ((metL M of).map of).idxOf _ < (metL M of).length
 rw [getD_at hp]
 have := List.idxOf_lt_length_of_mem (met_in hM h (List.getElem?_eq_getElem hp) hk)
 rwa [List.length_map] at this
theorem least_at (hM : M.Ok) {of : Nat → Nat} (h : ∀ i, i < M.N → of i < M.N) {p k : Nat} (hp : p < (least M of).N) (hk : k < M.n) : of ((metL M of).getD ((least M of).nxt p k) 0) = of (M.nxt ((metL M of).getD p 0) k) := by
 have hlt := (least_ok hM h).lt p k hp hk
 change p < (metL M of).length at hp
 have hm := met_in hM h (List.getElem?_eq_getElem hp) hk
 rw [getD_at hlt]
 have e : ((metL M of).map of)[((metL M of).map of).idxOf (of (M.nxt (metL M of)[p] k))]'(List.idxOf_lt_length_of_mem hm) = of (M.nxt (metL M of)[p] k) := List.getElem_idxOf _
 rw [List.getElem_map] at e
 show of ((metL M of)[((metL M of).map of).idxOf (of (M.nxt ((metL M of).getD p 0) k))]) = _
 simp only [getD_at hp]
 exact e
structure Sim (M : Aut) (of : Nat → Nat) (x p : Nat) : Prop where
 hx : x < M.N
 hp : p < (least M of).N
 e : of x = of ((metL M of).getD p 0)
theorem getD_lt (hM : M.Ok) (of : Nat → Nat) {p : Nat} (hp : p < (metL M of).length) : (metL M of).getD p 0 < M.N := by
 rw [getD_at hp]
 exact (met_mid hM of).lt _ (List.getElem_mem hp)
theorem Sim.good {of : Nat → Nat} {x p : Nat} (h : Sim M of x p) (hM : M.Ok) (hc : Cls M of) : (least M of).good p = M.good x := (hc.bis.good _ _ h.hx (getD_lt hM of h.hp) h.e).symm
theorem Sim.next {of : Nat → Nat} {x p : Nat} (h : Sim M of x p) (hM : M.Ok) (hc : Cls M of) {k : Nat} (hk : k < M.n) : Sim M of (M.nxt x k) ((least M of).nxt p k) :=
 ⟨hM.lt _ _ h.hx hk, (least_ok hM hc.lt).lt _ _ h.hp hk, by rw [least_at hM hc.lt h.hp hk]; exact hc.bis.next _ _ _ h.hx (getD_lt hM of h.hp) hk h.e⟩
theorem Sim.zero (hM : M.Ok) (of : Nat → Nat) : Sim M of 0 0 := ⟨hM.pos, met_pos hM of, by
 have := (met_mid hM of).zero
 rw [List.getD, this]
 rfl⟩
end Aut
def mayA (n : Nat) (al : Nat → Bool) (rel : Nat → Nat → Bool) (i k : Nat) : Bool := if i = 0 then al k else if i ≤ n then rel (i - 1) k else false
def lastA (n : Nat) (al : Nat → Bool) (rel : Nat → Nat → Bool) : Aut where
 N := n + 2
 n := n
 nxt i k := if mayA n al rel i k then k + 1 else n + 1
 good i := decide (i ≤ n)
section
variable {n : Nat} {al : Nat → Bool} {rel : Nat → Nat → Bool}
open Aut
theorem last_ok (hn : n ≤ 50000) : (lastA n al rel).Ok := ⟨fun i k hi hk => by
 change i < n + 2 at hi
 change k < n at hk
 show (if mayA n al rel i k then k + 1 else n + 1) < n + 2
 split <;> omega, by show 0 < n + 2; omega, by show n + 2 ≤ 60000; omega⟩
end
def vc14 (a : OA) (b c : Nat) (d : OA) (f g : Nat) (h : OA) (i j : Nat) (k : OA) (l m : Nat) (n : OA) (o p : Nat) (w : World) (R : RW) : Prop :=
 ∀ q, q = w.alloc (.cells #[slice a b c, slice d f g, slice h i j, slice k l m] 27) →
 ∃ r s t u x y z a1 b1 c1 d1 e1, (q.cell? (nb w) = some (slice r s t) ∧ q.cell? ((nb w).add 1) = some (slice u x y) ∧ q.cell? ((nb w).add 2) = some (slice z a1 b1) ∧ q.cell? ((nb w).add 3) = some (slice c1 d1 e1) ∧ True) ∧
 CP 15 #[agg #[slice r s t, slice u x y, slice z a1 b1, slice c1 d1 e1]] q (fun f1 g1 =>
 ∃ h1, f1 = .returned (int .i64 h1) ∧
 CondP (decide (h1 > 0))
 (CP 16 #[] g1 (fun i1 j1 =>
 ∃ k1, i1 = .returned (bool k1) ∧
 R (bool k1) j1))
 (CondP (decide ((o : Int) > 100))
 (CP 16 #[] g1 (fun l1 m1 =>
 ∃ n1, l1 = .returned (bool n1) ∧
 R (bool n1) m1))
 (CP 16 #[] g1 (fun o1 p1 =>
 ∃ q1, o1 = .returned (bool q1) ∧
 CondP (!q1)
 (CP 16 #[] p1 (fun r1 s1 =>
 ∃ t1, r1 = .returned (bool t1) ∧
 R (bool t1) s1))
 (∃ u1 v1 x1 y1 z1 a2 b2 c2 d2 e2 f2 g2, (p1.cell? (nb w) = some (slice u1 v1 x1) ∧ p1.cell? ((nb w).add 1) = some (slice y1 z1 a2) ∧ p1.cell? ((nb w).add 2) = some (slice b2 c2 d2) ∧ p1.cell? ((nb w).add 3) = some (slice e2 f2 g2) ∧ True) ∧
 CP 17 #[agg #[slice u1 v1 x1, slice y1 z1 a2, slice b2 c2 d2, slice e2 f2 g2]] p1 (fun h2 i2 =>
 ∃ j2 k2 l2 m2 n2 o2 p2 q2 r2 s2 t2 u2 v2 x2 y2 z2, h2 = .returned (tuple #[pointer j2, agg #[slice k2 l2 m2, slice n2 o2 p2, slice q2 r2 s2, slice t2 u2 v2, slice x2 y2 z2]]) ∧
 ∀ a3, a3 = i2.alloc (.cells #[slice none 0 0, slice none 0 0, slice none 0 0, slice none 0 0, slice none 0 0] 39) →
 StoreP a3 (nb i2) (fun b3 =>
 CP 61 #[pointer j2, int .i64 1048576] b3 (fun c3 d3 =>
 ∃ e3 f3, c3 = .returned (tuple #[pointer e3, int .i64 f3]) ∧
 CP 42 #[pointer e3, int .i64 1048576] d3 (fun g3 h3 =>
 ∃ i3 j3, g3 = .returned (tuple #[pointer i3, int .i64 j3]) ∧
 CondP (f3 != 0)
 (R (bool false) h3)
 (CondP (j3 != 0)
 (R (bool false) h3)
 (CP 18 #[pointer j2, slice n o p] h3 (fun k3 l3 =>
 ∃ m3 n3, k3 = .returned (tuple #[int .i64 m3, int .i64 n3]) ∧
 CP 62 #[pointer j2, iface 48 (pointer e3), slice n o p] l3 (fun o3 p3 =>
 ∃ q3 r3, o3 = .returned (tuple #[int .i64 q3, int .i64 r3]) ∧
 CP 37 #[pointer e3] p3 (fun s3 t3 =>
 ∃ u3, s3 = .returned (pointer u3) ∧
 CP 62 #[pointer j2, iface 49 (pointer u3), slice n o p] t3 (fun v3 x3 =>
 ∃ y3 z3, v3 = .returned (tuple #[int .i64 y3, int .i64 z3]) ∧
 CP 62 #[pointer j2, iface 62 (pointer i3), slice n o p] x3 (fun a4 b4 =>
 ∃ c4 d4, a4 = .returned (tuple #[int .i64 c4, int .i64 d4]) ∧
 CP 46 #[pointer i3] b4 (fun e4 f4 =>
 ∃ g4, e4 = .returned (pointer g4) ∧
 CP 62 #[pointer j2, iface 62 (pointer g4), slice n o p] f4 (fun h4 i4 =>
 ∃ j4 k4, h4 = .returned (tuple #[int .i64 j4, int .i64 k4]) ∧
 CP 62 #[pointer j2, Value.nilIface, slice none 0 0] i4 (fun l4 m4 =>
 ∃ n4 o4, l4 = .returned (tuple #[int .i64 n4, int .i64 o4]) ∧
 CondP (q3 == m3)
 (CondP (r3 == n3)
 (CondP (y3 == m3)
 (CondP (z3 == n3)
 (CondP (c4 == m3)
 (CondP (d4 == n3)
 (CondP (j4 == m3)
 (CondP (k4 == n3)
 (R (bool (o4 == 1)) m4)
 (R (bool false) m4))
 (R (bool false) m4))
 (R (bool false) m4))
 (R (bool false) m4))
 (R (bool false) m4))
 (R (bool false) m4))
 (R (bool false) m4))
 (R (bool false) m4)))))))))))))) [slice k2 l2 m2, slice n2 o2 p2, slice q2 r2 s2, slice t2 u2 v2, slice x2 y2 z2] 0))))))
theorem vc14_calls (a : OA) (b c : Nat) (d : OA) (f g : Nat) (h : OA) (i j : Nat) (k : OA) (l m : Nat) (n : OA) (o p : Nat) (w : World) (R : RW) (hh : vc14 a b c d f g h i j k l m n o p w R) : CR 14 #[agg #[slice a b c, slice d f g, slice h i j, slice k l m], slice n o p] w R :=
 cden (fn := Tryz.f14) (by kernel_rfl) (by kernel_rfl) (by kernel_rfl) (by kernel_rfl) (by kernel_rfl) hh
def vc42 (a : OA) (b : Int) (w : World) (R : RW) : Prop :=
 ∀ c, c = w.alloc (.cells #[pointer a] 48) →
 ∃ d, c.cell? (nb w) = some (pointer d) ∧
 CP 24 #[pointer d] c (fun f g =>
 ∃ h, f = .returned (int .i64 h) ∧
 ∃ i, g.cell? (nb w) = some (pointer i) ∧
 CondP (Option.isNone i)
 (R (tuple #[pointer none, int .i64 1]) g)
 (Ar .i64 (h + 2) (fun j =>
 Ar .i64 (j * h) (fun k =>
 CondP (decide (k > b))
 (R (tuple #[pointer none, int .i64 5]) g)
 (∃ l, g.cell? (nb w) = some (pointer l) ∧
 ∀ m, m = g.alloc (.cells #[pointer l, slice none 0 0, slice none 0 0, int .u32 0, int .i32 0, int .u32 0, slice none 0 0] 136) →
 Ar .i64 (h + 1) (fun n =>
 ∀ o, o = m.alloc (.cells #[Value.nilFunc] 137) →
 (func (.func 77) #[] #[pointer (some (nb w))]).oneCell' = true ∧ (∃ u, o.cell? (nb m) = some u) ∧ o.frozen? (nb m) = false ∧
 ∀ p, p = (o.setCell (nb m) (func (.func 77) #[] #[pointer (some (nb w))])) →
 ∀ q, q = p.drew →
 ∃ r s t, q.cell? ((nb g).add 1) = some (slice r s t) ∧
 CP 78 #[int .i64 h, int .i64 n, func (.func 79) #[] #[pointer (some (nb w)), pointer (some (nb m))]] q (fun x y =>
 ∃ z a1 b1, x = .returned (slice z a1 b1) ∧
 (y.cell? ((nb g).add 1) = some (slice r s t) ∧ True) ∧
 ∀ c1, c1 = y.alloc (.cells #[slice z a1 b1] 28) →
 (c1.cell? ((nb g).add 1) = some (slice r s t) ∧ True) ∧
 ∃ d1 e1 f1 g1, (Builtin.append_ #[120, 120] 120 #[slice r s t, slice (some (nb y)) 1 1]).run Tryz.prog c1 = .ok (slice d1 e1 f1) g1 ∧
 (slice d1 e1 f1).oneCell' = true ∧ (∃ u, g1.cell? ((nb g).add 1) = some u) ∧ g1.frozen? ((nb g).add 1) = false ∧
 ∀ h1, h1 = (g1.setCell ((nb g).add 1) (slice d1 e1 f1)) →
 ∀ i1 : KW, (∀ (j1 : Int) (k1 : World), (CondP (decide (j1 < h))
 (∀ l1, l1 = k1.drew →
 ∃ m1, l1.cell? (nb w) = some (pointer m1) ∧
 ∃ n1, l1.cell? (nb m) = some (n1) ∧
 (CallG ctx n1 [int .i64 j1] l1 (fun o1 p1 =>
 ∃ q1, o1 = .returned (int .i64 q1) ∧
 (p1.cell? (nb w) = some (pointer m1) ∧ True) ∧
 (CP 31 #[pointer m1, int .i64 q1] p1 (fun r1 s1 =>
 ∃ t1 u1 v1, r1 = .returned (slice t1 u1 v1) ∧
 ∀ x1, x1 = s1.alloc (.cells #[slice none 0 0] 55) →
 (slice t1 u1 v1).oneCell' = true ∧ (∃ u, x1.cell? (nb s1) = some u) ∧ x1.frozen? (nb s1) = false ∧
 ∀ y1, y1 = (x1.setCell (nb s1) (slice t1 u1 v1)) →
 ∀ z1, z1 = y1.drew →
 ∃ a2 b2 c2, z1.cell? ((nb g).add 1) = some (slice a2 b2 c2) ∧
 CP 78 #[int .i64 h, int .i64 n, func (.func 80) #[] #[pointer (some (nb s1))]] z1 (fun d2 e2 =>
 ∃ f2 g2 h2, d2 = .returned (slice f2 g2 h2) ∧
 (e2.cell? ((nb g).add 1) = some (slice a2 b2 c2) ∧ True) ∧
 ∀ i2, i2 = e2.alloc (.cells #[slice f2 g2 h2] 28) →
 (i2.cell? ((nb g).add 1) = some (slice a2 b2 c2) ∧ True) ∧
 ∃ j2 k2 l2 m2, (Builtin.append_ #[120, 120] 120 #[slice a2 b2 c2, slice (some (nb e2)) 1 1]).run Tryz.prog i2 = .ok (slice j2 k2 l2) m2 ∧
 (slice j2 k2 l2).oneCell' = true ∧ (∃ u, m2.cell? ((nb g).add 1) = some u) ∧ m2.frozen? ((nb g).add 1) = false ∧
 ∀ n2, n2 = (m2.setCell ((nb g).add 1) (slice j2 k2 l2)) →
 Ar .i64 (j1 + 1) (fun o2 =>
 i1 [int .i64 o2] n2)))) ∧
 (∀ p2, p2 = p1.alloc (.cells #[slice none 0 0] 55) →
 (p2.cell? (nb w) = some (pointer m1) ∧ True) ∧
 CP 31 #[pointer m1, int .i64 q1] p2 (fun q2 r2 =>
 ∃ s2 t2 u2, q2 = .returned (slice s2 t2 u2) ∧
 (slice s2 t2 u2).oneCell' = true ∧ (∃ u, r2.cell? (nb p1) = some u) ∧ r2.frozen? (nb p1) = false ∧
 ∀ v2, v2 = (r2.setCell (nb p1) (slice s2 t2 u2)) →
 ∀ x2, x2 = v2.drew →
 ∃ y2 z2 a3, x2.cell? ((nb g).add 1) = some (slice y2 z2 a3) ∧
 CP 78 #[int .i64 h, int .i64 n, func (.func 80) #[] #[pointer (some (nb p1))]] x2 (fun b3 c3 =>
 ∃ d3 e3 f3, b3 = .returned (slice d3 e3 f3) ∧
 (c3.cell? ((nb g).add 1) = some (slice y2 z2 a3) ∧ True) ∧
 ∀ g3, g3 = c3.alloc (.cells #[slice d3 e3 f3] 28) →
 (g3.cell? ((nb g).add 1) = some (slice y2 z2 a3) ∧ True) ∧
 ∃ h3 i3 j3 k3, (Builtin.append_ #[120, 120] 120 #[slice y2 z2 a3, slice (some (nb c3)) 1 1]).run Tryz.prog g3 = .ok (slice h3 i3 j3) k3 ∧
 (slice h3 i3 j3).oneCell' = true ∧ (∃ u, k3.cell? ((nb g).add 1) = some u) ∧ k3.frozen? ((nb g).add 1) = false ∧
 ∀ l3, l3 = (k3.setCell ((nb g).add 1) (slice h3 i3 j3)) →
 Ar .i64 (j1 + 1) (fun m3 =>
 i1 [int .i64 m3] l3)))))) ∧
 (∀ n3, n3 = l1.alloc (.cells #[slice none 0 0] 55) →
 (n3.cell? (nb m) = some (n1) ∧ True) ∧
 (n3.cell? (nb w) = some (pointer m1) ∧ True) ∧
 CallG ctx n1 [int .i64 j1] n3 (fun o3 p3 =>
 ∃ q3, o3 = .returned (int .i64 q3) ∧
 (p3.cell? (nb w) = some (pointer m1) ∧ True) ∧
 CP 31 #[pointer m1, int .i64 q3] p3 (fun r3 s3 =>
 ∃ t3 u3 v3, r3 = .returned (slice t3 u3 v3) ∧
 (slice t3 u3 v3).oneCell' = true ∧ (∃ u, s3.cell? (nb l1) = some u) ∧ s3.frozen? (nb l1) = false ∧
 ∀ x3, x3 = (s3.setCell (nb l1) (slice t3 u3 v3)) →
 ∀ y3, y3 = x3.drew →
 ∃ z3 a4 b4, y3.cell? ((nb g).add 1) = some (slice z3 a4 b4) ∧
 CP 78 #[int .i64 h, int .i64 n, func (.func 80) #[] #[pointer (some (nb l1))]] y3 (fun c4 d4 =>
 ∃ e4 f4 g4, c4 = .returned (slice e4 f4 g4) ∧
 (d4.cell? ((nb g).add 1) = some (slice z3 a4 b4) ∧ True) ∧
 ∀ h4, h4 = d4.alloc (.cells #[slice e4 f4 g4] 28) →
 (h4.cell? ((nb g).add 1) = some (slice z3 a4 b4) ∧ True) ∧
 ∃ i4 j4 k4 l4, (Builtin.append_ #[120, 120] 120 #[slice z3 a4 b4, slice (some (nb d4)) 1 1]).run Tryz.prog h4 = .ok (slice i4 j4 k4) l4 ∧
 (slice i4 j4 k4).oneCell' = true ∧ (∃ u, l4.cell? ((nb g).add 1) = some u) ∧ l4.frozen? ((nb g).add 1) = false ∧
 ∀ m4, m4 = (l4.setCell ((nb g).add 1) (slice i4 j4 k4)) →
 Ar .i64 (j1 + 1) (fun n4 =>
 i1 [int .i64 n4] m4))))))
 (∀ o4, o4 = k1.drew →
 ∃ p4 q4 r4, o4.cell? ((nb g).add 1) = some (slice p4 q4 r4) ∧
 CP 78 #[int .i64 h, int .i64 n, func (.func 81) #[] #[]] o4 (fun s4 t4 =>
 ∃ u4 v4 x4, s4 = .returned (slice u4 v4 x4) ∧
 (t4.cell? ((nb g).add 1) = some (slice p4 q4 r4) ∧ True) ∧
 ∀ y4, y4 = t4.alloc (.cells #[slice u4 v4 x4] 28) →
 (y4.cell? ((nb g).add 1) = some (slice p4 q4 r4) ∧ True) ∧
 ∃ z4 a5 b5 c5, (Builtin.append_ #[120, 120] 120 #[slice p4 q4 r4, slice (some (nb t4)) 1 1]).run Tryz.prog y4 = .ok (slice z4 a5 b5) c5 ∧
 (slice z4 a5 b5).oneCell' = true ∧ (∃ u, c5.cell? ((nb g).add 1) = some u) ∧ c5.frozen? ((nb g).add 1) = false ∧
 ∀ d5, d5 = (c5.setCell ((nb g).add 1) (slice z4 a5 b5)) →
 ∀ e5, e5 = d5.alloc (.cells #[bool true] 4) →
 Ar .i64 (h + 2) (fun f5 =>
 CP 82 #[slice (some (nb d5)) 1 1, int .i64 f5] e5 (fun g5 h5 =>
 ∃ i5 j5 k5, g5 = .returned (slice i5 j5 k5) ∧
 (slice i5 j5 k5).oneCell' = true ∧ (∃ u, h5.cell? ((nb g).add 2) = some u) ∧ h5.frozen? ((nb g).add 2) = false ∧
 ∀ l5, l5 = (h5.setCell ((nb g).add 2) (slice i5 j5 k5)) →
 ∃ m5 n5 o5, l5.cell? ((nb g).add 2) = some (slice m5 n5 o5) ∧
 NilC m5 (fun p5 =>
 (0 : Int) ≤ n ∧ n < (n5 : Int) ∧
 (bool false).oneCell' = true ∧ (∃ u, l5.cell? (p5.add (n.toNat * 1)) = some u) ∧ l5.frozen? (p5.add (n.toNat * 1)) = false ∧
 ∀ q5, q5 = (l5.setCell (p5.add (n.toNat * 1)) (bool false)) →
 R (tuple #[pointer (some (nb g)), int .i64 0]) q5)))))) → i1 [int .i64 j1] k1) →
 i1 [int .i64 0] h1)))))))
theorem vc42_calls (a : OA) (b : Int) (w : World) (R : RW) (hh : vc42 a b w R) : CR 42 #[pointer a, int .i64 b] w R :=
 cden (fn := Tryz.f42) (by kernel_rfl) (by kernel_rfl) (by kernel_rfl) (by kernel_rfl) (by kernel_rfl) hh
def vc43 (a : OA) (w : World) (R : RW) : Prop :=
 CondP (Option.isNone a)
 (R (int .i64 0) w)
 (NilC a (fun b =>
 ∃ c d f, w.cell? (b.add 1) = some (slice c d f) ∧
 R (int .i64 (d : Int)) w))
theorem vc43_calls (a : OA) (w : World) (R : RW) (hh : vc43 a w R) : CR 43 #[pointer a] w R :=
 cden (fn := Tryz.f43) (by kernel_rfl) (by kernel_rfl) (by kernel_rfl) (by kernel_rfl) (by kernel_rfl) hh
def vc45 (a : OA) (b c : Int) (w : World) (R : RW) : Prop :=
 CP 75 #[pointer a, int .i64 b] w (fun d f =>
 ∃ g, d = .returned (bool g) ∧
 CondP (!g)
 (R (tuple #[int .i64 0, bool false]) f)
 (NilC a (fun h =>
 ∃ i, f.cell? (h.add 0) = some (pointer i) ∧
 CP 41 #[pointer i, int .i64 c] f (fun j k =>
 ∃ l m, j = .returned (tuple #[int .i64 l, bool m]) ∧
 CondP (!m)
 (R (tuple #[int .i64 0, bool false]) k)
 (NilC a (fun n =>
 ∃ o p q, k.cell? (n.add 1) = some (slice o p q) ∧
 NilC o (fun r =>
 (0 : Int) ≤ b ∧ b < (p : Int) ∧
 ∃ s t u, k.cell? (r.add (b.toNat * 1)) = some (slice s t u) ∧
 NilC s (fun x =>
 (0 : Int) ≤ l ∧ l < (t : Int) ∧
 ∃ y, k.cell? (x.add (l.toNat * 1)) = some (int .i64 y) ∧
 R (tuple #[int .i64 y, bool true]) k))))))))
theorem vc45_calls (a : OA) (b c : Int) (w : World) (R : RW) (hh : vc45 a b c w R) : CR 45 #[pointer a, int .i64 b, int .i64 c] w R :=
 cden (fn := Tryz.f45) (by kernel_rfl) (by kernel_rfl) (by kernel_rfl) (by kernel_rfl) (by kernel_rfl) hh
def vc46 (a : OA) (w : World) (R : RW) : Prop :=
 CondP (Option.isNone a)
 (R (pointer none) w)
 (CP 76 #[pointer a] w (fun b c =>
 ∃ d f g, b = .returned (slice d f g) ∧
 ∀ h, h = c.alloc (.cells #[slice none 0 0] 28) →
 (slice d f g).oneCell' = true ∧ (∃ u, h.cell? (nb c) = some u) ∧ h.frozen? (nb c) = false ∧
 ∀ i, i = (h.setCell (nb c) (slice d f g)) →
 CP 83 #[pointer a, func (.func 84) #[] #[pointer (some (nb c))]] i (fun j k =>
 ∃ l m n o, j = .returned (tuple #[slice l m n, map o]) ∧
 NilC a (fun p =>
 ∃ q, k.cell? (p.add 0) = some (pointer q) ∧
 ∀ r, r = k.alloc (.cells #[pointer q, slice none 0 0, slice none 0 0, int .u32 0, int .i32 0, int .u32 0, slice none 0 0] 136) →
 ∀ s : KW, (∀ (t : Int) (x : World), (CondP (decide (t < (m : Int)))
 (NilC l (fun y =>
 (0 : Int) ≤ t ∧ t < (m : Int) ∧
 ∃ z, x.cell? (y.add (t.toNat * 1)) = some (int .i64 z) ∧
 NilC a (fun a1 =>
 ∃ b1 c1 d1, x.cell? (a1.add 1) = some (slice b1 c1 d1) ∧
 NilC b1 (fun e1 =>
 (0 : Int) ≤ z ∧ z < (c1 : Int) ∧
 ∃ f1 g1 h1, x.cell? (e1.add (z.toNat * 1)) = some (slice f1 g1 h1) ∧
 ∀ i1 : KW, (∀ (j1 : Int) (k1 : OA) (l1 m1 : Nat) (n1 : World), (CondP (decide (j1 < (g1 : Int)))
 (NilC f1 (fun o1 =>
 (0 : Int) ≤ j1 ∧ j1 < (g1 : Int) ∧
 ∃ p1, n1.cell? (o1.add (j1.toNat * 1)) = some (int .i64 p1) ∧
 ∃ q1 r1 s1, n1.cell? (nb c) = some (slice q1 r1 s1) ∧
 NilC q1 (fun t1 =>
 (0 : Int) ≤ p1 ∧ p1 < (r1 : Int) ∧
 ∃ u1, n1.cell? (t1.add (p1.toNat * 1)) = some (int .i64 u1) ∧
 ∃ v1 x1, (Instr.lookup 107 (map o) (int .i64 u1) false).run Tryz.prog n1 = .ok (int .i64 v1) x1 ∧
 ∀ y1, y1 = x1.alloc (.cells #[int .i64 v1] 3) →
 ∃ z1 a2 b2 c2, (Builtin.append_ #[28, 28] 28 #[slice k1 l1 m1, slice (some (nb x1)) 1 1]).run Tryz.prog y1 = .ok (slice z1 a2 b2) c2 ∧
 Ar .i64 (j1 + 1) (fun d2 =>
 i1 [int .i64 d2, slice z1 a2 b2] c2))))
 (∃ e2 f2 g2, n1.cell? ((nb k).add 1) = some (slice e2 f2 g2) ∧
 ∀ h2, h2 = n1.alloc (.cells #[slice k1 l1 m1] 28) →
 ∃ i2 j2 k2 l2, (Builtin.append_ #[120, 120] 120 #[slice e2 f2 g2, slice (some (nb n1)) 1 1]).run Tryz.prog h2 = .ok (slice i2 j2 k2) l2 ∧
 (slice i2 j2 k2).oneCell' = true ∧ (∃ u, l2.cell? ((nb k).add 1) = some u) ∧ l2.frozen? ((nb k).add 1) = false ∧
 ∀ m2, m2 = (l2.setCell ((nb k).add 1) (slice i2 j2 k2)) →
 ∀ n2, n2 = m2.drew →
 ∃ o2 p2 q2, n2.cell? ((nb k).add 2) = some (slice o2 p2 q2) ∧
 NilC a (fun r2 =>
 ∃ s2 t2 u2, n2.cell? (r2.add 2) = some (slice s2 t2 u2) ∧
 NilC s2 (fun v2 =>
 (0 : Int) ≤ z ∧ z < (t2 : Int) ∧
 ∃ x2, n2.cell? (v2.add (z.toNat * 1)) = some (bool x2) ∧
 ∀ y2, y2 = n2.alloc (.cells #[bool x2] 4) →
 (y2.cell? ((nb k).add 2) = some (slice o2 p2 q2) ∧ True) ∧
 ∃ z2 a3 b3 c3, (Builtin.append_ #[72, 72] 72 #[slice o2 p2 q2, slice (some (nb n2)) 1 1]).run Tryz.prog y2 = .ok (slice z2 a3 b3) c3 ∧
 (slice z2 a3 b3).oneCell' = true ∧ (∃ u, c3.cell? ((nb k).add 2) = some u) ∧ c3.frozen? ((nb k).add 2) = false ∧
 ∀ d3, d3 = (c3.setCell ((nb k).add 2) (slice z2 a3 b3)) →
 Ar .i64 (t + 1) (fun e3 =>
 s [int .i64 e3] d3))))) → i1 [int .i64 j1, slice k1 l1 m1] n1) →
 i1 [int .i64 0, slice none 0 0] x))))
 (R (pointer (some (nb k))) x)) → s [int .i64 t] x) →
 s [int .i64 0] r))))
theorem vc46_calls (a : OA) (w : World) (R : RW) (hh : vc46 a w R) : CR 46 #[pointer a] w R :=
 cden (fn := Tryz.f46) (by kernel_rfl) (by kernel_rfl) (by kernel_rfl) (by kernel_rfl) (by kernel_rfl) hh
def vc59 (a b : OA) (c d : Nat) (w : World) (R : RW) : Prop :=
 ∀ f : KW, (∀ (g h : Int) (i : Bool) (j : Int) (k : World), (CondP (decide (g < (c : Int)))
 (NilC b (fun l =>
 (0 : Int) ≤ g ∧ g < (c : Int) ∧
 ∃ m, k.cell? (l.add (g.toNat * 1)) = some (int .i64 m) ∧
 CP 45 #[pointer a, int .i64 h, int .i64 m] k (fun n o =>
 ∃ p q, n = .returned (tuple #[int .i64 p, bool q]) ∧
 CondP (!q)
 (R (tuple #[int .i64 g, bool true]) o)
 (NilC a (fun r =>
 ∃ s t u, o.cell? (r.add 2) = some (slice s t u) ∧
 NilC s (fun x =>
 (0 : Int) ≤ p ∧ p < (t : Int) ∧
 ∃ y, o.cell? (x.add (p.toNat * 1)) = some (bool y) ∧
 CondP (!y)
 (R (tuple #[int .i64 g, bool true]) o)
 (Ar .i64 (g + 1) (fun z =>
 f [int .i64 z, int .i64 p, bool i, int .i64 j] o))))))))
 (R (tuple #[int .i64 0, bool false]) k)) → f [int .i64 g, int .i64 h, bool i, int .i64 j] k) →
 f [int .i64 0, int .i64 0, bool false, int .i64 0] w
theorem vc59_calls (a b : OA) (c d : Nat) (w : World) (R : RW) (hh : vc59 a b c d w R) : CR 59 #[pointer a, slice b c d] w R :=
 cden (fn := Tryz.f59) (by kernel_rfl) (by kernel_rfl) (by kernel_rfl) (by kernel_rfl) (by kernel_rfl) hh
def vc75 (a : OA) (b : Int) (w : World) (R : RW) : Prop :=
 CondP (decide (b ≥ 0))
 (CP 43 #[pointer a] w (fun c d =>
 ∃ f, c = .returned (int .i64 f) ∧
 R (bool (decide (b < f))) d))
 (R (bool false) w)
theorem vc75_calls (a : OA) (b : Int) (w : World) (R : RW) (hh : vc75 a b w R) : CR 75 #[pointer a, int .i64 b] w R :=
 cden (fn := Tryz.f75) (by kernel_rfl) (by kernel_rfl) (by kernel_rfl) (by kernel_rfl) (by kernel_rfl) hh
def vc76 (a : OA) (w : World) (R : RW) : Prop :=
 NilC a (fun b =>
 CP 113 #[pointer (some ((b.add 3).add 0)), func (.func 114) #[pointer a] #[]] w (fun c d =>
 c = .returned (tuple #[]) ∧
 NilC a (fun f =>
 ∃ g h i, d.cell? ((f.add 3).add 3) = some (slice g h i) ∧
 R (slice g h i) d)))
theorem vc76_calls (a : OA) (w : World) (R : RW) (hh : vc76 a w R) : CR 76 #[pointer a] w R :=
 cden (fn := Tryz.f76) (by kernel_rfl) (by kernel_rfl) (by kernel_rfl) (by kernel_rfl) (by kernel_rfl) hh
def vc77 (a : Int) (b : OA) (w : World) (R : RW) : Prop :=
 NilC b (fun c =>
 ∃ d, w.cell? c = some (pointer d) ∧
 CP 25 #[pointer d, int .i64 a] w (fun f g =>
 ∃ h i, f = .returned (tuple #[int .i64 h, bool i]) ∧
 R (int .i64 h) g))
theorem vc77_calls (a : Int) (b : OA) (w : World) (R : RW) (hh : vc77 a b w R) : CR 77 #[int .i64 a, pointer b] w R :=
 cden (fn := Tryz.f77) (by kernel_rfl) (by kernel_rfl) (by kernel_rfl) (by kernel_rfl) (by kernel_rfl) hh
def vc78 (a b : Int) (c : Value) (w : World) (R : RW) : Prop :=
 ∃ d f g h, (Instr.makeSlice 28 (int .i64 a) (int .i64 a)).run Tryz.prog w = .ok (slice d f g) h ∧
 ∀ i : KW, (∀ (j : Int) (k : World), (CondP (decide (j < (f : Int)))
 (∀ l : KW, (∀ m : World, (Ar .i64 (j + 1) (fun n =>
 i [int .i64 n] m)) → l [] m) →
 NilC d (fun o =>
 (0 : Int) ≤ j ∧ j < (f : Int) ∧
 (int .i64 b).oneCell' = true ∧ (∃ u, k.cell? (o.add (j.toNat * 1)) = some u) ∧ k.frozen? (o.add (j.toNat * 1)) = false ∧
 ∀ p, p = (k.setCell (o.add (j.toNat * 1)) (int .i64 b)) →
 CallG ctx c [int .i64 j] p (fun q r =>
 ∃ s, q = .returned (bool s) ∧
 CondP s
 (Ar .i64 (j + 1) (fun t =>
 NilC d (fun x =>
 (0 : Int) ≤ j ∧ j < (f : Int) ∧
 (int .i64 t).oneCell' = true ∧ (∃ u, r.cell? (x.add (j.toNat * 1)) = some u) ∧ r.frozen? (x.add (j.toNat * 1)) = false ∧
 ∀ y, y = (r.setCell (x.add (j.toNat * 1)) (int .i64 t)) →
 l [] y)))
 (l [] r))))
 (R (slice d f g) k)) → i [int .i64 j] k) →
 i [int .i64 0] h
theorem vc78_calls (a b : Int) (c : Value) (w : World) (R : RW) (hh : vc78 a b c w R) : CR 78 #[int .i64 a, int .i64 b, c] w R :=
 cden (fn := Tryz.f78) (by kernel_rfl) (by kernel_rfl) (by kernel_rfl) (by kernel_rfl) (by kernel_rfl) hh
def vc79 (a : Int) (b c : OA) (w : World) (R : RW) : Prop :=
 ∀ d, d = w.drew →
 NilC b (fun f =>
 ∃ g, d.cell? f = some (pointer g) ∧
 NilC c (fun h =>
 ∃ i, d.cell? h = some (i) ∧
 CallG ctx i [int .i64 a] d (fun j k =>
 ∃ l, j = .returned (int .i64 l) ∧
 (k.cell? f = some (pointer g) ∧ True) ∧
 CP 32 #[pointer g, int .i64 l] k (fun m n =>
 ∃ o, m = .returned (bool o) ∧
 R (bool o) n))))
theorem vc79_calls (a : Int) (b c : OA) (w : World) (R : RW) (hh : vc79 a b c w R) : CR 79 #[int .i64 a, pointer b, pointer c] w R :=
 cden (fn := Tryz.f79) (by kernel_rfl) (by kernel_rfl) (by kernel_rfl) (by kernel_rfl) (by kernel_rfl) hh
def vc80 (a : Int) (b : OA) (w : World) (R : RW) : Prop :=
 NilC b (fun c =>
 ∃ d f g, w.cell? c = some (slice d f g) ∧
 (64 : Int) ≠ 0 ∧
 NilC d (fun h =>
 (0 : Int) ≤ (IntKind.wrap .i64 (Int.tdiv a 64)) ∧ (IntKind.wrap .i64 (Int.tdiv a 64)) < (f : Int) ∧
 ∃ i, w.cell? (h.add ((IntKind.wrap .i64 (Int.tdiv a 64) : Int).toNat * 1)) = some (int .u64 i) ∧
 (64 : Int) ≠ 0 ∧
 (0 : Int) ≤ (Int.tmod a 64) ∧
 R (bool ((IntKind.wrap .u64 ((BitVec.ofInt (IntKind.bits .u64) (Int.fdiv i (2 ^ (min (Int.tmod a 64 : Int).toNat (IntKind.bits .u64)))) &&& BitVec.ofInt (IntKind.bits .u64) 1).toNat : Int) : Int) == 1)) w))
theorem vc80_calls (a : Int) (b : OA) (w : World) (R : RW) (hh : vc80 a b w R) : CR 80 #[int .i64 a, pointer b] w R :=
 cden (fn := Tryz.f80) (by kernel_rfl) (by kernel_rfl) (by kernel_rfl) (by kernel_rfl) (by kernel_rfl) hh
def vc81 (a : Int) (w : World) (R : RW) : Prop :=
 R (bool false) w
theorem vc81_calls (a : Int) (w : World) (R : RW) (hh : vc81 a w R) : CR 81 #[int .i64 a] w R :=
 cden (fn := Tryz.f81) (by kernel_rfl) (by kernel_rfl) (by kernel_rfl) (by kernel_rfl) (by kernel_rfl) hh
def vc82 (a : OA) (b c : Nat) (d : Int) (w : World) (R : RW) : Prop :=
 ∀ f : KW, (∀ g : World, (CP 115 #[int .u64 (IntKind.wrap .u64 (b : Int)), int .u64 (IntKind.wrap .u64 d)] g (fun h i =>
 ∃ j k, h = .returned (tuple #[int .u64 j, int .u64 k]) ∧
 ∀ l : KW, (∀ m : World, (∃ n o p q, (Instr.makeSlice 72 (int .i64 (IntKind.wrap .i64 k)) (int .i64 (IntKind.wrap .i64 k))).run Tryz.prog m = .ok (slice n o p) q ∧
 ∃ r s, (Builtin.copy_ #[72, 72] 3 #[slice n o p, slice a b c]).run Tryz.prog q = .ok (int .i64 r) s ∧
 ∀ t : KW, (∀ (u : Int) (x : World), (CondP (decide (u < (o : Int)))
 (∀ y, y = x.drew →
 (0 : Int) ≤ u ∧ u ≤ (o : Int) ∧ True ∧ True ∧ True ∧
 (0 : Int) ≤ (0 : Int) ∧ (0 : Int) ≤ u ∧ u ≤ (p : Int) ∧ True ∧ True ∧
 ∃ z a1, (Builtin.copy_ #[72, 72] 3 #[slice (slBase n u.toNat (p : Int).toNat 1) ((o : Int).toNat - u.toNat) ((p : Int).toNat - u.toNat), slice (slBase n (0 : Int).toNat (p : Int).toNat 1) (u.toNat - (0 : Int).toNat) ((p : Int).toNat - (0 : Int).toNat)]).run Tryz.prog y = .ok (int .i64 z) a1 ∧
 Ar .i64 (u + z) (fun b1 =>
 t [int .i64 b1] a1))
 (R (slice n o p) x)) → t [int .i64 u] x) →
 t [int .i64 r] s) → l [] m) →
 CondP (decide (j > 0))
 (False)
 (CondP (decide (k > 9223372036854775807))
 (False)
 (l [] i)))) → f [] g) →
 CondP (decide (d < 0))
 (False)
 (f [] w)
theorem vc82_calls (a : OA) (b c : Nat) (d : Int) (w : World) (R : RW) (hh : vc82 a b c d w R) : CR 82 #[slice a b c, int .i64 d] w R :=
 cden (fn := Tryz.f82) (by kernel_rfl) (by kernel_rfl) (by kernel_rfl) (by kernel_rfl) (by kernel_rfl) hh
def vc83 (a : OA) (b : Value) (w : World) (R : RW) : Prop :=
 ∀ c, c = w.alloc (.cells #[int .i64 0] 3) →
 ∃ d f, (Instr.makeMap 107 none).run Tryz.prog c = .ok (map d) f ∧
 CallG ctx b [int .i64 0] f (fun g h =>
 ∃ i, g = .returned (int .i64 i) ∧
 ∃ j, (Instr.mapUpdate 107 (map d) (int .i64 i) (int .i64 0)).run Tryz.prog h = .ok () j ∧
 ∀ k : KW, (∀ (l : Int) (m : OA) (n o : Nat) (p : World), (CondP (decide (l < (n : Int)))
 (∀ q, q = p.drew →
 NilC a (fun r =>
 ∃ s t u, q.cell? (r.add 1) = some (slice s t u) ∧
 NilC m (fun x =>
 (0 : Int) ≤ l ∧ l < (n : Int) ∧
 ∃ y, q.cell? (x.add (l.toNat * 1)) = some (int .i64 y) ∧
 NilC s (fun z =>
 (0 : Int) ≤ y ∧ y < (t : Int) ∧
 ∃ a1 b1 c1, q.cell? (z.add (y.toNat * 1)) = some (slice a1 b1 c1) ∧
 ∀ d1 : KW, (∀ (e1 : Int) (f1 : OA) (g1 h1 : Nat) (i1 : World), (CondP (decide (e1 < (b1 : Int)))
 (∀ j1 : KW, (∀ (k1 : OA) (l1 m1 : Nat) (n1 : World), (Ar .i64 (e1 + 1) (fun o1 =>
 d1 [int .i64 o1, slice k1 l1 m1] n1)) → j1 [slice k1 l1 m1] n1) →
 NilC a1 (fun p1 =>
 (0 : Int) ≤ e1 ∧ e1 < (b1 : Int) ∧
 ∃ q1, i1.cell? (p1.add (e1.toNat * 1)) = some (int .i64 q1) ∧
 CallG ctx b [int .i64 q1] i1 (fun r1 s1 =>
 ∃ t1, r1 = .returned (int .i64 t1) ∧
 ∃ u1 v1 x1, (Instr.lookup 107 (map d) (int .i64 t1) true).run Tryz.prog s1 = .ok (tuple #[int .i64 u1, bool v1]) x1 ∧
 CondP (!v1)
 (CallG ctx b [int .i64 q1] x1 (fun y1 z1 =>
 ∃ a2, y1 = .returned (int .i64 a2) ∧
 ∃ b2, (Instr.mapUpdate 107 (map d) (int .i64 a2) (int .i64 (g1 : Int))).run Tryz.prog z1 = .ok () b2 ∧
 ∀ c2, c2 = b2.alloc (.cells #[int .i64 q1] 3) →
 ∃ d2 e2 f2 g2, (Builtin.append_ #[28, 28] 28 #[slice f1 g1 h1, slice (some (nb b2)) 1 1]).run Tryz.prog c2 = .ok (slice d2 e2 f2) g2 ∧
 j1 [slice d2 e2 f2] g2))
 (j1 [slice f1 g1 h1] x1))))
 (Ar .i64 (l + 1) (fun h2 =>
 k [int .i64 h2, slice f1 g1 h1] i1))) → d1 [int .i64 e1, slice f1 g1 h1] i1) →
 d1 [int .i64 0, slice m n o] q))))
 (R (tuple #[slice m n o, map d]) p)) → k [int .i64 l, slice m n o] p) →
 k [int .i64 0, slice (some (nb w)) 1 1] j)
theorem vc83_calls (a : OA) (b : Value) (w : World) (R : RW) (hh : vc83 a b w R) : CR 83 #[pointer a, b] w R :=
 cden (fn := Tryz.f83) (by kernel_rfl) (by kernel_rfl) (by kernel_rfl) (by kernel_rfl) (by kernel_rfl) hh
def vc84 (a : Int) (b : OA) (w : World) (R : RW) : Prop :=
 NilC b (fun c =>
 ∃ d f g, w.cell? c = some (slice d f g) ∧
 NilC d (fun h =>
 (0 : Int) ≤ a ∧ a < (f : Int) ∧
 ∃ i, w.cell? (h.add (a.toNat * 1)) = some (int .i64 i) ∧
 R (int .i64 i) w))
theorem vc84_calls (a : Int) (b : OA) (w : World) (R : RW) (hh : vc84 a b w R) : CR 84 #[int .i64 a, pointer b] w R :=
 cden (fn := Tryz.f84) (by kernel_rfl) (by kernel_rfl) (by kernel_rfl) (by kernel_rfl) (by kernel_rfl) hh
def vc114 (a : OA) (w : World) (R : RW) : Prop :=
 ∀ b, b = w.alloc (.cells #[pointer a] 62) →
 ∃ c, b.cell? (nb w) = some (pointer c) ∧
 CP 43 #[pointer c] b (fun d f =>
 ∃ g, d = .returned (int .i64 g) ∧
 CP 161 #[int .i64 g, func (.func 162) #[] #[pointer (some (nb w))]] f (fun h i =>
 ∃ j k l m, h = .returned (tuple #[slice j k l, int .i64 m]) ∧
 ∀ n, n = i.alloc (.cells #[slice none 0 0] 28) →
 (slice j k l).oneCell' = true ∧ (∃ u, n.cell? (nb i) = some u) ∧ n.frozen? (nb i) = false ∧
 ∀ o, o = (n.setCell (nb i) (slice j k l)) →
 ∀ p : KW, (∀ (q : Int) (r : World), (∃ s, r.cell? (nb w) = some (pointer s) ∧
 CP 43 #[pointer s] r (fun t x =>
 ∃ y, t = .returned (int .i64 y) ∧
 CP 163 #[int .i64 y, func (.func 164) #[] #[pointer (some (nb i)), pointer (some (nb w))]] x (fun z a1 =>
 ∃ b1 c1 d1 e1, z = .returned (tuple #[slice b1 c1 d1, int .i64 e1]) ∧
 (slice b1 c1 d1).oneCell' = true ∧ (∃ u, a1.cell? (nb i) = some u) ∧ a1.frozen? (nb i) = false ∧
 ∀ f1, f1 = (a1.setCell (nb i) (slice b1 c1 d1)) →
 CondP (e1 == q)
 (∃ g1, f1.cell? (nb w) = some (pointer g1) ∧
 ∃ h1 i1 j1, f1.cell? (nb i) = some (slice h1 i1 j1) ∧
 NilC g1 (fun k1 =>
 (slice h1 i1 j1).oneCell' = true ∧ (∃ u, f1.cell? ((k1.add 3).add 3) = some u) ∧ f1.frozen? ((k1.add 3).add 3) = false ∧
 ∀ l1, l1 = (f1.setCell ((k1.add 3).add 3) (slice h1 i1 j1)) →
 R (tuple #[]) l1))
 (p [int .i64 e1] f1)))) → p [int .i64 q] r) →
 p [int .i64 m] o))
theorem vc114_calls (a : OA) (w : World) (R : RW) (hh : vc114 a w R) : CR 114 #[pointer a] w R :=
 cden (fn := Tryz.f114) (by kernel_rfl) (by kernel_rfl) (by kernel_rfl) (by kernel_rfl) (by kernel_rfl) hh
def vc115 (a b : Int) (w : World) (R : RW) : Prop :=
 CP 167 #[int .u64 a, int .u64 b] w (fun c d =>
 ∃ f g, c = .returned (tuple #[int .u64 f, int .u64 g]) ∧
 R (tuple #[int .u64 f, int .u64 g]) d)
theorem vc115_calls (a b : Int) (w : World) (R : RW) (hh : vc115 a b w R) : CR 115 #[int .u64 a, int .u64 b] w R :=
 cden (fn := Tryz.f115) (by kernel_rfl) (by kernel_rfl) (by kernel_rfl) (by kernel_rfl) (by kernel_rfl) hh
def vc161 (a : Int) (b : Value) (w : World) (R : RW) : Prop :=
 ∃ c d, (Instr.makeMap 299 none).run Tryz.prog w = .ok (map c) d ∧
 ∃ f g h i, (Instr.makeSlice 28 (int .i64 a) (int .i64 a)).run Tryz.prog d = .ok (slice f g h) i ∧
 ∀ j : KW, (∀ (k : Int) (l : World), (CondP (decide (k < a))
 (CallG ctx b [int .i64 k] l (fun m n =>
 ∃ o, m = .returned (bool o) ∧
 ∃ p q r, (Instr.lookup 299 (map c) (bool o) true).run Tryz.prog n = .ok (tuple #[int .i64 p, bool q]) r ∧
 ∀ s : KW, (∀ (t : Int) (x : World), (NilC f (fun y =>
 (0 : Int) ≤ k ∧ k < (g : Int) ∧
 (int .i64 t).oneCell' = true ∧ (∃ u, x.cell? (y.add (k.toNat * 1)) = some u) ∧ x.frozen? (y.add (k.toNat * 1)) = false ∧
 ∀ z, z = (x.setCell (y.add (k.toNat * 1)) (int .i64 t)) →
 Ar .i64 (k + 1) (fun a1 =>
 j [int .i64 a1] z))) → s [int .i64 t] x) →
 CondP (!q)
 (∃ b1 c1, (Builtin.len_ #[299] 3 #[map c]).run Tryz.prog r = .ok (int .i64 b1) c1 ∧
 ∃ d1, (Instr.mapUpdate 299 (map c) (bool o) (int .i64 b1)).run Tryz.prog c1 = .ok () d1 ∧
 s [int .i64 b1] d1)
 (s [int .i64 p] r)))
 (∃ e1 f1, (Builtin.len_ #[299] 3 #[map c]).run Tryz.prog l = .ok (int .i64 e1) f1 ∧
 R (tuple #[slice f g h, int .i64 e1]) f1)) → j [int .i64 k] l) →
 j [int .i64 0] i
theorem vc161_calls (a : Int) (b : Value) (w : World) (R : RW) (hh : vc161 a b w R) : CR 161 #[int .i64 a, b] w R :=
 cden (fn := Tryz.f161) (by kernel_rfl) (by kernel_rfl) (by kernel_rfl) (by kernel_rfl) (by kernel_rfl) hh
def vc162 (a : Int) (b : OA) (w : World) (R : RW) : Prop :=
 NilC b (fun c =>
 ∃ d, w.cell? c = some (pointer d) ∧
 NilC d (fun f =>
 ∃ g h i, w.cell? (f.add 2) = some (slice g h i) ∧
 NilC g (fun j =>
 (0 : Int) ≤ a ∧ a < (h : Int) ∧
 ∃ k, w.cell? (j.add (a.toNat * 1)) = some (bool k) ∧
 R (bool k) w)))
theorem vc162_calls (a : Int) (b : OA) (w : World) (R : RW) (hh : vc162 a b w R) : CR 162 #[int .i64 a, pointer b] w R :=
 cden (fn := Tryz.f162) (by kernel_rfl) (by kernel_rfl) (by kernel_rfl) (by kernel_rfl) (by kernel_rfl) hh
def vc163 (a : Int) (b : Value) (w : World) (R : RW) : Prop :=
 ∃ c d, (Instr.makeMap 177 none).run Tryz.prog w = .ok (map c) d ∧
 ∃ f g h i, (Instr.makeSlice 28 (int .i64 a) (int .i64 a)).run Tryz.prog d = .ok (slice f g h) i ∧
 ∀ j : KW, (∀ (k : Int) (l : World), (CondP (decide (k < a))
 (CallG ctx b [int .i64 k] l (fun m n =>
 ∃ o, m = .returned (string o) ∧
 ∃ p q r, (Instr.lookup 177 (map c) (string o) true).run Tryz.prog n = .ok (tuple #[int .i64 p, bool q]) r ∧
 ∀ s : KW, (∀ (t : Int) (x : World), (NilC f (fun y =>
 (0 : Int) ≤ k ∧ k < (g : Int) ∧
 (int .i64 t).oneCell' = true ∧ (∃ u, x.cell? (y.add (k.toNat * 1)) = some u) ∧ x.frozen? (y.add (k.toNat * 1)) = false ∧
 ∀ z, z = (x.setCell (y.add (k.toNat * 1)) (int .i64 t)) →
 Ar .i64 (k + 1) (fun a1 =>
 j [int .i64 a1] z))) → s [int .i64 t] x) →
 CondP (!q)
 (∃ b1 c1, (Builtin.len_ #[177] 3 #[map c]).run Tryz.prog r = .ok (int .i64 b1) c1 ∧
 ∃ d1, (Instr.mapUpdate 177 (map c) (string o) (int .i64 b1)).run Tryz.prog c1 = .ok () d1 ∧
 s [int .i64 b1] d1)
 (s [int .i64 p] r)))
 (∃ e1 f1, (Builtin.len_ #[177] 3 #[map c]).run Tryz.prog l = .ok (int .i64 e1) f1 ∧
 R (tuple #[slice f g h, int .i64 e1]) f1)) → j [int .i64 k] l) →
 j [int .i64 0] i
theorem vc163_calls (a : Int) (b : Value) (w : World) (R : RW) (hh : vc163 a b w R) : CR 163 #[int .i64 a, b] w R :=
 cden (fn := Tryz.f163) (by kernel_rfl) (by kernel_rfl) (by kernel_rfl) (by kernel_rfl) (by kernel_rfl) hh
def vc164 (a : Int) (b c : OA) (w : World) (R : RW) : Prop :=
 ∀ d, d = w.drew →
 NilC b (fun f =>
 ∃ g h i, d.cell? f = some (slice g h i) ∧
 NilC g (fun j =>
 (0 : Int) ≤ a ∧ a < (h : Int) ∧
 ∃ k, d.cell? (j.add (a.toNat * 1)) = some (int .i64 k) ∧
 NilC c (fun l =>
 ∃ m, d.cell? l = some (pointer m) ∧
 NilC m (fun n =>
 ∃ o p q, d.cell? (n.add 1) = some (slice o p q) ∧
 NilC o (fun r =>
 (0 : Int) ≤ a ∧ a < (p : Int) ∧
 ∃ s t u, d.cell? (r.add (a.toNat * 1)) = some (slice s t u) ∧
 NilC b (fun x =>
 ∃ y z a1, d.cell? x = some (slice y z a1) ∧
 CP 165 #[int .i64 k, slice s t u, slice y z a1] d (fun b1 c1 =>
 ∃ d1, b1 = .returned (string d1) ∧
 R (string d1) c1)))))))
theorem vc164_calls (a : Int) (b c : OA) (w : World) (R : RW) (hh : vc164 a b c w R) : CR 164 #[int .i64 a, pointer b, pointer c] w R :=
 cden (fn := Tryz.f164) (by kernel_rfl) (by kernel_rfl) (by kernel_rfl) (by kernel_rfl) (by kernel_rfl) hh
def vc165 (a : Int) (b : OA) (c d : Nat) (f : OA) (g h : Nat) (w : World) (R : RW) : Prop :=
 Ar .i64 ((2 : Int) * (c : Int)) (fun i =>
 Ar .i64 (i + 2) (fun j =>
 ∃ k l m n, (Instr.makeSlice 178 (int .i64 0) (int .i64 j)).run Tryz.prog w = .ok (slice k l m) n ∧
 (0 : Int) ≤ 8 ∧
 ∀ o, o = n.alloc (.cells #[int .u8 (IntKind.wrap .u8 a), int .u8 (IntKind.wrap .u8 (Int.fdiv a (2 ^ (min (8 : Int).toNat (IntKind.bits .i64)))))] 5) →
 ∃ p q r s, (Builtin.append_ #[178, 178] 178 #[slice k l m, slice (some (nb n)) 2 2]).run Tryz.prog o = .ok (slice p q r) s ∧
 ∀ t : KW, (∀ (u : Int) (x : OA) (y z : Nat) (a1 : World), (CondP (decide (u < (c : Int)))
 (NilC b (fun b1 =>
 (0 : Int) ≤ u ∧ u < (c : Int) ∧
 ∃ c1, a1.cell? (b1.add (u.toNat * 1)) = some (int .i64 c1) ∧
 ∀ d1, d1 = a1.drew →
 NilC f (fun e1 =>
 (0 : Int) ≤ c1 ∧ c1 < (g : Int) ∧
 ∃ f1, d1.cell? (e1.add (c1.toNat * 1)) = some (int .i64 f1) ∧
 NilC f (fun g1 =>
 (0 : Int) ≤ c1 ∧ c1 < (g : Int) ∧
 ∃ h1, d1.cell? (g1.add (c1.toNat * 1)) = some (int .i64 h1) ∧
 (0 : Int) ≤ 8 ∧
 ∀ i1, i1 = d1.alloc (.cells #[int .u8 (IntKind.wrap .u8 f1), int .u8 (IntKind.wrap .u8 (Int.fdiv h1 (2 ^ (min (8 : Int).toNat (IntKind.bits .i64)))))] 5) →
 ∃ j1 k1 l1 m1, (Builtin.append_ #[178, 178] 178 #[slice x y z, slice (some (nb d1)) 2 2]).run Tryz.prog i1 = .ok (slice j1 k1 l1) m1 ∧
 Ar .i64 (u + 1) (fun n1 =>
 t [int .i64 n1, slice j1 k1 l1] m1)))))
 (∃ o1 p1, (convert 178 9 (slice x y z)).run Tryz.prog a1 = .ok (string o1) p1 ∧
 R (string o1) p1)) → t [int .i64 u, slice x y z] a1) →
 t [int .i64 0, slice p q r] s))
theorem vc165_calls (a : Int) (b : OA) (c d : Nat) (f : OA) (g h : Nat) (w : World) (R : RW) (hh : vc165 a b c d f g h w R) : CR 165 #[int .i64 a, slice b c d, slice f g h] w R :=
 cden (fn := Tryz.f165) (by kernel_rfl) (by kernel_rfl) (by kernel_rfl) (by kernel_rfl) (by kernel_rfl) hh
def vc167 (a b : Int) (w : World) (R : RW) : Prop :=
 (0 : Int) ≤ 32 ∧
 (0 : Int) ≤ 32 ∧
 Ar .u64 ((IntKind.wrap .u64 ((BitVec.ofInt (IntKind.bits .u64) a &&& BitVec.ofInt (IntKind.bits .u64) 4294967295).toNat : Int) : Int) * (IntKind.wrap .u64 ((BitVec.ofInt (IntKind.bits .u64) b &&& BitVec.ofInt (IntKind.bits .u64) 4294967295).toNat : Int))) (fun c =>
 Ar .u64 ((Int.fdiv a (2 ^ (min (32 : Int).toNat (IntKind.bits .u64))) : Int) * (IntKind.wrap .u64 ((BitVec.ofInt (IntKind.bits .u64) b &&& BitVec.ofInt (IntKind.bits .u64) 4294967295).toNat : Int))) (fun d =>
 (0 : Int) ≤ 32 ∧
 Ar .u64 (d + (Int.fdiv c (2 ^ (min (32 : Int).toNat (IntKind.bits .u64))))) (fun f =>
 (0 : Int) ≤ 32 ∧
 Ar .u64 ((IntKind.wrap .u64 ((BitVec.ofInt (IntKind.bits .u64) a &&& BitVec.ofInt (IntKind.bits .u64) 4294967295).toNat : Int) : Int) * (Int.fdiv b (2 ^ (min (32 : Int).toNat (IntKind.bits .u64))))) (fun g =>
 Ar .u64 ((IntKind.wrap .u64 ((BitVec.ofInt (IntKind.bits .u64) f &&& BitVec.ofInt (IntKind.bits .u64) 4294967295).toNat : Int) : Int) + g) (fun h =>
 Ar .u64 ((Int.fdiv a (2 ^ (min (32 : Int).toNat (IntKind.bits .u64))) : Int) * (Int.fdiv b (2 ^ (min (32 : Int).toNat (IntKind.bits .u64))))) (fun i =>
 Ar .u64 (i + (Int.fdiv f (2 ^ (min (32 : Int).toNat (IntKind.bits .u64))))) (fun j =>
 (0 : Int) ≤ 32 ∧
 Ar .u64 (j + (Int.fdiv h (2 ^ (min (32 : Int).toNat (IntKind.bits .u64))))) (fun k =>
 Ar .u64 (a * b) (fun l =>
 R (tuple #[int .u64 k, int .u64 l]) w)))))))))
theorem vc167_calls (a b : Int) (w : World) (R : RW) (hh : vc167 a b w R) : CR 167 #[int .u64 a, int .u64 b] w R :=
 cden (fn := Tryz.f167) (by kernel_rfl) (by kernel_rfl) (by kernel_rfl) (by kernel_rfl) (by kernel_rfl) hh
theorem infoInt3 : ∃ i, Tryz.prog.info? tInt = some i ∧ i.zero = some (.int .i64 0) ∧ i.size = 1 ∧ i.bytes = 8 := by
 have h : (Tryz.prog.info? tInt).map (fun i => (i.zero, i.size, i.bytes)) = some (some (.int .i64 0), 1, 8) := by kernel_rfl
 obtain ⟨i, hi, he⟩ := Option.map_eq_some_iff.1 h
 simp only [Prod.mk.injEq] at he
 exact ⟨i, hi, he.1, he.2.1, he.2.2⟩
theorem run_makeInts (w : World) (n : Nat) (hn : n ≤ 1000000) : (Instr.makeSlice tInts (.int .i64 n) (.int .i64 n)).run Tryz.prog w = .ok (.slice (some (nb w)) n n) (w.alloc (.cells (Array.replicate n (.int .i64 0)) tInt)) := by
 obtain ⟨i, hi, hz, hs, hb⟩ := infoInt3
 have := Go.run_make (P := Tryz.prog) w tInts tInt i (.int .i64 0) (by kernel_rfl) hi hz .i64 .i64 (n : Int) (n : Int) (by omega) (Int.le_refl _) (by rw [hb]; omega) (by omega)
 rw [this]
 congr 3
 rw [hs]
 apply Array.ext
 ·rw [size_madeCells]
  simp
 ·intro j h1 h2
  simp only [madeCells, Array.getElem_map, Array.getElem_range, Array.getElem_replicate]
  show (#[Value.int .i64 0] : Array Value)[j % 1]! = _
  rw [Nat.mod_one]
  rfl
def part {α : Type} (z : α) (f : Nat → α) (n i : Nat) : List α := (List.range n).map fun j => if j < i then f j else z
theorem part_length {α : Type} (z : α) (f : Nat → α) (n i : Nat) : (part z f n i).length = n := by simp [part]
theorem part_get {α : Type} (z : α) (f : Nat → α) {n i j : Nat} (hj : j < n) : (part z f n i)[j]? = some (if j < i then f j else z) := by simp [part, List.getElem?_range hj]
theorem part_set {α : Type} (z : α) (f : Nat → α) {n i : Nat} (hi : i < n) : (part z f n i).set i (f i) = part z f n (i + 1) := by
 apply List.ext_getElem?
 intro j
 by_cases hj : j < n
 ·rw [List.getElem?_set, part_get z f hj, part_get z f hj]
  by_cases e : i = j
  ·subst e; simp [part_length, hi]
  ·rw [if_neg e]
   by_cases h : j < i
   ·rw [if_pos h, if_pos (by omega)]
   ·rw [if_neg h, if_neg (by omega)]
 ·rw [List.getElem?_eq_none_iff.2 (by rw [List.length_set, part_length]; omega), List.getElem?_eq_none_iff.2 (by rw [part_length]; omega)]
theorem part_none {α : Type} (z : α) (f : Nat → α) (n : Nat) : part z f n 0 = List.replicate n z := by
 apply List.ext_getElem?
 intro j
 by_cases hj : j < n
 ·rw [part_get z f hj, List.getElem?_replicate, if_pos hj, if_neg (by omega)]
 ·rw [List.getElem?_eq_none_iff.2 (by rw [part_length]; omega), List.getElem?_eq_none_iff.2 (by simp; omega)]
theorem part_all {α : Type} (z : α) (f : Nat → α) (n : Nat) : part z f n n = (List.range n).map f := by
 apply List.map_congr_left
 intro j hj
 rw [if_pos (List.mem_range.1 hj)]
theorem own_part {α : Type} {enc : α → List Value} (z : α) (zv : Value) (henc : enc z = [zv]) (e : TypeId) (f : Nat → α) (w : World) {n : Nat} (hn : n ≤ 1000000) : (w.alloc (.cells (Array.replicate n zv) e)).ownsRow w.heap.size e 1 (.slice (some (nb w)) n n) n ((part z f n 0).flatMap enc) := by
 have hf : (part z f n 0).flatMap enc = List.replicate n zv := by
  rw [part_none, List.flatMap_replicate, henc]
  simp
 rw [hf, show Array.replicate n zv = (List.replicate n zv).toArray by simp]
 exact own_made _ (by simp) hn (Nat.le_refl _)
theorem leads_spec (w : World) (n bad : Nat) (may : Value) (m : Nat → Bool) (hn : n ≤ 10000) (hm : ∀ k, k < n → ∀ w1, Below w.heap.size w w1 → CallG ctx may [.int .i64 (k : Int)] w1 (fun e w2 => e = .returned (.bool (m k)) ∧ Below w1.heap.size w1 w2)) :
  CP 78 #[.int .i64 (n : Int), .int .i64 (bad : Int), may] w fun e w' => ∃ l : Sl, e = .returned l.v ∧ l.n = n ∧ w'.ownsRow w.heap.size tInt 1 l.v l.n (((List.range n).map fun k => ((if m k then k + 1 else bad : Nat) : Int)).flatMap encInt) ∧ Below w.heap.size w w' := by
 refine calls_ret (vc78_calls n bad may w (fun u w' => ∃ l : Sl, u = l.v ∧ l.n = n ∧ w'.ownsRow w.heap.size tInt 1 l.v l.n (((List.range n).map fun k => ((if m k then k + 1 else bad : Nat) : Int)).flatMap encInt) ∧ Below w.heap.size w w') ?_) (by rintro v w' ⟨l, rfl, h⟩; exact ⟨l, rfl, h⟩)
 obtain ⟨f, hf⟩ : ∃ f : Nat → Int, f = fun k => ((if m k then k + 1 else bad : Nat) : Int) := ⟨_, rfl⟩
 refine ⟨some (nb w), n, n, _, run_makeInts w n (by omega), ?_⟩
 intro I hI
 have b0 := below_alloc w (.cells (Array.replicate n (.int .i64 0)) tInt)
 have o0 := own_part (enc := encInt) (0 : Int) (.int .i64 0) rfl tInt f w (n := n) (by omega)
 obtain ⟨l, hl⟩ : ∃ l : Sl, l = ⟨some (nb w), n, n⟩ := ⟨_, rfl⟩
 have key := climb2 (α := World) n (fun i q => q.ownsRow w.heap.size tInt 1 l.v l.n ((part 0 f n i).flatMap encInt) ∧ Below w.heap.size w q) (fun i q => I [.int .i64 (i : Int)] q) _ ⟨by subst hl; exact o0, b0⟩ ?_ ?_
 ·exact key
 ·rintro i hi ih q ⟨ho, hB⟩
  refine hI _ _ (CondP.yes (decide_eq_true (by omega)) ?_)
  intro J hJ
  have hln : l.n = n := by subst hl; rfl
  have hla : l.a = some (nb w) := by subst hl; rfl
  obtain ⟨u, fz, k⟩ := own_write (l := l) (enc := encInt) (sz := 1) (fun _ => rfl) (by decide) ho (by rw [part_length]; exact hln) hla (part_get 0 f hi) (k := 0) (by decide) (bad : Int) (.int .i64 (bad : Int)) rfl
  rw [add_zero] at u fz k
  refine NilC.mk _ rfl ⟨by omega, by omega, rfl, u, fz, ?_⟩
  intro w4 hw4
  obtain ⟨o4, _, _, b4⟩ := k w4 hw4
  have hB4 := b4 _ _ (Nat.le_refl _) hB
  refine (hm i hi w4 hB4).mono ?_
  rintro e w5 ⟨rfl, b5⟩
  have o5 := own_on o4 b5
  have hB5 := below_then hB4 b5
  refine ⟨_, rfl, CondP.mk (fun h => ?_) fun h => ?_⟩
  ·have hget : ((part 0 f n i).set i (bad : Int))[i]? = some (bad : Int) := by rw [List.getElem?_set_self (by rw [part_length]; exact hi)]
   obtain ⟨u2, fz2, k2⟩ := own_write (l := l) (enc := encInt) (sz := 1) (fun _ => rfl) (by decide) o5 (by rw [List.length_set, part_length]; exact hln) hla hget (k := 0) (by decide) ((i + 1 : Nat) : Int) (.int .i64 ((i + 1 : Nat) : Int)) rfl
   rw [add_zero] at u2 fz2 k2
   refine Ar.nat (i + 1) rfl (by omega) (NilC.mk _ rfl ⟨by omega, by omega, rfl, u2, fz2, ?_⟩)
   intro w6 hw6
   obtain ⟨o6, _, _, b6⟩ := k2 w6 hw6
   refine hJ _ (Ar.nat (i + 1) rfl (by omega) (ih w6 ⟨?_, b6 _ _ (Nat.le_refl _) hB5⟩))
   rw [List.set_set] at o6
   have := part_set (0 : Int) f hi
   rw [show f i = ((i + 1 : Nat) : Int) by rw [hf]; show ((if m i then i + 1 else bad : Nat) : Int) = _; rw [if_pos h]] at this
   rw [this] at o6
   exact o6
  ·refine hJ _ (Ar.nat (i + 1) rfl (by omega) (ih w5 ⟨?_, hB5⟩))
   have := part_set (0 : Int) f hi
   rw [show f i = (bad : Int) by rw [hf]; show ((if m i then i + 1 else bad : Nat) : Int) = _; rw [if_neg (by rw [h]; decide)]] at this
   rw [this] at o5
   exact o5
 ·rintro q ⟨ho, hB⟩
  refine hI _ _ (CondP.no (decide_eq_false (by omega)) ⟨l, by subst hl; rfl, by subst hl; rfl, ?_, hB⟩)
  rw [part_all, hf] at ho
  exact ho
theorem sh8 (x : Nat) : Int.fdiv (x : Int) (2 ^ (min (8 : Int).toNat (IntKind.bits .i64))) = ((x / 256 : Nat) : Int) := by
 rw [show (2 : Int) ^ (min (8 : Int).toNat (IntKind.bits .i64)) = ((256 : Nat) : Int) by decide, Int.fdiv_eq_ediv_of_nonneg _ (by omega)]
 rfl
theorem two_u8 (x : Nat) : (#[Value.int .u8 (IntKind.wrap .u8 (x : Int)), Value.int .u8 (IntKind.wrap .u8 (Int.fdiv (x : Int) (2 ^ (min (8 : Int).toNat (IntKind.bits .i64)))))] : Array Value) = ((num2 x).flatMap encU8).toArray := by
 rw [sh8, wrap_u8, wrap_u8]
 rfl
theorem run_make0 (w : World) (c : Nat) (hc : c ≤ 1000000) : ∃ w1, (Instr.makeSlice tBytes (.int .i64 0) (.int .i64 (c : Int))).run Tryz.prog w = .ok (.slice (some (nb w)) 0 c) w1 ∧ w1.ownsRow w.heap.size tU8 1 (.slice (some (nb w)) 0 c) 0 (([] : List UInt8).flatMap encU8) ∧ Below w.heap.size w w1 := by
 have h : (Tryz.prog.info? tU8).map (fun i => (i.zero, i.size, i.bytes)) = some (some (.int .u8 0), 1, 1) := by kernel_rfl
 obtain ⟨i, hi, he⟩ := Option.map_eq_some_iff.1 h
 simp only [Prod.mk.injEq] at he
 obtain ⟨hz, hs, hb⟩ := he
 have := Go.run_make (P := Tryz.prog) w tBytes tU8 i (.int .u8 0) (by kernel_rfl) hi hz .i64 .i64 0 (c : Int) (by omega) (by omega) (by rw [hb]; omega) (by omega)
 refine ⟨_, this, ?_, below_alloc _ _⟩
 refine ⟨rfl, .inr ⟨w.heap.size, c, _, rfl, Nat.le_refl _, alloc_new _ _, Nat.zero_le _, by unfold maxLen; omega, ?_, by simp⟩⟩
 rw [size_madeCells, hs]
 simp
theorem text17_spec (w : World) (x : Nat) (A A2 : Option Addr) (C C2 : Nat) (l of : List Nat) (hl : Rw encInt 1 w A (l.map fun i : Nat => (i : Int))) (ho : Rw encInt 1 w A2 (of.map fun i : Nat => (i : Int))) (hin : ∀ y ∈ l, y < of.length) (hn : l.length ≤ 10000) :
  CP 165 #[.int .i64 (x : Int), .slice A l.length C, .slice A2 of.length C2] w fun e w' => e = .returned (.string (str (num2 x ++ (l.map fun y => of.getD y 0).flatMap num2))) ∧ Below w.heap.size w w' := by
 refine calls_ret (vc165_calls x A l.length C A2 of.length C2 w (fun u w' => u = .string (str (num2 x ++ (l.map fun y => of.getD y 0).flatMap num2)) ∧ Below w.heap.size w w') ?_) (by rintro v w' ⟨rfl, h⟩; exact ⟨rfl, h⟩)
 obtain ⟨w1, hr1, o1, b1⟩ := run_make0 w (2 * l.length + 2) (by omega)
 refine Ar.nat (2 * l.length) (by omega) (by omega) (Ar.nat (2 * l.length + 2) (by omega) (by omega) ⟨_, _, _, w1, hr1, by decide, ?_⟩)
 intro w2 hw2
 rw [two_u8] at hw2
 have b2 : Below w1.heap.size w1 w2 := by subst hw2; exact below_alloc _ _
 have h2 : LsAt encU8 1 w2 ⟨some (nb w1), 2, 2⟩ (num2 x) := LsAt.of_own elU8 (B := 0) (by subst hw2; exact own_made (n := 2) _ rfl (by decide) (Nat.zero_le _))
 obtain ⟨f0, w3, f1, f2, f3, f4, _, _⟩ := elU8.spread (s := ⟨some (nb w), 0, 2 * l.length + 2⟩) (xs := []) (own_on o1 b2) h2 (below_then b1 b2).size (by show 0 ≤ _; omega) (by show 2 ≤ _; omega) (by decide)
 refine ⟨f0.a, f0.n, f0.c, w3, f2, ?_⟩
 intro I hI
 let g (y : Nat) : Nat := of.getD y 0
 have key := climb2 (α := Sl × World) l.length (fun i y => y.2.ownsRow w.heap.size tU8 1 y.1.v y.1.n ((num2 x ++ ((l.take i).map g).flatMap num2).flatMap encU8) ∧ y.1.n = 2 + 2 * i ∧ Below w.heap.size w y.2) (fun i y => I [.int .i64 (i : Int), y.1.v] y.2) (f0, w3) ⟨by simpa using f3, f1, f4 _ (below_then b1 b2)⟩ ?_ ?_
 ·exact key
 ·rintro i hi ih ⟨f, q⟩ ⟨hown, hfn, hB⟩
  change q.ownsRow w.heap.size tU8 1 f.v f.n _ at hown
  change f.n = 2 + 2 * i at hfn
  change Below w.heap.size w q at hB
  obtain ⟨p, hp, c0⟩ := cell_rw (hl.on hB) (show i < (l.map fun i : Nat => (i : Int)).length by simpa using hi) (v := .int .i64 ((l[i] : Nat) : Int)) (by simp [encInt])
  have hlt := hin _ (List.getElem_mem hi)
  refine hI _ f.a f.n f.c q (CondP.yes (decide_eq_true (by omega)) (NilC.mk p hp ⟨by omega, by omega, _, c0, ?_⟩))
  intro q1 hq1
  have bq1 : Below q.heap.size q q1 := by subst hq1; exact drew_on q
  have hB1 := below_then hB bq1
  obtain ⟨p2, hp2, c2⟩ := cell_rw (ho.on hB1) (show l[i] < (of.map fun i : Nat => (i : Int)).length by simpa using hlt) (v := .int .i64 ((of[l[i]] : Nat) : Int)) (by simp [encInt])
  refine NilC.mk p2 hp2 ⟨by omega, by omega, _, c2, NilC.mk p2 hp2 ⟨by omega, by omega, _, c2, by decide, ?_⟩⟩
  intro q2 hq2
  rw [two_u8] at hq2
  have bq2 : Below q1.heap.size q1 q2 := by subst hq2; exact below_alloc _ _
  have h3 : LsAt encU8 1 q2 ⟨some (nb q1), 2, 2⟩ (num2 of[l[i]]) := LsAt.of_own elU8 (B := 0) (by subst hq2; exact own_made (n := 2) _ rfl (by decide) (Nat.zero_le _))
  obtain ⟨f', q3, e1, e2, e3, e4, _, _⟩ := elU8.spread (own_on (own_on hown bq1) bq2) h3 (below_then hB1 bq2).size (by omega) (by show 2 ≤ _; omega) (by decide)
  refine ⟨f'.a, f'.n, f'.c, q3, e2, Ar.nat (i + 1) rfl (by omega) (ih (f', q3) ⟨?_, ?_, e4 _ (below_then hB1 bq2)⟩)⟩
  ·have e : num2 x ++ ((l.take (i + 1)).map g).flatMap num2 = (num2 x ++ ((l.take i).map g).flatMap num2) ++ num2 of[l[i]] := by
    have hg : g l[i] = of[l[i]] := getD_of hlt 0
    rw [List.take_add_one, List.getElem?_eq_getElem hi, List.map_append, List.flatMap_append, List.append_assoc]
    simp [hg]
   show q3.ownsRow w.heap.size tU8 1 f'.v f'.n ((num2 x ++ ((l.take (i + 1)).map g).flatMap num2).flatMap encU8)
   rw [e]
   exact e3
  ·show f'.n = 2 + 2 * (i + 1)
   change f'.n = f.n + 2 at e1
   omega
 ·rintro ⟨f, q⟩ ⟨hown, hfn, hB⟩
  change q.ownsRow w.heap.size tU8 1 f.v f.n _ at hown
  rw [List.take_length] at hown
  exact hI _ f.a f.n f.c q (CondP.no (decide_eq_false (by omega)) ⟨_, q, run_str_own (P := Tryz.prog) undBytes undU8 undStr (by rw [← u8_cells]; exact hown), rfl, hB⟩)
end Go.Proofs.YtboemnagahmlkaaGreat.Eng
