/- What these functions owe, printed by a program of this repo out of the translation. -/
import Derived.Test.YtboemnagahmlkaaGreatZjTab
import Derived.Test.YtboemnagahmlkaaGreatZjRa
import Derived.Test.YtboemnagahmlkaaGreatZjBd
import Derived.Test.YtboemnagahmlkaaGreatZjSp
set_option linter.unusedVariables false
set_option maxRecDepth 100000
namespace Go.Proofs.YtboemnagahmlkaaGreat.Eng
open Go Go.Value
def vc24 (a : OA) (w : World) (R : RW) : Prop :=
 CondP (Option.isNone a)
 (R (int .i64 0) w)
 (NilC a (fun b =>
 ∃ c d f, w.cell? (b.add 0) = some (slice c d f) ∧
 R (int .i64 (d : Int)) w))
theorem vc24_calls (a : OA) (w : World) (R : RW) (hh : vc24 a w R) : CR 24 #[pointer a] w R :=
 cden (fn := Tryz.f24) (by kernel_rfl) (by kernel_rfl) (by kernel_rfl) (by kernel_rfl) (by kernel_rfl) hh
def vc25 (a : OA) (b : Int) (w : World) (R : RW) : Prop :=
 CondP (decide (b < 0))
 (R (tuple #[int .i64 0, bool false]) w)
 (CP 24 #[pointer a] w (fun c d =>
 ∃ f, c = .returned (int .i64 f) ∧
 CondP (decide (b ≥ f))
 (R (tuple #[int .i64 0, bool false]) d)
 (NilC a (fun g =>
 ∃ h i j, d.cell? (g.add 0) = some (slice h i j) ∧
 NilC h (fun k =>
 (0 : Int) ≤ b ∧ b < (i : Int) ∧
 ∃ l, d.cell? (k.add (b.toNat * 1)) = some (int .i64 l) ∧
 R (tuple #[int .i64 l, bool true]) d)))))
theorem vc25_calls (a : OA) (b : Int) (w : World) (R : RW) (hh : vc25 a b w R) : CR 25 #[pointer a, int .i64 b] w R :=
 cden (fn := Tryz.f25) (by kernel_rfl) (by kernel_rfl) (by kernel_rfl) (by kernel_rfl) (by kernel_rfl) hh
def vc31 (a : OA) (b : Int) (w : World) (R : RW) : Prop :=
 CP 41 #[pointer a, int .i64 b] w (fun c d =>
 ∃ f g, c = .returned (tuple #[int .i64 f, bool g]) ∧
 CondP (!g)
 (R (slice none 0 0) d)
 (NilC a (fun h =>
 ∃ i j k, d.cell? (h.add 2) = some (slice i j k) ∧
 NilC i (fun l =>
 (0 : Int) ≤ f ∧ f < (j : Int) ∧
 ∃ m n o, d.cell? (l.add (f.toNat * 1)) = some (slice m n o) ∧
 CP 69 #[slice m n o] d (fun p q =>
 ∃ r s t, p = .returned (slice r s t) ∧
 R (slice r s t) q)))))
theorem vc31_calls (a : OA) (b : Int) (w : World) (R : RW) (hh : vc31 a b w R) : CR 31 #[pointer a, int .i64 b] w R :=
 cden (fn := Tryz.f31) (by kernel_rfl) (by kernel_rfl) (by kernel_rfl) (by kernel_rfl) (by kernel_rfl) hh
def vc32 (a : OA) (b : Int) (w : World) (R : RW) : Prop :=
 CP 41 #[pointer a, int .i64 b] w (fun c d =>
 ∃ f g, c = .returned (tuple #[int .i64 f, bool g]) ∧
 CondP g
 (NilC a (fun h =>
 ∃ i j k, d.cell? (h.add 3) = some (slice i j k) ∧
 CP 70 #[slice i j k, int .i64 f] d (fun l m =>
 ∃ n, l = .returned (bool n) ∧
 R (bool n) m)))
 (R (bool false) d))
theorem vc32_calls (a : OA) (b : Int) (w : World) (R : RW) (hh : vc32 a b w R) : CR 32 #[pointer a, int .i64 b] w R :=
 cden (fn := Tryz.f32) (by kernel_rfl) (by kernel_rfl) (by kernel_rfl) (by kernel_rfl) (by kernel_rfl) hh
def vc33 (a : OA) (b c : Int) (w : World) (R : RW) : Prop :=
 CP 41 #[pointer a, int .i64 b] w (fun d f =>
 ∃ g h, d = .returned (tuple #[int .i64 g, bool h]) ∧
 CP 41 #[pointer a, int .i64 c] f (fun i j =>
 ∃ k l, i = .returned (tuple #[int .i64 k, bool l]) ∧
 CondP h
 (CondP l
 (NilC a (fun m =>
 ∃ n o p, j.cell? (m.add 2) = some (slice n o p) ∧
 NilC n (fun q =>
 (0 : Int) ≤ g ∧ g < (o : Int) ∧
 ∃ r s t, j.cell? (q.add (g.toNat * 1)) = some (slice r s t) ∧
 CP 70 #[slice r s t, int .i64 k] j (fun u x =>
 ∃ y, u = .returned (bool y) ∧
 R (bool y) x))))
 (R (bool false) j))
 (R (bool false) j)))
theorem vc33_calls (a : OA) (b c : Int) (w : World) (R : RW) (hh : vc33 a b c w R) : CR 33 #[pointer a, int .i64 b, int .i64 c] w R :=
 cden (fn := Tryz.f33) (by kernel_rfl) (by kernel_rfl) (by kernel_rfl) (by kernel_rfl) (by kernel_rfl) hh
def vc41 (a : OA) (b : Int) (w : World) (R : RW) : Prop :=
 CondP (Option.isNone a)
 (R (tuple #[int .i64 0, bool false]) w)
 (NilC a (fun c =>
 ∃ d, w.cell? (c.add 1) = some (map d) ∧
 ∃ f g h, (Instr.lookup 107 (map d) (int .i64 b) true).run Tryz.prog w = .ok (tuple #[int .i64 f, bool g]) h ∧
 R (tuple #[int .i64 f, bool g]) h))
theorem vc41_calls (a : OA) (b : Int) (w : World) (R : RW) (hh : vc41 a b w R) : CR 41 #[pointer a, int .i64 b] w R :=
 cden (fn := Tryz.f41) (by kernel_rfl) (by kernel_rfl) (by kernel_rfl) (by kernel_rfl) (by kernel_rfl) hh
def vc61 (a : OA) (b : Int) (w : World) (R : RW) : Prop :=
 ∀ c, c = w.alloc (.cells #[pointer a] 31) →
 ∃ d, c.cell? (nb w) = some (pointer d) ∧
 CP 90 #[pointer d] c (fun f g =>
 ∃ h i j, f = .returned (slice h i j) ∧
 ∀ k, k = g.alloc (.cells #[slice none 0 0] 28) →
 (slice h i j).oneCell' = true ∧ (∃ u, k.cell? (nb g) = some u) ∧ k.frozen? (nb g) = false ∧
 ∀ l, l = (k.setCell (nb g) (slice h i j)) →
 ∃ m, l.cell? (nb w) = some (pointer m) ∧
 CondP (Option.isNone m)
 (R (tuple #[pointer none, int .i64 1]) l)
 (∃ n o p, l.cell? (nb g) = some (slice n o p) ∧
 ∃ q r s, l.cell? (nb g) = some (slice q r s) ∧
 Ar .i64 ((o : Int) * (r : Int)) (fun t =>
 CondP (decide (t > b))
 (R (tuple #[pointer none, int .i64 5]) l)
 (∃ x y z, l.cell? (nb g) = some (slice x y z) ∧
 ∃ a1 b1, (Instr.makeMap 107 none).run Tryz.prog l = .ok (map a1) b1 ∧
 ∀ c1, c1 = b1.alloc (.cells #[slice x y z, map a1, slice none 0 0, slice none 0 0] 111) →
 ∀ d1, d1 = c1.alloc (.cells #[pointer none] 48) →
 (pointer (some (nb b1))).oneCell' = true ∧ (∃ u, d1.cell? (nb c1) = some u) ∧ d1.frozen? (nb c1) = false ∧
 ∀ e1, e1 = (d1.setCell (nb c1) (pointer (some (nb b1)))) →
 ∃ f1 g1 h1, e1.cell? (nb g) = some (slice f1 g1 h1) ∧
 ∀ i1 : KW, (∀ (j1 : Int) (k1 : World), (CondP (decide (j1 < (g1 : Int)))
 (NilC f1 (fun l1 =>
 (0 : Int) ≤ j1 ∧ j1 < (g1 : Int) ∧
 ∃ m1, k1.cell? (l1.add (j1.toNat * 1)) = some (int .i64 m1) ∧
 ∃ n1, k1.cell? (nb c1) = some (pointer n1) ∧
 NilC n1 (fun o1 =>
 ∃ p1, k1.cell? (o1.add 1) = some (map p1) ∧
 ∃ q1, (Instr.mapUpdate 107 (map p1) (int .i64 m1) (int .i64 j1)).run Tryz.prog k1 = .ok () q1 ∧
 Ar .i64 (j1 + 1) (fun r1 =>
 i1 [int .i64 r1] q1))))
 (∀ s1, s1 = k1.drew →
 ∃ t1, s1.cell? (nb c1) = some (pointer t1) ∧
 ∃ u1 v1 x1, s1.cell? (nb g) = some (slice u1 v1 x1) ∧
 CP 97 #[int .i64 (v1 : Int), func (.func 98) #[] #[pointer (some (nb w)), pointer (some (nb g))]] s1 (fun y1 z1 =>
 ∃ a2 b2 c2, y1 = .returned (slice a2 b2 c2) ∧
 (z1.cell? (nb c1) = some (pointer t1) ∧ True) ∧
 NilC t1 (fun d2 =>
 (slice a2 b2 c2).oneCell' = true ∧ (∃ u, z1.cell? (d2.add 3) = some u) ∧ z1.frozen? (d2.add 3) = false ∧
 ∀ e2, e2 = (z1.setCell (d2.add 3) (slice a2 b2 c2)) →
 ∃ f2 g2 h2, e2.cell? (nb g) = some (slice f2 g2 h2) ∧
 ∀ i2 : KW, (∀ (j2 : Int) (k2 : World), (CondP (decide (j2 < (g2 : Int)))
 (NilC f2 (fun l2 =>
 (0 : Int) ≤ j2 ∧ j2 < (g2 : Int) ∧
 ∃ m2, k2.cell? (l2.add (j2.toNat * 1)) = some (int .i64 m2) ∧
 ∀ n2, n2 = k2.alloc (.cells #[int .i64 0] 3) →
 ∀ o2, o2 = n2.alloc (.cells #[int .i64 0] 3) →
 (int .i64 j2).oneCell' = true ∧ (∃ u, o2.cell? (nb k2) = some u) ∧ o2.frozen? (nb k2) = false ∧
 ∀ p2, p2 = (o2.setCell (nb k2) (int .i64 j2)) →
 (int .i64 m2).oneCell' = true ∧ (∃ u, p2.cell? (nb n2) = some u) ∧ p2.frozen? (nb n2) = false ∧
 ∀ q2, q2 = (p2.setCell (nb n2) (int .i64 m2)) →
 ∀ r2, r2 = q2.drew →
 ∃ s2, r2.cell? (nb c1) = some (pointer s2) ∧
 ∃ t2, r2.cell? (nb c1) = some (pointer t2) ∧
 NilC t2 (fun u2 =>
 ∃ v2 x2 y2, r2.cell? (u2.add 2) = some (slice v2 x2 y2) ∧
 ∃ z2 a3 b3, r2.cell? (nb g) = some (slice z2 a3 b3) ∧
 CP 97 #[int .i64 (a3 : Int), func (.func 100) #[] #[pointer (some (nb c1)), pointer (some (nb k2)), pointer (some (nb w)), pointer (some (nb n2)), pointer (some (nb g))]] r2 (fun c3 d3 =>
 ∃ e3 f3 g3, c3 = .returned (slice e3 f3 g3) ∧
 (d3.cell? (u2.add 2) = some (slice v2 x2 y2) ∧ True) ∧
 (d3.cell? (nb c1) = some (pointer t2) ∧ True) ∧
 (d3.cell? (nb c1) = some (pointer s2) ∧ True) ∧
 ∀ h3, h3 = d3.alloc (.cells #[slice e3 f3 g3] 109) →
 (h3.cell? (u2.add 2) = some (slice v2 x2 y2) ∧ True) ∧
 (h3.cell? (nb c1) = some (pointer t2) ∧ True) ∧
 (h3.cell? (nb c1) = some (pointer s2) ∧ True) ∧
 ∃ i3 j3 k3 l3, (Builtin.append_ #[108, 108] 108 #[slice v2 x2 y2, slice (some (nb d3)) 1 1]).run Tryz.prog h3 = .ok (slice i3 j3 k3) l3 ∧
 (l3.cell? (nb c1) = some (pointer s2) ∧ True) ∧
 NilC s2 (fun m3 =>
 (slice i3 j3 k3).oneCell' = true ∧ (∃ u, l3.cell? (m3.add 2) = some u) ∧ l3.frozen? (m3.add 2) = false ∧
 ∀ n3, n3 = (l3.setCell (m3.add 2) (slice i3 j3 k3)) →
 Ar .i64 (j2 + 1) (fun o3 =>
 i2 [int .i64 o3] n3))))))
 (∃ p3, k2.cell? (nb c1) = some (pointer p3) ∧
 R (tuple #[pointer p3, int .i64 0]) k2)) → i2 [int .i64 j2] k2) →
 i2 [int .i64 0] e2)))) → i1 [int .i64 j1] k1) →
 i1 [int .i64 0] e1))))
theorem vc61_calls (a : OA) (b : Int) (w : World) (R : RW) (hh : vc61 a b w R) : CR 61 #[pointer a, int .i64 b] w R :=
 cden (fn := Tryz.f61) (by kernel_rfl) (by kernel_rfl) (by kernel_rfl) (by kernel_rfl) (by kernel_rfl) hh
def vc69 (a : OA) (b c : Nat) (w : World) (R : RW) : Prop :=
 CondP (Option.isNone a)
 (R (slice none 0 0) w)
 (∀ d, d = w.alloc (.cells #[] 57) →
 ∃ f g h i, (Builtin.append_ #[109, 109] 109 #[slice (some (nb w)) 0 0, slice a b c]).run Tryz.prog d = .ok (slice f g h) i ∧
 R (slice f g h) i)
theorem vc69_calls (a : OA) (b c : Nat) (w : World) (R : RW) (hh : vc69 a b c w R) : CR 69 #[slice a b c] w R :=
 cden (fn := Tryz.f69) (by kernel_rfl) (by kernel_rfl) (by kernel_rfl) (by kernel_rfl) (by kernel_rfl) hh
def vc70 (a : OA) (b c : Nat) (d : Int) (w : World) (R : RW) : Prop :=
 (64 : Int) ≠ 0 ∧
 NilC a (fun f =>
 (0 : Int) ≤ (IntKind.wrap .i64 (Int.tdiv d 64)) ∧ (IntKind.wrap .i64 (Int.tdiv d 64)) < (b : Int) ∧
 ∃ g, w.cell? (f.add ((IntKind.wrap .i64 (Int.tdiv d 64) : Int).toNat * 1)) = some (int .u64 g) ∧
 (64 : Int) ≠ 0 ∧
 (0 : Int) ≤ (Int.tmod d 64) ∧
 R (bool ((IntKind.wrap .u64 ((BitVec.ofInt (IntKind.bits .u64) (Int.fdiv g (2 ^ (min (Int.tmod d 64 : Int).toNat (IntKind.bits .u64)))) &&& BitVec.ofInt (IntKind.bits .u64) 1).toNat : Int) : Int) == 1)) w)
theorem vc70_calls (a : OA) (b c : Nat) (d : Int) (w : World) (R : RW) (hh : vc70 a b c d w R) : CR 70 #[slice a b c, int .i64 d] w R :=
 cden (fn := Tryz.f70) (by kernel_rfl) (by kernel_rfl) (by kernel_rfl) (by kernel_rfl) (by kernel_rfl) hh
def vc86 (a : OA) (b c : Nat) (w : World) (R : RW) : Prop :=
 CP 117 #[int .u64 (IntKind.wrap .u64 (b : Int))] w (fun d f =>
 ∃ g, d = .returned (int .i64 g) ∧
 CP 116 #[slice a b c, int .i64 0, int .i64 (b : Int), int .i64 g] f (fun h i =>
 h = .returned (tuple #[]) ∧
 R (tuple #[]) i))
theorem vc86_calls (a : OA) (b c : Nat) (w : World) (R : RW) (hh : vc86 a b c w R) : CR 86 #[slice a b c] w R :=
 cden (fn := Tryz.f86) (by kernel_rfl) (by kernel_rfl) (by kernel_rfl) (by kernel_rfl) (by kernel_rfl) hh
def vc90 (a : OA) (w : World) (R : RW) : Prop :=
 CP 125 #[pointer a] w (fun b c =>
 ∃ d, b = .returned (int .i64 d) ∧
 ∀ f : KW, (∀ (g : Int) (h : OA) (i j : Nat) (k : World), (CondP (decide (g < d))
 (∀ l, l = k.alloc (.cells #[int .i64 g] 3) →
 ∃ m n o p, (Builtin.append_ #[28, 28] 28 #[slice h i j, slice (some (nb k)) 1 1]).run Tryz.prog l = .ok (slice m n o) p ∧
 Ar .i64 (g + 1) (fun q =>
 f [int .i64 q, slice m n o] p))
 (CP 126 #[pointer a] k (fun r s =>
 ∃ t, r = .returned (pointer t) ∧
 CP 127 #[pointer t] s (fun u x =>
 ∃ y z a1, u = .returned (slice y z a1) ∧
 ∀ b1 : KW, (∀ (c1 : Int) (d1 : OA) (e1 f1 : Nat) (g1 : World), (CondP (decide (c1 < (z : Int)))
 (NilC y (fun h1 =>
 (0 : Int) ≤ c1 ∧ c1 < (z : Int) ∧
 ∃ i1 j1, (g1.cell? (h1.add (c1.toNat * 2)) = some (int .i64 i1) ∧ g1.cell? ((h1.add (c1.toNat * 2)).add 1) = some (string j1) ∧ True) ∧
 ∀ k1, k1 = g1.alloc (.cells #[int .i64 0, string ⟨#[]⟩] 171) →
 StoreP k1 (nb g1) (fun l1 =>
 ∃ m1, l1.cell? ((nb g1).add 0) = some (int .i64 m1) ∧
 ∀ n1, n1 = l1.alloc (.cells #[int .i64 m1] 3) →
 ∃ o1 p1 q1 r1, (Builtin.append_ #[28, 28] 28 #[slice d1 e1 f1, slice (some (nb l1)) 1 1]).run Tryz.prog n1 = .ok (slice o1 p1 q1) r1 ∧
 Ar .i64 (c1 + 1) (fun s1 =>
 b1 [int .i64 s1, slice o1 p1 q1] r1)) [int .i64 i1, string j1] 0))
 (CP 86 #[slice d1 e1 f1] g1 (fun t1 u1 =>
 t1 = .returned (tuple #[]) ∧
 R (slice d1 e1 f1) u1))) → b1 [int .i64 c1, slice d1 e1 f1] g1) →
 b1 [int .i64 0, slice h i j] x)))) → f [int .i64 g, slice h i j] k) →
 f [int .i64 0, slice none 0 0] c)
theorem vc90_calls (a : OA) (w : World) (R : RW) (hh : vc90 a w R) : CR 90 #[pointer a] w R :=
 cden (fn := Tryz.f90) (by kernel_rfl) (by kernel_rfl) (by kernel_rfl) (by kernel_rfl) (by kernel_rfl) hh
def vc97 (a : Int) (b : Value) (w : World) (R : RW) : Prop :=
 Ar .i64 (a + 64) (fun c =>
 Ar .i64 (c - 1) (fun d =>
 (64 : Int) ≠ 0 ∧
 ∃ f g h i, (Instr.makeSlice 109 (int .i64 (IntKind.wrap .i64 (Int.tdiv d 64))) (int .i64 (IntKind.wrap .i64 (Int.tdiv d 64)))).run Tryz.prog w = .ok (slice f g h) i ∧
 ∀ j : KW, (∀ (k : Int) (l : World), (CondP (decide (k < a))
 (∀ m : KW, (∀ n : World, (Ar .i64 (k + 1) (fun o =>
 j [int .i64 o] n)) → m [] n) →
 CallG ctx b [int .i64 k] l (fun p q =>
 ∃ r, p = .returned (bool r) ∧
 CondP r
 (CP 131 #[slice f g h, int .i64 k] q (fun s t =>
 s = .returned (tuple #[]) ∧
 m [] t))
 (m [] q)))
 (R (slice f g h) l)) → j [int .i64 k] l) →
 j [int .i64 0] i))
theorem vc97_calls (a : Int) (b : Value) (w : World) (R : RW) (hh : vc97 a b w R) : CR 97 #[int .i64 a, b] w R :=
 cden (fn := Tryz.f97) (by kernel_rfl) (by kernel_rfl) (by kernel_rfl) (by kernel_rfl) (by kernel_rfl) hh
def vc98 (a : Int) (b c : OA) (w : World) (R : RW) : Prop :=
 ∀ d, d = w.drew →
 NilC b (fun f =>
 ∃ g, d.cell? f = some (pointer g) ∧
 NilC c (fun h =>
 ∃ i j k, d.cell? h = some (slice i j k) ∧
 NilC i (fun l =>
 (0 : Int) ≤ a ∧ a < (j : Int) ∧
 ∃ m, d.cell? (l.add (a.toNat * 1)) = some (int .i64 m) ∧
 CP 99 #[pointer g, int .i64 m] d (fun n o =>
 ∃ p, n = .returned (bool p) ∧
 R (bool p) o))))
theorem vc98_calls (a : Int) (b c : OA) (w : World) (R : RW) (hh : vc98 a b c w R) : CR 98 #[int .i64 a, pointer b, pointer c] w R :=
 cden (fn := Tryz.f98) (by kernel_rfl) (by kernel_rfl) (by kernel_rfl) (by kernel_rfl) (by kernel_rfl) hh
def vc100 (a : Int) (b c d f g : OA) (w : World) (R : RW) : Prop :=
 ∀ h, h = w.drew →
 NilC b (fun i =>
 ∃ j, h.cell? i = some (pointer j) ∧
 NilC j (fun k =>
 ∃ l m n, h.cell? (k.add 3) = some (slice l m n) ∧
 NilC c (fun o =>
 ∃ p, h.cell? o = some (int .i64 p) ∧
 CP 70 #[slice l m n, int .i64 p] h (fun q r =>
 ∃ s, q = .returned (bool s) ∧
 CondP s
 (NilC b (fun t =>
 ∃ u, r.cell? t = some (pointer u) ∧
 NilC u (fun x =>
 ∃ y z a1, r.cell? (x.add 3) = some (slice y z a1) ∧
 CP 70 #[slice y z a1, int .i64 a] r (fun b1 c1 =>
 ∃ d1, b1 = .returned (bool d1) ∧
 CondP d1
 (NilC d (fun e1 =>
 ∃ f1, c1.cell? e1 = some (pointer f1) ∧
 NilC f (fun g1 =>
 ∃ h1, c1.cell? g1 = some (int .i64 h1) ∧
 NilC g (fun i1 =>
 ∃ j1 k1 l1, c1.cell? i1 = some (slice j1 k1 l1) ∧
 NilC j1 (fun m1 =>
 (0 : Int) ≤ a ∧ a < (k1 : Int) ∧
 ∃ n1, c1.cell? (m1.add (a.toNat * 1)) = some (int .i64 n1) ∧
 CP 101 #[pointer f1, int .i64 h1, int .i64 n1] c1 (fun o1 p1 =>
 ∃ q1, o1 = .returned (bool q1) ∧
 R (bool q1) p1))))))
 (R (bool false) c1)))))
 (R (bool false) r)))))
theorem vc100_calls (a : Int) (b c d f g : OA) (w : World) (R : RW) (hh : vc100 a b c d f g w R) : CR 100 #[int .i64 a, pointer b, pointer c, pointer d, pointer f, pointer g] w R :=
 cden (fn := Tryz.f100) (by kernel_rfl) (by kernel_rfl) (by kernel_rfl) (by kernel_rfl) (by kernel_rfl) hh
def vc101 (a : OA) (b c : Int) (w : World) (R : RW) : Prop :=
 CP 99 #[pointer a, int .i64 b] w (fun d f =>
 ∃ g, d = .returned (bool g) ∧
 CondP g
 (CP 99 #[pointer a, int .i64 c] f (fun h i =>
 ∃ j, h = .returned (bool j) ∧
 CondP j
 (CP 135 #[pointer a, int .i64 b, int .i64 c] i (fun k l =>
 ∃ m, k = .returned (bool m) ∧
 R (bool m) l))
 (R (bool false) i)))
 (R (bool false) f))
theorem vc101_calls (a : OA) (b c : Int) (w : World) (R : RW) (hh : vc101 a b c w R) : CR 101 #[pointer a, int .i64 b, int .i64 c] w R :=
 cden (fn := Tryz.f101) (by kernel_rfl) (by kernel_rfl) (by kernel_rfl) (by kernel_rfl) (by kernel_rfl) hh
def vc116 (a : OA) (b c : Nat) (d f g : Int) (w : World) (R : RW) : Prop :=
 ∀ h : KW, (∀ (i j : Bool) (k l m : Int) (n : World), (∀ o : KW, (∀ (p q : Bool) (r s t : Int) (u : World), (h [bool p, bool q, int .i64 r, int .i64 s, int .i64 t] u) → o [bool p, bool q, int .i64 r, int .i64 s, int .i64 t] u) →
 Ar .i64 (l - k) (fun x =>
 CondP (decide (x ≤ 12))
 (CP 168 #[slice a b c, int .i64 k, int .i64 l] n (fun y z =>
 y = .returned (tuple #[]) ∧
 R (tuple #[]) z))
 (CondP (m == 0)
 (CP 169 #[slice a b c, int .i64 k, int .i64 l] n (fun a1 b1 =>
 a1 = .returned (tuple #[]) ∧
 R (tuple #[]) b1))
 (∀ c1 : KW, (∀ (d1 : Int) (e1 : World), (CP 171 #[slice a b c, int .i64 k, int .i64 l] e1 (fun f1 g1 =>
 ∃ h1 i1, f1 = .returned (tuple #[int .i64 h1, int .i64 i1]) ∧
 ∀ j1 : KW, (∀ (k1 l1 : Int) (m1 : World), (∀ n1 : KW, (∀ o1 : World, (∀ p1, p1 = o1.drew →
 CondP (decide (k > 0))
 (Ar .i64 (k - 1) (fun q1 =>
 NilC a (fun r1 =>
 (0 : Int) ≤ q1 ∧ q1 < (b : Int) ∧
 ∃ s1, p1.cell? (r1.add (q1.toNat * 1)) = some (int .i64 s1) ∧
 NilC a (fun t1 =>
 (0 : Int) ≤ l1 ∧ l1 < (b : Int) ∧
 ∃ u1, p1.cell? (t1.add (l1.toNat * 1)) = some (int .i64 u1) ∧
 CP 174 #[int .i64 s1, int .i64 u1] p1 (fun v1 x1 =>
 ∃ y1, v1 = .returned (bool y1) ∧
 CondP (!y1)
 (CP 175 #[slice a b c, int .i64 k, int .i64 l, int .i64 l1] x1 (fun z1 a2 =>
 ∃ b2, z1 = .returned (int .i64 b2) ∧
 o [bool i, bool j, int .i64 b2, int .i64 l, int .i64 d1] a2))
 (CP 176 #[slice a b c, int .i64 k, int .i64 l, int .i64 l1] x1 (fun c2 d2 =>
 ∃ e2 f2, c2 = .returned (tuple #[int .i64 e2, bool f2]) ∧
 Ar .i64 (e2 - k) (fun g2 =>
 Ar .i64 (l - e2) (fun h2 =>
 (8 : Int) ≠ 0 ∧
 CondP (decide (g2 < h2))
 (CP 116 #[slice a b c, int .i64 k, int .i64 e2, int .i64 d1] d2 (fun i2 j2 =>
 i2 = .returned (tuple #[]) ∧
 Ar .i64 (e2 + 1) (fun k2 =>
 o [bool f2, bool (decide (g2 ≥ (IntKind.wrap .i64 (Int.tdiv x 8)))), int .i64 k2, int .i64 l, int .i64 d1] j2)))
 (Ar .i64 (e2 + 1) (fun l2 =>
 CP 116 #[slice a b c, int .i64 l2, int .i64 l, int .i64 d1] d2 (fun m2 n2 =>
 m2 = .returned (tuple #[]) ∧
 o [bool f2, bool (decide (h2 ≥ (IntKind.wrap .i64 (Int.tdiv x 8)))), int .i64 k, int .i64 e2, int .i64 d1] n2))))))))))))
 (CP 176 #[slice a b c, int .i64 k, int .i64 l, int .i64 l1] p1 (fun o2 p2 =>
 ∃ q2 r2, o2 = .returned (tuple #[int .i64 q2, bool r2]) ∧
 Ar .i64 (q2 - k) (fun s2 =>
 Ar .i64 (l - q2) (fun t2 =>
 (8 : Int) ≠ 0 ∧
 CondP (decide (s2 < t2))
 (CP 116 #[slice a b c, int .i64 k, int .i64 q2, int .i64 d1] p2 (fun u2 v2 =>
 u2 = .returned (tuple #[]) ∧
 Ar .i64 (q2 + 1) (fun x2 =>
 o [bool r2, bool (decide (s2 ≥ (IntKind.wrap .i64 (Int.tdiv x 8)))), int .i64 x2, int .i64 l, int .i64 d1] v2)))
 (Ar .i64 (q2 + 1) (fun y2 =>
 CP 116 #[slice a b c, int .i64 y2, int .i64 l, int .i64 d1] p2 (fun z2 a3 =>
 z2 = .returned (tuple #[]) ∧
 o [bool r2, bool (decide (t2 ≥ (IntKind.wrap .i64 (Int.tdiv x 8)))), int .i64 k, int .i64 q2, int .i64 d1] a3)))))))) → n1 [] o1) →
 CondP j
 (CondP i
 (CondP (k1 == 1)
 (CP 173 #[slice a b c, int .i64 k, int .i64 l] m1 (fun b3 c3 =>
 ∃ d3, b3 = .returned (bool d3) ∧
 CondP d3
 (R (tuple #[]) c3)
 (n1 [] c3)))
 (n1 [] m1))
 (n1 [] m1))
 (n1 [] m1)) → j1 [int .i64 k1, int .i64 l1] m1) →
 CondP (i1 == 2)
 (CP 172 #[slice a b c, int .i64 k, int .i64 l] g1 (fun e3 f3 =>
 e3 = .returned (tuple #[]) ∧
 Ar .i64 (l - 1) (fun g3 =>
 Ar .i64 (h1 - k) (fun h3 =>
 Ar .i64 (g3 - h3) (fun i3 =>
 j1 [int .i64 1, int .i64 i3] f3)))))
 (j1 [int .i64 i1, int .i64 h1] g1))) → c1 [int .i64 d1] e1) →
 CondP (!j)
 (CP 170 #[slice a b c, int .i64 k, int .i64 l] n (fun j3 k3 =>
 j3 = .returned (tuple #[]) ∧
 Ar .i64 (m - 1) (fun l3 =>
 c1 [int .i64 l3] k3)))
 (c1 [int .i64 m] n))))) → h [bool i, bool j, int .i64 k, int .i64 l, int .i64 m] n) →
 h [bool true, bool true, int .i64 d, int .i64 f, int .i64 g] w
theorem vc116_calls (a : OA) (b c : Nat) (d f g : Int) (w : World) (R : RW) (hh : vc116 a b c d f g w R) : CR 116 #[slice a b c, int .i64 d, int .i64 f, int .i64 g] w R :=
 cden (fn := Tryz.f116) (by kernel_rfl) (by kernel_rfl) (by kernel_rfl) (by kernel_rfl) (by kernel_rfl) hh
def vc117 (a : Int) (w : World) (R : RW) : Prop :=
 CP 178 #[int .u64 a] w (fun b c =>
 ∃ d, b = .returned (int .i64 d) ∧
 R (int .i64 d) c)
theorem vc117_calls (a : Int) (w : World) (R : RW) (hh : vc117 a w R) : CR 117 #[int .u64 a] w R :=
 cden (fn := Tryz.f117) (by kernel_rfl) (by kernel_rfl) (by kernel_rfl) (by kernel_rfl) (by kernel_rfl) hh
def vc122 (a b : OA) (c d : Nat) (w : World) (R : RW) : Prop :=
 ∀ f : KW, (∀ (g : Int) (h : Bool) (i : Int) (j : World), (CondP (decide (g < (c : Int)))
 (NilC b (fun k =>
 (0 : Int) ≤ g ∧ g < (c : Int) ∧
 ∃ l, j.cell? (k.add (g.toNat * 1)) = some (int .i64 l) ∧
 CP 32 #[pointer a, int .i64 l] j (fun m n =>
 ∃ o, m = .returned (bool o) ∧
 CondP (!o)
 (R (tuple #[int .i64 g, bool true]) n)
 (CondP (decide (g > 0))
 (Ar .i64 (g - 1) (fun p =>
 NilC b (fun q =>
 (0 : Int) ≤ p ∧ p < (c : Int) ∧
 ∃ r, n.cell? (q.add (p.toNat * 1)) = some (int .i64 r) ∧
 CP 33 #[pointer a, int .i64 r, int .i64 l] n (fun s t =>
 ∃ u, s = .returned (bool u) ∧
 CondP (!u)
 (R (tuple #[int .i64 g, bool true]) t)
 (Ar .i64 (g + 1) (fun x =>
 f [int .i64 x, bool h, int .i64 i] t))))))
 (Ar .i64 (g + 1) (fun y =>
 f [int .i64 y, bool h, int .i64 i] n))))))
 (R (tuple #[int .i64 0, bool false]) j)) → f [int .i64 g, bool h, int .i64 i] j) →
 f [int .i64 0, bool false, int .i64 0] w
theorem vc122_calls (a b : OA) (c d : Nat) (w : World) (R : RW) (hh : vc122 a b c d w R) : CR 122 #[pointer a, slice b c d] w R :=
 cden (fn := Tryz.f122) (by kernel_rfl) (by kernel_rfl) (by kernel_rfl) (by kernel_rfl) (by kernel_rfl) hh
def vc127 (a : OA) (w : World) (R : RW) : Prop :=
 CondP (Option.isNone a)
 (R (slice none 0 0) w)
 (NilC a (fun b =>
 ∃ c d f, w.cell? (b.add 0) = some (slice c d f) ∧
 CP 182 #[slice c d f] w (fun g h =>
 ∃ i j k, g = .returned (slice i j k) ∧
 R (slice i j k) h)))
theorem vc127_calls (a : OA) (w : World) (R : RW) (hh : vc127 a w R) : CR 127 #[pointer a] w R :=
 cden (fn := Tryz.f127) (by kernel_rfl) (by kernel_rfl) (by kernel_rfl) (by kernel_rfl) (by kernel_rfl) hh
def vc131 (a : OA) (b c : Nat) (d : Int) (w : World) (R : RW) : Prop :=
 ∀ f, f = w.drew →
 (64 : Int) ≠ 0 ∧
 NilC a (fun g =>
 (0 : Int) ≤ (IntKind.wrap .i64 (Int.tdiv d 64)) ∧ (IntKind.wrap .i64 (Int.tdiv d 64)) < (b : Int) ∧
 ∃ h, f.cell? (g.add ((IntKind.wrap .i64 (Int.tdiv d 64) : Int).toNat * 1)) = some (int .u64 h) ∧
 (64 : Int) ≠ 0 ∧
 (0 : Int) ≤ (Int.tmod d 64) ∧
 NilC a (fun i =>
 (0 : Int) ≤ (IntKind.wrap .i64 (Int.tdiv d 64)) ∧ (IntKind.wrap .i64 (Int.tdiv d 64)) < (b : Int) ∧
 (int .u64 (IntKind.wrap .u64 ((BitVec.ofInt (IntKind.bits .u64) h ||| BitVec.ofInt (IntKind.bits .u64) (IntKind.wrap .u64 ((1 : Int) * 2 ^ (min (Int.tmod d 64 : Int).toNat (IntKind.bits .u64))))).toNat : Int))).oneCell' = true ∧ (∃ u, f.cell? (i.add ((IntKind.wrap .i64 (Int.tdiv d 64) : Int).toNat * 1)) = some u) ∧ f.frozen? (i.add ((IntKind.wrap .i64 (Int.tdiv d 64) : Int).toNat * 1)) = false ∧
 ∀ j, j = (f.setCell (i.add ((IntKind.wrap .i64 (Int.tdiv d 64) : Int).toNat * 1)) (int .u64 (IntKind.wrap .u64 ((BitVec.ofInt (IntKind.bits .u64) h ||| BitVec.ofInt (IntKind.bits .u64) (IntKind.wrap .u64 ((1 : Int) * 2 ^ (min (Int.tmod d 64 : Int).toNat (IntKind.bits .u64))))).toNat : Int)))) →
 R (tuple #[]) j))
theorem vc131_calls (a : OA) (b c : Nat) (d : Int) (w : World) (R : RW) (hh : vc131 a b c d w R) : CR 131 #[slice a b c, int .i64 d] w R :=
 cden (fn := Tryz.f131) (by kernel_rfl) (by kernel_rfl) (by kernel_rfl) (by kernel_rfl) (by kernel_rfl) hh
def vc171 (a : OA) (b c : Nat) (d f : Int) (w : World) (R : RW) : Prop :=
 Ar .i64 (f - d) (fun g =>
 ∀ h, h = w.alloc (.cells #[int .i64 0] 3) →
 (4 : Int) ≠ 0 ∧
 Ar .i64 ((IntKind.wrap .i64 (Int.tdiv g 4) : Int) * 1) (fun i =>
 Ar .i64 (d + i) (fun j =>
 (4 : Int) ≠ 0 ∧
 Ar .i64 ((IntKind.wrap .i64 (Int.tdiv g 4) : Int) * 2) (fun k =>
 Ar .i64 (d + k) (fun l =>
 (4 : Int) ≠ 0 ∧
 Ar .i64 ((IntKind.wrap .i64 (Int.tdiv g 4) : Int) * 3) (fun m =>
 Ar .i64 (d + m) (fun n =>
 ∀ o : KW, (∀ (p q r : Int) (s : World), (∃ t, s.cell? (nb w) = some (int .i64 t) ∧
 CondP (t == 0)
 (R (tuple #[int .i64 q, int .i64 1]) s)
 (CondP (t == 12)
 (R (tuple #[int .i64 q, int .i64 2]) s)
 (R (tuple #[int .i64 q, int .i64 0]) s))) → o [int .i64 p, int .i64 q, int .i64 r] s) →
 CondP (decide (g ≥ 8))
 (∀ u : KW, (∀ (x y z : Int) (a1 : World), (CP 225 #[slice a b c, int .i64 z, int .i64 y, int .i64 x, pointer (some (nb w))] a1 (fun b1 c1 =>
 ∃ d1, b1 = .returned (int .i64 d1) ∧
 o [int .i64 x, int .i64 d1, int .i64 z] c1)) → u [int .i64 x, int .i64 y, int .i64 z] a1) →
 CondP (decide (g ≥ 50))
 (CP 224 #[slice a b c, int .i64 j, pointer (some (nb w))] h (fun e1 f1 =>
 ∃ g1, e1 = .returned (int .i64 g1) ∧
 CP 224 #[slice a b c, int .i64 l, pointer (some (nb w))] f1 (fun h1 i1 =>
 ∃ j1, h1 = .returned (int .i64 j1) ∧
 CP 224 #[slice a b c, int .i64 n, pointer (some (nb w))] i1 (fun k1 l1 =>
 ∃ m1, k1 = .returned (int .i64 m1) ∧
 u [int .i64 m1, int .i64 j1, int .i64 g1] l1))))
 (u [int .i64 n, int .i64 l, int .i64 j] h))
 (o [int .i64 n, int .i64 l, int .i64 j] h))))))))
theorem vc171_calls (a : OA) (b c : Nat) (d f : Int) (w : World) (R : RW) (hh : vc171 a b c d f w R) : CR 171 #[slice a b c, int .i64 d, int .i64 f] w R :=
 cden (fn := Tryz.f171) (by kernel_rfl) (by kernel_rfl) (by kernel_rfl) (by kernel_rfl) (by kernel_rfl) hh
def vc173 (a : OA) (b c : Nat) (d f : Int) (w : World) (R : RW) : Prop :=
 Ar .i64 (d + 1) (fun g =>
 ∀ h : KW, (∀ (i j : Int) (k : Bool) (l : World), (CondP (decide (i < 5))
 (∀ m : KW, (∀ (n : Int) (o : Bool) (p : World), (Ar .i64 (i + 1) (fun q =>
 h [int .i64 q, int .i64 n, bool o] p)) → m [int .i64 n, bool o] p) →
 ∀ r : KW, (∀ (s : Int) (t : World), (∀ x, x = t.drew →
 CondP (decide (s < f))
 (NilC a (fun y =>
 (0 : Int) ≤ s ∧ s < (b : Int) ∧
 ∃ z, x.cell? (y.add (s.toNat * 1)) = some (int .i64 z) ∧
 Ar .i64 (s - 1) (fun a1 =>
 NilC a (fun b1 =>
 (0 : Int) ≤ a1 ∧ a1 < (b : Int) ∧
 ∃ c1, x.cell? (b1.add (a1.toNat * 1)) = some (int .i64 c1) ∧
 CP 174 #[int .i64 z, int .i64 c1] x (fun d1 e1 =>
 ∃ f1, d1 = .returned (bool f1) ∧
 CondP (!f1)
 (Ar .i64 (s + 1) (fun g1 =>
 r [int .i64 g1] e1))
 (CondP (s == f)
 (R (bool true) e1)
 (Ar .i64 (f - d) (fun h1 =>
 CondP (decide (h1 < 50))
 (R (bool false) e1)
 (∀ i1, i1 = e1.drew →
 Ar .i64 (s - 1) (fun j1 =>
 Ar .i64 (s - 1) (fun k1 =>
 NilC a (fun l1 =>
 (0 : Int) ≤ k1 ∧ k1 < (b : Int) ∧
 ∃ m1, i1.cell? (l1.add (k1.toNat * 1)) = some (int .i64 m1) ∧
 NilC a (fun n1 =>
 (0 : Int) ≤ s ∧ s < (b : Int) ∧
 ∃ o1, i1.cell? (n1.add (s.toNat * 1)) = some (int .i64 o1) ∧
 NilC a (fun p1 =>
 (0 : Int) ≤ s ∧ s < (b : Int) ∧
 (int .i64 m1).oneCell' = true ∧ (∃ u, i1.cell? (p1.add (s.toNat * 1)) = some u) ∧ i1.frozen? (p1.add (s.toNat * 1)) = false ∧
 ∀ q1, q1 = (i1.setCell (p1.add (s.toNat * 1)) (int .i64 m1)) →
 NilC a (fun r1 =>
 (0 : Int) ≤ j1 ∧ j1 < (b : Int) ∧
 (int .i64 o1).oneCell' = true ∧ (∃ u, q1.cell? (r1.add (j1.toNat * 1)) = some u) ∧ q1.frozen? (r1.add (j1.toNat * 1)) = false ∧
 ∀ s1, s1 = (q1.setCell (r1.add (j1.toNat * 1)) (int .i64 o1)) →
 ∀ t1 : KW, (∀ u1 : World, (Ar .i64 (f - s) (fun v1 =>
 CondP (decide (v1 ≥ 2))
 (Ar .i64 (s + 1) (fun x1 =>
 ∀ y1 : KW, (∀ (z1 : Int) (a2 : World), (m [int .i64 s, bool k] a2) → y1 [int .i64 z1] a2) →
 ∀ b2 : KW, (∀ (c2 : Int) (d2 : World), (CondP (decide (c2 < f))
 (∀ e2, e2 = d2.drew →
 NilC a (fun f2 =>
 (0 : Int) ≤ c2 ∧ c2 < (b : Int) ∧
 ∃ g2, e2.cell? (f2.add (c2.toNat * 1)) = some (int .i64 g2) ∧
 Ar .i64 (c2 - 1) (fun h2 =>
 NilC a (fun i2 =>
 (0 : Int) ≤ h2 ∧ h2 < (b : Int) ∧
 ∃ j2, e2.cell? (i2.add (h2.toNat * 1)) = some (int .i64 j2) ∧
 CP 174 #[int .i64 g2, int .i64 j2] e2 (fun k2 l2 =>
 ∃ m2, k2 = .returned (bool m2) ∧
 CondP (!m2)
 (y1 [int .i64 c2] l2)
 (∀ n2, n2 = l2.drew →
 Ar .i64 (c2 - 1) (fun o2 =>
 Ar .i64 (c2 - 1) (fun p2 =>
 NilC a (fun q2 =>
 (0 : Int) ≤ p2 ∧ p2 < (b : Int) ∧
 ∃ r2, n2.cell? (q2.add (p2.toNat * 1)) = some (int .i64 r2) ∧
 NilC a (fun s2 =>
 (0 : Int) ≤ c2 ∧ c2 < (b : Int) ∧
 ∃ t2, n2.cell? (s2.add (c2.toNat * 1)) = some (int .i64 t2) ∧
 NilC a (fun u2 =>
 (0 : Int) ≤ c2 ∧ c2 < (b : Int) ∧
 (int .i64 r2).oneCell' = true ∧ (∃ u, n2.cell? (u2.add (c2.toNat * 1)) = some u) ∧ n2.frozen? (u2.add (c2.toNat * 1)) = false ∧
 ∀ v2, v2 = (n2.setCell (u2.add (c2.toNat * 1)) (int .i64 r2)) →
 NilC a (fun x2 =>
 (0 : Int) ≤ o2 ∧ o2 < (b : Int) ∧
 (int .i64 t2).oneCell' = true ∧ (∃ u, v2.cell? (x2.add (o2.toNat * 1)) = some u) ∧ v2.frozen? (x2.add (o2.toNat * 1)) = false ∧
 ∀ y2, y2 = (v2.setCell (x2.add (o2.toNat * 1)) (int .i64 t2)) →
 Ar .i64 (c2 + 1) (fun z2 =>
 b2 [int .i64 z2] y2)))))))))))))
 (y1 [int .i64 c2] d2)) → b2 [int .i64 c2] d2) →
 b2 [int .i64 x1] u1))
 (m [int .i64 s, bool k] u1))) → t1 [] u1) →
 Ar .i64 (s - d) (fun a3 =>
 CondP (decide (a3 ≥ 2))
 (Ar .i64 (s - 1) (fun b3 =>
 ∀ c3 : KW, (∀ (d3 : Int) (e3 : World), (t1 [] e3) → c3 [int .i64 d3] e3) →
 ∀ f3 : KW, (∀ (g3 : Int) (h3 : World), (CondP (decide (g3 ≥ 1))
 (∀ i3, i3 = h3.drew →
 NilC a (fun j3 =>
 (0 : Int) ≤ g3 ∧ g3 < (b : Int) ∧
 ∃ k3, i3.cell? (j3.add (g3.toNat * 1)) = some (int .i64 k3) ∧
 Ar .i64 (g3 - 1) (fun l3 =>
 NilC a (fun m3 =>
 (0 : Int) ≤ l3 ∧ l3 < (b : Int) ∧
 ∃ n3, i3.cell? (m3.add (l3.toNat * 1)) = some (int .i64 n3) ∧
 CP 174 #[int .i64 k3, int .i64 n3] i3 (fun o3 p3 =>
 ∃ q3, o3 = .returned (bool q3) ∧
 CondP (!q3)
 (c3 [int .i64 g3] p3)
 (∀ r3, r3 = p3.drew →
 Ar .i64 (g3 - 1) (fun s3 =>
 Ar .i64 (g3 - 1) (fun t3 =>
 NilC a (fun u3 =>
 (0 : Int) ≤ t3 ∧ t3 < (b : Int) ∧
 ∃ v3, r3.cell? (u3.add (t3.toNat * 1)) = some (int .i64 v3) ∧
 NilC a (fun x3 =>
 (0 : Int) ≤ g3 ∧ g3 < (b : Int) ∧
 ∃ y3, r3.cell? (x3.add (g3.toNat * 1)) = some (int .i64 y3) ∧
 NilC a (fun z3 =>
 (0 : Int) ≤ g3 ∧ g3 < (b : Int) ∧
 (int .i64 v3).oneCell' = true ∧ (∃ u, r3.cell? (z3.add (g3.toNat * 1)) = some u) ∧ r3.frozen? (z3.add (g3.toNat * 1)) = false ∧
 ∀ a4, a4 = (r3.setCell (z3.add (g3.toNat * 1)) (int .i64 v3)) →
 NilC a (fun b4 =>
 (0 : Int) ≤ s3 ∧ s3 < (b : Int) ∧
 (int .i64 y3).oneCell' = true ∧ (∃ u, a4.cell? (b4.add (s3.toNat * 1)) = some u) ∧ a4.frozen? (b4.add (s3.toNat * 1)) = false ∧
 ∀ c4, c4 = (a4.setCell (b4.add (s3.toNat * 1)) (int .i64 y3)) →
 Ar .i64 (g3 - 1) (fun d4 =>
 f3 [int .i64 d4] c4)))))))))))))
 (c3 [int .i64 g3] h3)) → f3 [int .i64 g3] h3) →
 f3 [int .i64 b3] s1))
 (t1 [] s1)))))))))))))))))
 (CondP (s == f)
 (R (bool true) x)
 (Ar .i64 (f - d) (fun e4 =>
 CondP (decide (e4 < 50))
 (R (bool false) x)
 (∀ f4, f4 = x.drew →
 Ar .i64 (s - 1) (fun g4 =>
 Ar .i64 (s - 1) (fun h4 =>
 NilC a (fun i4 =>
 (0 : Int) ≤ h4 ∧ h4 < (b : Int) ∧
 ∃ j4, f4.cell? (i4.add (h4.toNat * 1)) = some (int .i64 j4) ∧
 NilC a (fun k4 =>
 (0 : Int) ≤ s ∧ s < (b : Int) ∧
 ∃ l4, f4.cell? (k4.add (s.toNat * 1)) = some (int .i64 l4) ∧
 NilC a (fun m4 =>
 (0 : Int) ≤ s ∧ s < (b : Int) ∧
 (int .i64 j4).oneCell' = true ∧ (∃ u, f4.cell? (m4.add (s.toNat * 1)) = some u) ∧ f4.frozen? (m4.add (s.toNat * 1)) = false ∧
 ∀ n4, n4 = (f4.setCell (m4.add (s.toNat * 1)) (int .i64 j4)) →
 NilC a (fun o4 =>
 (0 : Int) ≤ g4 ∧ g4 < (b : Int) ∧
 (int .i64 l4).oneCell' = true ∧ (∃ u, n4.cell? (o4.add (g4.toNat * 1)) = some u) ∧ n4.frozen? (o4.add (g4.toNat * 1)) = false ∧
 ∀ p4, p4 = (n4.setCell (o4.add (g4.toNat * 1)) (int .i64 l4)) →
 ∀ q4 : KW, (∀ r4 : World, (Ar .i64 (f - s) (fun s4 =>
 CondP (decide (s4 ≥ 2))
 (Ar .i64 (s + 1) (fun t4 =>
 ∀ u4 : KW, (∀ (v4 : Int) (x4 : World), (m [int .i64 s, bool k] x4) → u4 [int .i64 v4] x4) →
 ∀ y4 : KW, (∀ (z4 : Int) (a5 : World), (CondP (decide (z4 < f))
 (∀ b5, b5 = a5.drew →
 NilC a (fun c5 =>
 (0 : Int) ≤ z4 ∧ z4 < (b : Int) ∧
 ∃ d5, b5.cell? (c5.add (z4.toNat * 1)) = some (int .i64 d5) ∧
 Ar .i64 (z4 - 1) (fun e5 =>
 NilC a (fun f5 =>
 (0 : Int) ≤ e5 ∧ e5 < (b : Int) ∧
 ∃ g5, b5.cell? (f5.add (e5.toNat * 1)) = some (int .i64 g5) ∧
 CP 174 #[int .i64 d5, int .i64 g5] b5 (fun h5 i5 =>
 ∃ j5, h5 = .returned (bool j5) ∧
 CondP (!j5)
 (u4 [int .i64 z4] i5)
 (∀ k5, k5 = i5.drew →
 Ar .i64 (z4 - 1) (fun l5 =>
 Ar .i64 (z4 - 1) (fun m5 =>
 NilC a (fun n5 =>
 (0 : Int) ≤ m5 ∧ m5 < (b : Int) ∧
 ∃ o5, k5.cell? (n5.add (m5.toNat * 1)) = some (int .i64 o5) ∧
 NilC a (fun p5 =>
 (0 : Int) ≤ z4 ∧ z4 < (b : Int) ∧
 ∃ q5, k5.cell? (p5.add (z4.toNat * 1)) = some (int .i64 q5) ∧
 NilC a (fun r5 =>
 (0 : Int) ≤ z4 ∧ z4 < (b : Int) ∧
 (int .i64 o5).oneCell' = true ∧ (∃ u, k5.cell? (r5.add (z4.toNat * 1)) = some u) ∧ k5.frozen? (r5.add (z4.toNat * 1)) = false ∧
 ∀ s5, s5 = (k5.setCell (r5.add (z4.toNat * 1)) (int .i64 o5)) →
 NilC a (fun t5 =>
 (0 : Int) ≤ l5 ∧ l5 < (b : Int) ∧
 (int .i64 q5).oneCell' = true ∧ (∃ u, s5.cell? (t5.add (l5.toNat * 1)) = some u) ∧ s5.frozen? (t5.add (l5.toNat * 1)) = false ∧
 ∀ u5, u5 = (s5.setCell (t5.add (l5.toNat * 1)) (int .i64 q5)) →
 Ar .i64 (z4 + 1) (fun v5 =>
 y4 [int .i64 v5] u5)))))))))))))
 (u4 [int .i64 z4] a5)) → y4 [int .i64 z4] a5) →
 y4 [int .i64 t4] r4))
 (m [int .i64 s, bool k] r4))) → q4 [] r4) →
 Ar .i64 (s - d) (fun x5 =>
 CondP (decide (x5 ≥ 2))
 (Ar .i64 (s - 1) (fun y5 =>
 ∀ z5 : KW, (∀ (a6 : Int) (b6 : World), (q4 [] b6) → z5 [int .i64 a6] b6) →
 ∀ c6 : KW, (∀ (d6 : Int) (e6 : World), (CondP (decide (d6 ≥ 1))
 (∀ f6, f6 = e6.drew →
 NilC a (fun g6 =>
 (0 : Int) ≤ d6 ∧ d6 < (b : Int) ∧
 ∃ h6, f6.cell? (g6.add (d6.toNat * 1)) = some (int .i64 h6) ∧
 Ar .i64 (d6 - 1) (fun i6 =>
 NilC a (fun j6 =>
 (0 : Int) ≤ i6 ∧ i6 < (b : Int) ∧
 ∃ k6, f6.cell? (j6.add (i6.toNat * 1)) = some (int .i64 k6) ∧
 CP 174 #[int .i64 h6, int .i64 k6] f6 (fun l6 m6 =>
 ∃ n6, l6 = .returned (bool n6) ∧
 CondP (!n6)
 (z5 [int .i64 d6] m6)
 (∀ o6, o6 = m6.drew →
 Ar .i64 (d6 - 1) (fun p6 =>
 Ar .i64 (d6 - 1) (fun q6 =>
 NilC a (fun r6 =>
 (0 : Int) ≤ q6 ∧ q6 < (b : Int) ∧
 ∃ s6, o6.cell? (r6.add (q6.toNat * 1)) = some (int .i64 s6) ∧
 NilC a (fun t6 =>
 (0 : Int) ≤ d6 ∧ d6 < (b : Int) ∧
 ∃ u6, o6.cell? (t6.add (d6.toNat * 1)) = some (int .i64 u6) ∧
 NilC a (fun v6 =>
 (0 : Int) ≤ d6 ∧ d6 < (b : Int) ∧
 (int .i64 s6).oneCell' = true ∧ (∃ u, o6.cell? (v6.add (d6.toNat * 1)) = some u) ∧ o6.frozen? (v6.add (d6.toNat * 1)) = false ∧
 ∀ x6, x6 = (o6.setCell (v6.add (d6.toNat * 1)) (int .i64 s6)) →
 NilC a (fun y6 =>
 (0 : Int) ≤ p6 ∧ p6 < (b : Int) ∧
 (int .i64 u6).oneCell' = true ∧ (∃ u, x6.cell? (y6.add (p6.toNat * 1)) = some u) ∧ x6.frozen? (y6.add (p6.toNat * 1)) = false ∧
 ∀ z6, z6 = (x6.setCell (y6.add (p6.toNat * 1)) (int .i64 u6)) →
 Ar .i64 (d6 - 1) (fun a7 =>
 c6 [int .i64 a7] z6)))))))))))))
 (z5 [int .i64 d6] e6)) → c6 [int .i64 d6] e6) →
 c6 [int .i64 y5] p4))
 (q4 [] p4))))))))))))) → r [int .i64 s] t) →
 r [int .i64 j] l)
 (R (bool false) l)) → h [int .i64 i, int .i64 j, bool k] l) →
 h [int .i64 0, int .i64 g, bool false] w)
theorem vc173_calls (a : OA) (b c : Nat) (d f : Int) (w : World) (R : RW) (hh : vc173 a b c d f w R) : CR 173 #[slice a b c, int .i64 d, int .i64 f] w R :=
 cden (fn := Tryz.f173) (by kernel_rfl) (by kernel_rfl) (by kernel_rfl) (by kernel_rfl) (by kernel_rfl) hh
def vc174 (a b : Int) (w : World) (R : RW) : Prop :=
 CP 226 #[int .i64 a] w (fun c d =>
 ∃ f, c = .returned (bool f) ∧
 CondP f
 (CP 226 #[int .i64 b] d (fun g h =>
 ∃ i, g = .returned (bool i) ∧
 CondP (!i)
 (R (bool true) h)
 (R (bool (decide (a < b))) h)))
 (R (bool (decide (a < b))) d))
theorem vc174_calls (a b : Int) (w : World) (R : RW) (hh : vc174 a b w R) : CR 174 #[int .i64 a, int .i64 b] w R :=
 cden (fn := Tryz.f174) (by kernel_rfl) (by kernel_rfl) (by kernel_rfl) (by kernel_rfl) (by kernel_rfl) hh
def vc178 (a : Int) (w : World) (R : RW) : Prop :=
 ∀ b : KW, (∀ (c d : Int) (f : World), (∀ g : KW, (∀ (h i : Int) (j : World), (∀ k : KW, (∀ (l m : Int) (n : World), ((0 : Int) ≤ (IntKind.wrap .u8 m) ∧ (IntKind.wrap .u8 m) < ((⟨#[0, 1, 2, 2, 3, 3, 3, 3, 4, 4, 4, 4, 4, 4, 4, 4, 5, 5, 5, 5, 5, 5, 5, 5, 5, 5, 5, 5, 5, 5, 5, 5, 6, 6, 6, 6, 6, 6, 6, 6, 6, 6, 6, 6, 6, 6, 6, 6, 6, 6, 6, 6, 6, 6, 6, 6, 6, 6, 6, 6, 6, 6, 6, 6, 7, 7, 7, 7, 7, 7, 7, 7, 7, 7, 7, 7, 7, 7, 7, 7, 7, 7, 7, 7, 7, 7, 7, 7, 7, 7, 7, 7, 7, 7, 7, 7, 7, 7, 7, 7, 7, 7, 7, 7, 7, 7, 7, 7, 7, 7, 7, 7, 7, 7, 7, 7, 7, 7, 7, 7, 7, 7, 7, 7, 7, 7, 7, 7, 8, 8, 8, 8, 8, 8, 8, 8, 8, 8, 8, 8, 8, 8, 8, 8, 8, 8, 8, 8, 8, 8, 8, 8, 8, 8, 8, 8, 8, 8, 8, 8, 8, 8, 8, 8, 8, 8, 8, 8, 8, 8, 8, 8, 8, 8, 8, 8, 8, 8, 8, 8, 8, 8, 8, 8, 8, 8, 8, 8, 8, 8, 8, 8, 8, 8, 8, 8, 8, 8, 8, 8, 8, 8, 8, 8, 8, 8, 8, 8, 8, 8, 8, 8, 8, 8, 8, 8, 8, 8, 8, 8, 8, 8, 8, 8, 8, 8, 8, 8, 8, 8, 8, 8, 8, 8, 8, 8, 8, 8, 8, 8, 8, 8, 8, 8, 8, 8, 8, 8, 8, 8, 8, 8, 8, 8, 8, 8]⟩ : ByteArray).size : Int) ∧
 Ar .i64 (l + (IntKind.wrap .i64 (btAt ⟨#[0, 1, 2, 2, 3, 3, 3, 3, 4, 4, 4, 4, 4, 4, 4, 4, 5, 5, 5, 5, 5, 5, 5, 5, 5, 5, 5, 5, 5, 5, 5, 5, 6, 6, 6, 6, 6, 6, 6, 6, 6, 6, 6, 6, 6, 6, 6, 6, 6, 6, 6, 6, 6, 6, 6, 6, 6, 6, 6, 6, 6, 6, 6, 6, 7, 7, 7, 7, 7, 7, 7, 7, 7, 7, 7, 7, 7, 7, 7, 7, 7, 7, 7, 7, 7, 7, 7, 7, 7, 7, 7, 7, 7, 7, 7, 7, 7, 7, 7, 7, 7, 7, 7, 7, 7, 7, 7, 7, 7, 7, 7, 7, 7, 7, 7, 7, 7, 7, 7, 7, 7, 7, 7, 7, 7, 7, 7, 7, 8, 8, 8, 8, 8, 8, 8, 8, 8, 8, 8, 8, 8, 8, 8, 8, 8, 8, 8, 8, 8, 8, 8, 8, 8, 8, 8, 8, 8, 8, 8, 8, 8, 8, 8, 8, 8, 8, 8, 8, 8, 8, 8, 8, 8, 8, 8, 8, 8, 8, 8, 8, 8, 8, 8, 8, 8, 8, 8, 8, 8, 8, 8, 8, 8, 8, 8, 8, 8, 8, 8, 8, 8, 8, 8, 8, 8, 8, 8, 8, 8, 8, 8, 8, 8, 8, 8, 8, 8, 8, 8, 8, 8, 8, 8, 8, 8, 8, 8, 8, 8, 8, 8, 8, 8, 8, 8, 8, 8, 8, 8, 8, 8, 8, 8, 8, 8, 8, 8, 8, 8, 8, 8, 8, 8, 8, 8, 8]⟩ (IntKind.wrap .u8 m)))) (fun o =>
 R (int .i64 o) n)) → k [int .i64 l, int .u64 m] n) →
 CondP (decide (i ≥ 256))
 ((0 : Int) ≤ 8 ∧
 Ar .i64 (h + 8) (fun p =>
 k [int .i64 p, int .u64 (Int.fdiv i (2 ^ (min (8 : Int).toNat (IntKind.bits .u64))))] j))
 (k [int .i64 h, int .u64 i] j)) → g [int .i64 h, int .u64 i] j) →
 CondP (decide (d ≥ 65536))
 ((0 : Int) ≤ 16 ∧
 Ar .i64 (c + 16) (fun q =>
 g [int .i64 q, int .u64 (Int.fdiv d (2 ^ (min (16 : Int).toNat (IntKind.bits .u64))))] f))
 (g [int .i64 c, int .u64 d] f)) → b [int .i64 c, int .u64 d] f) →
 CondP (decide (a ≥ 4294967296))
 ((0 : Int) ≤ 32 ∧
 b [int .i64 32, int .u64 (Int.fdiv a (2 ^ (min (32 : Int).toNat (IntKind.bits .u64))))] w)
 (b [int .i64 0, int .u64 a] w)
theorem vc178_calls (a : Int) (w : World) (R : RW) (hh : vc178 a w R) : CR 178 #[int .u64 a] w R :=
 cden (fn := Tryz.f178) (by kernel_rfl) (by kernel_rfl) (by kernel_rfl) (by kernel_rfl) (by kernel_rfl) hh
def vc224 (a : OA) (b c : Nat) (d : Int) (f : OA) (w : World) (R : RW) : Prop :=
 Ar .i64 (d - 1) (fun g =>
 Ar .i64 (d + 1) (fun h =>
 CP 225 #[slice a b c, int .i64 g, int .i64 d, int .i64 h, pointer f] w (fun i j =>
 ∃ k, i = .returned (int .i64 k) ∧
 R (int .i64 k) j)))
theorem vc224_calls (a : OA) (b c : Nat) (d : Int) (f : OA) (w : World) (R : RW) (hh : vc224 a b c d f w R) : CR 224 #[slice a b c, int .i64 d, pointer f] w R :=
 cden (fn := Tryz.f224) (by kernel_rfl) (by kernel_rfl) (by kernel_rfl) (by kernel_rfl) (by kernel_rfl) hh
def vc225 (a : OA) (b c : Nat) (d f g : Int) (h : OA) (w : World) (R : RW) : Prop :=
 CP 248 #[slice a b c, int .i64 d, int .i64 f, pointer h] w (fun i j =>
 ∃ k l, i = .returned (tuple #[int .i64 k, int .i64 l]) ∧
 CP 248 #[slice a b c, int .i64 l, int .i64 g, pointer h] j (fun m n =>
 ∃ o p, m = .returned (tuple #[int .i64 o, int .i64 p]) ∧
 CP 248 #[slice a b c, int .i64 k, int .i64 o, pointer h] n (fun q r =>
 ∃ s t, q = .returned (tuple #[int .i64 s, int .i64 t]) ∧
 R (int .i64 t) r)))
theorem vc225_calls (a : OA) (b c : Nat) (d f g : Int) (h : OA) (w : World) (R : RW) (hh : vc225 a b c d f g h w R) : CR 225 #[slice a b c, int .i64 d, int .i64 f, int .i64 g, pointer h] w R :=
 cden (fn := Tryz.f225) (by kernel_rfl) (by kernel_rfl) (by kernel_rfl) (by kernel_rfl) (by kernel_rfl) hh
def vc226 (a : Int) (w : World) (R : RW) : Prop :=
 R (bool (a != a)) w
theorem vc226_calls (a : Int) (w : World) (R : RW) (hh : vc226 a w R) : CR 226 #[int .i64 a] w R :=
 cden (fn := Tryz.f226) (by kernel_rfl) (by kernel_rfl) (by kernel_rfl) (by kernel_rfl) (by kernel_rfl) hh
def vc248 (a : OA) (b c : Nat) (d f : Int) (g : OA) (w : World) (R : RW) : Prop :=
 ∀ h, h = w.drew →
 NilC a (fun i =>
 (0 : Int) ≤ f ∧ f < (b : Int) ∧
 ∃ j, h.cell? (i.add (f.toNat * 1)) = some (int .i64 j) ∧
 NilC a (fun k =>
 (0 : Int) ≤ d ∧ d < (b : Int) ∧
 ∃ l, h.cell? (k.add (d.toNat * 1)) = some (int .i64 l) ∧
 CP 174 #[int .i64 j, int .i64 l] h (fun m n =>
 ∃ o, m = .returned (bool o) ∧
 CondP o
 (NilC g (fun p =>
 ∃ q, n.cell? p = some (int .i64 q) ∧
 Ar .i64 (q + 1) (fun r =>
 NilC g (fun s =>
 (int .i64 r).oneCell' = true ∧ (∃ u, n.cell? s = some u) ∧ n.frozen? s = false ∧
 ∀ t, t = (n.setCell s (int .i64 r)) →
 R (tuple #[int .i64 f, int .i64 d]) t))))
 (R (tuple #[int .i64 d, int .i64 f]) n))))
theorem vc248_calls (a : OA) (b c : Nat) (d f : Int) (g : OA) (w : World) (R : RW) (hh : vc248 a b c d f g w R) : CR 248 #[slice a b c, int .i64 d, int .i64 f, pointer g] w R :=
 cden (fn := Tryz.f248) (by kernel_rfl) (by kernel_rfl) (by kernel_rfl) (by kernel_rfl) (by kernel_rfl) hh
set_option linter.unusedSimpArgs false
open Go Go.RowKit
theorem isNaN_spec (n : Int) (w : World) : CP 226 #[.int .i64 n] w fun e w' => e = .returned (.bool false) ∧ w' = w := by
 refine calls_ret (vc226_calls n w (fun u w' => u = .bool false ∧ w' = w) ?_) (by rintro v w' ⟨rfl, h⟩; exact ⟨rfl, h⟩)
 exact ⟨by simp, rfl⟩
theorem less_spec (x y : Int) (w : World) : CP 174 #[.int .i64 x, .int .i64 y] w fun e w' => e = .returned (.bool (decide (x < y))) ∧ w' = w := by
 refine calls_ret (vc174_calls x y w (fun u w' => u = .bool (decide (x < y)) ∧ w' = w) ?_) (by rintro v w' ⟨rfl, h⟩; exact ⟨rfl, h⟩)
 refine (isNaN_spec x w).mono ?_
 rintro e w1 ⟨rfl, hw⟩
 subst hw
 exact ⟨_, rfl, CondP.no rfl ⟨rfl, rfl⟩⟩
def Rising (l : List Int) : Prop := ∀ (i j : Nat) (hi : i < l.length) (hj : j < l.length), i < j → l[i] < l[j]
section
variable {A : Option Addr} {C : Nat} {l : List Int}
theorem order2_spec (hs : Rising l) (w : World) (hr : Rw encInt 1 w A l) (i j : Nat) (hij : i < j) (hj : j < l.length) (p : Option Addr) :
  CP 248 #[.slice A l.length C, .int .i64 (i : Int), .int .i64 (j : Int), .pointer p] w fun e w' => e = .returned (.tuple #[.int .i64 (i : Int), .int .i64 (j : Int)]) ∧ Below w.heap.size w w' := by
 refine calls_ret (vc248_calls A l.length C i j p w (fun u w' => u = .tuple #[.int .i64 (i : Int), .int .i64 (j : Int)] ∧ Below w.heap.size w w') ?_) (by rintro v w' ⟨rfl, h⟩; exact ⟨rfl, h⟩)
 intro w1 hw1
 have b1 : Below w.heap.size w w1 := by subst hw1; exact drew_on w
 obtain ⟨q, hq, c1⟩ := cell_rw (hr.on b1) hj rfl
 obtain ⟨q', hq', c0⟩ := cell_rw (hr.on b1) (show i < l.length by omega) rfl
 refine NilC.mk q hq ⟨by omega, by omega, _, c1, NilC.mk q' hq' ⟨by omega, by omega, _, c0, ?_⟩⟩
 refine (less_spec _ _ w1).mono ?_
 rintro e w2 ⟨rfl, hw⟩
 subst hw
 exact ⟨_, rfl, CondP.no (decide_eq_false (by have := hs i j (by omega) hj hij; omega)) ⟨rfl, b1⟩⟩
theorem median_spec (hs : Rising l) (hl : l.length ≤ 1000000) (w : World) (hr : Rw encInt 1 w A l) (i j k : Nat) (hij : i < j) (hjk : j < k) (hk : k < l.length) (p : Option Addr) :
  CP 225 #[.slice A l.length C, .int .i64 (i : Int), .int .i64 (j : Int), .int .i64 (k : Int), .pointer p] w fun e w' => e = .returned (.int .i64 (j : Int)) ∧ Below w.heap.size w w' := by
 refine calls_ret (vc225_calls A l.length C i j k p w (fun u w' => u = .int .i64 (j : Int) ∧ Below w.heap.size w w') ?_) (by rintro v w' ⟨rfl, h⟩; exact ⟨rfl, h⟩)
 refine (order2_spec hs w hr i j hij (by omega) p).mono ?_
 rintro e w1 ⟨rfl, b1⟩
 refine ⟨_, _, rfl, ?_⟩
 refine (order2_spec hs w1 (hr.on b1) j k hjk hk p).mono ?_
 rintro e w2 ⟨rfl, b2⟩
 refine ⟨_, _, rfl, ?_⟩
 have b12 := below_then b1 b2
 refine (order2_spec hs w2 (hr.on b12) i j hij (by omega) p).mono ?_
 rintro e w3 ⟨rfl, b3⟩
 exact ⟨_, _, rfl, rfl, below_then b12 b3⟩
theorem medianAdj_spec (hs : Rising l) (hl : l.length ≤ 1000000) (w : World) (hr : Rw encInt 1 w A l) (j : Nat) (h0 : 0 < j) (hj : j + 1 < l.length) (p : Option Addr) :
  CP 224 #[.slice A l.length C, .int .i64 (j : Int), .pointer p] w fun e w' => e = .returned (.int .i64 (j : Int)) ∧ Below w.heap.size w w' := by
 refine calls_ret (vc224_calls A l.length C j p w (fun u w' => u = .int .i64 (j : Int) ∧ Below w.heap.size w w') ?_) (by rintro v w' ⟨rfl, h⟩; exact ⟨rfl, h⟩)
 refine Ar.nat (j - 1) (by omega) (by omega) (Ar.nat (j + 1) (by omega) (by omega) ?_)
 refine (median_spec hs hl w hr (j - 1) j (j + 1) (by omega) (by omega) hj p).mono ?_
 rintro e w1 ⟨rfl, b1⟩
 exact ⟨_, rfl, rfl, b1⟩
theorem pivot_spec (hs : Rising l) (hl : l.length ≤ 1000000) (w : World) (hr : Rw encInt 1 w A l) (h50 : 50 ≤ l.length) :
  CP 171 #[.slice A l.length C, .int .i64 0, .int .i64 (l.length : Int)] w fun e w' => ∃ n : Int, e = .returned (.tuple #[.int .i64 n, .int .i64 1]) ∧ Below w.heap.size w w' := by
 refine calls_ret (vc171_calls A l.length C 0 l.length w (fun u w' => ∃ n : Int, u = .tuple #[.int .i64 n, .int .i64 1] ∧ Below w.heap.size w w') ?_) (by rintro v w' ⟨n, rfl, h⟩; exact ⟨n, rfl, h⟩)
 refine Ar.nat l.length (by omega) (by omega) ?_
 intro w1 hw1
 have b1 : Below w.heap.size w w1 := by subst hw1; exact below_alloc _ _
 have l1 : w1.heap[w.heap.size]? = some (.cells #[.int .i64 0] tInt (0, 0)) := by subst hw1; exact alloc_new _ _
 have hdiv : IntKind.wrap .i64 (Int.tdiv (l.length : Int) 4) = ((l.length / 4 : Nat) : Int) := by
  have : Int.tdiv (l.length : Int) 4 = ((l.length / 4 : Nat) : Int) := rfl
  rw [this]
  exact wrap_in (by show (-9223372036854775808 : Int) ≤ _; omega) (by show _ ≤ (9223372036854775807 : Int); omega)
 rw [hdiv]
 refine ⟨by decide, Ar.nat (l.length / 4 * 1) (by omega) (by omega) (Ar.nat (l.length / 4 * 1) (by omega) (by omega) ⟨by decide, Ar.nat (l.length / 4 * 2) (by omega) (by omega) (Ar.nat (l.length / 4 * 2) (by omega) (by omega) ⟨by decide, Ar.nat (l.length / 4 * 3) (by omega) (by omega) (Ar.nat (l.length / 4 * 3) (by omega) (by omega) ?_)⟩)⟩)⟩
 intro J7 hJ7
 refine CondP.yes (decide_eq_true (by omega)) ?_
 intro J9 hJ9
 refine CondP.yes (decide_eq_true (by omega)) ?_
 refine (medianAdj_spec hs hl w1 (hr.on b1) (l.length / 4 * 1) (by omega) (by omega) _).mono ?_
 rintro e w2 ⟨rfl, b2⟩
 have b12 := below_then b1 b2
 refine ⟨_, rfl, (medianAdj_spec hs hl w2 (hr.on b12) (l.length / 4 * 2) (by omega) (by omega) _).mono ?_⟩
 rintro e w3 ⟨rfl, b3⟩
 have b13 := below_then b12 b3
 refine ⟨_, rfl, (medianAdj_spec hs hl w3 (hr.on b13) (l.length / 4 * 3) (by omega) (by omega) _).mono ?_⟩
 rintro e w4 ⟨rfl, b4⟩
 have b14 := below_then b13 b4
 refine ⟨_, rfl, hJ9 _ _ _ _ ((median_spec hs hl w4 (hr.on b14) (l.length / 4 * 1) (l.length / 4 * 2) (l.length / 4 * 3) (by omega) (by omega) (by omega) _).mono ?_)⟩
 rintro e w5 ⟨rfl, b5⟩
 have l5 := held_on b5 (held_on b4 (held_on b3 (held_on b2 l1)))
 exact ⟨_, rfl, hJ7 _ _ _ _ ⟨0, by rw [cell_heap l5]; rfl, CondP.yes rfl ⟨_, rfl, below_then b14 b5⟩⟩⟩
theorem partial_spec (hs : Rising l) (hl : l.length ≤ 1000000) (w : World) (hr : Rw encInt 1 w A l) (h0 : 0 < l.length) :
  CP 173 #[.slice A l.length C, .int .i64 0, .int .i64 (l.length : Int)] w fun e w' => e = .returned (.bool true) ∧ Below w.heap.size w w' := by
 refine calls_ret (vc173_calls A l.length C 0 l.length w (fun u w' => u = .bool true ∧ Below w.heap.size w w') ?_) (by rintro v w' ⟨rfl, h⟩; exact ⟨rfl, h⟩)
 refine Ar.nat 1 (by omega) (by omega) ?_
 intro I1 hI1
 refine hI1 _ _ _ _ (CondP.yes rfl ?_)
 intro J2 hJ2
 intro I6 hI6
 have key := climb2 (α := World) (l.length - 1) (fun i q => Below w.heap.size w q) (fun i q => I6 [.int .i64 ((i + 1 : Nat) : Int)] q) w (Below.refl _ _) ?_ ?_
 ·exact key
 ·rintro i hi ih q hB
  refine hI6 _ _ ?_
  intro q4 hq4
  have b4 : Below q.heap.size q q4 := by subst hq4; exact drew_on q
  have hB4 := below_then hB b4
  obtain ⟨p, hp, c1⟩ := cell_rw (hr.on hB4) (show i + 1 < l.length by omega) rfl
  obtain ⟨p', hp', c0⟩ := cell_rw (hr.on hB4) (show i < l.length by omega) rfl
  refine CondP.yes (by simp; omega) (NilC.mk p hp ⟨by omega, by omega, _, c1, Ar.nat i (by omega) (by omega) (NilC.mk p' hp' ⟨by omega, by omega, _, c0, ?_⟩)⟩)
  refine (less_spec _ _ q4).mono ?_
  rintro e w5 ⟨rfl, hw⟩
  subst hw
  have := hs i (i + 1) (by omega) (by omega) (by omega)
  refine ⟨_, rfl, CondP.yes (by rw [decide_eq_false (by omega)]; rfl) (Ar.nat (i + 1 + 1) rfl (by omega) (ih w5 hB4))⟩
 ·rintro q hB
  refine hI6 _ _ ?_
  intro q4 hq4
  have b4 : Below q.heap.size q q4 := by subst hq4; exact drew_on q
  have e : ((l.length - 1 + 1 : Nat) : Int) = (l.length : Int) := by omega
  rw [e]
  exact CondP.no (by simp) (CondP.yes (by simp) ⟨rfl, below_then hB b4⟩)
end
theorem len64_spec (n : Nat) (w : World) (h1 : 256 ≤ n) (h2 : n ≤ 65535) : CP 178 #[.int .u64 (n : Int)] w fun e w' => ∃ k : Int, e = .returned (.int .i64 k) ∧ k ≠ 0 ∧ w' = w := by
 refine calls_ret (vc178_calls n w (fun u w' => ∃ k : Int, u = .int .i64 k ∧ k ≠ 0 ∧ w' = w) ?_) (by rintro v w' ⟨k, rfl, h⟩; exact ⟨k, rfl, h⟩)
 intro J1 hJ1
 refine CondP.no (decide_eq_false (by omega)) (hJ1 _ _ _ ?_)
 intro J3 hJ3
 refine CondP.no (decide_eq_false (by omega)) (hJ3 _ _ _ ?_)
 intro J6 hJ6
 refine CondP.yes (decide_eq_true (by omega)) ⟨by decide, Ar.nat 8 rfl (by omega) (hJ6 _ _ _ ?_)⟩
 have e : Int.fdiv (n : Int) (2 ^ (min (8 : Int).toNat (IntKind.bits .u64))) = ((n / 256 : Nat) : Int) := by
  show Int.fdiv (n : Int) 256 = _
  rw [Int.fdiv_eq_ediv_of_nonneg _ (by decide)]
  rfl
 rw [e]
 have hw8 : IntKind.wrap .u8 ((n / 256 : Nat) : Int) = ((n / 256 : Nat) : Int) := wrap_in (by show (0 : Int) ≤ _; omega) (by show _ ≤ (255 : Int); omega)
 rw [hw8]
 refine ⟨by omega, by show ((n / 256 : Nat) : Int) < 256; omega, ?_⟩
 have hb : ∀ s : ByteArray, 0 ≤ btAt s ((n / 256 : Nat) : Int) ∧ btAt s ((n / 256 : Nat) : Int) ≤ 255 := by
  intro s
  unfold btAt
  cases s.data[((n / 256 : Nat) : Int).toNat]? with
  | none => simp
  | some b =>
   have := b.toNat_lt
   simp only [Option.map_some, Option.getD_some]
   omega
 have aux : ∀ s : ByteArray, Ar .i64 (((8 : Nat) : Int) + IntKind.wrap .i64 (btAt s ((n / 256 : Nat) : Int))) (fun n_9 => ∃ k : Int, Value.int .i64 n_9 = .int .i64 k ∧ k ≠ 0 ∧ w = w) := by
  intro s
  have := hb s
  rw [wrap_in (z := btAt s ((n / 256 : Nat) : Int)) (by show (-9223372036854775808 : Int) ≤ _; omega) (by show _ ≤ (9223372036854775807 : Int); omega)]
  exact Ar.ok64 (by omega) (by omega) ⟨_, rfl, by omega, rfl⟩
 exact aux _
theorem len_spec (n : Nat) (w : World) (h1 : 256 ≤ n) (h2 : n ≤ 65535) : CP 117 #[.int .u64 (n : Int)] w fun e w' => ∃ k : Int, e = .returned (.int .i64 k) ∧ k ≠ 0 ∧ w' = w := by
 refine calls_ret (vc117_calls n w (fun u w' => ∃ k : Int, u = .int .i64 k ∧ k ≠ 0 ∧ w' = w) ?_) (by rintro v w' ⟨k, rfl, h⟩; exact ⟨k, rfl, h⟩)
 refine (len64_spec n w h1 h2).mono ?_
 rintro e w1 ⟨k, rfl, hk, hw⟩
 exact ⟨_, rfl, k, rfl, hk, hw⟩
theorem sort_spec (w : World) (A : Option Addr) (C : Nat) (l : List Int) (hr : Rw encInt 1 w A l) (hs : Rising l) (h1 : 256 ≤ l.length) (h2 : l.length ≤ 65535) :
  CP 86 #[.slice A l.length C] w fun e w' => e = .returned (.tuple #[]) ∧ Below w.heap.size w w' := by
 refine calls_ret (vc86_calls A l.length C w (fun u w' => u = .tuple #[] ∧ Below w.heap.size w w') ?_) (by rintro v w' ⟨rfl, h⟩; exact ⟨rfl, h⟩)
 have hw : IntKind.wrap .u64 (l.length : Int) = (l.length : Int) := wrap_in (by show (0 : Int) ≤ _; omega) (by show _ ≤ (18446744073709551615 : Int); omega)
 unfold vc86
 rw [hw]
 refine (len_spec l.length w h1 h2).mono ?_
 rintro e w1 ⟨k, rfl, hk, hw1⟩
 subst hw1
 refine ⟨_, rfl, ?_⟩
 have pdq : CP 116 #[.slice A l.length C, .int .i64 0, .int .i64 (l.length : Int), .int .i64 k] w1 fun e w' => e = .returned (.tuple #[]) ∧ Below w1.heap.size w1 w' := by
  refine calls_ret (vc116_calls A l.length C 0 l.length k w1 (fun u w' => u = .tuple #[] ∧ Below w1.heap.size w1 w') ?_) (by rintro v w' ⟨rfl, h⟩; exact ⟨rfl, h⟩)
  intro I hI
  refine hI _ _ _ _ _ _ ?_
  intro J5 hJ5
  refine Ar.nat l.length (by omega) (by omega) (CondP.no (decide_eq_false (by omega)) (CondP.no (by simpa using hk) ?_))
  intro J11 hJ11
  refine CondP.no rfl (hJ11 _ _ ?_)
  refine (pivot_spec hs (by omega) w1 hr (by omega)).mono ?_
  rintro e w6 ⟨n, rfl, b6⟩
  refine ⟨_, _, rfl, ?_⟩
  intro J13 hJ13
  refine CondP.no rfl (hJ13 _ _ _ ?_)
  intro J14 hJ14
  refine CondP.yes rfl (CondP.yes rfl (CondP.yes rfl ?_))
  refine (partial_spec hs (by omega) w6 (hr.on b6) (by omega)).mono ?_
  rintro e w18 ⟨rfl, b18⟩
  exact ⟨_, rfl, CondP.yes rfl ⟨rfl, below_then b6 b18⟩⟩
 refine pdq.mono ?_
 rintro e w2 ⟨rfl, b2⟩
 exact ⟨rfl, rfl, b2⟩
def bitsN (f : Nat → Bool) : Nat → Nat
 | 0 => 0
 | m + 1 => bitsN f m ||| (if f m then 2 ^ m else 0)
theorem bitsN_test (f : Nat → Bool) : ∀ m j, (bitsN f m).testBit j = (decide (j < m) && f j)
 | 0, j => by simp [bitsN]
 | m + 1, j => by
  rw [bitsN, Nat.testBit_or, bitsN_test f m j]
  by_cases h : f m = true
  ·rw [if_pos h, Nat.testBit_two_pow]
   by_cases e : m = j
   ·subst e; simp [h]
   ·by_cases e2 : j < m
    ·simp [e, e2, show j < m + 1 by omega]
    ·simp [e, e2, show ¬ j < m + 1 by omega]
  ·rw [if_neg h, Nat.zero_testBit]
   by_cases e : j = m
   ·subst e; simp [h]
   ·by_cases e2 : j < m
    ·simp [e2, show j < m + 1 by omega]
    ·simp [e2, show ¬ j < m + 1 by omega]
theorem bitsN_lt (f : Nat → Bool) (m : Nat) : bitsN f m < 2 ^ m := by
 apply Nat.lt_pow_two_of_testBit
 intro j hj
 rw [bitsN_test, decide_eq_false (by omega)]
 rfl
theorem bitsN_congr {f g : Nat → Bool} {m : Nat} (h : ∀ j, j < m → f j = g j) : bitsN f m = bitsN g m := by
 apply Nat.eq_of_testBit_eq
 intro j
 rw [bitsN_test, bitsN_test]
 by_cases hj : j < m
 ·rw [h j hj]
 ·simp [hj]
def wordAt (n : Nat) (p : Nat → Bool) (k : Nat) : Nat := bitsN (fun j => decide (64 * k + j < n) && p (64 * k + j)) 64
def wordsOf (n : Nat) (p : Nat → Bool) : List Int := (List.range ((n + 63) / 64)).map fun k => ((wordAt n p k : Nat) : Int)
theorem wordsOf_length (n : Nat) (p : Nat → Bool) : (wordsOf n p).length = (n + 63) / 64 := by simp [wordsOf]
theorem wordsOf_get (n : Nat) (p : Nat → Bool) {k : Nat} (hk : k < (n + 63) / 64) : (wordsOf n p)[k]? = some ((wordAt n p k : Nat) : Int) := by simp [wordsOf, hk]
theorem wordAt_lt (n : Nat) (p : Nat → Bool) (k : Nat) : wordAt n p k < 2 ^ 64 := bitsN_lt _ _
theorem wordAt_test (n : Nat) (p : Nat → Bool) {i : Nat} (hi : i < n) : (wordAt n p (i / 64)).testBit (i % 64) = p i := by
 rw [wordAt, bitsN_test]
 have h1 : i % 64 < 64 := Nat.mod_lt _ (by decide)
 have h2 : 64 * (i / 64) + i % 64 = i := by omega
 simp [h1, h2, hi]
theorem wordAt_more (n : Nat) (p : Nat → Bool) {i : Nat} (hi : i < n) (hp : p i = true) (k : Nat) : wordAt n (fun j => p j && decide (j < i + 1)) k = if k = i / 64 then wordAt n (fun j => p j && decide (j < i)) k ||| 2 ^ (i % 64) else wordAt n (fun j => p j && decide (j < i)) k := by
 apply Nat.eq_of_testBit_eq
 intro j
 unfold wordAt
 by_cases hk : k = i / 64
 ·rw [if_pos hk, Nat.testBit_or, bitsN_test, bitsN_test, Nat.testBit_two_pow]
  by_cases hj : j < 64
  ·by_cases e : i % 64 = j
   ·have : 64 * k + j = i := by omega
    simp [hj, e, this, hi, hp]
   ·have hne : 64 * k + j ≠ i := by omega
    simp only [hj, e, decide_true, decide_false, Bool.true_and, Bool.or_false]
    congr 2
    exact decide_eq_decide.2 (by omega)
  ·have : i % 64 ≠ j := by omega
   simp [hj, this]
 ·rw [if_neg hk, bitsN_test, bitsN_test]
  by_cases hj : j < 64
  ·have hne : 64 * k + j ≠ i := by omega
   simp only [hj, decide_true, Bool.true_and]
   congr 2
   exact decide_eq_decide.2 (by omega)
  ·simp [hj]
theorem wordAt_less (n : Nat) (p : Nat → Bool) {i : Nat} (hp : p i = false) (k : Nat) : wordAt n (fun j => p j && decide (j < i + 1)) k = wordAt n (fun j => p j && decide (j < i)) k := by
 unfold wordAt
 apply bitsN_congr
 intro j _
 congr 1
 by_cases e : 64 * k + j = i
 ·simp [e, hp]
 ·have h2 : decide (64 * k + j < i + 1) = decide (64 * k + j < i) := decide_eq_decide.2 ⟨fun h => by omega, fun h => by omega⟩
  simp only [h2]
theorem wordsOf_more (n : Nat) (p : Nat → Bool) {i : Nat} (hi : i < n) (hp : p i = true) : wordsOf n (fun j => p j && decide (j < i + 1)) = (wordsOf n (fun j => p j && decide (j < i))).set (i / 64) (((wordAt n (fun j => p j && decide (j < i)) (i / 64) ||| 2 ^ (i % 64) : Nat)) : Int) := by
 apply List.ext_getElem
 ·rw [List.length_set, wordsOf_length, wordsOf_length]
 ·intro k h1 h2
  rw [List.getElem_set]
  rw [wordsOf_length] at h1
  by_cases e : i / 64 = k
  ·rw [if_pos e]
   simp only [wordsOf, List.getElem_map, List.getElem_range]
   rw [wordAt_more n p hi hp, if_pos e.symm, e]
  ·rw [if_neg e]
   simp only [wordsOf, List.getElem_map, List.getElem_range]
   rw [wordAt_more n p hi hp, if_neg (fun h => e h.symm)]
theorem wordsOf_less (n : Nat) (p : Nat → Bool) {i : Nat} (hp : p i = false) : wordsOf n (fun j => p j && decide (j < i + 1)) = wordsOf n (fun j => p j && decide (j < i)) := by
 unfold wordsOf
 apply List.map_congr_left
 intro k _
 rw [wordAt_less n p hp]
theorem wordsOf_none (n : Nat) (p : Nat → Bool) : wordsOf n (fun j => p j && decide (j < 0)) = List.replicate ((n + 63) / 64) 0 := by
 apply List.ext_getElem
 ·rw [wordsOf_length, List.length_replicate]
 ·intro k h1 h2
  simp only [wordsOf, List.getElem_map, List.getElem_range, List.getElem_replicate]
  have : wordAt n (fun j => p j && decide (j < 0)) k = 0 := by
   apply Nat.eq_of_testBit_eq
   intro j
   unfold wordAt
   rw [bitsN_test]
   simp
  rw [this]
  rfl
theorem wordsOf_all (n : Nat) (p : Nat → Bool) : wordsOf n (fun j => p j && decide (j < n)) = wordsOf n p := by
 unfold wordsOf
 apply List.map_congr_left
 intro k _
 congr 1
 unfold wordAt
 apply bitsN_congr
 intro j _
 by_cases e : 64 * k + j < n <;> simp [e]
abbrev tU64 : TypeId := 57
abbrev tRow : TypeId := 109
theorem undRow : Tryz.prog.underlying tRow = some (.slice tU64) := by kernel_rfl
theorem infoU64 : (Tryz.prog.info? tU64).map (fun i => (i.zero, i.size, i.bytes)) = some (some (.int .u64 0), 1, 8) := by kernel_rfl
def encU64 (n : Int) : List Value := [.int .u64 n]
theorem elU64 : ElT encU64 1 tRow tU64 8 := ⟨fun _ => rfl, by decide, fun x u hu => by rw [List.mem_singleton.1 hu]; rfl, undRow, _, infoU64, rfl⟩
theorem run_makeWords (w : World) (n : Nat) (hn : n ≤ 1000000) : (Instr.makeSlice tRow (.int .i64 n) (.int .i64 n)).run Tryz.prog w = .ok (.slice (some (nb w)) n n) (w.alloc (.cells (Array.replicate n (.int .u64 0)) tU64)) := by
 obtain ⟨i, hi, hz, hs, hb⟩ := info_parts infoU64
 have := Go.run_make (P := Tryz.prog) w tRow tU64 i (.int .u64 0) undRow hi hz .i64 .i64 (n : Int) (n : Int) (by omega) (Int.le_refl _) (by rw [hb]; omega) (by omega)
 rw [this]
 congr 3
 rw [hs]
 apply Array.ext
 ·rw [size_madeCells]
  simp
 ·intro j h1 h2
  simp only [madeCells, Array.getElem_map, Array.getElem_range, Array.getElem_replicate]
  show (#[Value.int .u64 0] : Array Value)[j % 1]! = _
  rw [Nat.mod_one]
  rfl
theorem own_made {w : World} {n : Nat} {e : TypeId} (xs : List Value) (hx : xs.length = n) (hn : n ≤ 1000000) {B : Nat} (hB : B ≤ w.heap.size) : (w.alloc (.cells xs.toArray e)).ownsRow B e 1 (.slice (some (nb w)) n n) n xs := by
 refine ⟨by rw [hx, Nat.mul_one], .inr ⟨w.heap.size, n, xs.toArray, rfl, hB, alloc_new _ _, Nat.le_refl _, by unfold maxLen; omega, by rw [List.size_toArray, hx, Nat.mul_one], ?_⟩⟩
 rw [← hx, Nat.mul_one]
 exact List.take_length
theorem div64 (i : Nat) (hi : i ≤ 1000000) : IntKind.wrap .i64 (Int.tdiv (i : Int) 64) = ((i / 64 : Nat) : Int) := by
 have : Int.tdiv (i : Int) 64 = ((i / 64 : Nat) : Int) := rfl
 rw [this]
 exact wrap_in (by show (-9223372036854775808 : Int) ≤ _; omega) (by show _ ≤ (9223372036854775807 : Int); omega)
theorem mod64 (i : Nat) : Int.tmod (i : Int) 64 = ((i % 64 : Nat) : Int) := rfl
theorem ofInt_nat (x : Nat) (hx : x < 2 ^ 64) : (BitVec.ofInt 64 (x : Int)).toNat = x := by
 rw [BitVec.ofInt_natCast, BitVec.toNat_ofNat, Nat.mod_eq_of_lt hx]
theorem wrap_u64 (x : Nat) (hx : x < 2 ^ 64) : IntKind.wrap .u64 (x : Int) = (x : Int) := wrap_in (by show (0 : Int) ≤ _; omega) (by show _ ≤ (18446744073709551615 : Int); omega)
theorem has_bit (x m : Nat) (hx : x < 2 ^ 64) (hm : m < 64) : ((IntKind.wrap .u64 ((BitVec.ofInt (IntKind.bits .u64) (Int.fdiv (x : Int) (2 ^ (min ((m : Nat) : Int).toNat (IntKind.bits .u64)))) &&& BitVec.ofInt (IntKind.bits .u64) 1).toNat : Int) : Int) == 1) = x.testBit m := by
 show ((IntKind.wrap .u64 ((BitVec.ofInt 64 (Int.fdiv (x : Int) (2 ^ (min m 64))) &&& BitVec.ofInt 64 1).toNat : Int) : Int) == 1) = _
 have h1 : Int.fdiv (x : Int) (2 ^ (min m 64)) = ((x / 2 ^ m : Nat) : Int) := by
  rw [Nat.min_eq_left (by omega), Int.fdiv_eq_ediv_of_nonneg _ (Int.pow_nonneg (by decide))]
  simp
 have hd : x / 2 ^ m < 2 ^ 64 := Nat.lt_of_le_of_lt (Nat.div_le_self _ _) hx
 rw [h1, BitVec.toNat_and, ofInt_nat _ hd]
 have h2 : (BitVec.ofInt 64 1).toNat = 1 := by decide
 rw [h2, Nat.and_one_is_mod, wrap_u64 _ (by omega), Nat.testBit_eq_decide_div_mod_eq]
 by_cases e : x / 2 ^ m % 2 = 1
 ·rw [e]; simp
 ·have : x / 2 ^ m % 2 = 0 := by omega
  rw [this]; simp
theorem set_bit (x m : Nat) (hx : x < 2 ^ 64) (hm : m < 64) : IntKind.wrap .u64 ((BitVec.ofInt (IntKind.bits .u64) (x : Int) ||| BitVec.ofInt (IntKind.bits .u64) (IntKind.wrap .u64 ((1 : Int) * 2 ^ (min ((m : Nat) : Int).toNat (IntKind.bits .u64))))).toNat : Int) = ((x ||| 2 ^ m : Nat) : Int) := by
 show IntKind.wrap .u64 ((BitVec.ofInt 64 (x : Int) ||| BitVec.ofInt 64 (IntKind.wrap .u64 ((1 : Int) * 2 ^ (min m 64)))).toNat : Int) = _
 have hp : 2 ^ m < 2 ^ 64 := Nat.pow_lt_pow_right (by decide) hm
 have h1 : (1 : Int) * 2 ^ (min m 64) = ((2 ^ m : Nat) : Int) := by
  rw [Nat.min_eq_left (by omega), Int.one_mul]
  simp
 rw [h1, wrap_u64 _ hp, BitVec.toNat_or, ofInt_nat _ hx, ofInt_nat _ hp]
 exact wrap_u64 _ (Nat.or_lt_two_pow hx hp)
theorem rowHas_spec (w : World) (A : Option Addr) (N C n : Nat) (p : Nat → Bool) (hr : Rw encU64 1 w A (wordsOf n p)) (hN : N = (wordsOf n p).length) (hn : n ≤ 100000) (i : Nat) (hi : i < n) :
  CP 70 #[.slice A N C, .int .i64 (i : Int)] w fun e w' => e = .returned (.bool (p i)) ∧ w' = w := by
 refine calls_ret (vc70_calls A N C i w (fun u w' => u = .bool (p i) ∧ w' = w) ?_) (by rintro v w' ⟨rfl, h⟩; exact ⟨rfl, h⟩)
 unfold vc70
 rw [div64 i (by omega), mod64]
 rw [wordsOf_length] at hN
 have hk : i / 64 < (n + 63) / 64 := by omega
 obtain ⟨q, hq, _, hc⟩ := hr _ _ (wordsOf_get n p hk)
 have c0 := hc 0 _ rfl
 rw [add_zero] at c0
 refine ⟨by decide, NilC.mk q hq ⟨by omega, by omega, _, c0, by decide, by omega, ?_, rfl⟩⟩
 rw [has_bit _ _ (wordAt_lt _ _ _) (Nat.mod_lt _ (by decide)), wordAt_test n p hi]
theorem rowSet_spec (w : World) (B : Nat) (l : Sl) (ws : List Int) (h : w.ownsRow B tU64 1 l.v l.n (ws.flatMap encU64)) (i x : Nat) (hi : i ≤ 1000000) (hk : i / 64 < ws.length) (hx : ws[i / 64] = (x : Int)) (hlt : x < 2 ^ 64) :
  CP 131 #[.slice l.a l.n l.c, .int .i64 (i : Int)] w fun e w' => e = .returned (.tuple #[]) ∧ w'.ownsRow B tU64 1 l.v l.n ((ws.set (i / 64) ((x ||| 2 ^ (i % 64) : Nat) : Int)).flatMap encU64) ∧ (∀ j, l.v.ownBlock ≠ some j → w'.heap[j]? = w.heap[j]?) ∧ w'.heap.size = w.heap.size ∧ Below B w w' := by
 refine calls_ret (vc131_calls l.a l.n l.c i w (fun u w' => u = .tuple #[] ∧ w'.ownsRow B tU64 1 l.v l.n ((ws.set (i / 64) ((x ||| 2 ^ (i % 64) : Nat) : Int)).flatMap encU64) ∧ (∀ j, l.v.ownBlock ≠ some j → w'.heap[j]? = w.heap[j]?) ∧ w'.heap.size = w.heap.size ∧ Below B w w') ?_) (by rintro v w' ⟨rfl, h⟩; exact ⟨rfl, h⟩)
 rintro w1 rfl
 have h1 : w.drew.ownsRow B tU64 1 l.v l.n (ws.flatMap encU64) := own_drew h
 have hls := LsAt.of_own elU64 h1
 have hn := hls.n
 rw [div64 i hi, mod64]
 obtain ⟨q, hq, c0⟩ := cell_rw hls.r hk rfl
 rw [hx] at c0
 refine ⟨by decide, NilC.mk q hq ⟨by omega, by omega, _, c0, by decide, by omega, NilC.mk q hq ⟨by omega, by omega, ?_⟩⟩⟩
 rw [set_bit x _ hlt (Nat.mod_lt _ (by decide))]
 refine store_one (own_set (enc := encU64) (fun _ => rfl) (by decide) (fun y u hu => by rw [List.mem_singleton.1 hu]; rfl) h1 hn hq (i / 64) hk _ ?_)
 intro w' h' hs hz hB
 exact ⟨rfl, h', hs, hz, hB _ _ (Nat.le_refl _) ((Below.refl _ _).drew)⟩
theorem VocIs.off {w w' : World} {v : Nat} {s : SpecV} {T : List Ent} (h : VocIs w v s T) {B : Nat} (hb : Below B w w') (hv : v < B) {B' sz n : Nat} {e : TypeId} {u : Value} {xs : List Value} (ho : w.ownsRow B' e sz u n xs) (he : tBool ≠ e) (hk : ∀ k, u.ownBlock ≠ some k → w'.heap[k]? = w.heap[k]?) : VocIs w' v s T := by
 obtain ⟨w0, x, tp, bp, mp, d, l, uses, hR⟩ := h
 have hlt := hR.lt
 refine ⟨w0, x, tp, bp, mp, d, l, uses, hR.parts, hR.below.trans (hb.mono (by omega)), hlt, by rw [hb.block v hv]; exact hR.blk, ?_⟩
 rcases hR.once with h | ⟨h1, h2, h3⟩
 ·exact .inl h
 ·exact .inr ⟨h1, h2, own_same h3 fun k hk3 => hk k (row_ne_row h3 ho he k hk3)⟩
theorem VocIs.own_touch {w w' : World} {v : Nat} {s : SpecV} {T : List Ent} (h : VocIs w v s T) (t : Touch v w w') {B sz n : Nat} {e : TypeId} {u : Value} {xs : List Value} (ho : w.ownsRow B e sz u n xs) (he : e ≠ tVocab) : w'.ownsRow B e sz u n xs := by
 obtain ⟨w0, x, tp, bp, mp, d, l, uses, hR⟩ := h
 exact t.own ho (row_ne_blk ho hR.blk he)
theorem Touch.then_off {v B : Nat} {a b c : World} (t : Touch v a b) (hb : Below B b c) (hB : a.heap.size ≤ B) : Touch v a c :=
 ⟨hb.os.trans t.os, hb.tape.trans t.tape, hb.output.trans t.output, Nat.le_trans t.size hb.size, fun k hk hv => (hb.block k (Nat.lt_of_lt_of_le hk hB)).trans (t.block k hk hv)⟩
theorem fill_spec (w : World) (n : Nat) (is : Value) (p : Nat → Bool) (v : Nat) (s : SpecV) (T : List Ent) (hV : VocIs w v s T) (hn : n ≤ 100000)
  (his : ∀ i, i < n → ∀ w1, VocIs w1 v s T → Touch v w w1 → CallG ctx is [.int .i64 (i : Int)] w1 (fun e w2 => e = .returned (.bool (p i)) ∧ VocIs w2 v s T ∧ Touch v w1 w2)) :
  CP 97 #[.int .i64 (n : Int), is] w fun e w' => ∃ l : Sl, e = .returned l.v ∧ w'.ownsRow w.heap.size tU64 1 l.v l.n ((wordsOf n p).flatMap encU64) ∧ VocIs w' v s T ∧ Touch v w w' := by
 refine calls_ret (vc97_calls n is w (fun u w' => ∃ l : Sl, u = l.v ∧ w'.ownsRow w.heap.size tU64 1 l.v l.n ((wordsOf n p).flatMap encU64) ∧ VocIs w' v s T ∧ Touch v w w') ?_) (by rintro v w' ⟨l, rfl, h⟩; exact ⟨l, rfl, h⟩)
 have hvl := hV.lt
 refine Ar.nat (n + 64) (by omega) (by omega) (Ar.nat (n + 63) (by omega) (by omega) ⟨by decide, ?_⟩)
 rw [div64 (n + 63) (by omega)]
 obtain ⟨m, hm⟩ : ∃ m, m = (n + 63) / 64 := ⟨_, rfl⟩
 rw [← hm]
 refine ⟨_, _, _, _, run_makeWords w m (by omega), ?_⟩
 have ho : (w.alloc (.cells (Array.replicate m (.int .u64 0)) tU64)).ownsRow w.heap.size tU64 1 (.slice (some (nb w)) m m) m ((wordsOf n (fun j => p j && decide (j < 0))).flatMap encU64) := by
  have := own_made (w := w) (e := tU64) (n := m) (List.replicate m (Value.int .u64 0)) (by simp) (by omega) (Nat.le_refl w.heap.size)
  rw [wordsOf_none, ← hm]
  have e : (List.replicate m (0 : Int)).flatMap encU64 = List.replicate m (Value.int .u64 0) := by
   clear this hm
   induction m with
   | zero => rfl
   | succ m ih => rw [List.replicate_succ, List.flatMap_cons, ih, List.replicate_succ]; rfl
  rw [e]
  simpa using this
 have b1 := below_alloc w (.cells (Array.replicate m (.int .u64 0)) tU64)
 intro I hI
 have key := climb2 (α := World) n (fun i q => q.ownsRow w.heap.size tU64 1 (.slice (some (nb w)) m m) m ((wordsOf n (fun j => p j && decide (j < i))).flatMap encU64) ∧ VocIs q v s T ∧ Touch v w q) (fun i q => I [.int .i64 (i : Int)] q) _ ⟨ho, hV.on b1, Touch.of_below b1⟩ ?_ ?_
 ·exact key
 ·rintro i hi ih q ⟨hown, hVq, tq⟩
  refine hI _ _ (CondP.yes (by simp; omega) ?_)
  intro J hJ
  have hJ' : ∀ q', (q'.ownsRow w.heap.size tU64 1 (.slice (some (nb w)) m m) m ((wordsOf n (fun j => p j && decide (j < i + 1))).flatMap encU64) ∧ VocIs q' v s T ∧ Touch v w q') → J [] q' := fun q' h => hJ _ (Ar.nat (i + 1) rfl (by omega) (ih q' h))
  refine (his i hi q hVq tq).mono ?_
  rintro e w4 ⟨rfl, hV4, t4⟩
  have ho4 := hVq.own_touch t4 hown (by decide)
  have tw4 := tq.trans t4
  refine ⟨_, rfl, CondP.mk (fun hp => ?_) fun hp => hJ' w4 ⟨by rw [wordsOf_less n p hp]; exact ho4, hV4, tw4⟩⟩
  have hk : i / 64 < (wordsOf n (fun j => p j && decide (j < i))).length := by rw [wordsOf_length]; omega
  refine (rowSet_spec w4 w.heap.size ⟨some (nb w), m, m⟩ _ ho4 i (wordAt n (fun j => p j && decide (j < i)) (i / 64)) (by omega) hk (by simp [wordsOf]) (wordAt_lt _ _ _)).mono ?_
  rintro e w5 ⟨rfl, ho5, hs5, hz5, b5⟩
  refine ⟨rfl, hJ' w5 ⟨?_, hV4.off b5 hvl ho4 (by decide) hs5, tw4.then_off b5 (Nat.le_refl _)⟩⟩
  rw [wordsOf_more n p hi hp]
  exact ho5
 ·rintro q ⟨hown, hVq, tq⟩
  rw [wordsOf_all] at hown
  exact hI _ _ (CondP.no (by simp) ⟨⟨some (nb w), m, m⟩, rfl, hown, hVq, tq⟩)
def gids (s : SpecV) (T : List Ent) : List Int := (List.range T.length).map (fun i : Nat => (i : Int)) ++ s.specials.map (·.1)
theorem gids_length (s : SpecV) (T : List Ent) : (gids s T).length = T.length + s.specials.length := by simp [gids]
theorem rising_of {l : List Int} (h : l.Pairwise (· < ·)) : Rising l := fun i j hi hj hij => List.pairwise_iff_getElem.1 h i j hi hj hij
theorem gids_rising {s : SpecV} {T : List Ent} (hasc : (s.specials.map (·.1)).Pairwise (· < ·)) (hids : ∀ y ∈ s.specials, (T.length : Int) ≤ y.1) : (gids s T).Pairwise (· < ·) := by
 rw [gids, List.pairwise_append]
 refine ⟨?_, hasc, ?_⟩
 ·rw [List.pairwise_map]
  exact List.pairwise_lt_range.imp (by intro a b h; omega)
 ·intro a ha b hb
  obtain ⟨i, hi, rfl⟩ := List.mem_map.1 ha
  obtain ⟨y, hy, rfl⟩ := List.mem_map.1 hb
  have := hids y hy
  have := List.mem_range.1 hi
  omega
theorem gids_has (s : SpecV) (T : List Ent) (t : Int) : t ∈ gids s T ↔ hasV2 s T t = true := by
 unfold gids hasV2
 rw [List.mem_append, decide_eq_true_eq, Or.comm]
 refine or_congr Iff.rfl ?_
 rw [List.mem_map]
 constructor
 ·rintro ⟨i, hi, rfl⟩
  have := List.mem_range.1 hi
  exact ⟨by omega, by omega⟩
 ·rintro ⟨h1, h2⟩
  exact ⟨t.toNat, List.mem_range.2 (by omega), by omega⟩
theorem markAll_spec (w : World) (p : Nat) (xs : List (Int × Bs)) (h : MkIs w p xs) (hl : xs.length ≤ 1000000) : CP 127 #[.pointer (some ⟨p, 0, none⟩)] w fun e w' => ∃ l : Sl, e = .returned l.v ∧ l.n = xs.length ∧ w'.ownsRow w.heap.size tSp 2 l.v l.n (xs.flatMap encSpecial) ∧ Below w.heap.size w w' := by
 refine calls_ret (vc127_calls (some ⟨p, 0, none⟩) w (fun u w' => ∃ l : Sl, u = l.v ∧ l.n = xs.length ∧ w'.ownsRow w.heap.size tSp 2 l.v l.n (xs.flatMap encSpecial) ∧ Below w.heap.size w w') ?_) (by rintro v w' ⟨l, rfl, h⟩; exact ⟨l, rfl, h⟩)
 obtain ⟨l, mi, mt, c, h1, h2, h3, h4, _, _⟩ := h
 obtain ⟨la, ln, lc⟩ := l
 change ln = xs.length at h3
 subst h3
 refine CondP.no rfl (NilC.mk _ rfl ⟨la, _, lc, by rw [ptr_add0 _ _ h1]; exact h2.c0, ?_⟩)
 refine (cloneS_spec w la lc xs h4 (by omega)).mono ?_
 rintro e w1 ⟨l, rfl, hn, ho, hb⟩
 exact ⟨_, _, _, rfl, l, rfl, hn, ho, hb⟩
theorem vocIds_spec (w : World) (v : Nat) (s : SpecV) (T : List Ent) (hV : VocIs w v s T) (hasc : (s.specials.map (·.1)).Pairwise (· < ·)) :
  CP 90 #[.pointer (some ⟨v, 0, none⟩)] w fun e w' => ∃ l : Sl, e = .returned l.v ∧ w'.ownsRow w.heap.size tInt 1 l.v l.n ((gids s T).flatMap encInt) ∧ Below w.heap.size w w' := by
 refine calls_ret (vc90_calls (some ⟨v, 0, none⟩) w (fun u w' => ∃ l : Sl, u = l.v ∧ w'.ownsRow w.heap.size tInt 1 l.v l.n ((gids s T).flatMap encInt) ∧ Below w.heap.size w w') ?_) (by rintro v w' ⟨l, rfl, h⟩; exact ⟨l, rfl, h⟩)
 obtain ⟨w0, x, tp, bp, mp, d, l, uses, hR⟩ := hV
 have hP := hR.now
 have hmost := hP.ok.most
 have hlen := hP.ok.len
 have hfew := (right_small hP.right).2.2.1
 have hmx : s.specials.length ≤ 32 := by
  have := (right_parts hP.right).2.2.2.1
  exact allOk_len this
 refine (vocSize_spec hR.vblk hP.tab).mono ?_
 rintro e w1 ⟨rfl, hw⟩
 subst hw
 refine ⟨_, rfl, ?_⟩
 intro I hI
 have key := climb2 (α := Sl × World) T.length (fun i y => y.2.ownsRow w1.heap.size tInt 1 y.1.v y.1.n (((List.range i).map (fun i : Nat => (i : Int))).flatMap encInt) ∧ y.1.n = i ∧ Below w1.heap.size w1 y.2) (fun i y => I [.int .i64 (i : Int), y.1.v] y.2) (sl0, w1) ⟨own_none _ _ _ _ encInt, rfl, Below.refl _ _⟩ ?_ ?_
 ·exact key
 ·rintro i hi ih ⟨f, q⟩ ⟨hown, hn, hB⟩
  change q.ownsRow w1.heap.size tInt 1 f.v f.n _ at hown
  change f.n = i at hn
  change Below w1.heap.size w1 q at hB
  refine hI _ f.a f.n f.c q (CondP.yes (by simp; omega) ?_)
  intro w3 hw3
  obtain ⟨f', w4, g1, g2, g3, g4, _⟩ := elInt.push hown (i : Int) hw3 rfl hB.size (by omega) (by decide)
  refine ⟨f'.a, f'.n, f'.c, w4, g2, Ar.nat (i + 1) rfl (by omega) (ih (f', w4) ⟨?_, by show f'.n = i + 1; omega, g4 _ hB⟩)⟩
  rw [List.range_succ, List.map_append]
  exact g3
 ·rintro ⟨f, q⟩ ⟨hown, hn, hB⟩
  change q.ownsRow w1.heap.size tInt 1 f.v f.n _ at hown
  change f.n = T.length at hn
  change Below w1.heap.size w1 q at hB
  refine hI _ f.a f.n f.c q (CondP.no (by simp) ?_)
  refine (vocMarks_spec (hR.vblk.on hB)).mono ?_
  rintro e w5 ⟨rfl, hw⟩
  subst hw
  refine ⟨_, rfl, ?_⟩
  refine (markAll_spec w5 mp s.specials (hP.on hB).marks hfew).mono ?_
  rintro e w6 ⟨a, rfl, han, hao, b6⟩
  refine ⟨a.a, a.n, a.c, rfl, ?_⟩
  have hB6 := below_then hB b6
  intro I2 hI2
  have key2 := climb2 (α := Sl × World) s.specials.length (fun i y => y.2.ownsRow w1.heap.size tInt 1 y.1.v y.1.n (((List.range T.length).map (fun i : Nat => (i : Int)) ++ (s.specials.take i).map (·.1)).flatMap encInt) ∧ y.1.n = T.length + i ∧ y.2.ownsRow w1.heap.size tSp 2 a.v a.n (s.specials.flatMap encSpecial) ∧ Below w1.heap.size w1 y.2) (fun i y => I2 [.int .i64 (i : Int), y.1.v] y.2) (f, w6) ⟨by simpa using own_on hown b6, by show f.n = T.length + 0; omega, own_base hao hB.size, hB6⟩ ?_ ?_
  ·exact key2
  ·rintro i hi ih ⟨g, z⟩ ⟨hg, hgn, hza, hBz⟩
   change z.ownsRow w1.heap.size tInt 1 g.v g.n _ at hg
   change g.n = T.length + i at hgn
   change z.ownsRow w1.heap.size tSp 2 a.v a.n _ at hza
   change Below w1.heap.size w1 z at hBz
   obtain ⟨p, hp, _, hc⟩ := (LsAt.of_own elSpecial hza).r i _ (List.getElem?_eq_getElem hi)
   have c0 := hc 0 _ rfl
   rw [add_zero] at c0
   refine hI2 _ g.a g.n g.c z (CondP.yes (by simp; omega) (NilC.mk p hp ⟨by omega, by omega, _, _, ⟨c0, hc 1 _ rfl, trivial⟩, ?_⟩))
   intro w8 hw8
   refine storeP_new [.int .i64 0, .string ⟨#[]⟩] [.int .i64 s.specials[i].1, .string (str s.specials[i].2)] rfl (ones_special _ _) w8 hw8 ?_
   intro w9 h9 hz9 b9
   refine ⟨_, ptr_add0 _ _ h9 0, ?_⟩
   intro w10 hw10
   have hB9 := below_then hBz b9
   obtain ⟨g', w11, e1, e2, e3, e4, e5⟩ := elInt.push (own_on hg b9) s.specials[i].1 hw10 rfl hB9.size (by omega) (by decide)
   have hza9 := own_on hza b9
   refine ⟨g'.a, g'.n, g'.c, w11, e2, Ar.nat (i + 1) rfl (by omega) (ih (g', w11) ⟨?_, by show g'.n = T.length + (i + 1); omega, own_same hza9 fun k hk => e5 k (own_lt hza9 k hk).2 (row_ne_row hza9 (own_on hg b9) (by decide) k hk), e4 _ hB9⟩)⟩
   rw [List.take_add_one, List.getElem?_eq_getElem hi, List.map_append, ← List.append_assoc]
   exact e3
  ·rintro ⟨g, z⟩ ⟨hg, hgn, hza, hBz⟩
   change z.ownsRow w1.heap.size tInt 1 g.v g.n _ at hg
   change g.n = T.length + s.specials.length at hgn
   change Below w1.heap.size w1 z at hBz
   rw [List.take_length] at hg
   have hgl : g.n = (gids s T).length := by rw [gids_length, hgn]
   have hgg : z.ownsRow w1.heap.size tInt 1 g.v g.n ((gids s T).flatMap encInt) := hg
   refine hI2 _ g.a g.n g.c z (CondP.no (by simp; omega) ?_)
   have hrow := (LsAt.of_own elInt hgg).r
   have hrise := rising_of (gids_rising hasc hP.ids)
   have hsort : CP 86 #[.slice g.a g.n g.c] z fun e w' => e = .returned (.tuple #[]) ∧ Below z.heap.size z w' := by
    rw [hgl]
    exact sort_spec z g.a g.c _ hrow hrise (by rw [gids_length]; omega) (by rw [gids_length]; omega)
   refine hsort.mono ?_
   rintro e w12 ⟨rfl, b12⟩
   exact ⟨rfl, g, rfl, own_on hgg b12, below_then hBz b12⟩
theorem valid_spec (w : World) (v : Nat) (s : SpecV) (T : List Ent) (hV : VocIs w v s T) (a b : Int) (ha : (vocOf s T).Has a) (hb : (vocOf s T).Has b) :
  CP 101 #[.pointer (some ⟨v, 0, none⟩), .int .i64 a, .int .i64 b] w fun e w' => e = .returned (.bool (decide ((vocOf s T).Canon [a, b]))) ∧ VocIs w' v s T ∧ Touch v w w' := by
 refine calls_ret (vc101_calls (some ⟨v, 0, none⟩) a b w (fun u w' => u = .bool (decide ((vocOf s T).Canon [a, b])) ∧ VocIs w' v s T ∧ Touch v w w') ?_) (by rintro v w' ⟨rfl, h⟩; exact ⟨rfl, h⟩)
 have parts : ∀ {q : World}, VocIs q v s T → ∃ x tp bp mp, VocParts q s T x tp bp mp ∧ ∃ c, VBlk q v c tp bp mp := by
  rintro q ⟨w0, x, tp, bp, mp, d, l, uses, hR⟩
  exact ⟨x, tp, bp, mp, hR.now, _, hR.vblk⟩
 obtain ⟨x, tp, bp, mp, hP, _⟩ := parts hV
 have hok := voc_ok hP
 have hab : ∀ t ∈ [a] ++ [b], (vocOf s T).Has t := by
  intro t ht
  simp at ht
  rcases ht with rfl | rfl
  ·exact ha
  ·exact hb
 refine (alone_spec w v s T hV a).mono ?_
 rintro e w1 ⟨rfl, hV1, t1⟩
 refine ⟨_, rfl, CondP.mk (fun h1 => ?_) fun h1 => ⟨?_, hV1, t1⟩⟩
 ·have ca := (aloneV_iff hP ha).1 h1
  refine (alone_spec w1 v s T hV1 b).mono ?_
  rintro e w2 ⟨rfl, hV2, t2⟩
  have t12 := t1.trans t2
  refine ⟨_, rfl, CondP.mk (fun h2 => ?_) fun h2 => ⟨?_, hV2, t12⟩⟩
  ·have cb := (aloneV_iff hP hb).1 h2
   obtain ⟨x2, tp2, bp2, mp2, hP2, c2, hB2⟩ := parts hV2
   refine (beside_spec hB2 hP2 a b ha hb ca cb).mono ?_
   rintro e w3 ⟨r, rfl, hr, b3⟩
   refine ⟨r, rfl, ?_, hV2.on b3, t12.trans (Touch.of_below b3)⟩
   have hm := Voc.canon_more hok (init := []) (l := a) (t := b) (fun x hx => by simp at hx; rw [hx]; exact ha) ca hb
   congr 1
   have hm2 : (vocOf s T).Canon [a, b] ↔ (vocOf s T).Canon [b] ∧ (vocOf s T).Pair a b := hm
   cases r with
   | true => exact (decide_eq_true (hm2.2 ⟨cb, hr.1 rfl⟩)).symm
   | false => exact (decide_eq_false fun e => by have := hr.2 (hm2.1 e).2; cases this).symm
  ·rw [decide_eq_false fun e => ?_]
   have := (aloneV_iff hP hb).2 (Voc.canon_append hok (P := [a]) (Q := [b]) hab e).2
   rw [h2] at this
   cases this
 ·rw [decide_eq_false fun e => ?_]
  have := (aloneV_iff hP ha).2 (Voc.canon_append hok (P := [a]) (Q := [b]) hab e).1
  rw [h1] at this
  cases this
abbrev tGrid : TypeId := 111
abbrev tRows : TypeId := 108
theorem undRows : Tryz.prog.underlying tRows = some (.slice tRow) := by kernel_rfl
theorem infoRow : (Tryz.prog.info? tRow).map (fun i => (i.zero, i.size, i.bytes)) = some (some (.slice none 0 0), 1, 24) := by kernel_rfl
def encS (r : Sl) : List Value := [r.v]
theorem elRow : ElT encS 1 tRows tRow 24 := ⟨fun _ => rfl, by decide, fun x u hu => by rw [List.mem_singleton.1 hu]; rfl, undRows, _, infoRow, rfl⟩
def gmap (G : List Int) : List (Int × Value) := G.zipIdx.map fun x => (x.1, .int .i64 (x.2 : Int))
theorem gmap_snoc (G : List Int) (x : Int) : gmap (G ++ [x]) = gmap G ++ [(x, .int .i64 (G.length : Int))] := by simp [gmap, List.zipIdx_append]
theorem look_gmap (G : List Int) (k : Int) : look k (gmap G) = (G.idxOf? k).map fun i : Nat => Value.int .i64 (i : Int) := by
 have := look_zipf (fun x : Int => x) k G 0
 simp only [Nat.zero_add, List.map_id'] at this
 exact this
def alB (s : SpecV) (T : List Ent) (i : Nat) : Bool := decide ((vocOf s T).Canon [(gids s T).getD i 0])
def relB (s : SpecV) (T : List Ent) (i k : Nat) : Bool := decide ((vocOf s T).Canon [(gids s T).getD i 0, (gids s T).getD k 0])
structure GridR (w : World) (g : Nat) (G : List Int) (al : Nat → Bool) (rel : Nat → Nat → Bool) (ids rows alone : Sl) (mb : Nat) (rs : List Sl) (m : Nat) : Prop where
 blk : w.heap[g]? = some (.cells #[ids.v, .map (some mb), rows.v, alone.v] tGrid (0, 0))
 oi : w.ownsRow 0 tInt 1 ids.v ids.n (G.flatMap encInt)
 map : MapIs intKey w mb (gmap G)
 orows : w.ownsRow 0 tRow 1 rows.v rows.n (rs.flatMap encS)
 rl : rs.length = m
 each : ∀ (i : Nat) (r : Sl), rs[i]? = some r → w.ownsRow 0 tU64 1 r.v r.n ((wordsOf G.length (rel i)).flatMap encU64)
 oal : w.ownsRow 0 tU64 1 alone.v alone.n ((wordsOf G.length al).flatMap encU64)
def GridIs (w : World) (g : Nat) (G : List Int) (al : Nat → Bool) (rel : Nat → Nat → Bool) : Prop := ∃ ids rows alone mb rs, GridR w g G al rel ids rows alone mb rs G.length
theorem GridR.on {w w' : World} {g : Nat} {G : List Int} {al : Nat → Bool} {rel : Nat → Nat → Bool} {ids rows alone : Sl} {mb : Nat} {rs : List Sl} {m : Nat} (h : GridR w g G al rel ids rows alone mb rs m) (hb : Below w.heap.size w w') : GridR w' g G al rel ids rows alone mb rs m :=
 ⟨held_on hb h.blk, own_on h.oi hb, h.map.on hb, own_on h.orows hb, h.rl, fun i r hr => own_on (h.each i r hr) hb, own_on h.oal hb⟩
theorem GridIs.on {w w' : World} {g : Nat} {G : List Int} {al : Nat → Bool} {rel : Nat → Nat → Bool} (h : GridIs w g G al rel) (hb : Below w.heap.size w w') : GridIs w' g G al rel := by
 obtain ⟨ids, rows, alone, mb, rs, h⟩ := h
 exact ⟨ids, rows, alone, mb, rs, h.on hb⟩
theorem VocIs.typed {w : World} {v : Nat} {s : SpecV} {T : List Ent} (h : VocIs w v s T) : ∃ c, w.heap[v]? = some (.cells c tVocab (0, 0)) := by
 obtain ⟨w0, x, tp, bp, mp, d, l, uses, hR⟩ := h
 exact ⟨_, hR.blk⟩
theorem VocIs.ne_cells {w : World} {v : Nat} {s : SpecV} {T : List Ent} (h : VocIs w v s T) {k : Nat} {c : Array Value} {e : TypeId} {fz : Nat × Nat} (hk : w.heap[k]? = some (.cells c e fz)) (he : e ≠ tVocab) : k ≠ v := by
 obtain ⟨c', hc⟩ := h.typed
 rintro rfl
 rw [hc] at hk
 cases hk
 exact he rfl
theorem VocIs.ne_map {w : World} {v : Nat} {s : SpecV} {T : List Ent} (h : VocIs w v s T) {κ : Type} [DecidableEq κ] {kv : κ → Value} {r : Nat} {m : List (κ × Value)} (hm : MapIs kv w r m) : r ≠ v := by
 obtain ⟨c', hc⟩ := h.typed
 rintro rfl
 obtain ⟨es, k, hk, _⟩ := hm
 rw [hc] at hk
 cases hk
theorem GridR.touch {w w' : World} {g : Nat} {G : List Int} {al : Nat → Bool} {rel : Nat → Nat → Bool} {ids rows alone : Sl} {mb : Nat} {rs : List Sl} {m : Nat} (h : GridR w g G al rel ids rows alone mb rs m) {v : Nat} {s : SpecV} {T : List Ent} (hV : VocIs w v s T) (t : Touch v w w') : GridR w' g G al rel ids rows alone mb rs m :=
 ⟨t.held (hV.ne_cells h.blk (by decide)) h.blk, hV.own_touch t h.oi (by decide), h.map.same (t.block mb h.map.lt (hV.ne_map h.map)), hV.own_touch t h.orows (by decide), h.rl, fun i r hr => hV.own_touch t (h.each i r hr) (by decide), hV.own_touch t h.oal (by decide)⟩
theorem GridIs.touch {w w' : World} {g : Nat} {G : List Int} {al : Nat → Bool} {rel : Nat → Nat → Bool} (h : GridIs w g G al rel) {v : Nat} {s : SpecV} {T : List Ent} (hV : VocIs w v s T) (t : Touch v w w') : GridIs w' g G al rel := by
 obtain ⟨ids, rows, alone, mb, rs, h⟩ := h
 exact ⟨ids, rows, alone, mb, rs, h.touch hV t⟩
theorem box_store {w2 w3 : World} {x u : Value} {e : TypeId} (hw : w3 = w2.alloc (.cells #[x] e)) (hu : u.oneCell' = true) {k : World → Prop} (hk : ∀ w4, w4.heap[w2.heap.size]? = some (.cells #[u] e (0, 0)) → Below w2.heap.size w2 w4 → k w4) : u.oneCell' = true ∧ (∃ y, w3.cell? (nb w2) = some y) ∧ w3.frozen? (nb w2) = false ∧ ∀ w4, w4 = w3.setCell (nb w2) u → k w4 :=
 store_one (storeP_new [x] [u] rfl (by intro y hy; rw [List.mem_singleton.1 hy]; exact hu) w3 hw fun w4 h4 _ b4 => hk w4 h4 b4)
theorem cell1 {w : World} {b : Nat} {x : Value} {e : TypeId} {fz : Nat × Nat} (h : w.heap[b]? = some (.cells #[x] e fz)) : w.cell? ⟨b, 0, none⟩ = some x := cell_heap h
theorem getD_of {α : Type} {l : List α} {i : Nat} (h : i < l.length) (d : α) : l.getD i d = l[i] := by simp [List.getD, h]
theorem gids_bound {s : SpecV} {T : List Ent} (h1 : TOk T) (h2 : s.right = true) : 256 ≤ (gids s T).length ∧ (gids s T).length ≤ 1032 := by
 have := h1.most
 have := h1.len
 have := allOk_len (right_parts h2).2.2.2.1
 rw [gids_length]
 omega
theorem Touch.put {v d j : Nat} {a b : World} (t : Touch v a b) (hd : a.heap.size ≤ d) (u : Value) : Touch v a (b.setCell ((⟨d, 0, none⟩ : Addr).add j) u) :=
 ⟨t.os, t.tape, t.output, by rw [size_setCell]; exact t.size, fun k hk hv => by rw [heap_setCell_ne (by rw [add_block]; show k ≠ d; omega)]; exact t.block k hk hv⟩
theorem VocIs.put {w : World} {v d j : Nat} {s : SpecV} {T : List Ent} (h : VocIs w v s T) {c : Array Value} {e : TypeId} (hd : w.heap[d]? = some (.cells c e (0, 0))) (he : tBool ≠ e) (hv : v < d) (u : Value) : VocIs (w.setCell ((⟨d, 0, none⟩ : Addr).add j) u) v s T := by
 obtain ⟨w0, x, tp, bp, mp, q, l, uses, hR⟩ := h
 have hlt := hR.lt
 refine ⟨w0, x, tp, bp, mp, q, l, uses, hR.parts, below_put hR.below (by omega) u, hlt, by rw [heap_setCell_ne (by rw [add_block]; show v ≠ d; omega)]; exact hR.blk, ?_⟩
 rcases hR.once with h | ⟨h1, h2, h3⟩
 ·exact .inl h
 ·exact .inr ⟨h1, h2, own_setCell h3 u (by rw [add_block]; exact row_ne_blk h3 hd he)⟩
theorem VocIs.growE {w w' : World} {v : Nat} {s : SpecV} {T : List Ent} (h : VocIs w v s T) {B : Nat} (hb : Below B w w') (hv : v < B) {B' n sz : Nat} {e : TypeId} {u : Value} {xs : List Value} (ho : w.ownsRow B' e sz u n xs) (he : tBool ≠ e) (hk : ∀ k, k < w.heap.size → u.ownBlock ≠ some k → w'.heap[k]? = w.heap[k]?) : VocIs w' v s T := by
 obtain ⟨w0, x, tp, bp, mp, d, l, uses, hR⟩ := h
 have hlt := hR.lt
 refine ⟨w0, x, tp, bp, mp, d, l, uses, hR.parts, hR.below.trans (hb.mono (by omega)), hlt, by rw [hb.block v hv]; exact hR.blk, ?_⟩
 rcases hR.once with h | ⟨h1, h2, h3⟩
 ·exact .inl h
 ·exact .inr ⟨h1, h2, own_same h3 fun k hk3 => hk k (own_lt h3 k hk3).2 (row_ne_row h3 ho he k hk3)⟩
theorem alone_dec (w : World) (v : Nat) (s : SpecV) (T : List Ent) (hV : VocIs w v s T) (t : Int) (ht : (vocOf s T).Has t) :
  CP 99 #[.pointer (some ⟨v, 0, none⟩), .int .i64 t] w fun e w' => e = .returned (.bool (decide ((vocOf s T).Canon [t]))) ∧ VocIs w' v s T ∧ Touch v w w' := by
 have hP : ∃ x tp bp mp, VocParts w s T x tp bp mp := by
  obtain ⟨w0, x, tp, bp, mp, d, l, uses, hR⟩ := hV
  exact ⟨x, tp, bp, mp, hR.now⟩
 obtain ⟨x, tp, bp, mp, hP⟩ := hP
 refine (alone_spec w v s T hV t).mono ?_
 rintro e w1 ⟨rfl, h⟩
 refine ⟨?_, h⟩
 congr 2
 have := aloneV_iff hP ht
 cases ha : aloneV s T t with
 | true => exact (decide_eq_true (this.1 ha)).symm
 | false => exact (decide_eq_false fun e => by rw [this.2 e] at ha; cases ha).symm
theorem new1_spec (w : World) (v : Nat) (s : SpecV) (T : List Ent) (hV : VocIs w v s T) (b0 b1 : Nat) {e0 e1 : TypeId} (ids : Sl) (G : List Int) (h0 : w.heap[b0]? = some (.cells #[.pointer (some ⟨v, 0, none⟩)] e0 (0, 0))) (h1 : w.heap[b1]? = some (.cells #[ids.v] e1 (0, 0))) (oi : w.ownsRow 0 tInt 1 ids.v ids.n (G.flatMap encInt)) (hG : ∀ t ∈ G, (vocOf s T).Has t) (i : Nat) (hi : i < G.length) :
  CP 98 #[.int .i64 (i : Int), .pointer (some ⟨b0, 0, none⟩), .pointer (some ⟨b1, 0, none⟩)] w fun e w' => e = .returned (.bool (decide ((vocOf s T).Canon [G.getD i 0]))) ∧ VocIs w' v s T ∧ Touch v w w' := by
 refine calls_ret (vc98_calls i (some ⟨b0, 0, none⟩) (some ⟨b1, 0, none⟩) w (fun u w' => u = .bool (decide ((vocOf s T).Canon [G.getD i 0])) ∧ VocIs w' v s T ∧ Touch v w w') ?_) (by rintro v w' ⟨rfl, h⟩; exact ⟨rfl, h⟩)
 intro w1 hw1
 have b1' : Below w.heap.size w w1 := by subst hw1; exact drew_on w
 have hls := LsAt.of_own elInt (own_on oi b1')
 have hn := hls.n
 obtain ⟨p, hp, c0⟩ := cell_rw hls.r hi rfl
 refine NilC.mk _ rfl ⟨_, cell1 (held_on b1' h0), NilC.mk _ rfl ⟨ids.a, ids.n, ids.c, cell1 (held_on b1' h1), NilC.mk p hp ⟨by omega, by omega, _, c0, ?_⟩⟩⟩
 refine (alone_dec w1 v s T (hV.on b1') G[i] (hG _ (List.getElem_mem hi))).mono ?_
 rintro e w2 ⟨rfl, hV2, t2⟩
 refine ⟨_, rfl, ?_, hV2, (Touch.of_below b1').trans t2⟩
 rw [getD_of hi]
theorem new2_spec (w : World) (v : Nat) (s : SpecV) (T : List Ent) (hV : VocIs w v s T) (cg ci cv ca cids : Nat) {eg ei ev ea ed : TypeId} (g : Nat) (ids rows alone : Sl) (mb : Nat) (rs : List Sl) (m i k : Nat) (hb : v < cg ∧ v < ci ∧ v < cv ∧ v < ca ∧ v < cids)
  (hR : GridR w g (gids s T) (alB s T) (relB s T) ids rows alone mb rs m) (hgh : ∀ t ∈ gids s T, (vocOf s T).Has t) (hgl : (gids s T).length ≤ 1032)
  (h0 : w.heap[cg]? = some (.cells #[.pointer (some ⟨g, 0, none⟩)] eg (0, 0))) (h1 : w.heap[ci]? = some (.cells #[.int .i64 (i : Int)] ei (0, 0))) (h2 : w.heap[cv]? = some (.cells #[.pointer (some ⟨v, 0, none⟩)] ev (0, 0))) (h3 : w.heap[ca]? = some (.cells #[.int .i64 ((gids s T).getD i 0)] ea (0, 0))) (h4 : w.heap[cids]? = some (.cells #[ids.v] ed (0, 0)))
  (hi : i < (gids s T).length) (hk : k < (gids s T).length) :
  CP 100 #[.int .i64 (k : Int), .pointer (some ⟨cg, 0, none⟩), .pointer (some ⟨ci, 0, none⟩), .pointer (some ⟨cv, 0, none⟩), .pointer (some ⟨ca, 0, none⟩), .pointer (some ⟨cids, 0, none⟩)] w fun e w' => e = .returned (.bool (relB s T i k)) ∧ VocIs w' v s T ∧ Touch v w w' := by
 refine calls_ret (vc100_calls k (some ⟨cg, 0, none⟩) (some ⟨ci, 0, none⟩) (some ⟨cv, 0, none⟩) (some ⟨ca, 0, none⟩) (some ⟨cids, 0, none⟩) w (fun u w' => u = .bool (relB s T i k) ∧ VocIs w' v s T ∧ Touch v w w') ?_) (by rintro v w' ⟨rfl, h⟩; exact ⟨rfl, h⟩)
 have hP : ∃ x tp bp mp, VocParts w s T x tp bp mp := by
  obtain ⟨w0, x, tp, bp, mp, d, l, uses, hR⟩ := hV
  exact ⟨x, tp, bp, mp, hR.now⟩
 obtain ⟨x, tp, bp, mp, hP⟩ := hP
 have hok := voc_ok hP
 have hA : (vocOf s T).Has ((gids s T).getD i 0) := by rw [getD_of hi]; exact hgh _ (List.getElem_mem hi)
 have hB : (vocOf s T).Has ((gids s T).getD k 0) := by rw [getD_of hk]; exact hgh _ (List.getElem_mem hk)
 have hpair : relB s T i k = true → alB s T i = true ∧ alB s T k = true := by
  intro h
  have := Voc.canon_append hok (P := [(gids s T).getD i 0]) (Q := [(gids s T).getD k 0]) (by
   intro t ht
   simp only [List.cons_append, List.nil_append, List.mem_cons, List.not_mem_nil, or_false] at ht
   rcases ht with rfl | rfl
   ·exact hA
   ·exact hB) (of_decide_eq_true h)
  exact ⟨decide_eq_true this.1, decide_eq_true this.2⟩
 intro w1 hw1
 have b1' : Below w.heap.size w w1 := by subst hw1; exact drew_on w
 have t1 : Touch v w w1 := Touch.of_below b1'
 have hR1 := hR.on b1'
 have hV1 := hV.on b1'
 have al1 := LsAt.of_own elU64 hR1.oal
 refine NilC.mk _ rfl ⟨_, cell1 (held_on b1' h0), NilC.mk _ rfl ⟨alone.a, alone.n, alone.c, by rw [cell_put hR1.blk]; rfl, NilC.mk _ rfl ⟨_, cell1 (held_on b1' h1), ?_⟩⟩⟩
 refine (rowHas_spec w1 alone.a alone.n alone.c _ (alB s T) al1.r al1.n (by omega) i hi).mono ?_
 rintro e w2 ⟨rfl, hw2⟩
 rw [hw2]
 refine ⟨_, rfl, CondP.mk (fun ha => ?_) fun ha => ⟨?_, hV1, t1⟩⟩
 ·refine NilC.mk _ rfl ⟨_, cell1 (held_on b1' h0), NilC.mk _ rfl ⟨alone.a, alone.n, alone.c, by rw [cell_put hR1.blk]; rfl, ?_⟩⟩
  refine (rowHas_spec w1 alone.a alone.n alone.c _ (alB s T) al1.r al1.n (by omega) k hk).mono ?_
  rintro e w3 ⟨rfl, hw3⟩
  rw [hw3]
  refine ⟨_, rfl, CondP.mk (fun hb => ?_) fun hb => ⟨?_, hV1, t1⟩⟩
  ·have hls := LsAt.of_own elInt hR1.oi
   have hn := hls.n
   obtain ⟨p, hp, c0⟩ := cell_rw hls.r hk rfl
   refine NilC.mk _ rfl ⟨_, cell1 (held_on b1' h2), NilC.mk _ rfl ⟨_, cell1 (held_on b1' h3), NilC.mk _ rfl ⟨ids.a, ids.n, ids.c, cell1 (held_on b1' h4), NilC.mk p hp ⟨by omega, by omega, _, c0, ?_⟩⟩⟩⟩
   rw [← getD_of hk 0]
   refine (valid_spec w1 v s T hV1 _ _ hA hB).mono ?_
   rintro e w4 ⟨rfl, hV4, t4⟩
   exact ⟨_, rfl, rfl, hV4, t1.trans t4⟩
  ·cases hr : relB s T i k with
   | false => rfl
   | true => rw [(hpair hr).2] at hb; cases hb
 ·cases hr : relB s T i k with
  | false => rfl
  | true => rw [(hpair hr).1] at ha; cases ha
theorem own_ne_map {w : World} {B : Nat} {e : TypeId} {sz n : Nat} {u : Value} {xs : List Value} (h : w.ownsRow B e sz u n xs) {κ : Type} [DecidableEq κ] {kv : κ → Value} {r : Nat} {m : List (κ × Value)} (hm : MapIs kv w r m) : u.ownBlock ≠ some r := by
 obtain ⟨es, k, hk, _⟩ := hm
 intro hb
 rcases h.2 with ⟨rfl, _⟩ | ⟨g, cap, cur, rfl, _, hg, _⟩
 ·cases hb
 ·cases hb
  rw [hk] at hg
  cases hg
theorem two_boxes {q w1 w2 : World} {x y u z : Value} {e e' : TypeId} (h1 : w1 = q.alloc (.cells #[x] e)) (h2 : w2 = w1.alloc (.cells #[y] e')) (hu : u.oneCell' = true) (hz : z.oneCell' = true) {k : World → Prop} (hk : ∀ w4, w4.heap[q.heap.size]? = some (.cells #[u] e (0, 0)) → w4.heap[w1.heap.size]? = some (.cells #[z] e' (0, 0)) → Below q.heap.size q w4 → k w4) :
  u.oneCell' = true ∧ (∃ a, w2.cell? (nb q) = some a) ∧ w2.frozen? (nb q) = false ∧ ∀ w3, w3 = w2.setCell (nb q) u → z.oneCell' = true ∧ (∃ a, w3.cell? (nb w1) = some a) ∧ w3.frozen? (nb w1) = false ∧ ∀ w4, w4 = w3.setCell (nb w1) z → k w4 := by
 have b1 : Below q.heap.size q w1 := by subst h1; exact below_alloc _ _
 have a1 : w1.heap[q.heap.size]? = some (.cells #[x] e (0, 0)) := by subst h1; exact alloc_new _ _
 have b2 : Below w1.heap.size w1 w2 := by subst h2; exact below_alloc _ _
 have a2 : w2.heap[w1.heap.size]? = some (.cells #[y] e' (0, 0)) := by subst h2; exact alloc_new _ _
 have a12 := held_on b2 a1
 have hlt : q.heap.size < w1.heap.size := (Array.getElem?_eq_some_iff.1 a1).1
 have b02 := below_then b1 b2
 refine ⟨hu, ⟨_, cell_heap a12⟩, frozen_heap a12, ?_⟩
 intro w3 h3
 have a13 : w3.heap[q.heap.size]? = some (.cells #[u] e (0, 0)) := by subst h3; exact setCell_heap a12 u
 have a23 : w3.heap[w1.heap.size]? = some (.cells #[y] e' (0, 0)) := by subst h3; rw [heap_setCell_ne (by show w1.heap.size ≠ q.heap.size; omega)]; exact a2
 have b03 : Below q.heap.size q w3 := by subst h3; exact b02.setCell (p := nb q) (Nat.le_refl _) u
 refine ⟨hz, ⟨_, cell_heap a23⟩, frozen_heap a23, ?_⟩
 intro w4 h4
 refine hk w4 ?_ ?_ ?_
 ·subst h4; rw [heap_setCell_ne (by show q.heap.size ≠ w1.heap.size; omega)]; exact a13
 ·subst h4; exact setCell_heap a23 z
 ·subst h4; exact b03.setCell (p := nb w1) (Nat.le_of_lt hlt) z
def NewGR (w : World) (v : Nat) (s : SpecV) (T : List Ent) (most : Int) (u : Value) (w' : World) : Prop := VocIs w' v s T ∧ Touch v w w' ∧ (if (((gids s T).length * (gids s T).length : Nat) : Int) > most then u = .tuple #[.pointer none, .int .i64 5] else ∃ g, u = .tuple #[.pointer (some ⟨g, 0, none⟩), .int .i64 0] ∧ GridIs w' g (gids s T) (alB s T) (relB s T) ∧ w.heap.size ≤ g)
set_option maxHeartbeats 2000000 in
theorem gridNew_spec (w : World) (v : Nat) (s : SpecV) (T : List Ent) (hV : VocIs w v s T) (hasc : (s.specials.map (·.1)).Pairwise (· < ·)) (most : Int) :
  CP 61 #[.pointer (some ⟨v, 0, none⟩), .int .i64 most] w fun e w' => ∃ u, e = .returned u ∧ NewGR w v s T most u w' := by
 refine vc61_calls (some ⟨v, 0, none⟩) most w (NewGR w v s T most) ?_
 have hgb : 256 ≤ (gids s T).length ∧ (gids s T).length ≤ 1032 ∧ (∀ t ∈ gids s T, (vocOf s T).Has t) ∧ (gids s T).Pairwise (· < ·) := by
  obtain ⟨w0, x, tp, bp, mp, d, l, uses, hR⟩ := hV
  have hP := hR.now
  exact ⟨(gids_bound hP.ok hP.right).1, (gids_bound hP.ok hP.right).2, fun t ht => (has_iff hP t).1 ((gids_has s T t).1 ht), gids_rising hasc hP.ids⟩
 obtain ⟨hg1, hg2, hgh, hgr⟩ := hgb
 intro w1 hw1
 have b1 : Below w.heap.size w w1 := by subst hw1; exact below_alloc _ _
 have l1 : w1.heap[w.heap.size]? = some (.cells #[.pointer (some ⟨v, 0, none⟩)] 31 (0, 0)) := by subst hw1; exact alloc_new _ _
 refine ⟨_, cell1 l1, ?_⟩
 have hV1 := hV.on b1
 refine (vocIds_spec w1 v s T hV1 hasc).mono ?_
 rintro e w2 ⟨ids, rfl, oids, b2⟩
 refine ⟨_, _, _, rfl, ?_⟩
 intro w3 hw3
 refine box_store hw3 rfl ?_
 intro w4 l4 b4
 have b24 := below_then b2 b4
 have b14 := below_then b1 b24
 have oids4 := own_base (own_on oids b4) (Nat.zero_le _)
 have hin := (LsAt.of_own elInt oids4).n
 have l14 := held_on b24 l1
 have hV4 := hV.on b14
 refine ⟨_, cell1 l14, CondP.no rfl ⟨ids.a, ids.n, ids.c, cell1 l4, ids.a, ids.n, ids.c, cell1 l4, Ar.nat ((gids s T).length * (gids s T).length) (by rw [hin]; simp) (by
  have : (gids s T).length * (gids s T).length ≤ 1032 * 1032 := Nat.mul_le_mul hg2 hg2
  omega) (CondP.mk (fun hm => ⟨hV4, Touch.of_below b14, ?_⟩) fun hm => ?_)⟩⟩
 ·rw [if_pos (of_decide_eq_true hm)]
 have hm := of_decide_eq_false hm
 obtain ⟨G, hG⟩ : ∃ G, G = gids s T := ⟨_, rfl⟩
 rw [← hG] at oids4 hin hg1 hg2 hgh hgr hm
 obtain ⟨n, hn⟩ : ∃ n, n = G.length := ⟨_, rfl⟩
 rw [← hn] at hin
 refine ⟨ids.a, ids.n, ids.c, cell1 l4, _, _, run_make _, ?_⟩
 have b5 := below_alloc w4 (.map #[] 0)
 have m5 : MapIs intKey (w4.alloc (.map #[] 0)) w4.heap.size (gmap []) := map_new w4
 obtain ⟨w5, hw5⟩ : ∃ w5, w5 = w4.alloc (.map #[] 0) := ⟨_, rfl⟩
 rw [← hw5] at b5 m5
 rw [← hw5]
 intro w6 hw6 w7 hw7
 have b6 : Below w5.heap.size w5 w6 := by subst hw6; exact below_alloc _ _
 have g6 : w6.heap[w5.heap.size]? = some (.cells #[ids.v, .map (some w4.heap.size), sl0.v, sl0.v] tGrid (0, 0)) := by subst hw6; exact alloc_new _ _
 refine box_store hw7 rfl ?_
 intro w8 l8 b8
 have b58 := below_then b6 b8
 have b48 := below_then b5 b58
 have b08 := below_then b14 b48
 have hz4 := b14.size
 have hz5 := b5.size
 have lt4 : w4.heap.size < w5.heap.size := m5.lt
 have lt6 : w5.heap.size < w6.heap.size := (Array.getElem?_eq_some_iff.1 g6).1
 have lt8 : w6.heap.size < w8.heap.size := (Array.getElem?_eq_some_iff.1 l8).1
 have lt2 : w2.heap.size < w4.heap.size := (Array.getElem?_eq_some_iff.1 l4).1
 have lt1 : w.heap.size < w4.heap.size := (Array.getElem?_eq_some_iff.1 l14).1
 have hvl := hV.lt
 have boxes : ∀ {q : World}, Below (w4.heap.size) w8 q → q.heap[w.heap.size]? = some (.cells #[.pointer (some ⟨v, 0, none⟩)] 31 (0, 0)) ∧ q.heap[w2.heap.size]? = some (.cells #[ids.v] tInts (0, 0)) := by
  intro q hq
  exact ⟨Below.keeps hq lt1 (held_on b48 l14), Below.keeps hq lt2 (held_on b48 l4)⟩
 refine ⟨ids.a, ids.n, ids.c, cell1 (held_on b48 l4), ?_⟩
 have oids8 := own_on oids4 b48
 have idsLt : ∀ k, ids.v.ownBlock = some k → k < w4.heap.size := fun k hk => (own_lt oids4 k hk).2
 intro I hI
 let Inv (i : Nat) (q : World) : Prop := MapIs intKey q w4.heap.size (gmap (G.take i)) ∧ (∀ j, j ≠ w4.heap.size → q.heap[j]? = w8.heap[j]?) ∧ q.heap.size = w8.heap.size ∧ Below w4.heap.size w4 q
 have key := climb2 (α := World) n Inv (fun i q => I [.int .i64 (i : Int)] q) w8 ⟨by rw [List.take_zero]; exact m5.on b58, fun _ _ => rfl, rfl, b48⟩ ?_ ?_
 ·exact key
 ·rintro i hi ih q ⟨hmap, hs, hz, hB⟩
  have hiG : i < G.length := by omega
  have oq : q.ownsRow 0 tInt 1 ids.v ids.n (G.flatMap encInt) := own_same oids8 fun k hk => hs k (by have := idsLt k hk; omega)
  obtain ⟨p, hp, c0⟩ := cell_rw (LsAt.of_own elInt oq).r hiG rfl
  have hlook : look G[i] (gmap (G.take i)) = none := by
   rw [look_gmap, List.idxOf?_eq_none_iff.2]
   ·rfl
   ·intro hmem
    obtain ⟨j, hj, e⟩ := List.mem_take_iff_getElem.1 hmem
    have := List.pairwise_iff_getElem.1 hgr j i (by omega) hiG (by omega)
    omega
  obtain ⟨q', hr', hm', hs', hz', hB'⟩ := run_put_new keysI undMapI hmap G[i] (.int .i64 (i : Int)) hlook
  refine hI _ _ (CondP.yes (by simp; omega) (NilC.mk p hp ⟨by omega, by omega, _, c0, _, cell1 (by rw [hs w6.heap.size (by omega)]; exact l8), NilC.mk _ rfl ⟨_, ptr_add0 _ _ (by rw [hs w5.heap.size (by omega)]; exact held_on b8 g6) 1, q', hr', Ar.nat (i + 1) rfl (by omega) (ih q' ⟨?_, fun j hj => by rw [hs' j hj, hs j hj], by rw [hz', hz], hB' _ _ (Nat.le_refl _) hB⟩)⟩⟩))
  have e : gmap (G.take (i + 1)) = gmap (G.take i) ++ [(G[i], .int .i64 (i : Int))] := by
   rw [List.take_add_one, List.getElem?_eq_getElem hiG]
   have := gmap_snoc (G.take i) G[i]
   rw [List.length_take, Nat.min_eq_left (by omega)] at this
   exact this
  rw [e]
  exact hm'
 ·rintro q ⟨hmap, hs, hz, hB⟩
  rw [List.take_of_length_le (by omega)] at hmap
  refine hI _ _ (CondP.no (by simp; omega) ?_)
  intro w11 hw11
  have b11 : Below q.heap.size q w11 := by subst hw11; exact drew_on q
  have hq8 : Below w4.heap.size w8 q := ⟨by rw [hB.os, ← b48.os], by rw [hB.tape, ← b48.tape], by rw [hB.output, ← b48.output], by rw [hz]; exact Nat.le_refl _, fun k hk => hs k (by omega)⟩
  have hq8' : Below w4.heap.size w8 w11 := hq8.trans (b11.mono (by have := hq8.size; omega))
  have hV11 : VocIs w11 v s T := (hV4.on b5 |> fun h5 => (hV4.on ⟨hB.os, hB.tape, hB.output, hB.size, hB.block⟩)).on b11
  have t11 : Touch v w w11 := (Touch.of_below b14).trans (Touch.of_below (hB.trans (b11.mono hB.size)))
  have g11 := held_on b11 (show q.heap[w5.heap.size]? = some (.cells #[ids.v, .map (some w4.heap.size), sl0.v, sl0.v] tGrid (0, 0)) by rw [hs _ (by omega)]; exact held_on b8 g6)
  have lg11 := held_on b11 (show q.heap[w6.heap.size]? = _ by rw [hs _ (by omega)]; exact l8)
  have bx11 := boxes hq8'
  have m11 := hmap.on b11
  have o11 : w11.ownsRow 0 tInt 1 ids.v ids.n (G.flatMap encInt) := own_on (own_same oids8 fun k hk => hs k (by have := idsLt k hk; omega)) b11
  subst hG
  have bxL : w.heap.size < w11.heap.size ∧ w2.heap.size < w11.heap.size ∧ w6.heap.size < w11.heap.size ∧ w5.heap.size < w11.heap.size := ⟨(Array.getElem?_eq_some_iff.1 bx11.1).1, (Array.getElem?_eq_some_iff.1 bx11.2).1, (Array.getElem?_eq_some_iff.1 lg11).1, (Array.getElem?_eq_some_iff.1 g11).1⟩
  have sz2 : w.heap.size ≤ w2.heap.size := Nat.le_trans b1.size b2.size
  refine ⟨_, cell1 lg11, ids.a, ids.n, ids.c, cell1 bx11.2, ?_⟩
  refine (fill_spec w11 ids.n _ (fun i => alB s T i) v s T hV11 (by omega) ?_).mono ?_
  ·intro i hi q hVq tq
   refine callG_of (by kernel_rfl) ?_
   exact new1_spec q v s T hVq w.heap.size w2.heap.size ids (gids s T) (tq.held (by omega) bx11.1) (tq.held (by omega) bx11.2) (hV11.own_touch tq o11 (by decide)) hgh i (by omega)
  rintro e w12 ⟨al, rfl, oal, hV12, t12⟩
  rw [hin, hn] at oal
  have lg12 := t12.held (by omega) lg11
  have g12 := t12.held (by omega) g11
  have x12 := t12.held (by omega) bx11.1
  have y12 := t12.held (by omega) bx11.2
  have o12 := hV11.own_touch t12 o11 (by decide)
  have m12 := m11.same (t12.block _ m11.lt (by omega))
  refine ⟨al.a, al.n, al.c, rfl, ⟨cell1 lg12, trivial⟩, NilC.mk _ rfl ⟨rfl, ⟨_, by rw [cell_put g12]; rfl⟩, frozen_put g12, ?_⟩⟩
  intro w13 hw13
  have g13 : w13.heap[w5.heap.size]? = some (.cells #[ids.v, .map (some w4.heap.size), sl0.v, al.v] tGrid (0, 0)) := by subst hw13; exact heap_put g12 _
  have hs13 : ∀ j, j ≠ w5.heap.size → w13.heap[j]? = w12.heap[j]? := by
   intro j hj
   subst hw13
   exact heap_setCell_ne (by rw [add_block]; exact hj)
  have hV13 : VocIs w13 v s T := by subst hw13; exact hV12.put g12 (by decide) (by omega) _
  have t13 : Touch v w w13 := by subst hw13; exact (t11.trans t12).put (by omega) _
  have lg13 : w13.heap[w6.heap.size]? = _ := (hs13 _ (by omega)).trans lg12
  have x13 : w13.heap[w.heap.size]? = _ := (hs13 _ (by omega)).trans x12
  have y13 : w13.heap[w2.heap.size]? = _ := (hs13 _ (by omega)).trans y12
  have hR13 : GridR w13 w5.heap.size (gids s T) (alB s T) (relB s T) ids sl0 al w4.heap.size [] 0 :=
   ⟨g13, own_same o12 fun k hk => hs13 k fun e => row_ne_blk o12 g12 (by decide) (by rw [hk, e]), m12.same (hs13 _ (by omega)), own_none _ _ _ _ encS, rfl, (by intro i r h; cases h), own_same (own_base oal (Nat.zero_le _)) fun k hk => hs13 k fun e => row_ne_blk oal g12 (by decide) (by rw [hk, e])⟩
  refine ⟨ids.a, ids.n, ids.c, cell1 y13, ?_⟩
  intro I2 hI2
  let Inv2 (i : Nat) (q : World) : Prop := ∃ rows rs, GridR q w5.heap.size (gids s T) (alB s T) (relB s T) ids rows al w4.heap.size rs i ∧ q.ownsRow w.heap.size tRow 1 rows.v rows.n (rs.flatMap encS) ∧ VocIs q v s T ∧ Touch v w q ∧ q.heap[w6.heap.size]? = some (.cells #[.pointer (some (nb w5))] 48 (0, 0)) ∧ q.heap[w.heap.size]? = some (.cells #[.pointer (some ⟨v, 0, none⟩)] 31 (0, 0)) ∧ q.heap[w2.heap.size]? = some (.cells #[ids.v] tInts (0, 0))
  have key2 := climb2 (α := World) n Inv2 (fun i q => I2 [.int .i64 (i : Int)] q) w13 ⟨sl0, [], hR13, own_none _ _ _ _ encS, hV13, t13, lg13, x13, y13⟩ ?_ ?_
  ·exact key2
  ·rintro i hi ih z ⟨rows, rs, hR, orow, hVz, tz, lgz, xz, yz⟩
   have hiG : i < (gids s T).length := by omega
   have zb : w.heap.size < z.heap.size ∧ w2.heap.size < z.heap.size ∧ w6.heap.size < z.heap.size ∧ w5.heap.size < z.heap.size := ⟨(Array.getElem?_eq_some_iff.1 xz).1, (Array.getElem?_eq_some_iff.1 yz).1, (Array.getElem?_eq_some_iff.1 lgz).1, (Array.getElem?_eq_some_iff.1 hR.blk).1⟩
   have hlz := LsAt.of_own elInt hR.oi
   obtain ⟨p, hp, c0⟩ := cell_rw hlz.r hiG rfl
   have hnz := hlz.n
   refine hI2 _ _ (CondP.yes (by simp; omega) (NilC.mk p hp ⟨by omega, by omega, _, c0, ?_⟩))
   intro w15 hw15 w16 hw16
   refine two_boxes hw15 hw16 rfl rfl ?_
   intro w18 bi18 ba18 b18
   have zs15 : z.heap.size < w15.heap.size := by subst hw15; rw [alloc_size]; omega
   intro w19 hw19
   have b19' : Below w18.heap.size w18 w19 := by subst hw19; exact drew_on w18
   have b19 := below_then b18 b19'
   have bi19 := held_on b19' bi18
   have ba19 := held_on b19' ba18
   have hR19 := hR.on b19
   have hV19 := hVz.on b19
   have lg19 := held_on b19 lgz
   have x19 := held_on b19 xz
   have y19 := held_on b19 yz
   have or19 := own_on orow b19
   have t19 : Touch v w w19 := tz.then_off b19 tz.size
   refine ⟨_, cell1 lg19, _, cell1 lg19, NilC.mk _ rfl ⟨rows.a, rows.n, rows.c, by rw [cell_put hR19.blk]; rfl, ids.a, ids.n, ids.c, cell1 y19, ?_⟩⟩
   refine (fill_spec w19 ids.n _ (fun k => relB s T i k) v s T hV19 (by omega) ?_).mono ?_
   ·intro k hk q hVq tq
    refine callG_of (by kernel_rfl) ?_
    refine new2_spec q v s T hVq w6.heap.size z.heap.size w.heap.size w15.heap.size w2.heap.size w5.heap.size ids rows al w4.heap.size rs i i k ⟨by omega, by omega, by omega, by omega, by omega⟩ (hR19.touch hV19 tq) hgh hg2 (tq.held (by omega) lg19) (tq.held (by omega) bi19) (tq.held (by omega) x19) (tq.held (by omega) (by rw [getD_of hiG]; exact ba19)) (tq.held (by omega) y19) hiG (by omega)
   rintro e w20 ⟨r, rfl, orw, hV20, t20⟩
   rw [hin, hn] at orw
   have hR20 := hR19.touch hV19 t20
   have lg20 := t20.held (by omega) lg19
   have x20 := t20.held (by omega) x19
   have y20 := t20.held (by omega) y19
   have or20 := hV19.own_touch t20 or19 (by decide)
   refine ⟨r.a, r.n, r.c, rfl, ⟨by rw [cell_put hR20.blk]; rfl, trivial⟩, ⟨cell1 lg20, trivial⟩, ⟨cell1 lg20, trivial⟩, ?_⟩
   intro w21 hw21
   have b21 : Below w20.heap.size w20 w21 := by subst hw21; exact below_alloc _ _
   have lg21 := held_on b21 lg20
   have wb : w.heap.size ≤ w20.heap.size := (t19.trans t20).size
   obtain ⟨rows', w22, hn22, hrun, own22, hB22, hk22⟩ := elRow.push or20 r hw21 rfl wb (by have := (LsAt.of_own elRow or20).n; have := hR.rl; omega) (by decide)
   refine ⟨⟨by rw [cell_put (held_on b21 hR20.blk)]; rfl, trivial⟩, ⟨cell1 lg21, trivial⟩, ⟨cell1 lg21, trivial⟩, rows'.a, rows'.n, rows'.c, w22, hrun, ?_⟩
   have kp : ∀ {k : Nat} {o : Obj}, w20.heap[k]? = some o → rows.v.ownBlock ≠ some k → w22.heap[k]? = some o := fun {k o} h hne => (hk22 k (Array.getElem?_eq_some_iff.1 h).1 hne).trans h
   have lg22 := kp lg20 (row_ne_blk or20 lg20 (by decide))
   have x22 := kp x20 (row_ne_blk or20 x20 (by decide))
   have y22 := kp y20 (row_ne_blk or20 y20 (by decide))
   have g22 := kp hR20.blk (row_ne_blk or20 hR20.blk (by decide))
   have B22 := hB22 w20 (Below.refl _ _)
   have hV22 := hV20.growE B22 hvl or20 (by decide) hk22
   have t22 : Touch v w w22 := (t19.trans t20).then_off B22 (Nat.le_refl _)
   refine ⟨⟨cell1 lg22, trivial⟩, NilC.mk _ rfl ⟨rfl, ⟨_, by rw [cell_put g22]; rfl⟩, frozen_put g22, ?_⟩⟩
   intro w23 hw23
   have hs23 : ∀ j, j ≠ w5.heap.size → w23.heap[j]? = w22.heap[j]? := by
    intro j hj
    subst hw23
    exact heap_setCell_ne (by rw [add_block]; exact hj)
   have same : ∀ {B sz n : Nat} {e : TypeId} {u : Value} {xs : List Value}, w20.ownsRow B e sz u n xs → e ≠ tRow → e ≠ tGrid → w23.ownsRow B e sz u n xs := by
    intro B sz n e u xs h h1 h2
    refine own_same h fun k hk => ?_
    rw [hs23 k fun e => row_ne_blk h hR20.blk h2 (by rw [hk, e])]
    exact hk22 k (own_lt h k hk).2 (row_ne_row h or20 h1 k hk)
   have own23 : w23.ownsRow w.heap.size tRow 1 rows'.v rows'.n ((rs ++ [r]).flatMap encS) := own_same own22 fun k hk => hs23 k fun e => row_ne_blk own22 g22 (by decide) (by rw [hk, e])
   refine Ar.nat (i + 1) rfl (by omega) (ih w23 ⟨rows', rs ++ [r], ?_, own23, ?_, ?_, (hs23 _ (by omega)).trans lg22, (hs23 _ (by omega)).trans x22, (hs23 _ (by omega)).trans y22⟩)
   ·refine ⟨by subst hw23; exact heap_put g22 _, same hR20.oi (by decide) (by decide), ?_, own_base own23 (Nat.zero_le _), by have := hR.rl; simp; omega, ?_, same hR20.oal (by decide) (by decide)⟩
    ·exact hR20.map.same ((hs23 _ (by omega)).trans (hk22 _ hR20.map.lt (own_ne_map or20 hR20.map)))
    ·intro j r' hj
     have hrl := hR.rl
     by_cases h : j < rs.length
     ·rw [List.getElem?_append_left h] at hj
      exact same (hR20.each j r' hj) (by decide) (by decide)
     ·have hji : j = i := by
       have := (List.getElem?_eq_some_iff.1 hj).1
       simp at this
       omega
      subst hji
      rw [List.getElem?_append_right (by omega), hrl, Nat.sub_self] at hj
      cases hj
      exact same (own_base orw (Nat.zero_le _)) (by decide) (by decide)
   ·subst hw23; exact hV22.put g22 (by decide) (by omega) _
   ·subst hw23; exact t22.put (by omega) _
  ·rintro z ⟨rows, rs, hR, orow, hVz, tz, lgz, xz, yz⟩
   rw [hn] at hR
   refine hI2 _ _ (CondP.no (by simp; omega) ⟨_, cell1 lgz, hVz, tz, ?_⟩)
   rw [if_neg (by have := hm; rw [hn] at *; omega)]
   exact ⟨w5.heap.size, rfl, ⟨ids, rows, al, w4.heap.size, rs, hR⟩, by omega⟩
def s1 (x : Nat) : Nat := (x / 2 &&& 6148914691236517205) + (x &&& 6148914691236517205)
def s2 (x : Nat) : Nat := (x / 4 &&& 3689348814741910323) + (x &&& 3689348814741910323)
def s3 (x : Nat) : Nat := x / 16 + x
def s4 (x : Nat) : Nat := (x &&& 1085102592571150095) + (x &&& 1085102592571150095) / 256
def s5 (x : Nat) : Nat := x + x / 65536
theorem sh_k (x k : Nat) (hk : k ≤ 64) : Int.fdiv (x : Int) (2 ^ (min (k : Int).toNat (IntKind.bits .u64))) = ((x / 2 ^ k : Nat) : Int) := by
 show Int.fdiv (x : Int) (2 ^ (min k 64)) = _
 rw [Nat.min_eq_left hk, Int.fdiv_eq_ediv_of_nonneg _ (Int.pow_nonneg (by decide))]
 simp
theorem and_m (x m : Nat) (hx : x < 2 ^ 64) (hm : m < 2 ^ 64) : IntKind.wrap .u64 ((BitVec.ofInt (IntKind.bits .u64) (x : Int) &&& BitVec.ofInt (IntKind.bits .u64) (m : Int)).toNat : Int) = ((x &&& m : Nat) : Int) := by
 show IntKind.wrap .u64 ((BitVec.ofInt 64 (x : Int) &&& BitVec.ofInt 64 (m : Int)).toNat : Int) = _
 rw [BitVec.toNat_and, ofInt_nat _ hx, ofInt_nat _ hm]
 exact wrap_u64 _ (Nat.lt_of_le_of_lt Nat.and_le_left hx)
abbrev GrIs (w : World) (g : Nat) (s : SpecV) (T : List Ent) : Prop := GridIs w g (gids s T) (alB s T) (relB s T)
def plc (s : SpecV) (T : List Ent) (id : Int) : Option Nat := (gids s T).idxOf? id
theorem idxOf_some {l : List Int} {a : Int} {i : Nat} (h : l.idxOf? a = some i) : ∃ h : i < l.length, l[i] = a := by
 have := List.findIdx?_eq_some_iff_getElem.1 h
 obtain ⟨h1, h2, _⟩ := this
 exact ⟨h1, by simpa using h2⟩
theorem plc_some {s : SpecV} {T : List Ent} {id : Int} {i : Nat} (h : plc s T id = some i) : i < (gids s T).length ∧ (gids s T).getD i 0 = id ∧ hasV2 s T id = true := by
 obtain ⟨h1, h2⟩ := idxOf_some h
 exact ⟨h1, by rw [getD_of h1]; exact h2, (gids_has s T id).1 (by rw [← h2]; exact List.getElem_mem h1)⟩
theorem plc_none {s : SpecV} {T : List Ent} {id : Int} (h : plc s T id = none) : hasV2 s T id = false := by
 have h1 := List.idxOf?_eq_none_iff.1 h
 cases hh : hasV2 s T id with
 | false => rfl
 | true => exact absurd ((gids_has s T id).2 hh) h1
theorem plc_has {s : SpecV} {T : List Ent} (id : Int) : (plc s T id).isSome = hasV2 s T id := by
 cases h : plc s T id with
 | none => exact (plc_none h).symm
 | some i => exact (plc_some h).2.2.symm
def gAl (s : SpecV) (T : List Ent) (id : Int) : Bool := hasV2 s T id && decide ((vocOf s T).Canon [id])
def gHas (s : SpecV) (T : List Ent) (a b : Int) : Bool := hasV2 s T a && hasV2 s T b && decide ((vocOf s T).Canon [a, b])
theorem infoI : (Tryz.prog.info? tInt).map (·.zero) = some (some (.int .i64 0)) := by kernel_rfl
theorem gPlace_spec (w : World) (g : Nat) (s : SpecV) (T : List Ent) (h : GrIs w g s T) (id : Int) :
  CP 41 #[.pointer (some ⟨g, 0, none⟩), .int .i64 id] w fun e w' => e = .returned (.tuple #[.int .i64 (((plc s T id).getD 0 : Nat) : Int), .bool (plc s T id).isSome]) ∧ w' = w := by
 refine calls_ret (vc41_calls (some ⟨g, 0, none⟩) id w (fun u w' => u = .tuple #[.int .i64 (((plc s T id).getD 0 : Nat) : Int), .bool (plc s T id).isSome] ∧ w' = w) ?_) (by rintro v w' ⟨rfl, h⟩; exact ⟨rfl, h⟩)
 obtain ⟨ids, rows, alone, mb, rs, hR⟩ := h
 refine CondP.no rfl (NilC.mk _ rfl ⟨some mb, by rw [cell_put hR.blk]; rfl, ?_⟩)
 have hl := run_look keysI undMapI infoI hR.map id
 rw [look_gmap] at hl
 have e : ((((gids s T).idxOf? id).map fun i : Nat => Value.int .i64 (i : Int)).getD (.int .i64 0)) = .int .i64 (((plc s T id).getD 0 : Nat) : Int) := by
  show _ = Value.int .i64 ((((gids s T).idxOf? id).getD 0 : Nat) : Int)
  cases (gids s T).idxOf? id <;> rfl
 rw [e, Option.isSome_map] at hl
 exact ⟨_, _, w, hl, rfl, rfl⟩
theorem gAlone_spec (w : World) (g : Nat) (s : SpecV) (T : List Ent) (h : GrIs w g s T) (hn : (gids s T).length ≤ 1032) (id : Int) :
  CP 32 #[.pointer (some ⟨g, 0, none⟩), .int .i64 id] w fun e w' => e = .returned (.bool (gAl s T id)) ∧ w' = w := by
 refine calls_ret (vc32_calls (some ⟨g, 0, none⟩) id w (fun u w' => u = .bool (gAl s T id) ∧ w' = w) ?_) (by rintro v w' ⟨rfl, h⟩; exact ⟨rfl, h⟩)
 refine (gPlace_spec w g s T h id).mono ?_
 rintro e w1 ⟨rfl, rfl⟩
 obtain ⟨ids, rows, alone, mb, rs, hR⟩ := h
 refine ⟨_, _, rfl, CondP.mk (fun h1 => ?_) fun h1 => ⟨?_, rfl⟩⟩
 ·obtain ⟨i, hi⟩ := Option.isSome_iff_exists.1 h1
  obtain ⟨hi1, hi2, hi3⟩ := plc_some hi
  have al1 := LsAt.of_own elU64 hR.oal
  refine NilC.mk _ rfl ⟨alone.a, alone.n, alone.c, by rw [cell_put hR.blk]; rfl, ?_⟩
  rw [hi]
  refine (rowHas_spec w1 alone.a alone.n alone.c _ (alB s T) al1.r al1.n (by omega) i hi1).mono ?_
  rintro e w2 ⟨rfl, rfl⟩
  refine ⟨_, rfl, ?_, rfl⟩
  unfold gAl alB
  rw [hi2, hi3, Bool.true_and]
 ·rw [plc_has] at h1
  unfold gAl
  rw [h1, Bool.false_and]
theorem row_get {s : SpecV} {T : List Ent} {w : World} {g : Nat} {ids rows alone : Sl} {mb : Nat} {rs : List Sl} (hR : GridR w g (gids s T) (alB s T) (relB s T) ids rows alone mb rs (gids s T).length) (i : Nat) (hi : i < (gids s T).length) : ∃ (p : Addr) (r : Sl), rows.a = some p ∧ i < rows.n ∧ w.cell? (p.add (i * 1)) = some (.slice r.a r.n r.c) ∧ LsAt encU64 1 w r (wordsOf (gids s T).length (relB s T i)) := by
 have hls := LsAt.of_own elRow hR.orows
 have hl := hR.rl
 have hi2 : i < rs.length := by omega
 obtain ⟨p, hp, c0⟩ := cell_rw hls.r hi2 (v := rs[i].v) rfl
 exact ⟨p, rs[i], hp, by rw [hls.n]; exact hi2, c0, LsAt.of_own elU64 (hR.each i _ (List.getElem?_eq_getElem hi2))⟩
theorem gHas_spec (w : World) (g : Nat) (s : SpecV) (T : List Ent) (h : GrIs w g s T) (hn : (gids s T).length ≤ 1032) (a b : Int) :
  CP 33 #[.pointer (some ⟨g, 0, none⟩), .int .i64 a, .int .i64 b] w fun e w' => e = .returned (.bool (gHas s T a b)) ∧ w' = w := by
 refine calls_ret (vc33_calls (some ⟨g, 0, none⟩) a b w (fun u w' => u = .bool (gHas s T a b) ∧ w' = w) ?_) (by rintro v w' ⟨rfl, h⟩; exact ⟨rfl, h⟩)
 refine (gPlace_spec w g s T h a).mono ?_
 rintro e w1 ⟨rfl, rfl⟩
 refine ⟨_, _, rfl, (gPlace_spec w1 g s T h b).mono ?_⟩
 rintro e w2 ⟨rfl, rfl⟩
 obtain ⟨ids, rows, alone, mb, rs, hR⟩ := h
 refine ⟨_, _, rfl, CondP.mk (fun h1 => CondP.mk (fun h2 => ?_) fun h2 => ⟨?_, rfl⟩) fun h1 => ⟨?_, rfl⟩⟩
 ·obtain ⟨i, hi⟩ := Option.isSome_iff_exists.1 h1
  obtain ⟨hi1, hi2, hi3⟩ := plc_some hi
  obtain ⟨j, hj⟩ := Option.isSome_iff_exists.1 h2
  obtain ⟨hj1, hj2, hj3⟩ := plc_some hj
  obtain ⟨p, r, hp, hin, hc, hls⟩ := row_get hR i hi1
  rw [hi, hj]
  refine NilC.mk _ rfl ⟨rows.a, rows.n, rows.c, by rw [cell_put hR.blk]; rfl, NilC.mk p hp ⟨by omega, by show ((i : Nat) : Int) < _; omega, r.a, r.n, r.c, hc, ?_⟩⟩
  refine (rowHas_spec w2 r.a r.n r.c _ (relB s T i) hls.r hls.n (by omega) j hj1).mono ?_
  rintro e w2 ⟨rfl, rfl⟩
  refine ⟨_, rfl, ?_, rfl⟩
  unfold gHas relB
  rw [hi2, hi3, hj2, hj3, Bool.true_and, Bool.true_and]
 ·rw [plc_has] at h2
  unfold gHas
  rw [h2, Bool.and_false, Bool.false_and]
 ·rw [plc_has] at h1
  unfold gHas
  rw [h1, Bool.false_and, Bool.false_and]
theorem gSize_spec (w : World) (g : Nat) (s : SpecV) (T : List Ent) (h : GrIs w g s T) :
  CP 24 #[.pointer (some ⟨g, 0, none⟩)] w fun e w' => e = .returned (.int .i64 (((gids s T).length : Nat) : Int)) ∧ w' = w := by
 refine calls_ret (vc24_calls (some ⟨g, 0, none⟩) w (fun u w' => u = .int .i64 (((gids s T).length : Nat) : Int) ∧ w' = w) ?_) (by rintro v w' ⟨rfl, h⟩; exact ⟨rfl, h⟩)
 obtain ⟨ids, rows, alone, mb, rs, hR⟩ := h
 refine CondP.no rfl (NilC.mk _ rfl ⟨ids.a, ids.n, ids.c, by rw [cell_put hR.blk]; rfl, ?_, rfl⟩)
 rw [(LsAt.of_own elInt hR.oi).n]
theorem gId_spec (w : World) (g : Nat) (s : SpecV) (T : List Ent) (h : GrIs w g s T) (place : Int) :
  CP 25 #[.pointer (some ⟨g, 0, none⟩), .int .i64 place] w fun e w' => e = .returned (if 0 ≤ place ∧ place < ((gids s T).length : Int) then .tuple #[.int .i64 ((gids s T).getD place.toNat 0), .bool true] else .tuple #[.int .i64 0, .bool false]) ∧ w' = w := by
 refine calls_ret (vc25_calls (some ⟨g, 0, none⟩) place w (fun u w' => u = (if 0 ≤ place ∧ place < ((gids s T).length : Int) then .tuple #[.int .i64 ((gids s T).getD place.toNat 0), .bool true] else .tuple #[.int .i64 0, .bool false]) ∧ w' = w) ?_) (by rintro v w' ⟨rfl, h⟩; exact ⟨rfl, h⟩)
 refine CondP.mk (fun h1 => ⟨?_, rfl⟩) fun h1 => ?_
 ·rw [if_neg (by have := of_decide_eq_true h1; omega)]
 have h1 := of_decide_eq_false h1
 refine (gSize_spec w g s T h).mono ?_
 rintro e w1 ⟨rfl, rfl⟩
 refine ⟨_, rfl, CondP.mk (fun h2 => ⟨?_, rfl⟩) fun h2 => ?_⟩
 ·rw [if_neg (by have := of_decide_eq_true h2; omega)]
 have h2 := of_decide_eq_false h2
 obtain ⟨ids, rows, alone, mb, rs, hR⟩ := h
 obtain ⟨i, rfl⟩ : ∃ i : Nat, place = i := ⟨place.toNat, by omega⟩
 have hi : i < (gids s T).length := by omega
 have hls := LsAt.of_own elInt hR.oi
 obtain ⟨p, hp, c0⟩ := cell_rw hls.r hi rfl
 have := hls.n
 refine NilC.mk _ rfl ⟨ids.a, ids.n, ids.c, by rw [cell_put hR.blk]; rfl, NilC.mk p hp ⟨by omega, by omega, _, c0, ?_, rfl⟩⟩
 rw [if_pos ⟨by omega, by omega⟩]
 show _ = Value.tuple #[.int .i64 ((gids s T).getD i 0), .bool true]
 rw [getD_of hi]
theorem cloneR_spec (w : World) (a : Option Addr) (c : Nat) (xs : List Int) (hr : Rw encU64 1 w a xs) (hl : xs.length ≤ 1000000000) :
  CP 69 #[.slice a xs.length c] w fun e w' => ∃ s : Sl, e = .returned s.v ∧ s.n = xs.length ∧ w'.ownsRow w.heap.size tU64 1 s.v s.n (xs.flatMap encU64) ∧ Below w.heap.size w w' := by
 refine calls_ret (vc69_calls a xs.length c w (fun v w' => ∃ s : Sl, v = s.v ∧ s.n = xs.length ∧ w'.ownsRow w.heap.size tU64 1 s.v s.n (xs.flatMap encU64) ∧ Below w.heap.size w w') ?_) (by rintro v w' ⟨s, rfl, h⟩; exact ⟨s, rfl, h⟩)
 refine CondP.mk (fun h0 => ?_) fun h0 => ?_
 ·have hx : xs = [] := by
   cases xs with
   | nil => rfl
   | cons x t =>
    obtain ⟨p, hp, _⟩ := hr 0 x rfl
    rw [hp] at h0
    cases h0
  subst hx
  exact ⟨⟨none, 0, 0⟩, rfl, rfl, own_nil _ _ _ _, Below.refl _ _⟩
 ·obtain ⟨p, rfl⟩ : ∃ p, a = some p := by
   cases a with
   | none => cases h0
   | some p => exact ⟨p, rfl⟩
  intro w1 hw1
  obtain ⟨A, C, w2, h2, h3, h4⟩ := copy_row (enc := encU64) (sz := 1) (fun _ => rfl) (by decide) (fun x u hu => by rw [List.mem_singleton.1 hu]; rfl) tRow tU64 undRow infoU64 rfl w ⟨some p, xs.length, c⟩ xs (.inr ⟨p, rfl⟩) hr rfl (by simp only; omega) (by simp only; omega) w1 hw1
  exact ⟨A, xs.length, C, w2, h2, ⟨A, xs.length, C⟩, rfl, rfl, h3, h4⟩
theorem gRow_spec (w : World) (g : Nat) (s : SpecV) (T : List Ent) (h : GrIs w g s T) (hn : (gids s T).length ≤ 1032) (id : Int) :
  CP 31 #[.pointer (some ⟨g, 0, none⟩), .int .i64 id] w fun e w' => Below w.heap.size w w' ∧ ((plc s T id = none ∧ e = .returned (.slice none 0 0)) ∨ ∃ i l, plc s T id = some i ∧ e = .returned (Sl.v l) ∧ w'.ownsRow w.heap.size tU64 1 l.v l.n ((wordsOf (gids s T).length (relB s T i)).flatMap encU64)) := by
 refine calls_ret (vc31_calls (some ⟨g, 0, none⟩) id w (fun u w' => Below w.heap.size w w' ∧ ((plc s T id = none ∧ u = .slice none 0 0) ∨ ∃ i l, plc s T id = some i ∧ u = Sl.v l ∧ w'.ownsRow w.heap.size tU64 1 l.v l.n ((wordsOf (gids s T).length (relB s T i)).flatMap encU64))) ?_) (by rintro v w' ⟨h1, ⟨h2, rfl⟩ | ⟨i, l, h2, rfl, h3⟩⟩; exact ⟨h1, .inl ⟨h2, rfl⟩⟩; exact ⟨h1, .inr ⟨i, l, h2, rfl, h3⟩⟩)
 refine (gPlace_spec w g s T h id).mono ?_
 rintro e w1 ⟨rfl, rfl⟩
 obtain ⟨ids, rows, alone, mb, rs, hR⟩ := h
 refine ⟨_, _, rfl, CondP.mk (fun h1 => ⟨Below.refl _ _, .inl ⟨?_, rfl⟩⟩) fun h1 => ?_⟩
 ·cases hp : plc s T id with
  | none => rfl
  | some i => rw [hp] at h1; cases h1
 ·obtain ⟨i, hi⟩ := Option.isSome_iff_exists.1 (by simpa using h1)
  obtain ⟨hi1, hi2, hi3⟩ := plc_some hi
  obtain ⟨p, r, hp, hin, hc, hls⟩ := row_get hR i hi1
  rw [hi]
  refine NilC.mk _ rfl ⟨rows.a, rows.n, rows.c, by rw [cell_put hR.blk]; rfl, NilC.mk p hp ⟨by omega, by show ((i : Nat) : Int) < _; omega, r.a, r.n, r.c, hc, ?_⟩⟩
  rw [hls.n]
  refine (cloneR_spec w1 r.a r.c _ hls.r (by rw [wordsOf_length]; omega)).mono ?_
  rintro e w2 ⟨l, rfl, hl, ho, b2⟩
  exact ⟨l.a, l.n, l.c, rfl, b2, .inr ⟨i, l, rfl, rfl, ho⟩⟩
def FirstR (V : Voc) (ids : List Int) : Option Nat → Prop
 | none => ∀ (i : Nat) (h : i < ids.length), V.Has ids[i] ∧ V.Canon (ids.take (i + 1))
 | some k => (∀ (i : Nat) (h : i < ids.length), i < k → V.Has ids[i] ∧ V.Canon (ids.take (i + 1))) ∧ ∃ h : k < ids.length, ¬ (V.Has ids[k] ∧ V.Canon (ids.take (k + 1)))
theorem firstR_is {V : Voc} {ids : List Int} (hh : ∀ t ∈ ids, V.Has t) {o : Option Nat} (h : FirstR V ids o) : FirstIs V ids o := by
 cases o with
 | none =>
  rcases Nat.eq_zero_or_pos ids.length with e | e
  ·rw [List.eq_nil_of_length_eq_zero e]
   rfl
  ·have := (h (ids.length - 1) (by omega)).2
   rwa [Nat.sub_add_cancel e, List.take_length] at this
 | some k =>
  obtain ⟨h1, hk, h2⟩ := h
  refine ⟨hk, ?_, fun e => h2 ⟨hh _ (List.getElem_mem hk), e⟩⟩
  cases k with
  | zero => rfl
  | succ j => exact (h1 j (by omega) (by omega)).2
theorem has_iff2 {s : SpecV} {T : List Ent} (hok : TOk T) (t : Int) : hasV2 s T t = true ↔ (vocOf s T).Has t := by
 unfold hasV2
 rw [decide_eq_true_eq, tok_iff hok]
 exact Or.comm
def sAw : SpecV := { merges := [(97, 98)] }
def tAw : List Ent := begins ++ [([97, 98], (97, 98))]
theorem right_aw : sAw.right = true := by decide +kernel
theorem build_aw : buildV sAw = .ok tAw := by
 have h : (match buildV sAw with | .ok t => decide (t = tAw) | .error _ => false) = true := by decide +kernel
 cases hx : buildV sAw with
 | error q => rw [hx] at h; cases h
 | ok t => rw [hx] at h; rw [of_decide_eq_true h]
theorem aw1 : (vocOf sAw tAw).Canon [97] := by decide +kernel
theorem aw2 : ¬ (vocOf sAw tAw).Canon [97, 98] := by decide +kernel
theorem aw3 : (vocOf sAw tAw).Canon [256] ∧ (vocOf sAw tAw).Canon [256, 98] ∧ (vocOf sAw tAw).Canon [256, 98, 97] := by decide +kernel
theorem aw4 : readyV sAw tAw [97, 98] = (0, 0) ∧ readyV sAw tAw [256, 98, 97] = (0, 0) := by decide +kernel
theorem specAt_aw (w w1 : World) (hw1 : w1 = w.alloc (.cells #[Value.int .i64 97, Value.int .i64 98] tMg)) : SpecAt w1 ⟨false, ⟨some (nb w), 1, 1⟩, ⟨none, 0, 0⟩, ⟨none, 0, 0⟩, ⟨none, 0, 0⟩, ⟨none, 0, 0⟩⟩ sAw := by
 have l1 : w1.heap[w.heap.size]? = some (.cells #[Value.int .i64 97, Value.int .i64 98] tMg (0, 0)) := by subst hw1; exact alloc_new _ _
 have none_ : ∀ {α : Type} {enc : α → List Value} {sz : Nat}, Rw enc sz w1 none [] := fun j x hj => by simp at hj
 refine ⟨rfl, rfl, fun j x hj => ?_, rfl, none_, rfl, none_, rfl, none_, rfl, none_⟩
 have hj0 : j = 0 := by
  have := (List.getElem?_eq_some_iff.1 hj).1
  simp [sAw] at this
  exact this
 subst hj0
 have hx : x = (97, 98) := by simpa [sAw] using hj.symm
 subst hx
 refine ⟨nb w, rfl, (Array.getElem?_eq_some_iff.1 l1).1, fun k v hk => ?_⟩
 rw [Nat.zero_mul, add_zero, ptr_add0 _ _ l1]
 match k, hk with
 | 0, hk => cases hk; rfl
 | 1, hk => cases hk; rfl
theorem intsAt (w w1 : World) (xs : List Int) (c : Array Value) (hc : c = (xs.map fun n => Value.int .i64 n).toArray) (hw1 : w1 = w.alloc (.cells c tInt)) : Rw encInt 1 w1 (some (nb w)) xs := by
 intro j x hj
 have l1 : w1.heap[w.heap.size]? = some (.cells c tInt (0, 0)) := by subst hw1; exact alloc_new _ _
 refine ⟨nb w, rfl, (Array.getElem?_eq_some_iff.1 l1).1, fun k v hk => ?_⟩
 match k, hk with
 | 0, hk =>
  cases hk
  rw [add_zero, Nat.mul_one, ptr_add0 _ _ l1, hc]
  simp [hj]
theorem awake18_spec (w : World) : CP 16 #[] w fun e w' => e = .returned (.bool true) ∧ Below w.heap.size w w' := by
 refine calls_ret (vc16_calls w (fun u w' => u = .bool true ∧ Below w.heap.size w w') ?_) (by rintro v w' ⟨rfl, h⟩; exact ⟨rfl, h⟩)
 intro w1 hw1
 have hb1 : Below w.heap.size w w1 := by subst hw1; exact below_alloc _ _
 refine (vocabNew_spec w1 _ sAw (specAt_aw w w1 hw1)).mono ?_
 rintro e w2 ⟨u, rfl, hb2, hp⟩
 rw [if_pos right_aw, build_aw] at hp
 obtain ⟨v, rfl, hV, hv⟩ := hp
 have hb12 := below_then hb1 hb2
 have hz1 := hb1.size
 refine ⟨_, _, _, rfl, ?_⟩
 intro w3 hw3
 have hb3 : Below w2.heap.size w2 w3 := by subst hw3; exact below_alloc _ _
 have hvl : v < w2.heap.size := by
  obtain ⟨w0, x, tp, bp, mp, d, l, uses, hR⟩ := hV
  exact (Array.getElem?_eq_some_iff.1 hR.blk).1
 have hB3 := below_then hb12 hb3
 refine (check_spec w3 v sAw tAw (hV.on hb3) (some (nb w2)) 2 [97, 98] (intsAt w2 w3 [97, 98] _ rfl hw3) (by rintro _ p hp; cases hp; show w2.heap.size ≠ v; omega)).mono ?_
 rintro e w4 ⟨hV4, t4, h4⟩
 obtain ⟨hr, _, o, ho, rfl⟩ := h4.resolve_left (fun h => h.1 (by rw [aw4.1]))
 have ho1 : o = some 1 := by
  cases o with
  | none => exact absurd ho aw2
  | some k =>
   obtain ⟨hk, h1, h2⟩ := ho
   match k, hk, h2 with
   | 0, _, h2 => exact absurd aw1 h2
   | 1, _, _ => rfl
 subst ho1
 refine ⟨_, _, rfl, ?_⟩
 intro w5 hw5
 have hb5 : Below w4.heap.size w4 w5 := by subst hw5; exact below_alloc _ _
 have hz4 := t4.size
 have hz3 := hb3.size
 refine (check_spec w5 v sAw tAw (hV4.on hb5) (some (nb w4)) 3 [256, 98, 97] (intsAt w4 w5 [256, 98, 97] _ rfl hw5) (by rintro _ p hp; cases hp; show w4.heap.size ≠ v; omega)).mono ?_
 rintro e w6 ⟨hV6, t6, h6⟩
 obtain ⟨hr6, _, o6, ho6, rfl⟩ := h6.resolve_left (fun h => h.1 (by rw [aw4.2]))
 have ho2 : o6 = none := by
  cases o6 with
  | none => rfl
  | some k =>
   obtain ⟨hk, h1, h2⟩ := ho6
   match k, hk, h2 with
   | 0, _, h2 => exact absurd aw3.1 h2
   | 1, _, h2 => exact absurd aw3.2.1 h2
   | 2, _, h2 => exact absurd aw3.2.2 h2
 subst ho2
 refine ⟨_, _, rfl, CondP.yes rfl (CondP.yes rfl (CondP.yes rfl ⟨rfl, ?_⟩))⟩
 have hB4 : Below w.heap.size w w4 := hB3.trans (t4.below (by omega) hB3.size)
 have hB5 := hB4.trans (hb5.mono hB4.size)
 exact hB5.trans (t6.below (by omega) hB5.size)
theorem gFirst_spec (w : World) (g : Nat) (s : SpecV) (T : List Ent) (h : GrIs w g s T) (hn : (gids s T).length ≤ 1032) (hok : TOk T) (hV : (vocOf s T).Ok) (A : Option Addr) (C : Nat) (ids : List Int) (hr : Rw encInt 1 w A ids) (hl : ids.length ≤ 10000) :
  CP 122 #[.pointer (some ⟨g, 0, none⟩), .slice A ids.length C] w fun e w' => ∃ o : Option Nat, e = .returned (.tuple #[.int .i64 ((o.getD 0 : Nat) : Int), .bool o.isSome]) ∧ FirstR (vocOf s T) ids o ∧ w' = w := by
 refine calls_ret (vc122_calls (some ⟨g, 0, none⟩) A ids.length C w (fun u w' => ∃ o : Option Nat, u = .tuple #[.int .i64 ((o.getD 0 : Nat) : Int), .bool o.isSome] ∧ FirstR (vocOf s T) ids o ∧ w' = w) ?_) (by rintro v w' ⟨o, rfl, h⟩; exact ⟨o, rfl, h⟩)
 have hal : ∀ t, gAl s T t = true ↔ (vocOf s T).Has t ∧ (vocOf s T).Canon [t] := by
  intro t
  unfold gAl
  rw [Bool.and_eq_true, has_iff2 hok, decide_eq_true_iff]
 have hpr : ∀ a b, gHas s T a b = true ↔ ((vocOf s T).Has a ∧ (vocOf s T).Has b) ∧ (vocOf s T).Canon [a, b] := by
  intro a b
  unfold gHas
  rw [Bool.and_eq_true, Bool.and_eq_true, has_iff2 hok, has_iff2 hok, decide_eq_true_iff]
 intro I hI
 have key := climb2 (α := World) ids.length (fun i q => (∀ (j : Nat) (h : j < ids.length), j < i → (vocOf s T).Has ids[j] ∧ (vocOf s T).Canon (ids.take (j + 1))) ∧ q = w) (fun i q => ∀ y5 y4, I [.int .i64 (i : Int), .bool y5, .int .i64 y4] q) w ⟨fun j _ hj => absurd hj (Nat.not_lt_zero j), rfl⟩ ?_ ?_
 ·exact key _ _
 ·rintro i hi ih q ⟨hinv, rfl⟩ y5 y4
  obtain ⟨p, hp, c0⟩ := cell_rw hr hi rfl
  refine hI _ _ _ _ (CondP.yes (by simp; omega) (NilC.mk p hp ⟨by omega, by omega, _, c0, ?_⟩))
  refine (gAlone_spec q g s T h hn _).mono ?_
  rintro e w2 ⟨rfl, rfl⟩
  refine ⟨_, rfl, CondP.mk (fun h0 => ?_) fun h0 => ?_⟩
  ·refine ⟨some i, rfl, ⟨fun j hj hji => hinv j hj hji, hi, fun e => ?_⟩, rfl⟩
   have hh : ∀ t ∈ ids.take (i + 1), (vocOf s T).Has t := by
    intro t ht
    obtain ⟨j, hj, rfl⟩ := List.mem_take_iff_getElem.1 ht
    by_cases e2 : j = i
    ·subst e2; exact e.1
    ·exact (hinv j (by omega) (by omega)).1
   have htk : ids.take (i + 1) = ids.take i ++ [ids[i]] := by rw [List.take_add_one, List.getElem?_eq_getElem hi]; rfl
   rw [htk] at hh e
   rw [(hal _).2 ⟨e.1, (Voc.canon_append hV hh e.2).2⟩] at h0
   cases h0
  ·have h1 := (hal _).1 (by simpa using h0)
   have htk : ids.take (i + 1) = ids.take i ++ [ids[i]] := by rw [List.take_add_one, List.getElem?_eq_getElem hi]; rfl
   have next : (vocOf s T).Canon (ids.take (i + 1)) → Ar .i64 ((i : Int) + 1) (fun n => I [.int .i64 n, .bool y5, .int .i64 y4] w2) := by
    intro hc
    refine Ar.nat (i + 1) rfl (by omega) (ih w2 ⟨fun j hj hji => ?_, rfl⟩ _ _)
    by_cases e2 : j = i
    ·subst e2; exact ⟨h1.1, hc⟩
    ·exact hinv j hj (by omega)
   refine CondP.mk (fun hi0 => ?_) fun hi0 => ?_
   ·have hi0 := of_decide_eq_true hi0
    obtain ⟨k, rfl⟩ : ∃ k, i = k + 1 := ⟨i - 1, by omega⟩
    obtain ⟨p2, hp2, c1⟩ := cell_rw hr (show k < ids.length by omega) rfl
    refine Ar.nat k (by omega) (by omega) (NilC.mk p2 hp2 ⟨by omega, by omega, _, c1, ?_⟩)
    refine (gHas_spec w2 g s T h hn _ _).mono ?_
    rintro e w3 ⟨rfl, rfl⟩
    have hk := hinv k (by omega) (by omega)
    have htk2 : ids.take (k + 1) = ids.take k ++ [ids[k]] := by rw [List.take_add_one, List.getElem?_eq_getElem (by omega)]; rfl
    have hh : ∀ t ∈ ids.take k ++ [ids[k]], (vocOf s T).Has t := by
     intro t ht
     rw [← htk2] at ht
     obtain ⟨j, hj, rfl⟩ := List.mem_take_iff_getElem.1 ht
     exact (hinv j (by omega) (by omega)).1
    have hc2 := hk.2
    rw [htk2] at hc2
    have m1 := Voc.canon_more hV hh hc2 h1.1
    have m2 : (vocOf s T).Canon [ids[k], ids[k + 1]] ↔ (vocOf s T).Canon [ids[k + 1]] ∧ (vocOf s T).Pair ids[k] ids[k + 1] := Voc.canon_more hV (init := []) (l := ids[k]) (t := ids[k + 1]) (fun x hx => by rw [List.nil_append, List.mem_singleton] at hx; rw [hx]; exact hk.1) (Voc.canon_append hV hh hc2).2 h1.1
    refine ⟨_, rfl, CondP.mk (fun h2 => ?_) fun h2 => ?_⟩
    ·refine ⟨some (k + 1), rfl, ⟨fun j hj hji => hinv j hj hji, hi, fun e => ?_⟩, rfl⟩
     have e2 := e.2
     rw [htk, htk2] at e2
     rw [(hpr _ _).2 ⟨⟨hk.1, h1.1⟩, m2.2 (m1.1 e2)⟩] at h2
     cases h2
    ·have h3 := (hpr _ _).1 (by simpa using h2)
     exact next (by rw [htk, htk2]; exact m1.2 (m2.1 h3.2))
   ·have hi0 := of_decide_eq_false hi0
    obtain rfl : i = 0 := by omega
    refine next ?_
    rw [htk, List.take_zero, List.nil_append]
    exact h1.2
 ·rintro q ⟨hinv, rfl⟩ y5 y4
  exact hI _ _ _ _ (CondP.no (by simp) ⟨none, rfl, fun j hj => hinv j hj hj, rfl⟩)
theorem gids_few {w : World} {v : Nat} {y : RvW} {s : SpecV} {T : List Ent} (h : Both w v y s T) : (gids s T).length ≤ 1006 ∧ (((gids s T).length * (gids s T).length : Nat) : Int) ≤ 1048576 := by
 have h1 := h.now.ok.most
 have h2 := h.few
 have h3 := h.ids
 have hT : T.length ≤ 1000 := h1
 have hl : (gids s T).length ≤ 1006 := by rw [gids_length]; omega
 refine ⟨hl, ?_⟩
 have : (gids s T).length * (gids s T).length ≤ 1006 * 1006 := Nat.mul_le_mul hl hl
 omega
section
variable {κ : Type} [DecidableEq κ] (k : Nat → κ)
def firsts : Nat → List Nat
 | 0 => []
 | i + 1 => match (firsts i).findIdx? (fun a => decide (k a = k i)) with
  | some _ => firsts i
  | none => firsts i ++ [i]
def clsOf (i : Nat) : Nat := ((firsts k i).findIdx? (fun a => decide (k a = k i))).getD (firsts k i).length
variable {k}
theorem firsts_succ (i : Nat) : firsts k (i + 1) = match (firsts k i).findIdx? (fun a => decide (k a = k i)) with
  | some _ => firsts k i
  | none => firsts k i ++ [i] := rfl
theorem firsts_lt : ∀ {n : Nat} {a : Nat}, a ∈ firsts k n → a < n
 | 0, a, h => by cases h
 | n + 1, a, h => by
  unfold firsts at h
  split at h
  ·have := firsts_lt h; omega
  ·rcases List.mem_append.1 h with h | h
   ·have := firsts_lt h; omega
   ·rw [List.mem_singleton.1 h]; omega
theorem firsts_pre : ∀ {n : Nat} (d : Nat), ∃ t, firsts k (n + d) = firsts k n ++ t
 | n, 0 => ⟨[], by simp⟩
 | n, d + 1 => by
  obtain ⟨t, h⟩ := firsts_pre (n := n) d
  rw [← Nat.add_assoc, firsts]
  split
  ·exact ⟨t, h⟩
  ·exact ⟨t ++ [n + d], by rw [h, List.append_assoc]⟩
theorem firsts_inj : ∀ {n : Nat} (c c' : Nat) (h : c < (firsts k n).length) (h' : c' < (firsts k n).length), k (firsts k n)[c] = k (firsts k n)[c'] → c = c'
 | 0, c, c', h, _, _ => absurd h (Nat.not_lt_zero c)
 | n + 1, c, c', h, h', e => by
  have key : (firsts k (n + 1) = firsts k n) ∨ (firsts k (n + 1) = firsts k n ++ [n] ∧ ∀ a ∈ firsts k n, k a ≠ k n) := by
   rw [firsts_succ]
   split
   ·exact .inl rfl
   ·next hh =>
    refine .inr ⟨rfl, fun a ha => ?_⟩
    have := List.findIdx?_eq_none_iff.1 hh a ha
    simpa using this
  rcases key with hk | ⟨hk, hn⟩
  ·simp only [hk] at h h' e
   exact firsts_inj c c' h h' e
  ·simp only [hk] at h h' e
   rw [List.length_append, List.length_singleton] at h h'
   by_cases h1 : c < (firsts k n).length
   ·by_cases h2 : c' < (firsts k n).length
    ·rw [List.getElem_append_left h1, List.getElem_append_left h2] at e
     exact firsts_inj c c' h1 h2 e
    ·have : c' = (firsts k n).length := by omega
     subst this
     rw [List.getElem_append_left h1, List.getElem_append_right (Nat.le_refl _)] at e
     simp only [Nat.sub_self, List.getElem_singleton] at e
     exact absurd e (hn _ (List.getElem_mem h1))
   ·have : c = (firsts k n).length := by omega
    subst this
    by_cases h2 : c' < (firsts k n).length
    ·rw [List.getElem_append_left h2, List.getElem_append_right (Nat.le_refl _)] at e
     simp only [Nat.sub_self, List.getElem_singleton] at e
     exact absurd e.symm (hn _ (List.getElem_mem h2))
    ·omega
theorem firsts_step (i : Nat) : (∃ c, (firsts k i).findIdx? (fun a => decide (k a = k i)) = some c ∧ firsts k (i + 1) = firsts k i ∧ clsOf k i = c ∧ ∃ h : c < (firsts k i).length, k (firsts k i)[c] = k i) ∨ ((firsts k i).findIdx? (fun a => decide (k a = k i)) = none ∧ firsts k (i + 1) = firsts k i ++ [i] ∧ clsOf k i = (firsts k i).length ∧ ∀ a ∈ firsts k i, k a ≠ k i) := by
 cases h : (firsts k i).findIdx? (fun a => decide (k a = k i)) with
 | none =>
  refine .inr ⟨rfl, by rw [firsts, h], by rw [clsOf, h]; rfl, fun a ha => ?_⟩
  have := List.findIdx?_eq_none_iff.1 h a ha
  simpa using this
 | some c =>
  obtain ⟨h1, h2, _⟩ := List.findIdx?_eq_some_iff_getElem.1 h
  exact .inl ⟨c, rfl, by rw [firsts, h], by rw [clsOf, h]; rfl, h1, by simpa using h2⟩
theorem cls_next (i : Nat) : clsOf k i ≤ (firsts k i).length ∧ (firsts k (i + 1)).length = max (firsts k i).length (clsOf k i + 1) := by
 rcases firsts_step (k := k) i with ⟨c, _, h2, h3, h4, _⟩ | ⟨_, h2, h3, _⟩
 ·rw [h2, h3]; omega
 ·rw [h2, h3, List.length_append, List.length_singleton]; omega
theorem cls_in {n i : Nat} (hi : i < n) : ∃ h : clsOf k i < (firsts k n).length, k (firsts k n)[clsOf k i] = k i := by
 obtain ⟨t, ht⟩ := firsts_pre (k := k) (n := i + 1) (n - (i + 1))
 rw [show i + 1 + (n - (i + 1)) = n by omega] at ht
 have key : ∃ h : clsOf k i < (firsts k (i + 1)).length, k (firsts k (i + 1))[clsOf k i] = k i := by
  rcases firsts_step (k := k) i with ⟨c, _, h2, h3, h4, h5⟩ | ⟨_, h2, h3, _⟩
  ·simp only [h2, h3]; exact ⟨h4, h5⟩
  ·simp only [h2, h3]
   exact ⟨by simp, by simp⟩
 obtain ⟨h1, h2⟩ := key
 simp only [ht]
 exact ⟨by rw [List.length_append]; omega, by rw [List.getElem_append_left h1]; exact h2⟩
theorem cls_iff {n i j : Nat} (hi : i < n) (hj : j < n) : clsOf k i = clsOf k j ↔ k i = k j := by
 obtain ⟨h1, h2⟩ := cls_in (k := k) hi
 obtain ⟨h3, h4⟩ := cls_in (k := k) hj
 constructor
 ·intro e
  rw [← h2, ← h4]
  simp only [e]
 ·intro e
  exact firsts_inj _ _ h1 h3 (by rw [h2, h4, e])
end
def byteOf (x j : Nat) : UInt8 := UInt8.ofNat (x / 2 ^ (8 * j))
def wordText (x : Nat) : List UInt8 := (List.range 8).map (byteOf x)
def wTextOf (l : List Nat) : List UInt8 := l.flatMap wordText
theorem wordText_inj {x y : Nat} (hx : x < 2 ^ 64) (hy : y < 2 ^ 64) (h : wordText x = wordText y) : x = y := by
 have key : ∀ j, j < 8 → x / 2 ^ (8 * j) % 256 = y / 2 ^ (8 * j) % 256 := by
  intro j hj
  have := congrArg (fun l => l[j]?) h
  simp only [wordText, List.getElem?_map, List.getElem?_range hj, Option.map_some, Option.some.injEq, byteOf] at this
  have := congrArg UInt8.toNat this
  simpa [UInt8.toNat_ofNat'] using this
 have k0 := key 0 (by decide); have k1 := key 1 (by decide); have k2 := key 2 (by decide); have k3 := key 3 (by decide)
 have k4 := key 4 (by decide); have k5 := key 5 (by decide); have k6 := key 6 (by decide); have k7 := key 7 (by decide)
 simp only [Nat.reduceMul, Nat.reducePow] at k0 k1 k2 k3 k4 k5 k6 k7 hx hy
 omega
theorem wTextOf_inj : ∀ {l m : List Nat}, l.length = m.length → (∀ x ∈ l, x < 2 ^ 64) → (∀ x ∈ m, x < 2 ^ 64) → wTextOf l = wTextOf m → l = m
 | [], [], _, _, _, _ => rfl
 | x :: l, y :: m, hl, h1, h2, h => by
  have e : wordText x ++ wTextOf l = wordText y ++ wTextOf m := h
  have hlen : (wordText x).length = (wordText y).length := by simp [wordText]
  have := List.append_inj e hlen
  rw [wordText_inj (h1 x List.mem_cons_self) (h2 y List.mem_cons_self) this.1, wTextOf_inj (by simpa using hl) (fun z hz => h1 z (List.mem_cons_of_mem _ hz)) (fun z hz => h2 z (List.mem_cons_of_mem _ hz)) this.2]
def rowText (n : Nat) (p : Nat → Bool) : List UInt8 := wTextOf ((List.range ((n + 63) / 64)).map (wordAt n p))
theorem rowText_iff {n : Nat} {p q : Nat → Bool} : rowText n p = rowText n q ↔ ∀ i, i < n → p i = q i := by
 constructor
 ·intro h i hi
  have e := wTextOf_inj (by simp) (by intro x hx; obtain ⟨j, _, rfl⟩ := List.mem_map.1 hx; exact wordAt_lt _ _ _) (by intro x hx; obtain ⟨j, _, rfl⟩ := List.mem_map.1 hx; exact wordAt_lt _ _ _) h
  have := congrArg (fun l => l[i / 64]?) e
  have hk : i / 64 < (n + 63) / 64 := by omega
  simp only [List.getElem?_map, List.getElem?_range hk, Option.map_some, Option.some.injEq] at this
  rw [← wordAt_test n p hi, ← wordAt_test n q hi, this]
 ·intro h
  unfold rowText
  congr 1
  apply List.map_congr_left
  intro j hj
  unfold wordAt
  apply bitsN_congr
  intro m hm
  by_cases e : 64 * j + m < n
  ·rw [h _ e]
  ·simp [e]
end Go.Proofs.YtboemnagahmlkaaGreat.Eng
