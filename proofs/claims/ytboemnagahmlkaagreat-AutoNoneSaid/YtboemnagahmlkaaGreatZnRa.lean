/- The reference's tables, walked by the engine. -/
import Derived.Test.YtboemnagahmlkaaGreatZnVo
import Derived.Test.YtboemnagahmlkaaGreatZnTab
import Derived.Test.YtboemnagahmlkaaGreatZnBd
set_option linter.unusedVariables false
set_option linter.unusedSimpArgs false
set_option maxRecDepth 100000
namespace Go.Proofs.YtboemnagahmlkaaGreat.Eng
open Go Go.RowKit
theorem own_slOk {w : World} {B : Nat} {e : TypeId} {sz : Nat} {l : Sl} {xs : List Value} (h : w.ownsRow B e sz l.v l.n xs) : SlOk l := by
  obtain ⟨la, ln, lc⟩ := l
  rcases h.2 with ⟨hv, _⟩ | ⟨g, cap, cur, hv, _⟩
  · cases hv
    exact .inl rfl
  · cases hv
    exact .inr ⟨_, rfl⟩
/-- One more behind a row that the call owns; the new element lies in a block of its own. -/
theorem push_any {α : Type} {enc : α → List Value} {sz : Nat} (hsz : ∀ x, (enc x).length = sz) (h0 : 0 < sz) (h1 : ∀ x, ∀ u ∈ enc x, u.oneCell' = true) (t e : TypeId) {z : Value} {bytes : Nat} (ht : Tryz.prog.underlying t = some (.slice e)) (hi : (Tryz.prog.info? e).map (fun i => (i.zero, i.size, i.bytes)) = some (some z, sz, bytes)) (hzs : z.cells.size = sz)
    {B : Nat} {w : World} {s : Sl} {xs : List α} (hown : w.ownsRow B e sz s.v s.n (xs.flatMap enc)) (x : α) {b : Nat} {T : TypeId} {fz : Nat × Nat} (hb : w.heap[b]? = some (.cells (enc x).toArray T fz)) (hB : B ≤ w.heap.size) (hbytes : (s.n + 1) * bytes ≤ 140737488355328) (h63 : s.n + 1 ≤ 140737488355328) :
    ∃ A C w', (Builtin.append_ #[t, t] t #[.slice s.a s.n s.c, .slice (some ⟨b, 0, none⟩) 1 1]).run Tryz.prog w = .ok (.slice A (s.n + 1) C) w' ∧ w'.ownsRow B e sz (.slice A (s.n + 1) C) (s.n + 1) ((xs ++ [x]).flatMap enc) ∧ (∀ w0, Below B w0 w → Below B w0 w') ∧ (∀ k, k < w.heap.size → s.v.ownBlock ≠ some k → w'.heap[k]? = w.heap[k]?) := by
  obtain ⟨A, C, w', h2, h3, h4, h5⟩ := run_spread (P := Tryz.prog) t e ht hi hzs h0 hown ⟨some ⟨b, 0, none⟩, 1, 1⟩ (.inr ⟨_, rfl⟩) (enc x) (by rw [hsz, Nat.one_mul]) (by
    intro a ha j u hj
    cases ha
    rw [ptr_add0 _ _ hb]
    simpa using hj) (h1 x) hbytes h63 hB
  exact ⟨A, C, w', h2, by simpa using h3, h4, h5⟩
end Go.Proofs.YtboemnagahmlkaaGreat.Eng

/- The reference's table grown by numbers, and what is made of bytes, walked by the engine. -/
set_option linter.unusedVariables false
set_option linter.unusedSimpArgs false
set_option maxRecDepth 100000
namespace Go.Proofs.YtboemnagahmlkaaGreat.Eng
open Go Go.RowKit
theorem Ar.nat {z : Int} {F : Int → Prop} (n : Nat) (hz : z = (n : Int)) (hn : n ≤ 9223372036854775807) (h : F (n : Int)) : Ar .i64 z F := by
  subst hz
  exact Ar.ok64 (by omega) (by omega) h
theorem cell_rw {α : Type} {enc : α → List Value} {w : World} {a : Option Addr} {xs : List α} (h : Rw enc 1 w a xs) {i : Nat} (hi : i < xs.length) {v : Value} (hv : (enc xs[i])[0]? = some v) : ∃ q, a = some q ∧ w.cell? (q.add (i * 1)) = some v := by
  obtain ⟨q, hq, _, hc⟩ := h i _ (List.getElem?_eq_getElem hi)
  have := hc 0 _ hv
  rw [add_zero] at this
  exact ⟨q, hq, this⟩
/-! ### Lists in memory -/
structure LsAt {α : Type} (enc : α → List Value) (sz : Nat) (w : World) (l : Sl) (xs : List α) : Prop where
  n : l.n = xs.length
  r : Rw enc sz w l.a xs
  k : SlOk l
/-- What is to be known of a slice's type. -/
structure ElT {α : Type} (enc : α → List Value) (sz : Nat) (t e : TypeId) (bytes : Nat) : Prop where
  hsz : ∀ x, (enc x).length = sz
  h0 : 0 < sz
  h1 : ∀ x, ∀ u ∈ enc x, u.oneCell' = true
  ht : Tryz.prog.underlying t = some (.slice e)
  hz : ∃ z : Value, (Tryz.prog.info? e).map (fun i => (i.zero, i.size, i.bytes)) = some (some z, sz, bytes) ∧ z.cells.size = sz
theorem elInt : ElT encInt 1 tInts tInt 8 := ⟨fun _ => rfl, by decide, fun x u hu => by rw [List.mem_singleton.1 hu]; rfl, undInts, _, infoInt, rfl⟩
theorem LsAt.of_own {α : Type} {enc : α → List Value} {sz bytes : Nat} {t e : TypeId} (E : ElT enc sz t e bytes) {w : World} {B : Nat} {l : Sl} {xs : List α} (h : w.ownsRow B e sz l.v l.n (xs.flatMap enc)) : LsAt enc sz w l xs :=
  have := Rw.of_own h E.hsz E.h0
  ⟨this.2, this.1, own_slOk h⟩
/-- One more behind a row that the call owns. -/
theorem ElT.push {α : Type} {enc : α → List Value} {sz bytes : Nat} {t e : TypeId} (E : ElT enc sz t e bytes) {B : Nat} {w2 w3 : World} {s : Sl} {xs : List α} (hown : w2.ownsRow B e sz s.v s.n (xs.flatMap enc)) (x : α) {T : TypeId} {c : Array Value} (hw : w3 = w2.alloc (.cells c T)) (hc : c = (enc x).toArray) (hB : B ≤ w2.heap.size) (hn : s.n ≤ 1000000000) (hb : bytes ≤ 1000) :
    ∃ (l : Sl) (w4 : World), l.n = s.n + 1 ∧ (Builtin.append_ #[t, t] t #[.slice s.a s.n s.c, .slice (some (nb w2)) 1 1]).run Tryz.prog w3 = .ok (.slice l.a l.n l.c) w4 ∧ w4.ownsRow B e sz l.v l.n ((xs ++ [x]).flatMap enc) ∧ (∀ w0, Below B w0 w2 → Below B w0 w4) ∧ (∀ k, k < w2.heap.size → s.v.ownBlock ≠ some k → w4.heap[k]? = w2.heap[k]?) := by
  obtain ⟨z, hi, hzs⟩ := E.hz
  subst hw hc
  have hba := below_alloc w2 (.cells (enc x).toArray T)
  have hmul : (s.n + 1) * bytes ≤ (1000000000 + 1) * 1000 := Nat.mul_le_mul (by omega) hb
  obtain ⟨A, C, w4, h1, h2, h3, h4⟩ := push_any (enc := enc) (sz := sz) E.hsz E.h0 E.h1 t e E.ht hi hzs (own_on hown hba) x (alloc_new w2 _) (Nat.le_trans hB hba.size) (by omega) (by omega)
  refine ⟨⟨A, s.n + 1, C⟩, w4, rfl, h1, h2, fun w0 h0 => h3 w0 (h0.trans (hba.mono hB)), fun k hk hne => ?_⟩
  rw [h4 k (Nat.lt_of_lt_of_le hk hba.size) hne, hba.block k hk]
/-- A list behind a row that the call owns. -/
theorem ElT.spread {α : Type} {enc : α → List Value} {sz bytes : Nat} {t e : TypeId} (E : ElT enc sz t e bytes) {B : Nat} {w2 : World} {s l : Sl} {xs ys : List α} (hown : w2.ownsRow B e sz s.v s.n (xs.flatMap enc)) (hl : LsAt enc sz w2 l ys) (hB : B ≤ w2.heap.size) (hn : s.n ≤ 1000000000) (hm : l.n ≤ 1000000000) (hb : bytes ≤ 1000) :
    ∃ (r : Sl) (w4 : World), r.n = s.n + l.n ∧ (Builtin.append_ #[t, t] t #[.slice s.a s.n s.c, .slice l.a l.n l.c]).run Tryz.prog w2 = .ok (.slice r.a r.n r.c) w4 ∧ w4.ownsRow B e sz r.v r.n ((xs ++ ys).flatMap enc) ∧ (∀ w0, Below B w0 w2 → Below B w0 w4) ∧ (∀ k, k < w2.heap.size → s.v.ownBlock ≠ some k → w4.heap[k]? = w2.heap[k]?) ∧ ∀ k, r.v.ownBlock = some k → s.v.ownBlock = some k ∨ w2.heap.size ≤ k := by
  obtain ⟨z, hi, hzs⟩ := E.hz
  have hmul : (s.n + l.n) * bytes ≤ (1000000000 + 1000000000) * 1000 := Nat.mul_le_mul (by omega) hb
  have hr := hl.r
  obtain ⟨A, C, w4, h1, h2, h3, h4, h5⟩ := run_spread2 (P := Tryz.prog) t e E.ht hi hzs E.h0 hown l hl.k (ys.flatMap enc) (by rw [flatMap_length E.hsz, hl.n]) (by
    intro a ha j u hj
    rw [ha] at hr
    exact hr.flat E.hsz E.h0 j u hj) (by
    intro u hu
    obtain ⟨x, _, hx⟩ := List.mem_flatMap.1 hu
    exact E.h1 x u hx) (by omega) (by omega) hB
  exact ⟨⟨A, s.n + l.n, C⟩, w4, rfl, h1, by rw [List.flatMap_append]; exact h2, h3, h4, h5⟩
theorem own_none (w : World) (B : Nat) (e : TypeId) (sz : Nat) {α : Type} (enc : α → List Value) : w.ownsRow B e sz sl0.v sl0.n (([] : List α).flatMap enc) := own_nil w B e sz
/-! ### What is made of bytes, rank by rank -/
end Go.Proofs.YtboemnagahmlkaaGreat.Eng

/- The reference's bounds and marks, walked by the engine. -/
set_option linter.unusedVariables false
set_option linter.unusedSimpArgs false
set_option maxRecDepth 100000
namespace Go.Proofs.YtboemnagahmlkaaGreat.Eng
open Go Go.RowKit
/-! ### Bounds -/
/-! ### Marks -/
end Go.Proofs.YtboemnagahmlkaaGreat.Eng

/- The reference's pieces, walked by the engine. -/
set_option linter.unusedVariables false
set_option linter.unusedSimpArgs false
set_option maxRecDepth 100000
namespace Go.Proofs.YtboemnagahmlkaaGreat.Eng
open Go Go.RowKit
theorem store_one {w : World} {p : Addr} {v : Value} {k : World → Prop} (h : StoreP w p k [v] 0) : v.oneCell' = true ∧ (∃ u, w.cell? p = some u) ∧ w.frozen? p = false ∧ ∀ w', w' = w.setCell p v → k w' := by
  obtain ⟨h1, h2, h3, h4⟩ := h
  rw [add_zero] at h2 h3 h4
  exact ⟨h1, h2, h3, h4⟩
end Go.Proofs.YtboemnagahmlkaaGreat.Eng

/- The reference's vocabulary, walked by the engine. -/
set_option linter.unusedVariables false
set_option linter.unusedSimpArgs false
set_option maxRecDepth 100000
namespace Go.Proofs.YtboemnagahmlkaaGreat.Eng
open Go Go.RowKit
end Go.Proofs.YtboemnagahmlkaaGreat.Eng

/- What the reference makes of items, walked by the engine. -/
set_option linter.unusedVariables false
set_option linter.unusedSimpArgs false
set_option maxRecDepth 100000
namespace Go.Proofs.YtboemnagahmlkaaGreat.Eng
open Go Go.RowKit
def encU8 (b : UInt8) : List Value := [.int .u8 ((b.toNat : Nat) : Int)]
theorem u8_cells (l : List UInt8) : l.flatMap encU8 = Lib.byteCells l := by
  induction l with
  | nil => rfl
  | cons b l ih => rw [List.flatMap_cons, ih]; rfl
theorem elU8 : ElT encU8 1 tBytes tU8 1 := ⟨fun _ => rfl, by decide, fun x u hu => by rw [List.mem_singleton.1 hu]; rfl, undBytes, _, infoU8, rfl⟩
end Go.Proofs.YtboemnagahmlkaaGreat.Eng

/- Whether tokens are canonical, and the reference's vocabulary made of a spec, walked by the engine. -/
set_option linter.unusedVariables false
set_option linter.unusedSimpArgs false
set_option maxRecDepth 100000
namespace Go.Proofs.YtboemnagahmlkaaGreat.Eng
open Go Go.RowKit
end Go.Proofs.YtboemnagahmlkaaGreat.Eng

/- Some right spec: the reference's vocabularies of a statement, walked by the engine. -/
set_option linter.unusedVariables false
set_option linter.unusedSimpArgs false
set_option maxRecDepth 100000
namespace Go.Proofs.YtboemnagahmlkaaGreat.Eng
open Go Go.RowKit
abbrev tSps : TypeId := 25
theorem elSpecial : ElT encSpecial 2 tSps tSp 24 := ⟨fun _ => rfl, by decide, fun x => ones_special _ _, undSps, _, infoSp, rfl⟩
end Go.Proofs.YtboemnagahmlkaaGreat.Eng

/- The vocabulary of a statement, and the reference's. -/
set_option linter.unusedVariables false
set_option linter.unusedSimpArgs false
set_option maxRecDepth 100000
namespace Go.Proofs.YtboemnagahmlkaaGreat.Eng
open Go Go.RowKit
theorem VocIs.lt {w : World} {v : Nat} {s : SpecV} {T : List Ent} (h : VocIs w v s T) : v < w.heap.size := by
  obtain ⟨w0, x, tp, bp, mp, d, l, uses, hR⟩ := h
  exact (Array.getElem?_eq_some_iff.1 hR.blk).1
/-! ### A block of slices alone is stored into -/
/-! ### Arguments, opened -/
open Go.ChangeShapes Go.WideShapes
section
variable {H : Type} {enc0 : TypeId × Value → H} {w : World} {base : Nat} {spare : Nat → Bool} {held : Bool}
end
end Go.Proofs.YtboemnagahmlkaaGreat.Eng

/- What these functions owe, printed by a program of this repo out of the translation. -/
set_option linter.unusedVariables false
set_option maxRecDepth 100000
namespace Go.Proofs.YtboemnagahmlkaaGreat.Eng
open Go Go.Value
def vc24 (a : OA) (w : World) (R : RW) : Prop :=
 CondP (Option.isNone a)
 (R (int .i64 0) w)
 (NilC a (fun b =>
 ∃ c d f, w.cell? (b.add 0) = some (slice c d f) ∧
 R (int .i64 (d : Int)) w))
theorem vc24_calls (a : OA) (w : World) (R : RW) (hh : vc24 a w R) : Calls Tryz.prog 24 #[pointer a] w fun e w' => ∃ v, e = .returned v ∧ R v w' :=
 calls_of_den ctxOk (fn := Tryz.f24) (by kernel_rfl) (body := bodyOf Tryz.f24) (by kernel_rfl) (by kernel_rfl) (by kernel_rfl) (Eq.mp (by kernel_rfl) hh)
def vc25 (a : OA) (b : Int) (w : World) (R : RW) : Prop :=
 CondP (decide (b < 0))
 (R (tuple #[int .i64 0, bool false]) w)
 (Calls Tryz.prog 24 #[pointer a] w (fun c d =>
 ∃ f, c = .returned (int .i64 f) ∧
 CondP (decide (b ≥ f))
 (R (tuple #[int .i64 0, bool false]) d)
 (NilC a (fun g =>
 ∃ h i j, d.cell? (g.add 0) = some (slice h i j) ∧
 NilC h (fun k =>
 (0 : Int) ≤ b ∧ b < (i : Int) ∧
 ∃ l, d.cell? (k.add (b.toNat * 1)) = some (int .i64 l) ∧
 R (tuple #[int .i64 l, bool true]) d)))))
theorem vc25_calls (a : OA) (b : Int) (w : World) (R : RW) (hh : vc25 a b w R) : Calls Tryz.prog 25 #[pointer a, int .i64 b] w fun e w' => ∃ v, e = .returned v ∧ R v w' :=
 calls_of_den ctxOk (fn := Tryz.f25) (by kernel_rfl) (body := bodyOf Tryz.f25) (by kernel_rfl) (by kernel_rfl) (by kernel_rfl) (Eq.mp (by kernel_rfl) hh)
def vc31 (a : OA) (b : Int) (w : World) (R : RW) : Prop :=
 Calls Tryz.prog 41 #[pointer a, int .i64 b] w (fun c d =>
 ∃ f g, c = .returned (tuple #[int .i64 f, bool g]) ∧
 CondP (!g)
 (R (slice none 0 0) d)
 (NilC a (fun h =>
 ∃ i j k, d.cell? (h.add 2) = some (slice i j k) ∧
 NilC i (fun l =>
 (0 : Int) ≤ f ∧ f < (j : Int) ∧
 ∃ m n o, d.cell? (l.add (f.toNat * 1)) = some (slice m n o) ∧
 Calls Tryz.prog 69 #[slice m n o] d (fun p q =>
 ∃ r s t, p = .returned (slice r s t) ∧
 R (slice r s t) q)))))
theorem vc31_calls (a : OA) (b : Int) (w : World) (R : RW) (hh : vc31 a b w R) : Calls Tryz.prog 31 #[pointer a, int .i64 b] w fun e w' => ∃ v, e = .returned v ∧ R v w' :=
 calls_of_den ctxOk (fn := Tryz.f31) (by kernel_rfl) (body := bodyOf Tryz.f31) (by kernel_rfl) (by kernel_rfl) (by kernel_rfl) (Eq.mp (by kernel_rfl) hh)
def vc32 (a : OA) (b : Int) (w : World) (R : RW) : Prop :=
 Calls Tryz.prog 41 #[pointer a, int .i64 b] w (fun c d =>
 ∃ f g, c = .returned (tuple #[int .i64 f, bool g]) ∧
 CondP g
 (NilC a (fun h =>
 ∃ i j k, d.cell? (h.add 3) = some (slice i j k) ∧
 Calls Tryz.prog 70 #[slice i j k, int .i64 f] d (fun l m =>
 ∃ n, l = .returned (bool n) ∧
 R (bool n) m)))
 (R (bool false) d))
theorem vc32_calls (a : OA) (b : Int) (w : World) (R : RW) (hh : vc32 a b w R) : Calls Tryz.prog 32 #[pointer a, int .i64 b] w fun e w' => ∃ v, e = .returned v ∧ R v w' :=
 calls_of_den ctxOk (fn := Tryz.f32) (by kernel_rfl) (body := bodyOf Tryz.f32) (by kernel_rfl) (by kernel_rfl) (by kernel_rfl) (Eq.mp (by kernel_rfl) hh)
def vc41 (a : OA) (b : Int) (w : World) (R : RW) : Prop :=
 CondP (Option.isNone a)
 (R (tuple #[int .i64 0, bool false]) w)
 (NilC a (fun c =>
 ∃ d, w.cell? (c.add 1) = some (map d) ∧
 ∃ f g h, (Instr.lookup 107 (map d) (int .i64 b) true).run Tryz.prog w = .ok (tuple #[int .i64 f, bool g]) h ∧
 R (tuple #[int .i64 f, bool g]) h))
theorem vc41_calls (a : OA) (b : Int) (w : World) (R : RW) (hh : vc41 a b w R) : Calls Tryz.prog 41 #[pointer a, int .i64 b] w fun e w' => ∃ v, e = .returned v ∧ R v w' :=
 calls_of_den ctxOk (fn := Tryz.f41) (by kernel_rfl) (body := bodyOf Tryz.f41) (by kernel_rfl) (by kernel_rfl) (by kernel_rfl) (Eq.mp (by kernel_rfl) hh)
def vc61 (a : OA) (b : Int) (w : World) (R : RW) : Prop :=
 ∀ c, c = w.alloc (.cells #[pointer a] 31) →
 ∃ d, c.cell? (nb w) = some (pointer d) ∧
 Calls Tryz.prog 90 #[pointer d] c (fun f g =>
 ∃ h i j, f = .returned (slice h i j) ∧
 ∀ k, k = g.alloc (.cells #[slice none 0 0] 28) →
 (slice h i j).oneCell' = true ∧ (∃ u, k.cell? (nb g) = some u) ∧ k.frozen? (nb g) = false ∧
 ∀ l, l = (k.setCell (nb g) (slice h i j)) →
 ∃ m, l.cell? (nb w) = some (pointer m) ∧
 CondP (Option.isNone m)
 (R (tuple #[pointer none, int .i64 1]) l)
 (∃ n o p, l.cell? (nb g) = some (slice n o p) ∧
 ∃ q r s, l.cell? (nb g) = some (slice q r s) ∧
 Ar .i64 ((o : Int) * (r : Int)) (fun t =>
 CondP (decide (t > b))
 (R (tuple #[pointer none, int .i64 5]) l)
 (∃ x y z, l.cell? (nb g) = some (slice x y z) ∧
 ∃ a1 b1, (Instr.makeMap 107 none).run Tryz.prog l = .ok (map a1) b1 ∧
 ∀ c1, c1 = b1.alloc (.cells #[slice x y z, map a1, slice none 0 0, slice none 0 0] 111) →
 ∀ d1, d1 = c1.alloc (.cells #[pointer none] 48) →
 (pointer (some (nb b1))).oneCell' = true ∧ (∃ u, d1.cell? (nb c1) = some u) ∧ d1.frozen? (nb c1) = false ∧
 ∀ e1, e1 = (d1.setCell (nb c1) (pointer (some (nb b1)))) →
 ∃ f1 g1 h1, e1.cell? (nb g) = some (slice f1 g1 h1) ∧
 ∀ i1 : KW, (∀ (j1 : Int) (k1 : World), (CondP (decide (j1 < (g1 : Int)))
 (NilC f1 (fun l1 =>
 (0 : Int) ≤ j1 ∧ j1 < (g1 : Int) ∧
 ∃ m1, k1.cell? (l1.add (j1.toNat * 1)) = some (int .i64 m1) ∧
 ∃ n1, k1.cell? (nb c1) = some (pointer n1) ∧
 NilC n1 (fun o1 =>
 ∃ p1, k1.cell? (o1.add 1) = some (map p1) ∧
 ∃ q1, (Instr.mapUpdate 107 (map p1) (int .i64 m1) (int .i64 j1)).run Tryz.prog k1 = .ok () q1 ∧
 Ar .i64 (j1 + 1) (fun r1 =>
 i1 [int .i64 r1] q1))))
 (∀ s1, s1 = k1.drew →
 ∃ t1, s1.cell? (nb c1) = some (pointer t1) ∧
 ∃ u1 v1 x1, s1.cell? (nb g) = some (slice u1 v1 x1) ∧
 Calls Tryz.prog 97 #[int .i64 (v1 : Int), func (.func 98) #[] #[pointer (some (nb w)), pointer (some (nb g))]] s1 (fun y1 z1 =>
 ∃ a2 b2 c2, y1 = .returned (slice a2 b2 c2) ∧
 (z1.cell? (nb c1) = some (pointer t1) ∧ True) ∧
 NilC t1 (fun d2 =>
 (slice a2 b2 c2).oneCell' = true ∧ (∃ u, z1.cell? (d2.add 3) = some u) ∧ z1.frozen? (d2.add 3) = false ∧
 ∀ e2, e2 = (z1.setCell (d2.add 3) (slice a2 b2 c2)) →
 ∃ f2 g2 h2, e2.cell? (nb g) = some (slice f2 g2 h2) ∧
 ∀ i2 : KW, (∀ (j2 : Int) (k2 : World), (CondP (decide (j2 < (g2 : Int)))
 (NilC f2 (fun l2 =>
 (0 : Int) ≤ j2 ∧ j2 < (g2 : Int) ∧
 ∃ m2, k2.cell? (l2.add (j2.toNat * 1)) = some (int .i64 m2) ∧
 ∀ n2, n2 = k2.alloc (.cells #[int .i64 0] 3) →
 ∀ o2, o2 = n2.alloc (.cells #[int .i64 0] 3) →
 (int .i64 j2).oneCell' = true ∧ (∃ u, o2.cell? (nb k2) = some u) ∧ o2.frozen? (nb k2) = false ∧
 ∀ p2, p2 = (o2.setCell (nb k2) (int .i64 j2)) →
 (int .i64 m2).oneCell' = true ∧ (∃ u, p2.cell? (nb n2) = some u) ∧ p2.frozen? (nb n2) = false ∧
 ∀ q2, q2 = (p2.setCell (nb n2) (int .i64 m2)) →
 ∀ r2, r2 = q2.drew →
 ∃ s2, r2.cell? (nb c1) = some (pointer s2) ∧
 ∃ t2, r2.cell? (nb c1) = some (pointer t2) ∧
 NilC t2 (fun u2 =>
 ∃ v2 x2 y2, r2.cell? (u2.add 2) = some (slice v2 x2 y2) ∧
 ∃ z2 a3 b3, r2.cell? (nb g) = some (slice z2 a3 b3) ∧
 Calls Tryz.prog 97 #[int .i64 (a3 : Int), func (.func 100) #[] #[pointer (some (nb c1)), pointer (some (nb k2)), pointer (some (nb w)), pointer (some (nb n2)), pointer (some (nb g))]] r2 (fun c3 d3 =>
 ∃ e3 f3 g3, c3 = .returned (slice e3 f3 g3) ∧
 (d3.cell? (u2.add 2) = some (slice v2 x2 y2) ∧ True) ∧
 (d3.cell? (nb c1) = some (pointer t2) ∧ True) ∧
 (d3.cell? (nb c1) = some (pointer s2) ∧ True) ∧
 ∀ h3, h3 = d3.alloc (.cells #[slice e3 f3 g3] 109) →
 (h3.cell? (u2.add 2) = some (slice v2 x2 y2) ∧ True) ∧
 (h3.cell? (nb c1) = some (pointer t2) ∧ True) ∧
 (h3.cell? (nb c1) = some (pointer s2) ∧ True) ∧
 ∃ i3 j3 k3 l3, (Builtin.append_ #[108, 108] 108 #[slice v2 x2 y2, slice (some (nb d3)) 1 1]).run Tryz.prog h3 = .ok (slice i3 j3 k3) l3 ∧
 (l3.cell? (nb c1) = some (pointer s2) ∧ True) ∧
 NilC s2 (fun m3 =>
 (slice i3 j3 k3).oneCell' = true ∧ (∃ u, l3.cell? (m3.add 2) = some u) ∧ l3.frozen? (m3.add 2) = false ∧
 ∀ n3, n3 = (l3.setCell (m3.add 2) (slice i3 j3 k3)) →
 Ar .i64 (j2 + 1) (fun o3 =>
 i2 [int .i64 o3] n3))))))
 (∃ p3, k2.cell? (nb c1) = some (pointer p3) ∧
 R (tuple #[pointer p3, int .i64 0]) k2)) → i2 [int .i64 j2] k2) →
 i2 [int .i64 0] e2)))) → i1 [int .i64 j1] k1) →
 i1 [int .i64 0] e1))))
theorem vc61_calls (a : OA) (b : Int) (w : World) (R : RW) (hh : vc61 a b w R) : Calls Tryz.prog 61 #[pointer a, int .i64 b] w fun e w' => ∃ v, e = .returned v ∧ R v w' :=
 calls_of_den ctxOk (fn := Tryz.f61) (by kernel_rfl) (body := bodyOf Tryz.f61) (by kernel_rfl) (by kernel_rfl) (by kernel_rfl) (Eq.mp (by kernel_rfl) hh)
def vc69 (a : OA) (b c : Nat) (w : World) (R : RW) : Prop :=
 CondP (Option.isNone a)
 (R (slice none 0 0) w)
 (∀ d, d = w.alloc (.cells #[] 57) →
 ∃ f g h i, (Builtin.append_ #[109, 109] 109 #[slice (some (nb w)) 0 0, slice a b c]).run Tryz.prog d = .ok (slice f g h) i ∧
 R (slice f g h) i)
theorem vc69_calls (a : OA) (b c : Nat) (w : World) (R : RW) (hh : vc69 a b c w R) : Calls Tryz.prog 69 #[slice a b c] w fun e w' => ∃ v, e = .returned v ∧ R v w' :=
 calls_of_den ctxOk (fn := Tryz.f69) (by kernel_rfl) (body := bodyOf Tryz.f69) (by kernel_rfl) (by kernel_rfl) (by kernel_rfl) (Eq.mp (by kernel_rfl) hh)
def vc70 (a : OA) (b c : Nat) (d : Int) (w : World) (R : RW) : Prop :=
 (64 : Int) ≠ 0 ∧
 NilC a (fun f =>
 (0 : Int) ≤ (IntKind.wrap .i64 (Int.tdiv d 64)) ∧ (IntKind.wrap .i64 (Int.tdiv d 64)) < (b : Int) ∧
 ∃ g, w.cell? (f.add ((IntKind.wrap .i64 (Int.tdiv d 64) : Int).toNat * 1)) = some (int .u64 g) ∧
 (64 : Int) ≠ 0 ∧
 (0 : Int) ≤ (Int.tmod d 64) ∧
 R (bool ((IntKind.wrap .u64 ((BitVec.ofInt (IntKind.bits .u64) (Int.fdiv g (2 ^ (min (Int.tmod d 64 : Int).toNat (IntKind.bits .u64)))) &&& BitVec.ofInt (IntKind.bits .u64) 1).toNat : Int) : Int) == 1)) w)
theorem vc70_calls (a : OA) (b c : Nat) (d : Int) (w : World) (R : RW) (hh : vc70 a b c d w R) : Calls Tryz.prog 70 #[slice a b c, int .i64 d] w fun e w' => ∃ v, e = .returned v ∧ R v w' :=
 calls_of_den ctxOk (fn := Tryz.f70) (by kernel_rfl) (body := bodyOf Tryz.f70) (by kernel_rfl) (by kernel_rfl) (by kernel_rfl) (Eq.mp (by kernel_rfl) hh)
def vc86 (a : OA) (b c : Nat) (w : World) (R : RW) : Prop :=
 Calls Tryz.prog 117 #[int .u64 (IntKind.wrap .u64 (b : Int))] w (fun d f =>
 ∃ g, d = .returned (int .i64 g) ∧
 Calls Tryz.prog 116 #[slice a b c, int .i64 0, int .i64 (b : Int), int .i64 g] f (fun h i =>
 h = .returned (tuple #[]) ∧
 R (tuple #[]) i))
theorem vc86_calls (a : OA) (b c : Nat) (w : World) (R : RW) (hh : vc86 a b c w R) : Calls Tryz.prog 86 #[slice a b c] w fun e w' => ∃ v, e = .returned v ∧ R v w' :=
 calls_of_den ctxOk (fn := Tryz.f86) (by kernel_rfl) (body := bodyOf Tryz.f86) (by kernel_rfl) (by kernel_rfl) (by kernel_rfl) (Eq.mp (by kernel_rfl) hh)
def vc90 (a : OA) (w : World) (R : RW) : Prop :=
 Calls Tryz.prog 125 #[pointer a] w (fun b c =>
 ∃ d, b = .returned (int .i64 d) ∧
 ∀ f : KW, (∀ (g : Int) (h : OA) (i j : Nat) (k : World), (CondP (decide (g < d))
 (∀ l, l = k.alloc (.cells #[int .i64 g] 3) →
 ∃ m n o p, (Builtin.append_ #[28, 28] 28 #[slice h i j, slice (some (nb k)) 1 1]).run Tryz.prog l = .ok (slice m n o) p ∧
 Ar .i64 (g + 1) (fun q =>
 f [int .i64 q, slice m n o] p))
 (Calls Tryz.prog 126 #[pointer a] k (fun r s =>
 ∃ t, r = .returned (pointer t) ∧
 Calls Tryz.prog 127 #[pointer t] s (fun u x =>
 ∃ y z a1, u = .returned (slice y z a1) ∧
 ∀ b1 : KW, (∀ (c1 : Int) (d1 : OA) (e1 f1 : Nat) (g1 : World), (CondP (decide (c1 < (z : Int)))
 (NilC y (fun h1 =>
 (0 : Int) ≤ c1 ∧ c1 < (z : Int) ∧
 ∃ i1 j1, (g1.cell? (h1.add (c1.toNat * 2)) = some (int .i64 i1) ∧ g1.cell? ((h1.add (c1.toNat * 2)).add 1) = some (string j1) ∧ True) ∧
 ∀ k1, k1 = g1.alloc (.cells #[int .i64 0, string ⟨#[]⟩] 171) →
 StoreP k1 (nb g1) (fun l1 =>
 ∃ m1, l1.cell? ((nb g1).add 0) = some (int .i64 m1) ∧
 ∀ n1, n1 = l1.alloc (.cells #[int .i64 m1] 3) →
 ∃ o1 p1 q1 r1, (Builtin.append_ #[28, 28] 28 #[slice d1 e1 f1, slice (some (nb l1)) 1 1]).run Tryz.prog n1 = .ok (slice o1 p1 q1) r1 ∧
 Ar .i64 (c1 + 1) (fun s1 =>
 b1 [int .i64 s1, slice o1 p1 q1] r1)) [int .i64 i1, string j1] 0))
 (Calls Tryz.prog 86 #[slice d1 e1 f1] g1 (fun t1 u1 =>
 t1 = .returned (tuple #[]) ∧
 R (slice d1 e1 f1) u1))) → b1 [int .i64 c1, slice d1 e1 f1] g1) →
 b1 [int .i64 0, slice h i j] x)))) → f [int .i64 g, slice h i j] k) →
 f [int .i64 0, slice none 0 0] c)
theorem vc90_calls (a : OA) (w : World) (R : RW) (hh : vc90 a w R) : Calls Tryz.prog 90 #[pointer a] w fun e w' => ∃ v, e = .returned v ∧ R v w' :=
 calls_of_den ctxOk (fn := Tryz.f90) (by kernel_rfl) (body := bodyOf Tryz.f90) (by kernel_rfl) (by kernel_rfl) (by kernel_rfl) (Eq.mp (by kernel_rfl) hh)
def vc97 (a : Int) (b : Value) (w : World) (R : RW) : Prop :=
 Ar .i64 (a + 64) (fun c =>
 Ar .i64 (c - 1) (fun d =>
 (64 : Int) ≠ 0 ∧
 ∃ f g h i, (Instr.makeSlice 109 (int .i64 (IntKind.wrap .i64 (Int.tdiv d 64))) (int .i64 (IntKind.wrap .i64 (Int.tdiv d 64)))).run Tryz.prog w = .ok (slice f g h) i ∧
 ∀ j : KW, (∀ (k : Int) (l : World), (CondP (decide (k < a))
 (∀ m : KW, (∀ n : World, (Ar .i64 (k + 1) (fun o =>
 j [int .i64 o] n)) → m [] n) →
 CallG ctx b [int .i64 k] l (fun p q =>
 ∃ r, p = .returned (bool r) ∧
 CondP r
 (Calls Tryz.prog 131 #[slice f g h, int .i64 k] q (fun s t =>
 s = .returned (tuple #[]) ∧
 m [] t))
 (m [] q)))
 (R (slice f g h) l)) → j [int .i64 k] l) →
 j [int .i64 0] i))
theorem vc97_calls (a : Int) (b : Value) (w : World) (R : RW) (hh : vc97 a b w R) : Calls Tryz.prog 97 #[int .i64 a, b] w fun e w' => ∃ v, e = .returned v ∧ R v w' :=
 calls_of_den ctxOk (fn := Tryz.f97) (by kernel_rfl) (body := bodyOf Tryz.f97) (by kernel_rfl) (by kernel_rfl) (by kernel_rfl) (Eq.mp (by kernel_rfl) hh)
def vc98 (a : Int) (b c : OA) (w : World) (R : RW) : Prop :=
 ∀ d, d = w.drew →
 NilC b (fun f =>
 ∃ g, d.cell? f = some (pointer g) ∧
 NilC c (fun h =>
 ∃ i j k, d.cell? h = some (slice i j k) ∧
 NilC i (fun l =>
 (0 : Int) ≤ a ∧ a < (j : Int) ∧
 ∃ m, d.cell? (l.add (a.toNat * 1)) = some (int .i64 m) ∧
 Calls Tryz.prog 99 #[pointer g, int .i64 m] d (fun n o =>
 ∃ p, n = .returned (bool p) ∧
 R (bool p) o))))
theorem vc98_calls (a : Int) (b c : OA) (w : World) (R : RW) (hh : vc98 a b c w R) : Calls Tryz.prog 98 #[int .i64 a, pointer b, pointer c] w fun e w' => ∃ v, e = .returned v ∧ R v w' :=
 calls_of_den ctxOk (fn := Tryz.f98) (by kernel_rfl) (body := bodyOf Tryz.f98) (by kernel_rfl) (by kernel_rfl) (by kernel_rfl) (Eq.mp (by kernel_rfl) hh)
def vc100 (a : Int) (b c d f g : OA) (w : World) (R : RW) : Prop :=
 ∀ h, h = w.drew →
 NilC b (fun i =>
 ∃ j, h.cell? i = some (pointer j) ∧
 NilC j (fun k =>
 ∃ l m n, h.cell? (k.add 3) = some (slice l m n) ∧
 NilC c (fun o =>
 ∃ p, h.cell? o = some (int .i64 p) ∧
 Calls Tryz.prog 70 #[slice l m n, int .i64 p] h (fun q r =>
 ∃ s, q = .returned (bool s) ∧
 CondP s
 (NilC b (fun t =>
 ∃ u, r.cell? t = some (pointer u) ∧
 NilC u (fun x =>
 ∃ y z a1, r.cell? (x.add 3) = some (slice y z a1) ∧
 Calls Tryz.prog 70 #[slice y z a1, int .i64 a] r (fun b1 c1 =>
 ∃ d1, b1 = .returned (bool d1) ∧
 CondP d1
 (NilC d (fun e1 =>
 ∃ f1, c1.cell? e1 = some (pointer f1) ∧
 NilC f (fun g1 =>
 ∃ h1, c1.cell? g1 = some (int .i64 h1) ∧
 NilC g (fun i1 =>
 ∃ j1 k1 l1, c1.cell? i1 = some (slice j1 k1 l1) ∧
 NilC j1 (fun m1 =>
 (0 : Int) ≤ a ∧ a < (k1 : Int) ∧
 ∃ n1, c1.cell? (m1.add (a.toNat * 1)) = some (int .i64 n1) ∧
 Calls Tryz.prog 101 #[pointer f1, int .i64 h1, int .i64 n1] c1 (fun o1 p1 =>
 ∃ q1, o1 = .returned (bool q1) ∧
 R (bool q1) p1))))))
 (R (bool false) c1)))))
 (R (bool false) r)))))
theorem vc100_calls (a : Int) (b c d f g : OA) (w : World) (R : RW) (hh : vc100 a b c d f g w R) : Calls Tryz.prog 100 #[int .i64 a, pointer b, pointer c, pointer d, pointer f, pointer g] w fun e w' => ∃ v, e = .returned v ∧ R v w' :=
 calls_of_den ctxOk (fn := Tryz.f100) (by kernel_rfl) (body := bodyOf Tryz.f100) (by kernel_rfl) (by kernel_rfl) (by kernel_rfl) (Eq.mp (by kernel_rfl) hh)
def vc101 (a : OA) (b c : Int) (w : World) (R : RW) : Prop :=
 Calls Tryz.prog 99 #[pointer a, int .i64 b] w (fun d f =>
 ∃ g, d = .returned (bool g) ∧
 CondP g
 (Calls Tryz.prog 99 #[pointer a, int .i64 c] f (fun h i =>
 ∃ j, h = .returned (bool j) ∧
 CondP j
 (Calls Tryz.prog 135 #[pointer a, int .i64 b, int .i64 c] i (fun k l =>
 ∃ m, k = .returned (bool m) ∧
 R (bool m) l))
 (R (bool false) i)))
 (R (bool false) f))
theorem vc101_calls (a : OA) (b c : Int) (w : World) (R : RW) (hh : vc101 a b c w R) : Calls Tryz.prog 101 #[pointer a, int .i64 b, int .i64 c] w fun e w' => ∃ v, e = .returned v ∧ R v w' :=
 calls_of_den ctxOk (fn := Tryz.f101) (by kernel_rfl) (body := bodyOf Tryz.f101) (by kernel_rfl) (by kernel_rfl) (by kernel_rfl) (Eq.mp (by kernel_rfl) hh)
def vc116 (a : OA) (b c : Nat) (d f g : Int) (w : World) (R : RW) : Prop :=
 ∀ h : KW, (∀ (i j : Bool) (k l m : Int) (n : World), (∀ o : KW, (∀ (p q : Bool) (r s t : Int) (u : World), (h [bool p, bool q, int .i64 r, int .i64 s, int .i64 t] u) → o [bool p, bool q, int .i64 r, int .i64 s, int .i64 t] u) →
 Ar .i64 (l - k) (fun x =>
 CondP (decide (x ≤ 12))
 (Calls Tryz.prog 168 #[slice a b c, int .i64 k, int .i64 l] n (fun y z =>
 y = .returned (tuple #[]) ∧
 R (tuple #[]) z))
 (CondP (m == 0)
 (Calls Tryz.prog 169 #[slice a b c, int .i64 k, int .i64 l] n (fun a1 b1 =>
 a1 = .returned (tuple #[]) ∧
 R (tuple #[]) b1))
 (∀ c1 : KW, (∀ (d1 : Int) (e1 : World), (Calls Tryz.prog 171 #[slice a b c, int .i64 k, int .i64 l] e1 (fun f1 g1 =>
 ∃ h1 i1, f1 = .returned (tuple #[int .i64 h1, int .i64 i1]) ∧
 ∀ j1 : KW, (∀ (k1 l1 : Int) (m1 : World), (∀ n1 : KW, (∀ o1 : World, (∀ p1, p1 = o1.drew →
 CondP (decide (k > 0))
 (Ar .i64 (k - 1) (fun q1 =>
 NilC a (fun r1 =>
 (0 : Int) ≤ q1 ∧ q1 < (b : Int) ∧
 ∃ s1, p1.cell? (r1.add (q1.toNat * 1)) = some (int .i64 s1) ∧
 NilC a (fun t1 =>
 (0 : Int) ≤ l1 ∧ l1 < (b : Int) ∧
 ∃ u1, p1.cell? (t1.add (l1.toNat * 1)) = some (int .i64 u1) ∧
 Calls Tryz.prog 174 #[int .i64 s1, int .i64 u1] p1 (fun v1 x1 =>
 ∃ y1, v1 = .returned (bool y1) ∧
 CondP (!y1)
 (Calls Tryz.prog 175 #[slice a b c, int .i64 k, int .i64 l, int .i64 l1] x1 (fun z1 a2 =>
 ∃ b2, z1 = .returned (int .i64 b2) ∧
 o [bool i, bool j, int .i64 b2, int .i64 l, int .i64 d1] a2))
 (Calls Tryz.prog 176 #[slice a b c, int .i64 k, int .i64 l, int .i64 l1] x1 (fun c2 d2 =>
 ∃ e2 f2, c2 = .returned (tuple #[int .i64 e2, bool f2]) ∧
 Ar .i64 (e2 - k) (fun g2 =>
 Ar .i64 (l - e2) (fun h2 =>
 (8 : Int) ≠ 0 ∧
 CondP (decide (g2 < h2))
 (Calls Tryz.prog 116 #[slice a b c, int .i64 k, int .i64 e2, int .i64 d1] d2 (fun i2 j2 =>
 i2 = .returned (tuple #[]) ∧
 Ar .i64 (e2 + 1) (fun k2 =>
 o [bool f2, bool (decide (g2 ≥ (IntKind.wrap .i64 (Int.tdiv x 8)))), int .i64 k2, int .i64 l, int .i64 d1] j2)))
 (Ar .i64 (e2 + 1) (fun l2 =>
 Calls Tryz.prog 116 #[slice a b c, int .i64 l2, int .i64 l, int .i64 d1] d2 (fun m2 n2 =>
 m2 = .returned (tuple #[]) ∧
 o [bool f2, bool (decide (h2 ≥ (IntKind.wrap .i64 (Int.tdiv x 8)))), int .i64 k, int .i64 e2, int .i64 d1] n2))))))))))))
 (Calls Tryz.prog 176 #[slice a b c, int .i64 k, int .i64 l, int .i64 l1] p1 (fun o2 p2 =>
 ∃ q2 r2, o2 = .returned (tuple #[int .i64 q2, bool r2]) ∧
 Ar .i64 (q2 - k) (fun s2 =>
 Ar .i64 (l - q2) (fun t2 =>
 (8 : Int) ≠ 0 ∧
 CondP (decide (s2 < t2))
 (Calls Tryz.prog 116 #[slice a b c, int .i64 k, int .i64 q2, int .i64 d1] p2 (fun u2 v2 =>
 u2 = .returned (tuple #[]) ∧
 Ar .i64 (q2 + 1) (fun x2 =>
 o [bool r2, bool (decide (s2 ≥ (IntKind.wrap .i64 (Int.tdiv x 8)))), int .i64 x2, int .i64 l, int .i64 d1] v2)))
 (Ar .i64 (q2 + 1) (fun y2 =>
 Calls Tryz.prog 116 #[slice a b c, int .i64 y2, int .i64 l, int .i64 d1] p2 (fun z2 a3 =>
 z2 = .returned (tuple #[]) ∧
 o [bool r2, bool (decide (t2 ≥ (IntKind.wrap .i64 (Int.tdiv x 8)))), int .i64 k, int .i64 q2, int .i64 d1] a3)))))))) → n1 [] o1) →
 CondP j
 (CondP i
 (CondP (k1 == 1)
 (Calls Tryz.prog 173 #[slice a b c, int .i64 k, int .i64 l] m1 (fun b3 c3 =>
 ∃ d3, b3 = .returned (bool d3) ∧
 CondP d3
 (R (tuple #[]) c3)
 (n1 [] c3)))
 (n1 [] m1))
 (n1 [] m1))
 (n1 [] m1)) → j1 [int .i64 k1, int .i64 l1] m1) →
 CondP (i1 == 2)
 (Calls Tryz.prog 172 #[slice a b c, int .i64 k, int .i64 l] g1 (fun e3 f3 =>
 e3 = .returned (tuple #[]) ∧
 Ar .i64 (l - 1) (fun g3 =>
 Ar .i64 (h1 - k) (fun h3 =>
 Ar .i64 (g3 - h3) (fun i3 =>
 j1 [int .i64 1, int .i64 i3] f3)))))
 (j1 [int .i64 i1, int .i64 h1] g1))) → c1 [int .i64 d1] e1) →
 CondP (!j)
 (Calls Tryz.prog 170 #[slice a b c, int .i64 k, int .i64 l] n (fun j3 k3 =>
 j3 = .returned (tuple #[]) ∧
 Ar .i64 (m - 1) (fun l3 =>
 c1 [int .i64 l3] k3)))
 (c1 [int .i64 m] n))))) → h [bool i, bool j, int .i64 k, int .i64 l, int .i64 m] n) →
 h [bool true, bool true, int .i64 d, int .i64 f, int .i64 g] w
theorem vc116_calls (a : OA) (b c : Nat) (d f g : Int) (w : World) (R : RW) (hh : vc116 a b c d f g w R) : Calls Tryz.prog 116 #[slice a b c, int .i64 d, int .i64 f, int .i64 g] w fun e w' => ∃ v, e = .returned v ∧ R v w' :=
 calls_of_den ctxOk (fn := Tryz.f116) (by kernel_rfl) (body := bodyOf Tryz.f116) (by kernel_rfl) (by kernel_rfl) (by kernel_rfl) (Eq.mp (by kernel_rfl) hh)
def vc117 (a : Int) (w : World) (R : RW) : Prop :=
 Calls Tryz.prog 178 #[int .u64 a] w (fun b c =>
 ∃ d, b = .returned (int .i64 d) ∧
 R (int .i64 d) c)
theorem vc117_calls (a : Int) (w : World) (R : RW) (hh : vc117 a w R) : Calls Tryz.prog 117 #[int .u64 a] w fun e w' => ∃ v, e = .returned v ∧ R v w' :=
 calls_of_den ctxOk (fn := Tryz.f117) (by kernel_rfl) (body := bodyOf Tryz.f117) (by kernel_rfl) (by kernel_rfl) (by kernel_rfl) (Eq.mp (by kernel_rfl) hh)
def vc127 (a : OA) (w : World) (R : RW) : Prop :=
 CondP (Option.isNone a)
 (R (slice none 0 0) w)
 (NilC a (fun b =>
 ∃ c d f, w.cell? (b.add 0) = some (slice c d f) ∧
 Calls Tryz.prog 182 #[slice c d f] w (fun g h =>
 ∃ i j k, g = .returned (slice i j k) ∧
 R (slice i j k) h)))
theorem vc127_calls (a : OA) (w : World) (R : RW) (hh : vc127 a w R) : Calls Tryz.prog 127 #[pointer a] w fun e w' => ∃ v, e = .returned v ∧ R v w' :=
 calls_of_den ctxOk (fn := Tryz.f127) (by kernel_rfl) (body := bodyOf Tryz.f127) (by kernel_rfl) (by kernel_rfl) (by kernel_rfl) (Eq.mp (by kernel_rfl) hh)
def vc131 (a : OA) (b c : Nat) (d : Int) (w : World) (R : RW) : Prop :=
 ∀ f, f = w.drew →
 (64 : Int) ≠ 0 ∧
 NilC a (fun g =>
 (0 : Int) ≤ (IntKind.wrap .i64 (Int.tdiv d 64)) ∧ (IntKind.wrap .i64 (Int.tdiv d 64)) < (b : Int) ∧
 ∃ h, f.cell? (g.add ((IntKind.wrap .i64 (Int.tdiv d 64) : Int).toNat * 1)) = some (int .u64 h) ∧
 (64 : Int) ≠ 0 ∧
 (0 : Int) ≤ (Int.tmod d 64) ∧
 NilC a (fun i =>
 (0 : Int) ≤ (IntKind.wrap .i64 (Int.tdiv d 64)) ∧ (IntKind.wrap .i64 (Int.tdiv d 64)) < (b : Int) ∧
 (int .u64 (IntKind.wrap .u64 ((BitVec.ofInt (IntKind.bits .u64) h ||| BitVec.ofInt (IntKind.bits .u64) (IntKind.wrap .u64 ((1 : Int) * 2 ^ (min (Int.tmod d 64 : Int).toNat (IntKind.bits .u64))))).toNat : Int))).oneCell' = true ∧ (∃ u, f.cell? (i.add ((IntKind.wrap .i64 (Int.tdiv d 64) : Int).toNat * 1)) = some u) ∧ f.frozen? (i.add ((IntKind.wrap .i64 (Int.tdiv d 64) : Int).toNat * 1)) = false ∧
 ∀ j, j = (f.setCell (i.add ((IntKind.wrap .i64 (Int.tdiv d 64) : Int).toNat * 1)) (int .u64 (IntKind.wrap .u64 ((BitVec.ofInt (IntKind.bits .u64) h ||| BitVec.ofInt (IntKind.bits .u64) (IntKind.wrap .u64 ((1 : Int) * 2 ^ (min (Int.tmod d 64 : Int).toNat (IntKind.bits .u64))))).toNat : Int)))) →
 R (tuple #[]) j))
theorem vc131_calls (a : OA) (b c : Nat) (d : Int) (w : World) (R : RW) (hh : vc131 a b c d w R) : Calls Tryz.prog 131 #[slice a b c, int .i64 d] w fun e w' => ∃ v, e = .returned v ∧ R v w' :=
 calls_of_den ctxOk (fn := Tryz.f131) (by kernel_rfl) (body := bodyOf Tryz.f131) (by kernel_rfl) (by kernel_rfl) (by kernel_rfl) (Eq.mp (by kernel_rfl) hh)
def vc171 (a : OA) (b c : Nat) (d f : Int) (w : World) (R : RW) : Prop :=
 Ar .i64 (f - d) (fun g =>
 ∀ h, h = w.alloc (.cells #[int .i64 0] 3) →
 (4 : Int) ≠ 0 ∧
 Ar .i64 ((IntKind.wrap .i64 (Int.tdiv g 4) : Int) * 1) (fun i =>
 Ar .i64 (d + i) (fun j =>
 (4 : Int) ≠ 0 ∧
 Ar .i64 ((IntKind.wrap .i64 (Int.tdiv g 4) : Int) * 2) (fun k =>
 Ar .i64 (d + k) (fun l =>
 (4 : Int) ≠ 0 ∧
 Ar .i64 ((IntKind.wrap .i64 (Int.tdiv g 4) : Int) * 3) (fun m =>
 Ar .i64 (d + m) (fun n =>
 ∀ o : KW, (∀ (p q r : Int) (s : World), (∃ t, s.cell? (nb w) = some (int .i64 t) ∧
 CondP (t == 0)
 (R (tuple #[int .i64 q, int .i64 1]) s)
 (CondP (t == 12)
 (R (tuple #[int .i64 q, int .i64 2]) s)
 (R (tuple #[int .i64 q, int .i64 0]) s))) → o [int .i64 p, int .i64 q, int .i64 r] s) →
 CondP (decide (g ≥ 8))
 (∀ u : KW, (∀ (x y z : Int) (a1 : World), (Calls Tryz.prog 225 #[slice a b c, int .i64 z, int .i64 y, int .i64 x, pointer (some (nb w))] a1 (fun b1 c1 =>
 ∃ d1, b1 = .returned (int .i64 d1) ∧
 o [int .i64 x, int .i64 d1, int .i64 z] c1)) → u [int .i64 x, int .i64 y, int .i64 z] a1) →
 CondP (decide (g ≥ 50))
 (Calls Tryz.prog 224 #[slice a b c, int .i64 j, pointer (some (nb w))] h (fun e1 f1 =>
 ∃ g1, e1 = .returned (int .i64 g1) ∧
 Calls Tryz.prog 224 #[slice a b c, int .i64 l, pointer (some (nb w))] f1 (fun h1 i1 =>
 ∃ j1, h1 = .returned (int .i64 j1) ∧
 Calls Tryz.prog 224 #[slice a b c, int .i64 n, pointer (some (nb w))] i1 (fun k1 l1 =>
 ∃ m1, k1 = .returned (int .i64 m1) ∧
 u [int .i64 m1, int .i64 j1, int .i64 g1] l1))))
 (u [int .i64 n, int .i64 l, int .i64 j] h))
 (o [int .i64 n, int .i64 l, int .i64 j] h))))))))
theorem vc171_calls (a : OA) (b c : Nat) (d f : Int) (w : World) (R : RW) (hh : vc171 a b c d f w R) : Calls Tryz.prog 171 #[slice a b c, int .i64 d, int .i64 f] w fun e w' => ∃ v, e = .returned v ∧ R v w' :=
 calls_of_den ctxOk (fn := Tryz.f171) (by kernel_rfl) (body := bodyOf Tryz.f171) (by kernel_rfl) (by kernel_rfl) (by kernel_rfl) (Eq.mp (by kernel_rfl) hh)
def vc173 (a : OA) (b c : Nat) (d f : Int) (w : World) (R : RW) : Prop :=
 Ar .i64 (d + 1) (fun g =>
 ∀ h : KW, (∀ (i j : Int) (k : Bool) (l : World), (CondP (decide (i < 5))
 (∀ m : KW, (∀ (n : Int) (o : Bool) (p : World), (Ar .i64 (i + 1) (fun q =>
 h [int .i64 q, int .i64 n, bool o] p)) → m [int .i64 n, bool o] p) →
 ∀ r : KW, (∀ (s : Int) (t : World), (∀ x, x = t.drew →
 CondP (decide (s < f))
 (NilC a (fun y =>
 (0 : Int) ≤ s ∧ s < (b : Int) ∧
 ∃ z, x.cell? (y.add (s.toNat * 1)) = some (int .i64 z) ∧
 Ar .i64 (s - 1) (fun a1 =>
 NilC a (fun b1 =>
 (0 : Int) ≤ a1 ∧ a1 < (b : Int) ∧
 ∃ c1, x.cell? (b1.add (a1.toNat * 1)) = some (int .i64 c1) ∧
 Calls Tryz.prog 174 #[int .i64 z, int .i64 c1] x (fun d1 e1 =>
 ∃ f1, d1 = .returned (bool f1) ∧
 CondP (!f1)
 (Ar .i64 (s + 1) (fun g1 =>
 r [int .i64 g1] e1))
 (CondP (s == f)
 (R (bool true) e1)
 (Ar .i64 (f - d) (fun h1 =>
 CondP (decide (h1 < 50))
 (R (bool false) e1)
 (∀ i1, i1 = e1.drew →
 Ar .i64 (s - 1) (fun j1 =>
 Ar .i64 (s - 1) (fun k1 =>
 NilC a (fun l1 =>
 (0 : Int) ≤ k1 ∧ k1 < (b : Int) ∧
 ∃ m1, i1.cell? (l1.add (k1.toNat * 1)) = some (int .i64 m1) ∧
 NilC a (fun n1 =>
 (0 : Int) ≤ s ∧ s < (b : Int) ∧
 ∃ o1, i1.cell? (n1.add (s.toNat * 1)) = some (int .i64 o1) ∧
 NilC a (fun p1 =>
 (0 : Int) ≤ s ∧ s < (b : Int) ∧
 (int .i64 m1).oneCell' = true ∧ (∃ u, i1.cell? (p1.add (s.toNat * 1)) = some u) ∧ i1.frozen? (p1.add (s.toNat * 1)) = false ∧
 ∀ q1, q1 = (i1.setCell (p1.add (s.toNat * 1)) (int .i64 m1)) →
 NilC a (fun r1 =>
 (0 : Int) ≤ j1 ∧ j1 < (b : Int) ∧
 (int .i64 o1).oneCell' = true ∧ (∃ u, q1.cell? (r1.add (j1.toNat * 1)) = some u) ∧ q1.frozen? (r1.add (j1.toNat * 1)) = false ∧
 ∀ s1, s1 = (q1.setCell (r1.add (j1.toNat * 1)) (int .i64 o1)) →
 ∀ t1 : KW, (∀ u1 : World, (Ar .i64 (f - s) (fun v1 =>
 CondP (decide (v1 ≥ 2))
 (Ar .i64 (s + 1) (fun x1 =>
 ∀ y1 : KW, (∀ (z1 : Int) (a2 : World), (m [int .i64 s, bool k] a2) → y1 [int .i64 z1] a2) →
 ∀ b2 : KW, (∀ (c2 : Int) (d2 : World), (CondP (decide (c2 < f))
 (∀ e2, e2 = d2.drew →
 NilC a (fun f2 =>
 (0 : Int) ≤ c2 ∧ c2 < (b : Int) ∧
 ∃ g2, e2.cell? (f2.add (c2.toNat * 1)) = some (int .i64 g2) ∧
 Ar .i64 (c2 - 1) (fun h2 =>
 NilC a (fun i2 =>
 (0 : Int) ≤ h2 ∧ h2 < (b : Int) ∧
 ∃ j2, e2.cell? (i2.add (h2.toNat * 1)) = some (int .i64 j2) ∧
 Calls Tryz.prog 174 #[int .i64 g2, int .i64 j2] e2 (fun k2 l2 =>
 ∃ m2, k2 = .returned (bool m2) ∧
 CondP (!m2)
 (y1 [int .i64 c2] l2)
 (∀ n2, n2 = l2.drew →
 Ar .i64 (c2 - 1) (fun o2 =>
 Ar .i64 (c2 - 1) (fun p2 =>
 NilC a (fun q2 =>
 (0 : Int) ≤ p2 ∧ p2 < (b : Int) ∧
 ∃ r2, n2.cell? (q2.add (p2.toNat * 1)) = some (int .i64 r2) ∧
 NilC a (fun s2 =>
 (0 : Int) ≤ c2 ∧ c2 < (b : Int) ∧
 ∃ t2, n2.cell? (s2.add (c2.toNat * 1)) = some (int .i64 t2) ∧
 NilC a (fun u2 =>
 (0 : Int) ≤ c2 ∧ c2 < (b : Int) ∧
 (int .i64 r2).oneCell' = true ∧ (∃ u, n2.cell? (u2.add (c2.toNat * 1)) = some u) ∧ n2.frozen? (u2.add (c2.toNat * 1)) = false ∧
 ∀ v2, v2 = (n2.setCell (u2.add (c2.toNat * 1)) (int .i64 r2)) →
 NilC a (fun x2 =>
 (0 : Int) ≤ o2 ∧ o2 < (b : Int) ∧
 (int .i64 t2).oneCell' = true ∧ (∃ u, v2.cell? (x2.add (o2.toNat * 1)) = some u) ∧ v2.frozen? (x2.add (o2.toNat * 1)) = false ∧
 ∀ y2, y2 = (v2.setCell (x2.add (o2.toNat * 1)) (int .i64 t2)) →
 Ar .i64 (c2 + 1) (fun z2 =>
 b2 [int .i64 z2] y2)))))))))))))
 (y1 [int .i64 c2] d2)) → b2 [int .i64 c2] d2) →
 b2 [int .i64 x1] u1))
 (m [int .i64 s, bool k] u1))) → t1 [] u1) →
 Ar .i64 (s - d) (fun a3 =>
 CondP (decide (a3 ≥ 2))
 (Ar .i64 (s - 1) (fun b3 =>
 ∀ c3 : KW, (∀ (d3 : Int) (e3 : World), (t1 [] e3) → c3 [int .i64 d3] e3) →
 ∀ f3 : KW, (∀ (g3 : Int) (h3 : World), (CondP (decide (g3 ≥ 1))
 (∀ i3, i3 = h3.drew →
 NilC a (fun j3 =>
 (0 : Int) ≤ g3 ∧ g3 < (b : Int) ∧
 ∃ k3, i3.cell? (j3.add (g3.toNat * 1)) = some (int .i64 k3) ∧
 Ar .i64 (g3 - 1) (fun l3 =>
 NilC a (fun m3 =>
 (0 : Int) ≤ l3 ∧ l3 < (b : Int) ∧
 ∃ n3, i3.cell? (m3.add (l3.toNat * 1)) = some (int .i64 n3) ∧
 Calls Tryz.prog 174 #[int .i64 k3, int .i64 n3] i3 (fun o3 p3 =>
 ∃ q3, o3 = .returned (bool q3) ∧
 CondP (!q3)
 (c3 [int .i64 g3] p3)
 (∀ r3, r3 = p3.drew →
 Ar .i64 (g3 - 1) (fun s3 =>
 Ar .i64 (g3 - 1) (fun t3 =>
 NilC a (fun u3 =>
 (0 : Int) ≤ t3 ∧ t3 < (b : Int) ∧
 ∃ v3, r3.cell? (u3.add (t3.toNat * 1)) = some (int .i64 v3) ∧
 NilC a (fun x3 =>
 (0 : Int) ≤ g3 ∧ g3 < (b : Int) ∧
 ∃ y3, r3.cell? (x3.add (g3.toNat * 1)) = some (int .i64 y3) ∧
 NilC a (fun z3 =>
 (0 : Int) ≤ g3 ∧ g3 < (b : Int) ∧
 (int .i64 v3).oneCell' = true ∧ (∃ u, r3.cell? (z3.add (g3.toNat * 1)) = some u) ∧ r3.frozen? (z3.add (g3.toNat * 1)) = false ∧
 ∀ a4, a4 = (r3.setCell (z3.add (g3.toNat * 1)) (int .i64 v3)) →
 NilC a (fun b4 =>
 (0 : Int) ≤ s3 ∧ s3 < (b : Int) ∧
 (int .i64 y3).oneCell' = true ∧ (∃ u, a4.cell? (b4.add (s3.toNat * 1)) = some u) ∧ a4.frozen? (b4.add (s3.toNat * 1)) = false ∧
 ∀ c4, c4 = (a4.setCell (b4.add (s3.toNat * 1)) (int .i64 y3)) →
 Ar .i64 (g3 - 1) (fun d4 =>
 f3 [int .i64 d4] c4)))))))))))))
 (c3 [int .i64 g3] h3)) → f3 [int .i64 g3] h3) →
 f3 [int .i64 b3] s1))
 (t1 [] s1)))))))))))))))))
 (CondP (s == f)
 (R (bool true) x)
 (Ar .i64 (f - d) (fun e4 =>
 CondP (decide (e4 < 50))
 (R (bool false) x)
 (∀ f4, f4 = x.drew →
 Ar .i64 (s - 1) (fun g4 =>
 Ar .i64 (s - 1) (fun h4 =>
 NilC a (fun i4 =>
 (0 : Int) ≤ h4 ∧ h4 < (b : Int) ∧
 ∃ j4, f4.cell? (i4.add (h4.toNat * 1)) = some (int .i64 j4) ∧
 NilC a (fun k4 =>
 (0 : Int) ≤ s ∧ s < (b : Int) ∧
 ∃ l4, f4.cell? (k4.add (s.toNat * 1)) = some (int .i64 l4) ∧
 NilC a (fun m4 =>
 (0 : Int) ≤ s ∧ s < (b : Int) ∧
 (int .i64 j4).oneCell' = true ∧ (∃ u, f4.cell? (m4.add (s.toNat * 1)) = some u) ∧ f4.frozen? (m4.add (s.toNat * 1)) = false ∧
 ∀ n4, n4 = (f4.setCell (m4.add (s.toNat * 1)) (int .i64 j4)) →
 NilC a (fun o4 =>
 (0 : Int) ≤ g4 ∧ g4 < (b : Int) ∧
 (int .i64 l4).oneCell' = true ∧ (∃ u, n4.cell? (o4.add (g4.toNat * 1)) = some u) ∧ n4.frozen? (o4.add (g4.toNat * 1)) = false ∧
 ∀ p4, p4 = (n4.setCell (o4.add (g4.toNat * 1)) (int .i64 l4)) →
 ∀ q4 : KW, (∀ r4 : World, (Ar .i64 (f - s) (fun s4 =>
 CondP (decide (s4 ≥ 2))
 (Ar .i64 (s + 1) (fun t4 =>
 ∀ u4 : KW, (∀ (v4 : Int) (x4 : World), (m [int .i64 s, bool k] x4) → u4 [int .i64 v4] x4) →
 ∀ y4 : KW, (∀ (z4 : Int) (a5 : World), (CondP (decide (z4 < f))
 (∀ b5, b5 = a5.drew →
 NilC a (fun c5 =>
 (0 : Int) ≤ z4 ∧ z4 < (b : Int) ∧
 ∃ d5, b5.cell? (c5.add (z4.toNat * 1)) = some (int .i64 d5) ∧
 Ar .i64 (z4 - 1) (fun e5 =>
 NilC a (fun f5 =>
 (0 : Int) ≤ e5 ∧ e5 < (b : Int) ∧
 ∃ g5, b5.cell? (f5.add (e5.toNat * 1)) = some (int .i64 g5) ∧
 Calls Tryz.prog 174 #[int .i64 d5, int .i64 g5] b5 (fun h5 i5 =>
 ∃ j5, h5 = .returned (bool j5) ∧
 CondP (!j5)
 (u4 [int .i64 z4] i5)
 (∀ k5, k5 = i5.drew →
 Ar .i64 (z4 - 1) (fun l5 =>
 Ar .i64 (z4 - 1) (fun m5 =>
 NilC a (fun n5 =>
 (0 : Int) ≤ m5 ∧ m5 < (b : Int) ∧
 ∃ o5, k5.cell? (n5.add (m5.toNat * 1)) = some (int .i64 o5) ∧
 NilC a (fun p5 =>
 (0 : Int) ≤ z4 ∧ z4 < (b : Int) ∧
 ∃ q5, k5.cell? (p5.add (z4.toNat * 1)) = some (int .i64 q5) ∧
 NilC a (fun r5 =>
 (0 : Int) ≤ z4 ∧ z4 < (b : Int) ∧
 (int .i64 o5).oneCell' = true ∧ (∃ u, k5.cell? (r5.add (z4.toNat * 1)) = some u) ∧ k5.frozen? (r5.add (z4.toNat * 1)) = false ∧
 ∀ s5, s5 = (k5.setCell (r5.add (z4.toNat * 1)) (int .i64 o5)) →
 NilC a (fun t5 =>
 (0 : Int) ≤ l5 ∧ l5 < (b : Int) ∧
 (int .i64 q5).oneCell' = true ∧ (∃ u, s5.cell? (t5.add (l5.toNat * 1)) = some u) ∧ s5.frozen? (t5.add (l5.toNat * 1)) = false ∧
 ∀ u5, u5 = (s5.setCell (t5.add (l5.toNat * 1)) (int .i64 q5)) →
 Ar .i64 (z4 + 1) (fun v5 =>
 y4 [int .i64 v5] u5)))))))))))))
 (u4 [int .i64 z4] a5)) → y4 [int .i64 z4] a5) →
 y4 [int .i64 t4] r4))
 (m [int .i64 s, bool k] r4))) → q4 [] r4) →
 Ar .i64 (s - d) (fun x5 =>
 CondP (decide (x5 ≥ 2))
 (Ar .i64 (s - 1) (fun y5 =>
 ∀ z5 : KW, (∀ (a6 : Int) (b6 : World), (q4 [] b6) → z5 [int .i64 a6] b6) →
 ∀ c6 : KW, (∀ (d6 : Int) (e6 : World), (CondP (decide (d6 ≥ 1))
 (∀ f6, f6 = e6.drew →
 NilC a (fun g6 =>
 (0 : Int) ≤ d6 ∧ d6 < (b : Int) ∧
 ∃ h6, f6.cell? (g6.add (d6.toNat * 1)) = some (int .i64 h6) ∧
 Ar .i64 (d6 - 1) (fun i6 =>
 NilC a (fun j6 =>
 (0 : Int) ≤ i6 ∧ i6 < (b : Int) ∧
 ∃ k6, f6.cell? (j6.add (i6.toNat * 1)) = some (int .i64 k6) ∧
 Calls Tryz.prog 174 #[int .i64 h6, int .i64 k6] f6 (fun l6 m6 =>
 ∃ n6, l6 = .returned (bool n6) ∧
 CondP (!n6)
 (z5 [int .i64 d6] m6)
 (∀ o6, o6 = m6.drew →
 Ar .i64 (d6 - 1) (fun p6 =>
 Ar .i64 (d6 - 1) (fun q6 =>
 NilC a (fun r6 =>
 (0 : Int) ≤ q6 ∧ q6 < (b : Int) ∧
 ∃ s6, o6.cell? (r6.add (q6.toNat * 1)) = some (int .i64 s6) ∧
 NilC a (fun t6 =>
 (0 : Int) ≤ d6 ∧ d6 < (b : Int) ∧
 ∃ u6, o6.cell? (t6.add (d6.toNat * 1)) = some (int .i64 u6) ∧
 NilC a (fun v6 =>
 (0 : Int) ≤ d6 ∧ d6 < (b : Int) ∧
 (int .i64 s6).oneCell' = true ∧ (∃ u, o6.cell? (v6.add (d6.toNat * 1)) = some u) ∧ o6.frozen? (v6.add (d6.toNat * 1)) = false ∧
 ∀ x6, x6 = (o6.setCell (v6.add (d6.toNat * 1)) (int .i64 s6)) →
 NilC a (fun y6 =>
 (0 : Int) ≤ p6 ∧ p6 < (b : Int) ∧
 (int .i64 u6).oneCell' = true ∧ (∃ u, x6.cell? (y6.add (p6.toNat * 1)) = some u) ∧ x6.frozen? (y6.add (p6.toNat * 1)) = false ∧
 ∀ z6, z6 = (x6.setCell (y6.add (p6.toNat * 1)) (int .i64 u6)) →
 Ar .i64 (d6 - 1) (fun a7 =>
 c6 [int .i64 a7] z6)))))))))))))
 (z5 [int .i64 d6] e6)) → c6 [int .i64 d6] e6) →
 c6 [int .i64 y5] p4))
 (q4 [] p4))))))))))))) → r [int .i64 s] t) →
 r [int .i64 j] l)
 (R (bool false) l)) → h [int .i64 i, int .i64 j, bool k] l) →
 h [int .i64 0, int .i64 g, bool false] w)
theorem vc173_calls (a : OA) (b c : Nat) (d f : Int) (w : World) (R : RW) (hh : vc173 a b c d f w R) : Calls Tryz.prog 173 #[slice a b c, int .i64 d, int .i64 f] w fun e w' => ∃ v, e = .returned v ∧ R v w' :=
 calls_of_den ctxOk (fn := Tryz.f173) (by kernel_rfl) (body := bodyOf Tryz.f173) (by kernel_rfl) (by kernel_rfl) (by kernel_rfl) (Eq.mp (by kernel_rfl) hh)
def vc174 (a b : Int) (w : World) (R : RW) : Prop :=
 Calls Tryz.prog 226 #[int .i64 a] w (fun c d =>
 ∃ f, c = .returned (bool f) ∧
 CondP f
 (Calls Tryz.prog 226 #[int .i64 b] d (fun g h =>
 ∃ i, g = .returned (bool i) ∧
 CondP (!i)
 (R (bool true) h)
 (R (bool (decide (a < b))) h)))
 (R (bool (decide (a < b))) d))
theorem vc174_calls (a b : Int) (w : World) (R : RW) (hh : vc174 a b w R) : Calls Tryz.prog 174 #[int .i64 a, int .i64 b] w fun e w' => ∃ v, e = .returned v ∧ R v w' :=
 calls_of_den ctxOk (fn := Tryz.f174) (by kernel_rfl) (body := bodyOf Tryz.f174) (by kernel_rfl) (by kernel_rfl) (by kernel_rfl) (Eq.mp (by kernel_rfl) hh)
def vc178 (a : Int) (w : World) (R : RW) : Prop :=
 ∀ b : KW, (∀ (c d : Int) (f : World), (∀ g : KW, (∀ (h i : Int) (j : World), (∀ k : KW, (∀ (l m : Int) (n : World), ((0 : Int) ≤ (IntKind.wrap .u8 m) ∧ (IntKind.wrap .u8 m) < ((⟨#[0, 1, 2, 2, 3, 3, 3, 3, 4, 4, 4, 4, 4, 4, 4, 4, 5, 5, 5, 5, 5, 5, 5, 5, 5, 5, 5, 5, 5, 5, 5, 5, 6, 6, 6, 6, 6, 6, 6, 6, 6, 6, 6, 6, 6, 6, 6, 6, 6, 6, 6, 6, 6, 6, 6, 6, 6, 6, 6, 6, 6, 6, 6, 6, 7, 7, 7, 7, 7, 7, 7, 7, 7, 7, 7, 7, 7, 7, 7, 7, 7, 7, 7, 7, 7, 7, 7, 7, 7, 7, 7, 7, 7, 7, 7, 7, 7, 7, 7, 7, 7, 7, 7, 7, 7, 7, 7, 7, 7, 7, 7, 7, 7, 7, 7, 7, 7, 7, 7, 7, 7, 7, 7, 7, 7, 7, 7, 7, 8, 8, 8, 8, 8, 8, 8, 8, 8, 8, 8, 8, 8, 8, 8, 8, 8, 8, 8, 8, 8, 8, 8, 8, 8, 8, 8, 8, 8, 8, 8, 8, 8, 8, 8, 8, 8, 8, 8, 8, 8, 8, 8, 8, 8, 8, 8, 8, 8, 8, 8, 8, 8, 8, 8, 8, 8, 8, 8, 8, 8, 8, 8, 8, 8, 8, 8, 8, 8, 8, 8, 8, 8, 8, 8, 8, 8, 8, 8, 8, 8, 8, 8, 8, 8, 8, 8, 8, 8, 8, 8, 8, 8, 8, 8, 8, 8, 8, 8, 8, 8, 8, 8, 8, 8, 8, 8, 8, 8, 8, 8, 8, 8, 8, 8, 8, 8, 8, 8, 8, 8, 8, 8, 8, 8, 8, 8, 8]⟩ : ByteArray).size : Int) ∧
 Ar .i64 (l + (IntKind.wrap .i64 (btAt ⟨#[0, 1, 2, 2, 3, 3, 3, 3, 4, 4, 4, 4, 4, 4, 4, 4, 5, 5, 5, 5, 5, 5, 5, 5, 5, 5, 5, 5, 5, 5, 5, 5, 6, 6, 6, 6, 6, 6, 6, 6, 6, 6, 6, 6, 6, 6, 6, 6, 6, 6, 6, 6, 6, 6, 6, 6, 6, 6, 6, 6, 6, 6, 6, 6, 7, 7, 7, 7, 7, 7, 7, 7, 7, 7, 7, 7, 7, 7, 7, 7, 7, 7, 7, 7, 7, 7, 7, 7, 7, 7, 7, 7, 7, 7, 7, 7, 7, 7, 7, 7, 7, 7, 7, 7, 7, 7, 7, 7, 7, 7, 7, 7, 7, 7, 7, 7, 7, 7, 7, 7, 7, 7, 7, 7, 7, 7, 7, 7, 8, 8, 8, 8, 8, 8, 8, 8, 8, 8, 8, 8, 8, 8, 8, 8, 8, 8, 8, 8, 8, 8, 8, 8, 8, 8, 8, 8, 8, 8, 8, 8, 8, 8, 8, 8, 8, 8, 8, 8, 8, 8, 8, 8, 8, 8, 8, 8, 8, 8, 8, 8, 8, 8, 8, 8, 8, 8, 8, 8, 8, 8, 8, 8, 8, 8, 8, 8, 8, 8, 8, 8, 8, 8, 8, 8, 8, 8, 8, 8, 8, 8, 8, 8, 8, 8, 8, 8, 8, 8, 8, 8, 8, 8, 8, 8, 8, 8, 8, 8, 8, 8, 8, 8, 8, 8, 8, 8, 8, 8, 8, 8, 8, 8, 8, 8, 8, 8, 8, 8, 8, 8, 8, 8, 8, 8, 8, 8]⟩ (IntKind.wrap .u8 m)))) (fun o =>
 R (int .i64 o) n)) → k [int .i64 l, int .u64 m] n) →
 CondP (decide (i ≥ 256))
 ((0 : Int) ≤ 8 ∧
 Ar .i64 (h + 8) (fun p =>
 k [int .i64 p, int .u64 (Int.fdiv i (2 ^ (min (8 : Int).toNat (IntKind.bits .u64))))] j))
 (k [int .i64 h, int .u64 i] j)) → g [int .i64 h, int .u64 i] j) →
 CondP (decide (d ≥ 65536))
 ((0 : Int) ≤ 16 ∧
 Ar .i64 (c + 16) (fun q =>
 g [int .i64 q, int .u64 (Int.fdiv d (2 ^ (min (16 : Int).toNat (IntKind.bits .u64))))] f))
 (g [int .i64 c, int .u64 d] f)) → b [int .i64 c, int .u64 d] f) →
 CondP (decide (a ≥ 4294967296))
 ((0 : Int) ≤ 32 ∧
 b [int .i64 32, int .u64 (Int.fdiv a (2 ^ (min (32 : Int).toNat (IntKind.bits .u64))))] w)
 (b [int .i64 0, int .u64 a] w)
theorem vc178_calls (a : Int) (w : World) (R : RW) (hh : vc178 a w R) : Calls Tryz.prog 178 #[int .u64 a] w fun e w' => ∃ v, e = .returned v ∧ R v w' :=
 calls_of_den ctxOk (fn := Tryz.f178) (by kernel_rfl) (body := bodyOf Tryz.f178) (by kernel_rfl) (by kernel_rfl) (by kernel_rfl) (Eq.mp (by kernel_rfl) hh)
def vc224 (a : OA) (b c : Nat) (d : Int) (f : OA) (w : World) (R : RW) : Prop :=
 Ar .i64 (d - 1) (fun g =>
 Ar .i64 (d + 1) (fun h =>
 Calls Tryz.prog 225 #[slice a b c, int .i64 g, int .i64 d, int .i64 h, pointer f] w (fun i j =>
 ∃ k, i = .returned (int .i64 k) ∧
 R (int .i64 k) j)))
theorem vc224_calls (a : OA) (b c : Nat) (d : Int) (f : OA) (w : World) (R : RW) (hh : vc224 a b c d f w R) : Calls Tryz.prog 224 #[slice a b c, int .i64 d, pointer f] w fun e w' => ∃ v, e = .returned v ∧ R v w' :=
 calls_of_den ctxOk (fn := Tryz.f224) (by kernel_rfl) (body := bodyOf Tryz.f224) (by kernel_rfl) (by kernel_rfl) (by kernel_rfl) (Eq.mp (by kernel_rfl) hh)
def vc225 (a : OA) (b c : Nat) (d f g : Int) (h : OA) (w : World) (R : RW) : Prop :=
 Calls Tryz.prog 248 #[slice a b c, int .i64 d, int .i64 f, pointer h] w (fun i j =>
 ∃ k l, i = .returned (tuple #[int .i64 k, int .i64 l]) ∧
 Calls Tryz.prog 248 #[slice a b c, int .i64 l, int .i64 g, pointer h] j (fun m n =>
 ∃ o p, m = .returned (tuple #[int .i64 o, int .i64 p]) ∧
 Calls Tryz.prog 248 #[slice a b c, int .i64 k, int .i64 o, pointer h] n (fun q r =>
 ∃ s t, q = .returned (tuple #[int .i64 s, int .i64 t]) ∧
 R (int .i64 t) r)))
theorem vc225_calls (a : OA) (b c : Nat) (d f g : Int) (h : OA) (w : World) (R : RW) (hh : vc225 a b c d f g h w R) : Calls Tryz.prog 225 #[slice a b c, int .i64 d, int .i64 f, int .i64 g, pointer h] w fun e w' => ∃ v, e = .returned v ∧ R v w' :=
 calls_of_den ctxOk (fn := Tryz.f225) (by kernel_rfl) (body := bodyOf Tryz.f225) (by kernel_rfl) (by kernel_rfl) (by kernel_rfl) (Eq.mp (by kernel_rfl) hh)
def vc226 (a : Int) (w : World) (R : RW) : Prop :=
 R (bool (a != a)) w
theorem vc226_calls (a : Int) (w : World) (R : RW) (hh : vc226 a w R) : Calls Tryz.prog 226 #[int .i64 a] w fun e w' => ∃ v, e = .returned v ∧ R v w' :=
 calls_of_den ctxOk (fn := Tryz.f226) (by kernel_rfl) (body := bodyOf Tryz.f226) (by kernel_rfl) (by kernel_rfl) (by kernel_rfl) (Eq.mp (by kernel_rfl) hh)
def vc248 (a : OA) (b c : Nat) (d f : Int) (g : OA) (w : World) (R : RW) : Prop :=
 ∀ h, h = w.drew →
 NilC a (fun i =>
 (0 : Int) ≤ f ∧ f < (b : Int) ∧
 ∃ j, h.cell? (i.add (f.toNat * 1)) = some (int .i64 j) ∧
 NilC a (fun k =>
 (0 : Int) ≤ d ∧ d < (b : Int) ∧
 ∃ l, h.cell? (k.add (d.toNat * 1)) = some (int .i64 l) ∧
 Calls Tryz.prog 174 #[int .i64 j, int .i64 l] h (fun m n =>
 ∃ o, m = .returned (bool o) ∧
 CondP o
 (NilC g (fun p =>
 ∃ q, n.cell? p = some (int .i64 q) ∧
 Ar .i64 (q + 1) (fun r =>
 NilC g (fun s =>
 (int .i64 r).oneCell' = true ∧ (∃ u, n.cell? s = some u) ∧ n.frozen? s = false ∧
 ∀ t, t = (n.setCell s (int .i64 r)) →
 R (tuple #[int .i64 f, int .i64 d]) t))))
 (R (tuple #[int .i64 d, int .i64 f]) n))))
theorem vc248_calls (a : OA) (b c : Nat) (d f : Int) (g : OA) (w : World) (R : RW) (hh : vc248 a b c d f g w R) : Calls Tryz.prog 248 #[slice a b c, int .i64 d, int .i64 f, pointer g] w fun e w' => ∃ v, e = .returned v ∧ R v w' :=
 calls_of_den ctxOk (fn := Tryz.f248) (by kernel_rfl) (body := bodyOf Tryz.f248) (by kernel_rfl) (by kernel_rfl) (by kernel_rfl) (Eq.mp (by kernel_rfl) hh)
end Go.Proofs.YtboemnagahmlkaaGreat.Eng

/- The library's sort on a list that is sorted already: it stays as it is. -/
set_option linter.unusedVariables false
set_option linter.unusedSimpArgs false
set_option maxRecDepth 100000
namespace Go.Proofs.YtboemnagahmlkaaGreat.Eng
open Go Go.RowKit
theorem isNaN_spec (n : Int) (w : World) : Calls Tryz.prog 226 #[.int .i64 n] w fun e w' => e = .returned (.bool false) ∧ w' = w := by
  refine calls_ret (vc226_calls n w (fun u w' => u = .bool false ∧ w' = w) ?_) (by rintro v w' ⟨rfl, h⟩; exact ⟨rfl, h⟩)
  exact ⟨by simp, rfl⟩
theorem less_spec (x y : Int) (w : World) : Calls Tryz.prog 174 #[.int .i64 x, .int .i64 y] w fun e w' => e = .returned (.bool (decide (x < y))) ∧ w' = w := by
  refine calls_ret (vc174_calls x y w (fun u w' => u = .bool (decide (x < y)) ∧ w' = w) ?_) (by rintro v w' ⟨rfl, h⟩; exact ⟨rfl, h⟩)
  refine (isNaN_spec x w).mono ?_
  rintro e w1 ⟨rfl, hw⟩
  subst hw
  exact ⟨_, rfl, CondP.no rfl ⟨rfl, rfl⟩⟩
/-- A rising list. -/
def Rising (l : List Int) : Prop := ∀ (i j : Nat) (hi : i < l.length) (hj : j < l.length), i < j → l[i] < l[j]
section
variable {A : Option Addr} {C : Nat} {l : List Int}
theorem order2_spec (hs : Rising l) (w : World) (hr : Rw encInt 1 w A l) (i j : Nat) (hij : i < j) (hj : j < l.length) (p : Option Addr) :
    Calls Tryz.prog 248 #[.slice A l.length C, .int .i64 (i : Int), .int .i64 (j : Int), .pointer p] w fun e w' => e = .returned (.tuple #[.int .i64 (i : Int), .int .i64 (j : Int)]) ∧ Below w.heap.size w w' := by
  refine calls_ret (vc248_calls A l.length C i j p w (fun u w' => u = .tuple #[.int .i64 (i : Int), .int .i64 (j : Int)] ∧ Below w.heap.size w w') ?_) (by rintro v w' ⟨rfl, h⟩; exact ⟨rfl, h⟩)
  intro w1 hw1
  have b1 : Below w.heap.size w w1 := by subst hw1; exact drew_on w
  obtain ⟨q, hq, c1⟩ := cell_rw (hr.on b1) hj rfl
  obtain ⟨q', hq', c0⟩ := cell_rw (hr.on b1) (show i < l.length by omega) rfl
  refine NilC.mk q hq ⟨by omega, by omega, _, c1, NilC.mk q' hq' ⟨by omega, by omega, _, c0, ?_⟩⟩
  refine (less_spec _ _ w1).mono ?_
  rintro e w2 ⟨rfl, hw⟩
  subst hw
  exact ⟨_, rfl, CondP.no (decide_eq_false (by have := hs i j (by omega) hj hij; omega)) ⟨rfl, b1⟩⟩
theorem median_spec (hs : Rising l) (hl : l.length ≤ 1000000) (w : World) (hr : Rw encInt 1 w A l) (i j k : Nat) (hij : i < j) (hjk : j < k) (hk : k < l.length) (p : Option Addr) :
    Calls Tryz.prog 225 #[.slice A l.length C, .int .i64 (i : Int), .int .i64 (j : Int), .int .i64 (k : Int), .pointer p] w fun e w' => e = .returned (.int .i64 (j : Int)) ∧ Below w.heap.size w w' := by
  refine calls_ret (vc225_calls A l.length C i j k p w (fun u w' => u = .int .i64 (j : Int) ∧ Below w.heap.size w w') ?_) (by rintro v w' ⟨rfl, h⟩; exact ⟨rfl, h⟩)
  refine (order2_spec hs w hr i j hij (by omega) p).mono ?_
  rintro e w1 ⟨rfl, b1⟩
  refine ⟨_, _, rfl, ?_⟩
  refine (order2_spec hs w1 (hr.on b1) j k hjk hk p).mono ?_
  rintro e w2 ⟨rfl, b2⟩
  refine ⟨_, _, rfl, ?_⟩
  have b12 := below_then b1 b2
  refine (order2_spec hs w2 (hr.on b12) i j hij (by omega) p).mono ?_
  rintro e w3 ⟨rfl, b3⟩
  exact ⟨_, _, rfl, rfl, below_then b12 b3⟩
theorem medianAdj_spec (hs : Rising l) (hl : l.length ≤ 1000000) (w : World) (hr : Rw encInt 1 w A l) (j : Nat) (h0 : 0 < j) (hj : j + 1 < l.length) (p : Option Addr) :
    Calls Tryz.prog 224 #[.slice A l.length C, .int .i64 (j : Int), .pointer p] w fun e w' => e = .returned (.int .i64 (j : Int)) ∧ Below w.heap.size w w' := by
  refine calls_ret (vc224_calls A l.length C j p w (fun u w' => u = .int .i64 (j : Int) ∧ Below w.heap.size w w') ?_) (by rintro v w' ⟨rfl, h⟩; exact ⟨rfl, h⟩)
  refine Ar.nat (j - 1) (by omega) (by omega) (Ar.nat (j + 1) (by omega) (by omega) ?_)
  refine (median_spec hs hl w hr (j - 1) j (j + 1) (by omega) (by omega) hj p).mono ?_
  rintro e w1 ⟨rfl, b1⟩
  exact ⟨_, rfl, rfl, b1⟩
theorem pivot_spec (hs : Rising l) (hl : l.length ≤ 1000000) (w : World) (hr : Rw encInt 1 w A l) (h50 : 50 ≤ l.length) :
    Calls Tryz.prog 171 #[.slice A l.length C, .int .i64 0, .int .i64 (l.length : Int)] w fun e w' => ∃ n : Int, e = .returned (.tuple #[.int .i64 n, .int .i64 1]) ∧ Below w.heap.size w w' := by
  refine calls_ret (vc171_calls A l.length C 0 l.length w (fun u w' => ∃ n : Int, u = .tuple #[.int .i64 n, .int .i64 1] ∧ Below w.heap.size w w') ?_) (by rintro v w' ⟨n, rfl, h⟩; exact ⟨n, rfl, h⟩)
  refine Ar.nat l.length (by omega) (by omega) ?_
  intro w1 hw1
  have b1 : Below w.heap.size w w1 := by subst hw1; exact below_alloc _ _
  have l1 : w1.heap[w.heap.size]? = some (.cells #[.int .i64 0] tInt (0, 0)) := by subst hw1; exact alloc_new _ _
  have hdiv : IntKind.wrap .i64 (Int.tdiv (l.length : Int) 4) = ((l.length / 4 : Nat) : Int) := by
    have : Int.tdiv (l.length : Int) 4 = ((l.length / 4 : Nat) : Int) := rfl
    rw [this]
    exact wrap_in (by show (-9223372036854775808 : Int) ≤ _; omega) (by show _ ≤ (9223372036854775807 : Int); omega)
  rw [hdiv]
  refine ⟨by decide, Ar.nat (l.length / 4 * 1) (by omega) (by omega) (Ar.nat (l.length / 4 * 1) (by omega) (by omega) ⟨by decide, Ar.nat (l.length / 4 * 2) (by omega) (by omega) (Ar.nat (l.length / 4 * 2) (by omega) (by omega) ⟨by decide, Ar.nat (l.length / 4 * 3) (by omega) (by omega) (Ar.nat (l.length / 4 * 3) (by omega) (by omega) ?_)⟩)⟩)⟩
  intro J7 hJ7
  refine CondP.yes (decide_eq_true (by omega)) ?_
  intro J9 hJ9
  refine CondP.yes (decide_eq_true (by omega)) ?_
  refine (medianAdj_spec hs hl w1 (hr.on b1) (l.length / 4 * 1) (by omega) (by omega) _).mono ?_
  rintro e w2 ⟨rfl, b2⟩
  have b12 := below_then b1 b2
  refine ⟨_, rfl, (medianAdj_spec hs hl w2 (hr.on b12) (l.length / 4 * 2) (by omega) (by omega) _).mono ?_⟩
  rintro e w3 ⟨rfl, b3⟩
  have b13 := below_then b12 b3
  refine ⟨_, rfl, (medianAdj_spec hs hl w3 (hr.on b13) (l.length / 4 * 3) (by omega) (by omega) _).mono ?_⟩
  rintro e w4 ⟨rfl, b4⟩
  have b14 := below_then b13 b4
  refine ⟨_, rfl, hJ9 _ _ _ _ ((median_spec hs hl w4 (hr.on b14) (l.length / 4 * 1) (l.length / 4 * 2) (l.length / 4 * 3) (by omega) (by omega) (by omega) _).mono ?_)⟩
  rintro e w5 ⟨rfl, b5⟩
  have l5 := held_on b5 (held_on b4 (held_on b3 (held_on b2 l1)))
  exact ⟨_, rfl, hJ7 _ _ _ _ ⟨0, by rw [cell_heap l5]; rfl, CondP.yes rfl ⟨_, rfl, below_then b14 b5⟩⟩⟩
theorem partial_spec (hs : Rising l) (hl : l.length ≤ 1000000) (w : World) (hr : Rw encInt 1 w A l) (h0 : 0 < l.length) :
    Calls Tryz.prog 173 #[.slice A l.length C, .int .i64 0, .int .i64 (l.length : Int)] w fun e w' => e = .returned (.bool true) ∧ Below w.heap.size w w' := by
  refine calls_ret (vc173_calls A l.length C 0 l.length w (fun u w' => u = .bool true ∧ Below w.heap.size w w') ?_) (by rintro v w' ⟨rfl, h⟩; exact ⟨rfl, h⟩)
  refine Ar.nat 1 (by omega) (by omega) ?_
  intro I1 hI1
  refine hI1 _ _ _ _ (CondP.yes rfl ?_)
  intro J2 hJ2
  intro I6 hI6
  have key := climb2 (α := World) (l.length - 1) (fun i q => Below w.heap.size w q) (fun i q => I6 [.int .i64 ((i + 1 : Nat) : Int)] q) w (Below.refl _ _) ?_ ?_
  · exact key
  · rintro i hi ih q hB
    refine hI6 _ _ ?_
    intro q4 hq4
    have b4 : Below q.heap.size q q4 := by subst hq4; exact drew_on q
    have hB4 := below_then hB b4
    obtain ⟨p, hp, c1⟩ := cell_rw (hr.on hB4) (show i + 1 < l.length by omega) rfl
    obtain ⟨p', hp', c0⟩ := cell_rw (hr.on hB4) (show i < l.length by omega) rfl
    refine CondP.yes (by simp; omega) (NilC.mk p hp ⟨by omega, by omega, _, c1, Ar.nat i (by omega) (by omega) (NilC.mk p' hp' ⟨by omega, by omega, _, c0, ?_⟩)⟩)
    refine (less_spec _ _ q4).mono ?_
    rintro e w5 ⟨rfl, hw⟩
    subst hw
    have := hs i (i + 1) (by omega) (by omega) (by omega)
    refine ⟨_, rfl, CondP.yes (by rw [decide_eq_false (by omega)]; rfl) (Ar.nat (i + 1 + 1) rfl (by omega) (ih w5 hB4))⟩
  · rintro q hB
    refine hI6 _ _ ?_
    intro q4 hq4
    have b4 : Below q.heap.size q q4 := by subst hq4; exact drew_on q
    have e : ((l.length - 1 + 1 : Nat) : Int) = (l.length : Int) := by omega
    rw [e]
    exact CondP.no (by simp) (CondP.yes (by simp) ⟨rfl, below_then hB b4⟩)
end
theorem len64_spec (n : Nat) (w : World) (h1 : 256 ≤ n) (h2 : n ≤ 65535) : Calls Tryz.prog 178 #[.int .u64 (n : Int)] w fun e w' => ∃ k : Int, e = .returned (.int .i64 k) ∧ k ≠ 0 ∧ w' = w := by
  refine calls_ret (vc178_calls n w (fun u w' => ∃ k : Int, u = .int .i64 k ∧ k ≠ 0 ∧ w' = w) ?_) (by rintro v w' ⟨k, rfl, h⟩; exact ⟨k, rfl, h⟩)
  intro J1 hJ1
  refine CondP.no (decide_eq_false (by omega)) (hJ1 _ _ _ ?_)
  intro J3 hJ3
  refine CondP.no (decide_eq_false (by omega)) (hJ3 _ _ _ ?_)
  intro J6 hJ6
  refine CondP.yes (decide_eq_true (by omega)) ⟨by decide, Ar.nat 8 rfl (by omega) (hJ6 _ _ _ ?_)⟩
  have e : Int.fdiv (n : Int) (2 ^ (min (8 : Int).toNat (IntKind.bits .u64))) = ((n / 256 : Nat) : Int) := by
    show Int.fdiv (n : Int) 256 = _
    rw [Int.fdiv_eq_ediv_of_nonneg _ (by decide)]
    rfl
  rw [e]
  have hw8 : IntKind.wrap .u8 ((n / 256 : Nat) : Int) = ((n / 256 : Nat) : Int) := wrap_in (by show (0 : Int) ≤ _; omega) (by show _ ≤ (255 : Int); omega)
  rw [hw8]
  refine ⟨by omega, by show ((n / 256 : Nat) : Int) < 256; omega, ?_⟩
  have hb : ∀ s : ByteArray, 0 ≤ btAt s ((n / 256 : Nat) : Int) ∧ btAt s ((n / 256 : Nat) : Int) ≤ 255 := by
    intro s
    unfold btAt
    cases s.data[((n / 256 : Nat) : Int).toNat]? with
    | none => simp
    | some b =>
      have := b.toNat_lt
      simp only [Option.map_some, Option.getD_some]
      omega
  have aux : ∀ s : ByteArray, Ar .i64 (((8 : Nat) : Int) + IntKind.wrap .i64 (btAt s ((n / 256 : Nat) : Int))) (fun n_9 => ∃ k : Int, Value.int .i64 n_9 = .int .i64 k ∧ k ≠ 0 ∧ w = w) := by
    intro s
    have := hb s
    rw [wrap_in (z := btAt s ((n / 256 : Nat) : Int)) (by show (-9223372036854775808 : Int) ≤ _; omega) (by show _ ≤ (9223372036854775807 : Int); omega)]
    exact Ar.ok64 (by omega) (by omega) ⟨_, rfl, by omega, rfl⟩
  exact aux _
theorem len_spec (n : Nat) (w : World) (h1 : 256 ≤ n) (h2 : n ≤ 65535) : Calls Tryz.prog 117 #[.int .u64 (n : Int)] w fun e w' => ∃ k : Int, e = .returned (.int .i64 k) ∧ k ≠ 0 ∧ w' = w := by
  refine calls_ret (vc117_calls n w (fun u w' => ∃ k : Int, u = .int .i64 k ∧ k ≠ 0 ∧ w' = w) ?_) (by rintro v w' ⟨k, rfl, h⟩; exact ⟨k, rfl, h⟩)
  refine (len64_spec n w h1 h2).mono ?_
  rintro e w1 ⟨k, rfl, hk, hw⟩
  exact ⟨_, rfl, k, rfl, hk, hw⟩
theorem sort_spec (w : World) (A : Option Addr) (C : Nat) (l : List Int) (hr : Rw encInt 1 w A l) (hs : Rising l) (h1 : 256 ≤ l.length) (h2 : l.length ≤ 65535) :
    Calls Tryz.prog 86 #[.slice A l.length C] w fun e w' => e = .returned (.tuple #[]) ∧ Below w.heap.size w w' := by
  refine calls_ret (vc86_calls A l.length C w (fun u w' => u = .tuple #[] ∧ Below w.heap.size w w') ?_) (by rintro v w' ⟨rfl, h⟩; exact ⟨rfl, h⟩)
  have hw : IntKind.wrap .u64 (l.length : Int) = (l.length : Int) := wrap_in (by show (0 : Int) ≤ _; omega) (by show _ ≤ (18446744073709551615 : Int); omega)
  unfold vc86
  rw [hw]
  refine (len_spec l.length w h1 h2).mono ?_
  rintro e w1 ⟨k, rfl, hk, hw1⟩
  subst hw1
  refine ⟨_, rfl, ?_⟩
  have pdq : Calls Tryz.prog 116 #[.slice A l.length C, .int .i64 0, .int .i64 (l.length : Int), .int .i64 k] w1 fun e w' => e = .returned (.tuple #[]) ∧ Below w1.heap.size w1 w' := by
    refine calls_ret (vc116_calls A l.length C 0 l.length k w1 (fun u w' => u = .tuple #[] ∧ Below w1.heap.size w1 w') ?_) (by rintro v w' ⟨rfl, h⟩; exact ⟨rfl, h⟩)
    intro I hI
    refine hI _ _ _ _ _ _ ?_
    intro J5 hJ5
    refine Ar.nat l.length (by omega) (by omega) (CondP.no (decide_eq_false (by omega)) (CondP.no (by simpa using hk) ?_))
    intro J11 hJ11
    refine CondP.no rfl (hJ11 _ _ ?_)
    refine (pivot_spec hs (by omega) w1 hr (by omega)).mono ?_
    rintro e w6 ⟨n, rfl, b6⟩
    refine ⟨_, _, rfl, ?_⟩
    intro J13 hJ13
    refine CondP.no rfl (hJ13 _ _ _ ?_)
    intro J14 hJ14
    refine CondP.yes rfl (CondP.yes rfl (CondP.yes rfl ?_))
    refine (partial_spec hs (by omega) w6 (hr.on b6) (by omega)).mono ?_
    rintro e w18 ⟨rfl, b18⟩
    exact ⟨_, rfl, CondP.yes rfl ⟨rfl, below_then b6 b18⟩⟩
  refine pdq.mono ?_
  rintro e w2 ⟨rfl, b2⟩
  exact ⟨rfl, rfl, b2⟩
end Go.Proofs.YtboemnagahmlkaaGreat.Eng

/- Bits in words; in plain Lean. -/
set_option linter.unusedVariables false
namespace Go.Proofs.YtboemnagahmlkaaGreat.Eng
/-- A number of the bits that a function tells. -/
def bitsN (f : Nat → Bool) : Nat → Nat
  | 0 => 0
  | m + 1 => bitsN f m ||| (if f m then 2 ^ m else 0)
theorem bitsN_test (f : Nat → Bool) : ∀ m j, (bitsN f m).testBit j = (decide (j < m) && f j)
  | 0, j => by simp [bitsN]
  | m + 1, j => by
    rw [bitsN, Nat.testBit_or, bitsN_test f m j]
    by_cases h : f m = true
    · rw [if_pos h, Nat.testBit_two_pow]
      by_cases e : m = j
      · subst e; simp [h]
      · by_cases e2 : j < m
        · simp [e, e2, show j < m + 1 by omega]
        · simp [e, e2, show ¬ j < m + 1 by omega]
    · rw [if_neg h, Nat.zero_testBit]
      by_cases e : j = m
      · subst e; simp [h]
      · by_cases e2 : j < m
        · simp [e2, show j < m + 1 by omega]
        · simp [e2, show ¬ j < m + 1 by omega]
theorem bitsN_lt (f : Nat → Bool) (m : Nat) : bitsN f m < 2 ^ m := by
  apply Nat.lt_pow_two_of_testBit
  intro j hj
  rw [bitsN_test, decide_eq_false (by omega)]
  rfl
theorem bitsN_congr {f g : Nat → Bool} {m : Nat} (h : ∀ j, j < m → f j = g j) : bitsN f m = bitsN g m := by
  apply Nat.eq_of_testBit_eq
  intro j
  rw [bitsN_test, bitsN_test]
  by_cases hj : j < m
  · rw [h j hj]
  · simp [hj]
/-- The k-th word of n bits. -/
def wordAt (n : Nat) (p : Nat → Bool) (k : Nat) : Nat := bitsN (fun j => decide (64 * k + j < n) && p (64 * k + j)) 64
def wordsOf (n : Nat) (p : Nat → Bool) : List Int := (List.range ((n + 63) / 64)).map fun k => ((wordAt n p k : Nat) : Int)
theorem wordsOf_length (n : Nat) (p : Nat → Bool) : (wordsOf n p).length = (n + 63) / 64 := by simp [wordsOf]
theorem wordsOf_get (n : Nat) (p : Nat → Bool) {k : Nat} (hk : k < (n + 63) / 64) : (wordsOf n p)[k]? = some ((wordAt n p k : Nat) : Int) := by simp [wordsOf, hk]
theorem wordAt_lt (n : Nat) (p : Nat → Bool) (k : Nat) : wordAt n p k < 2 ^ 64 := bitsN_lt _ _
theorem wordAt_test (n : Nat) (p : Nat → Bool) {i : Nat} (hi : i < n) : (wordAt n p (i / 64)).testBit (i % 64) = p i := by
  rw [wordAt, bitsN_test]
  have h1 : i % 64 < 64 := Nat.mod_lt _ (by decide)
  have h2 : 64 * (i / 64) + i % 64 = i := by omega
  simp [h1, h2, hi]
/-- One bit more. -/
theorem wordAt_more (n : Nat) (p : Nat → Bool) {i : Nat} (hi : i < n) (hp : p i = true) (k : Nat) : wordAt n (fun j => p j && decide (j < i + 1)) k = if k = i / 64 then wordAt n (fun j => p j && decide (j < i)) k ||| 2 ^ (i % 64) else wordAt n (fun j => p j && decide (j < i)) k := by
  apply Nat.eq_of_testBit_eq
  intro j
  unfold wordAt
  by_cases hk : k = i / 64
  · rw [if_pos hk, Nat.testBit_or, bitsN_test, bitsN_test, Nat.testBit_two_pow]
    by_cases hj : j < 64
    · by_cases e : i % 64 = j
      · have : 64 * k + j = i := by omega
        simp [hj, e, this, hi, hp]
      · have hne : 64 * k + j ≠ i := by omega
        simp only [hj, e, decide_true, decide_false, Bool.true_and, Bool.or_false]
        congr 2
        exact decide_eq_decide.2 (by omega)
    · have : i % 64 ≠ j := by omega
      simp [hj, this]
  · rw [if_neg hk, bitsN_test, bitsN_test]
    by_cases hj : j < 64
    · have hne : 64 * k + j ≠ i := by omega
      simp only [hj, decide_true, Bool.true_and]
      congr 2
      exact decide_eq_decide.2 (by omega)
    · simp [hj]
theorem wordAt_less (n : Nat) (p : Nat → Bool) {i : Nat} (hp : p i = false) (k : Nat) : wordAt n (fun j => p j && decide (j < i + 1)) k = wordAt n (fun j => p j && decide (j < i)) k := by
  unfold wordAt
  apply bitsN_congr
  intro j _
  congr 1
  by_cases e : 64 * k + j = i
  · simp [e, hp]
  · have h2 : decide (64 * k + j < i + 1) = decide (64 * k + j < i) := decide_eq_decide.2 ⟨fun h => by omega, fun h => by omega⟩
    simp only [h2]
theorem wordsOf_more (n : Nat) (p : Nat → Bool) {i : Nat} (hi : i < n) (hp : p i = true) : wordsOf n (fun j => p j && decide (j < i + 1)) = (wordsOf n (fun j => p j && decide (j < i))).set (i / 64) (((wordAt n (fun j => p j && decide (j < i)) (i / 64) ||| 2 ^ (i % 64) : Nat)) : Int) := by
  apply List.ext_getElem
  · rw [List.length_set, wordsOf_length, wordsOf_length]
  · intro k h1 h2
    rw [List.getElem_set]
    rw [wordsOf_length] at h1
    by_cases e : i / 64 = k
    · rw [if_pos e]
      simp only [wordsOf, List.getElem_map, List.getElem_range]
      rw [wordAt_more n p hi hp, if_pos e.symm, e]
    · rw [if_neg e]
      simp only [wordsOf, List.getElem_map, List.getElem_range]
      rw [wordAt_more n p hi hp, if_neg (fun h => e h.symm)]
theorem wordsOf_less (n : Nat) (p : Nat → Bool) {i : Nat} (hp : p i = false) : wordsOf n (fun j => p j && decide (j < i + 1)) = wordsOf n (fun j => p j && decide (j < i)) := by
  unfold wordsOf
  apply List.map_congr_left
  intro k _
  rw [wordAt_less n p hp]
theorem wordsOf_none (n : Nat) (p : Nat → Bool) : wordsOf n (fun j => p j && decide (j < 0)) = List.replicate ((n + 63) / 64) 0 := by
  apply List.ext_getElem
  · rw [wordsOf_length, List.length_replicate]
  · intro k h1 h2
    simp only [wordsOf, List.getElem_map, List.getElem_range, List.getElem_replicate]
    have : wordAt n (fun j => p j && decide (j < 0)) k = 0 := by
      apply Nat.eq_of_testBit_eq
      intro j
      unfold wordAt
      rw [bitsN_test]
      simp
    rw [this]
    rfl
theorem wordsOf_all (n : Nat) (p : Nat → Bool) : wordsOf n (fun j => p j && decide (j < n)) = wordsOf n p := by
  unfold wordsOf
  apply List.map_congr_left
  intro k _
  congr 1
  unfold wordAt
  apply bitsN_congr
  intro j _
  by_cases e : 64 * k + j < n <;> simp [e]
end Go.Proofs.YtboemnagahmlkaaGreat.Eng

/- Rows of bits, and all tokens' numbers, walked by the engine. -/
set_option linter.unusedVariables false
set_option linter.unusedSimpArgs false
set_option maxRecDepth 100000
namespace Go.Proofs.YtboemnagahmlkaaGreat.Eng
open Go Go.RowKit
abbrev tU64 : TypeId := 57
abbrev tRow : TypeId := 109
theorem undRow : Tryz.prog.underlying tRow = some (.slice tU64) := by kernel_rfl
theorem infoU64 : (Tryz.prog.info? tU64).map (fun i => (i.zero, i.size, i.bytes)) = some (some (.int .u64 0), 1, 8) := by kernel_rfl
def encU64 (n : Int) : List Value := [.int .u64 n]
theorem elU64 : ElT encU64 1 tRow tU64 8 := ⟨fun _ => rfl, by decide, fun x u hu => by rw [List.mem_singleton.1 hu]; rfl, undRow, _, infoU64, rfl⟩
theorem run_makeWords (w : World) (n : Nat) (hn : n ≤ 1000000) : (Instr.makeSlice tRow (.int .i64 n) (.int .i64 n)).run Tryz.prog w = .ok (.slice (some (nb w)) n n) (w.alloc (.cells (Array.replicate n (.int .u64 0)) tU64)) := by
  obtain ⟨i, hi, hz, hs, hb⟩ := info_parts infoU64
  have := Go.run_make (P := Tryz.prog) w tRow tU64 i (.int .u64 0) undRow hi hz .i64 .i64 (n : Int) (n : Int) (by omega) (Int.le_refl _) (by rw [hb]; omega) (by omega)
  rw [this]
  congr 3
  rw [hs]
  apply Array.ext
  · rw [size_madeCells]
    simp
  · intro j h1 h2
    simp only [madeCells, Array.getElem_map, Array.getElem_range, Array.getElem_replicate]
    show (#[Value.int .u64 0] : Array Value)[j % 1]! = _
    rw [Nat.mod_one]
    rfl
theorem own_made {w : World} {n : Nat} {e : TypeId} (xs : List Value) (hx : xs.length = n) (hn : n ≤ 1000000) {B : Nat} (hB : B ≤ w.heap.size) : (w.alloc (.cells xs.toArray e)).ownsRow B e 1 (.slice (some (nb w)) n n) n xs := by
  refine ⟨by rw [hx, Nat.mul_one], .inr ⟨w.heap.size, n, xs.toArray, rfl, hB, alloc_new _ _, Nat.le_refl _, by unfold maxLen; omega, by rw [List.size_toArray, hx, Nat.mul_one], ?_⟩⟩
  rw [← hx, Nat.mul_one]
  exact List.take_length
/-! ### One bit -/
theorem div64 (i : Nat) (hi : i ≤ 1000000) : IntKind.wrap .i64 (Int.tdiv (i : Int) 64) = ((i / 64 : Nat) : Int) := by
  have : Int.tdiv (i : Int) 64 = ((i / 64 : Nat) : Int) := rfl
  rw [this]
  exact wrap_in (by show (-9223372036854775808 : Int) ≤ _; omega) (by show _ ≤ (9223372036854775807 : Int); omega)
theorem mod64 (i : Nat) : Int.tmod (i : Int) 64 = ((i % 64 : Nat) : Int) := rfl
theorem ofInt_nat (x : Nat) (hx : x < 2 ^ 64) : (BitVec.ofInt 64 (x : Int)).toNat = x := by
  rw [BitVec.ofInt_natCast, BitVec.toNat_ofNat, Nat.mod_eq_of_lt hx]
theorem wrap_u64 (x : Nat) (hx : x < 2 ^ 64) : IntKind.wrap .u64 (x : Int) = (x : Int) := wrap_in (by show (0 : Int) ≤ _; omega) (by show _ ≤ (18446744073709551615 : Int); omega)
theorem has_bit (x m : Nat) (hx : x < 2 ^ 64) (hm : m < 64) : ((IntKind.wrap .u64 ((BitVec.ofInt (IntKind.bits .u64) (Int.fdiv (x : Int) (2 ^ (min ((m : Nat) : Int).toNat (IntKind.bits .u64)))) &&& BitVec.ofInt (IntKind.bits .u64) 1).toNat : Int) : Int) == 1) = x.testBit m := by
  show ((IntKind.wrap .u64 ((BitVec.ofInt 64 (Int.fdiv (x : Int) (2 ^ (min m 64))) &&& BitVec.ofInt 64 1).toNat : Int) : Int) == 1) = _
  have h1 : Int.fdiv (x : Int) (2 ^ (min m 64)) = ((x / 2 ^ m : Nat) : Int) := by
    rw [Nat.min_eq_left (by omega), Int.fdiv_eq_ediv_of_nonneg _ (Int.pow_nonneg (by decide))]
    simp
  have hd : x / 2 ^ m < 2 ^ 64 := Nat.lt_of_le_of_lt (Nat.div_le_self _ _) hx
  rw [h1, BitVec.toNat_and, ofInt_nat _ hd]
  have h2 : (BitVec.ofInt 64 1).toNat = 1 := by decide
  rw [h2, Nat.and_one_is_mod, wrap_u64 _ (by omega), Nat.testBit_eq_decide_div_mod_eq]
  by_cases e : x / 2 ^ m % 2 = 1
  · rw [e]; simp
  · have : x / 2 ^ m % 2 = 0 := by omega
    rw [this]; simp
theorem set_bit (x m : Nat) (hx : x < 2 ^ 64) (hm : m < 64) : IntKind.wrap .u64 ((BitVec.ofInt (IntKind.bits .u64) (x : Int) ||| BitVec.ofInt (IntKind.bits .u64) (IntKind.wrap .u64 ((1 : Int) * 2 ^ (min ((m : Nat) : Int).toNat (IntKind.bits .u64))))).toNat : Int) = ((x ||| 2 ^ m : Nat) : Int) := by
  show IntKind.wrap .u64 ((BitVec.ofInt 64 (x : Int) ||| BitVec.ofInt 64 (IntKind.wrap .u64 ((1 : Int) * 2 ^ (min m 64)))).toNat : Int) = _
  have hp : 2 ^ m < 2 ^ 64 := Nat.pow_lt_pow_right (by decide) hm
  have h1 : (1 : Int) * 2 ^ (min m 64) = ((2 ^ m : Nat) : Int) := by
    rw [Nat.min_eq_left (by omega), Int.one_mul]
    simp
  rw [h1, wrap_u64 _ hp, BitVec.toNat_or, ofInt_nat _ hx, ofInt_nat _ hp]
  exact wrap_u64 _ (Nat.or_lt_two_pow hx hp)
theorem rowHas_spec (w : World) (A : Option Addr) (N C n : Nat) (p : Nat → Bool) (hr : Rw encU64 1 w A (wordsOf n p)) (hN : N = (wordsOf n p).length) (hn : n ≤ 100000) (i : Nat) (hi : i < n) :
    Calls Tryz.prog 70 #[.slice A N C, .int .i64 (i : Int)] w fun e w' => e = .returned (.bool (p i)) ∧ w' = w := by
  refine calls_ret (vc70_calls A N C i w (fun u w' => u = .bool (p i) ∧ w' = w) ?_) (by rintro v w' ⟨rfl, h⟩; exact ⟨rfl, h⟩)
  unfold vc70
  rw [div64 i (by omega), mod64]
  rw [wordsOf_length] at hN
  have hk : i / 64 < (n + 63) / 64 := by omega
  obtain ⟨q, hq, _, hc⟩ := hr _ _ (wordsOf_get n p hk)
  have c0 := hc 0 _ rfl
  rw [add_zero] at c0
  refine ⟨by decide, NilC.mk q hq ⟨by omega, by omega, _, c0, by decide, by omega, ?_, rfl⟩⟩
  rw [has_bit _ _ (wordAt_lt _ _ _) (Nat.mod_lt _ (by decide)), wordAt_test n p hi]
theorem rowSet_spec (w : World) (B : Nat) (l : Sl) (ws : List Int) (h : w.ownsRow B tU64 1 l.v l.n (ws.flatMap encU64)) (i x : Nat) (hi : i ≤ 1000000) (hk : i / 64 < ws.length) (hx : ws[i / 64] = (x : Int)) (hlt : x < 2 ^ 64) :
    Calls Tryz.prog 131 #[.slice l.a l.n l.c, .int .i64 (i : Int)] w fun e w' => e = .returned (.tuple #[]) ∧ w'.ownsRow B tU64 1 l.v l.n ((ws.set (i / 64) ((x ||| 2 ^ (i % 64) : Nat) : Int)).flatMap encU64) ∧ (∀ j, l.v.ownBlock ≠ some j → w'.heap[j]? = w.heap[j]?) ∧ w'.heap.size = w.heap.size ∧ Below B w w' := by
  refine calls_ret (vc131_calls l.a l.n l.c i w (fun u w' => u = .tuple #[] ∧ w'.ownsRow B tU64 1 l.v l.n ((ws.set (i / 64) ((x ||| 2 ^ (i % 64) : Nat) : Int)).flatMap encU64) ∧ (∀ j, l.v.ownBlock ≠ some j → w'.heap[j]? = w.heap[j]?) ∧ w'.heap.size = w.heap.size ∧ Below B w w') ?_) (by rintro v w' ⟨rfl, h⟩; exact ⟨rfl, h⟩)
  rintro w1 rfl
  have h1 : w.drew.ownsRow B tU64 1 l.v l.n (ws.flatMap encU64) := own_drew h
  have hls := LsAt.of_own elU64 h1
  have hn := hls.n
  rw [div64 i hi, mod64]
  obtain ⟨q, hq, c0⟩ := cell_rw hls.r hk rfl
  rw [hx] at c0
  refine ⟨by decide, NilC.mk q hq ⟨by omega, by omega, _, c0, by decide, by omega, NilC.mk q hq ⟨by omega, by omega, ?_⟩⟩⟩
  rw [set_bit x _ hlt (Nat.mod_lt _ (by decide))]
  refine store_one (own_set (enc := encU64) (fun _ => rfl) (by decide) (fun y u hu => by rw [List.mem_singleton.1 hu]; rfl) h1 hn hq (i / 64) hk _ ?_)
  intro w' h' hs hz hB
  exact ⟨rfl, h', hs, hz, hB _ _ (Nat.le_refl _) ((Below.refl _ _).drew)⟩
theorem VocIs.off {w w' : World} {v : Nat} {s : SpecV} {T : List Ent} (h : VocIs w v s T) {B : Nat} (hb : Below B w w') (hv : v < B) {B' sz n : Nat} {e : TypeId} {u : Value} {xs : List Value} (ho : w.ownsRow B' e sz u n xs) (he : tBool ≠ e) (hk : ∀ k, u.ownBlock ≠ some k → w'.heap[k]? = w.heap[k]?) : VocIs w' v s T := by
  obtain ⟨w0, x, tp, bp, mp, d, l, uses, hR⟩ := h
  have hlt := hR.lt
  refine ⟨w0, x, tp, bp, mp, d, l, uses, hR.parts, hR.below.trans (hb.mono (by omega)), hlt, by rw [hb.block v hv]; exact hR.blk, ?_⟩
  rcases hR.once with h | ⟨h1, h2, h3⟩
  · exact .inl h
  · exact .inr ⟨h1, h2, own_same h3 fun k hk3 => hk k (row_ne_row h3 ho he k hk3)⟩
theorem VocIs.own_touch {w w' : World} {v : Nat} {s : SpecV} {T : List Ent} (h : VocIs w v s T) (t : Touch v w w') {B sz n : Nat} {e : TypeId} {u : Value} {xs : List Value} (ho : w.ownsRow B e sz u n xs) (he : e ≠ tVocab) : w'.ownsRow B e sz u n xs := by
  obtain ⟨w0, x, tp, bp, mp, d, l, uses, hR⟩ := h
  exact t.own ho (row_ne_blk ho hR.blk he)
theorem Touch.then_off {v B : Nat} {a b c : World} (t : Touch v a b) (hb : Below B b c) (hB : a.heap.size ≤ B) : Touch v a c :=
  ⟨hb.os.trans t.os, hb.tape.trans t.tape, hb.output.trans t.output, Nat.le_trans t.size hb.size, fun k hk hv => (hb.block k (Nat.lt_of_lt_of_le hk hB)).trans (t.block k hk hv)⟩
/-- A row of the bits that a function tells. -/
theorem fill_spec (w : World) (n : Nat) (is : Value) (p : Nat → Bool) (v : Nat) (s : SpecV) (T : List Ent) (hV : VocIs w v s T) (hn : n ≤ 100000)
    (his : ∀ i, i < n → ∀ w1, VocIs w1 v s T → Touch v w w1 → CallG ctx is [.int .i64 (i : Int)] w1 (fun e w2 => e = .returned (.bool (p i)) ∧ VocIs w2 v s T ∧ Touch v w1 w2)) :
    Calls Tryz.prog 97 #[.int .i64 (n : Int), is] w fun e w' => ∃ l : Sl, e = .returned l.v ∧ w'.ownsRow w.heap.size tU64 1 l.v l.n ((wordsOf n p).flatMap encU64) ∧ VocIs w' v s T ∧ Touch v w w' := by
  refine calls_ret (vc97_calls n is w (fun u w' => ∃ l : Sl, u = l.v ∧ w'.ownsRow w.heap.size tU64 1 l.v l.n ((wordsOf n p).flatMap encU64) ∧ VocIs w' v s T ∧ Touch v w w') ?_) (by rintro v w' ⟨l, rfl, h⟩; exact ⟨l, rfl, h⟩)
  have hvl := hV.lt
  refine Ar.nat (n + 64) (by omega) (by omega) (Ar.nat (n + 63) (by omega) (by omega) ⟨by decide, ?_⟩)
  rw [div64 (n + 63) (by omega)]
  obtain ⟨m, hm⟩ : ∃ m, m = (n + 63) / 64 := ⟨_, rfl⟩
  rw [← hm]
  refine ⟨_, _, _, _, run_makeWords w m (by omega), ?_⟩
  have ho : (w.alloc (.cells (Array.replicate m (.int .u64 0)) tU64)).ownsRow w.heap.size tU64 1 (.slice (some (nb w)) m m) m ((wordsOf n (fun j => p j && decide (j < 0))).flatMap encU64) := by
    have := own_made (w := w) (e := tU64) (n := m) (List.replicate m (Value.int .u64 0)) (by simp) (by omega) (Nat.le_refl w.heap.size)
    rw [wordsOf_none, ← hm]
    have e : (List.replicate m (0 : Int)).flatMap encU64 = List.replicate m (Value.int .u64 0) := by
      clear this hm
      induction m with
      | zero => rfl
      | succ m ih => rw [List.replicate_succ, List.flatMap_cons, ih, List.replicate_succ]; rfl
    rw [e]
    simpa using this
  have b1 := below_alloc w (.cells (Array.replicate m (.int .u64 0)) tU64)
  intro I hI
  have key := climb2 (α := World) n (fun i q => q.ownsRow w.heap.size tU64 1 (.slice (some (nb w)) m m) m ((wordsOf n (fun j => p j && decide (j < i))).flatMap encU64) ∧ VocIs q v s T ∧ Touch v w q) (fun i q => I [.int .i64 (i : Int)] q) _ ⟨ho, hV.on b1, Touch.of_below b1⟩ ?_ ?_
  · exact key
  · rintro i hi ih q ⟨hown, hVq, tq⟩
    refine hI _ _ (CondP.yes (by simp; omega) ?_)
    intro J hJ
    have hJ' : ∀ q', (q'.ownsRow w.heap.size tU64 1 (.slice (some (nb w)) m m) m ((wordsOf n (fun j => p j && decide (j < i + 1))).flatMap encU64) ∧ VocIs q' v s T ∧ Touch v w q') → J [] q' := fun q' h => hJ _ (Ar.nat (i + 1) rfl (by omega) (ih q' h))
    refine (his i hi q hVq tq).mono ?_
    rintro e w4 ⟨rfl, hV4, t4⟩
    have ho4 := hVq.own_touch t4 hown (by decide)
    have tw4 := tq.trans t4
    refine ⟨_, rfl, CondP.mk (fun hp => ?_) fun hp => hJ' w4 ⟨by rw [wordsOf_less n p hp]; exact ho4, hV4, tw4⟩⟩
    have hk : i / 64 < (wordsOf n (fun j => p j && decide (j < i))).length := by rw [wordsOf_length]; omega
    refine (rowSet_spec w4 w.heap.size ⟨some (nb w), m, m⟩ _ ho4 i (wordAt n (fun j => p j && decide (j < i)) (i / 64)) (by omega) hk (by simp [wordsOf]) (wordAt_lt _ _ _)).mono ?_
    rintro e w5 ⟨rfl, ho5, hs5, hz5, b5⟩
    refine ⟨rfl, hJ' w5 ⟨?_, hV4.off b5 hvl ho4 (by decide) hs5, tw4.then_off b5 (Nat.le_refl _)⟩⟩
    rw [wordsOf_more n p hi hp]
    exact ho5
  · rintro q ⟨hown, hVq, tq⟩
    rw [wordsOf_all] at hown
    exact hI _ _ (CondP.no (by simp) ⟨⟨some (nb w), m, m⟩, rfl, hown, hVq, tq⟩)

/-! ### All tokens' numbers -/
def gids (s : SpecV) (T : List Ent) : List Int := (List.range T.length).map (fun i : Nat => (i : Int)) ++ s.specials.map (·.1)
theorem gids_length (s : SpecV) (T : List Ent) : (gids s T).length = T.length + s.specials.length := by simp [gids]
theorem rising_of {l : List Int} (h : l.Pairwise (· < ·)) : Rising l := fun i j hi hj hij => List.pairwise_iff_getElem.1 h i j hi hj hij
theorem gids_rising {s : SpecV} {T : List Ent} (hasc : (s.specials.map (·.1)).Pairwise (· < ·)) (hids : ∀ y ∈ s.specials, (T.length : Int) ≤ y.1) : (gids s T).Pairwise (· < ·) := by
  rw [gids, List.pairwise_append]
  refine ⟨?_, hasc, ?_⟩
  · rw [List.pairwise_map]
    exact List.pairwise_lt_range.imp (by intro a b h; omega)
  · intro a ha b hb
    obtain ⟨i, hi, rfl⟩ := List.mem_map.1 ha
    obtain ⟨y, hy, rfl⟩ := List.mem_map.1 hb
    have := hids y hy
    have := List.mem_range.1 hi
    omega
theorem gids_has (s : SpecV) (T : List Ent) (t : Int) : t ∈ gids s T ↔ hasV2 s T t = true := by
  unfold gids hasV2
  rw [List.mem_append, decide_eq_true_eq, Or.comm]
  refine or_congr Iff.rfl ?_
  rw [List.mem_map]
  constructor
  · rintro ⟨i, hi, rfl⟩
    have := List.mem_range.1 hi
    exact ⟨by omega, by omega⟩
  · rintro ⟨h1, h2⟩
    exact ⟨t.toNat, List.mem_range.2 (by omega), by omega⟩
theorem markAll_spec (w : World) (p : Nat) (xs : List (Int × Bs)) (h : MkIs w p xs) (hl : xs.length ≤ 1000000) : Calls Tryz.prog 127 #[.pointer (some ⟨p, 0, none⟩)] w fun e w' => ∃ l : Sl, e = .returned l.v ∧ l.n = xs.length ∧ w'.ownsRow w.heap.size tSp 2 l.v l.n (xs.flatMap encSpecial) ∧ Below w.heap.size w w' := by
  refine calls_ret (vc127_calls (some ⟨p, 0, none⟩) w (fun u w' => ∃ l : Sl, u = l.v ∧ l.n = xs.length ∧ w'.ownsRow w.heap.size tSp 2 l.v l.n (xs.flatMap encSpecial) ∧ Below w.heap.size w w') ?_) (by rintro v w' ⟨l, rfl, h⟩; exact ⟨l, rfl, h⟩)
  obtain ⟨l, mi, mt, c, h1, h2, h3, h4, _, _⟩ := h
  obtain ⟨la, ln, lc⟩ := l
  change ln = xs.length at h3
  subst h3
  refine CondP.no rfl (NilC.mk _ rfl ⟨la, _, lc, by rw [ptr_add0 _ _ h1]; exact h2.c0, ?_⟩)
  refine (cloneS_spec w la lc xs h4 (by omega)).mono ?_
  rintro e w1 ⟨l, rfl, hn, ho, hb⟩
  exact ⟨_, _, _, rfl, l, rfl, hn, ho, hb⟩
theorem vocIds_spec (w : World) (v : Nat) (s : SpecV) (T : List Ent) (hV : VocIs w v s T) (hasc : (s.specials.map (·.1)).Pairwise (· < ·)) :
    Calls Tryz.prog 90 #[.pointer (some ⟨v, 0, none⟩)] w fun e w' => ∃ l : Sl, e = .returned l.v ∧ w'.ownsRow w.heap.size tInt 1 l.v l.n ((gids s T).flatMap encInt) ∧ Below w.heap.size w w' := by
  refine calls_ret (vc90_calls (some ⟨v, 0, none⟩) w (fun u w' => ∃ l : Sl, u = l.v ∧ w'.ownsRow w.heap.size tInt 1 l.v l.n ((gids s T).flatMap encInt) ∧ Below w.heap.size w w') ?_) (by rintro v w' ⟨l, rfl, h⟩; exact ⟨l, rfl, h⟩)
  obtain ⟨w0, x, tp, bp, mp, d, l, uses, hR⟩ := hV
  have hP := hR.now
  have hmost := hP.ok.most
  have hlen := hP.ok.len
  have hfew := (right_small hP.right).2.2.1
  have hmx : s.specials.length ≤ 32 := by
    have := (right_parts hP.right).2.2.2.1
    exact allOk_len this
  refine (vocSize_spec hR.vblk hP.tab).mono ?_
  rintro e w1 ⟨rfl, hw⟩
  subst hw
  refine ⟨_, rfl, ?_⟩
  intro I hI
  have key := climb2 (α := Sl × World) T.length (fun i y => y.2.ownsRow w1.heap.size tInt 1 y.1.v y.1.n (((List.range i).map (fun i : Nat => (i : Int))).flatMap encInt) ∧ y.1.n = i ∧ Below w1.heap.size w1 y.2) (fun i y => I [.int .i64 (i : Int), y.1.v] y.2) (sl0, w1) ⟨own_none _ _ _ _ encInt, rfl, Below.refl _ _⟩ ?_ ?_
  · exact key
  · rintro i hi ih ⟨f, q⟩ ⟨hown, hn, hB⟩
    change q.ownsRow w1.heap.size tInt 1 f.v f.n _ at hown
    change f.n = i at hn
    change Below w1.heap.size w1 q at hB
    refine hI _ f.a f.n f.c q (CondP.yes (by simp; omega) ?_)
    intro w3 hw3
    obtain ⟨f', w4, g1, g2, g3, g4, _⟩ := elInt.push hown (i : Int) hw3 rfl hB.size (by omega) (by decide)
    refine ⟨f'.a, f'.n, f'.c, w4, g2, Ar.nat (i + 1) rfl (by omega) (ih (f', w4) ⟨?_, by show f'.n = i + 1; omega, g4 _ hB⟩)⟩
    rw [List.range_succ, List.map_append]
    exact g3
  · rintro ⟨f, q⟩ ⟨hown, hn, hB⟩
    change q.ownsRow w1.heap.size tInt 1 f.v f.n _ at hown
    change f.n = T.length at hn
    change Below w1.heap.size w1 q at hB
    refine hI _ f.a f.n f.c q (CondP.no (by simp) ?_)
    refine (vocMarks_spec (hR.vblk.on hB)).mono ?_
    rintro e w5 ⟨rfl, hw⟩
    subst hw
    refine ⟨_, rfl, ?_⟩
    refine (markAll_spec w5 mp s.specials (hP.on hB).marks hfew).mono ?_
    rintro e w6 ⟨a, rfl, han, hao, b6⟩
    refine ⟨a.a, a.n, a.c, rfl, ?_⟩
    have hB6 := below_then hB b6
    intro I2 hI2
    have key2 := climb2 (α := Sl × World) s.specials.length (fun i y => y.2.ownsRow w1.heap.size tInt 1 y.1.v y.1.n (((List.range T.length).map (fun i : Nat => (i : Int)) ++ (s.specials.take i).map (·.1)).flatMap encInt) ∧ y.1.n = T.length + i ∧ y.2.ownsRow w1.heap.size tSp 2 a.v a.n (s.specials.flatMap encSpecial) ∧ Below w1.heap.size w1 y.2) (fun i y => I2 [.int .i64 (i : Int), y.1.v] y.2) (f, w6) ⟨by simpa using own_on hown b6, by show f.n = T.length + 0; omega, own_base hao hB.size, hB6⟩ ?_ ?_
    · exact key2
    · rintro i hi ih ⟨g, z⟩ ⟨hg, hgn, hza, hBz⟩
      change z.ownsRow w1.heap.size tInt 1 g.v g.n _ at hg
      change g.n = T.length + i at hgn
      change z.ownsRow w1.heap.size tSp 2 a.v a.n _ at hza
      change Below w1.heap.size w1 z at hBz
      obtain ⟨p, hp, _, hc⟩ := (LsAt.of_own elSpecial hza).r i _ (List.getElem?_eq_getElem hi)
      have c0 := hc 0 _ rfl
      rw [add_zero] at c0
      refine hI2 _ g.a g.n g.c z (CondP.yes (by simp; omega) (NilC.mk p hp ⟨by omega, by omega, _, _, ⟨c0, hc 1 _ rfl, trivial⟩, ?_⟩))
      intro w8 hw8
      refine storeP_new [.int .i64 0, .string ⟨#[]⟩] [.int .i64 s.specials[i].1, .string (str s.specials[i].2)] rfl (ones_special _ _) w8 hw8 ?_
      intro w9 h9 hz9 b9
      refine ⟨_, ptr_add0 _ _ h9 0, ?_⟩
      intro w10 hw10
      have hB9 := below_then hBz b9
      obtain ⟨g', w11, e1, e2, e3, e4, e5⟩ := elInt.push (own_on hg b9) s.specials[i].1 hw10 rfl hB9.size (by omega) (by decide)
      have hza9 := own_on hza b9
      refine ⟨g'.a, g'.n, g'.c, w11, e2, Ar.nat (i + 1) rfl (by omega) (ih (g', w11) ⟨?_, by show g'.n = T.length + (i + 1); omega, own_same hza9 fun k hk => e5 k (own_lt hza9 k hk).2 (row_ne_row hza9 (own_on hg b9) (by decide) k hk), e4 _ hB9⟩)⟩
      rw [List.take_add_one, List.getElem?_eq_getElem hi, List.map_append, ← List.append_assoc]
      exact e3
    · rintro ⟨g, z⟩ ⟨hg, hgn, hza, hBz⟩
      change z.ownsRow w1.heap.size tInt 1 g.v g.n _ at hg
      change g.n = T.length + s.specials.length at hgn
      change Below w1.heap.size w1 z at hBz
      rw [List.take_length] at hg
      have hgl : g.n = (gids s T).length := by rw [gids_length, hgn]
      have hgg : z.ownsRow w1.heap.size tInt 1 g.v g.n ((gids s T).flatMap encInt) := hg
      refine hI2 _ g.a g.n g.c z (CondP.no (by simp; omega) ?_)
      have hrow := (LsAt.of_own elInt hgg).r
      have hrise := rising_of (gids_rising hasc hP.ids)
      have hsort : Calls Tryz.prog 86 #[.slice g.a g.n g.c] z fun e w' => e = .returned (.tuple #[]) ∧ Below z.heap.size z w' := by
        rw [hgl]
        exact sort_spec z g.a g.c _ hrow hrise (by rw [gids_length]; omega) (by rw [gids_length]; omega)
      refine hsort.mono ?_
      rintro e w12 ⟨rfl, b12⟩
      exact ⟨rfl, g, rfl, own_on hgg b12, below_then hBz b12⟩
end Go.Proofs.YtboemnagahmlkaaGreat.Eng
