/- The reference's table grown by numbers, and what is made of bytes, walked by the engine. -/
import Derived.Test.YtpklkijdlnioaaaGreatZhRa
set_option linter.unusedVariables false
set_option linter.unusedSimpArgs false
set_option maxRecDepth 100000
namespace Go.Proofs.YtpklkijdlnioaaaGreat.Eng
open Go Go.RowKit
theorem Ar.nat {z : Int} {F : Int → Prop} (n : Nat) (hz : z = (n : Int)) (hn : n ≤ 9223372036854775807) (h : F (n : Int)) : Ar .i64 z F := by
  subst hz
  exact Ar.ok64 (by omega) (by omega) h
theorem Ar.any {k : IntKind} {z : Int} {F : Int → Prop} (h : ∀ n, F n) : Ar k z F := h _
def enc16 (n : Int) : List Value := [.int .u16 n]
theorem tokNew_snoc {m : Int × Int} {y : Ent} {es : List Ent} (hy : tokAdd es m = .ok y) : ∀ (ms : List (Int × Int)) (es0 : List Ent) (i : Nat), tokNew es0 i ms = .ok es → tokNew es0 i (ms ++ [m]) = .ok (es ++ [y])
  | [], es0, i, h => by
    cases h
    rw [List.nil_append, tokNew, hy]
    rfl
  | q :: ms, es0, i, h => by
    rw [tokNew] at h
    rw [List.cons_append, tokNew]
    cases hq : tokAdd es0 q with
    | error n => rw [hq] at h; cases h
    | ok x => rw [hq] at h; exact tokNew_snoc hy ms _ _ h
theorem mergesOf_snoc {es : List Ent} (h : TOk es) (y : Ent) : mergesOf (es ++ [y]) = mergesOf es ++ [y.2] := by
  simp [mergesOf, List.drop_append_of_le_length h.len]
theorem cell_rw {α : Type} {enc : α → List Value} {w : World} {a : Option Addr} {xs : List α} (h : Rw enc 1 w a xs) {i : Nat} (hi : i < xs.length) {v : Value} (hv : (enc xs[i])[0]? = some v) : ∃ q, a = some q ∧ w.cell? (q.add (i * 1)) = some v := by
  obtain ⟨q, hq, _, hc⟩ := h i _ (List.getElem?_eq_getElem hi)
  have := hc 0 _ hv
  rw [add_zero] at this
  exact ⟨q, hq, this⟩
theorem refGrow_spec (w : World) (A : Option Addr) (C : Nat) (l : List Int) (hr : Rw enc16 1 w A l) : Calls Tryz.prog 84 #[.slice A l.length C] w fun e w' => ∃ (x : RtW) (es : List Ent), e = .returned x.v ∧ RtAt w' x es ∧ TOk es ∧ tokNew begins 0 (mergesOf es) = .ok es ∧ Below w.heap.size w w' := by
  refine calls_ret (vc84_calls A l.length C w (fun u w' => ∃ (x : RtW) (es : List Ent), u = x.v ∧ RtAt w' x es ∧ TOk es ∧ tokNew begins 0 (mergesOf es) = .ok es ∧ Below w.heap.size w w') ?_) (by rintro v w' ⟨x, es, rfl, h⟩; exact ⟨x, es, rfl, h⟩)
  intro w1 hw1
  have hb1 : Below w.heap.size w w1 := by subst hw1; exact below_alloc _ _
  have z1 : w1.heap[w.heap.size]? = some (.cells #[(⟨none, 0, 0⟩ : Sl).v, (⟨none, 0, 0⟩ : Sl).v] tRt (0, 0)) := by subst hw1; exact alloc_new _ _
  refine (refBegin_spec w1).mono ?_
  rintro e w2 ⟨x0, rfl, h2, b2, _⟩
  have z2 := held_on b2 z1
  have hlt2 : w.heap.size < w2.heap.size := (Array.getElem?_eq_some_iff.1 z2).1
  refine ⟨_, _, _, _, _, _, rfl, ?_⟩
  intro w3 hw3
  refine storeP_new [.slice none 0 0, .slice none 0 0] [x0.b.v, x0.m.v] rfl (ones_slices _ _) w3 hw3 ?_
  intro w4 h4 hz4 b4
  have hb14 : Below w.heap.size w w4 := below_then hb1 (below_then b2 b4)
  intro I hI
  let Inv (i : Nat) (q : World) : Prop := ∃ (x : RtW) (es : List Ent), q.heap[w2.heap.size]? = some (.cells #[x.b.v, x.m.v] tRt (0, 0)) ∧ q.heap[w.heap.size]? = some (.cells #[(⟨none, 0, 0⟩ : Sl).v, (⟨none, 0, 0⟩ : Sl).v] tRt (0, 0)) ∧ RtAt q x es ∧ TOk es ∧ tokNew begins 0 (mergesOf es) = .ok es ∧ Below w.heap.size w q
  have fin : ∀ (i : Nat) (q : World), Inv i q → ∃ g0A : Option Addr, ∃ g0N : Nat, ∃ g0C : Nat, ∃ g1A : Option Addr, ∃ g1N : Nat, ∃ g1C : Nat, (q.cell? (nb w2) = some (Value.slice g0A g0N g0C) ∧ q.cell? ((nb w2).add 1) = some (Value.slice g1A g1N g1C) ∧ True) ∧
      StoreP q (nb w) (fun w5 => ∃ res0A : Option Addr, ∃ res0N : Nat, ∃ res0C : Nat, ∃ res1A : Option Addr, ∃ res1N : Nat, ∃ res1C : Nat, (w5.cell? (nb w) = some (Value.slice res0A res0N res0C) ∧ w5.cell? ((nb w).add 1) = some (Value.slice res1A res1N res1C) ∧ True) ∧
        (∃ (x : RtW) (es : List Ent), Value.agg #[Value.slice res0A res0N res0C, Value.slice res1A res1N res1C] = x.v ∧ RtAt w5 x es ∧ TOk es ∧ tokNew begins 0 (mergesOf es) = .ok es ∧ Below w.heap.size w w5)) [Value.slice g0A g0N g0C, Value.slice g1A g1N g1C] 0 := by
    rintro i q ⟨x, es, hq2, hq0, hx, hok, hnew, hB⟩
    refine ⟨_, _, _, _, _, _, agg2 hq2, ?_⟩
    refine storeP_cells hq0 [x.b.v, x.m.v] rfl (ones_slices _ _) ?_
    intro w5 h5 hs5 hz5 hB5
    exact ⟨_, _, _, _, _, _, agg2 h5, x, es, rfl, hx.past hq0 (fun j _ hj => hs5 j hj) (Nat.le_of_eq hz5.symm), hok, hnew, hB5 _ _ (Nat.le_refl _) hB⟩
  have key := climb2 (α := World) 30 Inv (fun i q => I [.int .i64 ((2 * i : Nat) : Int)] q) w4 ⟨x0, begins, h4, held_on b4 z2, h2.on b4, begins_ok, rfl, hb14⟩ ?_ ?_
  · exact key
  · rintro i hi ih w5 hinv
    refine hI _ _ (Ar.nat (2 * i + 1) (by omega) (by omega) (CondP.mk (fun hl => ?_) fun hl => fin i w5 hinv))
    have hl : 2 * i + 1 < l.length := by have := of_decide_eq_true hl; omega
    refine CondP.yes (by simp; omega) ?_
    intro J hJ w7 hw7
    obtain ⟨x, es, h5, z5, hx5, hok, hnew, hB5⟩ := hinv
    have hJ' : ∀ q, Inv (i + 1) q → J [] q := fun q hq => hJ q (Ar.nat (2 * (i + 1)) (by omega) (by omega) (ih q hq))
    have b7 : Below w5.heap.size w5 w7 := by subst hw7; exact drew_on w5
    have h7 := held_on b7 h5
    have z7 := held_on b7 z5
    have hx7 := hx5.on b7
    have hB7 : Below w.heap.size w w7 := hB5.trans (b7.mono hB5.size)
    have hlt7 : w2.heap.size < w7.heap.size := (Array.getElem?_eq_some_iff.1 h7).1
    obtain ⟨q, hq, c0⟩ := cell_rw (hr.on hB7) (i := 2 * i) (by omega) rfl
    obtain ⟨q', hq', c1⟩ := cell_rw (hr.on hB7) (i := 2 * i + 1) (by omega) rfl
    have hn1 := hx7.n1
    have hn2 := hx7.n2
    have hmost := hok.most
    have hlen := hok.len
    have hml := merges_length hok
    refine NilC.mk q hq ⟨by omega, by omega, _, c0, _, _, _, ptr_add0 _ _ h7 0, _, _, _, ptr_add0 _ _ h7 1, Ar.nat (x.b.n + x.m.n) (by omega) (by omega) ⟨by omega, Ar.nat (2 * i + 1) (by omega) (by omega) (NilC.mk q' hq' ⟨by omega, by omega, _, c1, _, _, _, ptr_add0 _ _ h7 0, _, _, _, ptr_add0 _ _ h7 1, Ar.nat (x.b.n + x.m.n) (by omega) (by omega) ⟨by omega, ?_⟩⟩)⟩⟩
    intro J22 hJ22
    have all : ∀ a : Int, J22 [.int .i64 a] w7 := by
      intro a
      refine hJ22 a w7 ?_
      intro J23 hJ23
      have all2 : ∀ b : Int, J23 [.int .i64 b] w7 := by
        intro b
        refine hJ23 b w7 ⟨_, _, _, _, _, _, agg2 h7, ?_⟩
        refine (refAdd_spec w7 x es hx7 hok (a, b)).mono ?_
        rintro e w10 ⟨u, rfl, x', n, rfl, b10, hp⟩
        refine ⟨_, _, _, _, _, _, n, rfl, ?_⟩
        intro w11 hw11
        refine storeP_new [.slice none 0 0, .slice none 0 0] [x'.b.v, x'.m.v] rfl (ones_slices _ _) w11 hw11 ?_
        intro w12 h12 hz12 b12
        have b712 := below_then b10 b12
        have h2' := held_on b712 h7
        have z2' := held_on b712 z7
        have hB12 : Below w.heap.size w w12 := hB7.trans (b712.mono hB7.size)
        cases hx : tokAdd es (a, b) with
        | error n0 =>
          rw [hx] at hp
          obtain ⟨rfl, rfl⟩ := hp
          refine CondP.no (by simpa using tokAdd_err hx) (hJ' w12 ⟨x', es, h2', z2', hx7.on b712, hok, hnew, hB12⟩)
        | ok y =>
          rw [hx] at hp
          obtain ⟨rfl, hx', _⟩ := hp
          refine CondP.yes rfl ⟨_, _, _, _, _, _, agg2 h12, ?_⟩
          refine storeP_cells h2' [x'.b.v, x'.m.v] rfl (ones_slices _ _) ?_
          intro w13 h13 hs13 hz13 hB13
          have hadd := tokAdd_ok hok hx
          refine hJ' w13 ⟨x', es ++ [y], h13, ?_, (hx'.on b12).past h2' (fun j _ hj => hs13 j hj) (Nat.le_of_eq hz13.symm), hadd.1, ?_, hB13 _ _ (by omega) hB12⟩
          · rw [hs13 _ (by omega)]
            exact z2'
          · rw [mergesOf_snoc hok, hadd.2.1]
            exact tokNew_snoc hx _ _ _ hnew
      exact ⟨_, _, _, ptr_add0 _ _ h7 0, CondP.mk (fun _ => Ar.any fun n => ⟨_, _, _, ptr_add0 _ _ h7 0, Ar.any fun n => all2 _⟩) fun _ => all2 _⟩
    exact ⟨_, _, _, ptr_add0 _ _ h7 0, CondP.mk (fun _ => Ar.any fun n => ⟨_, _, _, ptr_add0 _ _ h7 0, Ar.any fun n => all _⟩) fun _ => all _⟩
  · rintro w5 hinv
    refine hI _ _ (Ar.nat (2 * 30 + 1) (by omega) (by omega) (CondP.mk (fun hl => ?_) fun hl => fin 30 w5 hinv))
    exact CondP.no (by simp) (fin 30 w5 hinv)

/-! ### Lists in memory -/
structure LsAt {α : Type} (enc : α → List Value) (sz : Nat) (w : World) (l : Sl) (xs : List α) : Prop where
  n : l.n = xs.length
  r : Rw enc sz w l.a xs
  k : SlOk l
theorem LsAt.on {α : Type} {enc : α → List Value} {sz : Nat} {w w' : World} {l : Sl} {xs : List α} (h : LsAt enc sz w l xs) (hb : Below w.heap.size w w') : LsAt enc sz w' l xs := ⟨h.n, h.r.on hb, h.k⟩
/-- What is to be known of a slice's type. -/
structure ElT {α : Type} (enc : α → List Value) (sz : Nat) (t e : TypeId) (bytes : Nat) : Prop where
  hsz : ∀ x, (enc x).length = sz
  h0 : 0 < sz
  h1 : ∀ x, ∀ u ∈ enc x, u.oneCell' = true
  ht : Tryz.prog.underlying t = some (.slice e)
  hz : ∃ z : Value, (Tryz.prog.info? e).map (fun i => (i.zero, i.size, i.bytes)) = some (some z, sz, bytes) ∧ z.cells.size = sz
theorem elInt : ElT encInt 1 tInts tInt 8 := ⟨fun _ => rfl, by decide, fun x u hu => by rw [List.mem_singleton.1 hu]; rfl, undInts, _, infoInt, rfl⟩
theorem elStr : ElT encStr 1 tStrs tStr 16 := ⟨fun _ => rfl, by decide, fun x u hu => by rw [List.mem_singleton.1 hu]; rfl, undStrs, _, infoStr, rfl⟩
theorem LsAt.of_own {α : Type} {enc : α → List Value} {sz bytes : Nat} {t e : TypeId} (E : ElT enc sz t e bytes) {w : World} {B : Nat} {l : Sl} {xs : List α} (h : w.ownsRow B e sz l.v l.n (xs.flatMap enc)) : LsAt enc sz w l xs :=
  have := Rw.of_own h E.hsz E.h0
  ⟨this.2, this.1, own_slOk h⟩
/-- One more behind a row that the call owns. -/
theorem ElT.push {α : Type} {enc : α → List Value} {sz bytes : Nat} {t e : TypeId} (E : ElT enc sz t e bytes) {B : Nat} {w2 w3 : World} {s : Sl} {xs : List α} (hown : w2.ownsRow B e sz s.v s.n (xs.flatMap enc)) (x : α) {T : TypeId} {c : Array Value} (hw : w3 = w2.alloc (.cells c T)) (hc : c = (enc x).toArray) (hB : B ≤ w2.heap.size) (hn : s.n ≤ 1000000000) (hb : bytes ≤ 1000) :
    ∃ (l : Sl) (w4 : World), l.n = s.n + 1 ∧ (Builtin.append_ #[t, t] t #[.slice s.a s.n s.c, .slice (some (nb w2)) 1 1]).run Tryz.prog w3 = .ok (.slice l.a l.n l.c) w4 ∧ w4.ownsRow B e sz l.v l.n ((xs ++ [x]).flatMap enc) ∧ (∀ w0, Below B w0 w2 → Below B w0 w4) ∧ (∀ k, k < w2.heap.size → s.v.ownBlock ≠ some k → w4.heap[k]? = w2.heap[k]?) := by
  obtain ⟨z, hi, hzs⟩ := E.hz
  subst hw hc
  have hba := below_alloc w2 (.cells (enc x).toArray T)
  have hmul : (s.n + 1) * bytes ≤ (1000000000 + 1) * 1000 := Nat.mul_le_mul (by omega) hb
  obtain ⟨A, C, w4, h1, h2, h3, h4⟩ := push_any (enc := enc) (sz := sz) E.hsz E.h0 E.h1 t e E.ht hi hzs (own_on hown hba) x (alloc_new w2 _) (Nat.le_trans hB hba.size) (by omega) (by omega)
  refine ⟨⟨A, s.n + 1, C⟩, w4, rfl, h1, h2, fun w0 h0 => h3 w0 (h0.trans (hba.mono hB)), fun k hk hne => ?_⟩
  rw [h4 k (Nat.lt_of_lt_of_le hk hba.size) hne, hba.block k hk]
/-- A list behind a row that the call owns. -/
theorem ElT.spread {α : Type} {enc : α → List Value} {sz bytes : Nat} {t e : TypeId} (E : ElT enc sz t e bytes) {B : Nat} {w2 : World} {s l : Sl} {xs ys : List α} (hown : w2.ownsRow B e sz s.v s.n (xs.flatMap enc)) (hl : LsAt enc sz w2 l ys) (hB : B ≤ w2.heap.size) (hn : s.n ≤ 1000000000) (hm : l.n ≤ 1000000000) (hb : bytes ≤ 1000) :
    ∃ (r : Sl) (w4 : World), r.n = s.n + l.n ∧ (Builtin.append_ #[t, t] t #[.slice s.a s.n s.c, .slice l.a l.n l.c]).run Tryz.prog w2 = .ok (.slice r.a r.n r.c) w4 ∧ w4.ownsRow B e sz r.v r.n ((xs ++ ys).flatMap enc) ∧ (∀ w0, Below B w0 w2 → Below B w0 w4) ∧ (∀ k, k < w2.heap.size → s.v.ownBlock ≠ some k → w4.heap[k]? = w2.heap[k]?) ∧ ∀ k, r.v.ownBlock = some k → s.v.ownBlock = some k ∨ w2.heap.size ≤ k := by
  obtain ⟨z, hi, hzs⟩ := E.hz
  have hmul : (s.n + l.n) * bytes ≤ (1000000000 + 1000000000) * 1000 := Nat.mul_le_mul (by omega) hb
  have hr := hl.r
  obtain ⟨A, C, w4, h1, h2, h3, h4, h5⟩ := run_spread2 (P := Tryz.prog) t e E.ht hi hzs E.h0 hown l hl.k (ys.flatMap enc) (by rw [flatMap_length E.hsz, hl.n]) (by
    intro a ha j u hj
    rw [ha] at hr
    exact hr.flat E.hsz E.h0 j u hj) (by
    intro u hu
    obtain ⟨x, _, hx⟩ := List.mem_flatMap.1 hu
    exact E.h1 x u hx) (by omega) (by omega) hB
  exact ⟨⟨A, s.n + l.n, C⟩, w4, rfl, h1, by rw [List.flatMap_append]; exact h2, h3, h4, h5⟩
theorem own_none (w : World) (B : Nat) (e : TypeId) (sz : Nat) {α : Type} (enc : α → List Value) : w.ownsRow B e sz sl0.v sl0.n (([] : List α).flatMap enc) := own_nil w B e sz
/-- From place to place, further on by any steps. -/
theorem climbS {α : Type} (n : Nat) (Inv G : Nat → α → Prop) (step : ∀ i, i ≤ n → (∀ j, i < j → j ≤ n → ∀ x, Inv j x → G j x) → ∀ x, Inv i x → G i x) : ∀ i, i ≤ n → ∀ x, Inv i x → G i x := by
  have key : ∀ d i, n - i ≤ d → i ≤ n → ∀ x, Inv i x → G i x := by
    intro d
    induction d with
    | zero =>
      intro i hd hi x hx
      exact step i hi (fun j h1 h2 => by omega) x hx
    | succ d ih =>
      intro i hd hi x hx
      exact step i hi (fun j h1 h2 y hy => ih j (by omega) h2 y hy) x hx
  exact fun i hi x hx => key (n - i) i (Nat.le_refl _) hi x hx

/-! ### What is made of bytes, rank by rank -/
theorem pass_len (a b c : Int) (l : List Int) : (pass a b c l).length ≤ l.length := by
  induction l using pass.induct a b with
  | case1 => simp [pass]
  | case2 x => simp [pass]
  | case3 x y r hx ih =>
    obtain ⟨rfl, rfl⟩ := hx
    rw [pass_yes]
    simp only [List.length_cons]
    omega
  | case4 x y r hx ih =>
    rw [pass_no r hx]
    simp only [List.length_cons] at ih ⊢
    omega
theorem after_len (ms : List (Int × Int)) (s : List Int) : ∀ k, k ≤ ms.length → (after ms k s).length ≤ s.length
  | 0, _ => by rw [after_zero]; exact Nat.le_refl _
  | k + 1, h => by
    rw [after_succ ms (List.getElem?_eq_getElem (show k < ms.length by omega))]
    exact Nat.le_trans (pass_len _ _ _ _) (after_len ms s k (by omega))
theorem wrap_byte (b : UInt8) : IntKind.wrap .i64 ((b.toNat : Nat) : Int) = ((b.toNat : Nat) : Int) := by
  have := b.toNat_lt
  exact wrap_in (by show (-9223372036854775808 : Int) ≤ _; omega) (by show _ ≤ (9223372036854775807 : Int); omega)
theorem ints_take (s : Bs) (i : Nat) (hi : i < s.length) : ints (s.take (i + 1)) = ints (s.take i) ++ [((s[i].toNat : Nat) : Int)] := take_snoc (fun z : UInt8 => ((z.toNat : Nat) : Int)) s i hi
theorem refEncode_spec (w : World) (x : RtW) (es : List Ent) (h : RtAt w x es) (hok : TOk es) (s : Bs) (hs : s.length ≤ 1000000) (N : Nat) (hN : N = es.length) : Calls Tryz.prog 91 #[x.v, .string (str s), .int .i64 (N : Int)] w fun e w' => ∃ l : Sl, e = .returned l.v ∧ LsAt encInt 1 w' l (after (mergesOf es) (mergesOf es).length (ints s)) ∧ Below w.heap.size w w' := by
  subst hN
  refine calls_ret (vc91_calls x.b.a x.b.n x.b.c x.m.a x.m.n x.m.c (str s) (es.length : Int) w (fun u w' => ∃ l : Sl, u = l.v ∧ LsAt encInt 1 w' l (after (mergesOf es) (mergesOf es).length (ints s)) ∧ Below w.heap.size w w') ?_) (by rintro v w' ⟨l, rfl, h⟩; exact ⟨l, rfl, h⟩)
  intro w1 hw1
  have hb1 : Below w.heap.size w w1 := by subst hw1; exact below_alloc _ _
  have l1 : w1.heap[w.heap.size]? = some (.cells #[x.b.v, x.m.v] tRt (0, 0)) := by subst hw1; exact alloc_new _ _
  have hmost := hok.most
  have hml := merges_length hok
  have hn2 := h.n2
  intro I1 hI1
  have key := climb2 (α := Sl × World) s.length (fun i y => y.2.ownsRow w1.heap.size tInt 1 y.1.v y.1.n ((ints (s.take i)).flatMap encInt) ∧ y.1.n = i ∧ Below w1.heap.size w1 y.2) (fun i y => I1 [.int .i64 (i : Int), y.1.v] y.2) (sl0, w1) ⟨own_none _ _ _ _ encInt, rfl, Below.refl _ _⟩ ?_ ?_
  · exact key
  · rintro i hi ih ⟨l, q⟩ ⟨hown, hln, hB⟩
    change q.ownsRow w1.heap.size tInt 1 l.v l.n _ at hown
    change l.n = i at hln
    change Below w1.heap.size w1 q at hB
    refine hI1 _ _ _ _ _ (CondP.yes (by rw [str_size]; simp; omega) ⟨by omega, by rw [str_size]; omega, ?_⟩)
    intro w3 hw3
    rw [btAt_str s i hi, wrap_byte] at hw3
    obtain ⟨l', w4, hl', hrun, hown', hB', _⟩ := elInt.push hown ((s[i].toNat : Nat) : Int) hw3 rfl hB.size (by omega) (by decide)
    refine ⟨l'.a, l'.n, l'.c, w4, hrun, Ar.nat (i + 1) rfl (by omega) (ih (l', w4) ⟨?_, by show l'.n = i + 1; omega, hB' _ hB⟩)⟩
    rw [ints_take s i hi]
    exact hown'
  · rintro ⟨l, q⟩ ⟨hown, hln, hB⟩
    change q.ownsRow w1.heap.size tInt 1 l.v l.n _ at hown
    change l.n = s.length at hln
    change Below w1.heap.size w1 q at hB
    refine hI1 _ _ _ _ _ (CondP.no (by rw [str_size]; simp) ?_)
    intro I5 hI5
    have hls : LsAt encInt 1 q l (after (mergesOf es) 0 (ints s)) := by
      rw [after_zero]
      have := LsAt.of_own elInt hown
      rwa [List.take_length] at this
    have key5 := climb2 (α := Sl × World) (mergesOf es).length (fun k y => LsAt encInt 1 y.2 y.1 (after (mergesOf es) k (ints s)) ∧ Below w1.heap.size w1 y.2) (fun k y => I5 [.int .i64 (k : Int), y.1.v] y.2) (l, q) ⟨hls, hB⟩ ?_ ?_
    · exact key5
    · rintro k hk ih5 ⟨l, q⟩ ⟨hl, hB⟩
      change LsAt encInt 1 q l _ at hl
      change Below w1.heap.size w1 q at hB
      have l1q := held_on hB l1
      have hq := (h.on hb1).on hB
      refine hI5 _ l.a l.n l.c q ⟨_, _, _, ptr_add0 _ _ l1q 1, CondP.yes (by simp; omega) (Ar.nat (256 + k) (by omega) (by omega) (CondP.yes (by simp; omega) ?_))⟩
      intro I13 hI13
      obtain ⟨m, hm⟩ : ∃ m, (mergesOf es)[k]? = some m := ⟨_, List.getElem?_eq_getElem hk⟩
      have hlen := after_len (mergesOf es) (ints s) k (by omega)
      have hints : (ints s).length = s.length := by simp [ints]
      rw [after_succ (mergesOf es) hm] at ih5
      generalize after (mergesOf es) k (ints s) = L at hl hlen ih5
      have hln := hl.n
      let Inv (i : Nat) (y : Sl × World) : Prop := ∃ o : List Int, y.2.ownsRow q.heap.size tInt 1 y.1.v y.1.n (o.flatMap encInt) ∧ pass m.1 m.2 (256 + (k : Int)) L = o ++ pass m.1 m.2 (256 + (k : Int)) (L.drop i) ∧ y.1.n ≤ i ∧ Below q.heap.size q y.2
      have key13 := climbS (α := Sl × World) L.length Inv (fun i y => I13 [.int .i64 (i : Int), y.1.v] y.2) ?_ 0 (Nat.zero_le _) (sl0, q) ⟨[], own_none _ _ _ _ encInt, by simp, Nat.le_refl _, Below.refl _ _⟩
      · exact key13
      rintro i hi ih ⟨out, v⟩ ⟨o, hown, hpass, hon, hBv⟩
      change v.ownsRow q.heap.size tInt 1 out.v out.n _ at hown
      change out.n ≤ i at hon
      change Below q.heap.size q v at hBv
      have hBw : Below w1.heap.size w1 v := below_then hB hBv
      by_cases hiL : i < L.length
      · refine hI13 _ out.a out.n out.c v (CondP.yes (by simp; omega) ?_)
        intro J hJ v8 hv8
        have b8 : Below v.heap.size v v8 := by subst hv8; exact drew_on v
        have hown8 : v8.ownsRow q.heap.size tInt 1 out.v out.n (o.flatMap encInt) := by subst hv8; exact own_drew hown
        have hBv8 : Below q.heap.size q v8 := hBv.trans (b8.mono hBv.size)
        have l18 := held_on b8 (held_on hBv l1q)
        have hq8 := (hq.on hBv).on b8
        obtain ⟨p, hp, c0⟩ := cell_rw ((hl.r.on hBv).on b8) hiL rfl
        obtain ⟨pm, hpm, _, hcm⟩ := hq8.r2 k m hm
        have cm0 := hcm 0 _ rfl
        have cm1 := hcm 1 _ rfl
        have push : ∀ (z : Int) (v9 : World), v9 = v8.alloc (.cells #[Value.int .i64 z] tInt) → ∀ (i' : Nat) (jj : Int), jj = (i' : Int) → i ≤ i' → i' < L.length → pass m.1 m.2 (256 + (k : Int)) (L.drop i) = z :: pass m.1 m.2 (256 + (k : Int)) (L.drop (i' + 1)) →
            ∃ A : Option Addr, ∃ N : Nat, ∃ C : Nat, ∃ w10 : World, (Builtin.append_ #[tInts, tInts] tInts #[Value.slice out.a out.n out.c, Value.slice (some (nb v8)) 1 1]).run Tryz.prog v9 = .ok (Value.slice A N C) w10 ∧ J [.int .i64 jj, .slice A N C] w10 := by
          intro z v9 hv9 i' jj hjj hii hi' hz
          obtain ⟨l', w4, hl', hrun, hown', hB', _⟩ := elInt.push hown8 z hv9 rfl hBv8.size (by omega) (by decide)
          refine ⟨l'.a, l'.n, l'.c, w4, hrun, hJ _ _ _ _ _ ?_⟩
          subst hjj
          refine Ar.nat (i' + 1) rfl (by omega) (ih (i' + 1) (by omega) (by omega) (l', w4) ⟨o ++ [z], hown', ?_, by show l'.n ≤ i' + 1; omega, hB' _ hBv8⟩)
          rw [hpass, hz]
          simp
        have keep : ¬ (L[i] = m.1 ∧ L[i + 1]? = some m.2) → pass m.1 m.2 (256 + (k : Int)) (L.drop i) = L[i] :: pass m.1 m.2 (256 + (k : Int)) (L.drop (i + 1)) := by
          intro hno
          rw [List.drop_eq_getElem_cons hiL]
          by_cases h1 : i + 1 < L.length
          · rw [List.drop_eq_getElem_cons h1]
            exact pass_no _ fun e => hno ⟨e.1, by rw [List.getElem?_eq_getElem h1, e.2]⟩
          · rw [List.drop_eq_nil_of_le (by omega)]
            rfl
        refine Ar.nat (i + 1) rfl (by omega) (CondP.mk (fun h1 => ?_) fun h1 => ?_)
        · have h1 : i + 1 < L.length := by have := of_decide_eq_true h1; omega
          obtain ⟨p', hp', c1⟩ := cell_rw ((hl.r.on hBv).on b8) h1 rfl
          refine NilC.mk p hp ⟨by omega, by omega, _, c0, _, _, _, ptr_add0 _ _ l18 1, NilC.mk pm hpm ⟨by omega, by omega, _, cm0, CondP.mk (fun h2 => ?_) fun h2 => ?_⟩⟩
          · have h2 : L[i] = m.1 := by simpa using h2
            refine Ar.nat (i + 1) rfl (by omega) (NilC.mk p' hp' ⟨by omega, by omega, _, c1, _, _, _, ptr_add0 _ _ l18 1, NilC.mk pm hpm ⟨by omega, by omega, _, cm1, CondP.mk (fun h3 => ?_) fun h3 => ?_⟩⟩)
            · have h3 : L[i + 1] = m.2 := by simpa using h3
              refine Ar.nat (256 + k) (by omega) (by omega) ?_
              intro v9 hv9
              obtain ⟨A, N, C, w10, hrun, hj⟩ := push ((256 + k : Nat) : Int) v9 hv9 (i + 1) ((i : Int) + 1) (by omega) (by omega) h1 (by
                rw [List.drop_eq_getElem_cons hiL, List.drop_eq_getElem_cons h1, h2, h3, pass_yes]
                rfl)
              exact ⟨A, N, C, w10, hrun, Ar.ok64 (by omega) (by omega) hj⟩
            · have h3 : ¬ L[i + 1] = m.2 := by simpa using h3
              refine NilC.mk p hp ⟨by omega, by omega, _, c0, ?_⟩
              intro v9 hv9
              exact push L[i] v9 hv9 i _ rfl (Nat.le_refl _) hiL (keep fun e => h3 (by have := e.2; rw [List.getElem?_eq_getElem h1] at this; exact Option.some.inj this))
          · have h2 : ¬ L[i] = m.1 := by simpa using h2
            refine NilC.mk p hp ⟨by omega, by omega, _, c0, ?_⟩
            intro v9 hv9
            exact push L[i] v9 hv9 i _ rfl (Nat.le_refl _) hiL (keep fun e => h2 e.1)
        · have h1 : ¬ i + 1 < L.length := by have := of_decide_eq_false h1; omega
          refine NilC.mk p hp ⟨by omega, by omega, _, c0, ?_⟩
          intro v9 hv9
          exact push L[i] v9 hv9 i _ rfl (Nat.le_refl _) hiL (keep fun e => h1 (List.getElem?_eq_some_iff.1 e.2).1)
      · have hiL : i = L.length := by omega
        refine hI13 _ out.a out.n out.c v (CondP.no (by simp; omega) (Ar.nat (k + 1) rfl (by omega) (ih5 (out, v) ⟨?_, hBw⟩)))
        rw [hiL, List.drop_length] at hpass
        have : pass m.1 m.2 (256 + (k : Int)) L = o := by rw [hpass]; simp [pass]
        rw [this]
        exact LsAt.of_own elInt hown
    · rintro ⟨l, q⟩ ⟨hl, hB⟩
      change LsAt encInt 1 q l _ at hl
      change Below w1.heap.size w1 q at hB
      refine hI5 _ _ _ _ _ ⟨_, _, _, ptr_add0 _ _ (held_on hB l1) 1, CondP.no (by simp; omega) ⟨l, rfl, hl, below_then hb1 hB⟩⟩
theorem refAll_spec (w : World) (x : RtW) (es : List Ent) (h : RtAt w x es) (hok : TOk es) (s : Bs) (hs : s.length ≤ 1000000) : Calls Tryz.prog 59 #[x.v, .string (str s)] w fun e w' => ∃ l : Sl, e = .returned l.v ∧ LsAt encInt 1 w' l (after (mergesOf es) (mergesOf es).length (ints s)) ∧ Below w.heap.size w w' := by
  refine calls_ret (vc59_calls x.b.a x.b.n x.b.c x.m.a x.m.n x.m.c (str s) w (fun u w' => ∃ l : Sl, u = l.v ∧ LsAt encInt 1 w' l (after (mergesOf es) (mergesOf es).length (ints s)) ∧ Below w.heap.size w w') ?_) (by rintro v w' ⟨l, rfl, h⟩; exact ⟨l, rfl, h⟩)
  intro w1 hw1
  have hb1 : Below w.heap.size w w1 := by subst hw1; exact below_alloc _ _
  have l1 : w1.heap[w.heap.size]? = some (.cells #[x.b.v, x.m.v] tRt (0, 0)) := by subst hw1; exact alloc_new _ _
  refine ⟨_, _, _, _, _, _, agg2 l1, _, _, _, ptr_add0 _ _ l1 0, ?_⟩
  refine (refEncode_spec w1 x es (h.on hb1) hok s hs x.b.n h.n1).mono ?_
  rintro e w2 ⟨l, rfl, hl, hb2⟩
  exact ⟨_, _, _, rfl, l, rfl, hl, below_then hb1 hb2⟩
end Go.Proofs.YtpklkijdlnioaaaGreat.Eng
