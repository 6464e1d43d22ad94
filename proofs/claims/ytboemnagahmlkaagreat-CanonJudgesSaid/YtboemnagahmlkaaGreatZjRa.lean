/- The reference's tables, walked by the engine. -/
import Derived.Test.YtboemnagahmlkaaGreatZjSp
set_option linter.unusedVariables false
set_option linter.unusedSimpArgs false
set_option maxRecDepth 100000
namespace Go.Proofs.YtboemnagahmlkaaGreat.Eng
open Go Go.RowKit
structure RtW where
 b : Sl
 m : Sl
abbrev RtW.v (x : RtW) : Value := .agg #[x.b.v, x.m.v]
structure RtAt (w : World) (x : RtW) (es : List Ent) : Prop where
 n1 : x.b.n = es.length
 r1 : Rw encStr 1 w x.b.a (es.map (·.1))
 k1 : SlOk x.b
 n2 : x.m.n = (mergesOf es).length
 r2 : Rw encPair 2 w x.m.a (mergesOf es)
 k2 : SlOk x.m
theorem RtAt.on {w w' : World} {x : RtW} {es : List Ent} (h : RtAt w x es) (hb : Below w.heap.size w w') : RtAt w' x es := ⟨h.n1, h.r1.on hb, h.k1, h.n2, h.r2.on hb, h.k2⟩
def Fresh (B : Nat) (x : RtW) : Prop := (∀ p, x.b.a = some p → B ≤ p.block) ∧ ∀ p, x.m.a = some p → B ≤ p.block
theorem Fresh.mono {B B' : Nat} {x : RtW} (h : Fresh B x) (hB : B' ≤ B) : Fresh B' x := ⟨fun p hp => Nat.le_trans hB (h.1 p hp), fun p hp => Nat.le_trans hB (h.2 p hp)⟩
theorem own_fresh {w : World} {B : Nat} {e : TypeId} {sz : Nat} {l : Sl} {xs : List Value} (h : w.ownsRow B e sz l.v l.n xs) : ∀ p, l.a = some p → B ≤ p.block := by
 intro p hp
 obtain ⟨la, ln, lc⟩ := l
 rcases h.2 with ⟨hv, _⟩ | ⟨g, cap, cur, hv, hB, _⟩
 ·cases hv
  cases hp
 ·cases hv
  cases hp
  exact hB
theorem refHas_spec (w : World) (x : RtW) (es : List Ent) (h : RtAt w x es) (id : Int) : CP 92 #[x.v, .int .i64 id] w fun e w' => e = .returned (.bool (decide (inTab es id))) ∧ Below w.heap.size w w' := by
 refine calls_ret (vc92_calls x.b.a x.b.n x.b.c x.m.a x.m.n x.m.c id w (fun u w' => u = .bool (decide (inTab es id)) ∧ Below w.heap.size w w') ?_) (by rintro v w' ⟨rfl, h⟩; exact ⟨rfl, h⟩)
 intro w1 hw1
 have hb1 : Below w.heap.size w w1 := by subst hw1; exact below_alloc _ _
 refine CondP.mk (fun h0 => ?_) fun h0 => ?_
 ·have h0 := of_decide_eq_true h0
  refine ⟨_, _, _, by subst hw1; rw [add_lit, cell_new]; rfl, ?_, hb1⟩
  congr 1
  rw [h.n1]
  exact decide_eq_decide.2 ⟨fun h => ⟨h0, h⟩, fun h => h.2⟩
 ·have h0 := of_decide_eq_false h0
  refine ⟨?_, hb1⟩
  rw [decide_eq_false (fun h => h0 h.1)]
def findI (es : List Ent) (s : Bs) : Int := idx (fun b => decide (b = s)) (es.map (·.1))
theorem refFind_spec (w : World) (x : RtW) (es : List Ent) (h : RtAt w x es) (hl : es.length ≤ 1000000) (s : Bs) : CP 57 #[x.v, .string (str s)] w fun e w' => e = .returned (.int .i64 (findI es s)) ∧ Below w.heap.size w w' := by
 refine calls_ret (vc57_calls x.b.a x.b.n x.b.c x.m.a x.m.n x.m.c (str s) w (fun u w' => u = .int .i64 (findI es s) ∧ Below w.heap.size w w') ?_) (by rintro v w' ⟨rfl, h⟩; exact ⟨rfl, h⟩)
 intro w1 hw1
 have hb1 : Below w.heap.size w w1 := by subst hw1; exact below_alloc _ _
 have c0 : w1.cell? ((nb w).add 0) = some (.slice x.b.a x.b.n x.b.c) := by subst hw1; rw [add_lit, cell_new]; rfl
 have hlen : (es.map (·.1)).length = es.length := by simp
 have hn := h.n1
 intro I hI
 have key := climb2 (α := Int) es.length (fun i _ => ∀ j (hj : j < (es.map (·.1)).length), j < i → decide ((es.map (·.1))[j] = s) = false) (fun i y => I [.int .i64 (i : Int), .int .i64 y] w1) 0 (fun j _ hj => absurd hj (Nat.not_lt_zero j)) ?_ ?_
 ·exact key
 ·rintro i hi ih y hb
  obtain ⟨q, hq, _, hcx⟩ := (h.r1.on hb1) i _ (List.getElem?_eq_getElem (show i < (es.map (·.1)).length by omega))
  have h0 := hcx 0 _ rfl
  rw [add_zero] at h0
  refine hI _ _ _ ⟨_, _, _, c0, CondP.yes (by simp; omega) ⟨_, _, _, c0, NilC.mk q hq ⟨by omega, by omega, _, h0, CondP.mk (fun h1 => ?_) fun h1 => ?_⟩⟩⟩
  ·rw [str_toList, str_toList] at h1
   have h1 : (es.map (·.1))[i]'(by omega) = s := by simpa using h1
   refine ⟨?_, hb1⟩
   unfold findI
   rw [idx_some (p := fun b => decide (b = s)) (xs := es.map (·.1)) (i := i) (by omega) (decide_eq_true h1) fun j hj => hb j (by omega) hj]
  ·rw [str_toList, str_toList] at h1
   have h1 : ¬ (es.map (·.1))[i]'(by omega) = s := by simpa using h1
   refine Ar.ok64 (by omega) (by omega) (ih y fun j hj hji => ?_)
   by_cases he : j = i
   ·subst he
    exact decide_eq_false h1
   ·exact hb j hj (by omega)
 ·rintro y hb
  refine hI _ _ _ ⟨_, _, _, c0, CondP.no (by simp; omega) ⟨?_, hb1⟩⟩
  unfold findI
  rw [idx_none (p := fun b => decide (b = s)) (xs := es.map (·.1)) fun j hj => hb j hj (by omega)]
theorem findI_iff (es : List Ent) (s : Bs) : findI es s ≥ 0 ↔ s ∈ es.map (·.1) := by
 have := idx_any (fun b => decide (b = s)) (es.map (·.1))
 unfold findI
 rw [← decide_eq_true_iff (p := idx _ _ ≥ 0), this, List.any_eq_true]
 constructor
 ·rintro ⟨b, hb, e⟩
  rw [← of_decide_eq_true e]
  exact hb
 ·intro h
  exact ⟨s, h, decide_eq_true rfl⟩
abbrev tRt : TypeId := 35
theorem ones_slices (a b : Sl) : ∀ v ∈ [a.v, b.v], v.oneCell' = true := by
 intro v hv
 simp only [List.mem_cons, List.not_mem_nil, or_false] at hv
 rcases hv with rfl | rfl <;> rfl
theorem agg2 {w : World} {b : Nat} {x y : Value} {e : TypeId} {fz : Nat × Nat} (h : w.heap[b]? = some (.cells #[x, y] e fz)) : w.cell? ⟨b, 0, none⟩ = some x ∧ w.cell? ((⟨b, 0, none⟩ : Addr).add 1) = some y ∧ True :=
 ⟨by have := ptr_add0 _ _ h 0; rw [add_zero] at this; exact this, ptr_add0 _ _ h 1, trivial⟩
theorem own_slOk {w : World} {B : Nat} {e : TypeId} {sz : Nat} {l : Sl} {xs : List Value} (h : w.ownsRow B e sz l.v l.n xs) : SlOk l := by
 obtain ⟨la, ln, lc⟩ := l
 rcases h.2 with ⟨hv, _⟩ | ⟨g, cap, cur, hv, _⟩
 ·cases hv
  exact .inl rfl
 ·cases hv
  exact .inr ⟨_, rfl⟩
theorem refBegin_spec (w : World) : CP 154 #[] w fun e w' => ∃ x : RtW, e = .returned x.v ∧ RtAt w' x begins ∧ Below w.heap.size w w' ∧ Fresh w.heap.size x := by
 refine calls_ret (vc154_calls w (fun u w' => ∃ x : RtW, u = x.v ∧ RtAt w' x begins ∧ Below w.heap.size w w' ∧ Fresh w.heap.size x) ?_) (by rintro v w' ⟨x, rfl, h⟩; exact ⟨x, rfl, h⟩)
 intro w1 hw1 w2 hw2
 have hz1 : w1.heap.size = w.heap.size + 1 := by subst hw1; exact alloc_size _ _
 have hb1 : Below w.heap.size w w1 := by subst hw1; exact below_alloc _ _
 have l1 : w1.heap[w.heap.size]? = some (.cells #[Value.slice none 0 0, Value.slice none 0 0] tRt (0, 0)) := by subst hw1; exact alloc_new _ _
 refine storeP_new [.slice none 0 0, .slice none 0 0] [.slice none 0 0, .slice none 0 0] rfl (ones_slices ⟨none, 0, 0⟩ ⟨none, 0, 0⟩) w2 hw2 ?_
 intro w3 h3 hz3 hB3
 have l3 := held_on hB3 l1
 intro I hI
 have key := climb2 (α := World) 256 (fun i x => ∃ l : Sl, x.heap[w1.heap.size]? = some (.cells #[l.v, Value.slice none 0 0] tRt (0, 0)) ∧ x.ownsRow w1.heap.size tStr 1 l.v l.n ((((List.range i).map byteEnt).map (·.1)).flatMap encStr) ∧ l.n = i ∧ l.v.ownBlock ≠ some w1.heap.size ∧ x.heap[w.heap.size]? = some (.cells #[Value.slice none 0 0, Value.slice none 0 0] tRt (0, 0)) ∧ Below w.heap.size w x ∧ w1.heap.size < x.heap.size) (fun i x => I [.int .i64 (i : Int)] x) w3 ⟨⟨none, 0, 0⟩, h3, own_nil _ _ _ _, rfl, (by intro h; cases h), l3, hb1.trans (hB3.mono hb1.size), by omega⟩ ?_ ?_
 ·exact key
 ·rintro i hi ih w4 ⟨l, h4, hown, hln, hoff, hl4, hB, hlt4⟩
  have hwr : IntKind.wrap .u8 (i : Int) = (i : Int) := wrap_in (by show (0 : Int) ≤ _; omega) (by show _ ≤ (255 : Int); omega)
  refine hI _ _ (CondP.yes (by simp; omega) ⟨_, _, _, ptr_add0 _ _ h4 0, ?_⟩)
  rw [hwr]
  rintro w5 rfl
  have hb5 := below_alloc w4 (.cells #[Value.int .u8 (i : Int)] 5)
  refine ⟨_, _, run_byte_str (P := Tryz.prog) (by kernel_rfl) (by kernel_rfl) (by kernel_rfl) w4 i hi, ?_⟩
  rintro w7 rfl
  have hrow5 := own_on hown hb5
  have h5 := held_on hb5 h4
  have hl5 := held_on hb5 hl4
  obtain ⟨a', c', w8, hr8, hu8, hf8, h9⟩ := obj_push1 (P := Tryz.prog) (s := l) 0 h5 (show 0 < 2 by decide) hrow5 hoff (Nat.le_refl _) tStrs undStrs infoStr rfl (by decide) (encStr [UInt8.ofNat i]) rfl (by intro u hu; rw [List.mem_singleton.1 hu]; rfl) (by omega) (by omega)
  refine ⟨a', l.n + 1, c', w8, hr8, rfl, hu8, hf8, ?_⟩
  intro w9 hw9
  obtain ⟨hblk9, hrow9, hoff9, hB9, hkeep9, hsz9, hnew9⟩ := h9 w9 hw9
  have hrange : ((List.range (i + 1)).map byteEnt).map (·.1) = ((List.range i).map byteEnt).map (·.1) ++ [[UInt8.ofNat i]] := by rw [List.range_succ]; simp [byteEnt]
  have hzz : (w4.alloc (.cells #[Value.int .u8 (i : Int)] 5)).heap.size = w4.heap.size + 1 := alloc_size _ _
  have hne : l.v.ownBlock ≠ some w.heap.size := fun e => by have := (own_lt hrow5 _ e).1; omega
  have hl9 : w9.heap[w.heap.size]? = some (.cells #[Value.slice none 0 0, Value.slice none 0 0] tRt (0, 0)) := by
   rw [hkeep9 w.heap.size (by omega) (by omega) hne]
   exact hl5
  refine Ar.ok64 (by omega) (by omega) (ih w9 ⟨⟨a', l.n + 1, c'⟩, hblk9, ?_, by show l.n + 1 = i + 1; omega, hoff9, hl9, ?_, by omega⟩)
  ·rw [hrange, List.flatMap_append]
   simpa using hrow9
  ·have hb45 : Below w1.heap.size w4 (w4.alloc (.cells #[Value.int .u8 (i : Int)] 5)) := hb5.mono (by omega)
   exact hB.trans ((hB9 w4 hb45).mono (by omega))
 ·rintro w4 ⟨l, h4, hown, hln, hoff, hl4, hB, hlt4⟩
  refine hI _ _ (CondP.no (by simp) ⟨_, _, _, _, _, _, agg2 h4, ?_⟩)
  refine storeP_cells hl4 [l.v, .slice none 0 0] rfl (ones_slices l ⟨none, 0, 0⟩) ?_
  intro w10 h10 hs10 hz10 hB10
  refine ⟨_, _, _, _, _, _, agg2 h10, ⟨l, ⟨none, 0, 0⟩⟩, rfl, ⟨?_, ?_, own_slOk hown, ?_, ?_, .inl rfl⟩, hB10 _ _ (Nat.le_refl _) hB, fun p hp => Nat.le_trans hb1.size (own_fresh hown p hp), fun p hp => (by cases hp)⟩
  ·rw [hln]
   simp [begins]
  ·have := own_same hown fun k hk => hs10 k fun e => by have := (own_lt hown k hk).1; omega
   exact (Rw.of_own this (fun _ => rfl) (by decide)).1
  ·simp [mergesOf, begins]
  ·intro j y hj
   simp [mergesOf, begins] at hj
theorem push_any {α : Type} {enc : α → List Value} {sz : Nat} (hsz : ∀ x, (enc x).length = sz) (h0 : 0 < sz) (h1 : ∀ x, ∀ u ∈ enc x, u.oneCell' = true) (t e : TypeId) {z : Value} {bytes : Nat} (ht : Tryz.prog.underlying t = some (.slice e)) (hi : (Tryz.prog.info? e).map (fun i => (i.zero, i.size, i.bytes)) = some (some z, sz, bytes)) (hzs : z.cells.size = sz)
  {B : Nat} {w : World} {s : Sl} {xs : List α} (hown : w.ownsRow B e sz s.v s.n (xs.flatMap enc)) (x : α) {b : Nat} {T : TypeId} {fz : Nat × Nat} (hb : w.heap[b]? = some (.cells (enc x).toArray T fz)) (hB : B ≤ w.heap.size) (hbytes : (s.n + 1) * bytes ≤ 140737488355328) (h63 : s.n + 1 ≤ 140737488355328) :
  ∃ A C w', (Builtin.append_ #[t, t] t #[.slice s.a s.n s.c, .slice (some ⟨b, 0, none⟩) 1 1]).run Tryz.prog w = .ok (.slice A (s.n + 1) C) w' ∧ w'.ownsRow B e sz (.slice A (s.n + 1) C) (s.n + 1) ((xs ++ [x]).flatMap enc) ∧ (∀ w0, Below B w0 w → Below B w0 w') ∧ (∀ k, k < w.heap.size → s.v.ownBlock ≠ some k → w'.heap[k]? = w.heap[k]?) := by
 obtain ⟨A, C, w', h2, h3, h4, h5⟩ := run_spread (P := Tryz.prog) t e ht hi hzs h0 hown ⟨some ⟨b, 0, none⟩, 1, 1⟩ (.inr ⟨_, rfl⟩) (enc x) (by rw [hsz, Nat.one_mul]) (by
  intro a ha j u hj
  cases ha
  rw [ptr_add0 _ _ hb]
  simpa using hj) (h1 x) hbytes h63 hB
 exact ⟨A, C, w', h2, by simpa using h3, h4, h5⟩
theorem copy_nil {α : Type} {enc : α → List Value} {sz : Nat} (hsz : ∀ x, (enc x).length = sz) (h0 : 0 < sz) (h1 : ∀ x, ∀ u ∈ enc x, u.oneCell' = true) (t e : TypeId) {z : Value} {bytes : Nat} (ht : Tryz.prog.underlying t = some (.slice e)) (hi : (Tryz.prog.info? e).map (fun i => (i.zero, i.size, i.bytes)) = some (some z, sz, bytes)) (hzs : z.cells.size = sz)
  (w : World) (s : Sl) (xs : List α) (hs : SlOk s) (hr : Rw enc sz w s.a xs) (hn : s.n = xs.length) (hbytes : s.n * bytes ≤ 140737488355328) (h63 : s.n ≤ 140737488355328) :
  ∃ A C w', (Builtin.append_ #[t, t] t #[.slice none 0 0, .slice s.a s.n s.c]).run Tryz.prog w = .ok (.slice A s.n C) w' ∧ w'.ownsRow w.heap.size e sz (.slice A s.n C) s.n (xs.flatMap enc) ∧ Below w.heap.size w w' := by
 obtain ⟨A, C, w', h2, h3, h4, _⟩ := run_spread (P := Tryz.prog) t e ht hi hzs h0 (own_nil w w.heap.size e sz) s hs (xs.flatMap enc) (by rw [flatMap_length hsz, hn]) (by
  intro a ha j u hj
  rw [ha] at hr
  exact hr.flat hsz h0 j u hj) (by
  intro u hu
  obtain ⟨x, _, hx⟩ := List.mem_flatMap.1 hu
  exact h1 x u hx) (by rw [Nat.zero_add]; exact hbytes) (by rw [Nat.zero_add]; exact h63) (Nat.le_refl _)
 rw [Nat.zero_add] at h2 h3
 exact ⟨A, C, w', h2, by simpa using h3, h4 w (Below.refl _ _)⟩
def RefAddR (w : World) (x : RtW) (es : List Ent) (m : Int × Int) (u : Value) (w' : World) : Prop := ∃ (x' : RtW) (n : Int), u = .tuple #[x'.v, .int .i64 n] ∧ Below w.heap.size w w' ∧ (match tokAdd es m with
 | .error n0 => n = n0 ∧ x' = x
 | .ok y => n = 0 ∧ RtAt w' x' (es ++ [y]) ∧ Fresh w.heap.size x')
theorem refAdd_spec (w : World) (x : RtW) (es : List Ent) (h : RtAt w x es) (hok : TOk es) (m : Int × Int) : CP 155 #[x.v, .agg #[.int .i64 m.1, .int .i64 m.2]] w fun e w' => ∃ u, e = .returned u ∧ RefAddR w x es m u w' := by
 refine vc155_calls x.b.a x.b.n x.b.c x.m.a x.m.n x.m.c m.1 m.2 w (RefAddR w x es m) ?_
 intro w1 hw1 w2 hw2 w3 hw3
 have hz1 : w1.heap.size = w.heap.size + 1 := by subst hw1; exact alloc_size _ _
 have hz2 : w2.heap.size = w.heap.size + 2 := by subst hw2; rw [alloc_size, hz1]
 have hz3 : w3.heap.size = w.heap.size + 3 := by subst hw3; rw [alloc_size, hz2]
 have hb1 : Below w.heap.size w w1 := by subst hw1; exact below_alloc _ _
 have hb2 : Below w1.heap.size w1 w2 := by subst hw2; exact below_alloc _ _
 have hb3 : Below w2.heap.size w2 w3 := by subst hw3; exact below_alloc _ _
 have l0 : w3.heap[w.heap.size]? = some (.cells #[x.b.v, x.m.v] tRt (0, 0)) := held_on hb3 (held_on hb2 (by subst hw1; exact alloc_new _ _))
 have l1 : w3.heap[w1.heap.size]? = some (.cells #[.int .i64 m.1, .int .i64 m.2] tMg (0, 0)) := held_on hb3 (by subst hw2; exact alloc_new _ _)
 have l2 : w3.heap[w2.heap.size]? = some (.cells #[Value.slice none 0 0, Value.slice none 0 0] tRt (0, 0)) := by subst hw3; exact alloc_new _ _
 have hb03 : Below w.heap.size w w3 := below_then hb1 (below_then hb2 hb3)
 have h3 := h.on hb03
 have hmost := hok.most
 have hlen := h.n1
 have fail : ∀ (n : Int) (wq : World), tokAdd es m = .error n → Below w3.heap.size w3 wq →
   ∃ g0A : Option Addr, ∃ g0N : Nat, ∃ g0C : Nat, ∃ g1A : Option Addr, ∃ g1N : Nat, ∃ g1C : Nat, (wq.cell? (nb w) = some (Value.slice g0A g0N g0C) ∧ wq.cell? ((nb w).add 1) = some (Value.slice g1A g1N g1C) ∧ True) ∧
   StoreP wq (nb w2) (fun w5 =>
   ∃ res0A : Option Addr, ∃ res0N : Nat, ∃ res0C : Nat, ∃ res1A : Option Addr, ∃ res1N : Nat, ∃ res1C : Nat, (w5.cell? (nb w2) = some (Value.slice res0A res0N res0C) ∧ w5.cell? ((nb w2).add 1) = some (Value.slice res1A res1N res1C) ∧ True) ∧
   RefAddR w x es m (Value.tuple #[Value.agg #[Value.slice res0A res0N res0C, Value.slice res1A res1N res1C], Value.int .i64 n]) w5) [Value.slice g0A g0N g0C, Value.slice g1A g1N g1C] 0 := by
  intro n wq hn hbq
  refine ⟨_, _, _, _, _, _, agg2 (held_on hbq l0), ?_⟩
  refine storeP_cells (held_on hbq l2) [x.b.v, x.m.v] rfl (ones_slices _ _) ?_
  intro w5 h5 hs5 hz5 hB5
  refine ⟨_, _, _, _, _, _, agg2 h5, x, n, rfl, (hB5 _ _ (by omega) (below_then hb03 hbq)), ?_⟩
  rw [hn]
  exact ⟨rfl, rfl⟩
 refine ⟨_, _, _, _, _, _, agg2 l0, m.1, ptr_add0 _ _ l1 0, ?_⟩
 refine (refHas_spec w3 x es h3 m.1).mono ?_
 rintro e w4 ⟨rfl, b4⟩
 refine ⟨_, rfl, CondP.mk (fun h0 => ?_) fun h0 => ⟨_, _, _, _, _, _, agg2 (held_on b4 l0), m.2, ptr_add0 _ _ (held_on b4 l1) 1, ?_⟩⟩
 ·have h0 : ¬ inTab es m.1 := by simpa using h0
  exact fail 4 w4 (by rw [tokAdd, if_pos fun h => h0 h.1]) b4
 have i1 : inTab es m.1 := by simpa using h0
 refine (refHas_spec w4 x es (h3.on b4) m.2).mono ?_
 rintro e w6 ⟨rfl, b6⟩
 have b36 := below_then b4 b6
 refine ⟨_, rfl, CondP.mk (fun h0 => ?_) fun h0 => ?_⟩
 ·have h0 : ¬ inTab es m.2 := by simpa using h0
  exact fail 4 w6 (by rw [tokAdd, if_pos fun h => h0 h.2]) b36
 have i2 : inTab es m.2 := by simpa using h0
 intro w8 hw8
 have b38 : Below w3.heap.size w3 w8 := by subst hw8; exact b36.drew
 have h8 := h3.on b38
 have l08 := held_on b38 l0
 have l18 := held_on b38 l1
 obtain ⟨x1, hx1, e1⟩ := bytesOf_at i1
 obtain ⟨x2, hx2, e2⟩ := bytesOf_at i2
 have hmap : ∀ (i : Nat) (y : Ent), es[i]? = some y → (es.map (·.1))[i]? = some y.1 := fun i y hy => by rw [List.getElem?_map, hy]; rfl
 obtain ⟨a1, ha1, _, hc1⟩ := h8.r1 _ _ (hmap _ _ hx1)
 obtain ⟨a2, ha2, _, hc2⟩ := h8.r1 _ _ (hmap _ _ hx2)
 have c1 := hc1 0 _ rfl
 have c2 := hc2 0 _ rfl
 rw [add_zero] at c1 c2
 have := i1.1
 have := i1.2
 have := i2.1
 have := i2.2
 have s1 := hok.short x1 (List.mem_of_getElem? hx1)
 have s2 := hok.short x2 (List.mem_of_getElem? hx2)
 refine ⟨_, _, _, ptr_add0 _ _ l08 0, m.1, ptr_add0 _ _ l18 0, NilC.mk a1 ha1 ⟨by omega, by omega, str x1.1, c1, _, _, _, ptr_add0 _ _ l08 0, m.2, ptr_add0 _ _ l18 1, NilC.mk a2 ha2 ⟨by omega, by omega, str x2.1, c2, ?_⟩⟩⟩
 have hj : str x1.1 ++ str x2.1 = str (joined es m) := by rw [str_append, joined, e1, e2]
 have hjl : (joined es m).length = x1.1.length + x2.1.length := by rw [joined, e1, e2, List.length_append]
 rw [hj]
 refine ⟨by rw [str_size, str_size]; show _ ≤ (9223372036854775807 : Int); omega, CondP.mk (fun h0 => ?_) fun h0 => ?_⟩
 ·have h0 := of_decide_eq_true h0
  rw [str_size] at h0
  exact fail 3 w8 (by rw [tokAdd, if_neg (Classical.not_not.2 ⟨i1, i2⟩), if_pos (by omega)]) b38
 have hs := of_decide_eq_false h0
 rw [str_size] at hs
 have hs : ¬ 64 < (joined es m).length := by omega
 refine ⟨_, _, _, ptr_add0 _ _ l08 0, CondP.mk (fun h0 => ?_) fun h0 => ⟨_, _, _, _, _, _, agg2 l08, ?_⟩⟩
 ·have h0 := of_decide_eq_true h0
  exact fail 5 w8 (by rw [tokAdd, if_neg (Classical.not_not.2 ⟨i1, i2⟩), if_neg hs, if_pos (by omega)]) b38
 have h0 := of_decide_eq_false h0
 have hk : ¬ 1000 ≤ es.length := by omega
 refine (refFind_spec w8 x es h8 (by omega) (joined es m)).mono ?_
 rintro e w11 ⟨rfl, b11⟩
 have b311 := below_then b38 b11
 refine ⟨_, rfl, CondP.mk (fun h1 => ?_) fun h1 => ?_⟩
 ·have h1 := (findI_iff es _).1 (of_decide_eq_true h1)
  exact fail 10 w11 (by rw [tokAdd, if_neg (Classical.not_not.2 ⟨i1, i2⟩), if_neg hs, if_neg hk, if_pos h1]) b311
 have hnew : joined es m ∉ es.map (·.1) := fun hm => of_decide_eq_false h1 ((findI_iff es _).2 hm)
 have hadd : tokAdd es m = .ok (joined es m, m) := by rw [tokAdd, if_neg (Classical.not_not.2 ⟨i1, i2⟩), if_neg hs, if_neg hk, if_neg hnew]
 have h11 := h8.on b11
 have l011 := held_on b11 l08
 have l111 := held_on b11 l18
 have l211 := held_on b311 l2
 have hz11 := b311.size
 obtain ⟨A1, C1, w13, hr13, o13, b13⟩ := copy_nil (enc := encStr) (sz := 1) (fun _ => rfl) (by decide) (fun y u hu => by rw [List.mem_singleton.1 hu]; rfl) tStrs tStr undStrs infoStr rfl w11 x.b (es.map (·.1)) h11.k1 h11.r1 (by rw [h11.n1]; simp) (by omega) (by omega)
 have h13 := h11.on b13
 have hmlen : (mergesOf es).length ≤ 1000 := by have := merges_length hok; omega
 have hn2 := h.n2
 obtain ⟨A2, C2, w14, hr14, o14, b14⟩ := copy_nil (enc := encPair) (sz := 2) (fun _ => rfl) (by decide) (fun y => ones_pair _ _) 33 tMg undMgs infoMg rfl w13 x.m (mergesOf es) h13.k2 h13.r2 h13.n2 (by omega) (by omega)
 refine ⟨_, _, _, ptr_add0 _ _ l011 0, A1, x.b.n, C1, w13, hr13, _, _, _, ptr_add0 _ _ (held_on b13 l011) 1, A2, x.m.n, C2, w14, hr14, ?_⟩
 intro w15 hw15
 have b15 : Below w11.heap.size w11 w15 := by subst hw15; exact (below_then b13 b14).drew
 have S15 : w15.ownsRow w11.heap.size tStr 1 (.slice A1 x.b.n C1) x.b.n ((es.map (·.1)).flatMap encStr) := by subst hw15; exact own_drew (own_on o13 b14)
 have P15 : w15.ownsRow w11.heap.size tMg 2 (.slice A2 x.m.n C2) x.m.n ((mergesOf es).flatMap encPair) := by subst hw15; exact own_base (own_drew o14) b13.size
 have pair_at : ∀ {wq : World}, Below w11.heap.size w11 wq → wq.heap[w1.heap.size]? = some (.cells #[.int .i64 m.1, .int .i64 m.2] tMg (0, 0)) := fun hb => Below.keeps hb (by omega) l111
 have fin : ∀ (wq : World) (S P : Sl), wq.ownsRow w11.heap.size tStr 1 S.v S.n (((es.map (·.1)) ++ [joined es m]).flatMap encStr) → wq.ownsRow w11.heap.size tMg 2 P.v P.n ((mergesOf es ++ [m]).flatMap encPair) → Below w11.heap.size w11 wq →
   StoreP wq (nb w2) (fun w5 =>
   ∃ res0A : Option Addr, ∃ res0N : Nat, ∃ res0C : Nat, ∃ res1A : Option Addr, ∃ res1N : Nat, ∃ res1C : Nat, (w5.cell? (nb w2) = some (Value.slice res0A res0N res0C) ∧ w5.cell? ((nb w2).add 1) = some (Value.slice res1A res1N res1C) ∧ True) ∧
   RefAddR w x es m (Value.tuple #[Value.agg #[Value.slice res0A res0N res0C, Value.slice res1A res1N res1C], Value.int .i64 0]) w5) [Value.slice S.a S.n S.c, Value.slice P.a P.n P.c] 0 := by
  intro wq S P hS hP hbq
  refine storeP_cells (Below.keeps hbq (by omega) l211) [S.v, P.v] rfl (ones_slices _ _) ?_
  intro w5 h5 hs5 hz5 hB5
  have S5 := own_same hS fun k hk => hs5 k fun e => by have := (own_lt hS k hk).1; omega
  have P5 := own_same hP fun k hk => hs5 k fun e => by have := (own_lt hP k hk).1; omega
  obtain ⟨rS, nS⟩ := Rw.of_own S5 (fun _ => rfl) (by decide)
  obtain ⟨rP, nP⟩ := Rw.of_own P5 (fun _ => rfl) (by decide)
  have hmap : (es ++ [(joined es m, m)]).map (·.1) = es.map (·.1) ++ [joined es m] := by simp
  have hmer : mergesOf (es ++ [(joined es m, m)]) = mergesOf es ++ [m] := by
   simp [mergesOf, List.drop_append_of_le_length hok.len]
  refine ⟨_, _, _, _, _, _, agg2 h5, ⟨S, P⟩, 0, rfl, hB5 _ _ (by omega) ((hb03.trans (b311.mono hb03.size)).trans (hbq.mono (by omega))), ?_⟩
  rw [hadd]
  refine ⟨rfl, ⟨by rw [nS]; simp, by rw [hmap]; exact rS, own_slOk S5, by rw [nP, hmer], by rw [hmer]; exact rP, own_slOk P5⟩, fun p hp => Nat.le_trans (hb03.trans (b311.mono hb03.size)).size (own_fresh S5 p hp), fun p hp => Nat.le_trans (hb03.trans (b311.mono hb03.size)).size (own_fresh P5 p hp)⟩
 have pushS : ∀ {wq : World} {b : Nat}, wq.ownsRow w11.heap.size tStr 1 (.slice A1 x.b.n C1) x.b.n ((es.map (·.1)).flatMap encStr) → wq.heap[b]? = some (.cells #[Value.string (str (joined es m))] tStr (0, 0)) → Below w11.heap.size w11 wq → _ := fun {wq} {b} h1 h2 h3 =>
  push_any (enc := encStr) (sz := 1) (fun _ => rfl) (by decide) (fun y u hu => by rw [List.mem_singleton.1 hu]; rfl) tStrs tStr undStrs infoStr rfl (s := ⟨A1, x.b.n, C1⟩) h1 (joined es m) h2 h3.size (by show (x.b.n + 1) * 16 ≤ _; omega) (by show x.b.n + 1 ≤ _; omega)
 have pushP : ∀ {wq : World} {b : Nat}, wq.ownsRow w11.heap.size tMg 2 (.slice A2 x.m.n C2) x.m.n ((mergesOf es).flatMap encPair) → wq.heap[b]? = some (.cells #[Value.int .i64 m.1, Value.int .i64 m.2] tMg (0, 0)) → Below w11.heap.size w11 wq → _ := fun {wq} {b} h1 h2 h3 =>
  push_any (enc := encPair) (sz := 2) (fun _ => rfl) (by decide) (fun y => ones_pair _ _) 33 tMg undMgs infoMg rfl (s := ⟨A2, x.m.n, C2⟩) h1 m h2 h3.size (by show (x.m.n + 1) * 16 ≤ _; omega) (by show x.m.n + 1 ≤ _; omega)
 refine ⟨m.1, m.2, agg2 (pair_at b15), ?_, ?_⟩
 ·intro w16 hw16
  have b16 : Below w11.heap.size w11 w16 := by subst hw16; exact b15.alloc b15.size _
  have c16 : Below w15.heap.size w15 w16 := by subst hw16; exact below_alloc _ _
  have s16 : w16.heap[w15.heap.size]? = some (.cells #[Value.string (str (joined es m))] tStr (0, 0)) := by subst hw16; exact alloc_new _ _
  refine ⟨agg2 (pair_at b16), ?_, ?_⟩
  ·obtain ⟨A3, C3, w17, hr17, o17, b17, k17⟩ := pushS (own_on S15 c16) s16 b16
   have bb17 := b17 _ b16
   refine ⟨A3, _, C3, w17, hr17, agg2 (pair_at bb17), ?_⟩
   intro w18 hw18
   have c18 : Below w17.heap.size w17 w18 := by subst hw18; exact below_alloc _ _
   have b18 : Below w11.heap.size w11 w18 := by subst hw18; exact bb17.alloc bb17.size _
   have m18 : w18.heap[w17.heap.size]? = some (.cells #[Value.int .i64 m.1, Value.int .i64 m.2] tMg (0, 0)) := by subst hw18; exact alloc_new _ _
   have P17 := own_same (own_on P15 c16) fun k hk => k17 k (own_lt (own_on P15 c16) k hk).2 (row_ne_row (own_on P15 c16) (own_on S15 c16) (by decide) k hk)
   obtain ⟨A4, C4, w19, hr19, o19, b19, k19⟩ := pushP (own_on P17 c18) m18 b18
   refine ⟨A4, _, C4, w19, hr19, ?_⟩
   have S18 := own_on o17 c18
   exact fin w19 ⟨A3, x.b.n + 1, C3⟩ ⟨A4, x.m.n + 1, C4⟩ (own_same S18 fun k hk => k19 k (own_lt S18 k hk).2 (row_ne_row S18 (own_on P17 c18) (by decide) k hk)) o19 (b19 _ b18)
  ·intro w21 hw21
   have c21 : Below w16.heap.size w16 w21 := by subst hw21; exact below_alloc _ _
   have b21 : Below w11.heap.size w11 w21 := by subst hw21; exact b16.alloc b16.size _
   have m21 : w21.heap[w16.heap.size]? = some (.cells #[Value.int .i64 m.1, Value.int .i64 m.2] tMg (0, 0)) := by subst hw21; exact alloc_new _ _
   have S21 := own_on (own_on S15 c16) c21
   have P21 := own_on (own_on P15 c16) c21
   obtain ⟨A3, C3, w22, hr22, o22, b22, k22⟩ := pushS S21 (held_on c21 s16) b21
   have P22 := own_same P21 fun k hk => k22 k (own_lt P21 k hk).2 (row_ne_row P21 S21 (by decide) k hk)
   have m22 : w22.heap[w16.heap.size]? = some (.cells #[Value.int .i64 m.1, Value.int .i64 m.2] tMg (0, 0)) := by
    rw [k22 _ (Array.getElem?_eq_some_iff.1 m21).1 (row_ne_blk S21 m21 (by decide))]
    exact m21
   obtain ⟨A4, C4, w23, hr23, o23, b23, k23⟩ := pushP P22 m22 (b22 _ b21)
   exact ⟨A3, _, C3, w22, hr22, A4, _, C4, w23, hr23, fin w23 ⟨A3, x.b.n + 1, C3⟩ ⟨A4, x.m.n + 1, C4⟩ (own_same o22 fun k hk => k23 k (own_lt o22 k hk).2 (row_ne_row o22 P22 (by decide) k hk)) o23 (b23 _ (b22 _ b21))⟩
 ·intro w25 hw25 w26 hw26
  have c25 : Below w15.heap.size w15 w25 := by subst hw25; exact below_alloc _ _
  have b25 : Below w11.heap.size w11 w25 := by subst hw25; exact b15.alloc b15.size _
  have m25 : w25.heap[w15.heap.size]? = some (.cells #[Value.int .i64 m.1, Value.int .i64 m.2] tMg (0, 0)) := by subst hw25; exact alloc_new _ _
  have c26 : Below w25.heap.size w25 w26 := by subst hw26; exact below_alloc _ _
  have b26 : Below w11.heap.size w11 w26 := by subst hw26; exact b25.alloc b25.size _
  have s26 : w26.heap[w25.heap.size]? = some (.cells #[Value.string (str (joined es m))] tStr (0, 0)) := by subst hw26; exact alloc_new _ _
  have S26 := own_on (own_on S15 c25) c26
  have P26 := own_on (own_on P15 c25) c26
  have m26 := held_on c26 m25
  obtain ⟨A3, C3, w27, hr27, o27, b27, k27⟩ := pushS S26 s26 b26
  have P27 := own_same P26 fun k hk => k27 k (own_lt P26 k hk).2 (row_ne_row P26 S26 (by decide) k hk)
  have m27 : w27.heap[w15.heap.size]? = some (.cells #[Value.int .i64 m.1, Value.int .i64 m.2] tMg (0, 0)) := by
   rw [k27 _ (Array.getElem?_eq_some_iff.1 m26).1 (row_ne_blk S26 m26 (by decide))]
   exact m26
  obtain ⟨A4, C4, w28, hr28, o28, b28, k28⟩ := pushP P27 m27 (b27 _ b26)
  exact ⟨A3, _, C3, w27, hr27, A4, _, C4, w28, hr28, fin w28 ⟨A3, x.b.n + 1, C3⟩ ⟨A4, x.m.n + 1, C4⟩ (own_same o27 fun k hk => k28 k (own_lt o27 k hk).2 (row_ne_row o27 P27 (by decide) k hk)) o28 (b28 _ (b27 _ b26))⟩
theorem slices_soft (a b : Sl) : ∀ v ∈ (#[a.v, b.v] : Array Value), ¬ Solid v := by
 intro v hv
 have hv : v = a.v ∨ v = b.v := by simpa using hv
 rcases hv with rfl | rfl <;> (rintro (⟨k, n, h⟩ | ⟨s, h⟩) <;> cases h)
theorem RtAt.past {w w' : World} {x : RtW} {es : List Ent} {b : Nat} {p q : Sl} {T : TypeId} {fz : Nat × Nat} (h : RtAt w x es) (hb : w.heap[b]? = some (.cells #[p.v, q.v] T fz)) (hne : ∀ j, j < w.heap.size → j ≠ b → w'.heap[j]? = w.heap[j]?) (hs : w.heap.size ≤ w'.heap.size) : RtAt w' x es :=
 ⟨h.n1, h.r1.past (fun y => ⟨_, rfl, .inr ⟨_, rfl⟩⟩) hb (slices_soft p q) hne hs, h.k1, h.n2, h.r2.past (fun y => ⟨_, rfl, .inl ⟨_, _, rfl⟩⟩) hb (slices_soft p q) hne hs, h.k2⟩
def RNewR (w : World) (ms : List (Int × Int)) (u : Value) (w' : World) : Prop := ∃ (x : RtW) (n e : Int), u = .tuple #[x.v, .int .i64 n, .int .i64 e] ∧ Below w.heap.size w w' ∧ (match tokNew begins 0 ms with
 | .error q => n = q.1 ∧ e = q.2
 | .ok es => n = ms.length ∧ e = 0 ∧ RtAt w' x es ∧ TOk es ∧ Fresh w.heap.size x)
theorem refNew_spec (w : World) (A : Option Addr) (C : Nat) (ms : List (Int × Int)) (hr : Rw encPair 2 w A ms) (hl : ms.length ≤ 1000000) : CP 214 #[.slice A ms.length C] w fun e w' => ∃ u, e = .returned u ∧ RNewR w ms u w' := by
 refine vc214_calls A ms.length C w (RNewR w ms) ?_
 intro w1 hw1
 have hb1 : Below w.heap.size w w1 := by subst hw1; exact below_alloc _ _
 have z1 : w1.heap[w.heap.size]? = some (.cells #[(⟨none, 0, 0⟩ : Sl).v, (⟨none, 0, 0⟩ : Sl).v] tRt (0, 0)) := by subst hw1; exact alloc_new _ _
 refine (refBegin_spec w1).mono ?_
 rintro e w2 ⟨x0, rfl, h2, b2, f2⟩
 have z2 := held_on b2 z1
 have hlt2 : w.heap.size < w2.heap.size := (Array.getElem?_eq_some_iff.1 z2).1
 refine ⟨_, _, _, _, _, _, rfl, ?_⟩
 intro w3 hw3
 refine storeP_new [.slice none 0 0, .slice none 0 0] [x0.b.v, x0.m.v] rfl (ones_slices _ _) w3 hw3 ?_
 intro w4 h4 hz4 b4
 have hb14 : Below w.heap.size w w4 := below_then hb1 (below_then b2 b4)
 intro I hI
 have key := climb2 (α := Int × Int × World) ms.length (fun i y => ∃ (x : RtW) (es : List Ent), y.2.2.heap[w2.heap.size]? = some (.cells #[x.b.v, x.m.v] tRt (0, 0)) ∧ y.2.2.heap[w.heap.size]? = some (.cells #[(⟨none, 0, 0⟩ : Sl).v, (⟨none, 0, 0⟩ : Sl).v] tRt (0, 0)) ∧ RtAt y.2.2 x es ∧ TOk es ∧ tokNew begins 0 ms = tokNew es i (ms.drop i) ∧ Below w.heap.size w y.2.2 ∧ Fresh w.heap.size x) (fun i y => I [.int .i64 (i : Int), .int .i64 y.1, .int .i64 y.2.1] y.2.2) (0, 0, w4) ⟨x0, begins, h4, held_on b4 z2, h2.on b4, begins_ok, by rw [List.drop_zero], hb14, f2.mono hb1.size⟩ ?_ ?_
 ·exact key
 ·rintro i hi ih ⟨y4, y3, w5⟩ ⟨x, es, h5, z5, hx5, hok, heq, hB5, f5⟩
  change w5.heap[w2.heap.size]? = _ at h5
  change w5.heap[w.heap.size]? = _ at z5
  change RtAt w5 x es at hx5
  change Below w.heap.size w w5 at hB5
  have hdrop : ms.drop i = ms[i] :: ms.drop (i + 1) := List.drop_eq_getElem_cons hi
  refine hI _ _ _ _ (CondP.yes (by simp; omega) ?_)
  intro w6 hw6
  have b6 : Below w5.heap.size w5 w6 := by subst hw6; exact drew_on w5
  have h6 := held_on b6 h5
  have z6 := held_on b6 z5
  have hx6 := hx5.on b6
  have hB6 : Below w.heap.size w w6 := hB5.trans (b6.mono hB5.size)
  obtain ⟨q, hq, _, hc⟩ := (hr.on hB6) i _ (List.getElem?_eq_getElem hi)
  have c0 := hc 0 _ rfl
  rw [add_zero] at c0
  have hlt6 : w2.heap.size < w6.heap.size := (Array.getElem?_eq_some_iff.1 h6).1
  have rest : ∀ (loc : Nat) (wq : World) (x' : RtW) (n : Int), loc ≠ w2.heap.size → wq.heap[loc]? = some (.cells #[x'.b.v, x'.m.v] tRt (0, 0)) → wq.heap[w2.heap.size]? = some (.cells #[x.b.v, x.m.v] tRt (0, 0)) → wq.heap[w.heap.size]? = some (.cells #[(⟨none, 0, 0⟩ : Sl).v, (⟨none, 0, 0⟩ : Sl).v] tRt (0, 0)) → Below w.heap.size w wq → (match tokAdd es ms[i] with
    | .error n0 => n = n0 ∧ x' = x
    | .ok y => n = 0 ∧ RtAt wq x' (es ++ [y]) ∧ Fresh w.heap.size x') →
    CondP ((n : Int) != 0)
     (∃ g0A : Option Addr, ∃ g0N : Nat, ∃ g0C : Nat, ∃ g1A : Option Addr, ∃ g1N : Nat, ∃ g1C : Nat, (wq.cell? (nb w2) = some (Value.slice g0A g0N g0C) ∧ wq.cell? ((nb w2).add 1) = some (Value.slice g1A g1N g1C) ∧ True) ∧
      StoreP wq (nb w) (fun w10 =>
      ∃ res0A : Option Addr, ∃ res0N : Nat, ∃ res0C : Nat, ∃ res1A : Option Addr, ∃ res1N : Nat, ∃ res1C : Nat, (w10.cell? (nb w) = some (Value.slice res0A res0N res0C) ∧ w10.cell? ((nb w).add 1) = some (Value.slice res1A res1N res1C) ∧ True) ∧
      RNewR w ms (Value.tuple #[Value.agg #[Value.slice res0A res0N res0C, Value.slice res1A res1N res1C], Value.int .i64 (i : Int), Value.int .i64 n]) w10) [Value.slice g0A g0N g0C, Value.slice g1A g1N g1C] 0)
     (∃ g0A : Option Addr, ∃ g0N : Nat, ∃ g0C : Nat, ∃ g1A : Option Addr, ∃ g1N : Nat, ∃ g1C : Nat, (wq.cell? ⟨loc, 0, none⟩ = some (Value.slice g0A g0N g0C) ∧ wq.cell? ((⟨loc, 0, none⟩ : Addr).add 1) = some (Value.slice g1A g1N g1C) ∧ True) ∧
      StoreP wq (nb w2) (fun w11 =>
      Ar .i64 ((i : Int) + 1) (fun n =>
      I [Value.int .i64 n, Value.int .i64 y4, Value.int .i64 y3] w11)) [Value.slice g0A g0N g0C, Value.slice g1A g1N g1C] 0) := by
   intro loc wq x' n hloc hl hb2 hb0 hBq hm
   cases hx : tokAdd es ms[i] with
   | error n0 =>
    rw [hx] at hm
    obtain ⟨rfl, rfl⟩ := hm
    refine CondP.yes (by simpa using tokAdd_err hx) ⟨_, _, _, _, _, _, agg2 hb2, ?_⟩
    refine storeP_cells hb0 [x'.b.v, x'.m.v] rfl (ones_slices _ _) ?_
    intro w10 h10 hs10 hz10 hB10
    refine ⟨_, _, _, _, _, _, agg2 h10, x', _, _, rfl, hB10 _ _ (Nat.le_refl _) hBq, ?_⟩
    rw [heq, hdrop, tokNew, hx]
    exact ⟨rfl, rfl⟩
   | ok y =>
    rw [hx] at hm
    obtain ⟨rfl, hx', fx⟩ := hm
    refine CondP.no rfl ⟨_, _, _, _, _, _, agg2 hl, ?_⟩
    refine storeP_cells hb2 [x'.b.v, x'.m.v] rfl (ones_slices _ _) ?_
    intro w11 h11 hs11 hz11 hB11
    refine Ar.ok64 (by omega) (by omega) (ih (y4, y3, w11) ⟨x', es ++ [y], h11, ?_, hx'.past hb2 (fun j _ hj => hs11 j hj) (Nat.le_of_eq hz11.symm), (tokAdd_ok hok hx).1, ?_, hB11 _ _ (by omega) hBq, fx⟩)
    ·show w11.heap[w.heap.size]? = _
     rw [hs11 _ (by omega)]
     exact hb0
    ·rw [heq, hdrop, tokNew, hx]
  refine ⟨_, _, _, _, _, _, agg2 h6, NilC.mk q hq ⟨by omega, by omega, _, _, ⟨c0, hc 1 _ rfl, trivial⟩, ?_, ?_⟩⟩
  ·refine (refAdd_spec w6 x es hx6 hok ms[i]).mono ?_
   rintro e w7 ⟨u, rfl, x', n, rfl, b7, hp⟩
   refine ⟨_, _, _, _, _, _, n, rfl, ?_⟩
   intro w8 hw8
   refine storeP_new [.slice none 0 0, .slice none 0 0] [x'.b.v, x'.m.v] rfl (ones_slices _ _) w8 hw8 ?_
   intro w9 h9 hz9 b9
   have hz7 := b7.size
   refine rest w7.heap.size w9 x' n (by omega) h9 (held_on b9 (held_on b7 h6)) (held_on b9 (held_on b7 z6)) ((hB6.trans (b7.mono hB6.size)).trans (b9.mono (Nat.le_trans hB6.size hz7))) ?_
   cases hx : tokAdd es ms[i] with
   | error n0 => rw [hx] at hp; exact hp
   | ok y => rw [hx] at hp; exact ⟨hp.1, hp.2.1.on b9, hp.2.2.mono hB6.size⟩
  ·intro w12 hw12
   have b12 : Below w6.heap.size w6 w12 := by subst hw12; exact below_alloc _ _
   have l12 : w12.heap[w6.heap.size]? = some (.cells #[Value.slice none 0 0, Value.slice none 0 0] tRt (0, 0)) := by subst hw12; exact alloc_new _ _
   have hB12 : Below w.heap.size w w12 := hB6.trans (b12.mono hB6.size)
   obtain ⟨q', hq', _, hc'⟩ := (hr.on hB12) i _ (List.getElem?_eq_getElem hi)
   have hqq : q' = q := by rw [hq] at hq'; exact (Option.some.inj hq').symm
   subst hqq
   have c0' := hc' 0 _ rfl
   rw [add_zero] at c0'
   refine ⟨⟨c0', hc' 1 _ rfl, trivial⟩, agg2 (held_on b12 h6), ?_⟩
   refine (refAdd_spec w12 x es (hx6.on b12) hok ms[i]).mono ?_
   rintro e w13 ⟨u, rfl, x', n, rfl, b13, hp⟩
   refine ⟨_, _, _, _, _, _, n, rfl, ?_⟩
   refine storeP_cells (held_on b13 l12) [x'.b.v, x'.m.v] rfl (ones_slices _ _) ?_
   intro w14 h14 hs14 hz14 hB14
   refine rest w6.heap.size w14 x' n (by omega) h14 (by rw [hs14 _ (by omega)]; exact held_on b13 (held_on b12 h6)) (by rw [hs14 _ (by omega)]; exact held_on b13 (held_on b12 z6)) (hB14 _ _ (by omega) (hB12.trans (b13.mono hB12.size))) ?_
   cases hx : tokAdd es ms[i] with
   | error n0 => rw [hx] at hp; exact hp
   | ok y => rw [hx] at hp; exact ⟨hp.1, hp.2.1.past (p := ⟨none, 0, 0⟩) (q := ⟨none, 0, 0⟩) (held_on b13 l12) (fun j _ hj => hs14 j hj) (Nat.le_of_eq hz14.symm), hp.2.2.mono hB12.size⟩
 ·rintro ⟨y4, y3, w5⟩ ⟨x, es, h5, z5, hx5, hok, heq, hB5, f5⟩
  change w5.heap[w2.heap.size]? = _ at h5
  change w5.heap[w.heap.size]? = _ at z5
  refine hI _ _ _ _ (CondP.no (by simp) ⟨_, _, _, _, _, _, agg2 h5, ?_⟩)
  refine storeP_cells z5 [x.b.v, x.m.v] rfl (ones_slices _ _) ?_
  intro w17 h17 hs17 hz17 hB17
  refine ⟨_, _, _, _, _, _, agg2 h17, x, _, _, rfl, hB17 _ _ (Nat.le_refl _) hB5, ?_⟩
  rw [heq, List.drop_length, tokNew]
  exact ⟨rfl, rfl, hx5.past z5 (fun j _ hj => hs17 j hj) (Nat.le_of_eq hz17.symm), hok, f5⟩
theorem Ar.nat {z : Int} {F : Int → Prop} (n : Nat) (hz : z = (n : Int)) (hn : n ≤ 9223372036854775807) (h : F (n : Int)) : Ar .i64 z F := by
 subst hz
 exact Ar.ok64 (by omega) (by omega) h
def enc16 (n : Int) : List Value := [.int .u16 n]
theorem tokNew_snoc {m : Int × Int} {y : Ent} {es : List Ent} (hy : tokAdd es m = .ok y) : ∀ (ms : List (Int × Int)) (es0 : List Ent) (i : Nat), tokNew es0 i ms = .ok es → tokNew es0 i (ms ++ [m]) = .ok (es ++ [y])
 | [], es0, i, h => by
  cases h
  rw [List.nil_append, tokNew, hy]
  rfl
 | q :: ms, es0, i, h => by
  rw [tokNew] at h
  rw [List.cons_append, tokNew]
  cases hq : tokAdd es0 q with
  | error n => rw [hq] at h; cases h
  | ok x => rw [hq] at h; exact tokNew_snoc hy ms _ _ h
theorem mergesOf_snoc {es : List Ent} (h : TOk es) (y : Ent) : mergesOf (es ++ [y]) = mergesOf es ++ [y.2] := by
 simp [mergesOf, List.drop_append_of_le_length h.len]
theorem cell_rw {α : Type} {enc : α → List Value} {w : World} {a : Option Addr} {xs : List α} (h : Rw enc 1 w a xs) {i : Nat} (hi : i < xs.length) {v : Value} (hv : (enc xs[i])[0]? = some v) : ∃ q, a = some q ∧ w.cell? (q.add (i * 1)) = some v := by
 obtain ⟨q, hq, _, hc⟩ := h i _ (List.getElem?_eq_getElem hi)
 have := hc 0 _ hv
 rw [add_zero] at this
 exact ⟨q, hq, this⟩
def pickN (es : List Ent) (c : Int) : Int :=
 if decide (Int.tmod (IntKind.wrap .i64 c) ((es.length + (mergesOf es).length : Nat) : Int) ≥ ((es.length : Nat) : Int)) = true
 then IntKind.wrap .i64 (IntKind.wrap .i64 (256 + Int.tmod (IntKind.wrap .i64 c) ((es.length + (mergesOf es).length : Nat) : Int)) - ((es.length : Nat) : Int))
 else Int.tmod (IntKind.wrap .i64 c) ((es.length + (mergesOf es).length : Nat) : Int)
def growS (es : List Ent) (a b : Int) : List Ent := match tokAdd es (pickN es a, pickN es b) with
 | .ok y => es ++ [y]
 | .error _ => es
def growV (l : List Int) : Nat → List Ent
 | 0 => begins
 | i + 1 => if 2 * i + 1 < l.length then growS (growV l i) (l.getD (2 * i) 0) (l.getD (2 * i + 1) 0) else growV l i
theorem growV_stop {l : List Int} {i : Nat} (h : l.length ≤ 2 * i + 1) : ∀ d, growV l (i + d) = growV l i
 | 0 => rfl
 | d + 1 => by rw [← Nat.add_assoc, growV, if_neg (by omega), growV_stop h d]
theorem refGrow_spec (w : World) (A : Option Addr) (C : Nat) (l : List Int) (hr : Rw enc16 1 w A l) : CP 107 #[.slice A l.length C] w fun e w' => ∃ (x : RtW) (es : List Ent), e = .returned x.v ∧ RtAt w' x es ∧ TOk es ∧ tokNew begins 0 (mergesOf es) = .ok es ∧ es = growV l 30 ∧ Below w.heap.size w w' := by
 refine calls_ret (vc107_calls A l.length C w (fun u w' => ∃ (x : RtW) (es : List Ent), u = x.v ∧ RtAt w' x es ∧ TOk es ∧ tokNew begins 0 (mergesOf es) = .ok es ∧ es = growV l 30 ∧ Below w.heap.size w w') ?_) (by rintro v w' ⟨x, es, rfl, h⟩; exact ⟨x, es, rfl, h⟩)
 intro w1 hw1
 have hb1 : Below w.heap.size w w1 := by subst hw1; exact below_alloc _ _
 have z1 : w1.heap[w.heap.size]? = some (.cells #[(⟨none, 0, 0⟩ : Sl).v, (⟨none, 0, 0⟩ : Sl).v] tRt (0, 0)) := by subst hw1; exact alloc_new _ _
 refine (refBegin_spec w1).mono ?_
 rintro e w2 ⟨x0, rfl, h2, b2, _⟩
 have z2 := held_on b2 z1
 have hlt2 : w.heap.size < w2.heap.size := (Array.getElem?_eq_some_iff.1 z2).1
 refine ⟨_, _, _, _, _, _, rfl, ?_⟩
 intro w3 hw3
 refine storeP_new [.slice none 0 0, .slice none 0 0] [x0.b.v, x0.m.v] rfl (ones_slices _ _) w3 hw3 ?_
 intro w4 h4 hz4 b4
 have hb14 : Below w.heap.size w w4 := below_then hb1 (below_then b2 b4)
 intro I hI
 let Inv (i : Nat) (q : World) : Prop := ∃ (x : RtW) (es : List Ent), q.heap[w2.heap.size]? = some (.cells #[x.b.v, x.m.v] tRt (0, 0)) ∧ q.heap[w.heap.size]? = some (.cells #[(⟨none, 0, 0⟩ : Sl).v, (⟨none, 0, 0⟩ : Sl).v] tRt (0, 0)) ∧ RtAt q x es ∧ TOk es ∧ tokNew begins 0 (mergesOf es) = .ok es ∧ es = growV l i ∧ Below w.heap.size w q
 have fin : ∀ (i : Nat) (q : World), growV l 30 = growV l i → Inv i q → ∃ g0A : Option Addr, ∃ g0N : Nat, ∃ g0C : Nat, ∃ g1A : Option Addr, ∃ g1N : Nat, ∃ g1C : Nat, (q.cell? (nb w2) = some (Value.slice g0A g0N g0C) ∧ q.cell? ((nb w2).add 1) = some (Value.slice g1A g1N g1C) ∧ True) ∧
   StoreP q (nb w) (fun w5 => ∃ res0A : Option Addr, ∃ res0N : Nat, ∃ res0C : Nat, ∃ res1A : Option Addr, ∃ res1N : Nat, ∃ res1C : Nat, (w5.cell? (nb w) = some (Value.slice res0A res0N res0C) ∧ w5.cell? ((nb w).add 1) = some (Value.slice res1A res1N res1C) ∧ True) ∧
    (∃ (x : RtW) (es : List Ent), Value.agg #[Value.slice res0A res0N res0C, Value.slice res1A res1N res1C] = x.v ∧ RtAt w5 x es ∧ TOk es ∧ tokNew begins 0 (mergesOf es) = .ok es ∧ es = growV l 30 ∧ Below w.heap.size w w5)) [Value.slice g0A g0N g0C, Value.slice g1A g1N g1C] 0 := by
  rintro i q hst ⟨x, es, hq2, hq0, hx, hok, hnew, hes, hB⟩
  refine ⟨_, _, _, _, _, _, agg2 hq2, ?_⟩
  refine storeP_cells hq0 [x.b.v, x.m.v] rfl (ones_slices _ _) ?_
  intro w5 h5 hs5 hz5 hB5
  exact ⟨_, _, _, _, _, _, agg2 h5, x, es, rfl, hx.past hq0 (fun j _ hj => hs5 j hj) (Nat.le_of_eq hz5.symm), hok, hnew, hes.trans hst.symm, hB5 _ _ (Nat.le_refl _) hB⟩
 have key := climb2 (α := World) 30 Inv (fun i q => I [.int .i64 ((2 * i : Nat) : Int)] q) w4 ⟨x0, begins, h4, held_on b4 z2, h2.on b4, begins_ok, rfl, rfl, hb14⟩ ?_ ?_
 ·exact key
 ·rintro i hi ih w5 hinv
  refine hI _ _ (Ar.nat (2 * i + 1) (by omega) (by omega) (CondP.mk (fun hl => ?_) fun hl => fin i w5 (by have := of_decide_eq_false hl; have e := growV_stop (l := l) (i := i) (by omega) (30 - i); rwa [show i + (30 - i) = 30 by omega] at e) hinv))
  have hl : 2 * i + 1 < l.length := by have := of_decide_eq_true hl; omega
  refine CondP.yes (by simp; omega) ?_
  intro J hJ w7 hw7
  obtain ⟨x, es, h5, z5, hx5, hok, hnew, hes, hB5⟩ := hinv
  have hstep : growV l (i + 1) = growS es l[2 * i] l[2 * i + 1] := by rw [growV, if_pos hl, ← hes]; simp [List.getD, hl, show 2 * i < l.length by omega]
  have hJ' : ∀ q, Inv (i + 1) q → J [] q := fun q hq => hJ q (Ar.nat (2 * (i + 1)) (by omega) (by omega) (ih q hq))
  have b7 : Below w5.heap.size w5 w7 := by subst hw7; exact drew_on w5
  have h7 := held_on b7 h5
  have z7 := held_on b7 z5
  have hx7 := hx5.on b7
  have hB7 : Below w.heap.size w w7 := hB5.trans (b7.mono hB5.size)
  have hlt7 : w2.heap.size < w7.heap.size := (Array.getElem?_eq_some_iff.1 h7).1
  obtain ⟨q, hq, c0⟩ := cell_rw (hr.on hB7) (i := 2 * i) (by omega) rfl
  obtain ⟨q', hq', c1⟩ := cell_rw (hr.on hB7) (i := 2 * i + 1) (by omega) rfl
  have hn1 := hx7.n1
  have hn2 := hx7.n2
  have hmost := hok.most
  have hlen := hok.len
  have hml := merges_length hok
  have pick_yes : ∀ {c : Int}, decide (Int.tmod (IntKind.wrap .i64 c) ((x.b.n + x.m.n : Nat) : Int) ≥ ((x.b.n : Nat) : Int)) = true → IntKind.wrap .i64 (IntKind.wrap .i64 (256 + Int.tmod (IntKind.wrap .i64 c) ((x.b.n + x.m.n : Nat) : Int)) - ((x.b.n : Nat) : Int)) = pickN es c := by
   intro c hc
   rw [hn1, hn2] at hc ⊢
   rw [pickN, if_pos hc]
  have pick_no : ∀ {c : Int}, decide (Int.tmod (IntKind.wrap .i64 c) ((x.b.n + x.m.n : Nat) : Int) ≥ ((x.b.n : Nat) : Int)) = false → Int.tmod (IntKind.wrap .i64 c) ((x.b.n + x.m.n : Nat) : Int) = pickN es c := by
   intro c hc
   rw [hn1, hn2] at hc ⊢
   rw [pickN, if_neg (by rw [hc]; exact Bool.false_ne_true)]
  refine NilC.mk q hq ⟨by omega, by omega, _, c0, _, _, _, ptr_add0 _ _ h7 0, _, _, _, ptr_add0 _ _ h7 1, Ar.nat (x.b.n + x.m.n) (by omega) (by omega) ⟨by omega, Ar.nat (2 * i + 1) (by omega) (by omega) (NilC.mk q' hq' ⟨by omega, by omega, _, c1, _, _, _, ptr_add0 _ _ h7 0, _, _, _, ptr_add0 _ _ h7 1, Ar.nat (x.b.n + x.m.n) (by omega) (by omega) ⟨by omega, ?_⟩⟩)⟩⟩
  intro J22 hJ22
  have all : ∀ a : Int, a = pickN es l[2 * i] → J22 [.int .i64 a] w7 := by
   intro a hpa
   refine hJ22 a w7 ?_
   intro J23 hJ23
   have all2 : ∀ b : Int, b = pickN es l[2 * i + 1] → J23 [.int .i64 b] w7 := by
    intro b hpb
    refine hJ23 b w7 ⟨_, _, _, _, _, _, agg2 h7, ?_⟩
    refine (refAdd_spec w7 x es hx7 hok (a, b)).mono ?_
    rintro e w10 ⟨u, rfl, x', n, rfl, b10, hp⟩
    refine ⟨_, _, _, _, _, _, n, rfl, ?_⟩
    intro w11 hw11
    refine storeP_new [.slice none 0 0, .slice none 0 0] [x'.b.v, x'.m.v] rfl (ones_slices _ _) w11 hw11 ?_
    intro w12 h12 hz12 b12
    have b712 := below_then b10 b12
    have h2' := held_on b712 h7
    have z2' := held_on b712 z7
    have hB12 : Below w.heap.size w w12 := hB7.trans (b712.mono hB7.size)
    cases hx : tokAdd es (a, b) with
    | error n0 =>
     rw [hx] at hp
     obtain ⟨rfl, rfl⟩ := hp
     refine CondP.no (by simpa using tokAdd_err hx) (hJ' w12 ⟨x', es, h2', z2', hx7.on b712, hok, hnew, by rw [hstep, growS, ← hpa, ← hpb, hx], hB12⟩)
    | ok y =>
     rw [hx] at hp
     obtain ⟨rfl, hx', _⟩ := hp
     refine CondP.yes rfl ⟨_, _, _, _, _, _, agg2 h12, ?_⟩
     refine storeP_cells h2' [x'.b.v, x'.m.v] rfl (ones_slices _ _) ?_
     intro w13 h13 hs13 hz13 hB13
     have hadd := tokAdd_ok hok hx
     refine hJ' w13 ⟨x', es ++ [y], h13, ?_, (hx'.on b12).past h2' (fun j _ hj => hs13 j hj) (Nat.le_of_eq hz13.symm), hadd.1, ?_, by rw [hstep, growS, ← hpa, ← hpb, hx], hB13 _ _ (by omega) hB12⟩
     ·rw [hs13 _ (by omega)]
      exact z2'
     ·rw [mergesOf_snoc hok, hadd.2.1]
      exact tokNew_snoc hx _ _ _ hnew
   exact ⟨_, _, _, ptr_add0 _ _ h7 0, CondP.mk (fun hc => ⟨_, _, _, ptr_add0 _ _ h7 0, all2 _ (pick_yes hc)⟩) fun hc => all2 _ (pick_no hc)⟩
  exact ⟨_, _, _, ptr_add0 _ _ h7 0, CondP.mk (fun hc => ⟨_, _, _, ptr_add0 _ _ h7 0, all _ (pick_yes hc)⟩) fun hc => all _ (pick_no hc)⟩
 ·rintro w5 hinv
  refine hI _ _ (Ar.nat (2 * 30 + 1) (by omega) (by omega) (CondP.mk (fun hl => ?_) fun hl => fin 30 w5 rfl hinv))
  exact CondP.no (by simp) (fin 30 w5 rfl hinv)
structure LsAt {α : Type} (enc : α → List Value) (sz : Nat) (w : World) (l : Sl) (xs : List α) : Prop where
 n : l.n = xs.length
 r : Rw enc sz w l.a xs
 k : SlOk l
structure ElT {α : Type} (enc : α → List Value) (sz : Nat) (t e : TypeId) (bytes : Nat) : Prop where
 hsz : ∀ x, (enc x).length = sz
 h0 : 0 < sz
 h1 : ∀ x, ∀ u ∈ enc x, u.oneCell' = true
 ht : Tryz.prog.underlying t = some (.slice e)
 hz : ∃ z : Value, (Tryz.prog.info? e).map (fun i => (i.zero, i.size, i.bytes)) = some (some z, sz, bytes) ∧ z.cells.size = sz
theorem elInt : ElT encInt 1 tInts tInt 8 := ⟨fun _ => rfl, by decide, fun x u hu => by rw [List.mem_singleton.1 hu]; rfl, undInts, _, infoInt, rfl⟩
theorem LsAt.of_own {α : Type} {enc : α → List Value} {sz bytes : Nat} {t e : TypeId} (E : ElT enc sz t e bytes) {w : World} {B : Nat} {l : Sl} {xs : List α} (h : w.ownsRow B e sz l.v l.n (xs.flatMap enc)) : LsAt enc sz w l xs :=
 have := Rw.of_own h E.hsz E.h0
 ⟨this.2, this.1, own_slOk h⟩
theorem ElT.push {α : Type} {enc : α → List Value} {sz bytes : Nat} {t e : TypeId} (E : ElT enc sz t e bytes) {B : Nat} {w2 w3 : World} {s : Sl} {xs : List α} (hown : w2.ownsRow B e sz s.v s.n (xs.flatMap enc)) (x : α) {T : TypeId} {c : Array Value} (hw : w3 = w2.alloc (.cells c T)) (hc : c = (enc x).toArray) (hB : B ≤ w2.heap.size) (hn : s.n ≤ 1000000000) (hb : bytes ≤ 1000) :
  ∃ (l : Sl) (w4 : World), l.n = s.n + 1 ∧ (Builtin.append_ #[t, t] t #[.slice s.a s.n s.c, .slice (some (nb w2)) 1 1]).run Tryz.prog w3 = .ok (.slice l.a l.n l.c) w4 ∧ w4.ownsRow B e sz l.v l.n ((xs ++ [x]).flatMap enc) ∧ (∀ w0, Below B w0 w2 → Below B w0 w4) ∧ (∀ k, k < w2.heap.size → s.v.ownBlock ≠ some k → w4.heap[k]? = w2.heap[k]?) := by
 obtain ⟨z, hi, hzs⟩ := E.hz
 subst hw hc
 have hba := below_alloc w2 (.cells (enc x).toArray T)
 have hmul : (s.n + 1) * bytes ≤ (1000000000 + 1) * 1000 := Nat.mul_le_mul (by omega) hb
 obtain ⟨A, C, w4, h1, h2, h3, h4⟩ := push_any (enc := enc) (sz := sz) E.hsz E.h0 E.h1 t e E.ht hi hzs (own_on hown hba) x (alloc_new w2 _) (Nat.le_trans hB hba.size) (by omega) (by omega)
 refine ⟨⟨A, s.n + 1, C⟩, w4, rfl, h1, h2, fun w0 h0 => h3 w0 (h0.trans (hba.mono hB)), fun k hk hne => ?_⟩
 rw [h4 k (Nat.lt_of_lt_of_le hk hba.size) hne, hba.block k hk]
theorem ElT.spread {α : Type} {enc : α → List Value} {sz bytes : Nat} {t e : TypeId} (E : ElT enc sz t e bytes) {B : Nat} {w2 : World} {s l : Sl} {xs ys : List α} (hown : w2.ownsRow B e sz s.v s.n (xs.flatMap enc)) (hl : LsAt enc sz w2 l ys) (hB : B ≤ w2.heap.size) (hn : s.n ≤ 1000000000) (hm : l.n ≤ 1000000000) (hb : bytes ≤ 1000) :
  ∃ (r : Sl) (w4 : World), r.n = s.n + l.n ∧ (Builtin.append_ #[t, t] t #[.slice s.a s.n s.c, .slice l.a l.n l.c]).run Tryz.prog w2 = .ok (.slice r.a r.n r.c) w4 ∧ w4.ownsRow B e sz r.v r.n ((xs ++ ys).flatMap enc) ∧ (∀ w0, Below B w0 w2 → Below B w0 w4) ∧ (∀ k, k < w2.heap.size → s.v.ownBlock ≠ some k → w4.heap[k]? = w2.heap[k]?) ∧ ∀ k, r.v.ownBlock = some k → s.v.ownBlock = some k ∨ w2.heap.size ≤ k := by
 obtain ⟨z, hi, hzs⟩ := E.hz
 have hmul : (s.n + l.n) * bytes ≤ (1000000000 + 1000000000) * 1000 := Nat.mul_le_mul (by omega) hb
 have hr := hl.r
 obtain ⟨A, C, w4, h1, h2, h3, h4, h5⟩ := run_spread2 (P := Tryz.prog) t e E.ht hi hzs E.h0 hown l hl.k (ys.flatMap enc) (by rw [flatMap_length E.hsz, hl.n]) (by
  intro a ha j u hj
  rw [ha] at hr
  exact hr.flat E.hsz E.h0 j u hj) (by
  intro u hu
  obtain ⟨x, _, hx⟩ := List.mem_flatMap.1 hu
  exact E.h1 x u hx) (by omega) (by omega) hB
 exact ⟨⟨A, s.n + l.n, C⟩, w4, rfl, h1, by rw [List.flatMap_append]; exact h2, h3, h4, h5⟩
theorem own_none (w : World) (B : Nat) (e : TypeId) (sz : Nat) {α : Type} (enc : α → List Value) : w.ownsRow B e sz sl0.v sl0.n (([] : List α).flatMap enc) := own_nil w B e sz
theorem refLoad_spec (w : World) (x : SpecW) (s : SpecV) (h : SpecAt w x s) (hr : s.ranked = false) (hl : s.merges.length ≤ 1000000) : CP 156 #[x.v] w fun e w' => ∃ u, e = .returned u ∧ RNewR w s.merges u w' := by
 refine vc156_calls x.ranked x.s1.a x.s1.n x.s1.c x.s2.a x.s2.n x.s2.c x.s3.a x.s3.n x.s3.c x.s4.a x.s4.n x.s4.c x.s5.a x.s5.n x.s5.c w (RNewR w s.merges) ?_
 intro w1 hw1 w2 hw2
 have hb1 : Below w.heap.size w w1 := by subst hw1; exact below_alloc _ _
 have b2 : Below w1.heap.size w1 w2 := by subst hw2; exact below_alloc _ _
 have hb2 := below_then hb1 b2
 have p1 : w1.heap[w.heap.size]? = some (.cells x.cells tSpec (0, 0)) := by subst hw1; exact alloc_new _ _
 have p2 := held_on b2 p1
 have l2 : w2.heap[w1.heap.size]? = some (.cells #[sl0.v, sl0.v] tRt (0, 0)) := by subst hw2; exact alloc_new _ _
 refine ⟨_, ptr_add0 _ _ p2 0, CondP.no (by rw [h.ranked, hr]) ⟨_, _, _, ptr_add0 _ _ p2 1, ?_⟩⟩
 have hn := h.n1
 obtain ⟨⟨a, n, c⟩, hx⟩ : ∃ y : Sl, y = x.s1 := ⟨_, rfl⟩
 rw [← hx] at hn ⊢
 change n = s.merges.length at hn
 subst hn
 have hr2 : Rw encPair 2 w2 a s.merges := by have := (h.on hb2).r1; rw [← hx] at this; exact this
 refine (refNew_spec w2 a c s.merges hr2 hl).mono ?_
 rintro e w5 ⟨u, rfl, y, n, e, rfl, b5, hp⟩
 refine ⟨_, _, _, _, _, _, n, e, rfl, ?_⟩
 have l5 := held_on b5 l2
 refine storeP_cells l5 [y.b.v, y.m.v] rfl (ones_slices _ _) ?_
 intro w6 h6 hs6 hz6 hB6
 have hbb := below_then hb2 b5
 refine ⟨_, _, _, _, _, _, agg2 h6, y, n, e, rfl, hB6 _ _ hb1.size hbb, ?_⟩
 cases hx : tokNew begins 0 s.merges with
 | error q => rw [hx] at hp; exact hp
 | ok es => rw [hx] at hp; exact ⟨hp.1, hp.2.1, hp.2.2.1.past l5 (fun j _ hj => hs6 j hj) (Nat.le_of_eq hz6.symm), hp.2.2.2.1, hp.2.2.2.2.mono hb2.size⟩
structure BtAt (w : World) (x : RtW) (cls : List (Int × Int × Int)) (js : List (Int × Int)) : Prop where
 n1 : x.b.n = cls.length
 r1 : Rw encClass 3 w x.b.a cls
 n2 : x.m.n = js.length
 r2 : Rw encPair 2 w x.m.a js
theorem BtAt.on {w w' : World} {x : RtW} {cls : List (Int × Int × Int)} {js : List (Int × Int)} (h : BtAt w x cls js) (hb : Below w.heap.size w w') : BtAt w' x cls js := ⟨h.n1, h.r1.on hb, h.n2, h.r2.on hb⟩
abbrev tBt : TypeId := 37
theorem allTake {α : Type} {p : α → Bool} {l : List α} {i : Nat} (hi : i < l.length) (h : (l.take i).all p = true) (hp : p l[i] = true) : (l.take (i + 1)).all p = true := by
 rw [List.take_add_one, List.getElem?_eq_getElem hi, List.all_append, h]
 simpa using hp
theorem all_not {α : Type} {p : α → Bool} {l : List α} {i : Nat} (hi : i < l.length) (hp : p l[i] = false) : l.all p = false := by
 rw [List.all_eq_false]
 exact ⟨_, List.getElem_mem hi, by simp [hp]⟩
theorem refRight_spec (w : World) (x : RtW) (cls : List (Int × Int × Int)) (js : List (Int × Int)) (h : BtAt w x cls js) (hl : cls.length ≤ 1000000) (hj : js.length ≤ 1000000) : CP 108 #[x.v] w fun e w' => e = .returned (.bool (cls.all classOk && js.all joinOk)) ∧ Below w.heap.size w w' := by
 refine calls_ret (vc108_calls x.b.a x.b.n x.b.c x.m.a x.m.n x.m.c w (fun u w' => u = .bool (cls.all classOk && js.all joinOk) ∧ Below w.heap.size w w') ?_) (by rintro v w' ⟨rfl, h⟩; exact ⟨rfl, h⟩)
 intro w1 hw1
 have hb1 : Below w.heap.size w w1 := by subst hw1; exact below_alloc _ _
 have l1 : w1.heap[w.heap.size]? = some (.cells #[x.b.v, x.m.v] tBt (0, 0)) := by subst hw1; exact alloc_new _ _
 have hn1 := h.n1
 have hn2 := h.n2
 intro I hI
 have key := climb2 (α := Bool × World) cls.length (fun i y => (cls.take i).all classOk = true ∧ Below w1.heap.size w1 y.2) (fun i y => I [.int .i64 (i : Int), .bool y.1] y.2) (false, w1) ⟨by simp, Below.refl _ _⟩ ?_ ?_
 ·exact key
 ·rintro i hi ih ⟨y, q⟩ ⟨hall, hB⟩
  change Below w1.heap.size w1 q at hB
  have lq := held_on hB l1
  obtain ⟨p, hp, _, hc⟩ := ((h.on hb1).on hB).r1 i _ (List.getElem?_eq_getElem hi)
  have c0 := hc 0 _ rfl
  rw [add_zero] at c0
  refine hI _ y q ⟨_, _, _, ptr_add0 _ _ lq 0, CondP.yes (by simp; omega) ⟨_, _, _, ptr_add0 _ _ lq 0, NilC.mk p hp ⟨by omega, by omega, _, _, _, ⟨c0, hc 1 _ rfl, hc 2 _ rfl, trivial⟩, ?_⟩⟩⟩
  intro w3 hw3
  refine storeP_new [.int .i64 0, .int .i64 0, .int .i64 0] [.int .i64 cls[i].1, .int .i64 cls[i].2.1, .int .i64 cls[i].2.2] rfl (ones_class _ _ _) w3 hw3 ?_
  intro w4 h4 hz4 b4
  have hBw := below_then hb1 (below_then hB b4)
  have no : classOk cls[i] = false → Value.bool false = Value.bool (cls.all classOk && js.all joinOk) ∧ Below w.heap.size w w4 := by
   intro e
   rw [all_not hi e]
   exact ⟨rfl, hBw⟩
  refine ⟨_, ptr_add0 _ _ h4 0, CondP.mk (fun e => no ?_) fun e1 => ⟨_, ptr_add0 _ _ h4 1, _, ptr_add0 _ _ h4 0, CondP.mk (fun e => no ?_) fun e2 => ⟨_, ptr_add0 _ _ h4 1, CondP.mk (fun e => no ?_) fun e3 => ⟨_, ptr_add0 _ _ h4 2, CondP.mk (fun e => no ?_) fun e4 => ⟨_, ptr_add0 _ _ h4 2, CondP.mk (fun e => no ?_) fun e5 => Ar.nat (i + 1) rfl (by omega) (ih (y, w4) ⟨allTake hi hall ?_, below_then hB b4⟩)⟩⟩⟩⟩⟩
  ·have e := of_decide_eq_true e; exact decide_eq_false (by omega)
  ·have e := of_decide_eq_true e; exact decide_eq_false (by omega)
  ·have e := of_decide_eq_true e; exact decide_eq_false (by omega)
  ·have e := of_decide_eq_true e; exact decide_eq_false (by omega)
  ·have e := of_decide_eq_true e; exact decide_eq_false (by omega)
  ·have e1 := of_decide_eq_false e1
   have e2 := of_decide_eq_false e2
   have e3 := of_decide_eq_false e3
   have e4 := of_decide_eq_false e4
   have e5 := of_decide_eq_false e5
   exact decide_eq_true (by omega)
 ·rintro ⟨y, q⟩ ⟨hall, hB⟩
  change Below w1.heap.size w1 q at hB
  rw [List.take_length] at hall
  refine hI _ y q ⟨_, _, _, ptr_add0 _ _ (held_on hB l1) 0, CondP.no (by simp; omega) ?_⟩
  intro I2 hI2
  have key2 := climb2 (α := Bool × World) js.length (fun i y => (js.take i).all joinOk = true ∧ Below w1.heap.size w1 y.2) (fun i y => I2 [.int .i64 (i : Int), .bool y.1] y.2) (y, q) ⟨by simp, hB⟩ ?_ ?_
  ·exact key2
  ·rintro i hi ih ⟨y, q⟩ ⟨hall2, hB⟩
   change Below w1.heap.size w1 q at hB
   have lq := held_on hB l1
   obtain ⟨p, hp, _, hc⟩ := ((h.on hb1).on hB).r2 i _ (List.getElem?_eq_getElem hi)
   have c0 := hc 0 _ rfl
   rw [add_zero] at c0
   refine hI2 _ y q ⟨_, _, _, ptr_add0 _ _ lq 1, CondP.yes (by simp; omega) ⟨_, _, _, ptr_add0 _ _ lq 1, NilC.mk p hp ⟨by omega, by omega, _, _, ⟨c0, hc 1 _ rfl, trivial⟩, ?_⟩⟩⟩
   intro w3 hw3
   refine storeP_new [.int .i64 0, .int .i64 0] [.int .i64 js[i].1, .int .i64 js[i].2] rfl (ones_pair _ _) w3 hw3 ?_
   intro w4 h4 hz4 b4
   have hBw := below_then hb1 (below_then hB b4)
   have no : joinOk js[i] = false → Value.bool false = Value.bool (cls.all classOk && js.all joinOk) ∧ Below w.heap.size w w4 := by
    intro e
    rw [all_not hi e, Bool.and_false]
    exact ⟨rfl, hBw⟩
   refine ⟨_, ptr_add0 _ _ h4 0, CondP.mk (fun e => no ?_) fun e1 => ⟨_, ptr_add0 _ _ h4 0, CondP.mk (fun e => no ?_) fun e2 => ⟨_, ptr_add0 _ _ h4 1, CondP.mk (fun e => no ?_) fun e3 => ⟨_, ptr_add0 _ _ h4 1, CondP.mk (fun e => no ?_) fun e4 => Ar.nat (i + 1) rfl (by omega) (ih (y, w4) ⟨allTake hi hall2 ?_, below_then hB b4⟩)⟩⟩⟩⟩
   ·have e := of_decide_eq_true e; exact decide_eq_false (by omega)
   ·have e := of_decide_eq_true e; exact decide_eq_false (by omega)
   ·have e := of_decide_eq_true e; exact decide_eq_false (by omega)
   ·have e := of_decide_eq_true e; exact decide_eq_false (by omega)
   ·have e1 := of_decide_eq_false e1
    have e2 := of_decide_eq_false e2
    have e3 := of_decide_eq_false e3
    have e4 := of_decide_eq_false e4
    exact decide_eq_true (by omega)
  ·rintro ⟨y, q⟩ ⟨hall2, hB⟩
   change Below w1.heap.size w1 q at hB
   rw [List.take_length] at hall2
   refine hI2 _ y q ⟨_, _, _, ptr_add0 _ _ (held_on hB l1) 1, CondP.no (by simp; omega) ⟨?_, below_then hb1 hB⟩⟩
   rw [hall, hall2]
   rfl
def checkV (xs : List (Int × Bs)) : Value := match markErr [] 0 xs with
 | none => .tuple #[.int .i64 (xs.length : Int), .int .i64 0]
 | some q => .tuple #[.int .i64 (q.1 : Int), .int .i64 q.2]
theorem refCheck_spec (w : World) (A : Option Addr) (C : Nat) (xs : List (Int × Bs)) (hr : Rw encSpecial 2 w A xs) (hl : xs.length ≤ 1000000) : CP 109 #[.slice A xs.length C] w fun e w' => e = .returned (checkV xs) ∧ Below w.heap.size w w' := by
 refine calls_ret (vc109_calls A xs.length C w (fun u w' => u = checkV xs ∧ Below w.heap.size w w') ?_) (by rintro v w' ⟨rfl, h⟩; exact ⟨rfl, h⟩)
 intro I hI
 have key := climb2 (α := Int × Int × World) xs.length (fun i y => markErr [] 0 xs = markErr (xs.take i) i (xs.drop i) ∧ Below w.heap.size w y.2.2) (fun i y => I [.int .i64 (i : Int), .int .i64 y.1, .int .i64 y.2.1] y.2.2) (0, 0, w) ⟨by simp, Below.refl _ _⟩ ?_ ?_
 ·exact key
 ·rintro i hi ih ⟨y3, y2, q⟩ ⟨heq, hB⟩
  change Below w.heap.size w q at hB
  obtain ⟨p, hp, _, hc⟩ := (hr.on hB) i _ (List.getElem?_eq_getElem hi)
  have hlen : (xs.take i).length = i := by rw [List.length_take]; omega
  rw [List.drop_eq_getElem_cons hi, markErr] at heq
  have out : ∀ (n : Int) (v : World), n ≠ 0 → markAdd (xs.take i) xs[i] = n → Below w.heap.size w v → Value.tuple #[.int .i64 (i : Int), .int .i64 n] = checkV xs ∧ Below w.heap.size w v := by
   intro n v hn e hv
   refine ⟨?_, hv⟩
   rw [if_neg (by rw [e]; exact hn), e] at heq
   rw [checkV, heq]
  have one : specialOk xs[i] = false → markAdd (xs.take i) xs[i] = 1 := fun e => by rw [markAdd, if_pos e]
  refine hI _ y3 y2 q (CondP.yes (by simp; omega) (NilC.mk p hp ⟨by omega, by omega, _, hc 0 _ rfl, CondP.mk (fun e => out 1 q (by decide) (one ?_) hB) fun e1 => (NilC.mk p hp ⟨by omega, by omega, _, hc 0 _ rfl, CondP.mk (fun e => out 1 q (by decide) (one ?_) hB) fun e2 => (NilC.mk p hp ⟨by omega, by omega, _, hc 1 _ rfl, CondP.mk (fun e => out 1 q (by decide) (one ?_) hB) fun e3 => (NilC.mk p hp ⟨by omega, by omega, _, hc 1 _ rfl, CondP.mk (fun e => out 1 q (by decide) (one ?_) hB) fun e4 => ?_⟩)⟩)⟩)⟩))
  ·have e := of_decide_eq_true e; exact decide_eq_false (by omega)
  ·have e := of_decide_eq_true e; exact decide_eq_false (by omega)
  ·have e := of_decide_eq_true e; rw [str_size] at e; exact decide_eq_false (by omega)
  ·have e := of_decide_eq_true e; rw [str_size] at e; exact decide_eq_false (by omega)
  have hok : ¬ specialOk xs[i] = false := by
   have e1 := of_decide_eq_false e1
   have e2 := of_decide_eq_false e2
   have e3 := of_decide_eq_false e3
   have e4 := of_decide_eq_false e4
   rw [str_size] at e3 e4
   rw [specialOk, decide_eq_true (by omega)]
   simp
  refine CondP.mk (fun e => out 3 q (by decide) ?_ hB) fun e => ?_
  ·have e := of_decide_eq_true e
   rw [markAdd, if_neg hok, hlen, if_pos (by omega)]
  have e := of_decide_eq_false e
  have h32 : ¬ 32 ≤ (xs.take i).length := by rw [hlen]; omega
  intro I7 hI7
  have key7 := climb2 (α := Int × Int × World) i (fun k y => (xs[i].1 ∉ (xs.take k).map (·.1) ∧ xs[i].2 ∉ (xs.take k).map (·.2)) ∧ Below w.heap.size w y.2.2) (fun k y => I7 [.int .i64 (k : Int), .int .i64 y.1, .int .i64 y.2.1] y.2.2) (y3, y2, q) ⟨by simp, hB⟩ ?_ ?_
  ·exact key7
  ·rintro k hk ih7 ⟨z3, z2, v⟩ ⟨hno, hBv⟩
   change Below w.heap.size w v at hBv
   refine hI7 _ z3 z2 v (CondP.yes (by simp; omega) ?_)
   intro v3 hv3
   have b3 : Below v.heap.size v v3 := by subst hv3; exact drew_on v
   have hB3 : Below w.heap.size w v3 := hBv.trans (b3.mono hBv.size)
   have hkl : k < xs.length := by omega
   obtain ⟨p', hp', _, hc'⟩ := (hr.on hB3) i _ (List.getElem?_eq_getElem hi)
   obtain ⟨pk, hpk, _, hck⟩ := (hr.on hB3) k _ (List.getElem?_eq_getElem hkl)
   have mem : xs[k] ∈ xs.take i := List.mem_take_iff_getElem.2 ⟨k, by omega, rfl⟩
   refine NilC.mk pk hpk ⟨by omega, by omega, _, hck 0 _ rfl, NilC.mk p' hp' ⟨by omega, by omega, _, hc' 0 _ rfl, CondP.mk (fun h0 => out 10 v3 (by decide) ?_ hB3) fun h0 => NilC.mk pk hpk ⟨by omega, by omega, _, hck 1 _ rfl, NilC.mk p' hp' ⟨by omega, by omega, _, hc' 1 _ rfl, CondP.mk (fun h1 => out 10 v3 (by decide) ?_ hB3) fun h1 => Ar.nat (k + 1) rfl (by omega) (ih7 (z3, z2, v3) ⟨?_, hB3⟩)⟩⟩⟩⟩
   ·have h0 : xs[k].1 = xs[i].1 := by simpa using h0
    rw [markAdd, if_neg hok, if_neg h32, if_pos (.inl (by rw [← h0]; exact List.mem_map_of_mem mem))]
   ·rw [str_toList, str_toList] at h1
    have h1 : xs[k].2 = xs[i].2 := by simpa using h1
    rw [markAdd, if_neg hok, if_neg h32, if_pos (.inr (by rw [← h1]; exact List.mem_map_of_mem mem))]
   ·rw [str_toList, str_toList] at h1
    have h0 : ¬ xs[k].1 = xs[i].1 := by simpa using h0
    have h1 : ¬ xs[k].2 = xs[i].2 := by simpa using h1
    rw [List.take_add_one, List.getElem?_eq_getElem hkl]
    simp only [Option.toList_some, List.map_append, List.map_cons, List.map_nil, List.mem_append, List.mem_singleton, not_or]
    exact ⟨⟨hno.1, fun e => h0 e.symm⟩, hno.2, fun e => h1 e.symm⟩
  ·rintro ⟨z3, z2, v⟩ ⟨hno, hBv⟩
   change Below w.heap.size w v at hBv
   have hadd : markAdd (xs.take i) xs[i] = 0 := by rw [markAdd, if_neg hok, if_neg h32, if_neg (not_or.2 hno)]
   refine hI7 _ z3 z2 v (CondP.no (by simp) (Ar.nat (i + 1) rfl (by omega) (ih (z3, z2, v) ⟨?_, hBv⟩)))
   rw [heq, if_pos hadd, List.take_add_one, List.getElem?_eq_getElem hi]
   rfl
 ·rintro ⟨y3, y2, q⟩ ⟨heq, hB⟩
  refine hI _ y3 y2 q (CondP.no (by simp) ⟨?_, hB⟩)
  rw [List.drop_length, markErr] at heq
  rw [checkV, heq]
def greatX (xs : List (Int × Bs)) : Bool := xs.any (fun x => decide (100 < x.2.length)) || decide (40 < xs.length)
theorem refGreat9_spec (w : World) (A : Option Addr) (C : Nat) (xs : List (Int × Bs)) (hr : Rw encSpecial 2 w A xs) (hl : xs.length ≤ 9223372036854775807) : CP 104 #[.slice A xs.length C] w fun e w' => e = .returned (.bool (greatX xs)) ∧ w' = w := by
 refine calls_ret (vc104_calls A xs.length C w (fun u w' => u = .bool (greatX xs) ∧ w' = w) ?_) (by rintro v w' ⟨rfl, h⟩; exact ⟨rfl, h⟩)
 intro I hI
 have key := climb2 (α := Bool) xs.length (fun i _ => (xs.take i).any (fun x => decide (100 < x.2.length)) = false) (fun i y => I [.int .i64 (i : Int), .bool y] w) false (by simp) ?_ ?_
 ·exact key
 ·rintro i hi ih y hinv
  obtain ⟨p, hp, _, hc⟩ := hr i _ (List.getElem?_eq_getElem hi)
  refine hI _ y w (CondP.yes (by simp; omega) (NilC.mk p hp ⟨by omega, by omega, _, hc 1 _ rfl, CondP.mk (fun e => ⟨?_, rfl⟩) fun e => Ar.nat (i + 1) rfl (by omega) (ih y ?_)⟩))
  ·have e := of_decide_eq_true e
   rw [str_size] at e
   have : xs.any (fun x => decide (100 < x.2.length)) = true := List.any_eq_true.2 ⟨_, List.getElem_mem hi, decide_eq_true (by omega)⟩
   rw [greatX, this]
   rfl
  ·have e := of_decide_eq_false e
   rw [str_size] at e
   rw [List.take_add_one, List.getElem?_eq_getElem hi, List.any_append, hinv]
   simp
   omega
 ·rintro y hinv
  rw [List.take_length] at hinv
  refine hI _ y w (CondP.no (by simp) ⟨?_, rfl⟩)
  rw [greatX, hinv, Bool.false_or]
  congr 1
  exact decide_eq_decide.2 (by omega)
theorem refGreat_spec (w : World) (A1 : Option Addr) (N1 C1 : Nat) (A2 : Option Addr) (N2 C2 : Nat) (A3 : Option Addr) (N3 C3 : Nat) (A : Option Addr) (C : Nat) (xs : List (Int × Bs)) (hr : Rw encSpecial 2 w A xs) (hl : xs.length ≤ 9223372036854775807) : CP 63 #[.slice A1 N1 C1, .slice A2 N2 C2, .slice A3 N3 C3, .slice A xs.length C] w fun e w' => e = .returned (.bool (decide (60 < N1 ∨ 20 < N2 ∨ 20 < N3) || greatX xs)) ∧ w' = w := by
 refine calls_ret (vc63_calls A1 N1 C1 A2 N2 C2 A3 N3 C3 A xs.length C w (fun u w' => u = .bool (decide (60 < N1 ∨ 20 < N2 ∨ 20 < N3) || greatX xs) ∧ w' = w) ?_) (by rintro v w' ⟨rfl, h⟩; exact ⟨rfl, h⟩)
 refine CondP.mk (fun h1 => ⟨?_, rfl⟩) fun h1 => CondP.mk (fun h2 => ⟨?_, rfl⟩) fun h2 => CondP.mk (fun h3 => ⟨?_, rfl⟩) fun h3 => ?_
 ·have := of_decide_eq_true h1
  rw [decide_eq_true (by omega)]
  rfl
 ·have := of_decide_eq_true h2
  rw [decide_eq_true (by omega)]
  rfl
 ·have := of_decide_eq_true h3
  rw [decide_eq_true (by omega)]
  rfl
 ·have h1 := of_decide_eq_false h1
  have h2 := of_decide_eq_false h2
  have h3 := of_decide_eq_false h3
  refine (refGreat9_spec w A C xs hr hl).mono ?_
  rintro e w' ⟨rfl, hw⟩
  subst hw
  refine ⟨_, rfl, ?_, rfl⟩
  rw [decide_eq_false (by omega), Bool.false_or]
theorem store_one {w : World} {p : Addr} {v : Value} {k : World → Prop} (h : StoreP w p k [v] 0) : v.oneCell' = true ∧ (∃ u, w.cell? p = some u) ∧ w.frozen? p = false ∧ ∀ w', w' = w.setCell p v → k w' := by
 obtain ⟨h1, h2, h3, h4⟩ := h
 rw [add_zero] at h2 h3 h4
 exact ⟨h1, h2, h3, h4⟩
structure RvW where
 t : RtW
 b : RtW
 sp : Sl
abbrev RvW.cells (x : RvW) : Array Value := #[x.t.b.v, x.t.m.v, x.b.b.v, x.b.m.v, x.sp.v]
abbrev RvW.v (x : RvW) : Value := .agg x.cells
structure RvAt (w : World) (x : RvW) (s : SpecV) (T : List Ent) : Prop where
 t : RtAt w x.t T
 b : BtAt w x.b s.classes s.joins
 sn : x.sp.n = s.specials.length
 sr : Rw encSpecial 2 w x.sp.a s.specials
 ok : TOk T
 right : s.right = true
 ids : ∀ y ∈ s.specials, (T.length : Int) ≤ y.1
 nodup : (s.specials.map (·.1)).Nodup
theorem RvAt.on {w w' : World} {x : RvW} {s : SpecV} {T : List Ent} (h : RvAt w x s T) (hb : Below w.heap.size w w') : RvAt w' x s T := ⟨h.t.on hb, h.b.on hb, h.sn, h.sr.on hb, h.ok, h.right, h.ids, h.nodup⟩
theorem RvAt.vok {w : World} {x : RvW} {s : SpecV} {T : List Ent} (h : RvAt w x s T) : (vocOf s T).Ok := by
 have ml := merges_length h.ok
 refine ⟨good_of h.ok, h.nodup, fun t ht => ?_⟩
 obtain ⟨y, hy, rfl⟩ := List.mem_map.1 ht
 have := h.ids y hy
 show 256 + ((mergesOf T).length : Int) ≤ y.1
 omega
abbrev tRv : TypeId := 39
theorem agg5 {w : World} {b : Nat} {x : RvW} {T : TypeId} {fz : Nat × Nat} (h : w.heap[b]? = some (.cells x.cells T fz)) :
  w.cell? ⟨b, 0, none⟩ = some x.t.b.v ∧ w.cell? ((⟨b, 0, none⟩ : Addr).add 1) = some x.t.m.v ∧ w.cell? ((⟨b, 0, none⟩ : Addr).add 2) = some x.b.b.v ∧ w.cell? ((⟨b, 0, none⟩ : Addr).add 3) = some x.b.m.v ∧ w.cell? ((⟨b, 0, none⟩ : Addr).add 4) = some x.sp.v ∧ True := by
 have hc : ∀ j, w.cell? ((⟨b, 0, none⟩ : Addr).add j) = x.cells[j]? := fun j => ptr_add0 _ _ h j
 exact ⟨by have := hc 0; rw [add_zero] at this; exact this, hc 1, hc 2, hc 3, hc 4, trivial⟩
def encU8 (b : UInt8) : List Value := [.int .u8 ((b.toNat : Nat) : Int)]
theorem u8_cells (l : List UInt8) : l.flatMap encU8 = Lib.byteCells l := by
 induction l with
 | nil => rfl
 | cons b l ih => rw [List.flatMap_cons, ih]; rfl
theorem elU8 : ElT encU8 1 tBytes tU8 1 := ⟨fun _ => rfl, by decide, fun x u hu => by rw [List.mem_singleton.1 hu]; rfl, undBytes, _, infoU8, rfl⟩
theorem own_zero {w : World} {B : Nat} {e : TypeId} {sz : Nat} {k : Nat} (h : w.heap[k]? = some (.cells #[] e (0, 0))) (hB : B ≤ k) : w.ownsRow B e sz (.slice (some ⟨k, 0, none⟩) 0 0) 0 [] :=
 ⟨by simp, .inr ⟨k, 0, #[], rfl, hB, h, Nat.le_refl _, by simp⟩⟩
abbrev slRv (x : RvW) : List Value := [x.t.b.v, x.t.m.v, x.b.b.v, x.b.m.v, x.sp.v]
theorem ones_rv (x : RvW) : ∀ v ∈ slRv x, v.oneCell' = true := by
 intro v hv
 simp only [slRv, List.mem_cons, List.not_mem_nil, or_false] at hv
 rcases hv with rfl | rfl | rfl | rfl | rfl <;> rfl
theorem soft_rv (x : RvW) : ∀ v ∈ x.cells, ¬ Solid v := by
 intro v hv
 simp only [List.mem_toArray, List.mem_cons, List.not_mem_nil, or_false] at hv
 rcases hv with rfl | rfl | rfl | rfl | rfl <;> (rintro (⟨k, n, h⟩ | ⟨s, h⟩) <;> cases h)
theorem BtAt.past {w w' : World} {x : RtW} {cls : List (Int × Int × Int)} {js : List (Int × Int)} {b : Nat} {c : Array Value} {T : TypeId} {fz : Nat × Nat} (h : BtAt w x cls js) (hb : w.heap[b]? = some (.cells c T fz)) (hc : ∀ v ∈ c, ¬ Solid v) (hne : ∀ j, j < w.heap.size → j ≠ b → w'.heap[j]? = w.heap[j]?) (hs : w.heap.size ≤ w'.heap.size) : BtAt w' x cls js :=
 ⟨h.n1, h.r1.past (fun y => ⟨_, rfl, solid_int _ _⟩) hb hc hne hs, h.n2, h.r2.past (fun y => ⟨_, rfl, solid_int _ _⟩) hb hc hne hs⟩
theorem RvAt.past {w w' : World} {x : RvW} {s : SpecV} {T : List Ent} {b : Nat} {c : Array Value} {ty : TypeId} {fz : Nat × Nat} (h : RvAt w x s T) (hb : w.heap[b]? = some (.cells c ty fz)) (hc : ∀ v ∈ c, ¬ Solid v) (hne : ∀ j, j < w.heap.size → j ≠ b → w'.heap[j]? = w.heap[j]?) (hs : w.heap.size ≤ w'.heap.size) : RvAt w' x s T :=
 ⟨⟨h.t.n1, h.t.r1.past (fun y => ⟨_, rfl, .inr ⟨_, rfl⟩⟩) hb hc hne hs, h.t.k1, h.t.n2, h.t.r2.past (fun y => ⟨_, rfl, solid_int _ _⟩) hb hc hne hs, h.t.k2⟩, h.b.past hb hc hne hs, h.sn, h.sr.past (fun y => ⟨_, rfl, solid_int _ _⟩) hb hc hne hs, h.ok, h.right, h.ids, h.nodup⟩
abbrev rv0 : RvW := ⟨⟨sl0, sl0⟩, ⟨sl0, sl0⟩, sl0⟩
theorem build_parts {s : SpecV} {T : List Ent} (h : buildV s = .ok T) (hr : s.ranked = false) : tokNew begins 0 s.merges = .ok T ∧ markErr [] 0 s.specials = none ∧ (∀ y ∈ s.specials, (T.length : Int) ≤ y.1) := by
 unfold buildV loadT at h
 rw [hr] at h
 simp only [Bool.false_eq_true, if_false] at h
 cases ht : tokNew begins 0 s.merges with
 | error q => rw [ht] at h; cases h
 | ok T' =>
  rw [ht] at h
  dsimp only at h
  cases hm : markErr [] 0 s.specials with
  | some q => rw [hm] at h; cases h
  | none =>
   rw [hm] at h
   dsimp only at h
   cases hf : s.specials.findIdx? (fun y => decide (y.1 < (T'.length : Int))) with
   | some i => rw [hf] at h; cases h
   | none =>
    rw [hf] at h
    cases h
    refine ⟨rfl, rfl, fun y hy => ?_⟩
    have := List.findIdx?_eq_none_iff.1 hf y hy
    simpa using this
theorem refVNew_spec (w : World) (x : SpecW) (s : SpecV) (h : SpecAt w x s) (hr : s.ranked = false) (hright : s.right = true) (T : List Ent) (hT : buildV s = .ok T) :
  CP 110 #[x.v] w fun e w' => ∃ y : RvW, e = .returned (.tuple #[y.v, .int .i64 0, .int .i64 0, .int .i64 0]) ∧ RvAt w' y s T ∧ Below w.heap.size w w' ∧ Fresh w.heap.size y.t ∧ y.b = ⟨x.s4, x.s5⟩ ∧ y.sp = x.s3 := by
 obtain ⟨hT1, hT2, hT3⟩ := build_parts hT hr
 have hsm := right_small hright
 have hnd : (s.specials.map (·.1)).Nodup := by simpa using markErr_nodup hT2 (by simp)
 refine calls_ret (vc110_calls x.ranked x.s1.a x.s1.n x.s1.c x.s2.a x.s2.n x.s2.c x.s3.a x.s3.n x.s3.c x.s4.a x.s4.n x.s4.c x.s5.a x.s5.n x.s5.c w (fun u w' => ∃ y : RvW, u = .tuple #[y.v, .int .i64 0, .int .i64 0, .int .i64 0] ∧ RvAt w' y s T ∧ Below w.heap.size w w' ∧ Fresh w.heap.size y.t ∧ y.b = ⟨x.s4, x.s5⟩ ∧ y.sp = x.s3) ?_) (by rintro v w' ⟨y, rfl, h⟩; exact ⟨y, rfl, h⟩)
 intro w1 hw1 w2 hw2
 have hb1 : Below w.heap.size w w1 := by subst hw1; exact below_alloc _ _
 have b2 : Below w1.heap.size w1 w2 := by subst hw2; exact below_alloc _ _
 have hb2 := below_then hb1 b2
 have p2 : w2.heap[w.heap.size]? = some (.cells x.cells tSpec (0, 0)) := held_on b2 (by subst hw1; exact alloc_new _ _)
 have z2 : w2.heap[w1.heap.size]? = some (.cells rv0.cells tRv (0, 0)) := by subst hw2; exact alloc_new _ _
 refine ⟨_, _, _, _, _, _, _, _, _, _, _, _, _, _, _, _, agg_cells p2, ?_⟩
 refine (refLoad_spec w2 x s (h.on hb2) hr hsm.1).mono ?_
 rintro e w3 ⟨u, rfl, t, n, e, rfl, b3, hp⟩
 rw [hT1] at hp
 obtain ⟨rfl, rfl, ht, htok, hfr⟩ := hp
 refine ⟨_, _, _, _, _, _, _, _, rfl, ?_⟩
 intro w4 hw4
 refine storeP_new [sl0.v, sl0.v] [t.b.v, t.m.v] rfl (ones_slices _ _) w4 hw4 ?_
 intro w5 h5 hz5 b5
 have b35 := below_then b3 b5
 have hb5 := below_then hb2 b35
 have p5 := held_on b35 p2
 have z5 := held_on b35 z2
 refine CondP.no rfl ⟨_, _, _, ptr_add0 _ _ p5 3, ?_⟩
 have hn3 := h.n3
 have hS := (h.on hb5).r3
 obtain ⟨⟨a3, n3, c3⟩, hx3⟩ : ∃ y : Sl, y = x.s3 := ⟨_, rfl⟩
 have e3 : n3 = s.specials.length := by rw [← hx3] at hn3; exact hn3
 have hS' : Rw encSpecial 2 w5 a3 s.specials := by rw [← hx3] at hS; exact hS
 rw [show x.s3.a = a3 by rw [← hx3], show x.s3.n = s.specials.length from hn3, show x.s3.c = c3 by rw [← hx3]]
 refine (refCheck_spec w5 a3 c3 s.specials hS' hsm.2.2.1).mono ?_
 rintro e w7 ⟨rfl, b7⟩
 have hck : checkV s.specials = .tuple #[.int .i64 (s.specials.length : Int), .int .i64 0] := by rw [checkV, hT2]
 refine ⟨_, _, by rw [hck], CondP.no rfl ?_⟩
 have hb7 := below_then hb5 b7
 intro I hI
 have key := climb2 (α := Int × Int × Int × World) s.specials.length (fun i y => Below w7.heap.size w7 y.2.2.2) (fun i y => I [.int .i64 (i : Int), .int .i64 y.1, .int .i64 y.2.1, .int .i64 y.2.2.1] y.2.2.2) (0, 0, 0, w7) (Below.refl _ _) ?_ ?_
 ·exact key
 ·rintro i hi ih ⟨y5, y4, y3, q⟩ hB
  change Below w7.heap.size w7 q at hB
  have pq := held_on hB (held_on b7 p5)
  have hfew := hsm.2.2.1
  refine hI _ y5 y4 y3 q ⟨_, _, _, ptr_add0 _ _ pq 3, CondP.yes (by simp; omega) ?_⟩
  intro w10 hw10
  have b10 : Below q.heap.size q w10 := by subst hw10; exact drew_on q
  have hB10 := below_then hB b10
  obtain ⟨p, hp, _, hc⟩ := ((h.on (below_then hb7 hB10)).r3) i _ (List.getElem?_eq_getElem hi)
  refine ⟨_, _, _, ptr_add0 _ _ (held_on b10 pq) 3, NilC.mk p hp ⟨by omega, by omega, _, hc 0 _ rfl, _, _, _, ptr_add0 _ _ (held_on hB10 (held_on b7 h5)) 0, CondP.no ?_ (Ar.nat (i + 1) rfl (by omega) (ih (y5, y4, y3, w10) hB10))⟩⟩
  have := hT3 _ (List.getElem_mem hi)
  have := ht.n1
  exact decide_eq_false (by omega)
 ·rintro ⟨y5, y4, y3, q⟩ hB
  change Below w7.heap.size w7 q at hB
  have pq := held_on hB (held_on b7 p5)
  have zq := held_on hB (held_on b7 z5)
  have tq := held_on hB (held_on b7 h5)
  have hbq := below_then hb7 hB
  have hq := h.on hbq
  refine hI _ y5 y4 y3 q ⟨_, _, _, ptr_add0 _ _ pq 3, CondP.no (by simp; omega) ⟨_, _, _, _, _, _, agg2 tq, _, _, _, ptr_add0 _ _ pq 4, _, _, _, ptr_add0 _ _ pq 5, _, _, _, ptr_add0 _ _ pq 3, ?_⟩⟩
  refine storeP_cells zq (slRv ⟨t, ⟨x.s4, x.s5⟩, x.s3⟩) rfl (ones_rv ⟨t, ⟨x.s4, x.s5⟩, x.s3⟩) ?_
  intro w12 h12 hs12 hz12 hB12
  have hv : RvAt q ⟨t, ⟨x.s4, x.s5⟩, x.s3⟩ s T := ⟨((ht.on b5).on b7).on hB, ⟨hq.n4, hq.r4, hq.n5, hq.r5⟩, hq.n3, hq.r3, htok, hright, hT3, hnd⟩
  exact ⟨_, _, _, _, _, _, _, _, _, _, _, _, _, _, _, agg5 (x := ⟨t, ⟨x.s4, x.s5⟩, x.s3⟩) h12, ⟨t, ⟨x.s4, x.s5⟩, x.s3⟩, rfl, hv.past zq (soft_rv rv0) (fun j _ hj => hs12 j hj) (Nat.le_of_eq hz12.symm), hB12 _ _ hb1.size hbq, hfr.mono hb2.size, rfl, rfl⟩
theorem refOf_spec (w : World) (x : SpecW) (s : SpecV) (h : SpecAt w x s) (hr : s.ranked = false) (hright : s.right = true) (T : List Ent) (hT : buildV s = .ok T) :
  CP 66 #[x.v] w fun e w' => ∃ y : RvW, e = .returned y.v ∧ RvAt w' y s T ∧ Below w.heap.size w w' ∧ Fresh w.heap.size y.t ∧ y.b = ⟨x.s4, x.s5⟩ ∧ y.sp = x.s3 := by
 refine calls_ret (vc66_calls x.ranked x.s1.a x.s1.n x.s1.c x.s2.a x.s2.n x.s2.c x.s3.a x.s3.n x.s3.c x.s4.a x.s4.n x.s4.c x.s5.a x.s5.n x.s5.c w (fun u w' => ∃ y : RvW, u = y.v ∧ RvAt w' y s T ∧ Below w.heap.size w w' ∧ Fresh w.heap.size y.t ∧ y.b = ⟨x.s4, x.s5⟩ ∧ y.sp = x.s3) ?_) (by rintro v w' ⟨y, rfl, h⟩; exact ⟨y, rfl, h⟩)
 intro w1 hw1 w2 hw2
 have hb1 : Below w.heap.size w w1 := by subst hw1; exact below_alloc _ _
 have b2 : Below w1.heap.size w1 w2 := by subst hw2; exact below_alloc _ _
 have hb2 := below_then hb1 b2
 have p2 : w2.heap[w.heap.size]? = some (.cells x.cells tSpec (0, 0)) := held_on b2 (by subst hw1; exact alloc_new _ _)
 have z2 : w2.heap[w1.heap.size]? = some (.cells rv0.cells tRv (0, 0)) := by subst hw2; exact alloc_new _ _
 refine ⟨_, _, _, _, _, _, _, _, _, _, _, _, _, _, _, _, agg_cells p2, ?_⟩
 refine (refVNew_spec w2 x s (h.on hb2) hr hright T hT).mono ?_
 rintro e w3 ⟨y, rfl, hy, b3, f3, e1, e2⟩
 refine ⟨_, _, _, _, _, _, _, _, _, _, _, _, _, _, _, _, _, _, rfl, ?_⟩
 intro w4 hw4
 refine storeP_new (slRv rv0) (slRv y) rfl (ones_rv y) w4 hw4 ?_
 intro w5 h5 hz5 b5
 have b35 := below_then b3 b5
 have z5 := held_on b35 z2
 refine ⟨_, _, _, _, _, _, _, _, _, _, _, _, _, _, _, agg5 (x := y) h5, ?_⟩
 refine storeP_cells z5 (slRv y) rfl (ones_rv y) ?_
 intro w6 h6 hs6 hz6 hB6
 exact ⟨_, _, _, _, _, _, _, _, _, _, _, _, _, _, _, agg5 (x := y) h6, y, rfl, (hy.on b5).past z5 (soft_rv rv0) (fun j _ hj => hs6 j hj) (Nat.le_of_eq hz6.symm), hB6 _ _ hb1.size (below_then hb2 b35), f3.mono hb2.size, e1, e2⟩
abbrev tSps : TypeId := 25
abbrev tCls : TypeId := 23
abbrev tJns : TypeId := 24
theorem elSpecial : ElT encSpecial 2 tSps tSp 24 := ⟨fun _ => rfl, by decide, fun x => ones_special _ _, undSps, _, infoSp, rfl⟩
theorem ElT.pushAt {α : Type} {enc : α → List Value} {sz bytes : Nat} {t e : TypeId} (E : ElT enc sz t e bytes) {B : Nat} {w : World} {s : Sl} {xs : List α} (hown : w.ownsRow B e sz s.v s.n (xs.flatMap enc)) (x : α) {b : Nat} {T : TypeId} {fz : Nat × Nat} (hx : w.heap[b]? = some (.cells (enc x).toArray T fz)) (hB : B ≤ w.heap.size) (hn : s.n ≤ 1000000000) (hb : bytes ≤ 1000) :
  ∃ (l : Sl) (w4 : World), l.n = s.n + 1 ∧ (Builtin.append_ #[t, t] t #[.slice s.a s.n s.c, .slice (some ⟨b, 0, none⟩) 1 1]).run Tryz.prog w = .ok (.slice l.a l.n l.c) w4 ∧ w4.ownsRow B e sz l.v l.n ((xs ++ [x]).flatMap enc) ∧ (∀ w0, Below B w0 w → Below B w0 w4) ∧ (∀ k, k < w.heap.size → s.v.ownBlock ≠ some k → w4.heap[k]? = w.heap[k]?) := by
 obtain ⟨z, hi, hzs⟩ := E.hz
 have hmul : (s.n + 1) * bytes ≤ (1000000000 + 1) * 1000 := Nat.mul_le_mul (by omega) hb
 obtain ⟨A, C, w4, h1, h2, h3, h4⟩ := push_any (enc := enc) (sz := sz) E.hsz E.h0 E.h1 t e E.ht hi hzs hown x hx hB (by omega) (by omega)
 exact ⟨⟨A, s.n + 1, C⟩, w4, rfl, h1, h2, h3, h4⟩
theorem Rw.cut {α : Type} {enc : α → List Value} {sz : Nat} {w : World} {a : Option Addr} {xs : List α} (h : Rw enc sz w a xs) (i m : Nat) (hm : xs.length ≤ m) : Rw enc sz w (slBase a i m sz) (xs.drop i) := by
 intro j x hj
 rw [List.getElem?_drop] at hj
 have hlt := (List.getElem?_eq_some_iff.1 hj).1
 obtain ⟨p, rfl, hp, hc⟩ := h _ _ hj
 unfold slBase
 rw [if_neg (by omega)]
 refine ⟨p.add (i * sz), rfl, by rw [add_block]; exact hp, fun k v hk => ?_⟩
 rw [Addr.add_add p, ← Nat.add_mul]
 exact hc k v hk
theorem Rw.take {α : Type} {enc : α → List Value} {sz : Nat} {w : World} {a : Option Addr} {xs : List α} (h : Rw enc sz w a xs) (n : Nat) : Rw enc sz w a (xs.take n) := by
 intro j x hj
 rw [List.getElem?_take] at hj
 split at hj
 ·exact h j x hj
 ·cases hj
theorem markErr_ok : ∀ (xs ys : List (Int × Bs)) (i : Nat), markErr ys i xs = none → ∀ x ∈ xs, specialOk x = true
 | [], _, _, _, x, hx => by cases hx
 | y :: xs, ys, i, h, x, hx => by
  rw [markErr] at h
  split at h
  ·rename_i h0
   rcases List.mem_cons.1 hx with rfl | hx
   ·cases hs : specialOk x with
    | true => rfl
    | false => rw [markAdd, if_pos hs] at h0; cases h0
   ·exact markErr_ok xs _ _ h x hx
  ·cases h
structure SomeSt (w4 q : World) (m : Sl) (sp cl jn : Sl) (xs : List (Int × Bs)) (cls : List (Int × Int × Int)) (js : List (Int × Int)) : Prop where
 blk : q.heap[w4.heap.size]? = some (.cells #[.bool false, m.v, sl0.v, sp.v, cl.v, jn.v] tSpec (0, 0))
 o1 : q.ownsRow w4.heap.size tSp 2 sp.v sp.n (xs.flatMap encSpecial)
 o2 : q.ownsRow w4.heap.size tCl 3 cl.v cl.n (cls.flatMap encClass)
 o3 : q.ownsRow w4.heap.size tJn 2 jn.v jn.n (js.flatMap encPair)
 cok : cls.all classOk = true
 jok : js.all joinOk = true
 mrk : markErr [] 0 xs = none
 xid : ∀ y ∈ xs, 1000 ≤ y.1 ∧ y.1 < 1006
 asc : (xs.map (·.1)).Pairwise (· < ·)
 l1 : xs.length ≤ 6
 l2 : cls.length ≤ 8
 l3 : js.length ≤ 8
 B : Below w4.heap.size w4 q
theorem SomeSt.on {w4 q q' : World} {m sp cl jn : Sl} {xs : List (Int × Bs)} {cls : List (Int × Int × Int)} {js : List (Int × Int)} (h : SomeSt w4 q m sp cl jn xs cls js) (hb : Below q.heap.size q q') : SomeSt w4 q' m sp cl jn xs cls js :=
 ⟨held_on hb h.blk, own_on h.o1 hb, own_on h.o2 hb, own_on h.o3 hb, h.cok, h.jok, h.mrk, h.xid, h.asc, h.l1, h.l2, h.l3, h.B.trans (hb.mono h.B.size)⟩
def someS (es : List Ent) (xs : List (Int × Bs)) (cls : List (Int × Int × Int)) (js : List (Int × Int)) : SpecV := { merges := mergesOf es, specials := xs, classes := cls, joins := js }
theorem some_right {es : List Ent} (h : TOk es) {xs : List (Int × Bs)} {cls : List (Int × Int × Int)} {js : List (Int × Int)} (cok : cls.all classOk = true) (jok : js.all joinOk = true) (mk : markErr [] 0 xs = none) (l1 : xs.length ≤ 6) (l2 : cls.length ≤ 8) (l3 : js.length ≤ 8) : (someS es xs cls js).right = true := by
 have hm := h.most
 have hml := merges_length h
 have e1 : allOk (mergesOf es) 744 mergeOk = true := by
  rw [allOk, decide_eq_true (by omega), Bool.true_and, List.all_eq_true]
  intro m hm
  obtain ⟨k, hk⟩ := List.getElem?_of_mem hm
  have hkl := (List.getElem?_eq_some_iff.1 hk).1
  obtain ⟨h1, h2⟩ := merges_at h hk
  exact decide_eq_true (by omega)
 have e2 : allOk xs 32 specialOk = true := by
  rw [allOk, decide_eq_true (by omega), Bool.true_and, List.all_eq_true]
  exact markErr_ok xs [] 0 mk
 have e3 : allOk cls 64 classOk = true := by rw [allOk, decide_eq_true (by omega), cok]; rfl
 have e4 : allOk js 64 joinOk = true := by rw [allOk, decide_eq_true (by omega), jok]; rfl
 show (((((true && allOk (mergesOf es) 744 mergeOk) && allOk ([] : List Bs) 744 thingOk) && allOk xs 32 specialOk) && allOk cls 64 classOk) && allOk js 64 joinOk) = true
 rw [e1, e2, e3, e4]
 rfl
theorem some_build {es : List Ent} (h : TOk es) (hnew : tokNew begins 0 (mergesOf es) = .ok es) {xs : List (Int × Bs)} {cls : List (Int × Int × Int)} {js : List (Int × Int)} (mk : markErr [] 0 xs = none) (xid : ∀ y ∈ xs, 1000 ≤ y.1 ∧ y.1 < 1006) : buildV (someS es xs cls js) = .ok es := by
 have hm := h.most
 unfold buildV loadT someS
 simp only [Bool.false_eq_true, if_false, hnew, mk]
 have : xs.findIdx? (fun y => decide (y.1 < (es.length : Int))) = none := by
  rw [List.findIdx?_eq_none_iff]
  intro y hy
  have := xid y hy
  exact decide_eq_false (by omega)
 rw [this]
def someX (ys : List (Int × Bs)) : Nat → List (Int × Bs)
 | 0 => []
 | i + 1 => match markErr [] 0 (someX ys i ++ [(((1000 + i : Nat) : Int), (ys.getD i (0, [])).2)]) with
  | none => someX ys i ++ [(((1000 + i : Nat) : Int), (ys.getD i (0, [])).2)]
  | some _ => someX ys i
theorem someX_step {ys : List (Int × Bs)} {i : Nat} (hi : i < ys.length) : someX ys (i + 1) = match markErr [] 0 (someX ys i ++ [(((1000 + i : Nat) : Int), ys[i].2)]) with
  | none => someX ys i ++ [(((1000 + i : Nat) : Int), ys[i].2)]
  | some _ => someX ys i := by
 have e : ys.getD i (0, []) = ys[i] := by simp [List.getD, hi]
 rw [someX, e]
theorem filter_next {α : Type} (p : α → Bool) (xs : List α) {i : Nat} (hi : i < xs.length) : (xs.take (i + 1)).filter p = (xs.take i).filter p ++ (if p xs[i] = true then [xs[i]] else []) := by
 rw [List.take_add_one, List.getElem?_eq_getElem hi, List.filter_append]
 cases h : p xs[i] <;> simp [h]
def someV (l : List Int) (cs : List (Int × Int × Int)) (gs : List (Int × Int)) (ys : List (Int × Bs)) : SpecV :=
 someS (growV l 30) (someX ys (min ys.length 6)) ((cs.take (min cs.length 8)).filter classOk) ((gs.take (min gs.length 8)).filter joinOk)
def SomeR (s0 : SpecV) (w : World) (u : Value) (w' : World) : Prop := ∃ (x : SpecW) (s : SpecV) (T : List Ent), u = x.v ∧ SpecAt w' x s ∧ s.ranked = false ∧ s.right = true ∧ buildV s = .ok T ∧ TOk T ∧ s.specials.length ≤ 6 ∧ (∀ y ∈ s.specials, 1000 ≤ y.1 ∧ y.1 < 1006) ∧ (s.specials.map (·.1)).Pairwise (· < ·) ∧ s = s0 ∧ Below w.heap.size w w'
theorem refSome_spec (w : World) (A1 : Option Addr) (C1 : Nat) (l : List Int) (h1 : Rw enc16 1 w A1 l) (A2 : Option Addr) (C2 : Nat) (cs : List (Int × Int × Int)) (h2 : Rw encClass 3 w A2 cs) (A3 : Option Addr) (C3 : Nat) (gs : List (Int × Int)) (h3 : Rw encPair 2 w A3 gs) (A4 : Option Addr) (C4 : Nat) (ys : List (Int × Bs)) (h4 : Rw encSpecial 2 w A4 ys)
  (hc2 : cs.length ≤ C2) (hc3 : gs.length ≤ C3) :
  CP 65 #[.slice A1 l.length C1, .slice A2 cs.length C2, .slice A3 gs.length C3, .slice A4 ys.length C4] w fun e w' => ∃ u, e = .returned u ∧ SomeR (someV l cs gs ys) w u w' := by
 refine vc65_calls A1 l.length C1 A2 cs.length C2 A3 gs.length C3 A4 ys.length C4 w (SomeR (someV l cs gs ys) w) ?_
 intro w1 hw1
 have hb1 : Below w.heap.size w w1 := by subst hw1; exact below_alloc _ _
 have z1 : w1.heap[w.heap.size]? = some (.cells zeroX.cells tSpec (0, 0)) := by subst hw1; exact alloc_new _ _
 refine (refGrow_spec w1 A1 C1 l (h1.on hb1)).mono ?_
 rintro e w2 ⟨t, es, rfl, ht, htok, hnew, hes, b2⟩
 refine ⟨_, _, _, _, _, _, rfl, ?_⟩
 intro w3 hw3
 refine storeP_new [sl0.v, sl0.v] [t.b.v, t.m.v] rfl (ones_slices _ _) w3 hw3 ?_
 intro w4 h4' hz4 b4
 have b14 := below_then b2 b4
 have hb4 := below_then hb1 b14
 have z4 := held_on b14 z1
 have hlt4 : w.heap.size < w4.heap.size := (Array.getElem?_eq_some_iff.1 z4).1
 refine ⟨_, _, _, ptr_add0 _ _ h4' 1, ?_⟩
 intro w5 hw5
 refine store_spec ⟨false, t.m, sl0, sl0, sl0, sl0⟩ w5 hw5 ?_
 intro w6 h6 b6
 have ht4 := ht.on b4
 have fin : ∀ (q : World) (sp cl jn : Sl) (xs : List (Int × Bs)) (cls : List (Int × Int × Int)) (js : List (Int × Int)), SomeSt w4 q t.m sp cl jn xs cls js → xs = someX ys (min ys.length 6) → cls = (cs.take (min cs.length 8)).filter classOk → js = (gs.take (min gs.length 8)).filter joinOk →
   StoreP q (nb w) (fun w7 => ∃ res0 : Bool, ∃ res1A : Option Addr, ∃ res1N : Nat, ∃ res1C : Nat, ∃ res2A : Option Addr, ∃ res2N : Nat, ∃ res2C : Nat, ∃ res3A : Option Addr, ∃ res3N : Nat, ∃ res3C : Nat, ∃ res4A : Option Addr, ∃ res4N : Nat, ∃ res4C : Nat, ∃ res5A : Option Addr, ∃ res5N : Nat, ∃ res5C : Nat, (w7.cell? (nb w) = some (Value.bool res0) ∧ w7.cell? ((nb w).add 1) = some (Value.slice res1A res1N res1C) ∧ w7.cell? ((nb w).add 2) = some (Value.slice res2A res2N res2C) ∧ w7.cell? ((nb w).add 3) = some (Value.slice res3A res3N res3C) ∧ w7.cell? ((nb w).add 4) = some (Value.slice res4A res4N res4C) ∧ w7.cell? ((nb w).add 5) = some (Value.slice res5A res5N res5C) ∧ True) ∧
    SomeR (someV l cs gs ys) w (SpecW.v ⟨res0, ⟨res1A, res1N, res1C⟩, ⟨res2A, res2N, res2C⟩, ⟨res3A, res3N, res3C⟩, ⟨res4A, res4N, res4C⟩, ⟨res5A, res5N, res5C⟩⟩) w7)
   [Value.bool false, Value.slice t.m.a t.m.n t.m.c, Value.slice none 0 0, Value.slice sp.a sp.n sp.c, Value.slice cl.a cl.n cl.c, Value.slice jn.a jn.n jn.c] 0 := by
  intro q sp cl jn xs cls js hq ex ec ej
  have zq := Below.keeps hq.B hlt4 z4
  have hbq : Below w.heap.size w q := hb4.trans (hq.B.mono (by omega))
  have r1 := LsAt.of_own elSpecial hq.o1
  have r2 := Rw.of_own hq.o2 (fun _ => rfl) (by decide)
  have r3 := Rw.of_own hq.o3 (fun _ => rfl) (by decide)
  have htq := ht4.on hq.B
  have hS : SpecAt q ⟨false, t.m, sl0, sp, cl, jn⟩ (someS es xs cls js) := ⟨rfl, htq.n2, htq.r2, rfl, fun j x hj => (by cases hj), r1.n, r1.r, r2.2, r2.1, r3.2, r3.1⟩
  refine ret_specK (w := w) (w6 := q) (fun x w7 => SomeR (someV l cs gs ys) w x.v w7) ⟨false, t.m, sl0, sp, cl, jn⟩ zq rfl ?_
  intro w7 hB7 hs7
  have hz7 : q.heap.size ≤ w7.heap.size := (hB7 q (Below.refl _ _)).size
  exact ⟨⟨false, t.m, sl0, sp, cl, jn⟩, someS es xs cls js, es, rfl, hS.past zq (by
   intro v hv
   simp only [List.mem_toArray, List.mem_cons, List.not_mem_nil, or_false] at hv
   rcases hv with rfl | rfl | rfl | rfl | rfl | rfl <;> (rintro (⟨k, n, h⟩ | ⟨s, h⟩) <;> cases h)) (fun j _ hj => hs7 j hj) hz7, rfl, some_right htok hq.cok hq.jok hq.mrk hq.l1 hq.l2 hq.l3, some_build htok hnew hq.mrk hq.xid, htok, hq.l1, hq.xid, hq.asc, by rw [someV, ← hes, ← ex, ← ec, ← ej], hB7 w hbq⟩
 have start : SomeSt w4 w6 t.m sl0 sl0 sl0 [] [] [] := ⟨h6, own_none _ _ _ _ encSpecial, own_none _ _ _ _ encClass, own_none _ _ _ _ encPair, rfl, rfl, rfl, fun y hy => (by cases hy), List.Pairwise.nil, Nat.zero_le _, Nat.zero_le _, Nat.zero_le _, b6⟩
 have soft : ∀ {q : World} {sp cl jn : Sl} {xs : List (Int × Bs)} {cls : List (Int × Int × Int)} {js : List (Int × Int)}, SomeSt w4 q t.m sp cl jn xs cls js → sp.v.ownBlock ≠ some w4.heap.size ∧ cl.v.ownBlock ≠ some w4.heap.size ∧ jn.v.ownBlock ≠ some w4.heap.size := fun h => ⟨row_ne_blk h.o1 h.blk (by decide), row_ne_blk h.o2 h.blk (by decide), row_ne_blk h.o3 h.blk (by decide)⟩
 intro I4 hI4
 have key := climb2 (α := World) (min cs.length 8) (fun i q => ∃ (cl : Sl) (cls : List (Int × Int × Int)), SomeSt w4 q t.m sl0 cl sl0 [] cls [] ∧ cls.length ≤ i ∧ cls = (cs.take i).filter classOk) (fun i q => I4 [.int .i64 (i : Int)] q) w6 ⟨sl0, [], start, Nat.zero_le _, rfl⟩ ?_ ?_
 ·exact key
 ·rintro i hi ih q ⟨cl, cls, hst, hcl, hce⟩
  have hi1 : i < cs.length := by omega
  have hi2 : i < 8 := by omega
  refine hI4 _ _ (CondP.yes (by simp; omega) (CondP.yes (by simp; omega) ?_))
  intro J hJ
  have hJ' : ∀ (v : World) (cl : Sl) (cls : List (Int × Int × Int)), SomeSt w4 v t.m sl0 cl sl0 [] cls [] → cls.length ≤ i + 1 → cls = (cs.take (i + 1)).filter classOk → J [] v := fun v cl cls h1 h2 h3 => hJ v (Ar.nat (i + 1) rfl (by omega) (ih v ⟨cl, cls, h1, h2, h3⟩))
  have hbq : Below w.heap.size w q := hb4.trans (hst.B.mono (by omega))
  have hbt : BtAt q ⟨⟨slBase A2 i C2 3, i + 1 - i, C2 - i⟩, sl0⟩ [cs[i]] [] := by
   refine ⟨by show i + 1 - i = 1; omega, ?_, rfl, fun j x hj => by cases hj⟩
   have := ((h2.on hbq).cut i C2 hc2).take 1
   rw [List.drop_eq_getElem_cons hi1] at this
   exact this
  refine Ar.nat (i + 1) rfl (by omega) ⟨by omega, by omega, by omega, trivial, trivial, ?_⟩
  refine (refRight_spec q ⟨⟨slBase A2 i C2 3, i + 1 - i, C2 - i⟩, sl0⟩ [cs[i]] [] hbt (by simp) (by simp)).mono ?_
  rintro e w9 ⟨rfl, b9⟩
  have hst9 := hst.on b9
  refine ⟨_, rfl, CondP.mk (fun hok => ?_) fun hno => hJ' w9 cl cls hst9 (by omega) (by rw [filter_next classOk cs hi1, if_neg (by intro h; simp [h] at hno), List.append_nil]; exact hce)⟩
  intro w10 hw10
  have b10 : Below w9.heap.size w9 w10 := by subst hw10; exact drew_on w9
  have hst10 := hst9.on b10
  have hb10 := hbq.trans ((below_then b9 b10).mono hbq.size)
  obtain ⟨p, hp, _, hc⟩ := (h2.on hb10) i _ (List.getElem?_eq_getElem hi1)
  have c0 := hc 0 _ rfl
  rw [add_zero] at c0
  refine ⟨_, _, _, ptr_add0 _ _ hst10.blk 4, NilC.mk p hp ⟨by omega, by omega, _, _, _, ⟨c0, hc 1 _ rfl, hc 2 _ rfl, trivial⟩, ?_⟩⟩
  intro w11 hw11
  have b11 : Below w10.heap.size w10 w11 := by subst hw11; exact below_alloc _ _
  refine ⟨⟨ptr_add0 _ _ (hst10.on b11).blk 4, trivial⟩, ?_⟩
  obtain ⟨a', c', w12, hr12, hu12, hf12, h13⟩ := obj_push1 (P := Tryz.prog) (s := cl) 4 hst10.blk (show 4 < 6 by decide) hst10.o2 (soft hst10).2.1 (Nat.le_refl _) tCls undCls infoCl rfl (by decide) (encClass cs[i]) rfl (ones_class _ _ _) (by have := (Rw.of_own hst10.o2 (fun _ => rfl) (by decide)).2; have := hst10.l2; omega) (by have := (Rw.of_own hst10.o2 (fun _ => rfl) (by decide)).2; have := hst10.l2; omega)
  subst hw11
  refine ⟨a', cl.n + 1, c', w12, hr12, rfl, hu12, hf12, ?_⟩
  intro w13 hw13
  obtain ⟨g1, g2, g3, g4, g5, g6, g7⟩ := h13 w13 hw13
  have hok : classOk cs[i] = true := by simpa using hok
  refine hJ' w13 ⟨a', cl.n + 1, c'⟩ (cls ++ [cs[i]])  ⟨g1, own_none _ _ _ _ encSpecial, by rw [List.flatMap_append]; simpa using g2, own_none _ _ _ _ encPair, by rw [List.all_append, hst10.cok]; simpa using hok, rfl, rfl, fun y hy => (by cases hy), List.Pairwise.nil, Nat.zero_le _, by rw [List.length_append]; simp; omega, Nat.zero_le _, g4 _ hst10.B⟩ (by rw [List.length_append]; simp; omega) (by rw [filter_next classOk cs hi1, if_pos hok, ← hce])
 rintro q ⟨cl, cls, hst, hcl, hce⟩
 refine hI4 _ _ (CondP.mk (fun hlt => CondP.no ?_ ?_) fun hlt => ?_)
 ·have := of_decide_eq_true hlt
  exact decide_eq_false (by omega)
 all_goals
  clear hlt
  intro I13 hI13
  have key2 := climb2 (α := World) (min gs.length 8) (fun i q => ∃ (jn : Sl) (js : List (Int × Int)), SomeSt w4 q t.m sl0 cl jn [] cls js ∧ js.length ≤ i ∧ js = (gs.take i).filter joinOk) (fun i q => I13 [.int .i64 (i : Int)] q) q ⟨sl0, [], hst, Nat.zero_le _, rfl⟩ ?_ ?_
  ·exact key2
  ·rintro i hi ih q ⟨jn, js, hst, hjn, hje⟩
   have hi1 : i < gs.length := by omega
   have hi2 : i < 8 := by omega
   refine hI13 _ _ (CondP.yes (by simp; omega) (CondP.yes (by simp; omega) ?_))
   intro J hJ
   have hJ' : ∀ (v : World) (jn : Sl) (js : List (Int × Int)), SomeSt w4 v t.m sl0 cl jn [] cls js → js.length ≤ i + 1 → js = (gs.take (i + 1)).filter joinOk → J [] v := fun v jn js h1 h2 h3 => hJ v (Ar.nat (i + 1) rfl (by omega) (ih v ⟨jn, js, h1, h2, h3⟩))
   have hbq : Below w.heap.size w q := hb4.trans (hst.B.mono (by omega))
   have hbt : BtAt q ⟨sl0, ⟨slBase A3 i C3 2, i + 1 - i, C3 - i⟩⟩ [] [gs[i]] := by
    refine ⟨rfl, fun j x hj => (by cases hj), by show i + 1 - i = 1; omega, ?_⟩
    have := ((h3.on hbq).cut i C3 hc3).take 1
    rw [List.drop_eq_getElem_cons hi1] at this
    exact this
   refine Ar.nat (i + 1) rfl (by omega) ⟨by omega, by omega, by omega, trivial, trivial, ?_⟩
   refine (refRight_spec q ⟨sl0, ⟨slBase A3 i C3 2, i + 1 - i, C3 - i⟩⟩ [] [gs[i]] hbt (by simp) (by simp)).mono ?_
   rintro e w9 ⟨rfl, b9⟩
   have hst9 := hst.on b9
   refine ⟨_, rfl, CondP.mk (fun hok => ?_) fun hno => hJ' w9 jn js hst9 (by omega) (by rw [filter_next joinOk gs hi1, if_neg (by intro h; simp [h] at hno), List.append_nil]; exact hje)⟩
   intro w10 hw10
   have b10 : Below w9.heap.size w9 w10 := by subst hw10; exact drew_on w9
   have hst10 := hst9.on b10
   have hb10 := hbq.trans ((below_then b9 b10).mono hbq.size)
   obtain ⟨p, hp, _, hc⟩ := (h3.on hb10) i _ (List.getElem?_eq_getElem hi1)
   have c0 := hc 0 _ rfl
   rw [add_zero] at c0
   refine ⟨_, _, _, ptr_add0 _ _ hst10.blk 5, NilC.mk p hp ⟨by omega, by omega, _, _, ⟨c0, hc 1 _ rfl, trivial⟩, ?_⟩⟩
   intro w11 hw11
   have b11 : Below w10.heap.size w10 w11 := by subst hw11; exact below_alloc _ _
   refine ⟨⟨ptr_add0 _ _ (hst10.on b11).blk 5, trivial⟩, ?_⟩
   obtain ⟨a', c', w12, hr12, hu12, hf12, h13⟩ := obj_push1 (P := Tryz.prog) (s := jn) 5 hst10.blk (show 5 < 6 by decide) hst10.o3 (soft hst10).2.2 (Nat.le_refl _) tJns undJns infoJn rfl (by decide) (encPair gs[i]) rfl (ones_pair _ _) (by have := (Rw.of_own hst10.o3 (fun _ => rfl) (by decide)).2; have := hst10.l3; omega) (by have := (Rw.of_own hst10.o3 (fun _ => rfl) (by decide)).2; have := hst10.l3; omega)
   subst hw11
   refine ⟨a', jn.n + 1, c', w12, hr12, rfl, hu12, hf12, ?_⟩
   intro w13 hw13
   obtain ⟨g1, g2, g3, g4, g5, g6, g7⟩ := h13 w13 hw13
   have hok : joinOk gs[i] = true := by simpa using hok
   have k2 : w13.ownsRow w4.heap.size tCl 3 cl.v cl.n (cls.flatMap encClass) := own_same hst10.o2 fun k hk => g5 k (own_lt hst10.o2 k hk).2 (fun e => (soft hst10).2.1 (by rw [← e]; exact hk)) (row_ne_row hst10.o2 hst10.o3 (by decide) k hk)
   refine hJ' w13 ⟨a', jn.n + 1, c'⟩ (js ++ [gs[i]]) ⟨g1, own_none _ _ _ _ encSpecial, k2, by rw [List.flatMap_append]; simpa using g2, hst10.cok, by rw [List.all_append, hst10.jok]; simpa using hok, rfl, fun y hy => (by cases hy), List.Pairwise.nil, Nat.zero_le _, hst10.l2, by rw [List.length_append]; simp; omega, g4 _ hst10.B⟩ (by rw [List.length_append]; simp; omega) (by rw [filter_next joinOk gs hi1, if_pos hok, ← hje])
  rintro q ⟨jn, js, hst, hjn, hje⟩
  refine hI13 _ _ (CondP.mk (fun hlt => CondP.no ?_ ?_) fun hlt => ?_)
  ·have := of_decide_eq_true hlt
   exact decide_eq_false (by omega)
  all_goals
   clear hlt
   intro I28 hI28
   have key3 := climb2 (α := World) (min ys.length 6) (fun i q => ∃ (sp : Sl) (xs : List (Int × Bs)), SomeSt w4 q t.m sp cl jn xs cls js ∧ xs.length ≤ i ∧ (∀ y ∈ xs, y.1 < 1000 + (i : Int)) ∧ xs = someX ys i) (fun i q => I28 [.int .i64 (i : Int)] q) q ⟨sl0, [], hst, Nat.zero_le _, fun y hy => (by cases hy), rfl⟩ ?_ ?_
   ·exact key3
   ·rintro i hi ih q ⟨sp, xs, hst, hxl, hxb, hxe⟩
    have hi1 : i < ys.length := by omega
    have hi2 : i < 6 := by omega
    refine hI28 _ _ (CondP.yes (by simp; omega) (CondP.yes (by simp; omega) ?_))
    intro J hJ
    have hJ' : ∀ (v : World) (sp : Sl) (xs : List (Int × Bs)), SomeSt w4 v t.m sp cl jn xs cls js → xs.length ≤ i + 1 → (∀ y ∈ xs, y.1 < 1000 + ((i + 1 : Nat) : Int)) → xs = someX ys (i + 1) → J [] v := fun v sp xs h1 h2 h3 h4 => hJ v (Ar.nat (i + 1) rfl (by omega) (ih v ⟨sp, xs, h1, h2, h3, h4⟩))
    intro w23 hw23
    have b23 : Below q.heap.size q w23 := by subst hw23; exact drew_on q
    have hst23 := hst.on b23
    have hb23 : Below w.heap.size w w23 := hb4.trans (hst23.B.mono (by omega))
    obtain ⟨p, hp, _, _⟩ := (h4.on hb23) i _ (List.getElem?_eq_getElem hi1)
    have cellS : ∀ v : World, Below w23.heap.size w23 v → v.cell? ((p.add (i * 2)).add 1) = some (.string (str ys[i].2)) := by
     intro v hv
     obtain ⟨p', hp', _, hc⟩ := (h4.on (below_then hb23 hv)) i _ (List.getElem?_eq_getElem hi1)
     have : p' = p := by rw [hp] at hp'; exact (Option.some.inj hp').symm
     subst this
     exact hc 1 _ rfl
    have cell3 : ∀ v : World, Below w23.heap.size w23 v → v.cell? ((nb w4).add 3) = some sp.v := fun v hv => ptr_add0 _ _ (hst23.on hv).blk 3
    have hspn := (LsAt.of_own elSpecial hst23.o1).n
    have hl1 := hst23.l1
    have check : ∀ (y : Sl) (v : World), Below w23.heap.size w23 v → v.ownsRow w23.heap.size tSp 2 y.v y.n ((xs ++ [(((1000 + i : Nat) : Int), ys[i].2)]).flatMap encSpecial) →
      CP 109 #[Value.slice y.a y.n y.c] v (fun e28 w28 => ∃ r0 : Int, ∃ r1 : Int, e28 = .returned (Value.tuple #[Value.int .i64 r0, Value.int .i64 r1]) ∧
       CondP ((r1 : Int) == 0)
        ((Value.slice y.a y.n y.c).oneCell' = true ∧ (∃ u, w28.cell? ((nb w4).add 3) = some u) ∧ w28.frozen? ((nb w4).add 3) = false ∧
         ∀ w29 : World, w29 = (w28.setCell ((nb w4).add 3) (Value.slice y.a y.n y.c)) → J [] w29)
        (J [] w28)) := by
     intro y v hv hy
     have hls := LsAt.of_own elSpecial hy
     have hyn := hls.n
     obtain ⟨ya, yn, yc⟩ := y
     change yn = _ at hyn
     subst hyn
     refine (refCheck_spec v ya yc _ hls.r (by rw [List.length_append]; simp; omega)).mono ?_
     rintro e w28 ⟨rfl, b28⟩
     have hb28 := below_then hv b28
     have st28 := hst23.on hb28
     have hy28 := own_base (own_on hy b28) hst23.B.size
     cases hm : markErr [] 0 (xs ++ [(((1000 + i : Nat) : Int), ys[i].2)]) with
     | some z =>
      refine ⟨_, _, by rw [checkV, hm], CondP.no (by simpa using markErr_ne hm) (hJ' w28 sp xs st28 (by omega) (fun y hy => by have := hxb y hy; omega) (by rw [someX_step hi1, ← hxe, hm]))⟩
     | none =>
      refine ⟨_, _, by rw [checkV, hm], CondP.yes rfl ⟨rfl, ⟨_, cell3 w28 hb28⟩, frozen_put st28.blk, ?_⟩⟩
      intro w29 hw29
      subst hw29
      have s28 := soft st28
      refine hJ' _ ⟨ya, _, yc⟩ (xs ++ [(((1000 + i : Nat) : Int), ys[i].2)]) ⟨heap_put st28.blk _, own_setCell hy28 _ (by rw [add_block]; exact row_ne_blk hy28 st28.blk (by decide)), own_setCell st28.o2 _ (by rw [add_block]; exact s28.2.1), own_setCell st28.o3 _ (by rw [add_block]; exact s28.2.2), st28.cok, st28.jok, hm, ?_, ?_, by rw [List.length_append]; simp; omega, st28.l2, st28.l3, below_put st28.B (Nat.le_refl _) _⟩ (by rw [List.length_append]; simp; omega) ?_ (by rw [someX_step hi1, ← hxe, hm])
      ·intro z hz
       rcases List.mem_append.1 hz with hz | hz
       ·exact st28.xid z hz
       ·rw [List.mem_singleton.1 hz]
        show (1000 : Int) ≤ ((1000 + i : Nat) : Int) ∧ ((1000 + i : Nat) : Int) < 1006
        omega
      ·rw [List.map_append, List.pairwise_append]
       refine ⟨st28.asc, List.pairwise_singleton _ _, fun a ha b hb => ?_⟩
       obtain ⟨y, hy, rfl⟩ := List.mem_map.1 ha
       have := hxb y hy
       simp at hb
       omega
      ·intro y hy
       rcases List.mem_append.1 hy with hy | hy
       ·have := hxb y hy
        omega
       ·rw [List.mem_singleton.1 hy]
        show ((1000 + i : Nat) : Int) < 1000 + ((i + 1 : Nat) : Int)
        omega
    have spr : ∀ (v : World) (k : Nat), Below w23.heap.size w23 v → v.heap[k]? = some (.cells #[] tSp (0, 0)) → w23.heap.size ≤ k → ∃ (r : Sl) (v' : World), r.n = sp.n ∧ (Builtin.append_ #[tSps, tSps] tSps #[.slice (some ⟨k, 0, none⟩) 0 0, .slice sp.a sp.n sp.c]).run Tryz.prog v = .ok (.slice r.a r.n r.c) v' ∧ v'.ownsRow w23.heap.size tSp 2 r.v r.n (xs.flatMap encSpecial) ∧ Below w23.heap.size w23 v' ∧ (∀ j, j < v.heap.size → j ≠ k → v'.heap[j]? = v.heap[j]?) := by
     intro v k hv hk hle
     have hls := LsAt.of_own elSpecial (hst23.on hv).o1
     obtain ⟨r, v', g1, g2, g3, g4, g5, _⟩ := elSpecial.spread (s := ⟨some ⟨k, 0, none⟩, 0, 0⟩) (xs := []) (own_zero hk hle) hls hv.size (Nat.zero_le _) (by omega) (by decide)
     refine ⟨r, v', by rw [g1]; show 0 + sp.n = sp.n; omega, g2, g3, g4 _ hv, fun j hj hjk => g5 j hj fun e => hjk ?_⟩
     have : k = j := by simpa [Value.ownBlock] using e
     exact this.symm
    refine ⟨_, _, _, cell3 w23 (Below.refl _ _), Ar.nat (1000 + i) (by omega) (by omega) (NilC.mk p hp ⟨by omega, by omega, _, cellS w23 (Below.refl _ _), ?_, ?_⟩)⟩
    ·intro w24 hw24
     have b24 : Below w23.heap.size w23 w24 := by subst hw24; exact below_alloc _ _
     have n24 : w24.heap[w23.heap.size]? = some (.cells #[] tSp (0, 0)) := by subst hw24; exact alloc_new _ _
     refine ⟨⟨cellS w24 b24, trivial⟩, ⟨cell3 w24 b24, trivial⟩, ?_, ?_⟩
     ·obtain ⟨r, w25, g1, g2, g3, g4, g5⟩ := spr w24 _ b24 n24 (Nat.le_refl _)
      refine ⟨r.a, r.n, r.c, w25, g2, ⟨cellS w25 g4, trivial⟩, ?_⟩
      intro w26 hw26
      obtain ⟨y, w27, f1, f2, f3, f4, f5⟩ := elSpecial.push g3 (((1000 + i : Nat) : Int), ys[i].2) hw26 rfl g4.size (by omega) (by decide)
      exact ⟨y.a, y.n, y.c, w27, f2, check y w27 (f4 _ g4) f3⟩
     ·intro w30 hw30
      have b30 : Below w24.heap.size w24 w30 := by subst hw30; exact below_alloc _ _
      have e30 : w30.heap[w24.heap.size]? = some (.cells (encSpecial (((1000 + i : Nat) : Int), ys[i].2)).toArray tSp (0, 0)) := by subst hw30; exact alloc_new _ _
      have b2330 := below_then b24 b30
      refine ⟨⟨cell3 w30 b2330, trivial⟩, ?_⟩
      obtain ⟨r, w31, g1, g2, g3, g4, g5⟩ := spr w30 _ b2330 (held_on b30 n24) (Nat.le_refl _)
      have hz24 := (Array.getElem?_eq_some_iff.1 n24).1
      have e31 : w31.heap[w24.heap.size]? = some (.cells (encSpecial (((1000 + i : Nat) : Int), ys[i].2)).toArray tSp (0, 0)) := by
       rw [g5 _ (Array.getElem?_eq_some_iff.1 e30).1 (by omega)]
       exact e30
      obtain ⟨y, w32, f1, f2, f3, f4, f5⟩ := elSpecial.pushAt g3 (((1000 + i : Nat) : Int), ys[i].2) e31 g4.size (by omega) (by decide)
      exact ⟨r.a, r.n, r.c, w31, g2, y.a, y.n, y.c, w32, f2, check y w32 (f4 _ g4) f3⟩
    ·intro w86 hw86
     have b86 : Below w23.heap.size w23 w86 := by subst hw86; exact below_alloc _ _
     have e86 : w86.heap[w23.heap.size]? = some (.cells (encSpecial (((1000 + i : Nat) : Int), ys[i].2)).toArray tSp (0, 0)) := by subst hw86; exact alloc_new _ _
     refine ⟨⟨cell3 w86 b86, trivial⟩, ?_⟩
     intro w87 hw87
     have b87 : Below w86.heap.size w86 w87 := by subst hw87; exact below_alloc _ _
     have n87 : w87.heap[w86.heap.size]? = some (.cells #[] tSp (0, 0)) := by subst hw87; exact alloc_new _ _
     have b2387 := below_then b86 b87
     have hz86 := (Array.getElem?_eq_some_iff.1 e86).1
     refine ⟨⟨cell3 w87 b2387, trivial⟩, ?_⟩
     obtain ⟨r, w88, g1, g2, g3, g4, g5⟩ := spr w87 _ b2387 n87 (by omega)
     have e88 : w88.heap[w23.heap.size]? = some (.cells (encSpecial (((1000 + i : Nat) : Int), ys[i].2)).toArray tSp (0, 0)) := by
      rw [g5 _ (Array.getElem?_eq_some_iff.1 (held_on b87 e86)).1 (by omega)]
      exact held_on b87 e86
     obtain ⟨y, w89, f1, f2, f3, f4, f5⟩ := elSpecial.pushAt g3 (((1000 + i : Nat) : Int), ys[i].2) e88 g4.size (by omega) (by decide)
     exact ⟨r.a, r.n, r.c, w88, g2, y.a, y.n, y.c, w89, f2, check y w89 (f4 _ g4) f3⟩
   ·rintro q ⟨sp, xs, hst, hxl, _, hxe⟩
    have done := fin q sp cl jn xs cls js hst hxe hce hje
    have cells := agg_cells (x := ⟨false, t.m, sl0, sp, cl, jn⟩) hst.blk
    refine hI28 _ _ (CondP.mk (fun hlt => CondP.no ?_ ⟨_, _, _, _, _, _, _, _, _, _, _, _, _, _, _, _, cells, done⟩) fun hlt => ⟨_, _, _, _, _, _, _, _, _, _, _, _, _, _, _, _, cells, done⟩)
    have := of_decide_eq_true hlt
    exact decide_eq_false (by omega)
structure CsW where
 l : Sl
 c : Sl
 j : Sl
 x : Sl
abbrev CsW.cells (y : CsW) : Array Value := #[y.l.v, y.c.v, y.j.v, y.x.v]
abbrev CsW.v (y : CsW) : Value := .agg y.cells
structure CsAt (w : World) (y : CsW) (ls : List Int) (cs : List (Int × Int × Int)) (js : List (Int × Int)) (xs : List (Int × Bs)) : Prop where
 n1 : y.l.n = ls.length
 r1 : Rw enc16 1 w y.l.a ls
 n2 : y.c.n = cs.length
 r2 : Rw encClass 3 w y.c.a cs
 n3 : y.j.n = js.length
 r3 : Rw encPair 2 w y.j.a js
 n4 : y.x.n = xs.length
 r4 : Rw encSpecial 2 w y.x.a xs
 c2 : y.c.n ≤ y.c.c
 c3 : y.j.n ≤ y.j.c
 most : xs.length ≤ 9223372036854775807
theorem CsAt.on {w w' : World} {y : CsW} {ls : List Int} {cs : List (Int × Int × Int)} {js : List (Int × Int)} {xs : List (Int × Bs)} (h : CsAt w y ls cs js xs) (hb : Below w.heap.size w w') : CsAt w' y ls cs js xs := ⟨h.n1, h.r1.on hb, h.n2, h.r2.on hb, h.n3, h.r3.on hb, h.n4, h.r4.on hb, h.c2, h.c3, h.most⟩
abbrev tCs : TypeId := 27
theorem agg4 {w : World} {b : Nat} {y : CsW} {T : TypeId} {fz : Nat × Nat} (h : w.heap[b]? = some (.cells y.cells T fz)) :
  w.cell? ⟨b, 0, none⟩ = some y.l.v ∧ w.cell? ((⟨b, 0, none⟩ : Addr).add 1) = some y.c.v ∧ w.cell? ((⟨b, 0, none⟩ : Addr).add 2) = some y.j.v ∧ w.cell? ((⟨b, 0, none⟩ : Addr).add 3) = some y.x.v ∧ True := by
 have hc : ∀ j, w.cell? ((⟨b, 0, none⟩ : Addr).add j) = y.cells[j]? := fun j => ptr_add0 _ _ h j
 exact ⟨by have := hc 0; rw [add_zero] at this; exact this, hc 1, hc 2, hc 3, trivial⟩
theorem lawGreat_spec (w : World) (y : CsW) (ls : List Int) (cs : List (Int × Int × Int)) (js : List (Int × Int)) (xs : List (Int × Bs)) (h : CsAt w y ls cs js xs) : CP 15 #[y.v] w fun e w' => ∃ n : Int, e = .returned (.int .i64 n) ∧ Below w.heap.size w w' := by
 refine calls_ret (vc15_calls y.l.a y.l.n y.l.c y.c.a y.c.n y.c.c y.j.a y.j.n y.j.c y.x.a y.x.n y.x.c w (fun u w' => ∃ n : Int, u = .int .i64 n ∧ Below w.heap.size w w') ?_) (by rintro v w' ⟨n, rfl, h⟩; exact ⟨n, rfl, h⟩)
 intro w1 hw1
 have hb1 : Below w.heap.size w w1 := by subst hw1; exact below_alloc _ _
 have l1 : w1.heap[w.heap.size]? = some (.cells y.cells tCs (0, 0)) := by subst hw1; exact alloc_new _ _
 refine ⟨_, _, _, ptr_add0 _ _ l1 0, _, _, _, ptr_add0 _ _ l1 1, _, _, _, ptr_add0 _ _ l1 2, _, _, _, ptr_add0 _ _ l1 3, ?_⟩
 have h4 := (h.on hb1).r4
 have n4 := h.n4
 obtain ⟨⟨l1', l2', l3'⟩, ⟨c1', c2', c3'⟩, ⟨j1', j2', j3'⟩, ⟨x1', x2', x3'⟩⟩ := y
 change x2' = xs.length at n4
 subst n4
 refine (refGreat_spec w1 l1' l2' l3' c1' c2' c3' j1' j2' j3' x1' x3' xs h4 h.most).mono ?_
 rintro e w2 ⟨rfl, hw⟩
 subst hw
 exact ⟨_, rfl, CondP.mk (fun _ => ⟨1, rfl, hb1⟩) fun _ => ⟨0, rfl, hb1⟩⟩
structure Both (w : World) (v : Nat) (y : RvW) (s : SpecV) (T : List Ent) : Prop where
 voc : VocIs w v s T
 rv : ∀ w', Touch v w w' → RvAt w' y s T
 few : s.specials.length ≤ 6
 ids : ∀ z ∈ s.specials, 1000 ≤ z.1 ∧ z.1 < 1006
 asc : (s.specials.map (·.1)).Pairwise (· < ·)
theorem Both.now {w : World} {v : Nat} {y : RvW} {s : SpecV} {T : List Ent} (h : Both w v y s T) : RvAt w y s T := h.rv w (Touch.of_below (Below.refl _ _))
theorem Both.on {w w' : World} {v : Nat} {y : RvW} {s : SpecV} {T : List Ent} (h : Both w v y s T) (hb : Below w.heap.size w w') : Both w' v y s T := ⟨h.voc.on hb, fun w2 t => h.rv w2 ((Touch.of_below hb).trans t), h.few, h.ids, h.asc⟩
theorem VocIs.lt {w : World} {v : Nat} {s : SpecV} {T : List Ent} (h : VocIs w v s T) : v < w.heap.size := by
 obtain ⟨w0, x, tp, bp, mp, d, l, uses, hR⟩ := h
 exact (Array.getElem?_eq_some_iff.1 hR.blk).1
theorem Rw.far {α : Type} {enc : α → List Value} {sz : Nat} {w : World} {a : Option Addr} {xs : List α} (h : Rw enc sz w a xs) {v : Nat} (hv : w.heap.size ≤ v) : xs ≠ [] → ∀ p, a = some p → p.block ≠ v := by
 intro hne p hp e
 cases xs with
 | nil => exact hne rfl
 | cons x xs =>
  obtain ⟨q, hq, hlt, _⟩ := h 0 x rfl
  rw [hp] at hq
  cases hq
  omega
theorem RtAt.touch {w w' : World} {x : RtW} {es : List Ent} {B v : Nat} (h : RtAt w x es) (hf : Fresh B x) (hB : v < B) (t : Touch v w w') : RtAt w' x es :=
 ⟨h.n1, h.r1.touch t fun _ p hp e => by have := hf.1 p hp; omega, h.k1, h.n2, h.r2.touch t fun _ p hp e => by have := hf.2 p hp; omega, h.k2⟩
structure Past (b : Nat) (e : TypeId) (w w' : World) : Prop where
 blk : ∃ c fz, w.heap[b]? = some (.cells c e fz) ∧ ∀ v ∈ c, ¬ Solid v
 ne : ∀ j, j ≠ b → w'.heap[j]? = w.heap[j]?
 size : w'.heap.size = w.heap.size
theorem Past.row {α : Type} {enc : α → List Value} {sz : Nat} {w w' : World} {b : Nat} {e : TypeId} {a : Option Addr} {xs : List α} (t : Past b e w w') (h : Rw enc sz w a xs) (henc : ∀ x, ∃ v, (enc x)[0]? = some v ∧ Solid v) : Rw enc sz w' a xs := by
 obtain ⟨c, fz, hb, hc⟩ := t.blk
 exact h.past henc hb hc (fun j _ hj => t.ne j hj) (Nat.le_of_eq t.size.symm)
theorem Past.cells {w w' : World} {b k : Nat} {e e' : TypeId} {c : Array Value} {fz : Nat × Nat} (t : Past b e w w') (h : w.heap[k]? = some (.cells c e' fz)) (hne : e ≠ e') : w'.heap[k]? = some (.cells c e' fz) := by
 obtain ⟨c', fz', hb, _⟩ := t.blk
 rw [t.ne k fun e => ?_]
 ·exact h
 ·subst e
  rw [hb] at h
  cases h
  exact hne rfl
theorem Past.map {κ : Type} [DecidableEq κ] {kv : κ → Value} {w w' : World} {b r : Nat} {e : TypeId} {m : List (κ × Value)} (t : Past b e w w') (h : MapIs kv w r m) : MapIs kv w' r m := by
 obtain ⟨c', fz', hb, _⟩ := t.blk
 refine h.same (t.ne r fun e => ?_)
 subst e
 obtain ⟨es, k, hm, _⟩ := h
 rw [hb] at hm
 cases hm
theorem Past.parts {w w' : World} {b : Nat} {e : TypeId} {s : SpecV} {T : List Ent} {x : SpecW} {tp bp mp : Nat} (t : Past b e w w') (h : VocParts w s T x tp bp mp) (n1 : e ≠ tTable) (n2 : e ≠ tBound) (n3 : e ≠ tSet) : VocParts w' s T x tp bp mp := by
 obtain ⟨h1, h2, h3, h4, h5, h6, h7, h8⟩ := h
 refine ⟨?_, ?_, h3, ?_, ?_, h6, h7, h8⟩
 ·exact ⟨h1.ranked, h1.n1, t.row h1.r1 fun m => ⟨_, rfl, solid_int _ _⟩, h1.n2, t.row h1.r2 fun m => ⟨_, rfl, .inr ⟨_, rfl⟩⟩, h1.n3, t.row h1.r3 fun m => ⟨_, rfl, solid_int _ _⟩, h1.n4, t.row h1.r4 fun m => ⟨_, rfl, solid_int _ _⟩, h1.n5, t.row h1.r5 fun m => ⟨_, rfl, solid_int _ _⟩⟩
 ·obtain ⟨l, mb, mp, most, g1, g2, g3, g4, g5⟩ := h2
  exact ⟨l, mb, mp, most, t.cells g1 n1, g2, t.row g3 fun m => ⟨_, rfl, .inr ⟨_, rfl⟩⟩, t.map g4, t.map g5⟩
 ·obtain ⟨c, g1, g2⟩ := h4
  exact ⟨c, t.cells g1 n2, g2⟩
 ·obtain ⟨l, mi, mt, c, g1, g2, g3, g4, g5, g6⟩ := h5
  exact ⟨l, mi, mt, c, t.cells g1 n3, g2, g3, t.row g4 fun m => ⟨_, rfl, solid_int _ _⟩, t.map g5, t.map g6⟩
theorem Past.voc {w w' : World} {b v : Nat} {e : TypeId} {s : SpecV} {T : List Ent} (t : Past b e w w') (h : VocIs w v s T) (n1 : e ≠ tTable) (n2 : e ≠ tBound) (n3 : e ≠ tSet) (n4 : e ≠ tVocab) (n5 : e ≠ tBool) (hB : Below b w w') : VocIs w' v s T := by
 obtain ⟨w0, x, tp, bp, mp, d, l, uses, hR⟩ := h
 have blk := t.cells hR.blk n4
 have once : (d = 0 ∧ l = ⟨none, 0, 0⟩) ∨ (d = 1 ∧ l.n = T.length ∧ w'.ownsRow (v + 1) tBool 1 l.v l.n ((aloneL s T).flatMap encB1)) := by
  rcases hR.once with h | ⟨h1, h2, h3⟩
  ·exact .inl h
  ·refine .inr ⟨h1, h2, own_same h3 fun k hk => t.ne k fun e => ?_⟩
   obtain ⟨c, fz, hb, _⟩ := t.blk
   exact row_ne_blk h3 hb (fun e => n5 e.symm) (by rw [hk, e])
 have hbel := hR.below
 by_cases hlt : b < w0.heap.size
 ·obtain ⟨c, fz, hb, hc⟩ := t.blk
  have hb0 : w0.heap[b]? = some (.cells c e fz) := by rw [← hbel.block b hlt]; exact hb
  have hbl : b < w.heap.size := (Array.getElem?_eq_some_iff.1 hb).1
  have hbl' : b < w'.heap.size := by rw [t.size]; exact hbl
  let w1 : World := { w0 with heap := w0.heap.setIfInBounds b w'.heap[b] }
  have hz : w1.heap.size = w0.heap.size := by simp [w1]
  have same : ∀ j, j ≠ b → w1.heap[j]? = w0.heap[j]? := fun j hj => by
   show (w0.heap.setIfInBounds b w'.heap[b])[j]? = _
   rw [Array.getElem?_setIfInBounds_ne (fun e => hj e.symm)]
  have t0 : Past b e w0 w1 := ⟨⟨c, fz, hb0, hc⟩, same, hz⟩
  refine ⟨w1, x, tp, bp, mp, d, l, uses, t0.parts hR.parts n1 n2 n3, ?_, by rw [hz]; exact hR.lt, blk, once⟩
  refine ⟨hB.os.trans hbel.os, hB.tape.trans hbel.tape, hB.output.trans hbel.output, by rw [hz, t.size]; exact hbel.size, fun k hk => ?_⟩
  by_cases hkb : k = b
  ·subst hkb
   show w'.heap[k]? = (w0.heap.setIfInBounds k w'.heap[k])[k]?
   rw [Array.getElem?_setIfInBounds_self_of_lt hlt, Array.getElem?_eq_getElem hbl']
  ·rw [same k hkb, t.ne k hkb]
   exact hbel.block k (by rw [hz] at hk; exact hk)
 ·refine ⟨w0, x, tp, bp, mp, d, l, uses, hR.parts, ?_, hR.lt, blk, once⟩
  exact ⟨hB.os.trans hbel.os, hB.tape.trans hbel.tape, hB.output.trans hbel.output, by rw [t.size]; exact hbel.size, fun k hk => by rw [t.ne k (by omega)]; exact hbel.block k hk⟩
def OfR (w : World) (u : Value) (w' : World) : Prop := ∃ (v : Nat) (y : RvW) (s : SpecV) (T : List Ent), u = .tuple #[.pointer (some ⟨v, 0, none⟩), y.v] ∧ Both w' v y s T ∧ w.heap.size ≤ v ∧ Below w.heap.size w w'
def OfR2 (s0 : SpecV) (w : World) (u : Value) (w' : World) : Prop := ∃ (v : Nat) (y : RvW) (s : SpecV) (T : List Ent), u = .tuple #[.pointer (some ⟨v, 0, none⟩), y.v] ∧ Both w' v y s T ∧ w.heap.size ≤ v ∧ Below w.heap.size w w' ∧ s = s0 ∧ buildV s = .ok T
theorem lawOf_spec2 (w : World) (y : CsW) (ls : List Int) (cs : List (Int × Int × Int)) (js : List (Int × Int)) (xs : List (Int × Bs)) (h : CsAt w y ls cs js xs) : CP 17 #[y.v] w fun e w' => ∃ u, e = .returned u ∧ OfR2 (someV ls cs js xs) w u w' := by
 refine vc17_calls y.l.a y.l.n y.l.c y.c.a y.c.n y.c.c y.j.a y.j.n y.j.c y.x.a y.x.n y.x.c w (OfR2 (someV ls cs js xs) w) ?_
 intro w1 hw1 w2 hw2
 have hb1 : Below w.heap.size w w1 := by subst hw1; exact below_alloc _ _
 have b2 : Below w1.heap.size w1 w2 := by subst hw2; exact below_alloc _ _
 have hb2 := below_then hb1 b2
 have l2 : w2.heap[w.heap.size]? = some (.cells y.cells tCs (0, 0)) := held_on b2 (by subst hw1; exact alloc_new _ _)
 have z2 : w2.heap[w1.heap.size]? = some (.cells rv0.cells tRv (0, 0)) := by subst hw2; exact alloc_new _ _
 refine ⟨_, _, _, ptr_add0 _ _ l2 0, _, _, _, ptr_add0 _ _ l2 1, _, _, _, ptr_add0 _ _ l2 2, _, _, _, ptr_add0 _ _ l2 3, ?_⟩
 have h2 := h.on hb2
 clear l2
 clear hw1
 have some2 : CP 65 #[y.l.v, y.c.v, y.j.v, y.x.v] w2 fun e w' => ∃ u, e = .returned u ∧ SomeR (someV ls cs js xs) w2 u w' := by
  obtain ⟨n1, r1, n2, r2, n3, r3, n4, r4, c2, c3, most⟩ := h2
  obtain ⟨⟨l1', l2', l3'⟩, ⟨c1', c2', c3'⟩, ⟨j1', j2', j3'⟩, ⟨x1', x2', x3'⟩⟩ := y
  change l2' = ls.length at n1
  change c2' = cs.length at n2
  change j2' = js.length at n3
  change x2' = xs.length at n4
  subst n1 n2 n3 n4
  exact refSome_spec w2 l1' l3' ls r1 c1' c3' cs r2 j1' j3' js r3 x1' x3' xs r4 c2 c3
 refine some2.mono ?_
 rintro e w3 ⟨u, rfl, x, s, T, rfl, hS, hrk, hright, hT, htok, hfew, hids, hasc, hs0, b3⟩
 refine ⟨_, _, _, _, _, _, _, _, _, _, _, _, _, _, _, _, rfl, ?_⟩
 intro w4 hw4
 refine store_spec x w4 hw4 ?_
 intro w5 h5 b5
 have b35 := below_then b3 b5
 have hb5 := below_then hb2 b35
 have hS5 := hS.on b5
 refine ⟨_, _, _, _, _, _, _, _, _, _, _, _, _, _, _, _, agg_cells h5, ?_⟩
 refine (vocabNew_spec w5 x s hS5).mono ?_
 rintro e w6 ⟨u, rfl, b6, hp⟩
 rw [if_pos hright, hT] at hp
 obtain ⟨v, rfl, hV, hv⟩ := hp
 have hb6 := below_then hb5 b6
 have h6 := held_on b6 h5
 refine ⟨_, _, _, rfl, CondP.no rfl ⟨_, _, _, _, _, _, _, _, _, _, _, _, _, _, _, _, agg_cells h6, ?_⟩⟩
 refine (refOf_spec w6 x s (hS5.on b6) hrk hright T hT).mono ?_
 rintro e w8 ⟨r, rfl, hr, b8, hf, eb, esp⟩
 have hb8 := below_then hb6 b8
 have z8 := held_on b8 (held_on b6 (held_on b35 z2))
 refine ⟨_, _, _, _, _, _, _, _, _, _, _, _, _, _, _, rfl, ?_⟩
 refine storeP_cells z8 (slRv r) rfl (ones_rv r) ?_
 intro w9 h9 hs9 hz9 hB9
 have hvl := hV.lt
 have hz5 := hb5.size
 have hz1 := hb1.size
 have tp : Past w1.heap.size tRv w8 w9 := ⟨⟨_, _, z8, soft_rv rv0⟩, hs9, hz9⟩
 have hV9 : VocIs w9 v s T := tp.voc (hV.on b8) (by decide) (by decide) (by decide) (by decide) (by decide) (hB9 _ _ (Nat.le_refl _) (Below.refl _ _))
 have hr9 : RvAt w9 r s T := hr.past z8 (soft_rv rv0) (fun j _ hj => hs9 j hj) (Nat.le_of_eq hz9.symm)
 have f3 := hS5.r3.far hv
 have f4 := hS5.r4.far hv
 have f5 := hS5.r5.far hv
 refine ⟨_, _, _, _, _, _, _, _, _, _, _, _, _, _, _, agg5 (x := r) h9, v, r, s, T, rfl, ⟨hV9, fun w' t => ?_, hfew, hids, hasc⟩, by omega, hB9 _ _ hz1 hb8, hs0, hT⟩
 obtain ⟨g1, ⟨g2, g3, g4, g5⟩, g6, g7, g8, g9, g10, g11⟩ := hr9
 refine ⟨g1.touch hf hvl t, ⟨g2, g3.touch t (by rw [eb]; exact f4), g4, g5.touch t (by rw [eb]; exact f5)⟩, g6, g7.touch t (by rw [esp]; exact f3), g8, g9, g10, g11⟩
theorem lawOf_spec (w : World) (y : CsW) (ls : List Int) (cs : List (Int × Int × Int)) (js : List (Int × Int)) (xs : List (Int × Bs)) (h : CsAt w y ls cs js xs) : CP 17 #[y.v] w fun e w' => ∃ u, e = .returned u ∧ OfR w u w' :=
 (lawOf_spec2 w y ls cs js xs h).mono fun _ _ ⟨u, e, v, r, s, T, h1, h2, h3, h4, _⟩ => ⟨u, e, v, r, s, T, h1, h2, h3, h4⟩
open Go.ChangeShapes Go.WideShapes
section
variable {H : Type} {enc0 : TypeId × Value → H} {w : World} {base : Nat} {spare : Nat → Bool} {held : Bool}
theorem elem_int {e : TypeId} (he : Tryz.prog.underlying e = some (.int .i64)) : ∀ n cs' y, DataW.trod enc0 Tryz.prog w base spare held n e cs' = some y → ∃ m : Int, cs' = encInt m := by
 intro n cs' y h
 obtain ⟨i, hi, _⟩ := DataW.trod_int he h
 exact ⟨i, hi⟩
theorem elem_u16 {e : TypeId} (he : Tryz.prog.underlying e = some (.int .u16)) : ∀ n cs' y, DataW.trod enc0 Tryz.prog w base spare held n e cs' = some y → ∃ m : Int, cs' = enc16 m := by
 intro n cs' y h
 obtain ⟨i, hi, _⟩ := DataW.trod_int he h
 exact ⟨i, hi⟩
theorem open_intl {A : Option Addr} {N C : Nat} {d : DataW H} {p : List MemPlace} (h : DataW.Trod enc0 Tryz.prog w base spare held tInts (.slice A N C) d p) : ∃ xs : List Int, N = xs.length ∧ SlOk ⟨A, N, C⟩ ∧ N ≤ C ∧ C ≤ maxLen ∧ Rw encInt 1 w A xs := by
 obtain ⟨fuel, hf⟩ := h
 obtain ⟨s, xs, e, n, k, c, m, r⟩ := open_list (enc := encInt) (sz := 1) undInts (by kernel_rfl) (fun _ => rfl) (Nat.succ_pos _) (elem_int Tryz.underlying3) hf
 obtain ⟨sa, sn, sc⟩ := s
 simp [Value.cells] at e
 obtain ⟨rfl, rfl, rfl⟩ := e
 exact ⟨xs, n, k, c, m, r⟩
theorem open_case {b0 : Nat} {v : Value} {d : DataW H} {p : List MemPlace} (hv : Value.okWide Tryz.prog w .any b0 tCs v) (h : DataW.Trod enc0 Tryz.prog w base spare held tCs v d p) : ∃ (y : CsW) (ls : List Int) (cs : List (Int × Int × Int)) (js : List (Int × Int)) (xs : List (Int × Bs)), v = y.v ∧ CsAt w y ls cs js xs := by
 obtain ⟨cs, rfl, hsz⟩ := okWide_struct Tryz.underlying27 hv
 rw [show Tryz.prog.cellsOf tCs = 4 by kernel_rfl] at hsz
 obtain ⟨fuel, hf⟩ := h
 obtain ⟨xs, n, _, _, _, hlen, hF⟩ := DataW.trod_struct Tryz.underlying27 hf
 have h0 : DataW.trod enc0 Tryz.prog w base spare held n 22 ((cs.toList.drop 0).take (Tryz.prog.cellsOf 22)) = xs[0]? := hF 0 _ rfl
 have h1 : DataW.trod enc0 Tryz.prog w base spare held n 23 ((cs.toList.drop 1).take (Tryz.prog.cellsOf 23)) = xs[1]? := hF 1 _ rfl
 have h2 : DataW.trod enc0 Tryz.prog w base spare held n 24 ((cs.toList.drop 2).take (Tryz.prog.cellsOf 24)) = xs[2]? := hF 2 _ rfl
 have h3 : DataW.trod enc0 Tryz.prog w base spare held n 25 ((cs.toList.drop 3).take (Tryz.prog.cellsOf 25)) = xs[3]? := hF 3 _ rfl
 rw [show Tryz.prog.cellsOf 22 = 1 by kernel_rfl] at h0
 rw [show Tryz.prog.cellsOf 23 = 1 by kernel_rfl] at h1
 rw [show Tryz.prog.cellsOf 24 = 1 by kernel_rfl] at h2
 rw [show Tryz.prog.cellsOf 25 = 1 by kernel_rfl] at h3
 have hl4 : cs.toList.length = 4 := by simpa using hsz
 obtain ⟨l, hl⟩ : ∃ l, cs.toList = l := ⟨_, rfl⟩
 obtain rfl : cs = l.toArray := by rw [← hl]
 rw [hl] at h0 h1 h2 h3 hl4
 match l, hl4, xs, hlen with
 | [a0, a1, a2, a3], _, [y0, y1, y2, y3], _ =>
  obtain ⟨s1, l1, e1, n1, k1, c1, m1, r1⟩ := open_list (enc := enc16) (sz := 1) Tryz.underlying22 (by kernel_rfl) (fun _ => rfl) (Nat.succ_pos _) (elem_u16 Tryz.underlying225) h0
  obtain ⟨s2, l2, e2, n2, k2, c2, m2, r2⟩ := open_list (enc := encClass) (sz := 3) undCls (by kernel_rfl) (fun _ => rfl) (Nat.succ_pos _) (elem_class Tryz.underlying168 rfl rfl rfl Tryz.underlying3 Tryz.underlying3 Tryz.underlying3 (by kernel_rfl) (by kernel_rfl) (by kernel_rfl) (by kernel_rfl)) h1
  obtain ⟨s3, l3, e3, n3, k3, c3, m3, r3⟩ := open_list (enc := encPair) (sz := 2) undJns (by kernel_rfl) (fun _ => rfl) (Nat.succ_pos _) (elem_pair Tryz.underlying169 rfl rfl Tryz.underlying3 Tryz.underlying3 (by kernel_rfl) (by kernel_rfl) (by kernel_rfl)) h2
  obtain ⟨s4, l4, e4, n4, k4, c4, m4, r4⟩ := open_list (enc := encSpecial) (sz := 2) undSps (by kernel_rfl) (fun _ => rfl) (Nat.succ_pos _) (elem_special Tryz.underlying171 rfl rfl Tryz.underlying3 undStr (by kernel_rfl) (by kernel_rfl) (by kernel_rfl)) h3
  simp at e1 e2 e3 e4
  subst e1 e2 e3 e4
  exact ⟨⟨s1, s2, s3, s4⟩, l1, l2, l3, l4, rfl, n1, r1, n2, r2, n3, r3, n4, r4, c2, c3, by unfold maxLen at m4; omega⟩
end
end Go.Proofs.YtboemnagahmlkaaGreat.Eng
