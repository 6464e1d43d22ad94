/- The vocabulary of a statement, and the reference's. -/
import Derived.Test.YtpklkijdlnioaaaGreatZhRj
set_option linter.unusedVariables false
set_option linter.unusedSimpArgs false
set_option maxRecDepth 100000
namespace Go.Proofs.YtpklkijdlnioaaaGreat.Eng
open Go Go.RowKit
/-- A case: four slices. -/
structure CsW where
  l : Sl
  c : Sl
  j : Sl
  x : Sl
abbrev CsW.cells (y : CsW) : Array Value := #[y.l.v, y.c.v, y.j.v, y.x.v]
abbrev CsW.v (y : CsW) : Value := .agg y.cells
structure CsAt (w : World) (y : CsW) (ls : List Int) (cs : List (Int × Int × Int)) (js : List (Int × Int)) (xs : List (Int × Bs)) : Prop where
  n1 : y.l.n = ls.length
  r1 : Rw enc16 1 w y.l.a ls
  n2 : y.c.n = cs.length
  r2 : Rw encClass 3 w y.c.a cs
  n3 : y.j.n = js.length
  r3 : Rw encPair 2 w y.j.a js
  n4 : y.x.n = xs.length
  r4 : Rw encSpecial 2 w y.x.a xs
  c2 : y.c.n ≤ y.c.c
  c3 : y.j.n ≤ y.j.c
  most : xs.length ≤ 9223372036854775807
theorem CsAt.on {w w' : World} {y : CsW} {ls : List Int} {cs : List (Int × Int × Int)} {js : List (Int × Int)} {xs : List (Int × Bs)} (h : CsAt w y ls cs js xs) (hb : Below w.heap.size w w') : CsAt w' y ls cs js xs := ⟨h.n1, h.r1.on hb, h.n2, h.r2.on hb, h.n3, h.r3.on hb, h.n4, h.r4.on hb, h.c2, h.c3, h.most⟩
abbrev tCs : TypeId := 27
theorem agg4 {w : World} {b : Nat} {y : CsW} {T : TypeId} {fz : Nat × Nat} (h : w.heap[b]? = some (.cells y.cells T fz)) :
    w.cell? ⟨b, 0, none⟩ = some y.l.v ∧ w.cell? ((⟨b, 0, none⟩ : Addr).add 1) = some y.c.v ∧ w.cell? ((⟨b, 0, none⟩ : Addr).add 2) = some y.j.v ∧ w.cell? ((⟨b, 0, none⟩ : Addr).add 3) = some y.x.v ∧ True := by
  have hc : ∀ j, w.cell? ((⟨b, 0, none⟩ : Addr).add j) = y.cells[j]? := fun j => ptr_add0 _ _ h j
  exact ⟨by have := hc 0; rw [add_zero] at this; exact this, hc 1, hc 2, hc 3, trivial⟩
theorem lawGreat_spec (w : World) (y : CsW) (ls : List Int) (cs : List (Int × Int × Int)) (js : List (Int × Int)) (xs : List (Int × Bs)) (h : CsAt w y ls cs js xs) : Calls Tryz.prog 15 #[y.v] w fun e w' => ∃ n : Int, e = .returned (.int .i64 n) ∧ Below w.heap.size w w' := by
  refine calls_ret (vc15_calls y.l.a y.l.n y.l.c y.c.a y.c.n y.c.c y.j.a y.j.n y.j.c y.x.a y.x.n y.x.c w (fun u w' => ∃ n : Int, u = .int .i64 n ∧ Below w.heap.size w w') ?_) (by rintro v w' ⟨n, rfl, h⟩; exact ⟨n, rfl, h⟩)
  intro w1 hw1
  have hb1 : Below w.heap.size w w1 := by subst hw1; exact below_alloc _ _
  have l1 : w1.heap[w.heap.size]? = some (.cells y.cells tCs (0, 0)) := by subst hw1; exact alloc_new _ _
  refine ⟨_, _, _, ptr_add0 _ _ l1 0, _, _, _, ptr_add0 _ _ l1 1, _, _, _, ptr_add0 _ _ l1 2, _, _, _, ptr_add0 _ _ l1 3, ?_⟩
  have h4 := (h.on hb1).r4
  have n4 := h.n4
  obtain ⟨⟨l1', l2', l3'⟩, ⟨c1', c2', c3'⟩, ⟨j1', j2', j3'⟩, ⟨x1', x2', x3'⟩⟩ := y
  change x2' = xs.length at n4
  subst n4
  refine (refGreat_spec w1 l1' l2' l3' c1' c2' c3' j1' j2' j3' x1' x3' xs h4 h.most).mono ?_
  rintro e w2 ⟨rfl, hw⟩
  subst hw
  exact ⟨_, rfl, CondP.mk (fun _ => ⟨1, rfl, hb1⟩) fun _ => ⟨0, rfl, hb1⟩⟩
/-- The vocabulary, and the reference's; whatever touches the vocabulary alone leaves the other one as it is. -/
structure Both (w : World) (v : Nat) (y : RvW) (s : SpecV) (T : List Ent) : Prop where
  voc : VocIs w v s T
  rv : ∀ w', Touch v w w' → RvAt w' y s T
  few : s.specials.length ≤ 6
  ids : ∀ z ∈ s.specials, 1000 ≤ z.1 ∧ z.1 < 1006
  asc : (s.specials.map (·.1)).Pairwise (· < ·)
theorem Both.now {w : World} {v : Nat} {y : RvW} {s : SpecV} {T : List Ent} (h : Both w v y s T) : RvAt w y s T := h.rv w (Touch.of_below (Below.refl _ _))
theorem Both.on {w w' : World} {v : Nat} {y : RvW} {s : SpecV} {T : List Ent} (h : Both w v y s T) (hb : Below w.heap.size w w') : Both w' v y s T := ⟨h.voc.on hb, fun w2 t => h.rv w2 ((Touch.of_below hb).trans t), h.few, h.ids, h.asc⟩
theorem Both.touch {w w' : World} {v : Nat} {y : RvW} {s : SpecV} {T : List Ent} (h : Both w v y s T) (t : Touch v w w') (hV : VocIs w' v s T) : Both w' v y s T := ⟨hV, fun w2 t2 => h.rv w2 (t.trans t2), h.few, h.ids, h.asc⟩
theorem VocIs.lt {w : World} {v : Nat} {s : SpecV} {T : List Ent} (h : VocIs w v s T) : v < w.heap.size := by
  obtain ⟨w0, x, tp, bp, mp, d, l, uses, hR⟩ := h
  exact (Array.getElem?_eq_some_iff.1 hR.blk).1
theorem Rw.far {α : Type} {enc : α → List Value} {sz : Nat} {w : World} {a : Option Addr} {xs : List α} (h : Rw enc sz w a xs) {v : Nat} (hv : w.heap.size ≤ v) : xs ≠ [] → ∀ p, a = some p → p.block ≠ v := by
  intro hne p hp e
  cases xs with
  | nil => exact hne rfl
  | cons x xs =>
    obtain ⟨q, hq, hlt, _⟩ := h 0 x rfl
    rw [hp] at hq
    cases hq
    omega
theorem RtAt.touch {w w' : World} {x : RtW} {es : List Ent} {B v : Nat} (h : RtAt w x es) (hf : Fresh B x) (hB : v < B) (t : Touch v w w') : RtAt w' x es :=
  ⟨h.n1, h.r1.touch t fun _ p hp e => by have := hf.1 p hp; omega, h.k1, h.n2, h.r2.touch t fun _ p hp e => by have := hf.2 p hp; omega, h.k2⟩
/-! ### A block of slices alone is stored into -/
structure Past (b : Nat) (e : TypeId) (w w' : World) : Prop where
  blk : ∃ c fz, w.heap[b]? = some (.cells c e fz) ∧ ∀ v ∈ c, ¬ Solid v
  ne : ∀ j, j ≠ b → w'.heap[j]? = w.heap[j]?
  size : w'.heap.size = w.heap.size
theorem Past.row {α : Type} {enc : α → List Value} {sz : Nat} {w w' : World} {b : Nat} {e : TypeId} {a : Option Addr} {xs : List α} (t : Past b e w w') (h : Rw enc sz w a xs) (henc : ∀ x, ∃ v, (enc x)[0]? = some v ∧ Solid v) : Rw enc sz w' a xs := by
  obtain ⟨c, fz, hb, hc⟩ := t.blk
  exact h.past henc hb hc (fun j _ hj => t.ne j hj) (Nat.le_of_eq t.size.symm)
theorem Past.cells {w w' : World} {b k : Nat} {e e' : TypeId} {c : Array Value} {fz : Nat × Nat} (t : Past b e w w') (h : w.heap[k]? = some (.cells c e' fz)) (hne : e ≠ e') : w'.heap[k]? = some (.cells c e' fz) := by
  obtain ⟨c', fz', hb, _⟩ := t.blk
  rw [t.ne k fun e => ?_]
  · exact h
  · subst e
    rw [hb] at h
    cases h
    exact hne rfl
theorem Past.map {κ : Type} [DecidableEq κ] {kv : κ → Value} {w w' : World} {b r : Nat} {e : TypeId} {m : List (κ × Value)} (t : Past b e w w') (h : MapIs kv w r m) : MapIs kv w' r m := by
  obtain ⟨c', fz', hb, _⟩ := t.blk
  refine h.same (t.ne r fun e => ?_)
  subst e
  obtain ⟨es, k, hm, _⟩ := h
  rw [hb] at hm
  cases hm
theorem Past.parts {w w' : World} {b : Nat} {e : TypeId} {s : SpecV} {T : List Ent} {x : SpecW} {tp bp mp : Nat} (t : Past b e w w') (h : VocParts w s T x tp bp mp) (n1 : e ≠ tTable) (n2 : e ≠ tBound) (n3 : e ≠ tSet) : VocParts w' s T x tp bp mp := by
  obtain ⟨h1, h2, h3, h4, h5, h6, h7, h8⟩ := h
  refine ⟨?_, ?_, h3, ?_, ?_, h6, h7, h8⟩
  · exact ⟨h1.ranked, h1.n1, t.row h1.r1 fun m => ⟨_, rfl, solid_int _ _⟩, h1.n2, t.row h1.r2 fun m => ⟨_, rfl, .inr ⟨_, rfl⟩⟩, h1.n3, t.row h1.r3 fun m => ⟨_, rfl, solid_int _ _⟩, h1.n4, t.row h1.r4 fun m => ⟨_, rfl, solid_int _ _⟩, h1.n5, t.row h1.r5 fun m => ⟨_, rfl, solid_int _ _⟩⟩
  · obtain ⟨l, mb, mp, most, g1, g2, g3, g4, g5⟩ := h2
    exact ⟨l, mb, mp, most, t.cells g1 n1, g2, t.row g3 fun m => ⟨_, rfl, .inr ⟨_, rfl⟩⟩, t.map g4, t.map g5⟩
  · obtain ⟨c, g1, g2⟩ := h4
    exact ⟨c, t.cells g1 n2, g2⟩
  · obtain ⟨l, mi, mt, c, g1, g2, g3, g4, g5, g6⟩ := h5
    exact ⟨l, mi, mt, c, t.cells g1 n3, g2, g3, t.row g4 fun m => ⟨_, rfl, solid_int _ _⟩, t.map g5, t.map g6⟩
theorem Past.voc {w w' : World} {b v : Nat} {e : TypeId} {s : SpecV} {T : List Ent} (t : Past b e w w') (h : VocIs w v s T) (n1 : e ≠ tTable) (n2 : e ≠ tBound) (n3 : e ≠ tSet) (n4 : e ≠ tVocab) (n5 : e ≠ tBool) (hB : Below b w w') : VocIs w' v s T := by
  obtain ⟨w0, x, tp, bp, mp, d, l, uses, hR⟩ := h
  have blk := t.cells hR.blk n4
  have once : (d = 0 ∧ l = ⟨none, 0, 0⟩) ∨ (d = 1 ∧ l.n = T.length ∧ w'.ownsRow (v + 1) tBool 1 l.v l.n ((aloneL s T).flatMap encB1)) := by
    rcases hR.once with h | ⟨h1, h2, h3⟩
    · exact .inl h
    · refine .inr ⟨h1, h2, own_same h3 fun k hk => t.ne k fun e => ?_⟩
      obtain ⟨c, fz, hb, _⟩ := t.blk
      exact row_ne_blk h3 hb (fun e => n5 e.symm) (by rw [hk, e])
  have hbel := hR.below
  by_cases hlt : b < w0.heap.size
  · obtain ⟨c, fz, hb, hc⟩ := t.blk
    have hb0 : w0.heap[b]? = some (.cells c e fz) := by rw [← hbel.block b hlt]; exact hb
    have hbl : b < w.heap.size := (Array.getElem?_eq_some_iff.1 hb).1
    have hbl' : b < w'.heap.size := by rw [t.size]; exact hbl
    let w1 : World := { w0 with heap := w0.heap.setIfInBounds b w'.heap[b] }
    have hz : w1.heap.size = w0.heap.size := by simp [w1]
    have same : ∀ j, j ≠ b → w1.heap[j]? = w0.heap[j]? := fun j hj => by
      show (w0.heap.setIfInBounds b w'.heap[b])[j]? = _
      rw [Array.getElem?_setIfInBounds_ne (fun e => hj e.symm)]
    have t0 : Past b e w0 w1 := ⟨⟨c, fz, hb0, hc⟩, same, hz⟩
    refine ⟨w1, x, tp, bp, mp, d, l, uses, t0.parts hR.parts n1 n2 n3, ?_, by rw [hz]; exact hR.lt, blk, once⟩
    refine ⟨hB.os.trans hbel.os, hB.tape.trans hbel.tape, hB.output.trans hbel.output, by rw [hz, t.size]; exact hbel.size, fun k hk => ?_⟩
    by_cases hkb : k = b
    · subst hkb
      show w'.heap[k]? = (w0.heap.setIfInBounds k w'.heap[k])[k]?
      rw [Array.getElem?_setIfInBounds_self_of_lt hlt, Array.getElem?_eq_getElem hbl']
    · rw [same k hkb, t.ne k hkb]
      exact hbel.block k (by rw [hz] at hk; exact hk)
  · refine ⟨w0, x, tp, bp, mp, d, l, uses, hR.parts, ?_, hR.lt, blk, once⟩
    exact ⟨hB.os.trans hbel.os, hB.tape.trans hbel.tape, hB.output.trans hbel.output, by rw [t.size]; exact hbel.size, fun k hk => by rw [t.ne k (by omega)]; exact hbel.block k hk⟩
def OfR (w : World) (u : Value) (w' : World) : Prop := ∃ (v : Nat) (y : RvW) (s : SpecV) (T : List Ent), u = .tuple #[.pointer (some ⟨v, 0, none⟩), y.v] ∧ Both w' v y s T ∧ w.heap.size ≤ v ∧ Below w.heap.size w w'
theorem lawOf_spec (w : World) (y : CsW) (ls : List Int) (cs : List (Int × Int × Int)) (js : List (Int × Int)) (xs : List (Int × Bs)) (h : CsAt w y ls cs js xs) : Calls Tryz.prog 17 #[y.v] w fun e w' => ∃ u, e = .returned u ∧ OfR w u w' := by
  refine vc17_calls y.l.a y.l.n y.l.c y.c.a y.c.n y.c.c y.j.a y.j.n y.j.c y.x.a y.x.n y.x.c w (OfR w) ?_
  intro w1 hw1 w2 hw2
  have hb1 : Below w.heap.size w w1 := by subst hw1; exact below_alloc _ _
  have b2 : Below w1.heap.size w1 w2 := by subst hw2; exact below_alloc _ _
  have hb2 := below_then hb1 b2
  have l2 : w2.heap[w.heap.size]? = some (.cells y.cells tCs (0, 0)) := held_on b2 (by subst hw1; exact alloc_new _ _)
  have z2 : w2.heap[w1.heap.size]? = some (.cells rv0.cells tRv (0, 0)) := by subst hw2; exact alloc_new _ _
  refine ⟨_, _, _, ptr_add0 _ _ l2 0, _, _, _, ptr_add0 _ _ l2 1, _, _, _, ptr_add0 _ _ l2 2, _, _, _, ptr_add0 _ _ l2 3, ?_⟩
  have h2 := h.on hb2
  clear l2
  clear hw1
  have some2 : Calls Tryz.prog 54 #[y.l.v, y.c.v, y.j.v, y.x.v] w2 fun e w' => ∃ u, e = .returned u ∧ SomeR w2 u w' := by
    obtain ⟨n1, r1, n2, r2, n3, r3, n4, r4, c2, c3, most⟩ := h2
    obtain ⟨⟨l1', l2', l3'⟩, ⟨c1', c2', c3'⟩, ⟨j1', j2', j3'⟩, ⟨x1', x2', x3'⟩⟩ := y
    change l2' = ls.length at n1
    change c2' = cs.length at n2
    change j2' = js.length at n3
    change x2' = xs.length at n4
    subst n1 n2 n3 n4
    exact refSome_spec w2 l1' l3' ls r1 c1' c3' cs r2 j1' j3' js r3 x1' x3' xs r4 c2 c3
  refine some2.mono ?_
  rintro e w3 ⟨u, rfl, x, s, T, rfl, hS, hrk, hright, hT, htok, hfew, hids, hasc, b3⟩
  refine ⟨_, _, _, _, _, _, _, _, _, _, _, _, _, _, _, _, rfl, ?_⟩
  intro w4 hw4
  refine store_spec x w4 hw4 ?_
  intro w5 h5 b5
  have b35 := below_then b3 b5
  have hb5 := below_then hb2 b35
  have hS5 := hS.on b5
  refine ⟨_, _, _, _, _, _, _, _, _, _, _, _, _, _, _, _, agg_cells h5, ?_⟩
  refine (vocabNew_spec w5 x s hS5).mono ?_
  rintro e w6 ⟨u, rfl, b6, hp⟩
  rw [if_pos hright, hT] at hp
  obtain ⟨v, rfl, hV, hv⟩ := hp
  have hb6 := below_then hb5 b6
  have h6 := held_on b6 h5
  refine ⟨_, _, _, rfl, CondP.no rfl ⟨_, _, _, _, _, _, _, _, _, _, _, _, _, _, _, _, agg_cells h6, ?_⟩⟩
  refine (refOf_spec w6 x s (hS5.on b6) hrk hright T hT).mono ?_
  rintro e w8 ⟨r, rfl, hr, b8, hf, eb, esp⟩
  have hb8 := below_then hb6 b8
  have z8 := held_on b8 (held_on b6 (held_on b35 z2))
  refine ⟨_, _, _, _, _, _, _, _, _, _, _, _, _, _, _, rfl, ?_⟩
  refine storeP_cells z8 (slRv r) rfl (ones_rv r) ?_
  intro w9 h9 hs9 hz9 hB9
  have hvl := hV.lt
  have hz5 := hb5.size
  have hz1 := hb1.size
  have tp : Past w1.heap.size tRv w8 w9 := ⟨⟨_, _, z8, soft_rv rv0⟩, hs9, hz9⟩
  have hV9 : VocIs w9 v s T := tp.voc (hV.on b8) (by decide) (by decide) (by decide) (by decide) (by decide) (hB9 _ _ (Nat.le_refl _) (Below.refl _ _))
  have hr9 : RvAt w9 r s T := hr.past z8 (soft_rv rv0) (fun j _ hj => hs9 j hj) (Nat.le_of_eq hz9.symm)
  have f3 := hS5.r3.far hv
  have f4 := hS5.r4.far hv
  have f5 := hS5.r5.far hv
  refine ⟨_, _, _, _, _, _, _, _, _, _, _, _, _, _, _, agg5 (x := r) h9, v, r, s, T, rfl, ⟨hV9, fun w' t => ?_, hfew, hids, hasc⟩, by omega, hB9 _ _ hz1 hb8⟩
  obtain ⟨g1, ⟨g2, g3, g4, g5⟩, g6, g7, g8, g9, g10, g11⟩ := hr9
  refine ⟨g1.touch hf hvl t, ⟨g2, g3.touch t (by rw [eb]; exact f4), g4, g5.touch t (by rw [eb]; exact f5)⟩, g6, g7.touch t (by rw [esp]; exact f3), g8, g9, g10, g11⟩

/-! ### Arguments, opened -/
open Go.ChangeShapes Go.WideShapes
section
variable {H : Type} {enc0 : TypeId × Value → H} {w : World} {base : Nat} {spare : Nat → Bool} {held : Bool}
theorem elem_int {e : TypeId} (he : Tryz.prog.underlying e = some (.int .i64)) : ∀ n cs' y, DataW.trod enc0 Tryz.prog w base spare held n e cs' = some y → ∃ m : Int, cs' = encInt m := by
  intro n cs' y h
  obtain ⟨i, hi, _⟩ := DataW.trod_int he h
  exact ⟨i, hi⟩
theorem elem_u16 {e : TypeId} (he : Tryz.prog.underlying e = some (.int .u16)) : ∀ n cs' y, DataW.trod enc0 Tryz.prog w base spare held n e cs' = some y → ∃ m : Int, cs' = enc16 m := by
  intro n cs' y h
  obtain ⟨i, hi, _⟩ := DataW.trod_int he h
  exact ⟨i, hi⟩
theorem SlOk.zero {s : Sl} (h : SlOk s) : s.a = none → s.c = 0 := by
  intro hn
  rcases h with rfl | ⟨a, ha⟩
  · rfl
  · rw [ha] at hn; cases hn
theorem open_intl {A : Option Addr} {N C : Nat} {d : DataW H} {p : List MemPlace} (h : DataW.Trod enc0 Tryz.prog w base spare held tInts (.slice A N C) d p) : ∃ xs : List Int, N = xs.length ∧ SlOk ⟨A, N, C⟩ ∧ N ≤ C ∧ C ≤ maxLen ∧ Rw encInt 1 w A xs := by
  obtain ⟨fuel, hf⟩ := h
  obtain ⟨s, xs, e, n, k, c, m, r⟩ := open_list (enc := encInt) (sz := 1) undInts (by kernel_rfl) (fun _ => rfl) (Nat.succ_pos _) (elem_int Tryz.underlying3) hf
  obtain ⟨sa, sn, sc⟩ := s
  simp [Value.cells] at e
  obtain ⟨rfl, rfl, rfl⟩ := e
  exact ⟨xs, n, k, c, m, r⟩
theorem open_case {b0 : Nat} {v : Value} {d : DataW H} {p : List MemPlace} (hv : Value.okWide Tryz.prog w .any b0 tCs v) (h : DataW.Trod enc0 Tryz.prog w base spare held tCs v d p) : ∃ (y : CsW) (ls : List Int) (cs : List (Int × Int × Int)) (js : List (Int × Int)) (xs : List (Int × Bs)), v = y.v ∧ CsAt w y ls cs js xs := by
  obtain ⟨cs, rfl, hsz⟩ := okWide_struct Tryz.underlying27 hv
  rw [show Tryz.prog.cellsOf tCs = 4 by kernel_rfl] at hsz
  obtain ⟨fuel, hf⟩ := h
  obtain ⟨xs, n, _, _, _, hlen, hF⟩ := DataW.trod_struct Tryz.underlying27 hf
  have h0 : DataW.trod enc0 Tryz.prog w base spare held n 22 ((cs.toList.drop 0).take (Tryz.prog.cellsOf 22)) = xs[0]? := hF 0 _ rfl
  have h1 : DataW.trod enc0 Tryz.prog w base spare held n 23 ((cs.toList.drop 1).take (Tryz.prog.cellsOf 23)) = xs[1]? := hF 1 _ rfl
  have h2 : DataW.trod enc0 Tryz.prog w base spare held n 24 ((cs.toList.drop 2).take (Tryz.prog.cellsOf 24)) = xs[2]? := hF 2 _ rfl
  have h3 : DataW.trod enc0 Tryz.prog w base spare held n 25 ((cs.toList.drop 3).take (Tryz.prog.cellsOf 25)) = xs[3]? := hF 3 _ rfl
  rw [show Tryz.prog.cellsOf 22 = 1 by kernel_rfl] at h0
  rw [show Tryz.prog.cellsOf 23 = 1 by kernel_rfl] at h1
  rw [show Tryz.prog.cellsOf 24 = 1 by kernel_rfl] at h2
  rw [show Tryz.prog.cellsOf 25 = 1 by kernel_rfl] at h3
  have hl4 : cs.toList.length = 4 := by simpa using hsz
  obtain ⟨l, hl⟩ : ∃ l, cs.toList = l := ⟨_, rfl⟩
  obtain rfl : cs = l.toArray := by rw [← hl]
  rw [hl] at h0 h1 h2 h3 hl4
  match l, hl4, xs, hlen with
  | [a0, a1, a2, a3], _, [y0, y1, y2, y3], _ =>
    obtain ⟨s1, l1, e1, n1, k1, c1, m1, r1⟩ := open_list (enc := enc16) (sz := 1) Tryz.underlying22 (by kernel_rfl) (fun _ => rfl) (Nat.succ_pos _) (elem_u16 Tryz.underlying188) h0
    obtain ⟨s2, l2, e2, n2, k2, c2, m2, r2⟩ := open_list (enc := encClass) (sz := 3) undCls (by kernel_rfl) (fun _ => rfl) (Nat.succ_pos _) (elem_class Tryz.underlying125 rfl rfl rfl Tryz.underlying3 Tryz.underlying3 Tryz.underlying3 (by kernel_rfl) (by kernel_rfl) (by kernel_rfl) (by kernel_rfl)) h1
    obtain ⟨s3, l3, e3, n3, k3, c3, m3, r3⟩ := open_list (enc := encPair) (sz := 2) undJns (by kernel_rfl) (fun _ => rfl) (Nat.succ_pos _) (elem_pair Tryz.underlying126 rfl rfl Tryz.underlying3 Tryz.underlying3 (by kernel_rfl) (by kernel_rfl) (by kernel_rfl)) h2
    obtain ⟨s4, l4, e4, n4, k4, c4, m4, r4⟩ := open_list (enc := encSpecial) (sz := 2) undSps (by kernel_rfl) (fun _ => rfl) (Nat.succ_pos _) (elem_special Tryz.underlying93 rfl rfl Tryz.underlying3 undStr (by kernel_rfl) (by kernel_rfl) (by kernel_rfl)) h3
    simp at e1 e2 e3 e4
    subst e1 e2 e3 e4
    exact ⟨⟨s1, s2, s3, s4⟩, l1, l2, l3, l4, rfl, n1, r1, n2, r2, n3, r3, n4, r4, c2, c3, by unfold maxLen at m4; omega⟩
end
end Go.Proofs.YtpklkijdlnioaaaGreat.Eng
