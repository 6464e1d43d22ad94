/- The vocabulary of a statement, and the reference's. -/
import Derived.Test.YtnmdljikfhafiaaGreatZcRb
import Derived.Test.YtnmdljikfhafiaaGreatZcTab
import Derived.Test.YtnmdljikfhafiaaGreatZcSp
import Derived.RangeFuncFrom
import Derived.RangeFuncCalls
import Derived.RangeFuncLeaves
import Derived.RangeFuncBox
import Derived.Shelf.Abstract
import Derived.Shelf.RegionOpen
import Derived.OwnWalkIn
import Derived.TacticsInMore
import Derived.LoopNIn
import Derived.LoopIn
import Derived.Test.YtnmdljikfhafiaaGreatZcVc
set_option linter.unusedVariables false
set_option linter.unusedSimpArgs false
set_option maxRecDepth 100000
namespace Go.Proofs.YtnmdljikfhafiaaGreat.Eng
open Go Go.RowKit
structure CsW where
 l : Sl
 c : Sl
 j : Sl
 x : Sl
abbrev CsW.cells (y : CsW) : Array Value := #[y.l.v, y.c.v, y.j.v, y.x.v]
abbrev CsW.v (y : CsW) : Value := .agg y.cells
structure CsAt (w : World) (y : CsW) (ls : List Int) (cs : List (Int × Int × Int)) (js : List (Int × Int)) (xs : List (Int × Bs)) : Prop where
 n1 : y.l.n = ls.length
 r1 : Rw enc16 1 w y.l.a ls
 n2 : y.c.n = cs.length
 r2 : Rw encClass 3 w y.c.a cs
 n3 : y.j.n = js.length
 r3 : Rw encPair 2 w y.j.a js
 n4 : y.x.n = xs.length
 r4 : Rw encSpecial 2 w y.x.a xs
 c2 : y.c.n ≤ y.c.c
 c3 : y.j.n ≤ y.j.c
 most : xs.length ≤ 9223372036854775807
theorem CsAt.on {w w' : World} {y : CsW} {ls : List Int} {cs : List (Int × Int × Int)} {js : List (Int × Int)} {xs : List (Int × Bs)} (h : CsAt w y ls cs js xs) (hb : Below w.heap.size w w') : CsAt w' y ls cs js xs := ⟨h.n1, h.r1.on hb, h.n2, h.r2.on hb, h.n3, h.r3.on hb, h.n4, h.r4.on hb, h.c2, h.c3, h.most⟩
abbrev tCs : TypeId := 27
theorem agg4 {w : World} {b : Nat} {y : CsW} {T : TypeId} {fz : Nat × Nat} (h : w.heap[b]? = some (.cells y.cells T fz)) :
  w.cell? ⟨b, 0, none⟩ = some y.l.v ∧ w.cell? ((⟨b, 0, none⟩ : Addr).add 1) = some y.c.v ∧ w.cell? ((⟨b, 0, none⟩ : Addr).add 2) = some y.j.v ∧ w.cell? ((⟨b, 0, none⟩ : Addr).add 3) = some y.x.v ∧ True := by
 have hc : ∀ j, w.cell? ((⟨b, 0, none⟩ : Addr).add j) = y.cells[j]? := fun j => ptr_add0 _ _ h j
 exact ⟨by have := hc 0; rw [add_zero] at this; exact this, hc 1, hc 2, hc 3, trivial⟩
theorem lawGreat_spec (w : World) (y : CsW) (ls : List Int) (cs : List (Int × Int × Int)) (js : List (Int × Int)) (xs : List (Int × Bs)) (h : CsAt w y ls cs js xs) : CP 13 #[y.v] w fun e w' => ∃ n : Int, e = .returned (.int .i64 n) ∧ Below w.heap.size w w' := by
 refine calls_ret (vc13_calls y.l.a y.l.n y.l.c y.c.a y.c.n y.c.c y.j.a y.j.n y.j.c y.x.a y.x.n y.x.c w (fun u w' => ∃ n : Int, u = .int .i64 n ∧ Below w.heap.size w w') ?_) (by rintro v w' ⟨n, rfl, h⟩; exact ⟨n, rfl, h⟩)
 intro w1 hw1
 have hb1 : Below w.heap.size w w1 := by subst hw1; exact below_alloc _ _
 have l1 : w1.heap[w.heap.size]? = some (.cells y.cells tCs (0, 0)) := by subst hw1; exact alloc_new _ _
 refine ⟨_, _, _, ptr_add0 _ _ l1 0, _, _, _, ptr_add0 _ _ l1 1, _, _, _, ptr_add0 _ _ l1 2, _, _, _, ptr_add0 _ _ l1 3, ?_⟩
 have h4 := (h.on hb1).r4
 have n4 := h.n4
 obtain ⟨⟨l1', l2', l3'⟩, ⟨c1', c2', c3'⟩, ⟨j1', j2', j3'⟩, ⟨x1', x2', x3'⟩⟩ := y
 change x2' = xs.length at n4
 subst n4
 refine (refGreat_spec w1 l1' l2' l3' c1' c2' c3' j1' j2' j3' x1' x3' xs h4 h.most).mono ?_
 rintro e w2 ⟨rfl, hw⟩
 subst hw
 exact ⟨_, rfl, CondP.mk (fun _ => ⟨1, rfl, hb1⟩) fun _ => ⟨0, rfl, hb1⟩⟩
structure Both (w : World) (v : Nat) (y : RvW) (s : SpecV) (T : List Ent) : Prop where
 voc : VocIs w v s T
 rv : ∀ w', Touch v w w' → RvAt w' y s T
 few : s.specials.length ≤ 6
 ids : ∀ z ∈ s.specials, 1000 ≤ z.1 ∧ z.1 < 1006
 asc : (s.specials.map (·.1)).Pairwise (· < ·)
theorem Both.now {w : World} {v : Nat} {y : RvW} {s : SpecV} {T : List Ent} (h : Both w v y s T) : RvAt w y s T := h.rv w (Touch.of_below (Below.refl _ _))
theorem Both.on {w w' : World} {v : Nat} {y : RvW} {s : SpecV} {T : List Ent} (h : Both w v y s T) (hb : Below w.heap.size w w') : Both w' v y s T := ⟨h.voc.on hb, fun w2 t => h.rv w2 ((Touch.of_below hb).trans t), h.few, h.ids, h.asc⟩
theorem Both.touch {w w' : World} {v : Nat} {y : RvW} {s : SpecV} {T : List Ent} (h : Both w v y s T) (t : Touch v w w') (hV : VocIs w' v s T) : Both w' v y s T := ⟨hV, fun w2 t2 => h.rv w2 (t.trans t2), h.few, h.ids, h.asc⟩
theorem VocIs.lt {w : World} {v : Nat} {s : SpecV} {T : List Ent} (h : VocIs w v s T) : v < w.heap.size := by
 obtain ⟨w0, x, tp, bp, mp, d, l, uses, hR⟩ := h
 exact (Array.getElem?_eq_some_iff.1 hR.blk).1
theorem Rw.far {α : Type} {enc : α → List Value} {sz : Nat} {w : World} {a : Option Addr} {xs : List α} (h : Rw enc sz w a xs) {v : Nat} (hv : w.heap.size ≤ v) : xs ≠ [] → ∀ p, a = some p → p.block ≠ v := by
 intro hne p hp e
 cases xs with
 | nil => exact hne rfl
 | cons x xs =>
  obtain ⟨q, hq, hlt, _⟩ := h 0 x rfl
  rw [hp] at hq
  cases hq
  omega
theorem RtAt.touch {w w' : World} {x : RtW} {es : List Ent} {B v : Nat} (h : RtAt w x es) (hf : Fresh B x) (hB : v < B) (t : Touch v w w') : RtAt w' x es :=
 ⟨h.n1, h.r1.touch t fun _ p hp e => by have := hf.1 p hp; omega, h.k1, h.n2, h.r2.touch t fun _ p hp e => by have := hf.2 p hp; omega, h.k2⟩
structure Past (b : Nat) (e : TypeId) (w w' : World) : Prop where
 blk : ∃ c fz, w.heap[b]? = some (.cells c e fz) ∧ ∀ v ∈ c, ¬ Solid v
 ne : ∀ j, j ≠ b → w'.heap[j]? = w.heap[j]?
 size : w'.heap.size = w.heap.size
theorem Past.row {α : Type} {enc : α → List Value} {sz : Nat} {w w' : World} {b : Nat} {e : TypeId} {a : Option Addr} {xs : List α} (t : Past b e w w') (h : Rw enc sz w a xs) (henc : ∀ x, ∃ v, (enc x)[0]? = some v ∧ Solid v) : Rw enc sz w' a xs := by
 obtain ⟨c, fz, hb, hc⟩ := t.blk
 exact h.past henc hb hc (fun j _ hj => t.ne j hj) (Nat.le_of_eq t.size.symm)
theorem Past.cells {w w' : World} {b k : Nat} {e e' : TypeId} {c : Array Value} {fz : Nat × Nat} (t : Past b e w w') (h : w.heap[k]? = some (.cells c e' fz)) (hne : e ≠ e') : w'.heap[k]? = some (.cells c e' fz) := by
 obtain ⟨c', fz', hb, _⟩ := t.blk
 rw [t.ne k fun e => ?_]
 ·exact h
 ·subst e
  rw [hb] at h
  cases h
  exact hne rfl
theorem Past.map {κ : Type} [DecidableEq κ] {kv : κ → Value} {w w' : World} {b r : Nat} {e : TypeId} {m : List (κ × Value)} (t : Past b e w w') (h : MapIs kv w r m) : MapIs kv w' r m := by
 obtain ⟨c', fz', hb, _⟩ := t.blk
 refine h.same (t.ne r fun e => ?_)
 subst e
 obtain ⟨es, k, hm, _⟩ := h
 rw [hb] at hm
 cases hm
theorem Past.parts {w w' : World} {b : Nat} {e : TypeId} {s : SpecV} {T : List Ent} {x : SpecW} {tp bp mp : Nat} (t : Past b e w w') (h : VocParts w s T x tp bp mp) (n1 : e ≠ tTable) (n2 : e ≠ tBound) (n3 : e ≠ tSet) : VocParts w' s T x tp bp mp := by
 obtain ⟨h1, h2, h3, h4, h5, h6, h7, h8⟩ := h
 refine ⟨?_, ?_, h3, ?_, ?_, h6, h7, h8⟩
 ·exact ⟨h1.ranked, h1.n1, t.row h1.r1 fun m => ⟨_, rfl, solid_int _ _⟩, h1.n2, t.row h1.r2 fun m => ⟨_, rfl, .inr ⟨_, rfl⟩⟩, h1.n3, t.row h1.r3 fun m => ⟨_, rfl, solid_int _ _⟩, h1.n4, t.row h1.r4 fun m => ⟨_, rfl, solid_int _ _⟩, h1.n5, t.row h1.r5 fun m => ⟨_, rfl, solid_int _ _⟩⟩
 ·obtain ⟨l, mb, mp, most, g1, g2, g3, g4, g5⟩ := h2
  exact ⟨l, mb, mp, most, t.cells g1 n1, g2, t.row g3 fun m => ⟨_, rfl, .inr ⟨_, rfl⟩⟩, t.map g4, t.map g5⟩
 ·obtain ⟨c, g1, g2⟩ := h4
  exact ⟨c, t.cells g1 n2, g2⟩
 ·obtain ⟨l, mi, mt, c, g1, g2, g3, g4, g5, g6⟩ := h5
  exact ⟨l, mi, mt, c, t.cells g1 n3, g2, g3, t.row g4 fun m => ⟨_, rfl, solid_int _ _⟩, t.map g5, t.map g6⟩
theorem Past.voc {w w' : World} {b v : Nat} {e : TypeId} {s : SpecV} {T : List Ent} (t : Past b e w w') (h : VocIs w v s T) (n1 : e ≠ tTable) (n2 : e ≠ tBound) (n3 : e ≠ tSet) (n4 : e ≠ tVocab) (n5 : e ≠ tBool) (hB : Below b w w') : VocIs w' v s T := by
 obtain ⟨w0, x, tp, bp, mp, d, l, uses, hR⟩ := h
 have blk := t.cells hR.blk n4
 have once : (d = 0 ∧ l = ⟨none, 0, 0⟩) ∨ (d = 1 ∧ l.n = T.length ∧ w'.ownsRow (v + 1) tBool 1 l.v l.n ((aloneL s T).flatMap encB1)) := by
  rcases hR.once with h | ⟨h1, h2, h3⟩
  ·exact .inl h
  ·refine .inr ⟨h1, h2, own_same h3 fun k hk => t.ne k fun e => ?_⟩
   obtain ⟨c, fz, hb, _⟩ := t.blk
   exact row_ne_blk h3 hb (fun e => n5 e.symm) (by rw [hk, e])
 have hbel := hR.below
 by_cases hlt : b < w0.heap.size
 ·obtain ⟨c, fz, hb, hc⟩ := t.blk
  have hb0 : w0.heap[b]? = some (.cells c e fz) := by rw [← hbel.block b hlt]; exact hb
  have hbl : b < w.heap.size := (Array.getElem?_eq_some_iff.1 hb).1
  have hbl' : b < w'.heap.size := by rw [t.size]; exact hbl
  let w1 : World := { w0 with heap := w0.heap.setIfInBounds b w'.heap[b] }
  have hz : w1.heap.size = w0.heap.size := by simp [w1]
  have same : ∀ j, j ≠ b → w1.heap[j]? = w0.heap[j]? := fun j hj => by
   show (w0.heap.setIfInBounds b w'.heap[b])[j]? = _
   rw [Array.getElem?_setIfInBounds_ne (fun e => hj e.symm)]
  have t0 : Past b e w0 w1 := ⟨⟨c, fz, hb0, hc⟩, same, hz⟩
  refine ⟨w1, x, tp, bp, mp, d, l, uses, t0.parts hR.parts n1 n2 n3, ?_, by rw [hz]; exact hR.lt, blk, once⟩
  refine ⟨hB.os.trans hbel.os, hB.tape.trans hbel.tape, hB.output.trans hbel.output, by rw [hz, t.size]; exact hbel.size, fun k hk => ?_⟩
  by_cases hkb : k = b
  ·subst hkb
   show w'.heap[k]? = (w0.heap.setIfInBounds k w'.heap[k])[k]?
   rw [Array.getElem?_setIfInBounds_self_of_lt hlt, Array.getElem?_eq_getElem hbl']
  ·rw [same k hkb, t.ne k hkb]
   exact hbel.block k (by rw [hz] at hk; exact hk)
 ·refine ⟨w0, x, tp, bp, mp, d, l, uses, hR.parts, ?_, hR.lt, blk, once⟩
  exact ⟨hB.os.trans hbel.os, hB.tape.trans hbel.tape, hB.output.trans hbel.output, by rw [t.size]; exact hbel.size, fun k hk => by rw [t.ne k (by omega)]; exact hbel.block k hk⟩
def OfR (w : World) (u : Value) (w' : World) : Prop := ∃ (v : Nat) (y : RvW) (s : SpecV) (T : List Ent), u = .tuple #[.pointer (some ⟨v, 0, none⟩), y.v] ∧ Both w' v y s T ∧ w.heap.size ≤ v ∧ Below w.heap.size w w'
def OfR2 (s0 : SpecV) (w : World) (u : Value) (w' : World) : Prop := ∃ (v : Nat) (y : RvW) (s : SpecV) (T : List Ent), u = .tuple #[.pointer (some ⟨v, 0, none⟩), y.v] ∧ Both w' v y s T ∧ w.heap.size ≤ v ∧ Below w.heap.size w w' ∧ s = s0 ∧ buildV s = .ok T
theorem lawOf_spec2 (w : World) (y : CsW) (ls : List Int) (cs : List (Int × Int × Int)) (js : List (Int × Int)) (xs : List (Int × Bs)) (h : CsAt w y ls cs js xs) : CP 15 #[y.v] w fun e w' => ∃ u, e = .returned u ∧ OfR2 (someV ls cs js xs) w u w' := by
 refine vc15_calls y.l.a y.l.n y.l.c y.c.a y.c.n y.c.c y.j.a y.j.n y.j.c y.x.a y.x.n y.x.c w (OfR2 (someV ls cs js xs) w) ?_
 intro w1 hw1 w2 hw2
 have hb1 : Below w.heap.size w w1 := by subst hw1; exact below_alloc _ _
 have b2 : Below w1.heap.size w1 w2 := by subst hw2; exact below_alloc _ _
 have hb2 := below_then hb1 b2
 have l2 : w2.heap[w.heap.size]? = some (.cells y.cells tCs (0, 0)) := held_on b2 (by subst hw1; exact alloc_new _ _)
 have z2 : w2.heap[w1.heap.size]? = some (.cells rv0.cells tRv (0, 0)) := by subst hw2; exact alloc_new _ _
 refine ⟨_, _, _, ptr_add0 _ _ l2 0, _, _, _, ptr_add0 _ _ l2 1, _, _, _, ptr_add0 _ _ l2 2, _, _, _, ptr_add0 _ _ l2 3, ?_⟩
 have h2 := h.on hb2
 clear l2
 clear hw1
 have some2 : CP 54 #[y.l.v, y.c.v, y.j.v, y.x.v] w2 fun e w' => ∃ u, e = .returned u ∧ SomeR (someV ls cs js xs) w2 u w' := by
  obtain ⟨n1, r1, n2, r2, n3, r3, n4, r4, c2, c3, most⟩ := h2
  obtain ⟨⟨l1', l2', l3'⟩, ⟨c1', c2', c3'⟩, ⟨j1', j2', j3'⟩, ⟨x1', x2', x3'⟩⟩ := y
  change l2' = ls.length at n1
  change c2' = cs.length at n2
  change j2' = js.length at n3
  change x2' = xs.length at n4
  subst n1 n2 n3 n4
  exact refSome_spec w2 l1' l3' ls r1 c1' c3' cs r2 j1' j3' js r3 x1' x3' xs r4 c2 c3
 refine some2.mono ?_
 rintro e w3 ⟨u, rfl, x, s, T, rfl, hS, hrk, hright, hT, htok, hfew, hids, hasc, hs0, b3⟩
 refine ⟨_, _, _, _, _, _, _, _, _, _, _, _, _, _, _, _, rfl, ?_⟩
 intro w4 hw4
 refine store_spec x w4 hw4 ?_
 intro w5 h5 b5
 have b35 := below_then b3 b5
 have hb5 := below_then hb2 b35
 have hS5 := hS.on b5
 refine ⟨_, _, _, _, _, _, _, _, _, _, _, _, _, _, _, _, agg_cells h5, ?_⟩
 refine (vocabNew_spec w5 x s hS5).mono ?_
 rintro e w6 ⟨u, rfl, b6, hp⟩
 rw [if_pos hright, hT] at hp
 obtain ⟨v, rfl, hV, hv⟩ := hp
 have hb6 := below_then hb5 b6
 have h6 := held_on b6 h5
 refine ⟨_, _, _, rfl, CondP.no rfl ⟨_, _, _, _, _, _, _, _, _, _, _, _, _, _, _, _, agg_cells h6, ?_⟩⟩
 refine (refOf_spec w6 x s (hS5.on b6) hrk hright T hT).mono ?_
 rintro e w8 ⟨r, rfl, hr, b8, hf, eb, esp⟩
 have hb8 := below_then hb6 b8
 have z8 := held_on b8 (held_on b6 (held_on b35 z2))
 refine ⟨_, _, _, _, _, _, _, _, _, _, _, _, _, _, _, rfl, ?_⟩
 refine storeP_cells z8 (slRv r) rfl (ones_rv r) ?_
 intro w9 h9 hs9 hz9 hB9
 have hvl := hV.lt
 have hz5 := hb5.size
 have hz1 := hb1.size
 have tp : Past w1.heap.size tRv w8 w9 := ⟨⟨_, _, z8, soft_rv rv0⟩, hs9, hz9⟩
 have hV9 : VocIs w9 v s T := tp.voc (hV.on b8) (by decide) (by decide) (by decide) (by decide) (by decide) (hB9 _ _ (Nat.le_refl _) (Below.refl _ _))
 have hr9 : RvAt w9 r s T := hr.past z8 (soft_rv rv0) (fun j _ hj => hs9 j hj) (Nat.le_of_eq hz9.symm)
 have f3 := hS5.r3.far hv
 have f4 := hS5.r4.far hv
 have f5 := hS5.r5.far hv
 refine ⟨_, _, _, _, _, _, _, _, _, _, _, _, _, _, _, agg5 (x := r) h9, v, r, s, T, rfl, ⟨hV9, fun w' t => ?_, hfew, hids, hasc⟩, by omega, hB9 _ _ hz1 hb8, hs0, hT⟩
 obtain ⟨g1, ⟨g2, g3, g4, g5⟩, g6, g7, g8, g9, g10, g11⟩ := hr9
 refine ⟨g1.touch hf hvl t, ⟨g2, g3.touch t (by rw [eb]; exact f4), g4, g5.touch t (by rw [eb]; exact f5)⟩, g6, g7.touch t (by rw [esp]; exact f3), g8, g9, g10, g11⟩
theorem lawOf_spec (w : World) (y : CsW) (ls : List Int) (cs : List (Int × Int × Int)) (js : List (Int × Int)) (xs : List (Int × Bs)) (h : CsAt w y ls cs js xs) : CP 15 #[y.v] w fun e w' => ∃ u, e = .returned u ∧ OfR w u w' :=
 (lawOf_spec2 w y ls cs js xs h).mono fun _ _ ⟨u, e, v, r, s, T, h1, h2, h3, h4, _⟩ => ⟨u, e, v, r, s, T, h1, h2, h3, h4⟩
open Go.ChangeShapes Go.WideShapes
section
variable {H : Type} {enc0 : TypeId × Value → H} {w : World} {base : Nat} {spare : Nat → Bool} {held : Bool}
theorem elem_int {e : TypeId} (he : Tryz.prog.underlying e = some (.int .i64)) : ∀ n cs' y, DataW.trod enc0 Tryz.prog w base spare held n e cs' = some y → ∃ m : Int, cs' = encInt m := by
 intro n cs' y h
 obtain ⟨i, hi, _⟩ := DataW.trod_int he h
 exact ⟨i, hi⟩
theorem elem_u16 {e : TypeId} (he : Tryz.prog.underlying e = some (.int .u16)) : ∀ n cs' y, DataW.trod enc0 Tryz.prog w base spare held n e cs' = some y → ∃ m : Int, cs' = enc16 m := by
 intro n cs' y h
 obtain ⟨i, hi, _⟩ := DataW.trod_int he h
 exact ⟨i, hi⟩
theorem open_intl {A : Option Addr} {N C : Nat} {d : DataW H} {p : List MemPlace} (h : DataW.Trod enc0 Tryz.prog w base spare held tInts (.slice A N C) d p) : ∃ xs : List Int, N = xs.length ∧ SlOk ⟨A, N, C⟩ ∧ N ≤ C ∧ C ≤ maxLen ∧ Rw encInt 1 w A xs := by
 obtain ⟨fuel, hf⟩ := h
 obtain ⟨s, xs, e, n, k, c, m, r⟩ := open_list (enc := encInt) (sz := 1) undInts (by kernel_rfl) (fun _ => rfl) (Nat.succ_pos _) (elem_int Tryz.underlying3) hf
 obtain ⟨sa, sn, sc⟩ := s
 simp [Value.cells] at e
 obtain ⟨rfl, rfl, rfl⟩ := e
 exact ⟨xs, n, k, c, m, r⟩
theorem open_case {b0 : Nat} {v : Value} {d : DataW H} {p : List MemPlace} (hv : Value.okWide Tryz.prog w .any b0 tCs v) (h : DataW.Trod enc0 Tryz.prog w base spare held tCs v d p) : ∃ (y : CsW) (ls : List Int) (cs : List (Int × Int × Int)) (js : List (Int × Int)) (xs : List (Int × Bs)), v = y.v ∧ CsAt w y ls cs js xs := by
 obtain ⟨cs, rfl, hsz⟩ := okWide_struct Tryz.underlying27 hv
 rw [show Tryz.prog.cellsOf tCs = 4 by kernel_rfl] at hsz
 obtain ⟨fuel, hf⟩ := h
 obtain ⟨xs, n, _, _, _, hlen, hF⟩ := DataW.trod_struct Tryz.underlying27 hf
 have h0 : DataW.trod enc0 Tryz.prog w base spare held n 22 ((cs.toList.drop 0).take (Tryz.prog.cellsOf 22)) = xs[0]? := hF 0 _ rfl
 have h1 : DataW.trod enc0 Tryz.prog w base spare held n 23 ((cs.toList.drop 1).take (Tryz.prog.cellsOf 23)) = xs[1]? := hF 1 _ rfl
 have h2 : DataW.trod enc0 Tryz.prog w base spare held n 24 ((cs.toList.drop 2).take (Tryz.prog.cellsOf 24)) = xs[2]? := hF 2 _ rfl
 have h3 : DataW.trod enc0 Tryz.prog w base spare held n 25 ((cs.toList.drop 3).take (Tryz.prog.cellsOf 25)) = xs[3]? := hF 3 _ rfl
 rw [show Tryz.prog.cellsOf 22 = 1 by kernel_rfl] at h0
 rw [show Tryz.prog.cellsOf 23 = 1 by kernel_rfl] at h1
 rw [show Tryz.prog.cellsOf 24 = 1 by kernel_rfl] at h2
 rw [show Tryz.prog.cellsOf 25 = 1 by kernel_rfl] at h3
 have hl4 : cs.toList.length = 4 := by simpa using hsz
 obtain ⟨l, hl⟩ : ∃ l, cs.toList = l := ⟨_, rfl⟩
 obtain rfl : cs = l.toArray := by rw [← hl]
 rw [hl] at h0 h1 h2 h3 hl4
 match l, hl4, xs, hlen with
 | [a0, a1, a2, a3], _, [y0, y1, y2, y3], _ =>
  obtain ⟨s1, l1, e1, n1, k1, c1, m1, r1⟩ := open_list (enc := enc16) (sz := 1) Tryz.underlying22 (by kernel_rfl) (fun _ => rfl) (Nat.succ_pos _) (elem_u16 Tryz.underlying245) h0
  obtain ⟨s2, l2, e2, n2, k2, c2, m2, r2⟩ := open_list (enc := encClass) (sz := 3) undCls (by kernel_rfl) (fun _ => rfl) (Nat.succ_pos _) (elem_class Tryz.underlying158 rfl rfl rfl Tryz.underlying3 Tryz.underlying3 Tryz.underlying3 (by kernel_rfl) (by kernel_rfl) (by kernel_rfl) (by kernel_rfl)) h1
  obtain ⟨s3, l3, e3, n3, k3, c3, m3, r3⟩ := open_list (enc := encPair) (sz := 2) undJns (by kernel_rfl) (fun _ => rfl) (Nat.succ_pos _) (elem_pair Tryz.underlying159 rfl rfl Tryz.underlying3 Tryz.underlying3 (by kernel_rfl) (by kernel_rfl) (by kernel_rfl)) h2
  obtain ⟨s4, l4, e4, n4, k4, c4, m4, r4⟩ := open_list (enc := encSpecial) (sz := 2) undSps (by kernel_rfl) (fun _ => rfl) (Nat.succ_pos _) (elem_special Tryz.underlying105 rfl rfl Tryz.underlying3 undStr (by kernel_rfl) (by kernel_rfl) (by kernel_rfl)) h3
  simp at e1 e2 e3 e4
  subst e1 e2 e3 e4
  exact ⟨⟨s1, s2, s3, s4⟩, l1, l2, l3, l4, rfl, n1, r1, n2, r2, n3, r3, n4, r4, c2, c3, by unfold maxLen at m4; omega⟩
end
open Go Go.Value
def vc3 (a : OA) (b c : Nat) (d : OA) (f g : Nat) (h : OA) (i j : Nat) (k : OA) (l m : Nat) (n : OA) (o p : Nat) (w : World) (R : RW) : Prop :=
 ∀ q, q = w.alloc (.cells #[slice a b c, slice d f g, slice h i j, slice k l m] 27) →
 ∃ r s t u x y z a1 b1 c1 d1 e1, (q.cell? (nb w) = some (slice r s t) ∧ q.cell? ((nb w).add 1) = some (slice u x y) ∧ q.cell? ((nb w).add 2) = some (slice z a1 b1) ∧ q.cell? ((nb w).add 3) = some (slice c1 d1 e1) ∧ True) ∧
 CP 13 #[agg #[slice r s t, slice u x y, slice z a1 b1, slice c1 d1 e1]] q (fun f1 g1 =>
 ∃ h1, f1 = .returned (int .i64 h1) ∧
 CondP (decide (h1 > 0))
 (CP 14 #[] g1 (fun i1 j1 =>
 ∃ k1, i1 = .returned (bool k1) ∧
 R (bool k1) j1))
 (CondP (decide ((o : Int) > 100))
 (CondP (decide ((o : Int) ≤ 4000))
 (CP 14 #[] g1 (fun l1 m1 =>
 ∃ n1, l1 = .returned (bool n1) ∧
 R (bool n1) m1))
 (CP 14 #[] g1 (fun o1 p1 =>
 ∃ q1, o1 = .returned (bool q1) ∧
 CondP (!q1)
 (CP 14 #[] p1 (fun r1 s1 =>
 ∃ t1, r1 = .returned (bool t1) ∧
 R (bool t1) s1))
 (∃ u1 v1 x1 y1 z1 a2 b2 c2 d2 e2 f2 g2, (p1.cell? (nb w) = some (slice u1 v1 x1) ∧ p1.cell? ((nb w).add 1) = some (slice y1 z1 a2) ∧ p1.cell? ((nb w).add 2) = some (slice b2 c2 d2) ∧ p1.cell? ((nb w).add 3) = some (slice e2 f2 g2) ∧ True) ∧
 CP 15 #[agg #[slice u1 v1 x1, slice y1 z1 a2, slice b2 c2 d2, slice e2 f2 g2]] p1 (fun h2 i2 =>
 ∃ j2 k2 l2 m2 n2 o2 p2 q2 r2 s2 t2 u2 v2 x2 y2 z2, h2 = .returned (tuple #[pointer j2, agg #[slice k2 l2 m2, slice n2 o2 p2, slice q2 r2 s2, slice t2 u2 v2, slice x2 y2 z2]]) ∧
 ∀ a3, a3 = i2.alloc (.cells #[slice none 0 0, slice none 0 0, slice none 0 0, slice none 0 0, slice none 0 0] 39) →
 StoreP a3 (nb i2) (fun b3 =>
 CondP (Option.isNone j2)
 (R (bool false) b3)
 (CP 16 #[pointer j2, slice n o p] b3 (fun c3 d3 =>
 ∃ e3 f3, c3 = .returned (tuple #[int .i64 e3, int .i64 f3]) ∧
 CP 17 #[pointer j2, slice n o p] d3 (fun g3 h3 =>
 ∃ i3 j3, g3 = .returned (tuple #[int .i64 i3, int .i64 j3]) ∧
 CondP (decide ((o : Int) > 4000))
 (CondP (e3 == 0)
 (CondP (f3 == 3)
 (CondP (i3 == 0)
 (R (bool (j3 == 3)) h3)
 (R (bool false) h3))
 (R (bool false) h3))
 (R (bool false) h3))
 (∃ k3 l3 m3 n3 o3 p3 q3 r3 s3 t3 u3 v3 x3 y3 z3, (h3.cell? (nb i2) = some (slice k3 l3 m3) ∧ h3.cell? ((nb i2).add 1) = some (slice n3 o3 p3) ∧ h3.cell? ((nb i2).add 2) = some (slice q3 r3 s3) ∧ h3.cell? ((nb i2).add 3) = some (slice t3 u3 v3) ∧ h3.cell? ((nb i2).add 4) = some (slice x3 y3 z3) ∧ True) ∧
 CP 18 #[agg #[slice k3 l3 m3, slice n3 o3 p3, slice q3 r3 s3, slice t3 u3 v3, slice x3 y3 z3], slice n o p] h3 (fun a4 b4 =>
 ∃ c4, a4 = .returned (int .i64 c4) ∧
 CondP (decide (c4 ≥ 0))
 (CondP (e3 == c4)
 (CondP (f3 == 4)
 (CondP (i3 == c4)
 (R (bool (j3 == 4)) b4)
 (R (bool false) b4))
 (R (bool false) b4))
 (R (bool false) b4))
 (∃ d4 e4 f4 g4 h4 i4 j4 k4 l4 m4 n4 o4 p4 q4 r4, (b4.cell? (nb i2) = some (slice d4 e4 f4) ∧ b4.cell? ((nb i2).add 1) = some (slice g4 h4 i4) ∧ b4.cell? ((nb i2).add 2) = some (slice j4 k4 l4) ∧ b4.cell? ((nb i2).add 3) = some (slice m4 n4 o4) ∧ b4.cell? ((nb i2).add 4) = some (slice p4 q4 r4) ∧ True) ∧
 CP 19 #[agg #[slice d4 e4 f4, slice g4 h4 i4, slice j4 k4 l4, slice m4 n4 o4, slice p4 q4 r4], slice n o p] b4 (fun s4 t4 =>
 ∃ u4, s4 = .returned (int .i64 u4) ∧
 CondP (e3 == u4)
 (CondP (f3 == 0)
 (CondP (i3 == u4)
 (R (bool (j3 == 0)) t4)
 (R (bool false) t4))
 (R (bool false) t4))
 (R (bool false) t4))))))))) [slice k2 l2 m2, slice n2 o2 p2, slice q2 r2 s2, slice t2 u2 v2, slice x2 y2 z2] 0)))))
 (CP 14 #[] g1 (fun v4 x4 =>
 ∃ y4, v4 = .returned (bool y4) ∧
 CondP (!y4)
 (CP 14 #[] x4 (fun z4 a5 =>
 ∃ b5, z4 = .returned (bool b5) ∧
 R (bool b5) a5))
 (∃ c5 d5 e5 f5 g5 h5 i5 j5 k5 l5 m5 n5, (x4.cell? (nb w) = some (slice c5 d5 e5) ∧ x4.cell? ((nb w).add 1) = some (slice f5 g5 h5) ∧ x4.cell? ((nb w).add 2) = some (slice i5 j5 k5) ∧ x4.cell? ((nb w).add 3) = some (slice l5 m5 n5) ∧ True) ∧
 CP 15 #[agg #[slice c5 d5 e5, slice f5 g5 h5, slice i5 j5 k5, slice l5 m5 n5]] x4 (fun o5 p5 =>
 ∃ q5 r5 s5 t5 u5 v5 x5 y5 z5 a6 b6 c6 d6 e6 f6 g6, o5 = .returned (tuple #[pointer q5, agg #[slice r5 s5 t5, slice u5 v5 x5, slice y5 z5 a6, slice b6 c6 d6, slice e6 f6 g6]]) ∧
 ∀ h6, h6 = p5.alloc (.cells #[slice none 0 0, slice none 0 0, slice none 0 0, slice none 0 0, slice none 0 0] 39) →
 StoreP h6 (nb p5) (fun i6 =>
 CondP (Option.isNone q5)
 (R (bool false) i6)
 (CP 16 #[pointer q5, slice n o p] i6 (fun j6 k6 =>
 ∃ l6 m6, j6 = .returned (tuple #[int .i64 l6, int .i64 m6]) ∧
 CP 17 #[pointer q5, slice n o p] k6 (fun n6 o6 =>
 ∃ p6 q6, n6 = .returned (tuple #[int .i64 p6, int .i64 q6]) ∧
 CondP (decide ((o : Int) > 4000))
 (CondP (l6 == 0)
 (CondP (m6 == 3)
 (CondP (p6 == 0)
 (R (bool (q6 == 3)) o6)
 (R (bool false) o6))
 (R (bool false) o6))
 (R (bool false) o6))
 (∃ r6 s6 t6 u6 v6 x6 y6 z6 a7 b7 c7 d7 e7 f7 g7, (o6.cell? (nb p5) = some (slice r6 s6 t6) ∧ o6.cell? ((nb p5).add 1) = some (slice u6 v6 x6) ∧ o6.cell? ((nb p5).add 2) = some (slice y6 z6 a7) ∧ o6.cell? ((nb p5).add 3) = some (slice b7 c7 d7) ∧ o6.cell? ((nb p5).add 4) = some (slice e7 f7 g7) ∧ True) ∧
 CP 18 #[agg #[slice r6 s6 t6, slice u6 v6 x6, slice y6 z6 a7, slice b7 c7 d7, slice e7 f7 g7], slice n o p] o6 (fun h7 i7 =>
 ∃ j7, h7 = .returned (int .i64 j7) ∧
 CondP (decide (j7 ≥ 0))
 (CondP (l6 == j7)
 (CondP (m6 == 4)
 (CondP (p6 == j7)
 (R (bool (q6 == 4)) i7)
 (R (bool false) i7))
 (R (bool false) i7))
 (R (bool false) i7))
 (∃ k7 l7 m7 n7 o7 p7 q7 r7 s7 t7 u7 v7 x7 y7 z7, (i7.cell? (nb p5) = some (slice k7 l7 m7) ∧ i7.cell? ((nb p5).add 1) = some (slice n7 o7 p7) ∧ i7.cell? ((nb p5).add 2) = some (slice q7 r7 s7) ∧ i7.cell? ((nb p5).add 3) = some (slice t7 u7 v7) ∧ i7.cell? ((nb p5).add 4) = some (slice x7 y7 z7) ∧ True) ∧
 CP 19 #[agg #[slice k7 l7 m7, slice n7 o7 p7, slice q7 r7 s7, slice t7 u7 v7, slice x7 y7 z7], slice n o p] i7 (fun a8 b8 =>
 ∃ c8, a8 = .returned (int .i64 c8) ∧
 CondP (l6 == c8)
 (CondP (m6 == 0)
 (CondP (p6 == c8)
 (R (bool (q6 == 0)) b8)
 (R (bool false) b8))
 (R (bool false) b8))
 (R (bool false) b8))))))))) [slice r5 s5 t5, slice u5 v5 x5, slice y5 z5 a6, slice b6 c6 d6, slice e6 f6 g6] 0))))))
theorem vc3_calls (a : OA) (b c : Nat) (d : OA) (f g : Nat) (h : OA) (i j : Nat) (k : OA) (l m : Nat) (n : OA) (o p : Nat) (w : World) (R : RW) (hh : vc3 a b c d f g h i j k l m n o p w R) : CR 3 #[agg #[slice a b c, slice d f g, slice h i j, slice k l m], slice n o p] w R :=
 cden (fn := Tryz.f3) (by kernel_rfl) (by kernel_rfl) (by kernel_rfl) (by kernel_rfl) (by kernel_rfl) hh
def vc49 (a : ByteArray) (w : World) (R : RW) : Prop :=
 ∀ b : KW, (∀ (c : Int) (d : OA) (f g : Nat) (h : World), (CondP (decide (c < (a.size : Int)))
 ((0 : Int) ≤ c ∧ c < (a.size : Int) ∧
 ∀ i, i = h.alloc (.cells #[int .i64 (IntKind.wrap .i64 (btAt a c))] 3) →
 ∃ j k l m, (Builtin.append_ #[28, 28] 28 #[slice d f g, slice (some (nb h)) 1 1]).run Tryz.prog i = .ok (slice j k l) m ∧
 Ar .i64 (c + 1) (fun n =>
 b [int .i64 n, slice j k l] m))
 (R (slice d f g) h)) → b [int .i64 c, slice d f g] h) →
 b [int .i64 0, slice none 0 0] w
theorem vc49_calls (a : ByteArray) (w : World) (R : RW) (hh : vc49 a w R) : CR 49 #[string a] w R :=
 cden (fn := Tryz.f49) (by kernel_rfl) (by kernel_rfl) (by kernel_rfl) (by kernel_rfl) (by kernel_rfl) hh
def vc76 (a b : OA) (c d : Nat) (w : World) (R : RW) : Prop :=
 ∀ f, f = w.alloc (.cells #[pointer a] 31) →
 ∃ g, f.cell? (nb w) = some (pointer g) ∧
 CondP (Option.isNone g)
 (R (slice none 0 0) f)
 (CP 137 #[slice b c d, func (.func 138) #[] #[pointer (some (nb w))]] f (fun h i =>
 ∃ j, h = .returned (bool j) ∧
 CondP j
 (R (slice none 0 0) i)
 (∃ k, i.cell? (nb w) = some (pointer k) ∧
 CP 140 #[pointer k, slice b c d] i (fun l m =>
 ∃ n o p, l = .returned (slice n o p) ∧
 R (slice n o p) m))))
theorem vc76_calls (a b : OA) (c d : Nat) (w : World) (R : RW) (hh : vc76 a b c d w R) : CR 76 #[pointer a, slice b c d] w R :=
 cden (fn := Tryz.f76) (by kernel_rfl) (by kernel_rfl) (by kernel_rfl) (by kernel_rfl) (by kernel_rfl) hh
def vc137 (a : OA) (b c : Nat) (d : Value) (w : World) (R : RW) : Prop :=
 CP 94 #[slice a b c, d] w (fun f g =>
 ∃ h, f = .returned (int .i64 h) ∧
 R (bool (decide (h ≥ 0))) g)
theorem vc137_calls (a : OA) (b c : Nat) (d : Value) (w : World) (R : RW) (hh : vc137 a b c d w R) : CR 137 #[slice a b c, d] w R :=
 cden (fn := Tryz.f137) (by kernel_rfl) (by kernel_rfl) (by kernel_rfl) (by kernel_rfl) (by kernel_rfl) hh
def vc138 (a : Int) (b : OA) (w : World) (R : RW) : Prop :=
 NilC b (fun c =>
 ∃ d, w.cell? c = some (pointer d) ∧
 CP 139 #[pointer d, int .i64 a] w (fun f g =>
 ∃ h, f = .returned (bool h) ∧
 R (bool (!h)) g))
theorem vc138_calls (a : Int) (b : OA) (w : World) (R : RW) (hh : vc138 a b w R) : CR 138 #[int .i64 a, pointer b] w R :=
 cden (fn := Tryz.f138) (by kernel_rfl) (by kernel_rfl) (by kernel_rfl) (by kernel_rfl) (by kernel_rfl) hh
def vc139 (a : OA) (b : Int) (w : World) (R : RW) : Prop :=
 CondP (decide (b ≥ 0))
 (CondP (decide (b < 256))
 (R (bool true) w)
 (CondP (decide (b < 0))
 (CP 73 #[pointer a] w (fun c d =>
 ∃ f, c = .returned (pointer f) ∧
 CP 184 #[pointer f] d (fun g h =>
 ∃ i, g = .returned (int .i64 i) ∧
 Ar .i64 (0 - i) (fun j =>
 R (bool (decide (b ≥ j))) h))))
 (R (bool false) w)))
 (CondP (decide (b < 0))
 (CP 73 #[pointer a] w (fun k l =>
 ∃ m, k = .returned (pointer m) ∧
 CP 184 #[pointer m] l (fun n o =>
 ∃ p, n = .returned (int .i64 p) ∧
 Ar .i64 (0 - p) (fun q =>
 R (bool (decide (b ≥ q))) o))))
 (R (bool false) w))
theorem vc139_calls (a : OA) (b : Int) (w : World) (R : RW) (hh : vc139 a b w R) : CR 139 #[pointer a, int .i64 b] w R :=
 cden (fn := Tryz.f139) (by kernel_rfl) (by kernel_rfl) (by kernel_rfl) (by kernel_rfl) (by kernel_rfl) hh
def vc185 (a b : OA) (c d : Nat) (w : World) (R : RW) : Prop :=
 ∀ f, f = w.alloc (.cells #[pointer a] 31) →
 ∀ g, g = f.alloc (.cells #[slice b c d] 28) →
 R (func (.func 219) #[] #[pointer (some (nb f)), pointer (some (nb w))]) g
theorem vc185_calls (a b : OA) (c d : Nat) (w : World) (R : RW) (hh : vc185 a b c d w R) : CR 185 #[pointer a, slice b c d] w R :=
 cden (fn := Tryz.f185) (by kernel_rfl) (by kernel_rfl) (by kernel_rfl) (by kernel_rfl) (by kernel_rfl) hh
def vc186 (a b : OA) (c d : Nat) (w : World) (R : RW) : Prop :=
 NilC b (fun f =>
 (0 : Int) ≤ 0 ∧ 0 < (c : Int) ∧
 ∃ g, w.cell? (f.add ((0 : Int).toNat * 1)) = some (int .i64 g) ∧
 CondP (decide (g < 0))
 (∀ h, h = w.drew →
 NilC b (fun i =>
 (0 : Int) ≤ 0 ∧ 0 < (c : Int) ∧
 ∃ j, h.cell? (i.add ((0 : Int).toNat * 1)) = some (int .i64 j) ∧
 CP 73 #[pointer a] h (fun k l =>
 ∃ m, k = .returned (pointer m) ∧
 (l.cell? (i.add ((0 : Int).toNat * 1)) = some (int .i64 j) ∧ True) ∧
 CP 221 #[pointer m, int .i64 j] l (fun n o =>
 ∃ p q, n = .returned (tuple #[int .i64 p, bool q]) ∧
 ∀ r, r = o.alloc (.cells #[int .i64 p] 3) →
 R (slice (some (nb o)) 1 1) r))))
 (CP 67 #[pointer a] w (fun s t =>
 ∃ u, s = .returned (pointer u) ∧
 CP 222 #[slice b c d] t (fun x y =>
 ∃ z, x = .returned (string z) ∧
 CP 191 #[pointer u, string z] y (fun a1 b1 =>
 ∃ c1 d1 e1, a1 = .returned (slice c1 d1 e1) ∧
 R (slice c1 d1 e1) b1)))))
theorem vc186_calls (a b : OA) (c d : Nat) (w : World) (R : RW) (hh : vc186 a b c d w R) : CR 186 #[pointer a, slice b c d] w R :=
 cden (fn := Tryz.f186) (by kernel_rfl) (by kernel_rfl) (by kernel_rfl) (by kernel_rfl) (by kernel_rfl) hh
def vc220 (a b : OA) (c d : Nat) (w : World) (R : RW) : Prop :=
 NilC b (fun f =>
 (0 : Int) ≤ 0 ∧ 0 < (c : Int) ∧
 ∃ g, w.cell? (f.add ((0 : Int).toNat * 1)) = some (int .i64 g) ∧
 CondP (decide (g < 0))
 (R (int .i64 1) w)
 (∀ h : KW, (∀ (i j : Int) (k : World), (CondP (decide (i < (c : Int)))
 (∀ l, l = k.drew →
 NilC b (fun m =>
 (0 : Int) ≤ i ∧ i < (c : Int) ∧
 ∃ n, l.cell? (m.add (i.toNat * 1)) = some (int .i64 n) ∧
 CondP (decide (n < 0))
 (R (int .i64 i) l)
 (Ar .i64 (i - 1) (fun o =>
 NilC b (fun p =>
 (0 : Int) ≤ o ∧ o < (c : Int) ∧
 ∃ q, l.cell? (p.add (o.toNat * 1)) = some (int .i64 q) ∧
 NilC b (fun r =>
 (0 : Int) ≤ i ∧ i < (c : Int) ∧
 ∃ s, l.cell? (r.add (i.toNat * 1)) = some (int .i64 s) ∧
 CP 194 #[pointer a] l (fun t u =>
 ∃ x, t = .returned (pointer x) ∧
 (u.cell? (r.add (i.toNat * 1)) = some (int .i64 s) ∧ True) ∧
 (u.cell? (p.add (o.toNat * 1)) = some (int .i64 q) ∧ True) ∧
 CP 229 #[pointer x, int .u8 (IntKind.wrap .u8 q), int .u8 (IntKind.wrap .u8 s)] u (fun y z =>
 ∃ a1, y = .returned (bool a1) ∧
 CondP a1
 (R (int .i64 i) z)
 (Ar .i64 (i + 1) (fun b1 =>
 h [int .i64 b1, int .i64 j] z))))))))))
 (R (int .i64 (c : Int)) k)) → h [int .i64 i, int .i64 j] k) →
 h [int .i64 1, int .i64 0] w))
theorem vc220_calls (a b : OA) (c d : Nat) (w : World) (R : RW) (hh : vc220 a b c d w R) : CR 220 #[pointer a, slice b c d] w R :=
 cden (fn := Tryz.f220) (by kernel_rfl) (by kernel_rfl) (by kernel_rfl) (by kernel_rfl) (by kernel_rfl) hh
def vc222 (a : OA) (b c : Nat) (w : World) (R : RW) : Prop :=
 ∃ d f g h, (Instr.makeSlice 134 (int .i64 0) (int .i64 (b : Int))).run Tryz.prog w = .ok (slice d f g) h ∧
 ∀ i : KW, (∀ (j : Int) (k : OA) (l m : Nat) (n : World), (CondP (decide (j < (b : Int)))
 (NilC a (fun o =>
 (0 : Int) ≤ j ∧ j < (b : Int) ∧
 ∃ p, n.cell? (o.add (j.toNat * 1)) = some (int .i64 p) ∧
 ∀ q, q = n.alloc (.cells #[int .u8 (IntKind.wrap .u8 p)] 5) →
 ∃ r s t u, (Builtin.append_ #[134, 134] 134 #[slice k l m, slice (some (nb n)) 1 1]).run Tryz.prog q = .ok (slice r s t) u ∧
 Ar .i64 (j + 1) (fun x =>
 i [int .i64 x, slice r s t] u)))
 (∃ y z, (convert 134 9 (slice k l m)).run Tryz.prog n = .ok (string y) z ∧
 R (string y) z)) → i [int .i64 j, slice k l m] n) →
 i [int .i64 0, slice d f g] h
theorem vc222_calls (a : OA) (b c : Nat) (w : World) (R : RW) (hh : vc222 a b c w R) : CR 222 #[slice a b c] w R :=
 cden (fn := Tryz.f222) (by kernel_rfl) (by kernel_rfl) (by kernel_rfl) (by kernel_rfl) (by kernel_rfl) hh
def vc297 (a b : OA) (c d : Nat) (w : World) (R : RW) : Prop :=
 ∀ f, f = w.alloc (.cells #[pointer a] 117) →
 ∀ g : KW, (∀ (h i : Int) (j : World), (CondP (decide (i < h))
 (∀ k : KW, (∀ (l m : Int) (n : World), (g [int .i64 l, int .i64 m] n) → k [int .i64 l, int .i64 m] n) →
 Ar .i64 (i + h) (fun o =>
 (2 : Int) ≠ 0 ∧
 ∀ p, p = j.drew →
 ∃ q, (p.cell? (nb w) = some (pointer q) ∧ True) ∧
 Ar .i64 ((IntKind.wrap .i64 (Int.tdiv o 2) : Int) + 1) (fun r =>
 (0 : Int) ≤ (0 : Int) ∧ (0 : Int) ≤ r ∧ r ≤ (d : Int) ∧ True ∧ True ∧
 CP 298 #[agg #[pointer q], slice (slBase b (0 : Int).toNat (d : Int).toNat 1) (r.toNat - (0 : Int).toNat) ((d : Int).toNat - (0 : Int).toNat)] p (fun s t =>
 ∃ u, s = .returned (bool u) ∧
 CondP u
 (Ar .i64 ((IntKind.wrap .i64 (Int.tdiv o 2) : Int) + 1) (fun x =>
 k [int .i64 h, int .i64 x] t))
 (k [int .i64 (IntKind.wrap .i64 (Int.tdiv o 2)), int .i64 i] t)))))
 (CondP (i == (c : Int))
 (R (tuple #[int .i64 0, bool false]) j)
 (R (tuple #[int .i64 i, bool true]) j))) → g [int .i64 h, int .i64 i] j) →
 g [int .i64 (c : Int), int .i64 0] f
theorem vc297_calls (a b : OA) (c d : Nat) (w : World) (R : RW) (hh : vc297 a b c d w R) : CR 297 #[agg #[pointer a], slice b c d] w R :=
 cden (fn := Tryz.f297) (by kernel_rfl) (by kernel_rfl) (by kernel_rfl) (by kernel_rfl) (by kernel_rfl) hh
def vc298 (a b : OA) (c d : Nat) (w : World) (R : RW) : Prop :=
 ∀ f, f = w.alloc (.cells #[pointer a] 117) →
 ∃ g, f.cell? ((nb w).add 0) = some (pointer g) ∧
 CP 299 #[pointer g, slice b c d] f (fun h i =>
 ∃ j k l m n, h = .returned (tuple #[slice j k l, int .i64 m, int .i64 n]) ∧
 CondP (n != 0)
 (R (bool false) i)
 (∃ o, i.cell? ((nb w).add 0) = some (pointer o) ∧
 CP 76 #[pointer o, slice j k l] i (fun p q =>
 ∃ r s t, p = .returned (slice r s t) ∧
 CP 300 #[slice r s t, slice b c d] q (fun u x =>
 ∃ y, u = .returned (bool y) ∧
 R (bool y) x))))
theorem vc298_calls (a b : OA) (c d : Nat) (w : World) (R : RW) (hh : vc298 a b c d w R) : CR 298 #[agg #[pointer a], slice b c d] w R :=
 cden (fn := Tryz.f298) (by kernel_rfl) (by kernel_rfl) (by kernel_rfl) (by kernel_rfl) (by kernel_rfl) hh
def vc299 (a b : OA) (c d : Nat) (w : World) (R : RW) : Prop :=
 CondP (Option.isNone a)
 (R (tuple #[slice none 0 0, int .i64 0, int .i64 1]) w)
 (NilC a (fun f =>
 CP 143 #[pointer (some (f.add 13)), int .i64 1] w (fun g h =>
 ∃ i, g = .returned (int .i64 i) ∧
 ∀ j : KW, (∀ (k : Int) (l : OA) (m n : Nat) (o p : Int) (q : OA) (r s : Nat) (t : World), (CondP (decide (k < (c : Int)))
 (NilC b (fun u =>
 (0 : Int) ≤ k ∧ k < (c : Int) ∧
 ∃ x, t.cell? (u.add (k.toNat * 1)) = some (int .i64 x) ∧
 CP 301 #[pointer a, int .i64 x] t (fun y z =>
 ∃ a1 b1 c1 d1, y = .returned (tuple #[slice a1 b1 c1, bool d1]) ∧
 CondP (!d1)
 (R (tuple #[slice none 0 0, int .i64 k, int .i64 4]) z)
 (∃ e1 f1 g1 h1, (Builtin.append_ #[28, 28] 28 #[slice l m n, slice a1 b1 c1]).run Tryz.prog z = .ok (slice e1 f1 g1) h1 ∧
 Ar .i64 (k + 1) (fun i1 =>
 j [int .i64 i1, slice e1 f1 g1, int .i64 o, int .i64 p, slice q r s] h1)))))
 (R (tuple #[slice l m n, int .i64 (c : Int), int .i64 0]) t)) → j [int .i64 k, slice l m n, int .i64 o, int .i64 p, slice q r s] t) →
 j [int .i64 0, slice none 0 0, int .i64 0, int .i64 0, slice none 0 0] h)))
theorem vc299_calls (a b : OA) (c d : Nat) (w : World) (R : RW) (hh : vc299 a b c d w R) : CR 299 #[pointer a, slice b c d] w R :=
 cden (fn := Tryz.f299) (by kernel_rfl) (by kernel_rfl) (by kernel_rfl) (by kernel_rfl) (by kernel_rfl) hh
def vc300 (a : OA) (b c : Nat) (d : OA) (f g : Nat) (w : World) (R : RW) : Prop :=
 CondP ((b : Int) != (f : Int))
 (R (bool false) w)
 (∀ h : KW, (∀ (i : Int) (j : Bool) (k : World), (CondP (decide (i < (b : Int)))
 (∀ l, l = k.drew →
 NilC a (fun m =>
 (0 : Int) ≤ i ∧ i < (b : Int) ∧
 ∃ n, l.cell? (m.add (i.toNat * 1)) = some (int .i64 n) ∧
 NilC d (fun o =>
 (0 : Int) ≤ i ∧ i < (f : Int) ∧
 ∃ p, l.cell? (o.add (i.toNat * 1)) = some (int .i64 p) ∧
 CondP (n != p)
 (R (bool false) l)
 (Ar .i64 (i + 1) (fun q =>
 h [int .i64 q, bool j] l)))))
 (R (bool true) k)) → h [int .i64 i, bool j] k) →
 h [int .i64 0, bool false] w)
theorem vc300_calls (a : OA) (b c : Nat) (d : OA) (f g : Nat) (w : World) (R : RW) (hh : vc300 a b c d f g w R) : CR 300 #[slice a b c, slice d f g] w R :=
 cden (fn := Tryz.f300) (by kernel_rfl) (by kernel_rfl) (by kernel_rfl) (by kernel_rfl) (by kernel_rfl) hh
def vc301 (a : OA) (b : Int) (w : World) (R : RW) : Prop :=
 NilC a (fun c =>
 ∃ d, w.cell? ((c.add 0).add 8) = some (pointer d) ∧
 CP 144 #[pointer d, int .i64 b] w (fun f g =>
 ∃ h i, f = .returned (tuple #[int .i64 h, bool i]) ∧
 CondP i
 (∀ j, j = g.alloc (.cells #[int .i64 h] 3) →
 R (tuple #[slice (some (nb g)) 1 1, bool true]) j)
 (NilC a (fun k =>
 ∃ l, g.cell? ((k.add 0).add 6) = some (pointer l) ∧
 CP 141 #[pointer l, int .i64 b] g (fun m n =>
 ∃ o p, m = .returned (tuple #[string o, bool p]) ∧
 CP 49 #[string o] n (fun q r =>
 ∃ s t u, q = .returned (slice s t u) ∧
 R (tuple #[slice s t u, bool p]) r))))))
theorem vc301_calls (a : OA) (b : Int) (w : World) (R : RW) (hh : vc301 a b w R) : CR 301 #[pointer a, int .i64 b] w R :=
 cden (fn := Tryz.f301) (by kernel_rfl) (by kernel_rfl) (by kernel_rfl) (by kernel_rfl) (by kernel_rfl) hh
def itemOk (s : SpecV) (x : Int) : Bool := decide ((0 ≤ x ∧ x < 256) ∨ (x < 0 ∧ -(s.specials.length : Int) ≤ x))
theorem encRight_spec (w : World) (v : Nat) (c : Array Value) (tp bp mp : Nat) (h : VBlk w v c tp bp mp) (s : SpecV) (hM : MkIs w mp s.specials) (hl : s.specials.length ≤ 1000000) (x : Int) :
  CP 139 #[.pointer (some ⟨v, 0, none⟩), .int .i64 x] w fun e w' => e = .returned (.bool (itemOk s x)) ∧ w' = w := by
 refine calls_ret (vc139_calls (some ⟨v, 0, none⟩) x w (fun u w' => u = .bool (itemOk s x) ∧ w' = w) ?_) (by rintro v w' ⟨rfl, h⟩; exact ⟨rfl, h⟩)
 have neg : x < 0 → CP 73 #[.pointer (some ⟨v, 0, none⟩)] w (fun e1 w1 =>
          ∃ p : Option Addr, e1 = .returned (Value.pointer p) ∧
          CP 184 #[Value.pointer p] w1 (fun e2 w2 =>
          ∃ n : Int, e2 = .returned (Value.int .i64 n) ∧
          Ar .i64 (0 - n) (fun n_1 => Value.bool (decide ((x : Int) ≥ n_1)) = .bool (itemOk s x) ∧ w2 = w))) := by
  intro hx
  refine (vocMarks_spec h).mono ?_
  rintro e w1 ⟨rfl, hw⟩
  subst w1
  refine ⟨_, rfl, (markLen_spec w mp s.specials hM).mono ?_⟩
  rintro e w2 ⟨rfl, hw⟩
  subst w2
  refine ⟨_, rfl, Ar.ok64 (by omega) (by omega) ⟨?_, rfl⟩⟩
  congr 1
  exact decide_eq_decide.2 (by omega)
 refine CondP.mk (fun h0 => CondP.mk (fun h1 => ⟨?_, rfl⟩) fun h1 => CondP.no ?_ ⟨?_, rfl⟩) fun h0 => CondP.yes ?_ (neg ?_)
 ·have h0 := of_decide_eq_true h0
  have h1 := of_decide_eq_true h1
  rw [itemOk, decide_eq_true (.inl ⟨h0, h1⟩)]
 ·have h0 := of_decide_eq_true h0
  exact decide_eq_false (by omega)
 ·have h0 := of_decide_eq_true h0
  have h1 := of_decide_eq_false h1
  rw [itemOk, decide_eq_false (by omega)]
 ·have h0 := of_decide_eq_false h0
  exact decide_eq_true (by omega)
 ·have h0 := of_decide_eq_false h0
  omega
def cutN (cut : Int → Int → Bool) : List Int → Nat
 | [] => 0
 | [_] => 1
 | x :: y :: r => if cut x y = true then 1 else cutN cut (y :: r) + 1
theorem cutN_le (cut : Int → Int → Bool) : ∀ l, cutN cut l ≤ l.length
 | [] => Nat.le_refl _
 | [_] => Nat.le_refl _
 | x :: y :: r => by
  have := cutN_le cut (y :: r)
  rw [cutN]
  split
  ·simp
  ·simp at this ⊢; omega
theorem cutN_pos (cut : Int → Int → Bool) {l : List Int} (h : l ≠ []) : 1 ≤ cutN cut l := by
 match l, h with
 | [_], _ => exact Nat.le_refl _
 | x :: y :: r, _ =>
  rw [cutN]
  split <;> omega
theorem chop_cutN (cut : Int → Int → Bool) : ∀ {l : List Int}, l ≠ [] → chop cut l = l.take (cutN cut l) :: chop cut (l.drop (cutN cut l))
 | [_], _ => rfl
 | x :: y :: r, _ => by
  rw [chop, cutN]
  split
  ·rfl
  ·rw [chop_cutN cut (l := y :: r) (by simp)]
   rfl
theorem cutN_of {cut : Int → Int → Bool} : ∀ {l : List Int} {n : Nat}, 1 ≤ n → n ≤ l.length → (∀ j, j + 1 < n → ∀ a b, l[j]? = some a → l[j + 1]? = some b → cut a b = false) → (n = l.length ∨ ∃ a b, l[n - 1]? = some a ∧ l[n]? = some b ∧ cut a b = true) → cutN cut l = n
 | [], n, h1, h2, _, _ => by simp at h2; omega
 | [x], n, h1, h2, _, _ => by simp at h2; rw [cutN]; omega
 | x :: y :: r, n, h1, h2, h3, h4 => by
  rw [cutN]
  by_cases hn : n = 1
  ·subst hn
   rcases h4 with h4 | ⟨a, b, ha, hb, hc⟩
   ·simp at h4
   ·simp at ha hb
    subst ha hb
    rw [if_pos hc]
  ·have hc := h3 0 (by omega) x y rfl rfl
   rw [if_neg (by rw [hc]; decide)]
   have := cutN_of (cut := cut) (l := y :: r) (n := n - 1) (by omega) (by simp at h2 ⊢; omega) (fun j hj a b ha hb => h3 (j + 1) (by omega) a b (by simpa using ha) (by simpa using hb)) (by
    rcases h4 with h4 | ⟨a, b, ha, hb, hc⟩
    ·exact .inl (by simp at h4 ⊢; omega)
    ·refine .inr ⟨a, b, ?_, ?_, hc⟩
     ·rw [show n - 1 = (n - 1 - 1) + 1 by omega] at ha
      simpa using ha
     ·rw [show n = (n - 1) + 1 by omega] at hb
      simpa using hb)
   omega
theorem encCut_spec (w : World) (v : Nat) (c : Array Value) (tp bp mp : Nat) (h : VBlk w v c tp bp mp) (s : SpecV) (T : List Ent) (hB : BdIs w bp s.classes s.joins) (hcl : ∀ c ∈ s.classes, classOk c = true) (A : Option Addr) (C : Nat) (items : List Int) (hr : Rw encInt 1 w A items) (hne : items ≠ []) (hl : items.length ≤ 1000000) (hok : ∀ x ∈ items, x < 256) :
  CP 220 #[.pointer (some ⟨v, 0, none⟩), .slice A items.length C] w fun e w' => e = .returned (.int .i64 ((cutN (vocOf s T).cut items : Nat) : Int)) ∧ Below w.heap.size w w' := by
 refine calls_ret (vc220_calls (some ⟨v, 0, none⟩) A items.length C w (fun u w' => u = .int .i64 ((cutN (vocOf s T).cut items : Nat) : Int) ∧ Below w.heap.size w w') ?_) (by rintro v w' ⟨rfl, h⟩; exact ⟨rfl, h⟩)
 have hpos : 0 < items.length := List.length_pos_iff.2 hne
 obtain ⟨p, hp, c0⟩ := cell_rw hr hpos rfl
 have out : ∀ (n : Nat) (q : World), Below w.heap.size w q → 1 ≤ n → n ≤ items.length → (∀ j, j + 1 < n → ∀ a b, items[j]? = some a → items[j + 1]? = some b → (vocOf s T).cut a b = false) → (n = items.length ∨ ∃ a b, items[n - 1]? = some a ∧ items[n]? = some b ∧ (vocOf s T).cut a b = true) → Value.int .i64 (n : Int) = .int .i64 ((cutN (vocOf s T).cut items : Nat) : Int) ∧ Below w.heap.size w q := fun n q hq h1 h2 h3 h4 => ⟨by rw [cutN_of h1 h2 h3 h4], hq⟩
 refine NilC.mk p hp ⟨by decide, by omega, _, c0, CondP.mk (fun h0 => ?_) fun h0 => ?_⟩
 ·have h0 := of_decide_eq_true h0
  refine out 1 w (Below.refl _ _) (Nat.le_refl _) hpos (fun j hj => by omega) ?_
  by_cases e : items.length = 1
  ·exact .inl e.symm
  ·refine .inr ⟨items[0], items[1], List.getElem?_eq_getElem hpos, List.getElem?_eq_getElem (by omega), ?_⟩
   unfold Voc.cut
   rw [decide_eq_true h0]
   rfl
 ·have h0 := of_decide_eq_false h0
  intro I hI
  have key := climb2 (α := World) (items.length - 1) (fun i q => (∀ (j : Nat) (hj : j < items.length), j ≤ i → 0 ≤ items[j]) ∧ (∀ j, j + 1 < i + 1 → ∀ a b, items[j]? = some a → items[j + 1]? = some b → (vocOf s T).cut a b = false) ∧ Below w.heap.size w q) (fun i q => ∀ y4, I [.int .i64 ((i + 1 : Nat) : Int), .int .i64 y4] q) w ⟨fun j hj hj0 => by obtain rfl : j = 0 := (by omega); omega, fun j hj => by omega, Below.refl _ _⟩ ?_ ?_
  ·exact key _
  ·rintro i hi ih q ⟨hnn, hnc, hq⟩ y4
   refine hI _ y4 q (CondP.yes (decide_eq_true (by omega)) ?_)
   intro q1 hq1
   have hq1' := below_then hq (show Below q.heap.size q q1 by subst hq1; exact drew_on q)
   obtain ⟨p1, hp1, c1⟩ := cell_rw (hr.on hq1') (show i + 1 < items.length by omega) rfl
   obtain ⟨p2, hp2, c2⟩ := cell_rw (hr.on hq1') (show i < items.length by omega) rfl
   refine NilC.mk p1 hp1 ⟨by omega, by omega, _, c1, CondP.mk (fun hneg => ?_) fun hneg => ?_⟩
   ·have hneg := of_decide_eq_true hneg
    refine out (i + 1) q1 hq1' (by omega) (by omega) hnc (.inr ⟨items[i], items[i + 1], List.getElem?_eq_getElem (by omega), List.getElem?_eq_getElem (by omega), ?_⟩)
    unfold Voc.cut
    rw [decide_eq_true hneg]
    simp
   ·have hneg := of_decide_eq_false hneg
    have ha := hnn i (by omega) (Nat.le_refl _)
    have ha2 := hok _ (List.getElem_mem (show i < items.length by omega))
    have hb2 := hok _ (List.getElem_mem (show i + 1 < items.length by omega))
    have wa : IntKind.wrap .u8 items[i] = items[i] := wrap_in (by show (0 : Int) ≤ _; omega) (by show _ ≤ (255 : Int); omega)
    have wb : IntKind.wrap .u8 items[i + 1] = items[i + 1] := wrap_in (by show (0 : Int) ≤ _; omega) (by show _ ≤ (255 : Int); omega)
    refine Ar.nat i (by omega) (by omega) (NilC.mk p2 hp2 ⟨by omega, by omega, _, c2, NilC.mk p1 hp1 ⟨by omega, by omega, _, c1, (vocBounds_spec (h.on hq1')).mono ?_⟩⟩)
    rintro e q2 ⟨rfl, hw⟩
    subst q2
    refine ⟨_, rfl, ⟨c1, trivial⟩, ⟨c2, trivial⟩, ?_⟩
    rw [wa, wb]
    refine (cuts_spec q1 bp s.classes s.joins (hB.on hq1') hcl _ _ ⟨ha, ha2⟩ ⟨by omega, hb2⟩).mono ?_
    rintro e q3 ⟨rfl, b3⟩
    have hq3 := below_then hq1' b3
    have hcut : (vocOf s T).cut items[i] items[i + 1] = cutB s.classes s.joins items[i] items[i + 1] := by
     unfold Voc.cut
     rw [decide_eq_false (by omega), decide_eq_false (by omega)]
     rfl
    refine ⟨_, rfl, CondP.mk (fun hc => ?_) fun hc => ?_⟩
    ·exact out (i + 1) q3 hq3 (by omega) (by omega) hnc (.inr ⟨items[i], items[i + 1], List.getElem?_eq_getElem (by omega), List.getElem?_eq_getElem (by omega), by rw [hcut]; exact hc⟩)
    ·refine Ar.nat (i + 1 + 1) rfl (by omega) (ih q3 ⟨fun j hj hji => ?_, fun j hj a b h1 h2 => ?_, hq3⟩ _)
     ·by_cases e : j = i + 1
      ·subst e; omega
      ·exact hnn j hj (by omega)
     ·by_cases e : j = i
      ·subst e
       rw [List.getElem?_eq_getElem (by omega)] at h1 h2
       cases h1
       cases h2
       rw [hcut]
       exact hc
      ·exact hnc j (by omega) a b h1 h2
  ·rintro q ⟨hnn, hnc, hq⟩ y4
   refine hI _ y4 q (CondP.no (decide_eq_false (by omega)) (out items.length q hq hpos (Nat.le_refl _) (fun j hj => hnc j (by omega)) (.inl rfl)))
theorem run_makeB0 (w : World) (c : Nat) (hc : c ≤ 1000000) : ∃ w1, (Instr.makeSlice tBytes (.int .i64 0) (.int .i64 (c : Int))).run Tryz.prog w = .ok (.slice (some (nb w)) 0 c) w1 ∧ w1.ownsRow w.heap.size tU8 1 (.slice (some (nb w)) 0 c) 0 (([] : List UInt8).flatMap encU8) ∧ Below w.heap.size w w1 := by
 have h : (Tryz.prog.info? tU8).map (fun i => (i.zero, i.size, i.bytes)) = some (some (.int .u8 0), 1, 1) := by kernel_rfl
 obtain ⟨i, hi, he⟩ := Option.map_eq_some_iff.1 h
 simp only [Prod.mk.injEq] at he
 obtain ⟨hz, hs, hb⟩ := he
 have := Go.run_make (P := Tryz.prog) w tBytes tU8 i (.int .u8 0) (by kernel_rfl) hi hz .i64 .i64 0 (c : Int) (by omega) (by omega) (by rw [hb]; omega) (by omega)
 refine ⟨_, this, ?_, below_alloc _ _⟩
 refine ⟨rfl, .inr ⟨w.heap.size, c, _, rfl, Nat.le_refl _, alloc_new _ _, Nat.zero_le _, by unfold maxLen; omega, ?_, by simp⟩⟩
 rw [size_madeCells, hs]
 simp
def toBs (l : List Int) : Bs := l.map fun x => UInt8.ofNat x.toNat
theorem toBs_ints {l : List Int} (h : ∀ x ∈ l, 0 ≤ x ∧ x < 256) : ints (toBs l) = l := by
 unfold ints toBs
 rw [List.map_map]
 conv => rhs; rw [← List.map_id l]
 apply List.map_congr_left
 intro x hx
 obtain ⟨h1, h2⟩ := h x hx
 show ((UInt8.ofNat x.toNat).toNat : Int) = x
 rw [UInt8.toNat_ofNat']
 omega
theorem one_u8 {x : Int} (h : 0 ≤ x ∧ x < 256) : (#[Value.int .u8 (IntKind.wrap .u8 x)] : Array Value) = (encU8 (UInt8.ofNat x.toNat)).toArray := by
 rw [wrap_in (by show (0 : Int) ≤ _; omega) (by show _ ≤ (255 : Int); omega)]
 unfold encU8
 rw [UInt8.toNat_ofNat', show ((x.toNat % 2 ^ 8 : Nat) : Int) = x by omega]
theorem encText_spec (w : World) (A : Option Addr) (C : Nat) (items : List Int) (hr : Rw encInt 1 w A items) (hl : items.length ≤ 100000) (hb : ∀ x ∈ items, 0 ≤ x ∧ x < 256) :
  CP 222 #[.slice A items.length C] w fun e w' => e = .returned (.string (str (toBs items))) ∧ Below w.heap.size w w' := by
 refine calls_ret (vc222_calls A items.length C w (fun u w' => u = .string (str (toBs items)) ∧ Below w.heap.size w w') ?_) (by rintro v w' ⟨rfl, h⟩; exact ⟨rfl, h⟩)
 obtain ⟨w1, hr1, o1, b1⟩ := run_makeB0 w items.length (by omega)
 refine ⟨_, _, _, w1, hr1, ?_⟩
 intro I hI
 have key := climb2 (α := Sl × World) items.length (fun i y => y.2.ownsRow w.heap.size tU8 1 y.1.v y.1.n ((toBs (items.take i)).flatMap encU8) ∧ y.1.n = i ∧ Below w.heap.size w y.2) (fun i y => I [.int .i64 (i : Int), y.1.v] y.2) (⟨some (nb w), 0, items.length⟩, w1) ⟨o1, rfl, b1⟩ ?_ ?_
 ·exact key
 ·rintro i hi ih ⟨f, q⟩ ⟨hown, hfn, hB⟩
  change q.ownsRow w.heap.size tU8 1 f.v f.n _ at hown
  change f.n = i at hfn
  change Below w.heap.size w q at hB
  obtain ⟨p, hp, c0⟩ := cell_rw (hr.on hB) hi rfl
  refine hI _ f.a f.n f.c q (CondP.yes (decide_eq_true (by omega)) (NilC.mk p hp ⟨by omega, by omega, _, c0, ?_⟩))
  intro q2 hq2
  rw [one_u8 (hb _ (List.getElem_mem hi))] at hq2
  obtain ⟨f', q3, e1, e2, e3, e4, _⟩ := elU8.push hown (UInt8.ofNat items[i].toNat) hq2 rfl hB.size (by omega) (by decide)
  refine ⟨f'.a, f'.n, f'.c, q3, e2, Ar.nat (i + 1) rfl (by omega) (ih (f', q3) ⟨?_, by show f'.n = i + 1; omega, e4 _ hB⟩)⟩
  have e : toBs (items.take (i + 1)) = toBs (items.take i) ++ [UInt8.ofNat items[i].toNat] := by
   unfold toBs
   rw [List.take_add_one, List.getElem?_eq_getElem hi, List.map_append]
   rfl
  rw [e]
  exact e3
 ·rintro ⟨f, q⟩ ⟨hown, hfn, hB⟩
  change q.ownsRow w.heap.size tU8 1 f.v f.n _ at hown
  rw [List.take_length] at hown
  exact hI _ f.a f.n f.c q (CondP.no (decide_eq_false (by omega)) ⟨_, q, run_str_own (P := Tryz.prog) undBytes undU8 undStr (by rw [← u8_cells]; exact hown), rfl, hB⟩)
theorem encP_cons (V : Voc) (x : Int) (r : List Int) : V.encP (x :: r) = if x < 0 then [V.sp.getD (-1 - x).toNat 0] else after V.ms V.ms.length (x :: r) := rfl
def PieceOk (s : SpecV) (p : List Int) : Prop := (∃ x, p = [x] ∧ x < 0 ∧ -(s.specials.length : Int) ≤ x) ∨ (p ≠ [] ∧ ∀ x ∈ p, 0 ≤ x ∧ x < 256)
theorem encPiece_spec (w : World) (v : Nat) (c : Array Value) (tp bp mp : Nat) (h : VBlk w v c tp bp mp) (s : SpecV) (T : List Ent) (x : SpecW) (hP : VocParts w s T x tp bp mp) (A : Option Addr) (C : Nat) (p : List Int) (hr : Rw encInt 1 w A p) (hp : PieceOk s p) (hl : p.length ≤ 100000) :
  CP 186 #[.pointer (some ⟨v, 0, none⟩), .slice A p.length C] w fun e w' => ∃ l : Sl, e = .returned l.v ∧ l.n = ((vocOf s T).encP p).length ∧ w'.ownsRow w.heap.size tInt 1 l.v l.n (((vocOf s T).encP p).flatMap encInt) ∧ Below w.heap.size w w' := by
 refine calls_ret (vc186_calls (some ⟨v, 0, none⟩) A p.length C w (fun u w' => ∃ l : Sl, u = l.v ∧ l.n = ((vocOf s T).encP p).length ∧ w'.ownsRow w.heap.size tInt 1 l.v l.n (((vocOf s T).encP p).flatMap encInt) ∧ Below w.heap.size w w') ?_) (by rintro v w' ⟨l, rfl, h⟩; exact ⟨l, rfl, h⟩)
 have hne : 0 < p.length := by
  rcases hp with ⟨x, rfl, _⟩ | ⟨h, _⟩
  ·exact Nat.succ_pos _
  ·exact List.length_pos_iff.2 h
 obtain ⟨a, ha, c0⟩ := cell_rw hr hne rfl
 refine NilC.mk a ha ⟨by decide, by omega, _, c0, CondP.mk (fun h0 => ?_) fun h0 => ?_⟩
 ·have h0 := of_decide_eq_true h0
  rcases hp with ⟨y, rfl, hy, hy2⟩ | ⟨_, hb⟩
  ·intro w1 hw1
   have b1 : Below w.heap.size w w1 := by subst hw1; exact drew_on w
   obtain ⟨a1, ha1, c1⟩ := cell_rw (hr.on b1) hne rfl
   have hfew := hP.few
   refine NilC.mk a1 ha1 ⟨by decide, by simp, _, c1, (vocMarks_spec (h.on b1)).mono ?_⟩
   rintro e w2 ⟨rfl, hw⟩
   subst w2
   refine ⟨_, rfl, ⟨c1, trivial⟩, (markId_spec w1 mp s.specials (hP.on b1).marks (by omega) _ (by show -1000000000000 ≤ y; omega)).mono ?_⟩
   rintro e w3 ⟨rfl, b3⟩
   refine ⟨_, _, rfl, ?_⟩
   intro w4 hw4
   have b4 : Below w3.heap.size w3 w4 := by subst hw4; exact below_alloc _ _
   have hb := below_then (below_then b1 b3) b4
   have eP : (vocOf s T).encP [y] = [((markAt s.specials y).map (·.1)).getD 0] := by
    rw [encP_cons, if_pos hy, markAt, if_pos hy]
    show [(s.specials.map (·.1)).getD (-1 - y).toNat 0] = _
    rw [List.getD, List.getElem?_map]
   refine ⟨⟨some (nb w3), 1, 1⟩, rfl, by rw [eP]; rfl, ?_, hb⟩
   rw [eP]
   have hz := (below_then b1 b3).size
   subst hw4
   exact ⟨rfl, .inr ⟨w3.heap.size, 1, _, rfl, hz, alloc_new _ _, Nat.le_refl _, by unfold maxLen; omega, rfl, rfl⟩⟩
  ·exact absurd (hb _ (List.getElem_mem hne)).1 (by omega)
 ·have h0 := of_decide_eq_false h0
  rcases hp with ⟨y, rfl, hy, _⟩ | ⟨hne2, hb⟩
  ·exact absurd hy h0
  ·refine (vocTable_spec h).mono ?_
   rintro e w2 ⟨rfl, hw⟩
   subst w2
   refine ⟨_, rfl, (encText_spec w A C p hr hl hb).mono ?_⟩
   rintro e w3 ⟨rfl, b3⟩
   have hP3 := hP.on b3
   have hgood := good_of hP.ok
   refine ⟨_, rfl, (encode_spec w3 tp T hP3.tab hP3.ok.sound hP3.ok.pos (toBs p) (by unfold toBs; rw [List.length_map]; exact hl)).mono ?_⟩
   rintro e w4 ⟨A4, n4, C4, rfl, ho, hn, b4⟩
   have eP : encAll T (toBs p) = (vocOf s T).encP p := by
    rw [encAll_after hP.ok, toBs_ints hb]
    match p, hne2, hb with
    | y :: r, _, hb =>
     rw [encP_cons, if_neg (by have := (hb y List.mem_cons_self).1; omega)]
     rfl
   rw [eP] at ho hn
   exact ⟨_, _, _, rfl, ⟨A4, n4, C4⟩, rfl, hn, own_base ho b3.size, below_then b3 b4⟩
theorem slicesEqual_spec (w : World) (A A2 : Option Addr) (C C2 : Nat) (xs ys : List Int) (hr : Rw encInt 1 w A xs) (hr2 : Rw encInt 1 w A2 ys) (hl : xs.length ≤ 1000000000) :
  CP 300 #[.slice A xs.length C, .slice A2 ys.length C2] w fun e w' => e = .returned (.bool (decide (xs = ys))) ∧ Below w.heap.size w w' := by
 refine calls_ret (vc300_calls A xs.length C A2 ys.length C2 w (fun u w' => u = .bool (decide (xs = ys)) ∧ Below w.heap.size w w') ?_) (by rintro v w' ⟨rfl, h⟩; exact ⟨rfl, h⟩)
 refine CondP.mk (fun hne => ⟨?_, Below.refl _ _⟩) fun heq => ?_
 ·have hne : ¬ (xs.length : Int) = (ys.length : Int) := by simpa using hne
  rw [decide_eq_false fun e => hne (by rw [e])]
 ·have heq : (xs.length : Int) = (ys.length : Int) := by simpa using heq
  intro I hI
  have key := climb2 (α := World) xs.length (fun i q => (∀ j, j < i → xs[j]? = ys[j]?) ∧ Below w.heap.size w q) (fun i q => ∀ y4, I [.int .i64 (i : Int), .bool y4] q) w ⟨fun j hj => absurd hj (Nat.not_lt_zero j), Below.refl _ _⟩ ?_ ?_
  ·exact key _
  ·rintro i hi ih q ⟨hs, hq⟩ y4
   refine hI _ y4 q (CondP.yes (decide_eq_true (by omega)) ?_)
   intro q1 hq1
   have hq1' := below_then hq (show Below q.heap.size q q1 by subst hq1; exact drew_on q)
   obtain ⟨p1, hp1, c1⟩ := cell_rw (hr.on hq1') hi rfl
   obtain ⟨p2, hp2, c2⟩ := cell_rw (hr2.on hq1') (show i < ys.length by omega) rfl
   refine NilC.mk p1 hp1 ⟨by omega, by omega, _, c1, NilC.mk p2 hp2 ⟨by omega, by omega, _, c2, CondP.mk (fun h0 => ⟨?_, hq1'⟩) fun h0 => ?_⟩⟩
   ·have h0 : ¬ xs[i] = ys[i] := by simpa using h0
    rw [decide_eq_false fun e => h0 (by subst e; rfl)]
   ·have h0 : xs[i] = ys[i] := by simpa using h0
    refine Ar.nat (i + 1) rfl (by omega) (ih q1 ⟨fun j hj => ?_, hq1'⟩ _)
    by_cases e : j = i
    ·subst e
     rw [List.getElem?_eq_getElem hi, List.getElem?_eq_getElem (by omega), h0]
    ·exact hs j (by omega)
  ·rintro q ⟨hs, hq⟩ y4
   refine hI _ y4 q (CondP.no (decide_eq_false (by omega)) ⟨?_, hq⟩)
   rw [decide_eq_true]
   apply List.ext_getElem?
   intro j
   by_cases hj : j < xs.length
   ·exact hs j hj
   ·rw [List.getElem?_eq_none_iff.2 (by omega), List.getElem?_eq_none_iff.2 (by omega)]
theorem makerFirst_spec (w : World) (v : Nat) (s : SpecV) (T : List Ent) (hV : VocIs w v s T) (A : Option Addr) (C : Nat) (ids : List Int) (hr : Rw encInt 1 w A ids) (hA : ids ≠ [] → ∀ p, A = some p → p.block ≠ v) (hC : ids.length ≤ C) (hl : ids.length ≤ 1000000)
  (hright : ∀ (m : Nat) (A' : Option Addr) (C' : Nat) (q : World), VocIs q v s T → 1 ≤ m → m ≤ ids.length → m ≤ C' → Rw encInt 1 q A' (ids.take m) → (∀ p, A' = some p → p.block ≠ v) → CP 298 #[.agg #[.pointer (some ⟨v, 0, none⟩)], .slice A' m C'] q fun e q' => e = .returned (.bool (decide ((vocOf s T).Canon (ids.take m)))) ∧ VocIs q' v s T ∧ Touch v q q') :
  CP 297 #[.agg #[.pointer (some ⟨v, 0, none⟩)], .slice A ids.length C] w fun e w' => ∃ o, e = .returned (firstV o) ∧ FirstIs (vocOf s T) ids o ∧ VocIs w' v s T ∧ Touch v w w' := by
 refine calls_ret (vc297_calls (some ⟨v, 0, none⟩) A ids.length C w (fun u w' => ∃ o, u = firstV o ∧ FirstIs (vocOf s T) ids o ∧ VocIs w' v s T ∧ Touch v w w') ?_) (by rintro v w' ⟨o, rfl, h⟩; exact ⟨o, rfl, h⟩)
 intro w1 hw1
 have b1 : Below w.heap.size w w1 := by subst hw1; exact below_alloc _ _
 have l1 : ∃ ty, w1.heap[w.heap.size]? = some (.cells #[.pointer (some ⟨v, 0, none⟩)] ty (0, 0)) := ⟨_, by subst hw1; exact alloc_new _ _⟩
 obtain ⟨ty, l1⟩ := l1
 have hvl := hV.lt
 intro I hI
 have loop : ∀ (d lo hi : Nat) (q : World), hi - lo ≤ d → lo ≤ hi → hi ≤ ids.length → (vocOf s T).Canon (ids.take lo) → (hi = ids.length ∨ ¬ (vocOf s T).Canon (ids.take (hi + 1))) → VocIs q v s T → Touch v w1 q → I [.int .i64 (hi : Int), .int .i64 (lo : Int)] q := by
  have fin : ∀ (lo : Nat) (q : World), lo ≤ ids.length → (vocOf s T).Canon (ids.take lo) → (lo = ids.length ∨ ¬ (vocOf s T).Canon (ids.take (lo + 1))) → VocIs q v s T → Touch v w1 q → I [.int .i64 (lo : Int), .int .i64 (lo : Int)] q := by
   intro lo q hle hc hn hVq hq
   have hb := (Touch.of_below b1).trans hq
   refine hI _ _ _ (CondP.no (decide_eq_false (by omega)) (CondP.mk (fun e => ?_) fun e => ?_))
   ·have e : (lo : Int) = (ids.length : Int) := by simpa using e
    refine ⟨none, rfl, ?_, hVq, hb⟩
    rw [show lo = ids.length by omega, List.take_length] at hc
    exact hc
   ·have e : ¬ (lo : Int) = (ids.length : Int) := by simpa using e
    refine ⟨some lo, rfl, ⟨by omega, hc, ?_⟩, hVq, hb⟩
    rcases hn with hn | hn
    ·omega
    ·exact hn
  intro d
  induction d with
  | zero =>
   intro lo hi q hd hle hhi hc hn hVq hq
   obtain rfl : lo = hi := by omega
   exact fin lo q hhi hc hn hVq hq
  | succ d ihd =>
   intro lo hi q hd hle hhi hc hn hVq hq
   by_cases e : lo = hi
   ·subst e; exact fin lo q hhi hc hn hVq hq
   refine hI _ _ _ (CondP.yes (decide_eq_true (by omega)) ?_)
   intro J hJ
   have hdiv : IntKind.wrap .i64 (Int.tdiv ((lo + hi : Nat) : Int) 2) = (((lo + hi) / 2 : Nat) : Int) := by
    rw [show Int.tdiv ((lo + hi : Nat) : Int) 2 = (((lo + hi) / 2 : Nat) : Int) from rfl]
    exact wrap_in (by show (-9223372036854775808 : Int) ≤ _; omega) (by show _ ≤ (9223372036854775807 : Int); omega)
   refine Ar.nat (lo + hi) (by omega) (by omega) ⟨by decide, ?_⟩
   rw [hdiv]
   obtain ⟨mid, hmid⟩ : ∃ mid, mid = (lo + hi) / 2 := ⟨_, rfl⟩
   rw [← hmid]
   intro q4 hq4
   have b4 : Below q.heap.size q q4 := by subst hq4; exact drew_on q
   have hq4' := hq.trans (Touch.of_below b4)
   have hne : ids ≠ [] := by rintro rfl; simp at hhi; omega
   have hcut := (((hr.on b1).touch hq4' hA).cut 0 C hC).take (mid + 1)
   rw [List.drop_zero] at hcut
   refine ⟨_, ⟨cell_heap (hq4'.held (by omega) l1), trivial⟩, Ar.nat (mid + 1) rfl (by omega) ⟨by omega, by omega, by omega, trivial, trivial, ?_⟩⟩
   refine (hright (mid + 1) _ (((C : Nat) : Int).toNat - (0 : Int).toNat) q4 (hVq.on b4) (by omega) (by omega) (by show mid + 1 ≤ C - 0; omega) hcut (fun p hp => ?_)).mono ?_
   ·cases A with
    | none =>
     obtain ⟨p', hp', _⟩ := hr 0 ids[0] (List.getElem?_eq_getElem (List.length_pos_iff.2 hne))
     cases hp'
    | some a =>
     have := hA hne a rfl
     unfold slBase at hp
     split at hp
     ·cases hp; exact this
     ·cases hp
      rw [add_block]
      exact this
   rintro e w5 ⟨rfl, hV5, t5⟩
   have hq5 := hq4'.trans t5
   refine ⟨_, rfl, CondP.mk (fun h0 => ?_) fun h0 => ?_⟩
   ·exact Ar.nat (mid + 1) rfl (by omega) (hJ _ _ _ (ihd (mid + 1) hi w5 (by omega) (by omega) hhi (of_decide_eq_true h0) hn hV5 hq5))
   ·exact hJ _ _ _ (ihd lo mid w5 (by omega) (by omega) (by omega) hc (.inr (of_decide_eq_false h0)) hV5 hq5)
 exact loop ids.length 0 ids.length w1 (by omega) (Nat.zero_le _) (Nat.le_refl _) (canon_nil _) (.inl rfl) (hV.on b1) (Touch.of_below (Below.refl _ _))
theorem markBytes_spec (w : World) (s : Bs) (hs : s.length ≤ 100000) :
  CP 49 #[.string (str s)] w fun e w' => ∃ l : Sl, e = .returned l.v ∧ l.n = s.length ∧ w'.ownsRow w.heap.size tInt 1 l.v l.n ((ints s).flatMap encInt) ∧ Below w.heap.size w w' := by
 refine calls_ret (vc49_calls (str s) w (fun u w' => ∃ l : Sl, u = l.v ∧ l.n = s.length ∧ w'.ownsRow w.heap.size tInt 1 l.v l.n ((ints s).flatMap encInt) ∧ Below w.heap.size w w') ?_) (by rintro v w' ⟨l, rfl, h⟩; exact ⟨l, rfl, h⟩)
 intro I hI
 have key := climb2 (α := Sl × World) s.length (fun i y => y.2.ownsRow w.heap.size tInt 1 y.1.v y.1.n ((ints (s.take i)).flatMap encInt) ∧ y.1.n = i ∧ Below w.heap.size w y.2) (fun i y => I [.int .i64 (i : Int), y.1.v] y.2) (sl0, w) ⟨own_none _ _ _ _ encInt, rfl, Below.refl _ _⟩ ?_ ?_
 ·exact key
 ·rintro i hi ih ⟨f, q⟩ ⟨hown, hfn, hB⟩
  change q.ownsRow w.heap.size tInt 1 f.v f.n _ at hown
  change f.n = i at hfn
  change Below w.heap.size w q at hB
  refine hI _ f.a f.n f.c q (CondP.yes (decide_eq_true (by rw [str_size]; omega)) ⟨by omega, by rw [str_size]; omega, ?_⟩)
  intro q2 hq2
  have hbt : btAt (str s) (i : Int) = ((s[i].toNat : Nat) : Int) := by
   unfold btAt
   show ((s.toArray[(i : Int).toNat]?).map _).getD 0 = _
   rw [show ((i : Int)).toNat = i from rfl, List.getElem?_toArray, List.getElem?_eq_getElem hi]
   rfl
  have hlt := s[i].toNat_lt
  rw [hbt, wrap_in (by show (-9223372036854775808 : Int) ≤ _; omega) (by show _ ≤ (9223372036854775807 : Int); omega)] at hq2
  obtain ⟨f', q3, e1, e2, e3, e4, _⟩ := elInt.push hown ((s[i].toNat : Nat) : Int) hq2 rfl hB.size (by omega) (by decide)
  refine ⟨f'.a, f'.n, f'.c, q3, e2, Ar.nat (i + 1) rfl (by omega) (ih (f', q3) ⟨?_, by show f'.n = i + 1; omega, e4 _ hB⟩)⟩
  have e : ints (s.take (i + 1)) = ints (s.take i) ++ [((s[i].toNat : Nat) : Int)] := by
   unfold ints
   rw [List.take_add_one, List.getElem?_eq_getElem hi, List.map_append]
   rfl
  rw [e]
  exact e3
 ·rintro ⟨f, q⟩ ⟨hown, hfn, hB⟩
  change q.ownsRow w.heap.size tInt 1 f.v f.n _ at hown
  rw [List.take_length] at hown
  exact hI _ f.a f.n f.c q (CondP.no (decide_eq_false (by rw [str_size]; omega)) ⟨f, rfl, hfn, hown, hB⟩)
theorem vocItem_spec (w : World) (v : Nat) (c : Array Value) (tp bp mp : Nat) (h : VBlk w v c tp bp mp) (s : SpecV) (T : List Ent) (x : SpecW) (hP : VocParts w s T x tp bp mp) (id : Int) :
  CP 301 #[.pointer (some ⟨v, 0, none⟩), .int .i64 id] w fun e w' => ∃ l : Sl, e = .returned (.tuple #[l.v, .bool (hasV2 s T id)]) ∧ (hasV2 s T id = true → l.n = ((vocOf s T).items id).length ∧ w'.ownsRow w.heap.size tInt 1 l.v l.n (((vocOf s T).items id).flatMap encInt)) ∧ Below w.heap.size w w' := by
 refine calls_ret (vc301_calls (some ⟨v, 0, none⟩) id w (fun u w' => ∃ l : Sl, u = .tuple #[l.v, .bool (hasV2 s T id)] ∧ (hasV2 s T id = true → l.n = ((vocOf s T).items id).length ∧ w'.ownsRow w.heap.size tInt 1 l.v l.n (((vocOf s T).items id).flatMap encInt)) ∧ Below w.heap.size w w') ?_) (by rintro v w' ⟨l, rfl, h⟩; exact ⟨l, rfl, h⟩)
 have hfew := hP.few
 have hplace : (vocOf s T).place id = markOf s.specials id := rfl
 refine NilC.mk _ rfl ⟨_, by rw [vcell w v h.blk]; exact h.c8, (markMark_spec w mp s.specials hP.marks (by omega) id).mono ?_⟩
 rintro e w1 ⟨rfl, hw⟩
 subst w1
 refine ⟨_, _, rfl, CondP.mk (fun h0 => ?_) fun h0 => ?_⟩
 ·obtain ⟨i, hi⟩ := Option.isSome_iff_exists.1 h0
  intro w2 hw2
  have b2 : Below w.heap.size w w2 := by subst hw2; exact below_alloc _ _
  have hhas : hasV2 s T id = true := by
   unfold hasV2
   exact decide_eq_true (.inl (idx_mem.1 h0))
  have eI : (vocOf s T).items id = [-1 - (i : Int)] := by
   unfold Voc.items
   rw [hplace, hi]
  refine ⟨⟨some (nb w), 1, 1⟩, by rw [hhas], fun _ => ⟨by rw [eI]; rfl, ?_⟩, b2⟩
  rw [eI]
  rw [hi] at hw2
  subst hw2
  exact ⟨rfl, .inr ⟨w.heap.size, 1, _, rfl, Nat.le_refl _, alloc_new _ _, Nat.le_refl _, by unfold maxLen; omega, rfl, rfl⟩⟩
 ·refine NilC.mk _ rfl ⟨_, by rw [vcell w v h.blk]; exact h.c6, (tokBytes_spec w tp T hP.tab id).mono ?_⟩
  rintro e w3 ⟨rfl, hw⟩
  subst w3
  have hnone : markOf s.specials id = none := by
   cases hm : markOf s.specials id with
   | none => rfl
   | some i => rw [hm] at h0; cases h0
  have hhas : hasV2 s T id = decide (inTab T id) := by
   unfold hasV2
   have : id ∉ s.specials.map (·.1) := fun e => by have := (show (markOf s.specials id).isSome = true from idx_mem.2 e); rw [this] at h0; cases h0
   exact decide_eq_decide.2 ⟨fun h => h.resolve_left this, .inr⟩
  have hshort : (if inTab T id then bytesOf T id else []).length ≤ 64 := by
   split
   ·next hin =>
    obtain ⟨y, hy, hyb⟩ := bytesOf_at hin
    rw [hyb]
    exact hP.ok.short y (List.mem_of_getElem? hy)
   ·exact Nat.zero_le _
  refine ⟨_, _, rfl, (markBytes_spec w _ (by omega)).mono ?_⟩
  rintro e w4 ⟨l, rfl, hln, ho, b4⟩
  refine ⟨_, _, _, rfl, l, by rw [hhas], fun hin => ?_, b4⟩
  rw [hhas, decide_eq_true_eq] at hin
  rw [if_pos hin] at ho hln
  have eI : (vocOf s T).items id = ints (bytesOf T id) := by
   unfold Voc.items
   rw [hplace, hnone]
   rfl
  rw [eI]
  exact ⟨by rw [hln]; simp [ints], ho⟩
theorem rangeFunc_state {α : Type} {P : Program} {g : Operand} {ps : Array Tmp} {assign body : Code} {Q : Exit → Act → World → Prop} {a : Act} {w : World} {n : Nat}
  {gf : Nat} {lb : Array Value} (hg : a.eval g = .func (.func gf) #[] lb) (eg : ∀ args w, (callFunc gf args).run P w = .ok (.enter gf args) w)
  {encs : α → Array Value} (x0 : α) (last : α → Prop) (hps : ∀ i, (encs i).size = ps.size)
  (R R' : α → World → Prop) (hRp : ∀ i W k o o', R i W → w.heap.size ≤ k → W.heap[k]? = some o → o.isCells = false → R i (W.putObj k o'))
  (hRp' : ∀ i W k o o', R' i W → w.heap.size ≤ k → W.heap[k]? = some o → o.isCells = false → R' i (W.putObj k o'))
  (h0 : ∀ o o', R x0 ((w.alloc o).alloc o'))
  (hseq : ∀ (l : Nat) (W : World) (Keep : World → Prop), (∀ W W', Keep W → KeepsOthers W W' → Keep W') →
   (∀ i W1, ¬ last i → R i W1 → Keep W1 → YieldAt Fence.wide 0 P l (encs i) W1 fun e W' => e = .returned (.bool true) ∧ R' i W' ∧ Keep W') → R x0 W → Keep W →
   CallsIn Fence.wide 0 P gf (#[.func (.yield l) #[] #[]] ++ lb) W fun e W' => (∃ v, e = .returned v) ∧ (∃ x, last x ∧ R x W') ∧ Keep W')
  (a₁ : α → Act)
  (hassign : ∀ (l : Nat) (i : α) (W : World) (K : Act → World → Prop), K (a₁ i) W →
   assign.wpIn (Fence.wide.inRound l) 0 P (Exit.then K (fun _ _ _ => False)) { tmps := (ps.zip (encs i)).foldl (fun t (p, v) => t.setIfInBounds p v) a.tmps, defers := [] } W)
  (hbody : ∀ (l : Nat) (i : α) (W : World), ¬ last i → R i W → body.wpIn (Fence.wide.inRound l) 0 P (fun e _ W' => e = .normal ∧ KeepsOthers W W' ∧ R' i W') (a₁ i) W)
  (hdone : ∀ (D : Nat) (x : α) (W : World), w.heap.size ≤ D → last x → R x W → W.heap[D]? = some (.deferred (some [])) → Q .normal { a with defers := { target := .collected D, args := #[] } :: a.defers } W) :
  (Code.rangeFunc g ps assign body).wpIn Fence.wide 0 P Q a w := by
 refine wpIn_rangeFunc ?_
 intro fn hfn
 obtain ⟨rec, hrec⟩ : ∃ rec : LoopState → Loop, rec = fun st => { state := st, pending := none, fn, tmps := a.tmps, params := ps, assign, body, defers := w.heap.size } := ⟨_, rfl⟩
 obtain ⟨W1, hW1⟩ : ∃ W1, (w.alloc (.deferred (some []))).alloc (.loop (rec .ready)) = W1 := ⟨_, rfl⟩
 have hL1 : W1.heap[w.heap.size + 1]? = some (.loop (rec .ready)) := by
  rw [← hW1]
  have := World.alloc_heap_new (w.alloc (.deferred (some []))) (.loop (rec .ready))
  rwa [World.size_alloc] at this
 have hK1 : W1.heap[w.heap.size]? = some (.deferred (some [])) := by
  rw [← hW1]
  exact (Below.heap_alloc _ _ _ (by simp)).trans (World.alloc_heap_new w _)
 refine ⟨w.heap.size + 1, [{ target := .collected w.heap.size, args := #[] }], W1, { target := .fn (.func gf) lb, args := #[.func (.yield (w.heap.size + 1)) #[] #[]] }, W1, gf,
  #[.func (.yield (w.heap.size + 1)) #[] #[]] ++ lb, W1, ?_, ?_, ?_, ?_, fun h => (by cases h), ?_⟩
 ·rw [← hW1, hrec]
  exact run_enterLoop_outer _ _ _ _ _
 ·simp only [resolve, hg]
  simp [go_sem]
 ·intro f' _
  trivial
 ·simp [invoke, go_sem, eg]
 ·refine (hseq (w.heap.size + 1) W1 (fun W => W.heap[w.heap.size + 1]? = some (.loop (rec .ready)) ∧ W.heap[w.heap.size]? = some (.deferred (some [])))
   (fun W W' h k => ⟨k.same _ _ h.1 rfl, k.same _ _ h.2 rfl⟩) ?_ (by rw [← hW1]; exact h0 _ _) ⟨hL1, hK1⟩).mono ?_
  ·rintro i W hi hr ⟨hl, hk⟩
   have hlt : w.heap.size + 1 < W.heap.size := (Array.getElem?_eq_some_iff.1 hl).1
   have hy := run_yield (P := P) (args := encs i) hl (by rw [hrec]; exact hps i)
   rw [hrec] at hy
   refine ⟨fn, _, assign, body, hy, roundIn_of_wpIn hfn (hassign _ i W _ ⟨_, run_beginRound hl (by rw [hrec]), ?_⟩)⟩
   have hl2 : (W.putObj (w.heap.size + 1) (.loop { rec .ready with state := .busy })).heap[w.heap.size + 1]? = some (.loop { rec .ready with state := .busy }) := World.putObj_heap_same hlt
   have hk2 : (W.putObj (w.heap.size + 1) (.loop { rec .ready with state := .busy })).heap[w.heap.size]? = some (.deferred (some [])) := (World.putObj_heap_other (by omega)).trans hk
   refine wpIn_mono (hbody _ i _ hi (hRp _ _ _ _ _ hr (by omega) hl rfl)) ?_
   rintro e a3 W3 ⟨rfl, hk3, hr3⟩
   have hl3 := hk3.same _ _ hl2 rfl
   refine ⟨_, _, run_endRound none hl3, rfl, hRp' _ _ _ _ _ hr3 (by omega) hl3 rfl, ?_, (World.putObj_heap_other (by omega)).trans (hk3.same _ _ hk2 rfl)⟩
   rw [hrec]
   exact World.putObj_heap_same (Array.getElem?_eq_some_iff.1 hl3).1
  ·rintro e W2 ⟨⟨v, rfl⟩, ⟨x, hx, hr⟩, hl, hk⟩
   have he := run_endLoop (P := P) hl (by rw [hrec]; simp)
   rw [hrec] at he
   exact ⟨none, _, he, hdone _ x _ (Nat.le_refl _) hx (hRp _ _ _ _ _ hr (by omega) hl rfl) ((World.putObj_heap_other (by omega)).trans hk)⟩
open Go Go.RowKit Go.Shelf
attribute [local go_sem] Oper.semAt_some
abbrev Pl := Nat × Sl
def nextPl (k : Nat) (x : Pl) : Pl := (x.1 + k, ⟨slBase x.2.a k x.2.c 1, x.2.n - k, x.2.c - k⟩)
structure RestIs (w : World) (v tp bp mp Bi Bv : Nat) (c : Array Value) (s : SpecV) (items : List Int) (x : Pl) : Prop where
 box : w.heap[Bi]? = some (.cells #[x.2.v] tInts (0, 0))
 vbox : w.heap[Bv]? = some (.cells #[.pointer (some ⟨v, 0, none⟩)] 31 (0, 0))
 blk : VBlk w v c tp bp mp
 bd : BdIs w bp s.classes s.joins
 row : Rw encInt 1 w x.2.a (items.drop x.1)
 len : x.2.n = (items.drop x.1).length
 cap : x.2.n ≤ x.2.c
set_option maxHeartbeats 2000000 in
theorem pieces1_spec (v tp bp mp Bi Bv : Nat) (c : Array Value) (s : SpecV) (T : List Ent) (hcl : ∀ c ∈ s.classes, classOk c = true) (items : List Int) (hl : items.length ≤ 1000000) (hok : ∀ x ∈ items, x < 256)
  (l : Nat) (R R' : Pl → World → Prop) (Keep : World → Prop) (hK : ∀ W W', Keep W → KeepsOthers W W' → Keep W')
  (hR : ∀ x W, R x W → RestIs W v tp bp mp Bi Bv c s items x)
  (hRb : ∀ x W W', R x W → Below W.heap.size W W' → R x W')
  (hR' : ∀ x W, R' x W → W.heap[Bi]? = some (.cells #[x.2.v] tInts (0, 0)))
  (hRn : ∀ x W k, k = cutN (vocOf s T).cut (items.drop x.1) → R' x W → R (nextPl k x) (W.setCell ⟨Bi, 0, none⟩ (nextPl k x).2.v))
  (hY : ∀ x W1 k, k = cutN (vocOf s T).cut (items.drop x.1) → R x W1 → x.2.n ≠ 0 → Keep W1 → YieldAt Fence.wide 0 Tryz.prog l #[.slice x.2.a k k] W1 fun e W' => e = .returned (.bool true) ∧ R' x W' ∧ Keep W')
  (x0 : Pl) (W : World) (h0 : R x0 W) (hk0 : Keep W) :
  CallsIn Fence.wide 0 Tryz.prog 219 #[.func (.yield l) #[] #[], .pointer (some ⟨Bi, 0, none⟩), .pointer (some ⟨Bv, 0, none⟩)] W fun e W' => (∃ v, e = .returned v) ∧ (∃ x : Pl, x.2.n = 0 ∧ R x W') ∧ Keep W' := by
 refine callsIn_of_wp Tryz.func219 rfl trivial ?_ rfl
 simp only [Tryz.ntmps219, List.size_toArray, List.length_cons, List.length_nil, Nat.reduceAdd, Nat.reduceSub, Array.replicate_succ, Array.replicate_zero, List.push_toArray, List.append_toArray, List.nil_append, List.cons_append]
 gi_wp2
 gi_loopw [4] (fun _ wr => ∃ x : Pl, R x wr ∧ Keep wr) (fun _ wr => match wr.cell? ⟨Bi, 0, none⟩ with | some (.slice _ n _) => n | _ => 0)
 case atStart => exact ⟨x0, h0, hk0⟩
 case round =>
  obtain ⟨x, hx, hk⟩ := hrel
  have hI := hR x wr hx
  obtain ⟨i, ⟨a, n, cp⟩⟩ := x
  have hb1 : wr.cell? ⟨Bi, 0, none⟩ = some (.slice a n cp) := by simp [World.cell?, hI.box, Sl.v]
  have hb2 : wr.cell? ⟨Bv, 0, none⟩ = some (.pointer (some ⟨v, 0, none⟩)) := by simp [World.cell?, hI.vbox]
  by_cases hn : n = 0
  ·subst hn
   gi_wp2
   go_end0
   exact ⟨⟨_, rfl⟩, ⟨_, rfl, hx⟩, hk⟩
  ·have hlen : (items.drop i).length = n := hI.len.symm
   have hn0 : 0 < n := by omega
   obtain ⟨k, hkk⟩ : ∃ k, cutN (vocOf s T).cut (items.drop i) = k := ⟨_, rfl⟩
   have hne : items.drop i ≠ [] := fun e => hn (by rw [← hlen, e]; rfl)
   have hk1 := cutN_pos (vocOf s T).cut hne
   have hk2 := cutN_le (vocOf s T).cut (items.drop i)
   have hcap : n ≤ cp := hI.cap
   have hnl : n ≤ 1000000 := by rw [← hlen, List.length_drop]; omega
   rw [hkk] at hk1
   rw [hkk, hlen] at hk2
   have hc := encCut_spec wr v c tp bp mp hI.blk s T hI.bd hcl a cp (items.drop i) hI.row hne (by omega) (fun x hx => hok x (List.mem_of_mem_drop hx))
   rw [hkk, hlen] at hc
   have hc := (callsIn_wide (n := 0)).2 hc
   gi_wp2
   refine ⟨trivial, rfl, ?_⟩
   refine CallsIn.mono hc ?_
   rintro e w1 ⟨rfl, b1⟩
   have hx1 := hRb _ _ _ hx b1
   have hI1 := hR _ _ hx1
   have hkp1 := hK _ _ hk (KeepsOthers.of_grownBy (row := none) ⟨b1.os, b1.tape, b1.output, b1.size, fun j hj _ => b1.block j hj⟩ (fun j o e => by cases e))
   have hb0 := hb1
   have hb1 : w1.cell? ⟨Bi, 0, none⟩ = some (.slice a n cp) := by simp [World.cell?, hI1.box, Sl.v]
   obtain ⟨fn, tmps, assign, body, hy, hRd⟩ := hY _ w1 k hkk.symm hx1 hn hkp1
   dsimp only at hy
   gi_wp2
   refine ⟨rfl, hRd.mono ?_⟩
   rintro e W3 ⟨rfl, hR3, hk3⟩
   have hb3 := hR' _ _ hR3
   have hc3 : W3.cell? ⟨Bi, 0, none⟩ = some (.slice a n cp) := by simp [World.cell?, hb3, Sl.v]
   have hf3 : W3.frozen? ⟨Bi, 0, none⟩ = false := by simp [World.frozen?, hb3]
   gi_wp2
   have hR4 := hRn _ _ k hkk.symm hR3
   have hk4 := hK _ _ hk3 (KeepsOthers.setCell W3 ⟨Bi, 0, none⟩ (nextPl k (i, ⟨a, n, cp⟩)).2.v)
   have e4 : (nextPl k (i, ⟨a, n, cp⟩)).2.v = Value.slice (if cp = k then a else Option.map (fun x => x.add k) a) (n - k) (cp - k) := by
    unfold nextPl slBase Sl.v
    dsimp only
    rw [Nat.mul_one]
   rw [e4] at hR4 hk4
   refine ⟨⟨_, hR4, hk4⟩, ?_⟩
   obtain ⟨b', hb'⟩ : ∃ b', Value.slice b' (n - k) (cp - k) = Value.slice (if cp = k then a else Option.map (fun x => x.add k) a) (n - k) (cp - k) := ⟨_, rfl⟩
   rw [← hb', World.cell?_setCell_same' _ _ _ (by rw [hc3]; rfl), hb0]
   show n - k < n
   omega
theorem encP_len (V : Voc) (p : List Int) : (V.encP p).length ≤ p.length := by
 cases p with
 | nil => exact Nat.le_refl _
 | cons x r =>
  rw [encP_cons]
  split
  ·simp
  ·exact after_len V.ms (x :: r) _ (Nat.le_refl _)
theorem encode_short (V : Voc) (Z : List Int) : (V.encode Z).length ≤ Z.length := by
 have := flat_len (f := V.encP) (encP_len V) (chop V.cut Z)
 rw [(chop_is Z).2] at this
 exact this
theorem encode_cut (V : Voc) {l : List Int} (hne : l ≠ []) : V.encode l = V.encP (l.take (cutN V.cut l)) ++ V.encode (l.drop (cutN V.cut l)) := by
 unfold Voc.encode
 rw [chop_cutN _ hne, List.flatMap_cons]
theorem uncut_bytes {V : Voc} : ∀ {x y : Int} {r : List Int}, Uncut V.cut (x :: y :: r) → ∀ z ∈ x :: y :: r, 0 ≤ z
 | x, y, [], ⟨h, _⟩, z, hz => by
  unfold Voc.cut at h
  simp at h hz
  rcases hz with rfl | rfl <;> omega
 | x, y, u :: r, ⟨h, h2⟩, z, hz => by
  have ih := uncut_bytes (V := V) h2
  rcases List.mem_cons.1 hz with rfl | hz
  ·unfold Voc.cut at h
   simp at h
   omega
  ·exact ih z hz
theorem piece_ok {s : SpecV} {T : List Ent} {l : List Int} (hne : l ≠ []) (hok : ∀ x ∈ l, itemOk s x = true) : PieceOk s (l.take (cutN (vocOf s T).cut l)) := by
 have hc := (chop_is (cut := (vocOf s T).cut) l).1
 rw [chop_cutN _ hne] at hc
 obtain ⟨h1, h2⟩ := hc.head
 have hmem : ∀ x ∈ l.take (cutN (vocOf s T).cut l), itemOk s x = true := fun x hx => hok x (List.mem_of_mem_take hx)
 revert h1 h2 hmem
 generalize l.take (cutN (vocOf s T).cut l) = p
 intro h1 h2 hmem
 match p, h1 with
 | [x], _ =>
  have := hmem x List.mem_cons_self
  unfold itemOk at this
  have := of_decide_eq_true this
  rcases this with h | h
  ·exact .inr ⟨by simp, fun y hy => by simp at hy; subst hy; exact h⟩
  ·exact .inl ⟨x, rfl, h.1, h.2⟩
 | x :: y :: r, _ =>
  refine .inr ⟨by simp, fun z hz => ?_⟩
  have h0 := uncut_bytes (V := vocOf s T) h2 z hz
  have := hmem z hz
  unfold itemOk at this
  have := of_decide_eq_true this
  omega
attribute [local go_sem] Oper.semAt_some
abbrev tVP : TypeId := 31
theorem encPieces_spec (w : World) (v : Option Addr) (A : Option Addr) (N C : Nat) :
  CP 185 #[.pointer v, .slice A N C] w fun e w' => e = .returned (.func (.func 219) #[] #[.pointer (some ⟨w.heap.size + 1, 0, none⟩), .pointer (some ⟨w.heap.size, 0, none⟩)]) ∧ w' = (w.alloc (.cells #[.pointer v] tVP)).alloc (.cells #[.slice A N C] tInts) := by
 refine calls_ret (vc185_calls v A N C w (fun u w' => u = .func (.func 219) #[] #[.pointer (some ⟨w.heap.size + 1, 0, none⟩), .pointer (some ⟨w.heap.size, 0, none⟩)] ∧ w' = (w.alloc (.cells #[.pointer v] tVP)).alloc (.cells #[.slice A N C] tInts)) ?_) (by rintro v w' ⟨rfl, h⟩; exact ⟨rfl, h⟩)
 intro w1 hw1 w2 hw2
 subst hw1 hw2
 refine ⟨?_, rfl⟩
 unfold nb
 rw [World.size_alloc]
structure TkR (w W : World) (v : Nat) (s : SpecV) (T : List Ent) (Z : List Int) (i : Nat) (x : Pl) : Prop where
 vb0 : W.heap[w.heap.size]? = some (.cells #[.pointer (some ⟨v, 0, none⟩)] tVP (0, 0))
 vb : W.heap[w.heap.size + 2]? = some (.cells #[.pointer (some ⟨v, 0, none⟩)] tVP (0, 0))
 bx : W.heap[w.heap.size + 3]? = some (.cells #[x.2.v] tInts (0, 0))
 row : Rw encInt 1 w x.2.a (Z.drop x.1)
 len : x.2.n = (Z.drop x.1).length
 cap : x.2.n ≤ x.2.c
 out : ∃ (ys : List Int) (o : Sl), Boxed W (w.heap.size + 1) tInts o.v ∧ W.ownsRow w.heap.size tInt 1 o.v o.n (ys.flatMap encInt) ∧ ys ++ (vocOf s T).encode (Z.drop i) = (vocOf s T).encode Z
 le : Below w.heap.size w W
theorem TkR.on {w W W' : World} {v : Nat} {s : SpecV} {T : List Ent} {Z : List Int} {i : Nat} {x : Pl} (h : TkR w W v s T Z i x) (hb : Below W.heap.size W W') : TkR w W' v s T Z i x := by
 obtain ⟨ys, o, h1, h2, h3⟩ := h.out
 exact ⟨held_on hb h.vb0, held_on hb h.vb, held_on hb h.bx, h.row, h.len, h.cap, ⟨ys, o, held_on hb h1, own_on h2 hb, h3⟩, below_then h.le hb⟩
theorem TkR.put {w W : World} {v : Nat} {s : SpecV} {T : List Ent} {Z : List Int} {i : Nat} {x : Pl} (h : TkR w W v s T Z i x) {k : Nat} {o o' : Obj} (hk : w.heap.size ≤ k) (ho : W.heap[k]? = some o) (hc : o.isCells = false) : TkR w (W.putObj k o') v s T Z i x := by
 have keep : ∀ {j : Nat} {c : Array Value} {t : TypeId} {f : Nat × Nat}, W.heap[j]? = some (.cells c t f) → (W.putObj k o').heap[j]? = some (.cells c t f) := by
  intro j c t f hj
  rw [World.putObj_heap_other fun e => ?_]
  ·exact hj
  ·subst e
   rw [hj] at ho
   cases ho
   cases hc
 obtain ⟨ys, y, h1, h2, h3⟩ := h.out
 exact ⟨keep h.vb0, keep h.vb, keep h.bx, h.row, h.len, h.cap, ⟨ys, y, keep h1, ownsRow_putObj h2 o' ho hc, h3⟩, h.le.trans ((Below.refl _ W).grown (grownBy_putObj' W k o') h.le.size (fun j e => by cases e; exact hk))⟩
theorem TkR.step {w W : World} {v : Nat} {s : SpecV} {T : List Ent} {Z : List Int} {k : Nat} {x : Pl} (hk : k ≤ (Z.drop x.1).length) (h : TkR w W v s T Z (x.1 + k) x) : TkR w (W.setCell ⟨w.heap.size + 3, 0, none⟩ (nextPl k x).2.v) v s T Z (nextPl k x).1 (nextPl k x) := by
 have hb : Boxed W (w.heap.size + 3) tInts x.2.v := h.bx
 have keep : ∀ {j : Nat} {c : Array Value} {t : TypeId} {f : Nat × Nat}, j ≠ w.heap.size + 3 → W.heap[j]? = some (.cells c t f) → (W.setCell ⟨w.heap.size + 3, 0, none⟩ (nextPl k x).2.v).heap[j]? = some (.cells c t f) := by
  intro j c t f hne hj
  rw [(grownBy_setCell' W (w.heap.size + 3) _).block j (Array.getElem?_eq_some_iff.1 hj).1 (fun e => hne (Option.some.inj e))]
  exact hj
 obtain ⟨ys, y, h1, h2, h3⟩ := h.out
 have hlen := h.len
 have hcap := h.cap
 obtain ⟨i, ⟨a, n, cp⟩⟩ := x
 change n = (Z.drop i).length at hlen
 change n ≤ cp at hcap
 change k ≤ (Z.drop i).length at hk
 refine ⟨keep (by omega) h.vb0, keep (by omega) h.vb, hb.set _, ?_, ?_, ?_, ⟨ys, y, keep (by omega) h1, h2.kept (grownBy_setCell' W _ _) (.inr (hb.not_row (by decide) h2).symm), h3⟩, h.le.trans ((Below.refl _ W).setCell (p := ⟨w.heap.size + 3, 0, none⟩) (by show w.heap.size ≤ w.heap.size + 3; omega) _)⟩
 ·have := h.row.cut k cp (by show (Z.drop i).length ≤ cp; omega)
  rw [List.drop_drop] at this
  exact this
 ·show n - k = (Z.drop (i + k)).length
  rw [List.length_drop] at hlen ⊢
  omega
 ·show n - k ≤ cp - k
  omega
theorem wpIn_append_run {F : Fence} {n : Nat} {P : Program} {o : Oper} {a : Act} {w w' : World} {K : Act → World → Prop} {Q : Exit → Act → World → Prop} (s x : Operand) (t : TypeId)
  (hop : o.op = Op.call { callee := Callee.builtin Builtin.append, args := #[s, x], argTypes := #[t, t] }) {vs vx v' : Value} (hs : a.eval s = vs) (hx : a.eval x = vx)
  (hrun : (Builtin.append_ #[t, t] o.type #[vs, vx]).run P w = .ok v' w') (h : K (a.put o.dst v') w') : Oper.wpIn F n P o a w K Q := by
 unfold Oper.wpIn
 refine ⟨?_, ?_⟩
 ·simp [Oper.about, hop, resolve, Target.leads, Sem.run_pure]
 ·rw [Oper.semAt_plain F _ _ (by rw [hop]; intro c hc'; cases hc')]
  simp [execOp, hop, resolve, invoke, builtin, hs, hx, hrun, Result.andThen]
  exact h
set_option maxHeartbeats 4000000 in
theorem tokens_spec (w : World) (v : Nat) (c : Array Value) (tp bp mp : Nat) (h : VBlk w v c tp bp mp) (s : SpecV) (T : List Ent) (x : SpecW) (hP : VocParts w s T x tp bp mp) (A : Option Addr) (C : Nat) (Z : List Int) (hr : Rw encInt 1 w A Z) (hC : Z.length ≤ C) (hl : Z.length ≤ 100000) (hZ : ∀ y ∈ Z, itemOk s y = true) :
  CP 140 #[.pointer (some ⟨v, 0, none⟩), .slice A Z.length C] w fun e w' => ∃ l : Sl, e = .returned l.v ∧ l.n = ((vocOf s T).encode Z).length ∧ w'.ownsRow w.heap.size tInt 1 l.v l.n (((vocOf s T).encode Z).flatMap encInt) ∧ Below w.heap.size w w' := by
 obtain ⟨N, hN⟩ : ∃ N, Z.length = N := ⟨_, rfl⟩
 rw [hN]
 refine (callsIn_wide (n := 0)).1 ?_
 refine callsIn_of_wp_marks Tryz.func140 rfl trivial ?_ rfl
 simp only [Tryz.ntmps140, List.size_toArray, List.length_cons, List.length_nil, Nat.reduceAdd, Nat.reduceSub, Array.replicate_succ, Array.replicate_zero, List.push_toArray, List.append_toArray, List.nil_append, List.cons_append]
 gi_wp2_with (refine ⟨trivial, rfl, ?_⟩; refine CallsIn.mono (callsIn_wide.2 (encPieces_spec _ _ _ _ _)) ?_; rintro e w' ⟨rfl, rfl⟩)
 obtain ⟨W0, hW0⟩ : ∃ W0, ((((w.alloc (.cells #[.pointer (some ⟨v, 0, none⟩)] tVP)).alloc (.cells #[.slice none 0 0] tInts)).alloc (.cells #[.pointer (some ⟨v, 0, none⟩)] tVP)).alloc (.cells #[.slice A N C] tInts)) = W0 := ⟨_, rfl⟩
 rw [hW0]
 have hz0 : W0.heap.size = w.heap.size + 4 := by rw [← hW0]; simp only [World.size_alloc]
 have hT0 : TkR w W0 v s T Z 0 (0, ⟨A, N, C⟩) := by
  rw [← hW0]
  have e1 := Boxed.new w tVP (.pointer (some ⟨v, 0, none⟩))
  have e2 := Boxed.new (w.alloc (.cells #[.pointer (some ⟨v, 0, none⟩)] tVP)) tInts (.slice none 0 0)
  have e3 := Boxed.new ((w.alloc (.cells #[.pointer (some ⟨v, 0, none⟩)] tVP)).alloc (.cells #[.slice none 0 0] tInts)) tVP (.pointer (some ⟨v, 0, none⟩))
  have e4 := Boxed.new (((w.alloc (.cells #[.pointer (some ⟨v, 0, none⟩)] tVP)).alloc (.cells #[.slice none 0 0] tInts)).alloc (.cells #[.pointer (some ⟨v, 0, none⟩)] tVP)) tInts (.slice A N C)
  simp only [World.size_alloc] at e2 e3 e4
  exact ⟨((e1.alloc _).alloc _).alloc _, e3.alloc _, e4, by rw [List.drop_zero]; exact hr, hN.symm, by show N ≤ C; omega, ⟨[], sl0, (e2.alloc _).alloc _, own_none _ _ _ _ encInt, rfl⟩, ((((Below.refl w.heap.size w).alloc (Nat.le_refl _) _).alloc (by simp only [World.size_alloc]; omega) _).alloc (by simp only [World.size_alloc]; omega) _).alloc (by simp only [World.size_alloc]; omega) _⟩
 have hlt : ∀ y ∈ Z, y < 256 := by
  intro y hy
  have := hZ y hy
  unfold itemOk at this
  have := of_decide_eq_true this
  omega
 have hcl : ∀ c ∈ s.classes, classOk c = true := (right_ok hP.right).1
 obtain ⟨cut, hcut⟩ : ∃ cut, (vocOf s T).cut = cut := ⟨_, rfl⟩
 refine rangeFunc_state (n := 0) (gf := 219) (lb := #[.pointer (some ⟨w.heap.size + 3, 0, none⟩), .pointer (some ⟨w.heap.size + 2, 0, none⟩)]) rfl (enters_of Tryz.func219 (by kernel_rfl) rfl)
  (encs := fun y : Pl => #[.slice y.2.a (cutN cut (Z.drop y.1)) (cutN cut (Z.drop y.1))]) ((0, ⟨A, N, C⟩) : Pl) (fun y : Pl => y.2.n = 0) (fun _ => rfl)
  (fun y W => TkR w W v s T Z y.1 y) (fun y W => TkR w W v s T Z (y.1 + cutN cut (Z.drop y.1)) y)
  (fun y W k o o' hy hk ho hc => hy.put (by omega) ho hc) (fun y W k o o' hy hk ho hc => hy.put (by omega) ho hc)
  (fun o o' => (hT0.on (below_alloc _ _)).on (below_alloc _ _)) ?seq
  (fun y => { tmps := #[.pointer (some ⟨v, 0, none⟩), .slice A N C, .pointer (some ⟨w.heap.size, 0, none⟩), undef, .slice none 0 0, .pointer (some ⟨w.heap.size + 1, 0, none⟩), .slice y.2.a (cutN cut (Z.drop y.1)) (cutN cut (Z.drop y.1)), .pointer (some ⟨v, 0, none⟩), .slice A N C, .func (.func 219) #[] #[.pointer (some ⟨w.heap.size + 1 + 1 + 1, 0, none⟩), .pointer (some ⟨w.heap.size + 1 + 1, 0, none⟩)], .slice y.2.a (cutN cut (Z.drop y.1)) (cutN cut (Z.drop y.1)), undef, undef, undef, undef, undef, undef], defers := [] }) ?assign ?body ?done
 case seq =>
  intro l W Keep hK hY h0 hk0
  refine pieces1_spec v tp bp mp (w.heap.size + 3) (w.heap.size + 2) c s T hcl Z (by omega) hlt l (fun y W => TkR w W v s T Z y.1 y) (fun y W => TkR w W v s T Z (y.1 + cutN cut (Z.drop y.1)) y) Keep hK ?_ ?_ ?_ ?_ ?_ (0, ⟨A, N, C⟩) W h0 hk0
  ·exact fun y W hy => ⟨hy.bx, hy.vb, h.on hy.le, hP.bound.on hy.le, hy.row.on hy.le, hy.len, hy.cap⟩
  ·exact fun y W W' hy hb => hy.on hb
  ·exact fun y W hy => hy.bx
  ·intro y W k hk hy
   rw [← hcut, ← hk] at hy
   exact hy.step (by rw [hk]; exact cutN_le _ _)
  ·intro y W1 k hk hy hn hkp
   have := hY y W1 hn hy hkp
   rw [← hcut] at this
   rw [hk, ← hcut]
   exact this
 case assign =>
  intro l y W K hK
  gi_wp2
  exact hK
 case body =>
  intro l y W hy hR
  obtain ⟨ys, ⟨oa, on, oc⟩, hb, ho, he⟩ := hR.out
  have hc1 : W.cell? ⟨w.heap.size + 1, 0, none⟩ = some (.slice oa on oc) := hb.cell
  have hc2 : W.cell? ⟨w.heap.size, 0, none⟩ = some (.pointer (some ⟨v, 0, none⟩)) := (show Boxed W w.heap.size tVP _ from hR.vb0).cell
  have hmx : Tryz.prog.follows .mixedOrders = true := by kernel_rfl
  obtain ⟨k, hk⟩ : ∃ k, cutN cut (Z.drop y.1) = k := ⟨_, rfl⟩
  have hpc : ∀ q, Below W.heap.size W q → CallsIn (Fence.wide.inRound l) 0 Tryz.prog 186 #[.pointer (some ⟨v, 0, none⟩), .slice y.2.a k k] q fun e q' => ∃ la ln lc, e = .returned (.slice la ln lc) ∧ ln = ((vocOf s T).encP ((Z.drop y.1).take k)).length ∧ q'.ownsRow q.heap.size tInt 1 (.slice la ln lc) ln (((vocOf s T).encP ((Z.drop y.1).take k)).flatMap encInt) ∧ Below q.heap.size q q' := by
   intro q hq
   have hle := hR.le
   have hne : Z.drop y.1 ≠ [] := by
    intro e
    have := hR.len
    rw [e] at this
    exact hy this
   have hk2 : k ≤ (Z.drop y.1).length := by rw [← hk]; exact cutN_le _ _
   have hq' := below_then hle hq
   have hpo := piece_ok (s := s) (T := T) hne (fun z hz => hZ z (List.mem_of_mem_drop hz))
   rw [hcut, hk] at hpo
   have hkl : ((Z.drop y.1).take k).length = k := by rw [List.length_take, Nat.min_eq_left hk2]
   have := encPiece_spec q v c tp bp mp (h.on hq') s T x (hP.on hq') y.2.a k ((Z.drop y.1).take k) ((hR.row.on hq').take k) hpo (by rw [hkl]; rw [List.length_drop] at hk2; omega)
   rw [hkl] at this
   refine CallsIn.inRound l (callsIn_wide.2 (this.mono ?_))
   rintro e q' ⟨r, rfl, h1, h2, h3⟩
   exact ⟨_, _, _, rfl, h1, h2, h3⟩
  rw [hk]
  gi_wp2
  have hd := drew_on W
  have hoD := own_on ho hd
  have hbD : Boxed W.drew (w.heap.size + 1) tInts (.slice oa on oc) := held_on hd hb
  have hc1D : W.drew.cell? ⟨w.heap.size + 1, 0, none⟩ = some (.slice oa on oc) := hbD.cell
  have hc2D : W.drew.cell? ⟨w.heap.size, 0, none⟩ = some (.pointer (some ⟨v, 0, none⟩)) := (show Boxed W.drew w.heap.size tVP _ from held_on hd hR.vb0).cell
  have hys : ys.length ≤ 100000 := by
   have h1 := congrArg List.length he
   rw [List.length_append] at h1
   have h2 := encode_short (vocOf s T) Z
   omega
  have hps : ((vocOf s T).encP ((Z.drop y.1).take k)).length ≤ 100000 := by
   have h1 := encP_len (vocOf s T) ((Z.drop y.1).take k)
   rw [List.length_take, List.length_drop] at h1
   omega
  have hon : on = ys.length := (Rw.of_own (s := ⟨oa, on, oc⟩) ho (fun _ => rfl) (by decide)).2
  have happ : ∀ (W3 : World) (la : Option Addr) (ln lc : Nat), Below W.drew.heap.size W.drew W3 → ln = ((vocOf s T).encP ((Z.drop y.1).take k)).length → W3.ownsRow W.drew.heap.size tInt 1 (.slice la ln lc) ln (((vocOf s T).encP ((Z.drop y.1).take k)).flatMap encInt) →
    ∃ ra rn rc W4, (Builtin.append_ #[tInts, tInts] tInts #[.slice oa on oc, .slice la ln lc]).run Tryz.prog W3 = .ok (.slice ra rn rc) W4 ∧ W4.frozen? ⟨w.heap.size + 1, 0, none⟩ = false ∧ W4.cell? ⟨w.heap.size + 1, 0, none⟩ = some (.slice oa on oc) ∧ KeepsOthers W (W4.setCell ⟨w.heap.size + 1, 0, none⟩ (.slice ra rn rc)) ∧ TkR w (W4.setCell ⟨w.heap.size + 1, 0, none⟩ (.slice ra rn rc)) v s T Z (y.1 + k) y := by
   intro W3 la ln lc hlb hln hlo
   have hle3 : Below w.heap.size w W3 := below_then (below_then hR.le hd) hlb
   have hb3 : Boxed W3 (w.heap.size + 1) tInts (.slice oa on oc) := held_on hlb hbD
   have hb30 : Boxed W3 w.heap.size tVP (.pointer (some ⟨v, 0, none⟩)) := held_on hlb (held_on hd hR.vb0)
   have hb32 : Boxed W3 (w.heap.size + 2) tVP (.pointer (some ⟨v, 0, none⟩)) := held_on hlb (held_on hd hR.vb)
   have hb33 : Boxed W3 (w.heap.size + 3) tInts y.2.v := held_on hlb (held_on hd hR.bx)
   have ho3 : W3.ownsRow w.heap.size tInt 1 (Sl.v ⟨oa, on, oc⟩) on (ys.flatMap encInt) := own_on hoD hlb
   obtain ⟨r, W4, hrn, hrun, ho4, hbel, hkeep, _⟩ := elInt.spread (s := ⟨oa, on, oc⟩) (l := ⟨la, ln, lc⟩) ho3 (LsAt.of_own elInt hlo) hle3.size (by show on ≤ _; omega) (by show ln ≤ _; omega) (by decide)
   have hB34 := hbel W3 (Below.refl _ _)
   have hg4 : W3.grownBy W4 (Sl.v ⟨oa, on, oc⟩).ownBlock := ⟨hB34.os, hB34.tape, hB34.output, hB34.size, fun j hj hne => hkeep j hj fun e => hne e.symm⟩
   have hb4 := hb3.kept hg4 (hb3.not_row (by decide) ho3)
   have hg5 := grownBy_setCell' W4 (w.heap.size + 1) r.v
   have to5 : ∀ {B : Nat} {t : TypeId} {u : Value}, B ≠ w.heap.size + 1 → t ≠ tInt → Boxed W3 B t u → Boxed (W4.setCell ⟨w.heap.size + 1, 0, none⟩ r.v) B t u := fun hB ht hb => (hb.kept hg4 (hb.not_row ht ho3)).kept hg5 (fun e => hB (Option.some.inj e))
   have hne : Z.drop y.1 ≠ [] := by
    intro e
    have := hR.len
    rw [e] at this
    exact hy this
   refine ⟨r.a, r.n, r.c, W4, hrun, hb4.frozen, hb4.cell, ?_, ?_⟩
   ·refine (((KeepsOthers.drew W).trans (KeepsOthers.of_grownBy (row := none) ⟨hlb.os, hlb.tape, hlb.output, hlb.size, fun j hj _ => hlb.block j hj⟩ (fun j o e => by cases e))).trans (KeepsOthers.of_grownBy hg4 fun j o ej hj => ?_)).trans (KeepsOthers.setCell _ _ _)
    rcases ho3.2 with ⟨e0, _⟩ | ⟨g, cap, cur, e0, _, hgb, _⟩
    ·rw [e0] at ej
     simp [Value.ownBlock] at ej
    ·rw [e0] at ej
     obtain rfl : g = j := by simpa [Value.ownBlock] using ej
     rw [hgb] at hj
     cases hj
     rfl
   ·refine ⟨to5 (by omega) (by decide) hb30, to5 (by omega) (by decide) hb32, to5 (by omega) (by decide) hb33, hR.row, hR.len, hR.cap, ⟨ys ++ (vocOf s T).encP ((Z.drop y.1).take k), r, hb4.set r.v, ho4.kept hg5 (.inr (hb4.not_row (by decide) ho4).symm), ?_⟩, (hbel w hle3).trans ((Below.refl _ W4).setCell (p := ⟨w.heap.size + 1, 0, none⟩) (by show w.heap.size ≤ w.heap.size + 1; omega) _)⟩
    rw [← he, encode_cut _ hne, hcut, hk, List.drop_drop, List.append_assoc]
  have hcs : ∀ W3, Below W.drew.heap.size W.drew W3 → W3.cell? ⟨w.heap.size + 1, 0, none⟩ = some (.slice oa on oc) := by
   intro W3 hlb
   have : Boxed W3 (w.heap.size + 1) tInts (.slice oa on oc) := held_on hlb hbD
   exact this.cell
  have hcall := hpc _ hd
  clear hon
  refine wpIn_region_any hmx ?_
  change wpAnyIn _ _ _ _ _ _ _ _ _ (World.drew _)
  refine wpAnyIn_ready (rs := [0, 1, 2]) (by kernel_rfl) (by simp) ?_
  refine AllReadyIn.cons rfl (fun K hK => ?_) ?_
  ·go_simp
   refine hK _ _ ?_
   clear hK K
   refine wpAnyIn_ready (rs := [1, 2]) (by kernel_rfl) (by simp) ?_
   refine AllReadyIn.cons rfl (fun K hK => ?_) ?_
   ·go_simp
    refine hK _ _ ?_
    clear hK K
    refine wpAnyIn_ready (rs := [2]) (by kernel_rfl) (by simp) ?_
    refine AllReadyIn.cons rfl (fun K hK => ?_) ?_
    ·go_simp
     refine hK _ _ ?_
     clear hK K
     refine wpAnyIn_ready (rs := [3]) (by kernel_rfl) (by simp) ?_
     refine AllReadyIn.cons rfl (fun K hK => ?_) ?_
     ·go_simp
      refine ⟨trivial, rfl, ?_⟩
      refine CallsIn.mono hcall ?_
      rintro e W3 ⟨la, ln, lc, rfl, hln, hlo, hlb⟩
      obtain ⟨ra, rn, rc, W4, hrn, hf4, hc4, hkk4, hR4⟩ := happ W3 la ln lc hlb hln hlo
      have hc3 := hcs W3 hlb
      clear hln hlo hlb
      dsimp only
      refine hK _ _ ?_
      clear hK K
      refine wpAnyIn_ready (rs := [4]) (by kernel_rfl) (by simp) ?_
      refine AllReadyIn.cons rfl (fun K hK => ?_) ?_
      ·rw [if_pos (by rfl)]
       refine wpIn_append_run _ _ _ rfl rfl rfl hrn ?_
       clear hrn
       go_simp
       refine hK _ _ ?_
       clear hK K
       refine wpAnyIn_ready (rs := [5]) (by kernel_rfl) (by simp) ?_
       refine AllReadyIn.cons rfl (fun K hK => ?_) ?_
       ·go_simp
        refine hK _ _ ?_
        clear hK K
        refine wpAnyIn_done (by kernel_rfl) ?_ _
        exact ⟨rfl, hkk4, hR4⟩
       exact AllReadyIn.nil
      exact AllReadyIn.nil
     exact AllReadyIn.nil
    exact AllReadyIn.nil
   refine AllReadyIn.cons rfl (fun K hK => ?_) ?_
   ·go_simp
    refine hK _ _ ?_
    clear hK K
    refine wpAnyIn_ready (rs := [1]) (by kernel_rfl) (by simp) ?_
    refine AllReadyIn.cons rfl (fun K hK => ?_) ?_
    ·go_simp
     refine hK _ _ ?_
     clear hK K
     refine wpAnyIn_ready (rs := [3]) (by kernel_rfl) (by simp) ?_
     refine AllReadyIn.cons rfl (fun K hK => ?_) ?_
     ·go_simp
      refine ⟨trivial, rfl, ?_⟩
      refine CallsIn.mono hcall ?_
      rintro e W3 ⟨la, ln, lc, rfl, hln, hlo, hlb⟩
      obtain ⟨ra, rn, rc, W4, hrn, hf4, hc4, hkk4, hR4⟩ := happ W3 la ln lc hlb hln hlo
      have hc3 := hcs W3 hlb
      clear hln hlo hlb
      dsimp only
      refine hK _ _ ?_
      clear hK K
      refine wpAnyIn_ready (rs := [4]) (by kernel_rfl) (by simp) ?_
      refine AllReadyIn.cons rfl (fun K hK => ?_) ?_
      ·rw [if_pos (by rfl)]
       refine wpIn_append_run _ _ _ rfl rfl rfl hrn ?_
       clear hrn
       go_simp
       refine hK _ _ ?_
       clear hK K
       refine wpAnyIn_ready (rs := [5]) (by kernel_rfl) (by simp) ?_
       refine AllReadyIn.cons rfl (fun K hK => ?_) ?_
       ·go_simp
        refine hK _ _ ?_
        clear hK K
        refine wpAnyIn_done (by kernel_rfl) ?_ _
        exact ⟨rfl, hkk4, hR4⟩
       exact AllReadyIn.nil
      exact AllReadyIn.nil
     exact AllReadyIn.nil
    exact AllReadyIn.nil
   exact AllReadyIn.nil
  refine AllReadyIn.cons rfl (fun K hK => ?_) ?_
  ·go_simp
   refine hK _ _ ?_
   clear hK K
   refine wpAnyIn_ready (rs := [0, 2]) (by kernel_rfl) (by simp) ?_
   refine AllReadyIn.cons rfl (fun K hK => ?_) ?_
   ·go_simp
    refine hK _ _ ?_
    clear hK K
    refine wpAnyIn_ready (rs := [2]) (by kernel_rfl) (by simp) ?_
    refine AllReadyIn.cons rfl (fun K hK => ?_) ?_
    ·go_simp
     refine hK _ _ ?_
     clear hK K
     refine wpAnyIn_ready (rs := [3]) (by kernel_rfl) (by simp) ?_
     refine AllReadyIn.cons rfl (fun K hK => ?_) ?_
     ·go_simp
      refine ⟨trivial, rfl, ?_⟩
      refine CallsIn.mono hcall ?_
      rintro e W3 ⟨la, ln, lc, rfl, hln, hlo, hlb⟩
      obtain ⟨ra, rn, rc, W4, hrn, hf4, hc4, hkk4, hR4⟩ := happ W3 la ln lc hlb hln hlo
      have hc3 := hcs W3 hlb
      clear hln hlo hlb
      dsimp only
      refine hK _ _ ?_
      clear hK K
      refine wpAnyIn_ready (rs := [4]) (by kernel_rfl) (by simp) ?_
      refine AllReadyIn.cons rfl (fun K hK => ?_) ?_
      ·rw [if_pos (by rfl)]
       refine wpIn_append_run _ _ _ rfl rfl rfl hrn ?_
       clear hrn
       go_simp
       refine hK _ _ ?_
       clear hK K
       refine wpAnyIn_ready (rs := [5]) (by kernel_rfl) (by simp) ?_
       refine AllReadyIn.cons rfl (fun K hK => ?_) ?_
       ·go_simp
        refine hK _ _ ?_
        clear hK K
        refine wpAnyIn_done (by kernel_rfl) ?_ _
        exact ⟨rfl, hkk4, hR4⟩
       exact AllReadyIn.nil
      exact AllReadyIn.nil
     exact AllReadyIn.nil
    exact AllReadyIn.nil
   refine AllReadyIn.cons rfl (fun K hK => ?_) ?_
   ·go_simp
    refine hK _ _ ?_
    clear hK K
    refine wpAnyIn_ready (rs := [0, 3]) (by kernel_rfl) (by simp) ?_
    refine AllReadyIn.cons rfl (fun K hK => ?_) ?_
    ·go_simp
     refine hK _ _ ?_
     clear hK K
     refine wpAnyIn_ready (rs := [3]) (by kernel_rfl) (by simp) ?_
     refine AllReadyIn.cons rfl (fun K hK => ?_) ?_
     ·go_simp
      refine ⟨trivial, rfl, ?_⟩
      refine CallsIn.mono hcall ?_
      rintro e W3 ⟨la, ln, lc, rfl, hln, hlo, hlb⟩
      obtain ⟨ra, rn, rc, W4, hrn, hf4, hc4, hkk4, hR4⟩ := happ W3 la ln lc hlb hln hlo
      have hc3 := hcs W3 hlb
      clear hln hlo hlb
      dsimp only
      refine hK _ _ ?_
      clear hK K
      refine wpAnyIn_ready (rs := [4]) (by kernel_rfl) (by simp) ?_
      refine AllReadyIn.cons rfl (fun K hK => ?_) ?_
      ·rw [if_pos (by rfl)]
       refine wpIn_append_run _ _ _ rfl rfl rfl hrn ?_
       clear hrn
       go_simp
       refine hK _ _ ?_
       clear hK K
       refine wpAnyIn_ready (rs := [5]) (by kernel_rfl) (by simp) ?_
       refine AllReadyIn.cons rfl (fun K hK => ?_) ?_
       ·go_simp
        refine hK _ _ ?_
        clear hK K
        refine wpAnyIn_done (by kernel_rfl) ?_ _
        exact ⟨rfl, hkk4, hR4⟩
       exact AllReadyIn.nil
      exact AllReadyIn.nil
     exact AllReadyIn.nil
    refine AllReadyIn.cons rfl (fun K hK => ?_) ?_
    ·go_simp
     refine ⟨trivial, rfl, ?_⟩
     refine CallsIn.mono hcall ?_
     rintro e W3 ⟨la, ln, lc, rfl, hln, hlo, hlb⟩
     obtain ⟨ra, rn, rc, W4, hrn, hf4, hc4, hkk4, hR4⟩ := happ W3 la ln lc hlb hln hlo
     have hc3 := hcs W3 hlb
     clear hln hlo hlb
     dsimp only
     refine hK _ _ ?_
     clear hK K
     refine wpAnyIn_ready (rs := [0]) (by kernel_rfl) (by simp) ?_
     refine AllReadyIn.cons rfl (fun K hK => ?_) ?_
     ·go_simp
      refine hK _ _ ?_
      clear hK K
      refine wpAnyIn_ready (rs := [4]) (by kernel_rfl) (by simp) ?_
      refine AllReadyIn.cons rfl (fun K hK => ?_) ?_
      ·rw [if_pos (by rfl)]
       refine wpIn_append_run _ _ _ rfl rfl rfl hrn ?_
       clear hrn
       go_simp
       refine hK _ _ ?_
       clear hK K
       refine wpAnyIn_ready (rs := [5]) (by kernel_rfl) (by simp) ?_
       refine AllReadyIn.cons rfl (fun K hK => ?_) ?_
       ·go_simp
        refine hK _ _ ?_
        clear hK K
        refine wpAnyIn_done (by kernel_rfl) ?_ _
        exact ⟨rfl, hkk4, hR4⟩
       exact AllReadyIn.nil
      exact AllReadyIn.nil
     exact AllReadyIn.nil
    exact AllReadyIn.nil
   exact AllReadyIn.nil
  refine AllReadyIn.cons rfl (fun K hK => ?_) ?_
  ·go_simp
   refine hK _ _ ?_
   clear hK K
   refine wpAnyIn_ready (rs := [0, 1]) (by kernel_rfl) (by simp) ?_
   refine AllReadyIn.cons rfl (fun K hK => ?_) ?_
   ·go_simp
    refine hK _ _ ?_
    clear hK K
    refine wpAnyIn_ready (rs := [1]) (by kernel_rfl) (by simp) ?_
    refine AllReadyIn.cons rfl (fun K hK => ?_) ?_
    ·go_simp
     refine hK _ _ ?_
     clear hK K
     refine wpAnyIn_ready (rs := [3]) (by kernel_rfl) (by simp) ?_
     refine AllReadyIn.cons rfl (fun K hK => ?_) ?_
     ·go_simp
      refine ⟨trivial, rfl, ?_⟩
      refine CallsIn.mono hcall ?_
      rintro e W3 ⟨la, ln, lc, rfl, hln, hlo, hlb⟩
      obtain ⟨ra, rn, rc, W4, hrn, hf4, hc4, hkk4, hR4⟩ := happ W3 la ln lc hlb hln hlo
      have hc3 := hcs W3 hlb
      clear hln hlo hlb
      dsimp only
      refine hK _ _ ?_
      clear hK K
      refine wpAnyIn_ready (rs := [4]) (by kernel_rfl) (by simp) ?_
      refine AllReadyIn.cons rfl (fun K hK => ?_) ?_
      ·rw [if_pos (by rfl)]
       refine wpIn_append_run _ _ _ rfl rfl rfl hrn ?_
       clear hrn
       go_simp
       refine hK _ _ ?_
       clear hK K
       refine wpAnyIn_ready (rs := [5]) (by kernel_rfl) (by simp) ?_
       refine AllReadyIn.cons rfl (fun K hK => ?_) ?_
       ·go_simp
        refine hK _ _ ?_
        clear hK K
        refine wpAnyIn_done (by kernel_rfl) ?_ _
        exact ⟨rfl, hkk4, hR4⟩
       exact AllReadyIn.nil
      exact AllReadyIn.nil
     exact AllReadyIn.nil
    exact AllReadyIn.nil
   refine AllReadyIn.cons rfl (fun K hK => ?_) ?_
   ·go_simp
    refine hK _ _ ?_
    clear hK K
    refine wpAnyIn_ready (rs := [0, 3]) (by kernel_rfl) (by simp) ?_
    refine AllReadyIn.cons rfl (fun K hK => ?_) ?_
    ·go_simp
     refine hK _ _ ?_
     clear hK K
     refine wpAnyIn_ready (rs := [3]) (by kernel_rfl) (by simp) ?_
     refine AllReadyIn.cons rfl (fun K hK => ?_) ?_
     ·go_simp
      refine ⟨trivial, rfl, ?_⟩
      refine CallsIn.mono hcall ?_
      rintro e W3 ⟨la, ln, lc, rfl, hln, hlo, hlb⟩
      obtain ⟨ra, rn, rc, W4, hrn, hf4, hc4, hkk4, hR4⟩ := happ W3 la ln lc hlb hln hlo
      have hc3 := hcs W3 hlb
      clear hln hlo hlb
      dsimp only
      refine hK _ _ ?_
      clear hK K
      refine wpAnyIn_ready (rs := [4]) (by kernel_rfl) (by simp) ?_
      refine AllReadyIn.cons rfl (fun K hK => ?_) ?_
      ·rw [if_pos (by rfl)]
       refine wpIn_append_run _ _ _ rfl rfl rfl hrn ?_
       clear hrn
       go_simp
       refine hK _ _ ?_
       clear hK K
       refine wpAnyIn_ready (rs := [5]) (by kernel_rfl) (by simp) ?_
       refine AllReadyIn.cons rfl (fun K hK => ?_) ?_
       ·go_simp
        refine hK _ _ ?_
        clear hK K
        refine wpAnyIn_done (by kernel_rfl) ?_ _
        exact ⟨rfl, hkk4, hR4⟩
       exact AllReadyIn.nil
      exact AllReadyIn.nil
     exact AllReadyIn.nil
    refine AllReadyIn.cons rfl (fun K hK => ?_) ?_
    ·go_simp
     refine ⟨trivial, rfl, ?_⟩
     refine CallsIn.mono hcall ?_
     rintro e W3 ⟨la, ln, lc, rfl, hln, hlo, hlb⟩
     obtain ⟨ra, rn, rc, W4, hrn, hf4, hc4, hkk4, hR4⟩ := happ W3 la ln lc hlb hln hlo
     have hc3 := hcs W3 hlb
     clear hln hlo hlb
     dsimp only
     refine hK _ _ ?_
     clear hK K
     refine wpAnyIn_ready (rs := [0]) (by kernel_rfl) (by simp) ?_
     refine AllReadyIn.cons rfl (fun K hK => ?_) ?_
     ·go_simp
      refine hK _ _ ?_
      clear hK K
      refine wpAnyIn_ready (rs := [4]) (by kernel_rfl) (by simp) ?_
      refine AllReadyIn.cons rfl (fun K hK => ?_) ?_
      ·rw [if_pos (by rfl)]
       refine wpIn_append_run _ _ _ rfl rfl rfl hrn ?_
       clear hrn
       go_simp
       refine hK _ _ ?_
       clear hK K
       refine wpAnyIn_ready (rs := [5]) (by kernel_rfl) (by simp) ?_
       refine AllReadyIn.cons rfl (fun K hK => ?_) ?_
       ·go_simp
        refine hK _ _ ?_
        clear hK K
        refine wpAnyIn_done (by kernel_rfl) ?_ _
        exact ⟨rfl, hkk4, hR4⟩
       exact AllReadyIn.nil
      exact AllReadyIn.nil
     exact AllReadyIn.nil
    exact AllReadyIn.nil
   exact AllReadyIn.nil
  exact AllReadyIn.nil
 case done =>
  intro D y W hD hy hR hK
  obtain ⟨ys, ⟨oa, on, oc⟩, hb, ho, he⟩ := hR.out
  have hc1 : W.cell? ⟨w.heap.size + 1, 0, none⟩ = some (.slice oa on oc) := hb.cell
  gi_wp2
  refine ⟨by simp, .inl ⟨_, _, rfl, run_takeDeferred hK, ?_⟩⟩
  refine ⟨_, results_tmp rfl _ _ _, ?_⟩
  have hnil : Z.drop y.1 = [] := List.eq_nil_of_length_eq_zero (by rw [← hR.len]; exact hy)
  rw [hnil] at he
  have he : ys = (vocOf s T).encode Z := by rw [← he]; exact (List.append_nil ys).symm
  subst he
  exact ⟨⟨oa, on, oc⟩, rfl, (Rw.of_own (s := ⟨oa, on, oc⟩) ho (fun _ => rfl) (by decide)).2, ownsRow_putObj ho _ hK rfl, hR.le.trans ((Below.refl _ W).grown (grownBy_putObj' W D _) hR.le.size (fun j e => by cases e; omega))⟩
theorem VocRaw.used {w : World} {v : Nat} {s : SpecV} {T : List Ent} {w0 : World} {x : SpecW} {tp bp mp : Nat} {d : Int} {l : Sl} {uses : Int} (hV : VocRaw w v s T w0 x tp bp mp d l uses) (m : Int) :
  VocRaw (w.setCell ⟨v, 13, none⟩ (.int .i64 m)) v s T w0 x tp bp mp d l m ∧ Touch v w (w.setCell ⟨v, 13, none⟩ (.int .i64 m)) := by
 obtain ⟨b1, o1, t1⟩ := vput hV.blk hV.below hV.lt 13 (.int .i64 m)
 exact ⟨⟨hV.parts, o1, hV.lt, b1, hV.once.imp (fun h => h) fun ⟨p, q, r⟩ => ⟨p, q, t1.own r fun e => by have := (own_lt r _ e).1; have := hV.lt; omega⟩⟩, t1⟩
theorem items_few {s : SpecV} {T : List Ent} (hok : TOk T) (id : Int) : ((vocOf s T).items id).length ≤ 64 := by
 unfold Voc.items
 split
 ·rw [List.length_singleton]; decide
 ·show (ints (bytesOf T id)).length ≤ 64
  unfold ints
  rw [List.length_map]
  unfold bytesOf
  cases h : T[id.toNat]? with
  | none => exact Nat.zero_le _
  | some y => exact hok.short y (List.mem_of_getElem? h)
def itemsR (s : SpecV) (T : List Ent) (ids : List Int) : Int × Int := if badId s T ids ≥ 0 then (badId s T ids, 4) else (ids.length, 0)
theorem vocItems_all (w : World) (v : Nat) (s : SpecV) (T : List Ent) (hV : VocIs w v s T) (A : Option Addr) (C : Nat) (ids : List Int) (hr : Rw encInt 1 w A ids) (hA : ids ≠ [] → ∀ p, A = some p → p.block ≠ v) (hl : ids.length ≤ 100000) :
  CP 299 #[.pointer (some ⟨v, 0, none⟩), .slice A ids.length C] w fun e w' => ∃ l : Sl, e = .returned (.tuple #[l.v, .int .i64 (itemsR s T ids).1, .int .i64 (itemsR s T ids).2]) ∧ (¬ badId s T ids ≥ 0 → l.n = ((vocOf s T).itemsAll ids).length ∧ w'.ownsRow w.heap.size tInt 1 l.v l.n (((vocOf s T).itemsAll ids).flatMap encInt)) ∧ VocIs w' v s T ∧ Touch v w w' := by
 obtain ⟨w0, x, tp, bp, mp, d, l0, uses, hR⟩ := hV
 refine calls_ret (vc299_calls (some ⟨v, 0, none⟩) A ids.length C w (fun u w' => ∃ l : Sl, u = .tuple #[l.v, .int .i64 (itemsR s T ids).1, .int .i64 (itemsR s T ids).2] ∧ (¬ badId s T ids ≥ 0 → l.n = ((vocOf s T).itemsAll ids).length ∧ w'.ownsRow w.heap.size tInt 1 l.v l.n (((vocOf s T).itemsAll ids).flatMap encInt)) ∧ VocIs w' v s T ∧ Touch v w w') ?_) (by rintro v w' ⟨l, rfl, h⟩; exact ⟨l, rfl, h⟩)
 have e13 : (⟨v, 0, none⟩ : Addr).add 13 = ⟨v, 13, none⟩ := by rw [add_lit, Nat.zero_add]
 refine CondP.no rfl (NilC.mk _ rfl ?_)
 rw [e13]
 refine (atomicAdd_spec ⟨v, 13, none⟩ uses w (cell_heap hR.blk) (frozen_heap hR.blk)).mono ?_
 rintro e w1 ⟨m, rfl, hw1⟩
 obtain ⟨hV1, t1⟩ := hR.used m
 rw [← hw1] at hV1 t1
 have hz : w1.heap.size = w.heap.size := by rw [hw1, size_setCell]
 have hr1 : Rw encInt 1 w1 A ids := hr.touch t1 hA
 have hok := hV1.now.ok
 refine ⟨m, rfl, ?_⟩
 intro I hI
 have key := climb2 (α := Sl × World) ids.length (fun i y => y.2.ownsRow w.heap.size tInt 1 y.1.v y.1.n (((vocOf s T).itemsAll (ids.take i)).flatMap encInt) ∧ y.1.n = ((vocOf s T).itemsAll (ids.take i)).length ∧ y.1.n ≤ 64 * i ∧ (∀ (j : Nat) (hj : j < i) (hj2 : j < ids.length), hasV2 s T ids[j] = true) ∧ Below w1.heap.size w1 y.2) (fun i y => ∀ y6 y5 y4A y4N y4C, I [.int .i64 (i : Int), y.1.v, .int .i64 y6, .int .i64 y5, .slice y4A y4N y4C] y.2) (sl0, w1) ⟨own_none _ _ _ _ encInt, rfl, Nat.le_refl _, fun j hj => absurd hj (Nat.not_lt_zero j), Below.refl _ _⟩ ?_ ?_
 ·exact key _ _ _ _ _
 ·rintro i hi ih ⟨f, q⟩ ⟨hown, hfn, hf, hhas, hB⟩ y6 y5 y4A y4N y4C
  change q.ownsRow w.heap.size tInt 1 f.v f.n _ at hown
  change f.n = _ at hfn
  change f.n ≤ _ at hf
  change Below w1.heap.size w1 q at hB
  obtain ⟨p, hp, c0⟩ := cell_rw (hr1.on hB) hi rfl
  have hVq := hV1.on hB
  refine hI _ f.a f.n f.c y6 y5 y4A y4N y4C q (CondP.yes (decide_eq_true (by omega)) (NilC.mk p hp ⟨by omega, by omega, _, c0, ?_⟩))
  refine (vocItem_spec q v _ tp bp mp hVq.vblk s T x hVq.now ids[i]).mono ?_
  rintro e q1 ⟨l, rfl, hl1, b1⟩
  have hB1 := below_then hB b1
  refine ⟨_, _, _, _, rfl, CondP.mk (fun h0 => ?_) fun h0 => ?_⟩
  ·have h0 : hasV2 s T ids[i] = false := by simpa using h0
   have hbad : badId s T ids = i := idx_some hi (by rw [h0]; rfl) fun j hj => by rw [hhas j hj (by omega)]; rfl
   refine ⟨sl0, by rw [itemsR, if_pos (by omega), hbad], fun hn => absurd hbad (by omega), ⟨_, _, _, _, _, _, _, _, hV1.on hB1⟩, t1.trans (Touch.of_below hB1)⟩
  ·have h0 : hasV2 s T ids[i] = true := by simpa using h0
   obtain ⟨hln, ho⟩ := hl1 h0
   have hlt := items_few (s := s) hok ids[i]
   obtain ⟨r, q2, hrn, e1, e2, e3, _⟩ := elInt.spread (own_on hown b1) (l := l) (ys := (vocOf s T).items ids[i]) ⟨hln, (Rw.of_own ho (fun _ => rfl) (by decide)).1, own_slOk ho⟩ (by have := hB1.size; omega) (by omega) (by omega) (by decide)
   have e : (vocOf s T).itemsAll (ids.take (i + 1)) = (vocOf s T).itemsAll (ids.take i) ++ (vocOf s T).items ids[i] := by
    unfold Voc.itemsAll
    rw [List.take_add_one, List.getElem?_eq_getElem hi, List.flatMap_append]
    simp
   refine ⟨r.a, r.n, r.c, q2, e1, Ar.nat (i + 1) rfl (by omega) (ih (r, q2) ⟨?_, ?_, ?_, ?_, ?_⟩ _ _ _ _ _)⟩
   ·rw [e]
    exact e2
   ·rw [e, List.length_append]
    show r.n = _
    omega
   ·show r.n ≤ _
    omega
   ·intro j hj hj2
    by_cases hji : j = i
    ·subst hji; exact h0
    ·exact hhas j (by omega) hj2
   ·show Below w1.heap.size w1 q2
    rw [hz]
    exact e3 w1 (by rw [← hz]; exact hB1)
 ·rintro ⟨f, q⟩ ⟨hown, hfn, hf, hhas, hB⟩ y6 y5 y4A y4N y4C
  change q.ownsRow w.heap.size tInt 1 f.v f.n _ at hown
  change f.n = _ at hfn
  change Below w1.heap.size w1 q at hB
  rw [List.take_length] at hown hfn
  have hbad : badId s T ids = -1 := idx_none fun j hj => by rw [hhas j hj hj]; rfl
  exact hI _ f.a f.n f.c y6 y5 y4A y4N y4C q (CondP.no (decide_eq_false (by omega)) ⟨f, by rw [itemsR, if_neg (by omega)], fun _ => ⟨hfn, hown⟩, ⟨_, _, _, _, _, _, _, _, hV1.on hB⟩, t1.trans (Touch.of_below hB)⟩)
def FirstR (V : Voc) (ids : List Int) : Option Nat → Prop
 | none => ∀ (i : Nat) (h : i < ids.length), V.Has ids[i] ∧ V.Canon (ids.take (i + 1))
 | some k => (∀ (i : Nat) (h : i < ids.length), i < k → V.Has ids[i] ∧ V.Canon (ids.take (i + 1))) ∧ ∃ h : k < ids.length, ¬ (V.Has ids[k] ∧ V.Canon (ids.take (k + 1)))
theorem firstR_is {V : Voc} {ids : List Int} (hh : ∀ t ∈ ids, V.Has t) {o : Option Nat} (h : FirstR V ids o) : FirstIs V ids o := by
 cases o with
 | none =>
  rcases Nat.eq_zero_or_pos ids.length with e | e
  ·rw [List.eq_nil_of_length_eq_zero e]
   rfl
  ·have := (h (ids.length - 1) (by omega)).2
   rwa [Nat.sub_add_cancel e, List.take_length] at this
 | some k =>
  obtain ⟨h1, hk, h2⟩ := h
  refine ⟨hk, ?_, fun e => h2 ⟨hh _ (List.getElem_mem hk), e⟩⟩
  cases k with
  | zero => rfl
  | succ j => exact (h1 j (by omega) (by omega)).2
theorem has_iff2 {s : SpecV} {T : List Ent} (hok : TOk T) (t : Int) : hasV2 s T t = true ↔ (vocOf s T).Has t := by
 unfold hasV2
 rw [decide_eq_true_eq, tok_iff hok]
 exact Or.comm
theorem refFirst_spec (w : World) (x : RvW) (s : SpecV) (T : List Ent) (h : RvAt w x s T) (A : Option Addr) (C : Nat) (ids : List Int) (hr : Rw encInt 1 w A ids) (hC : ids.length ≤ C) (hl : ids.length ≤ 10000) :
  CP 19 #[x.v, .slice A ids.length C] w fun e w' => ∃ o, e = .returned (.int .i64 (placeV o)) ∧ FirstR (vocOf s T) ids o ∧ Below w.heap.size w w' := by
 refine calls_ret (vc19_calls x.t.b.a x.t.b.n x.t.b.c x.t.m.a x.t.m.n x.t.m.c x.b.b.a x.b.b.n x.b.b.c x.b.m.a x.b.m.n x.b.m.c x.sp.a x.sp.n x.sp.c A ids.length C w (fun u w' => ∃ o, u = .int .i64 (placeV o) ∧ FirstR (vocOf s T) ids o ∧ Below w.heap.size w w') ?_) (by rintro v w' ⟨o, rfl, h⟩; exact ⟨o, rfl, h⟩)
 intro w1 hw1
 have hb1 : Below w.heap.size w w1 := by subst hw1; exact below_alloc _ _
 have l1 : w1.heap[w.heap.size]? = some (.cells x.cells tRv (0, 0)) := by subst hw1; exact alloc_new _ _
 have hok := h.ok
 intro I hI
 have key := climb2 (α := Int × World) ids.length (fun i y => (∀ (j : Nat) (h : j < ids.length), j < i → (vocOf s T).Has ids[j] ∧ (vocOf s T).Canon (ids.take (j + 1))) ∧ Below w1.heap.size w1 y.2) (fun i y => I [.int .i64 (i : Int), .int .i64 y.1] y.2) (0, w1) ⟨fun j _ hj => absurd hj (Nat.not_lt_zero j), Below.refl _ _⟩ ?_ ?_
 ·exact key
 ·rintro i hi ih ⟨y, q⟩ ⟨hinv, hB⟩
  change Below w1.heap.size w1 q at hB
  refine hI _ y q (CondP.yes (by simp; omega) ?_)
  intro w3 hw3
  have b3 : Below q.heap.size q w3 := by subst hw3; exact drew_on q
  have hB3 := below_then hB b3
  have hw := below_then hb1 hB3
  obtain ⟨p, hp, c0⟩ := cell_rw (hr.on hw) hi rfl
  refine ⟨_, _, _, _, _, _, _, _, _, _, _, _, _, _, _, agg5 (held_on hB3 l1), NilC.mk p hp ⟨by omega, by omega, _, c0, ?_⟩⟩
  refine (refVHas_spec w3 x s T (h.on hw) ids[i]).mono ?_
  rintro e w4 ⟨rfl, b4⟩
  have hB4 := below_then hB3 b4
  have hw4 := below_then hb1 hB4
  refine ⟨_, rfl, CondP.mk (fun h0 => ?_) fun h0 => ?_⟩
  ·refine ⟨some i, rfl, ⟨fun j hj hji => hinv j hj hji, hi, fun e => ?_⟩, hw4⟩
   rw [(has_iff2 hok _).2 e.1] at h0
   cases h0
  ·have hhas : (vocOf s T).Has ids[i] := (has_iff2 hok _).1 (by simpa using h0)
   have htk : ids.take (i + 1) = ids.take i ++ [ids[i]] := by rw [List.take_add_one, List.getElem?_eq_getElem hi]; rfl
   have hall : ∀ t ∈ ids.take (i + 1), (vocOf s T).Has t := by
    intro t ht
    obtain ⟨j, hj, rfl⟩ := List.mem_take_iff_getElem.1 ht
    by_cases e : j = i
    ·subst e; exact hhas
    ·exact (hinv j (by omega) (by omega)).1
   refine ⟨_, _, _, _, _, _, _, _, _, _, _, _, _, _, _, agg5 (held_on hB4 l1), Ar.nat (i + 1) rfl (by omega) ⟨by omega, by omega, by omega, trivial, trivial, ?_⟩⟩
   have hrow := ((hr.on hw4).cut 0 C hC).take (i + 1)
   rw [List.drop_zero] at hrow
   have hcl : CP 50 #[x.v, .slice (slBase A 0 C 1) (i + 1 - 0) (C - 0)] w4 fun e w' => e = .returned (.bool (decide ((vocOf s T).Canon (ids.take (i + 1))))) ∧ Below w4.heap.size w4 w' := by
    rw [show i + 1 - 0 = (ids.take (i + 1)).length by rw [List.length_take]; omega]
    exact refCanon_spec w4 x s T (h.on hw4) _ _ _ hrow (by rw [List.length_take]; omega) hall
   refine hcl.mono ?_
   rintro e w5 ⟨rfl, b5⟩
   have hB5 := below_then hB4 b5
   refine ⟨_, rfl, CondP.mk (fun h1 => ?_) fun h1 => ?_⟩
   ·refine ⟨some i, rfl, ⟨fun j hj hji => hinv j hj hji, hi, fun e => ?_⟩, below_then hb1 hB5⟩
    rw [decide_eq_true e.2] at h1
    cases h1
   ·have h1 : (vocOf s T).Canon (ids.take (i + 1)) := by simpa using h1
    refine Ar.nat (i + 1) rfl (by omega) (ih (y, w5) ⟨fun j hj hji => ?_, hB5⟩)
    by_cases e : j = i
    ·subst e
     exact ⟨hhas, h1⟩
    ·exact hinv j hj (by omega)
 ·rintro ⟨y, q⟩ ⟨hinv, hB⟩
  exact hI _ y q (CondP.no (by simp) ⟨none, rfl, fun j hj => hinv j hj hj, below_then hb1 hB⟩)
theorem itemOk_of {s : SpecV} {T : List Ent} {Z : List Int} (h : (vocOf s T).Items Z) : ∀ x ∈ Z, itemOk s x = true := by
 intro x hx
 obtain ⟨h1, h2⟩ := h x hx
 have h1 : -((s.specials.map (·.1)).length : Int) ≤ x := h1
 rw [List.length_map] at h1
 unfold itemOk
 rw [decide_eq_true_eq]
 omega
theorem own_le {w : World} {B : Nat} {e : TypeId} {sz : Nat} {l : Sl} {xs : List Value} (h : w.ownsRow B e sz l.v l.n xs) : l.n ≤ l.c := by
 obtain ⟨a, c, e, hc⟩ := own_form h
 have e : Value.slice l.a l.n l.c = .slice a l.n c := e
 simp only [Value.slice.injEq] at e
 omega
theorem containsI_spec (a : Option Addr) (c : Nat) (xs : List Int) (f : Value) (p : Int → Bool) (w : World) (hr : Rw encInt 1 w a xs) (hl : xs.length ≤ 1000000000000000)
  (hf : ∀ x ∈ xs, ∀ w1, Below w.heap.size w w1 → CallG ctx f [.int .i64 x] w1 (fun e w2 => e = .returned (.bool (p x)) ∧ Below w1.heap.size w1 w2)) :
  CP 137 #[.slice a xs.length c, f] w fun e w' => e = .returned (.bool (decide (idx p xs ≥ 0))) ∧ Below w.heap.size w w' := by
 refine calls_ret (vc137_calls a xs.length c f w (fun v w' => v = .bool (decide (idx p xs ≥ 0)) ∧ Below w.heap.size w w') ?_) (by rintro v w' ⟨rfl, h⟩; exact ⟨rfl, h⟩)
 refine (indexI_spec a c xs f p w hr hl hf).mono ?_
 rintro e w1 ⟨rfl, b1⟩
 exact ⟨_, rfl, rfl, b1⟩
theorem encMade_spec (w : World) (v : Nat) (c : Array Value) (tp bp mp : Nat) (h : VBlk w v c tp bp mp) (s : SpecV) (T : List Ent) (x : SpecW) (hP : VocParts w s T x tp bp mp) (A : Option Addr) (C : Nat) (Z : List Int) (hr : Rw encInt 1 w A Z) (hC : Z.length ≤ C) (hl : Z.length ≤ 100000) (hZ : ∀ y ∈ Z, itemOk s y = true) :
  CP 76 #[.pointer (some ⟨v, 0, none⟩), .slice A Z.length C] w fun e w' => ∃ l : Sl, e = .returned l.v ∧ l.n = ((vocOf s T).encode Z).length ∧ w'.ownsRow w.heap.size tInt 1 l.v l.n (((vocOf s T).encode Z).flatMap encInt) ∧ Below w.heap.size w w' := by
 refine calls_ret (vc76_calls (some ⟨v, 0, none⟩) A Z.length C w (fun u w' => ∃ l : Sl, u = l.v ∧ l.n = ((vocOf s T).encode Z).length ∧ w'.ownsRow w.heap.size tInt 1 l.v l.n (((vocOf s T).encode Z).flatMap encInt) ∧ Below w.heap.size w w') ?_) (by rintro v w' ⟨l, rfl, h⟩; exact ⟨l, rfl, h⟩)
 intro w1 hw1
 have b1 : Below w.heap.size w w1 := by subst hw1; exact below_alloc _ _
 have l1 : w1.heap[w.heap.size]? = some (.cells #[.pointer (some ⟨v, 0, none⟩)] 31 (0, 0)) := by subst hw1; exact alloc_new _ _
 have pc : ∀ {w' : World}, w'.heap[w.heap.size]? = some (.cells #[.pointer (some ⟨v, 0, none⟩)] 31 (0, 0)) → w'.cell? (nb w) = some (.pointer (some ⟨v, 0, none⟩)) := fun h => cell_heap h
 have hfew := hP.few
 refine ⟨_, pc l1, CondP.no rfl ?_⟩
 refine (containsI_spec A C Z _ (fun y => !itemOk s y) w1 (hr.on b1) (by omega) ?_).mono ?_
 ·intro y hy w2 b2
  refine callG_of (by kernel_rfl) ?_
  refine calls_ret (vc138_calls y (some (nb w)) w2 (fun u w' => u = .bool (!itemOk s y) ∧ Below w2.heap.size w2 w') ?_) (by rintro v w' ⟨rfl, h⟩; exact ⟨rfl, h⟩)
  have b12 := below_then b1 b2
  refine NilC.mk _ rfl ⟨_, pc (held_on b2 l1), ?_⟩
  refine (encRight_spec w2 v c tp bp mp (h.on b12) s (hP.on b12).marks (by omega) y).mono ?_
  rintro e w3 ⟨rfl, hw⟩
  subst hw
  exact ⟨_, rfl, rfl, Below.refl _ _⟩
 ·rintro e w2 ⟨rfl, b2⟩
  have b12 := below_then b1 b2
  have hno : idx (fun y => !itemOk s y) Z = -1 := idx_none fun j hj => by rw [hZ _ (List.getElem_mem hj)]; rfl
  refine ⟨_, rfl, CondP.no (by rw [hno]; rfl) ⟨_, pc (held_on b2 l1), ?_⟩⟩
  refine (tokens_spec w2 v c tp bp mp (h.on b12) s T x (hP.on b12) A C Z (hr.on b12) hC hl hZ).mono ?_
  rintro e w3 ⟨l, rfl, hln, ho, b3⟩
  exact ⟨_, _, _, rfl, l, rfl, hln, own_base ho b12.size, below_then b12 b3⟩
theorem makerRight_spec (q : World) (v : Nat) (s : SpecV) (T : List Ent) (hV : VocIs q v s T) (hok : TOk T) (hvok : (vocOf s T).Ok) (A : Option Addr) (C : Nat) (ids : List Int) (hr : Rw encInt 1 q A ids) (hA : ids ≠ [] → ∀ p, A = some p → p.block ≠ v) (hl : ids.length ≤ 1000) (hh : ∀ t ∈ ids, (vocOf s T).Has t) :
  CP 298 #[.agg #[.pointer (some ⟨v, 0, none⟩)], .slice A ids.length C] q fun e q' => e = .returned (.bool (decide ((vocOf s T).Canon ids))) ∧ VocIs q' v s T ∧ Touch v q q' := by
 refine calls_ret (vc298_calls (some ⟨v, 0, none⟩) A ids.length C q (fun u q' => u = .bool (decide ((vocOf s T).Canon ids)) ∧ VocIs q' v s T ∧ Touch v q q') ?_) (by rintro v w' ⟨rfl, h⟩; exact ⟨rfl, h⟩)
 intro w1 hw1
 have b1 : Below q.heap.size q w1 := by subst hw1; exact below_alloc _ _
 have l1 : ∃ ty, w1.heap[q.heap.size]? = some (.cells #[.pointer (some ⟨v, 0, none⟩)] ty (0, 0)) := ⟨_, by subst hw1; exact alloc_new _ _⟩
 obtain ⟨ty, l1⟩ := l1
 have hvl := hV.lt
 refine ⟨_, ptr_add0 _ _ l1 0, ?_⟩
 have hbad : badId s T ids = -1 := idx_none fun j hj => by
  rw [(has_iff2 hok _).2 (hh _ (List.getElem_mem hj))]
  rfl
 refine (vocItems_all w1 v s T (hV.on b1) A C ids (hr.on b1) hA (by omega)).mono ?_
 rintro e w2 ⟨l, rfl, hl2, hV2, t2⟩
 obtain ⟨hln, ho⟩ := hl2 (by rw [hbad]; decide)
 have t := (Touch.of_below (v := v) b1).trans t2
 have hlen := itemsAll_len (s := s) hok ids
 refine ⟨_, _, _, _, _, rfl, CondP.no (by rw [itemsR, if_neg (by rw [hbad]; decide)]; rfl) ?_⟩
 have hrow := Rw.of_own ho (fun _ => rfl) (by decide)
 refine ⟨_, ptr_add0 _ _ (t2.held (by omega) l1) 0, ?_⟩
 have hV2' := hV2
 obtain ⟨w0, x, tp, bp, mp, d, l0, uses, hR⟩ := hV2
 obtain ⟨la, ln, lc⟩ := l
 change ln = _ at hln
 subst hln
 refine (encMade_spec w2 v _ tp bp mp hR.vblk s T x hR.now la lc _ hrow.1 (own_le (l := ⟨la, _, lc⟩) ho) (by omega) (itemOk_of (Voc.itemsAll_ok hvok hh))).mono ?_
 rintro e w3 ⟨m, rfl, hmn, hmo, b3⟩
 obtain ⟨ma, mn, mc⟩ := m
 change mn = _ at hmn
 subst hmn
 have hel := encode_short (vocOf s T) ((vocOf s T).itemsAll ids)
 refine ⟨_, _, _, rfl, ?_⟩
 have hr3 : Rw encInt 1 w3 A ids := ((hr.touch t hA).on b3)
 refine (slicesEqual_spec w3 ma A mc C _ ids (Rw.of_own hmo (fun _ => rfl) (by decide)).1 hr3 (by omega)).mono ?_
 rintro e w4 ⟨rfl, b4⟩
 have b34 := below_then b3 b4
 exact ⟨_, rfl, rfl, hV2'.on b34, t.trans (Touch.of_below b34)⟩
theorem maker_call (v : Addr) (A : Option Addr) (N C : Nat) (w : World) : (callMethod (makerJ (some v)) "First" #[.slice A N C]).run Tryz.prog w = .ok (.enter 297 #[.agg #[.pointer (some v)], .slice A N C]) w := by kernel_rfl
def AgainR (s : SpecV) (T : List Ent) (ids : List Int) (r1 r2 : Int) : Prop := ((readyV s T ids).2 ≠ 0 ∧ r1 = (readyV s T ids).1 ∧ r2 = (readyV s T ids).2) ∨ ((readyV s T ids).2 = 0 ∧ (∀ t ∈ ids, hasV2 s T t = true) ∧ ∃ o, FirstIs (vocOf s T) ids o ∧ r1 = placeV o ∧ r2 = 0)
theorem again_spec (w : World) (v : Nat) (s : SpecV) (T : List Ent) (hV : VocIs w v s T) (hok : TOk T) (hvok : (vocOf s T).Ok) (A : Option Addr) (C : Nat) (ids : List Int) (hr : Rw encInt 1 w A ids) (hC : ids.length ≤ C) (hA : ids ≠ [] → ∀ p, A = some p → p.block ≠ v) (hl : ids.length ≤ 1000 ∨ 4000 < ids.length) :
  CP 17 #[.pointer (some ⟨v, 0, none⟩), .slice A ids.length C] w fun e w' => ∃ r1 r2 : Int, e = .returned (.tuple #[.int .i64 r1, .int .i64 r2]) ∧ AgainR s T ids r1 r2 ∧ VocIs w' v s T ∧ Touch v w w' := by
 have hby : CP 56 #[.pointer (some ⟨v, 0, none⟩), makerJ (some ⟨v, 0, none⟩), .slice A ids.length C] w fun e w' => ∃ (r1 r2 : Int), e = .returned (.tuple #[.int .i64 r1, .int .i64 r2]) ∧ AgainR s T ids r1 r2 ∧ VocIs w' v s T ∧ Touch v w w' := by
  refine calls_ret (vc56_calls (some ⟨v, 0, none⟩) (makerJ (some ⟨v, 0, none⟩)) A ids.length C w (fun u w' => ∃ (r1 r2 : Int), u = .tuple #[.int .i64 r1, .int .i64 r2] ∧ AgainR s T ids r1 r2 ∧ VocIs w' v s T ∧ Touch v w w') ?_) (by rintro v w' ⟨r1, r2, rfl, h⟩; exact ⟨r1, r2, rfl, h⟩)
  refine (ready_spec w v s T hV A C ids hr).mono ?_
  rintro e w1 ⟨rfl, hb1⟩
  refine ⟨_, _, rfl, CondP.mk (fun h0 => ?_) fun h0 => ?_⟩
  ·have h0 : (readyV s T ids).2 ≠ 0 := by simpa using h0
   exact ⟨_, _, rfl, .inl ⟨h0, rfl, rfl⟩, hV.on hb1, Touch.of_below hb1⟩
  ·have h0 : (readyV s T ids).2 = 0 := by simpa using h0
   have hsplit : ids.length ≤ 4000 ∧ ¬ badId s T ids ≥ 0 := by
    have h0' := h0
    unfold readyV at h0'
    split at h0'
    ·cases h0'
    ·split at h0'
     ·cases h0'
     ·exact ⟨by omega, by assumption⟩
   have hall := badId_none hsplit.2
   have hhas : ∀ t ∈ ids, (vocOf s T).Has t := fun t ht => (has_iff2 hok t).1 (hall t ht)
   refine ⟨false, w1, by kernel_rfl, CondP.no rfl ⟨_, _, maker_call ⟨v, 0, none⟩ A ids.length C w1, ?_⟩⟩
   refine (makerFirst_spec w1 v s T (hV.on hb1) A C ids (hr.on hb1) hA hC (by omega) ?_).mono ?_
   ·intro m A' C' q hVq h1 hm hC' hr' hA'
    have := makerRight_spec q v s T hVq hok hvok A' C' (ids.take m) hr' (fun _ => hA') (by rw [List.length_take]; omega) fun t ht => hhas t (List.mem_of_mem_take ht)
    rw [List.length_take, Nat.min_eq_left hm] at this
    exact this
   rintro e w2 ⟨o, rfl, ho, hV2, t2⟩
   have t := (Touch.of_below (v := v) hb1).trans t2
   cases o with
   | none =>
    refine ⟨0, false, rfl, (place_spec 0 false w2).mono ?_⟩
    rintro e w3 ⟨rfl, hw⟩
    subst hw
    exact ⟨_, rfl, _, _, rfl, .inr ⟨h0, hall, none, ho, rfl, rfl⟩, hV2, t⟩
   | some k =>
    refine ⟨(k : Int), true, rfl, (place_spec (k : Int) true w2).mono ?_⟩
    rintro e w3 ⟨rfl, hw⟩
    subst hw
    exact ⟨_, rfl, _, _, rfl, .inr ⟨h0, hall, some k, ho, rfl, rfl⟩, hV2, t⟩
 refine calls_ret (vc17_calls (some ⟨v, 0, none⟩) A ids.length C w (fun u w' => ∃ (r1 r2 : Int), u = .tuple #[.int .i64 r1, .int .i64 r2] ∧ AgainR s T ids r1 r2 ∧ VocIs w' v s T ∧ Touch v w w') ?_) (by rintro v w' ⟨r1, r2, rfl, h⟩; exact ⟨r1, r2, rfl, h⟩)
 refine hby.mono ?_
 rintro e w1 ⟨r1, r2, rfl, h⟩
 exact ⟨_, _, rfl, _, _, rfl, h⟩
def sAw : SpecV := { merges := [(97, 98)] }
def tAw : List Ent := begins ++ [([97, 98], (97, 98))]
theorem right_aw : sAw.right = true := by decide +kernel
theorem build_aw : buildV sAw = .ok tAw := by
 have h : (match buildV sAw with | .ok t => decide (t = tAw) | .error _ => false) = true := by decide +kernel
 cases hx : buildV sAw with
 | error q => rw [hx] at h; cases h
 | ok t => rw [hx] at h; rw [of_decide_eq_true h]
theorem aw1 : (vocOf sAw tAw).Canon [97] := by decide +kernel
theorem aw2 : ¬ (vocOf sAw tAw).Canon [97, 98] := by decide +kernel
theorem aw3 : (vocOf sAw tAw).Canon [256] ∧ (vocOf sAw tAw).Canon [256, 98] ∧ (vocOf sAw tAw).Canon [256, 98, 97] := by decide +kernel
theorem aw4 : readyV sAw tAw [97, 98] = (0, 0) ∧ readyV sAw tAw [256, 98, 97] = (0, 0) := by decide +kernel
theorem specAt_aw (w w1 : World) (hw1 : w1 = w.alloc (.cells #[Value.int .i64 97, Value.int .i64 98] tMg)) : SpecAt w1 ⟨false, ⟨some (nb w), 1, 1⟩, ⟨none, 0, 0⟩, ⟨none, 0, 0⟩, ⟨none, 0, 0⟩, ⟨none, 0, 0⟩⟩ sAw := by
 have l1 : w1.heap[w.heap.size]? = some (.cells #[Value.int .i64 97, Value.int .i64 98] tMg (0, 0)) := by subst hw1; exact alloc_new _ _
 have none_ : ∀ {α : Type} {enc : α → List Value} {sz : Nat}, Rw enc sz w1 none [] := fun j x hj => by simp at hj
 refine ⟨rfl, rfl, fun j x hj => ?_, rfl, none_, rfl, none_, rfl, none_, rfl, none_⟩
 have hj0 : j = 0 := by
  have := (List.getElem?_eq_some_iff.1 hj).1
  simp [sAw] at this
  exact this
 subst hj0
 have hx : x = (97, 98) := by simpa [sAw] using hj.symm
 subst hx
 refine ⟨nb w, rfl, (Array.getElem?_eq_some_iff.1 l1).1, fun k v hk => ?_⟩
 rw [Nat.zero_mul, add_zero, ptr_add0 _ _ l1]
 match k, hk with
 | 0, hk => cases hk; rfl
 | 1, hk => cases hk; rfl
theorem intsAt (w w1 : World) (xs : List Int) (c : Array Value) (hc : c = (xs.map fun n => Value.int .i64 n).toArray) (hw1 : w1 = w.alloc (.cells c tInt)) : Rw encInt 1 w1 (some (nb w)) xs := by
 intro j x hj
 have l1 : w1.heap[w.heap.size]? = some (.cells c tInt (0, 0)) := by subst hw1; exact alloc_new _ _
 refine ⟨nb w, rfl, (Array.getElem?_eq_some_iff.1 l1).1, fun k v hk => ?_⟩
 match k, hk with
 | 0, hk =>
  cases hk
  rw [add_zero, Nat.mul_one, ptr_add0 _ _ l1, hc]
  simp [hj]
theorem awake18_spec (w : World) : CP 14 #[] w fun e w' => e = .returned (.bool true) ∧ Below w.heap.size w w' := by
 refine calls_ret (vc14_calls w (fun u w' => u = .bool true ∧ Below w.heap.size w w') ?_) (by rintro v w' ⟨rfl, h⟩; exact ⟨rfl, h⟩)
 intro w1 hw1
 have hb1 : Below w.heap.size w w1 := by subst hw1; exact below_alloc _ _
 refine (vocabNew_spec w1 _ sAw (specAt_aw w w1 hw1)).mono ?_
 rintro e w2 ⟨u, rfl, hb2, hp⟩
 rw [if_pos right_aw, build_aw] at hp
 obtain ⟨v, rfl, hV, hv⟩ := hp
 have hb12 := below_then hb1 hb2
 have hz1 := hb1.size
 refine ⟨_, _, _, rfl, ?_⟩
 intro w3 hw3
 have hb3 : Below w2.heap.size w2 w3 := by subst hw3; exact below_alloc _ _
 have hvl : v < w2.heap.size := by
  obtain ⟨w0, x, tp, bp, mp, d, l, uses, hR⟩ := hV
  exact (Array.getElem?_eq_some_iff.1 hR.blk).1
 have hB3 := below_then hb12 hb3
 refine (check_spec w3 v sAw tAw (hV.on hb3) (some (nb w2)) 2 [97, 98] (intsAt w2 w3 [97, 98] _ rfl hw3) (by rintro _ p hp; cases hp; show w2.heap.size ≠ v; omega)).mono ?_
 rintro e w4 ⟨hV4, t4, h4⟩
 obtain ⟨hr, _, o, ho, rfl⟩ := h4.resolve_left (fun h => h.1 (by rw [aw4.1]))
 have ho1 : o = some 1 := by
  cases o with
  | none => exact absurd ho aw2
  | some k =>
   obtain ⟨hk, h1, h2⟩ := ho
   match k, hk, h2 with
   | 0, _, h2 => exact absurd aw1 h2
   | 1, _, _ => rfl
 subst ho1
 refine ⟨_, _, rfl, ?_⟩
 intro w5 hw5
 have hb5 : Below w4.heap.size w4 w5 := by subst hw5; exact below_alloc _ _
 have hz4 := t4.size
 have hz3 := hb3.size
 refine (check_spec w5 v sAw tAw (hV4.on hb5) (some (nb w4)) 3 [256, 98, 97] (intsAt w4 w5 [256, 98, 97] _ rfl hw5) (by rintro _ p hp; cases hp; show w4.heap.size ≠ v; omega)).mono ?_
 rintro e w6 ⟨hV6, t6, h6⟩
 obtain ⟨hr6, _, o6, ho6, rfl⟩ := h6.resolve_left (fun h => h.1 (by rw [aw4.2]))
 have ho2 : o6 = none := by
  cases o6 with
  | none => rfl
  | some k =>
   obtain ⟨hk, h1, h2⟩ := ho6
   match k, hk, h2 with
   | 0, _, h2 => exact absurd aw3.1 h2
   | 1, _, h2 => exact absurd aw3.2.1 h2
   | 2, _, h2 => exact absurd aw3.2.2 h2
 subst ho2
 refine ⟨_, _, rfl, CondP.yes rfl (CondP.yes rfl (CondP.yes rfl ⟨rfl, ?_⟩))⟩
 have hB4 : Below w.heap.size w w4 := hB3.trans (t4.below (by omega) hB3.size)
 have hB5 := hB4.trans (hb5.mono hB4.size)
 exact hB5.trans (t6.below (by omega) hB5.size)
theorem first_once {V : Voc} (hV : V.Ok) {ids : List Int} (hh : ∀ t ∈ ids, V.Has t) {o o' : Option Nat} (h : FirstIs V ids o) (h' : FirstIs V ids o') : o = o' := by
 have down : ∀ {n m : Nat}, n ≤ m → V.Canon (ids.take m) → V.Canon (ids.take n) := by
  intro n m hnm hc
  have : ids.take m = ids.take n ++ (ids.take m).drop n := by
   conv => lhs; rw [← List.take_append_drop n (ids.take m)]
   rw [List.take_take, Nat.min_eq_left hnm]
  rw [this] at hc
  exact (Voc.canon_append hV (fun t ht => hh t (by rw [← this] at ht; exact List.mem_of_mem_take ht)) hc).1
 have whole : V.Canon ids → ∀ n, V.Canon (ids.take n) := by
  intro hc n
  by_cases hn : n ≤ ids.length
  ·exact down hn (by rw [List.take_length]; exact hc)
  ·rw [List.take_of_length_le (by omega)]
   exact hc
 cases o with
 | none =>
  cases o' with
  | none => rfl
  | some k => exact absurd (whole h _) h'.2.2
 | some k =>
  cases o' with
  | none => exact absurd (whole h' _) h.2.2
  | some k' =>
   obtain ⟨_, h1, h2⟩ := h
   obtain ⟨_, h3, h4⟩ := h'
   congr 1
   rcases Nat.lt_trichotomy k k' with e | e | e
   ·exact absurd (down (by omega) h3) h2
   ·exact e
   ·exact absurd (down (by omega) h1) h4
theorem again_unique {s : SpecV} {T : List Ent} (hok : TOk T) (hV : (vocOf s T).Ok) {ids : List Int} {q1 q2 r1 r2 : Int} (h : AgainR s T ids q1 q2) (h' : AgainR s T ids r1 r2) : q1 = r1 ∧ q2 = r2 := by
 rcases h with ⟨h1, rfl, rfl⟩ | ⟨h1, h2, o, ho, rfl, rfl⟩
 ·rcases h' with ⟨_, rfl, rfl⟩ | ⟨g, _⟩
  ·exact ⟨rfl, rfl⟩
  ·exact absurd g h1
 ·rcases h' with ⟨g, _⟩ | ⟨_, g2, o', go, rfl, rfl⟩
  ·exact absurd h1 g
  ·rw [first_once hV (fun t ht => (has_iff2 hok t).1 (h2 t ht)) ho go]
   exact ⟨rfl, rfl⟩
set_option maxHeartbeats 1000000 in
theorem CanonChecks_spec (w : World) (y : CsW) (ls : List Int) (cs : List (Int × Int × Int)) (js : List (Int × Int)) (xs : List (Int × Bs)) (h : CsAt w y ls cs js xs) (A : Option Addr) (C : Nat) (ids : List Int) (hr : Rw encInt 1 w A ids) (hC : ids.length ≤ C) :
  CP 3 #[y.v, .slice A ids.length C] w fun e w' => e = .returned (.bool true) ∧ Below w.heap.size w w' := by
 refine calls_ret (vc3_calls y.l.a y.l.n y.l.c y.c.a y.c.n y.c.c y.j.a y.j.n y.j.c y.x.a y.x.n y.x.c A ids.length C w (fun u w' => u = .bool true ∧ Below w.heap.size w w') ?_) (by rintro v w' ⟨rfl, h⟩; exact ⟨rfl, h⟩)
 intro w1 hw1
 have hb1 : Below w.heap.size w w1 := by subst hw1; exact below_alloc _ _
 have l1 : w1.heap[w.heap.size]? = some (.cells y.cells tCs (0, 0)) := by subst hw1; exact alloc_new _ _
 refine ⟨_, _, _, _, _, _, _, _, _, _, _, _, agg4 l1, ?_⟩
 refine (lawGreat_spec w1 y ls cs js xs (h.on hb1)).mono ?_
 rintro e w2 ⟨c0, rfl, b2⟩
 have hb2 := below_then hb1 b2
 have aw : ∀ {q : World}, Below w.heap.size w q → CP 14 #[] q fun e w' => ∃ b : Bool, e = .returned (.bool b) ∧ (Value.bool b = Value.bool true ∧ Below w.heap.size w w') := by
  intro q hq
  refine (awake18_spec q).mono ?_
  rintro e w3 ⟨rfl, b3⟩
  exact ⟨true, rfl, rfl, below_then hq b3⟩
 refine ⟨c0, rfl, CondP.mk (fun _ => aw hb2) fun _ => CondP.mk (fun h100 => CondP.mk (fun _ => aw hb2) fun h4 => ?_) fun h100 => ?_⟩
 all_goals
  have hlen : ids.length ≤ 100 ∨ 4000 < ids.length := by
   have h100 := h100
   first
   | (have h100 := of_decide_eq_false h100; omega)
   | (have h4 := of_decide_eq_false h4; omega)
  refine (awake18_spec w2).mono ?_
  rintro e w5 ⟨rfl, b5⟩
  have hb5 := below_then hb2 b5
  refine ⟨_, rfl, CondP.no rfl ⟨_, _, _, _, _, _, _, _, _, _, _, _, agg4 (held_on b5 (held_on b2 l1)), ?_⟩⟩
  refine (lawOf_spec w5 y ls cs js xs (h.on hb5)).mono ?_
  rintro e w7 ⟨u, rfl, v, r, s, T, rfl, hB7, hv, b7⟩
  have hb7 := below_then hb5 b7
  refine ⟨_, _, _, _, _, _, _, _, _, _, _, _, _, _, _, _, rfl, ?_⟩
  intro w8 hw8
  refine storeP_new (slRv rv0) (slRv r) rfl (ones_rv r) w8 hw8 ?_
  intro w0 h0 hz0 b0
  have hB := hB7.on b0
  have hb0 := below_then hb7 b0
  have hvl7 := hB7.voc.lt
  have hz5 := hb5.size
  have hok := hB.now.ok
  have hvok := hB.now.vok
  have hwv : w.heap.size ≤ v := Nat.le_trans hz5 hv
  have hfar := (hr.on hb5).far hv
  refine CondP.no rfl ?_
  refine (check_spec w0 v s T hB.voc A C ids (hr.on hb0) hfar).mono ?_
  rintro e w12 ⟨hV12, t12, hres⟩
  obtain ⟨r1, r2, rfl, hJ⟩ : ∃ r1 r2 : Int, e = .returned (.tuple #[.int .i64 r1, .int .i64 r2]) ∧ AgainR s T ids r1 r2 := by
   rcases hres with ⟨h1, h2⟩ | ⟨h1, h2, o, ho, h3⟩
   ·exact ⟨_, _, h2, .inl ⟨h1, rfl, rfl⟩⟩
   ·exact ⟨_, _, h3, .inr ⟨h1, h2, o, ho, rfl, rfl⟩⟩
  have hb12 : Below w.heap.size w w12 := hb0.trans (t12.below hwv hb0.size)
  refine ⟨_, _, rfl, (again_spec w12 v s T hV12 hok hvok A C ids (hr.on hb12) hC hfar (by omega)).mono ?_⟩
  rintro e w13 ⟨q1, q2, rfl, hJ2, hV13, t13⟩
  obtain ⟨rfl, rfl⟩ := again_unique hok hvok hJ2 hJ
  have hb13 : Below w.heap.size w w13 := hb12.trans (t13.below hwv hb12.size)
  have t := t12.trans t13
  have hB13 := hB.touch t hV13
  have h13 := t.held (by omega) h0
  refine ⟨_, _, rfl, CondP.mk (fun h4k => ?_) fun h4k => ?_⟩
  ·have h4k := of_decide_eq_true h4k
   have hrd : readyV s T ids = (0, 3) := by
    unfold readyV
    rw [if_pos (by omega)]
   rcases hJ with ⟨_, rfl, rfl⟩ | ⟨h, _⟩
   ·rw [hrd]
    exact CondP.yes rfl (CondP.yes rfl (CondP.yes rfl ⟨rfl, hb13⟩))
   ·rw [hrd] at h
    cases h
  ·have h4k := of_decide_eq_false h4k
   refine ⟨_, _, _, _, _, _, _, _, _, _, _, _, _, _, _, agg5 h13, ?_⟩
   refine (refBad_spec w13 r s T hB13.now A C ids (hr.on hb13) (by omega)).mono ?_
   rintro e w14 ⟨rfl, b14⟩
   have hb14 := below_then hb13 b14
   refine ⟨_, rfl, CondP.mk (fun hbad => ?_) fun hbad => ?_⟩
   ·have hbad := of_decide_eq_true hbad
    have hrd : readyV s T ids = (badId s T ids, 4) := by
     unfold readyV
     rw [if_neg (by omega), if_pos hbad]
    rcases hJ with ⟨_, rfl, rfl⟩ | ⟨h, _⟩
    ·rw [hrd]
     exact CondP.yes (by simp) (CondP.yes rfl (CondP.yes (by simp) ⟨rfl, hb14⟩))
    ·rw [hrd] at h
     cases h
   ·have hbad := of_decide_eq_false hbad
    have hrd : readyV s T ids = (0, 0) := by
     unfold readyV
     rw [if_neg (by omega), if_neg hbad]
    rcases hJ with ⟨h, _⟩ | ⟨_, hall, o, ho, rfl, rfl⟩
    ·rw [hrd] at h
     exact absurd rfl h
    ·refine ⟨_, _, _, _, _, _, _, _, _, _, _, _, _, _, _, agg5 (held_on b14 h13), ?_⟩
     refine (refFirst_spec w14 r s T (hB13.on b14).now A C ids (hr.on hb14) hC (by omega)).mono ?_
     rintro e w15 ⟨o', rfl, ho', b15⟩
     have hh : ∀ t ∈ ids, (vocOf s T).Has t := fun t ht => (has_iff2 hok t).1 (hall t ht)
     rw [first_once hvok hh (firstR_is hh ho') ho]
     exact ⟨_, rfl, CondP.yes (by simp) (CondP.yes rfl (CondP.yes (by simp) ⟨rfl, below_then hb14 b15⟩))⟩
theorem law_frame0 {H : Type} {enc : TypeId × Value → H} {C : Checked} {os : Os} {f : FuncId} {fn : Func} {s : ChangeSpec}
  (own : ownKnob C.prog.godebug = none) (started : os.Started) (noInit : C.prog.inits.idxOf? f = none) (hfn : C.prog.funcs[f]? = some fn)
  (witness : ∃ (w : World) (tape : Tape) (i : Input), w.os = os ∧ (w.forCall tape i).Shaped C.prog ∧ i.vars = [] ∧ Input.okWide C.prog (w.forCall tape i) .any w.heap.size f i ∧
   ((s.pre enc C.prog fn [] false (w.forCall tape i).memory i.args ∧ True) ∧ sizedMet enc C.prog fn (OpenSpec.ofChange s) false (w.forCall tape i).memory i.args) ∧ ({} : Assume).holds C.prog (lone (Frame.enter C.prog f i.args .normal) [] (w.forCall tape i)))
  (contract : ∀ (W : World) (base : Nat) (args : Array Value) (ds gs : List (DataW H)) (before : List MemPlace),
   (∀ (j : Nat) t v, fn.params[j]? = some t → args[j]? = some v → Value.okWide C.prog W .any base t v) →
   DataW.Whole enc C.prog fn.params.toList s.vars false W args.toList ds gs before →
   (DataW.weightsEach C.prog (fn.params.toList ++ s.plain.varTypes C.prog) (ds ++ gs)).all (· ≤ reachBytes) = true →
   W.ShapedOpen C.prog →
   Calls C.prog f args W fun e W' => ∃ v, e = .returned v ∧ s.post enc C.prog fn false true false false W args v W') :
  ReturnsInHanded {} C os f .any (fun w args => s.pre enc C.prog fn [] false w args ∧ sizedMet enc C.prog fn (OpenSpec.ofChange s) false w args) (s.post enc C.prog fn false true false false) := by
 have witness' : ∃ (w : World) (tape : Tape) (i : Input), w.os = os ∧ (w.forCall tape i).Shaped C.prog ∧ i.vars = [] ∧ Input.okWide C.prog (w.forCall tape i) .any w.heap.size f i ∧
   (s.pre enc C.prog fn [] false (w.forCall tape i).memory i.args ∧ sizedMet enc C.prog fn (OpenSpec.ofChange s) false (w.forCall tape i).memory i.args) ∧ ({} : Assume).holds C.prog (lone (Frame.enter C.prog f i.args .normal) [] (w.forCall tape i)) := by
  obtain ⟨w, tape, i, h1, h2, h3, h4, ⟨⟨h5, _⟩, h6⟩, h7⟩ := witness
  exact ⟨w, tape, i, h1, h2, h3, h4, ⟨h5, h6⟩, h7⟩
 refine returnsInHanded_of_calls own started noInit witness' ?_
 intro w tape i _ hshape _ hok hpre _
 obtain ⟨_, _, _, fn', hfn', _, _, _, _, hval⟩ := hok
 obtain rfl : fn' = fn := Option.some.inj (hfn'.symm.trans hfn)
 obtain ⟨⟨ds, gs, before, hw, _⟩, hz⟩ := hpre
 refine (contract (w.forCall tape i) w.heap.size i.args ds gs before hval (DataW.Whole.of_heap (w' := w.forCall tape i) (by rfl) hw) (hz.weights hw) hshape).mono ?_
 rintro e W' ⟨v, rfl, hp⟩
 exact ChangeSpec.post_blind hp
end Go.Proofs.YtnmdljikfhafiaaGreat.Eng
