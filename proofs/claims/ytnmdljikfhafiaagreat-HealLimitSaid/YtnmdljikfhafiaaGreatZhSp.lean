/- Two tokens side by side: the walk along their spines, walked by the engine. -/
import Derived.Test.YtnmdljikfhafiaaGreatZhPf
import Derived.Test.YtnmdljikfhafiaaGreatZhBd
import Derived.Test.YtnmdljikfhafiaaGreatZhTab
import Derived.RangeFuncFrom
import Derived.RangeFuncCalls
import Derived.RangeFuncLeaves
import Derived.RangeFuncBox
import Derived.Shelf.Abstract
import Derived.Shelf.RegionOpen
import Derived.OwnWalkIn
import Derived.TacticsInMore
import Derived.LoopNIn
import Derived.LoopIn
set_option linter.unusedVariables false
set_option linter.unusedSimpArgs false
set_option maxRecDepth 100000
namespace Go.Proofs.YtnmdljikfhafiaaGreat.Eng
open Go Go.RowKit
abbrev tWalk : TypeId := 335
def WkIs (w : World) (p tp : Nat) (a b limit steps : Int) : Prop := w.heap[p]? = some (.cells #[.int .i64 a, .int .i64 b, .pointer (some ⟨tp, 0, none⟩), .int .i64 limit, .int .i64 steps] tWalk (0, 0))
theorem WkIs.on {w w' : World} {p tp : Nat} {a b limit steps : Int} (h : WkIs w p tp a b limit steps) (hb : Below w.heap.size w w') : WkIs w' p tp a b limit steps := held_on hb h
def splits (T : List Ent) (a : Int) : Bool := decide (inTab T a ∧ parentsOf T a ≠ (-1, -1))
theorem left_spec (w : World) (B p tp : Nat) (T : List Ent) (a b limit steps : Int) (hT : TabIs w tp T) (h : WkIs w p tp a b limit steps) (hB : B ≤ p) (hs : 0 ≤ steps ∧ steps ≤ 1000000) (hab : -1000000 ≤ b ∧ b ≤ 1000000) :
  CP 263 #[.pointer (some ⟨p, 0, none⟩)] w fun e w' => e = .returned (.bool (splits T a)) ∧ (if splits T a = true then WkIs w' p tp (parentsOf T a).2 b a (steps + 1) else WkIs w' p tp a b limit steps) ∧ Touch p w w' := by
 refine calls_ret (vc263_calls (some ⟨p, 0, none⟩) w (fun v w' => v = .bool (splits T a) ∧ (if splits T a = true then WkIs w' p tp (parentsOf T a).2 b a (steps + 1) else WkIs w' p tp a b limit steps) ∧ Touch p w w') ?_) (by rintro v w' ⟨rfl, h⟩; exact ⟨rfl, h⟩)
 intro w1 hw1
 have hb1 : Below w.heap.size w w1 := by subst hw1; exact drew_on w
 have h1 := h.on hb1
 have hpl : p < w.heap.size := (Array.getElem?_eq_some_iff.1 h).1
 have rest : ∀ (x y : Int) (r1 : Bool) (loc : Nat) (wq : World), r1 = splits T a → (r1 = true → y = (parentsOf T a).2) → loc ≠ p → WkIs wq p tp a b limit steps → wq.heap[loc]? = some (.cells #[.int .i64 x, .int .i64 y] tMg (0, 0)) → Touch p w wq →
   ∀ J : List Value → World → Prop, (∀ w5 : World, (Value.bool r1 = .bool (splits T a) ∧ (if splits T a = true then WkIs w5 p tp (parentsOf T a).2 b a (steps + 1) else WkIs w5 p tp a b limit steps) ∧ Touch p w w5) → J [] w5) →
   CondP r1
    (∀ w6 : World, w6 = wq.drew →
     NilC (some ⟨p, 0, none⟩) (fun pa_3 =>
     ∃ n_4 : Int, w6.cell? (((pa_3.add 0).add 0).add 0) = some (Value.int .i64 n_4) ∧
     ∃ n_6 : Int, w6.cell? ((⟨loc, 0, none⟩ : Addr).add 1) = some (Value.int .i64 n_6) ∧
     NilC (some ⟨p, 0, none⟩) (fun pa_6 =>
     (Value.int .i64 n_4).oneCell' = true ∧ (∃ u, w6.cell? (pa_6.add 3) = some u) ∧ w6.frozen? (pa_6.add 3) = false ∧
     ∀ w7 : World, w7 = (w6.setCell (pa_6.add 3) (Value.int .i64 n_4)) →
     (w7.cell? ((⟨loc, 0, none⟩ : Addr).add 1) = some (Value.int .i64 n_6) ∧ True) ∧
     NilC (some ⟨p, 0, none⟩) (fun pa_7 =>
     (Value.int .i64 n_6).oneCell' = true ∧ (∃ u, w7.cell? (((pa_7.add 0).add 0).add 0) = some u) ∧ w7.frozen? (((pa_7.add 0).add 0).add 0) = false ∧
     ∀ w8 : World, w8 = (w7.setCell (((pa_7.add 0).add 0).add 0) (Value.int .i64 n_6)) →
     NilC (some ⟨p, 0, none⟩) (fun pa_8 =>
     ∃ n_9 : Int, w8.cell? (pa_8.add 4) = some (Value.int .i64 n_9) ∧
     Ar .i64 ((n_9 : Int) + 1) (fun n_10 =>
     NilC (some ⟨p, 0, none⟩) (fun pa_11 =>
     (Value.int .i64 n_10).oneCell' = true ∧ (∃ u, w8.cell? (pa_11.add 4) = some u) ∧ w8.frozen? (pa_11.add 4) = false ∧
     ∀ w9 : World, w9 = (w8.setCell (pa_11.add 4) (Value.int .i64 n_10)) →
     J [] w9)))))))
    (J [] wq) := by
  intro x y r1 loc wq hr hy hloc hwq hlq htq J hJ
  refine CondP.mk (fun h0 => ?_) fun h0 => ?_
  ·intro w6 hw6
   have h6 : WkIs w6 p tp a b limit steps := by subst hw6; exact hwq
   have l6 : w6.heap[loc]? = some (.cells #[.int .i64 x, .int .i64 y] tMg (0, 0)) := by subst hw6; exact hlq
   have t6 : Touch p w w6 := by subst hw6; exact htq.trans (Touch.of_below (drew_on _))
   have c6 : ∀ j, w6.cell? ⟨p, j, none⟩ = _ := fun j => cell_heap h6
   simp only [add_lit, Nat.zero_add, Nat.add_zero]
   refine NilC.mk _ rfl ⟨a, c6 0, ⟨y, cell_heap l6, NilC.mk _ rfl ⟨rfl, ⟨_, c6 3⟩, frozen_heap h6, ?_⟩⟩⟩
   intro w7 hw7
   have h7 : WkIs w7 p tp a b a steps := by subst hw7; exact setCell_heap h6 _
   have s7 : ∀ k, k ≠ p → w7.heap[k]? = w6.heap[k]? := fun k hk => by subst hw7; exact heap_setCell_ne hk
   have t7 : Touch p w w7 := t6.trans (by subst hw7; exact ⟨rfl, rfl, rfl, by rw [size_setCell]; exact Nat.le_refl _, fun k _ hk => heap_setCell_ne hk⟩)
   have c7 : ∀ j, w7.cell? ⟨p, j, none⟩ = _ := fun j => cell_heap h7
   refine ⟨⟨cell_heap (by rw [s7 loc hloc]; exact l6), trivial⟩, NilC.mk _ rfl ⟨rfl, ⟨_, c7 0⟩, frozen_heap h7, ?_⟩⟩
   intro w8 hw8
   have h8 : WkIs w8 p tp y b a steps := by subst hw8; exact setCell_heap h7 _
   have t8 : Touch p w w8 := t7.trans (by subst hw8; exact ⟨rfl, rfl, rfl, by rw [size_setCell]; exact Nat.le_refl _, fun k _ hk => heap_setCell_ne hk⟩)
   have c8 : ∀ j, w8.cell? ⟨p, j, none⟩ = _ := fun j => cell_heap h8
   refine NilC.mk _ rfl ⟨steps, c8 4, Ar.ok64 (by omega) (by omega) (NilC.mk _ rfl ⟨rfl, ⟨_, c8 4⟩, frozen_heap h8, ?_⟩)⟩
   intro w9 hw9
   have h9 : WkIs w9 p tp y b a (steps + 1) := by subst hw9; exact setCell_heap h8 _
   have t9 : Touch p w w9 := t8.trans (by subst hw9; exact ⟨rfl, rfl, rfl, by rw [size_setCell]; exact Nat.le_refl _, fun k _ hk => heap_setCell_ne hk⟩)
   refine hJ w9 ⟨by rw [hr], ?_, t9⟩
   rw [if_pos (by rw [← hr]; exact h0), ← hy h0]
   exact h9
  ·refine hJ wq ⟨by rw [hr], ?_, htq⟩
   rw [if_neg (by rw [← hr, h0]; simp)]
   exact hwq
 have c1 : ∀ j, w1.cell? ⟨p, j, none⟩ = _ := fun j => cell_heap h1
 have hpar : ∃ (x y : Int), parV T a = .tuple #[.agg #[.int .i64 x, .int .i64 y], .bool (splits T a)] ∧ (splits T a = true → y = (parentsOf T a).2) := by
  unfold parV splits
  by_cases hc : inTab T a ∧ parentsOf T a ≠ (-1, -1)
  ·rw [if_pos hc, decide_eq_true hc]
   exact ⟨_, _, rfl, fun _ => rfl⟩
  ·rw [if_neg hc, decide_eq_false hc]
   exact ⟨0, 0, rfl, fun h => by cases h⟩
 obtain ⟨x, y, hxy, hxy2⟩ := hpar
 refine NilC.mk _ rfl ⟨some ⟨tp, 0, none⟩, by simp only [add_lit, Nat.zero_add]; exact c1 2, NilC.mk _ rfl ⟨a, by simp only [add_lit, Nat.zero_add, Nat.add_zero]; exact c1 0, ?_, ?_⟩⟩
 ·refine (tokParents_spec w1 tp T (hT.on hb1) a).mono ?_
  rintro e w2 ⟨rfl, hb2⟩
  rw [hxy]
  refine ⟨x, y, _, rfl, ?_⟩
  intro w3 hw3
  refine storeP_new [.int .i64 0, .int .i64 0] [.int .i64 x, .int .i64 y] rfl (ones_pair _ _) w3 hw3 ?_
  intro w4 h4 hz4 hB4
  have hb14 := below_then hb1 (below_then hb2 hB4)
  have hz2 := (below_then hb1 hb2).size
  intro J hJ
  exact rest x y _ w2.heap.size w4 rfl hxy2 (by omega) (h1.on (below_then hb2 hB4)) h4 (Touch.of_below hb14) J hJ
 ·intro w10 hw10
  have hb10 : Below w1.heap.size w1 w10 := by subst hw10; exact below_alloc _ _
  have h10 := h1.on hb10
  have l10 : w10.heap[w1.heap.size]? = some (.cells #[Value.int .i64 0, Value.int .i64 0] tMg (0, 0)) := by subst hw10; exact alloc_new _ _
  have c10 : ∀ j, w10.cell? ⟨p, j, none⟩ = _ := fun j => cell_heap h10
  refine ⟨⟨by simp only [add_lit, Nat.zero_add, Nat.add_zero]; exact c10 0, trivial⟩, ⟨by simp only [add_lit, Nat.zero_add]; exact c10 2, trivial⟩, ?_⟩
  refine (tokParents_spec w10 tp T ((hT.on hb1).on hb10) a).mono ?_
  rintro e w11 ⟨rfl, hb11⟩
  rw [hxy]
  refine ⟨x, y, _, rfl, ?_⟩
  have hz1 := hb1.size
  refine storeP_cells (held_on hb11 l10) [.int .i64 x, .int .i64 y] rfl (ones_pair _ _) ?_
  intro w12 h12 hs12 hz12 hB12
  have h12' : WkIs w12 p tp a b limit steps := by
   unfold WkIs
   rw [hs12 p (by omega)]
   exact h10.on hb11
  have hb112 : Below w1.heap.size w1 w12 := hB12 _ _ (Nat.le_refl _) (below_then hb10 hb11)
  intro J hJ
  exact rest x y _ w1.heap.size w12 rfl hxy2 (by omega) h12' h12 (Touch.of_below (below_then hb1 hb112)) J hJ
theorem right_spec (w : World) (B p tp : Nat) (T : List Ent) (a b limit steps : Int) (hT : TabIs w tp T) (h : WkIs w p tp a b limit steps) (hB : B ≤ p) (hs : 0 ≤ steps ∧ steps ≤ 1000000) (hab : -1000000 ≤ b ∧ b ≤ 1000000) :
  CP 264 #[.pointer (some ⟨p, 0, none⟩)] w fun e w' => e = .returned (.bool (splits T b)) ∧ (if splits T b = true then WkIs w' p tp a (parentsOf T b).1 (b + 1) (steps + 1) else WkIs w' p tp a b limit steps) ∧ Touch p w w' := by
 refine calls_ret (vc264_calls (some ⟨p, 0, none⟩) w (fun v w' => v = .bool (splits T b) ∧ (if splits T b = true then WkIs w' p tp a (parentsOf T b).1 (b + 1) (steps + 1) else WkIs w' p tp a b limit steps) ∧ Touch p w w') ?_) (by rintro v w' ⟨rfl, h⟩; exact ⟨rfl, h⟩)
 intro w1 hw1
 have hb1 : Below w.heap.size w w1 := by subst hw1; exact drew_on w
 have h1 := h.on hb1
 have hpl : p < w.heap.size := (Array.getElem?_eq_some_iff.1 h).1
 have rest : ∀ (x y : Int) (r1 : Bool) (loc : Nat) (wq : World), r1 = splits T b → (r1 = true → x = (parentsOf T b).1) → loc ≠ p → WkIs wq p tp a b limit steps → wq.heap[loc]? = some (.cells #[.int .i64 x, .int .i64 y] tMg (0, 0)) → Touch p w wq →
   ∀ J : List Value → World → Prop, (∀ w5 : World, (Value.bool r1 = .bool (splits T b) ∧ (if splits T b = true then WkIs w5 p tp a (parentsOf T b).1 (b + 1) (steps + 1) else WkIs w5 p tp a b limit steps) ∧ Touch p w w5) → J [] w5) →
   CondP r1
    (∀ w6 : World, w6 = wq.drew →
     NilC (some ⟨p, 0, none⟩) (fun pa_3 =>
     ∃ n_4 : Int, w6.cell? (((pa_3.add 0).add 0).add 1) = some (Value.int .i64 n_4) ∧
     Ar .i64 ((n_4 : Int) + 1) (fun n_5 =>
     ∃ n_6 : Int, w6.cell? ((⟨loc, 0, none⟩ : Addr).add 0) = some (Value.int .i64 n_6) ∧
     NilC (some ⟨p, 0, none⟩) (fun pa_6 =>
     (Value.int .i64 n_5).oneCell' = true ∧ (∃ u, w6.cell? (pa_6.add 3) = some u) ∧ w6.frozen? (pa_6.add 3) = false ∧
     ∀ w7 : World, w7 = (w6.setCell (pa_6.add 3) (Value.int .i64 n_5)) →
     (w7.cell? ((⟨loc, 0, none⟩ : Addr).add 0) = some (Value.int .i64 n_6) ∧ True) ∧
     NilC (some ⟨p, 0, none⟩) (fun pa_7 =>
     (Value.int .i64 n_6).oneCell' = true ∧ (∃ u, w7.cell? (((pa_7.add 0).add 0).add 1) = some u) ∧ w7.frozen? (((pa_7.add 0).add 0).add 1) = false ∧
     ∀ w8 : World, w8 = (w7.setCell (((pa_7.add 0).add 0).add 1) (Value.int .i64 n_6)) →
     NilC (some ⟨p, 0, none⟩) (fun pa_8 =>
     ∃ n_9 : Int, w8.cell? (pa_8.add 4) = some (Value.int .i64 n_9) ∧
     Ar .i64 ((n_9 : Int) + 1) (fun n_10 =>
     NilC (some ⟨p, 0, none⟩) (fun pa_11 =>
     (Value.int .i64 n_10).oneCell' = true ∧ (∃ u, w8.cell? (pa_11.add 4) = some u) ∧ w8.frozen? (pa_11.add 4) = false ∧
     ∀ w9 : World, w9 = (w8.setCell (pa_11.add 4) (Value.int .i64 n_10)) →
     J [] w9))))))))
    (J [] wq) := by
  intro x y r1 loc wq hr hy hloc hwq hlq htq J hJ
  refine CondP.mk (fun h0 => ?_) fun h0 => ?_
  ·intro w6 hw6
   have h6 : WkIs w6 p tp a b limit steps := by subst hw6; exact hwq
   have l6 : w6.heap[loc]? = some (.cells #[.int .i64 x, .int .i64 y] tMg (0, 0)) := by subst hw6; exact hlq
   have t6 : Touch p w w6 := by subst hw6; exact htq.trans (Touch.of_below (drew_on _))
   have c6 : ∀ j, w6.cell? ⟨p, j, none⟩ = _ := fun j => cell_heap h6
   simp only [add_lit, Nat.zero_add, Nat.add_zero]
   refine NilC.mk _ rfl ⟨b, c6 1, Ar.ok64 (by omega) (by omega) ⟨x, cell_heap l6, NilC.mk _ rfl ⟨rfl, ⟨_, c6 3⟩, frozen_heap h6, ?_⟩⟩⟩
   intro w7 hw7
   have h7 : WkIs w7 p tp a b (b + 1) steps := by subst hw7; exact setCell_heap h6 _
   have s7 : ∀ k, k ≠ p → w7.heap[k]? = w6.heap[k]? := fun k hk => by subst hw7; exact heap_setCell_ne hk
   have t7 : Touch p w w7 := t6.trans (by subst hw7; exact ⟨rfl, rfl, rfl, by rw [size_setCell]; exact Nat.le_refl _, fun k _ hk => heap_setCell_ne hk⟩)
   have c7 : ∀ j, w7.cell? ⟨p, j, none⟩ = _ := fun j => cell_heap h7
   refine ⟨⟨cell_heap (by rw [s7 loc hloc]; exact l6), trivial⟩, NilC.mk _ rfl ⟨rfl, ⟨_, c7 1⟩, frozen_heap h7, ?_⟩⟩
   intro w8 hw8
   have h8 : WkIs w8 p tp a x (b + 1) steps := by subst hw8; exact setCell_heap h7 _
   have t8 : Touch p w w8 := t7.trans (by subst hw8; exact ⟨rfl, rfl, rfl, by rw [size_setCell]; exact Nat.le_refl _, fun k _ hk => heap_setCell_ne hk⟩)
   have c8 : ∀ j, w8.cell? ⟨p, j, none⟩ = _ := fun j => cell_heap h8
   refine NilC.mk _ rfl ⟨steps, c8 4, Ar.ok64 (by omega) (by omega) (NilC.mk _ rfl ⟨rfl, ⟨_, c8 4⟩, frozen_heap h8, ?_⟩)⟩
   intro w9 hw9
   have h9 : WkIs w9 p tp a x (b + 1) (steps + 1) := by subst hw9; exact setCell_heap h8 _
   have t9 : Touch p w w9 := t8.trans (by subst hw9; exact ⟨rfl, rfl, rfl, by rw [size_setCell]; exact Nat.le_refl _, fun k _ hk => heap_setCell_ne hk⟩)
   refine hJ w9 ⟨by rw [hr], ?_, t9⟩
   rw [if_pos (by rw [← hr]; exact h0), ← hy h0]
   exact h9
  ·refine hJ wq ⟨by rw [hr], ?_, htq⟩
   rw [if_neg (by rw [← hr, h0]; simp)]
   exact hwq
 have c1 : ∀ j, w1.cell? ⟨p, j, none⟩ = _ := fun j => cell_heap h1
 have hpar : ∃ (x y : Int), parV T b = .tuple #[.agg #[.int .i64 x, .int .i64 y], .bool (splits T b)] ∧ (splits T b = true → x = (parentsOf T b).1) := by
  unfold parV splits
  by_cases hc : inTab T b ∧ parentsOf T b ≠ (-1, -1)
  ·rw [if_pos hc, decide_eq_true hc]
   exact ⟨_, _, rfl, fun _ => rfl⟩
  ·rw [if_neg hc, decide_eq_false hc]
   exact ⟨0, 0, rfl, fun h => by cases h⟩
 obtain ⟨x, y, hxy, hxy2⟩ := hpar
 refine NilC.mk _ rfl ⟨some ⟨tp, 0, none⟩, by simp only [add_lit, Nat.zero_add]; exact c1 2, NilC.mk _ rfl ⟨b, by simp only [add_lit, Nat.zero_add, Nat.add_zero]; exact c1 1, ?_, ?_⟩⟩
 ·refine (tokParents_spec w1 tp T (hT.on hb1) b).mono ?_
  rintro e w2 ⟨rfl, hb2⟩
  rw [hxy]
  refine ⟨x, y, _, rfl, ?_⟩
  intro w3 hw3
  refine storeP_new [.int .i64 0, .int .i64 0] [.int .i64 x, .int .i64 y] rfl (ones_pair _ _) w3 hw3 ?_
  intro w4 h4 hz4 hB4
  have hb14 := below_then hb1 (below_then hb2 hB4)
  have hz2 := (below_then hb1 hb2).size
  intro J hJ
  exact rest x y _ w2.heap.size w4 rfl hxy2 (by omega) (h1.on (below_then hb2 hB4)) h4 (Touch.of_below hb14) J hJ
 ·intro w10 hw10
  have hb10 : Below w1.heap.size w1 w10 := by subst hw10; exact below_alloc _ _
  have h10 := h1.on hb10
  have l10 : w10.heap[w1.heap.size]? = some (.cells #[Value.int .i64 0, Value.int .i64 0] tMg (0, 0)) := by subst hw10; exact alloc_new _ _
  have c10 : ∀ j, w10.cell? ⟨p, j, none⟩ = _ := fun j => cell_heap h10
  refine ⟨⟨by simp only [add_lit, Nat.zero_add, Nat.add_zero]; exact c10 1, trivial⟩, ⟨by simp only [add_lit, Nat.zero_add]; exact c10 2, trivial⟩, ?_⟩
  refine (tokParents_spec w10 tp T ((hT.on hb1).on hb10) b).mono ?_
  rintro e w11 ⟨rfl, hb11⟩
  rw [hxy]
  refine ⟨x, y, _, rfl, ?_⟩
  have hz1 := hb1.size
  refine storeP_cells (held_on hb11 l10) [.int .i64 x, .int .i64 y] rfl (ones_pair _ _) ?_
  intro w12 h12 hs12 hz12 hB12
  have h12' : WkIs w12 p tp a b limit steps := by
   unfold WkIs
   rw [hs12 p (by omega)]
   exact h10.on hb11
  have hb112 : Below w1.heap.size w1 w12 := hB12 _ _ (Nat.le_refl _) (below_then hb10 hb11)
  intro J hJ
  exact rest x y _ w1.heap.size w12 rfl hxy2 (by omega) h12' h12 (Touch.of_below (below_then hb1 hb112)) J hJ
def exT (T : List Ent) (t : Int) : List Int := ints (bytesOf T t)
theorem merges_length {T : List Ent} (h : TOk T) : (mergesOf T).length + 256 = T.length := by
 have := h.len
 simp [mergesOf]
 omega
theorem low_get {T : List Ent} (h : TOk T) {i : Nat} (hi : i < 256) : T[i]? = some (byteEnt i) := by
 have h1 : (T.take 256)[i]? = T[i]? := List.getElem?_take_of_lt hi
 rw [← h1, h.low]
 simp [begins, hi]
theorem bytes_low {T : List Ent} (h : TOk T) {i : Nat} (hi : i < 256) : bytesOf T (i : Int) = [UInt8.ofNat i] := by
 simp [bytesOf, low_get h hi, byteEnt]
theorem high_get {T : List Ent} (h : TOk T) {k : Nat} {m : Int × Int} (hm : (mergesOf T)[k]? = some m) : ∃ e, T[256 + k]? = some e ∧ e.2 = m := by
 simp only [mergesOf, List.getElem?_map, List.getElem?_drop] at hm
 obtain ⟨e, he, rfl⟩ := Option.map_eq_some_iff.1 hm
 exact ⟨e, he, rfl⟩
theorem bytes_high {T : List Ent} (h : TOk T) {k : Nat} {m : Int × Int} (hm : (mergesOf T)[k]? = some m) : bytesOf T ((256 : Int) + (k : Nat)) = bytesOf T m.1 ++ bytesOf T m.2 := by
 obtain ⟨e, he, rfl⟩ := high_get h hm
 obtain ⟨_, _, hs⟩ := h.step (256 + k) e he (by omega)
 rw [← hs]
 unfold bytesOf
 rw [show ((256 : Int) + (k : Nat)).toNat = 256 + k by omega, he]
 rfl
theorem bytes_ne {T : List Ent} (h : TOk T) : ∀ (n i : Nat), i ≤ n → i < T.length → bytesOf T (i : Int) ≠ [] := by
 intro n
 induction n with
 | zero =>
  intro i hi hl
  rw [bytes_low h (by omega)]
  simp
 | succ n ih =>
  intro i hi hl
  by_cases h256 : i < 256
  ·rw [bytes_low h h256]
   simp
  ·obtain ⟨h1, h2, h3⟩ := h.step i _ (List.getElem?_eq_getElem hl) (by omega)
   have : bytesOf T (i : Int) = T[i].1 := by simp [bytesOf, hl]
   rw [this, h3]
   have := ih T[i].2.1.toNat (by omega) (by omega)
   rw [show ((T[i].2.1.toNat : Nat) : Int) = T[i].2.1 by omega] at this
   simp [this]
theorem ints_append (a b : Bs) : ints (a ++ b) = ints a ++ ints b := by simp [ints]
theorem good_of {T : List Ent} (h : TOk T) : GoodV (mergesOf T) (exT T) := by
 have ml := merges_length h
 refine ⟨⟨fun t h0 h1 => ?_, fun k m hm => ?_, h.sound, fun k m hm => ?_⟩, fun i m hm => ⟨(merges_at h hm).1.1, (merges_at h hm).2.1⟩⟩
 ·obtain ⟨i, rfl⟩ : ∃ i : Nat, t = i := ⟨t.toNat, by omega⟩
  have hi : i < 256 := by omega
  unfold exT
  rw [bytes_low h hi]
  simp [ints]
  omega
 ·unfold exT
  rw [bytes_high h hm, ints_append]
 ·obtain ⟨h1, h2⟩ := merges_at h hm
  have hk := (List.getElem?_eq_some_iff.1 hm).1
  have n1 := bytes_ne h m.1.toNat m.1.toNat (Nat.le_refl _) (by omega)
  have n2 := bytes_ne h m.2.toNat m.2.toNat (Nat.le_refl _) (by omega)
  rw [show ((m.1.toNat : Nat) : Int) = m.1 by omega] at n1
  rw [show ((m.2.toNat : Nat) : Int) = m.2 by omega] at n2
  exact ⟨by simpa [exT, ints] using n1, by simpa [exT, ints] using n2⟩
def vocOf (s : SpecV) (T : List Ent) : Voc := ⟨mergesOf T, exT T, cutB s.classes s.joins, s.specials.map (·.1)⟩
theorem voc_ok {w : World} {s : SpecV} {T : List Ent} {x : SpecW} {tp bp mp : Nat} (h : VocParts w s T x tp bp mp) : (vocOf s T).Ok := by
 have ml := merges_length h.ok
 refine ⟨good_of h.ok, h.nodup, fun t ht => ?_⟩
 obtain ⟨y, hy, rfl⟩ := List.mem_map.1 ht
 have := h.ids y hy
 show 256 + ((mergesOf T).length : Int) ≤ y.1
 omega
theorem tok_iff {T : List Ent} (h : TOk T) (t : Int) : inTab T t ↔ Tok (mergesOf T) t := by
 have ml := merges_length h
 unfold inTab Tok
 omega
theorem encAll_after {T : List Ent} (h : TOk T) (s : Bs) : encAll T s = after (mergesOf T) (mergesOf T).length (ints s) := by
 have ml := merges_length h
 unfold encAll encB after
 rw [show ((T.length : Int) - 256).toNat = (mergesOf T).length by omega]
theorem uncut_iff {cut : Int → Int → Bool} : ∀ l : List Int, Uncut cut l ↔ ∀ (j : Nat) (x y : Int), l[j]? = some x → l[j + 1]? = some y → cut x y = false
 | [] => by simp [Uncut]
 | [x] => by simp [Uncut]
 | x :: y :: r => by
  simp only [Uncut, uncut_iff (y :: r)]
  constructor
  ·rintro ⟨h1, h2⟩ j a b ha hb
   cases j with
   | zero =>
    simp at ha hb
    rw [← ha, ← hb]
    exact h1
   | succ j => exact h2 j a b (by simpa using ha) (by simpa using hb)
  ·intro h
   exact ⟨h 0 x y rfl rfl, fun j a b ha hb => h (j + 1) a b (by simpa using ha) (by simpa using hb)⟩
theorem chop_one_iff {cut : Int → Int → Bool} {l : List Int} (hl : l ≠ []) : (chop cut l).length ≤ 1 ↔ Uncut cut l := by
 constructor
 ·intro h
  obtain ⟨h1, h2⟩ := chop_is (cut := cut) l
  match hc : chop cut l with
  | [] => rw [hc] at h2; exact absurd h2.symm hl
  | [p] =>
   rw [hc] at h1 h2
   simp at h2
   subst h2
   exact h1.2
  | p :: q :: r => rw [hc] at h; simp at h
 ·intro h
  have := chop_unique (cut := cut) [l] ⟨hl, h⟩
  simp at this
  rw [this]
  simp
theorem uncut_congr {c c' : Int → Int → Bool} {l : List Int} (h : ∀ x ∈ l, ∀ y ∈ l, c x y = c' x y) : Uncut c l ↔ Uncut c' l := by
 rw [uncut_iff, uncut_iff]
 constructor
 ·intro k j x y hx hy
  rw [← h x (List.mem_of_getElem? hx) y (List.mem_of_getElem? hy)]
  exact k j x y hx hy
 ·intro k j x y hx hy
  rw [h x (List.mem_of_getElem? hx) y (List.mem_of_getElem? hy)]
  exact k j x y hx hy
theorem whole_uncut (cut : Int → Int → Bool) (b : Bs) : wholeB cut b = true ↔ Uncut cut (ints b) := by
 unfold wholeB
 rw [decide_eq_true_eq, uncut_iff]
 have hget : ∀ j : Nat, (ints b)[j]? = (b[j]?).map fun z : UInt8 => (z.toNat : Int) := fun j => by simp [ints]
 constructor
 ·intro h j x y hx hy
  rw [hget] at hx hy
  obtain ⟨u, hu, rfl⟩ := Option.map_eq_some_iff.1 hx
  obtain ⟨v, hv, rfl⟩ := Option.map_eq_some_iff.1 hy
  have hl := (List.getElem?_eq_some_iff.1 hv).1
  have := h (j + 1) hl
  unfold cutPos at this
  rw [if_neg (by omega), Nat.add_sub_cancel, hu, hv] at this
  simpa using this
 ·intro h j hj
  unfold cutPos
  rw [if_neg (by omega)]
  cases j with
  | zero => split <;> simp
  | succ j =>
   rw [Nat.add_sub_cancel, List.getElem?_eq_getElem hj, List.getElem?_eq_getElem (show j < b.length by omega)]
   have := h j (b[j].toNat) (b[j + 1].toNat) (by rw [hget, List.getElem?_eq_getElem (show j < b.length by omega)]; rfl) (by rw [hget, List.getElem?_eq_getElem hj]; rfl)
   simp [this]
theorem ints_byte (b : Bs) : ∀ x ∈ ints b, 0 ≤ x ∧ x < 256 := by
 intro x hx
 obtain ⟨y, _, rfl⟩ := List.mem_map.1 hx
 have := y.toNat_lt
 omega
theorem cut_byte (V : Voc) {x y : Int} (hx : 0 ≤ x) (hy : 0 ≤ y) : V.cut x y = V.cutB x y := by
 unfold Voc.cut
 rw [decide_eq_false (by omega), decide_eq_false (by omega)]
 rfl
theorem aloneT_iff {w : World} {s : SpecV} {T : List Ent} {x : SpecW} {tp bp mp : Nat} (h : VocParts w s T x tp bp mp) {i : Nat} (hi : inTab T (i : Int)) : aloneT s T i = true ↔ (vocOf s T).Canon [(i : Int)] := by
 have hT := (tok_iff h.ok _).1 hi
 have hok := voc_ok h
 rw [Voc.alone_iff hok (V := vocOf s T) hT]
 have hne : exT T (i : Int) ≠ [] := (hok.good.bytes hT).2
 have hch : (chop (vocOf s T).cut ((vocOf s T).ex (i : Int))).length ≤ 1 ↔ wholeB (cutB s.classes s.joins) (bytesOf T (i : Int)) = true := by
  show (chop (vocOf s T).cut (exT T (i : Int))).length ≤ 1 ↔ _
  rw [chop_one_iff hne, whole_uncut]
  exact uncut_congr fun x hx y hy => cut_byte _ (ints_byte _ x hx).1 (ints_byte _ y hy).1
 rw [hch]
 unfold aloneT AloneT
 rw [Bool.and_eq_true, decide_eq_true_eq, encAll_after h.ok]
 exact Iff.rfl
theorem aloneV_iff {w : World} {s : SpecV} {T : List Ent} {x : SpecW} {tp bp mp : Nat} (h : VocParts w s T x tp bp mp) {t : Int} (ht : (vocOf s T).Has t) : aloneV s T t = true ↔ (vocOf s T).Canon [t] := by
 have hok := voc_ok h
 unfold aloneV
 rcases ht with ht | ht
 ·have hin := (tok_iff h.ok t).2 ht
  have hn : t ∉ s.specials.map (·.1) := fun hm => by
   have h1 : 256 + ((mergesOf T).length : Int) ≤ t := hok.above t hm
   have h2 : t < 256 + (((mergesOf T).length : Nat) : Int) := ht.2
   omega
  rw [decide_eq_false hn, decide_eq_true hin]
  have := aloneT_iff h (i := t.toNat) (by rw [show ((t.toNat : Nat) : Int) = t by have := hin.1; omega]; exact hin)
  rw [show ((t.toNat : Nat) : Int) = t by have := hin.1; omega] at this
  simpa using this
 ·have hm : t ∈ s.specials.map (·.1) := ht
  rw [decide_eq_true hm]
  simp only [Bool.true_or, true_iff]
  exact Voc.alone_special hok ht
theorem splits_iff {T : List Ent} (h : TOk T) {a : Int} (ha : inTab T a) : splits T a = true ↔ 256 ≤ a := by
 unfold splits
 rw [decide_eq_true_eq]
 have hlt : a.toNat < T.length := by have := ha.1; have := ha.2; omega
 constructor
 ·rintro ⟨_, h2⟩
  rcases Int.lt_or_le a 256 with h' | h'
  ·exfalso
   apply h2
   have hl : a.toNat < 256 := by have := ha.1; omega
   simp [parentsOf, low_get h hl, byteEnt]
  ·exact h'
 ·intro h256
  refine ⟨ha, fun e => ?_⟩
  obtain ⟨h1, _, _⟩ := h.step a.toNat _ (List.getElem?_eq_getElem hlt) (by omega)
  simp only [parentsOf, List.getElem?_eq_getElem hlt, Option.map_some, Option.getD_some] at e
  rw [e] at h1
  simp at h1
theorem parents_merge {T : List Ent} (h : TOk T) {a : Int} (ha : inTab T a) (h256 : 256 ≤ a) : ∃ j : Nat, a = 256 + (j : Int) ∧ (mergesOf T)[j]? = some (parentsOf T a) := by
 have hlt : a.toNat < T.length := by have := ha.1; have := ha.2; omega
 refine ⟨a.toNat - 256, by omega, ?_⟩
 simp only [mergesOf, List.getElem?_map, List.getElem?_drop]
 rw [show 256 + (a.toNat - 256) = a.toNat by omega, List.getElem?_eq_getElem hlt]
 simp [parentsOf, hlt]
def blockedB (T : List Ent) (a b limit : Int) : Bool := match (mergesOf T).idxOf? (a, b) with
 | some i => decide (((256 + i : Nat) : Int) < limit)
 | none => false
theorem blocked_spec (w : World) (p tp : Nat) (T : List Ent) (a b limit steps : Int) (hT : TabIs w tp T) (h : WkIs w p tp a b limit steps) :
  CP 246 #[.pointer (some ⟨p, 0, none⟩)] w fun e w' => e = .returned (.bool (blockedB T a b limit)) ∧ Below w.heap.size w w' := by
 refine calls_ret (vc246_calls (some ⟨p, 0, none⟩) w (fun v w' => v = .bool (blockedB T a b limit) ∧ Below w.heap.size w w') ?_) (by rintro v w' ⟨rfl, h⟩; exact ⟨rfl, h⟩)
 intro w1 hw1
 have hb1 : Below w.heap.size w w1 := by subst hw1; exact drew_on w
 have h1 := h.on hb1
 have c1 : ∀ j, w1.cell? ⟨p, j, none⟩ = _ := fun j => cell_heap h1
 refine NilC.mk _ rfl ⟨_, by simp only [add_lit, Nat.zero_add]; exact c1 2, NilC.mk _ rfl ⟨a, by simp only [add_lit, Nat.zero_add, Nat.add_zero]; exact c1 0, NilC.mk _ rfl ⟨b, by simp only [add_lit, Nat.zero_add, Nat.add_zero]; exact c1 1, ?_⟩⟩⟩
 refine (tokPair_spec w1 tp T (hT.on hb1) a b).mono ?_
 rintro e w2 ⟨rfl, hb2⟩
 have c2 : ∀ j, w2.cell? ⟨p, j, none⟩ = _ := fun j => cell_heap (h1.on hb2)
 have hb := below_then hb1 hb2
 unfold blockedB
 cases hx : (mergesOf T).idxOf? (a, b) with
 | none => exact ⟨_, _, rfl, CondP.no rfl ⟨rfl, hb⟩⟩
 | some i => exact ⟨_, _, rfl, CondP.yes rfl (NilC.mk _ rfl ⟨limit, by simp only [add_lit, Nat.zero_add]; exact c2 3, rfl, hb⟩)⟩
theorem apart_spec (w : World) (B p tp : Nat) (T : List Ent) (a b limit steps : Int) (hT : TabIs w tp T) (hok : TOk T) (ht : ∀ w', Touch p w w' → TabIs w' tp T) (h : WkIs w p tp a b limit steps) (hB : B ≤ p) (hs : 0 ≤ steps ∧ steps ≤ 1000000) (ha : inTab T a) (hb : inTab T b) :
  CP 247 #[.pointer (some ⟨p, 0, none⟩)] w fun e w' => ∃ r : Bool, e = .returned (.bool r) ∧ Touch p w w' ∧ ((r = true ∧ b < a ∧ 256 ≤ a ∧ WkIs w' p tp (parentsOf T a).2 b a (steps + 1)) ∨ (r = true ∧ a ≤ b ∧ 256 ≤ b ∧ WkIs w' p tp a (parentsOf T b).1 (b + 1) (steps + 1)) ∨ (r = false ∧ a < 256 ∧ b < 256 ∧ WkIs w' p tp a b limit steps)) := by
 refine calls_ret (vc247_calls (some ⟨p, 0, none⟩) w (fun v w' => ∃ r : Bool, v = .bool r ∧ Touch p w w' ∧ ((r = true ∧ b < a ∧ 256 ≤ a ∧ WkIs w' p tp (parentsOf T a).2 b a (steps + 1)) ∨ (r = true ∧ a ≤ b ∧ 256 ≤ b ∧ WkIs w' p tp a (parentsOf T b).1 (b + 1) (steps + 1)) ∨ (r = false ∧ a < 256 ∧ b < 256 ∧ WkIs w' p tp a b limit steps))) ?_) (by rintro v w' ⟨r, rfl, h⟩; exact ⟨r, rfl, h⟩)
 intro w1 hw1
 have hb1 : Below w.heap.size w w1 := by subst hw1; exact drew_on w
 have h1 := h.on hb1
 have t1 : Touch p w w1 := Touch.of_below hb1
 have c1 : ∀ j, w1.cell? ⟨p, j, none⟩ = _ := fun j => cell_heap h1
 have hmost := hok.most
 have a0 := ha.1
 have a1 := ha.2
 have b0 := hb.1
 have b1 := hb.2
 have sa := splits_iff hok ha
 have sb := splits_iff hok hb
 refine NilC.mk _ rfl ⟨a, by simp only [add_lit, Nat.zero_add, Nat.add_zero]; exact c1 0, NilC.mk _ rfl ⟨b, by simp only [add_lit, Nat.zero_add, Nat.add_zero]; exact c1 1, CondP.mk (fun h0 => ?_) fun h0 => ?_⟩⟩
 ·have h0 := of_decide_eq_true h0
  refine (left_spec w1 B p tp T a b limit steps (ht w1 t1) h1 hB hs (by omega)).mono ?_
  rintro e w2 ⟨rfl, hw2, t2⟩
  have t12 := t1.trans t2
  refine ⟨_, rfl, CondP.mk (fun h2 => ?_) fun h2 => ?_⟩
  ·rw [if_pos h2] at hw2
   exact ⟨true, rfl, t12, .inl ⟨rfl, by omega, sa.1 h2, hw2⟩⟩
  ·rw [if_neg (by rw [h2]; simp)] at hw2
   have ha256 : ¬ 256 ≤ a := fun hh => by rw [sa.2 hh] at h2; cases h2
   refine (right_spec w2 B p tp T a b limit steps (ht w2 t12) hw2 hB hs (by omega)).mono ?_
   rintro e w3 ⟨rfl, hw3, t3⟩
   have hsb : splits T b = false := by
    cases hx : splits T b with
    | false => rfl
    | true => have := sb.1 hx; omega
   rw [hsb] at hw3
   rw [if_neg (by simp)] at hw3
   exact ⟨_, rfl, false, by rw [hsb], t12.trans t3, .inr (.inr ⟨rfl, by omega, by omega, hw3⟩)⟩
 ·have h0 := of_decide_eq_false h0
  refine (right_spec w1 B p tp T a b limit steps (ht w1 t1) h1 hB hs (by omega)).mono ?_
  rintro e w2 ⟨rfl, hw2, t2⟩
  have t12 := t1.trans t2
  refine ⟨_, rfl, CondP.mk (fun h2 => ?_) fun h2 => ?_⟩
  ·rw [if_pos h2] at hw2
   exact ⟨true, rfl, t12, .inr (.inl ⟨rfl, by omega, sb.1 h2, hw2⟩)⟩
  ·rw [if_neg (by rw [h2]; simp)] at hw2
   have hb256 : ¬ 256 ≤ b := fun hh => by rw [sb.2 hh] at h2; cases h2
   refine (left_spec w2 B p tp T a b limit steps (ht w2 t12) hw2 hB hs (by omega)).mono ?_
   rintro e w3 ⟨rfl, hw3, t3⟩
   have hsa : splits T a = false := by
    cases hx : splits T a with
    | false => rfl
    | true => have := sa.1 hx; omega
   rw [hsa] at hw3
   rw [if_neg (by simp)] at hw3
   exact ⟨_, rfl, false, by rw [hsa], t12.trans t3, .inr (.inr ⟨rfl, by omega, by omega, hw3⟩)⟩
theorem free_spec (w : World) (B p tp : Nat) (T : List Ent) (a b limit : Int) (hok : TOk T) (ht : ∀ w', Touch p w w' → TabIs w' tp T) (h : WkIs w p tp a b limit 0) (hB : B ≤ p) (ha : inTab T a) (hb : inTab T b) (aa : AloneT (mergesOf T) (exT T) a) (ab : AloneT (mergesOf T) (exT T) b) (la : a ≤ limit) (lb : b + 1 ≤ limit) :
  CP 232 #[.pointer (some ⟨p, 0, none⟩)] w fun e w' => ∃ r : Bool, e = .returned (.bool r) ∧ (r = true ↔ FreeTo (mergesOf T) (exT T) a b limit) ∧ Touch p w w' := by
 refine calls_ret (vc232_calls (some ⟨p, 0, none⟩) w (fun v w' => ∃ r : Bool, v = .bool r ∧ (r = true ↔ FreeTo (mergesOf T) (exT T) a b limit) ∧ Touch p w w') ?_) (by rintro v w' ⟨r, rfl, h⟩; exact ⟨r, rfl, h⟩)
 intro I hI
 have hG := good_of hok
 have hmost := hok.most
 have ml := merges_length hok
 have key : ∀ (n : Nat) (a' b' limit' steps : Int) (w1 : World), a'.toNat + b'.toNat ≤ n → WkIs w1 p tp a' b' limit' steps → Touch p w w1 → inTab T a' → inTab T b' → AloneT (mergesOf T) (exT T) a' → AloneT (mergesOf T) (exT T) b' → a' ≤ limit' → b' + 1 ≤ limit' → 0 ≤ steps → steps + a' + b' ≤ 10000 → (FreeTo (mergesOf T) (exT T) a' b' limit' ↔ FreeTo (mergesOf T) (exT T) a b limit) → ∀ y2 : Bool, I [.bool y2] w1 := by
  intro n
  induction n using Nat.strongRecOn with
  | ind n ih =>
   intro a' b' limit' steps w1 hn h1 t1 ha' hb' aa' ab' la' lb' hs0 hs1 hF y2
   have Ta := (tok_iff hok a').1 ha'
   have Tb := (tok_iff hok b').1 hb'
   refine hI y2 w1 ?_
   refine (blocked_spec w1 p tp T a' b' limit' steps (ht w1 t1) h1).mono ?_
   rintro e w2 ⟨rfl, hb2⟩
   have h2 := h1.on hb2
   have t2 := t1.trans (Touch.of_below hb2)
   refine ⟨_, rfl, CondP.mk (fun h0 => ?_) fun h0 => ?_⟩
   ·have h0 : blockedB T a' b' limit' = false := by simpa using h0
    have hno : ∀ i : Nat, (mergesOf T)[i]? = some (a', b') → limit' ≤ 256 + (i : Int) := by
     intro i hi
     unfold blockedB at h0
     cases hx : (mergesOf T).idxOf? (a', b') with
     | none => exact absurd (List.mem_of_getElem? hi) (List.idxOf?_eq_none_iff.1 hx)
     | some j =>
      rw [hx] at h0
      have h0 := of_decide_eq_false h0
      obtain ⟨hj, he, hmin⟩ := List.findIdx?_eq_some_iff_getElem.1 hx
      have hij : j ≤ i := by
       rcases Nat.lt_or_ge i j with hlt | hge
       ·exfalso
        have := hmin i hlt
        have hil := (List.getElem?_eq_some_iff.1 hi)
        apply this
        rw [hil.2]
        simp
       ·exact hge
      omega
    refine (apart_spec w2 B p tp T a' b' limit' steps (ht w2 t2) hok (fun w' tt => ht w' (t2.trans tt)) h2 hB ⟨hs0, by have := ha'.1; have := hb'.1; omega⟩ ha' hb').mono ?_
    rintro e w3 ⟨r, rfl, t3, hcase⟩
    have t13 := t2.trans t3
    refine ⟨r, rfl, ?_⟩
    rcases hcase with ⟨rfl, hba, h256, hw3⟩ | ⟨rfl, hab, h256, hw3⟩ | ⟨rfl, h1a, h1b, hw3⟩
    ·obtain ⟨j, rfl, hm⟩ := parents_merge hok ha' h256
     have hlt := merges_at hok hm
     obtain ⟨q1, _, _, _⟩ := alone_parts hG hm aa'
     have hj := (List.getElem?_eq_some_iff.1 hm).1
     have hp := hb'.1
     refine CondP.no rfl (ih _ ?_ (parentsOf T (256 + (j : Int))).2 b' (256 + (j : Int)) (steps + 1) w3 (Nat.le_refl _) hw3 t13 ⟨hlt.2.1, by omega⟩ hb' ?_ ab' (by omega) (by omega) (by omega) (by omega) ?_ y2)
     ·omega
     ·exact (alone_parts hG hm aa').2.2.2
     ·rw [← hF]
      exact (free_left hG hm Tb aa' ab' hba la' hno).symm
    ·obtain ⟨j, rfl, hm⟩ := parents_merge hok hb' h256
     have hlt := merges_at hok hm
     have hj := (List.getElem?_eq_some_iff.1 hm).1
     have hp := ha'.1
     refine CondP.no rfl (ih _ ?_ a' (parentsOf T (256 + (j : Int))).1 (256 + (j : Int) + 1) (steps + 1) w3 (Nat.le_refl _) hw3 t13 ha' ⟨hlt.1.1, by omega⟩ aa' ?_ (by omega) (by omega) (by omega) (by omega) ?_ y2)
     ·omega
     ·exact (alone_parts hG hm ab').2.2.1
     ·rw [← hF]
      exact (free_right hG hm Ta aa' ab' hab (by omega) hno).symm
    ·refine CondP.yes rfl ⟨true, rfl, ?_, t13⟩
     rw [← hF]
     exact ⟨fun _ => free_bytes hG Ta Tb aa' ab' h1a h1b hno, fun _ => rfl⟩
   ·have h0 : blockedB T a' b' limit' = true := by simpa using h0
    refine ⟨false, rfl, ?_, t2⟩
    rw [← hF]
    refine ⟨(fun h => by cases h), fun hfree => ?_⟩
    unfold blockedB at h0
    cases hx : (mergesOf T).idxOf? (a', b') with
    | none => rw [hx] at h0; cases h0
    | some j =>
     rw [hx] at h0
     have h0 := of_decide_eq_true h0
     obtain ⟨hj, he, _⟩ := List.findIdx?_eq_some_iff_getElem.1 hx
     exact absurd hfree (free_blocked hG Ta Tb aa' ab' (i := j) (by rw [List.getElem?_eq_getElem hj]; congr 1; simpa using he) (by omega))
 exact key _ a b limit 0 w (Nat.le_refl _) h (Touch.of_below (Below.refl _ _)) ha hb aa ab la lb (Int.le_refl _) (by have := ha.2; have := hb.2; omega) Iff.rfl false
theorem spineHas_spec (w : World) (tp : Nat) (T : List Ent) (hT : TabIs w tp T) (a b : Int) : CP 230 #[.pointer (some ⟨tp, 0, none⟩), .int .i64 a, .int .i64 b] w fun e w' => e = .returned (.bool (decide (inTab T a ∧ inTab T b))) ∧ w' = w := by
 refine calls_ret (vc230_calls (some ⟨tp, 0, none⟩) a b w (fun v w' => v = .bool (decide (inTab T a ∧ inTab T b)) ∧ w' = w) ?_) (by rintro v w' ⟨rfl, h⟩; exact ⟨rfl, h⟩)
 have off : ¬ (inTab T a ∧ inTab T b) → (Value.bool false = .bool (decide (inTab T a ∧ inTab T b)) ∧ w = w) := fun h => ⟨by rw [decide_eq_false h], rfl⟩
 refine CondP.mk (fun h0 => ?_) fun h0 => off fun h => ?_
 ·have h0 := of_decide_eq_true h0
  refine (tokLen_spec w tp T hT).mono ?_
  rintro e w1 ⟨rfl, hw⟩
  subst hw
  refine ⟨_, rfl, CondP.mk (fun h1 => ?_) fun h1 => off fun h => ?_⟩
  ·have h1 := of_decide_eq_true h1
   refine CondP.mk (fun h2 => ?_) fun h2 => off fun h => ?_
   ·have h2 := of_decide_eq_true h2
    refine (tokLen_spec w1 tp T hT).mono ?_
    rintro e w2 ⟨rfl, hw⟩
    subst hw
    refine ⟨_, rfl, ?_, rfl⟩
    congr 1
    exact decide_eq_decide.2 ⟨fun h => ⟨⟨h0, h1⟩, h2, h⟩, fun h => h.2.2⟩
   ·exact of_decide_eq_false h2 h.2.1
  ·exact of_decide_eq_false h1 h.1.2
 ·exact of_decide_eq_false h0 h.1.1
theorem walk_spec (w : World) (tp : Nat) (T : List Ent) (hT : TabIs w tp T) (hok : TOk T) (a b limit : Int) (ha : inTab T a) (hb : inTab T b) (aa : AloneT (mergesOf T) (exT T) a) (ab : AloneT (mergesOf T) (exT T) b) (la : a ≤ limit) (lb : b + 1 ≤ limit) :
  CP 196 #[.pointer (some ⟨tp, 0, none⟩), .int .i64 a, .int .i64 b, .int .i64 limit] w fun e w' => ∃ r : Bool, e = .returned (.bool r) ∧ (r = true ↔ FreeTo (mergesOf T) (exT T) a b limit) ∧ Below w.heap.size w w' := by
 refine calls_ret (vc196_calls (some ⟨tp, 0, none⟩) a b limit w (fun v w' => ∃ r : Bool, v = .bool r ∧ (r = true ↔ FreeTo (mergesOf T) (exT T) a b limit) ∧ Below w.heap.size w w') ?_) (by rintro v w' ⟨r, rfl, h⟩; exact ⟨r, rfl, h⟩)
 refine (spineHas_spec w tp T hT a b).mono ?_
 rintro e w1 ⟨rfl, hw⟩
 subst hw
 refine ⟨_, rfl, CondP.yes (decide_eq_true ⟨ha, hb⟩) ?_⟩
 have hbegin : CP 231 #[.pointer (some ⟨tp, 0, none⟩), .int .i64 a, .int .i64 b, .int .i64 limit] w1 fun e w' => e = .returned (.pointer (some (nb w1))) ∧ w' = w1.alloc (.cells #[Value.int .i64 a, Value.int .i64 b, Value.pointer (some ⟨tp, 0, none⟩), Value.int .i64 limit, Value.int .i64 0] tWalk) := by
  refine calls_ret (vc231_calls (some ⟨tp, 0, none⟩) a b limit w1 (fun v w' => v = .pointer (some (nb w1)) ∧ w' = w1.alloc (.cells #[Value.int .i64 a, Value.int .i64 b, Value.pointer (some ⟨tp, 0, none⟩), Value.int .i64 limit, Value.int .i64 0] tWalk)) ?_) (by rintro v w' ⟨rfl, h⟩; exact ⟨rfl, h⟩)
  rintro w2 rfl
  exact ⟨rfl, rfl⟩
 refine hbegin.mono ?_
 rintro e w2 ⟨rfl, hw2⟩
 have hb2 : Below w1.heap.size w1 w2 := by subst hw2; exact below_alloc _ _
 have h2 : WkIs w2 w1.heap.size tp a b limit 0 := by subst hw2; exact alloc_new _ _
 refine ⟨_, rfl, ?_⟩
 refine (free_spec w2 w1.heap.size w1.heap.size tp T a b limit hok (fun w' t => hT.on (hb2.trans (t.below (Nat.le_refl _) hb2.size))) h2 (Nat.le_refl _) ha hb aa ab la lb).mono ?_
 rintro e w3 ⟨r, rfl, hr, t3⟩
 exact ⟨r, rfl, r, rfl, hr, hb2.trans (t3.below (Nat.le_refl _) hb2.size)⟩
theorem special_spec {w : World} {v : Nat} {c : Array Value} {tp bp mp : Nat} (h : VBlk w v c tp bp mp) {s : SpecV} {T : List Ent} {x : SpecW} (hp : VocParts w s T x tp bp mp) (id : Int) : CP 193 #[.pointer (some ⟨v, 0, none⟩), .int .i64 id] w fun e w' => ∃ r : Bool, e = .returned (.bool r) ∧ (r = true ↔ id ∈ s.specials.map (·.1)) ∧ w' = w := by
 refine calls_ret (vc193_calls (some ⟨v, 0, none⟩) id w (fun u w' => ∃ r : Bool, u = .bool r ∧ (r = true ↔ id ∈ s.specials.map (·.1)) ∧ w' = w) ?_) (by rintro v w' ⟨r, rfl, h⟩; exact ⟨r, rfl, h⟩)
 refine (vocMarks_spec h).mono ?_
 rintro e w1 ⟨rfl, hw⟩
 subst hw
 refine ⟨_, rfl, (markMark_spec w1 mp s.specials hp.marks hp.few id).mono ?_⟩
 rintro e w2 ⟨rfl, hw⟩
 subst hw
 exact ⟨_, _, rfl, _, rfl, idx_mem, rfl⟩
theorem last_ints (b : Bs) : (ints b).getLast? = b.getLast?.map fun z : UInt8 => (z.toNat : Int) := by simp [ints]
theorem head_ints (b : Bs) : (ints b).head? = b.head?.map fun z : UInt8 => (z.toNat : Int) := by simp [ints]
theorem beside_spec {w : World} {v : Nat} {c : Array Value} {tp bp mp : Nat} (h : VBlk w v c tp bp mp) {s : SpecV} {T : List Ent} {x : SpecW} (hp : VocParts w s T x tp bp mp) (a b : Int) (ha : (vocOf s T).Has a) (hb : (vocOf s T).Has b) (ca : (vocOf s T).Canon [a]) (cb : (vocOf s T).Canon [b]) :
  CP 147 #[.pointer (some ⟨v, 0, none⟩), .int .i64 a, .int .i64 b] w fun e w' => ∃ r : Bool, e = .returned (.bool r) ∧ (r = true ↔ (vocOf s T).Pair a b) ∧ Below w.heap.size w w' := by
 have hok := voc_ok hp
 refine calls_ret (vc147_calls (some ⟨v, 0, none⟩) a b w (fun u w' => ∃ r : Bool, u = .bool r ∧ (r = true ↔ (vocOf s T).Pair a b) ∧ Below w.heap.size w w') ?_) (by rintro v w' ⟨r, rfl, h⟩; exact ⟨r, rfl, h⟩)
 have mark_cut : ∀ t : Int, t ∈ s.specials.map (·.1) → ∃ z : Int, (vocOf s T).items t = [z] ∧ z < 0 := by
  intro t ht
  obtain ⟨i, hi, _⟩ := Voc.place_some (V := vocOf s T) ht
  refine ⟨-1 - (i : Int), ?_, by omega⟩
  unfold Voc.items
  rw [hi]
 refine (special_spec h hp a).mono ?_
 rintro e w1 ⟨r1, rfl, hr1, hw⟩
 subst hw
 refine ⟨_, rfl, CondP.mk (fun h0 => ?_) fun h0 => ?_⟩
 ·refine ⟨true, rfl, ⟨fun _ => ?_, fun _ => rfl⟩, Below.refl _ _⟩
  obtain ⟨z, hz, hneg⟩ := mark_cut a (hr1.1 h0)
  obtain ⟨y, hy⟩ : ∃ y, ((vocOf s T).items b).head? = some y := by
   cases hx : (vocOf s T).items b with
   | nil => exact absurd hx (Voc.items_ne hok hb)
   | cons y t => exact ⟨y, rfl⟩
  exact .inl ⟨z, y, by rw [hz]; rfl, hy, by unfold Voc.cut; rw [decide_eq_true hneg]; rfl⟩
 have na : a ∉ s.specials.map (·.1) := fun hm => by rw [hr1.2 hm] at h0; cases h0
 refine (special_spec h hp b).mono ?_
 rintro e w2 ⟨r2, rfl, hr2, hw⟩
 subst hw
 refine ⟨_, rfl, CondP.mk (fun h1 => ?_) fun h1 => ?_⟩
 ·refine ⟨true, rfl, ⟨fun _ => ?_, fun _ => rfl⟩, Below.refl _ _⟩
  obtain ⟨z, hz, hneg⟩ := mark_cut b (hr2.1 h1)
  obtain ⟨y, hy⟩ : ∃ y, ((vocOf s T).items a).getLast? = some y := by
   cases hx : ((vocOf s T).items a).getLast? with
   | none => exact absurd (List.getLast?_eq_none_iff.1 hx) (Voc.items_ne hok ha)
   | some y => exact ⟨y, rfl⟩
  exact .inl ⟨y, z, hy, by rw [hz]; rfl, by unfold Voc.cut; rw [decide_eq_true hneg]; simp⟩
 have nb' : b ∉ s.specials.map (·.1) := fun hm => by rw [hr2.2 hm] at h1; cases h1
 have Ta : Tok (mergesOf T) a := ha.resolve_right na
 have Tb : Tok (mergesOf T) b := hb.resolve_right nb'
 have ia := (tok_iff hp.ok a).2 Ta
 have ib := (tok_iff hp.ok b).2 Tb
 have short : ∀ t, inTab T t → (bytesOf T t).length ≤ 64 := by
  intro t ht
  obtain ⟨y, hy, hyb⟩ := bytesOf_at ht
  rw [hyb]
  exact hp.ok.short y (List.mem_of_getElem? hy)
 refine (vocTable_spec h).mono ?_
 rintro e w3 ⟨rfl, hw⟩
 subst hw
 refine ⟨_, rfl, (tokBytes_spec w3 tp T hp.tab a).mono ?_⟩
 rintro e w4 ⟨rfl, hw⟩
 subst hw
 rw [if_pos ia]
 refine ⟨_, _, rfl, (vocTable_spec h).mono ?_⟩
 rintro e w5 ⟨rfl, hw⟩
 subst hw
 refine ⟨_, rfl, (tokBytes_spec w5 tp T hp.tab b).mono ?_⟩
 rintro e w6 ⟨rfl, hw⟩
 subst hw
 rw [if_pos ib]
 refine ⟨_, _, rfl, (vocBounds_spec h).mono ?_⟩
 rintro e w7 ⟨rfl, hw⟩
 subst hw
 refine ⟨_, rfl, (between_spec w7 bp s.classes s.joins hp.bound (right_ok hp.right).1 (bytesOf T a) (bytesOf T b) (by have := short a ia; omega)).mono ?_⟩
 rintro e w8 ⟨rfl, hb8⟩
 have hpair : (vocOf s T).Pair a b ↔ betweenB (cutB s.classes s.joins) (bytesOf T a) (bytesOf T b) = true ∨ (vocOf s T).Free a b := by
  unfold Voc.Pair
  rw [Voc.items_tok hok (V := vocOf s T) Ta, Voc.items_tok hok (V := vocOf s T) Tb]
  show (∃ x y, (ints (bytesOf T a)).getLast? = some x ∧ (ints (bytesOf T b)).head? = some y ∧ (vocOf s T).cut x y = true) ∨ _ ↔ _
  rw [last_ints, head_ints]
  unfold betweenB
  cases h1 : (bytesOf T a).getLast? with
  | none =>
   simp only [Option.map_none]
   constructor
   ·rintro (⟨x, y, hx, _⟩ | h)
    ·cases hx
    ·exact .inr h.2.2
   ·rintro (h | h)
    ·cases h
    ·exact .inr ⟨Ta, Tb, h⟩
  | some z1 =>
   cases h2 : (bytesOf T b).head? with
   | none =>
    simp only [Option.map_none]
    constructor
    ·rintro (⟨x, y, _, hy, _⟩ | h)
     ·cases hy
     ·exact .inr h.2.2
    ·rintro (h | h)
     ·cases h
     ·exact .inr ⟨Ta, Tb, h⟩
   | some z2 =>
    simp only [Option.map_some]
    constructor
    ·rintro (⟨x, y, hx, hy, hc⟩ | h)
     ·cases hx
      cases hy
      rw [cut_byte _ (by omega) (by omega)] at hc
      exact .inl hc
     ·exact .inr h.2.2
    ·rintro (h | h)
     ·exact .inl ⟨_, _, rfl, rfl, by rw [cut_byte _ (by omega) (by omega)]; exact h⟩
     ·exact .inr ⟨Ta, Tb, h⟩
 refine ⟨_, rfl, CondP.mk (fun h2 => ?_) fun h2 => ?_⟩
 ·exact ⟨true, rfl, ⟨fun _ => hpair.2 (.inl h2), fun _ => rfl⟩, hb8⟩
 ·refine (vocTable_spec (h.on hb8)).mono ?_
  rintro e w9 ⟨rfl, hw⟩
  subst hw
  have hmost := hp.ok.most
  have ml := merges_length hp.ok
  have a1 := ia.2
  have b1 := ib.2
  refine ⟨_, rfl, (walk_spec w9 tp T (hp.tab.on hb8) hp.ok a b 9223372036854775807 ia ib ((Voc.alone_iff hok (V := vocOf s T) Ta).1 ca).1 ((Voc.alone_iff hok (V := vocOf s T) Tb).1 cb).1 (by omega) (by omega)).mono ?_⟩
  rintro e w10 ⟨r, rfl, hr, hb10⟩
  refine ⟨_, rfl, r, rfl, ?_, below_then hb8 hb10⟩
  rw [hr, hpair, h2]
  constructor
  ·intro hf
   exact .inr fun k hk hc => hf k hk (by change k < (mergesOf T).length at hk; omega) hc
  ·rintro (h | h)
   ·cases h
   ·exact fun k hk _ hc => h k hk hc
def FirstIs (V : Voc) (ids : List Int) : Option Nat → Prop
 | none => V.Canon ids
 | some k => k < ids.length ∧ V.Canon (ids.take k) ∧ ¬ V.Canon (ids.take (k + 1))
def firstV : Option Nat → Value
 | none => .tuple #[.int .i64 0, .bool false]
 | some k => .tuple #[.int .i64 (k : Int), .bool true]
theorem Rw.touch {α : Type} {enc : α → List Value} {sz : Nat} {w w' : World} {a : Option Addr} {xs : List α} {v : Nat} (h : Rw enc sz w a xs) (t : Touch v w w') (ha : xs ≠ [] → ∀ p, a = some p → p.block ≠ v) : Rw enc sz w' a xs := by
 intro j x hj
 obtain ⟨p, rfl, hp, hc⟩ := h j x hj
 refine ⟨p, rfl, Nat.lt_of_lt_of_le hp t.size, fun k u hk => ?_⟩
 rw [World.cell?_of_block (w := w) (by rw [add_block, add_block]; exact t.block p.block hp (ha (List.ne_nil_of_mem (List.mem_of_getElem? hj)) p rfl))]
 exact hc k u hk
theorem canon_nil (V : Voc) : V.Canon [] := rfl
theorem first_spec (w : World) (v : Nat) (s : SpecV) (T : List Ent) (hV : VocIs w v s T) (A : Option Addr) (C : Nat) (ids : List Int) (hr : Rw encInt 1 w A ids) (hA : ids ≠ [] → ∀ p, A = some p → p.block ≠ v) (hl : ids.length ≤ 1000000000000) (hh : ∀ t ∈ ids, (vocOf s T).Has t) :
  CP 116 #[.pointer (some ⟨v, 0, none⟩), .slice A ids.length C] w fun e w' => ∃ o, e = .returned (firstV o) ∧ FirstIs (vocOf s T) ids o ∧ VocIs w' v s T ∧ Touch v w w' := by
 refine calls_ret (vc116_calls (some ⟨v, 0, none⟩) A ids.length C w (fun u w' => ∃ o, u = firstV o ∧ FirstIs (vocOf s T) ids o ∧ VocIs w' v s T ∧ Touch v w w') ?_) (by rintro v w' ⟨o, rfl, h⟩; exact ⟨o, rfl, h⟩)
 intro I hI
 have key := climb2 (α := Bool × Int × World) ids.length (fun i x => (vocOf s T).Canon (ids.take i) ∧ VocIs x.2.2 v s T ∧ Touch v w x.2.2) (fun i x => I [.int .i64 (i : Int), .bool x.1, .int .i64 x.2.1] x.2.2) (false, 0, w) ⟨canon_nil _, hV, Touch.of_below (Below.refl _ _)⟩ ?_ ?_
 ·exact key
 ·rintro i hi ih ⟨y5, y4, w1⟩ ⟨hc, hV1, t1⟩
  change VocIs w1 v s T at hV1
  change Touch v w w1 at t1
  have hr1 := hr.touch t1 hA
  obtain ⟨q, hq, _, hcx⟩ := hr1 i _ (List.getElem?_eq_getElem hi)
  have h0 := hcx 0 _ rfl
  rw [add_zero] at h0
  have hHas := hh ids[i] (List.getElem_mem hi)
  have htake : ids.take (i + 1) = ids.take i ++ [ids[i]] := by rw [List.take_add_one, List.getElem?_eq_getElem hi]; rfl
  obtain ⟨w0, x, tp, bp, mp, d, l, uses, hR⟩ := hV1
  have hok := voc_ok hR.now
  refine hI _ _ _ _ (CondP.yes (by simp; omega) (NilC.mk q hq ⟨by omega, by omega, ids[i], h0, ?_⟩))
  refine (alone_spec w1 v s T ⟨w0, x, tp, bp, mp, d, l, uses, hR⟩ ids[i]).mono ?_
  rintro e w2 ⟨rfl, hV2, t2⟩
  have t12 := t1.trans t2
  have hal := aloneV_iff hR.now hHas
  have hall : ∀ t ∈ ids.take i ++ [ids[i]], (vocOf s T).Has t := by
   rw [← htake]
   intro t ht
   exact hh t (List.mem_of_mem_take ht)
  refine ⟨_, rfl, CondP.mk (fun h1 => ?_) fun h1 => ?_⟩
  ·have h1 : aloneV s T ids[i] = false := by simpa using h1
   refine ⟨some i, rfl, ⟨hi, hc, fun hcc => ?_⟩, hV2, t12⟩
   rw [htake] at hcc
   have := (Voc.canon_append hok hall hcc).2
   rw [hal.2 this] at h1
   cases h1
  ·have h1 : aloneV s T ids[i] = true := by simpa using h1
   have ct := hal.1 h1
   refine CondP.mk (fun h2 => ?_) fun h2 => ?_
   ·have h2 : 0 < i := by have := of_decide_eq_true h2; omega
    have hi1 : i - 1 < ids.length := by omega
    obtain ⟨q2, hq2, _, hcx2⟩ := (hr1.touch t2 hA) (i - 1) _ (List.getElem?_eq_getElem hi1)
    have h02 := hcx2 0 _ rfl
    rw [add_zero] at h02
    have hprev : ids.take i = ids.take (i - 1) ++ [ids[i - 1]] := by
     have := List.take_add_one (l := ids) (i := i - 1)
     rw [show i - 1 + 1 = i by omega, List.getElem?_eq_getElem hi1] at this
     exact this
    have hall2 : ∀ t ∈ ids.take (i - 1) ++ [ids[i - 1]], (vocOf s T).Has t := by
     rw [← hprev]
     intro t ht
     exact hh t (List.mem_of_mem_take ht)
    rw [hprev] at hc
    have cl := (Voc.canon_append hok hall2 hc).2
    obtain ⟨w0', x', tp', bp', mp', d', l', uses', hR'⟩ := hV2
    refine Ar.ok64 (by omega) (by omega) (NilC.mk q2 hq2 ⟨by omega, by omega, ids[i - 1], ?_, ?_⟩)
    ·rw [show ((i : Int) - 1).toNat = i - 1 by omega]
     exact h02
    ·refine (beside_spec hR'.vblk hR'.now ids[i - 1] ids[i] (hh _ (List.getElem_mem hi1)) hHas cl ct).mono ?_
     rintro e w3 ⟨r, rfl, hr3, hb3⟩
     have t13 := t12.trans (Touch.of_below hb3)
     have hV3 : VocIs w3 v s T := ⟨w0', x', tp', bp', mp', d', l', uses', hR'.on hb3⟩
     have hmore := Voc.canon_more hok hall2 hc hHas
     refine ⟨_, rfl, CondP.mk (fun h3 => ?_) fun h3 => ?_⟩
     ·have h3 : r = false := by simpa using h3
      refine ⟨some i, rfl, ⟨hi, by rw [hprev]; exact hc, fun hcc => ?_⟩, hV3, t13⟩
      rw [htake, hprev] at hcc
      have := (hmore.1 hcc).2
      rw [hr3.2 this] at h3
      cases h3
     ·have h3 : r = true := by simpa using h3
      refine Ar.ok64 (by omega) (by omega) (ih (y5, y4, w3) ⟨?_, hV3, t13⟩)
      rw [htake, hprev]
      exact hmore.2 ⟨ct, hr3.1 h3⟩
   ·have h2 : i = 0 := by have := of_decide_eq_false h2; omega
    refine Ar.ok64 (by omega) (by omega) (ih (y5, y4, w2) ⟨?_, hV2, t12⟩)
    subst h2
    rw [htake, List.take_zero, List.nil_append]
    exact ct
 ·rintro ⟨y5, y4, w1⟩ ⟨hc, hV1, t1⟩
  rw [List.take_length] at hc
  exact hI _ _ _ _ (CondP.no (by simp) ⟨none, rfl, hc, hV1, t1⟩)
theorem indexI_spec (a : Option Addr) (c : Nat) (xs : List Int) (f : Value) (p : Int → Bool) (w : World) (hr : Rw encInt 1 w a xs) (hl : xs.length ≤ 1000000000000000)
  (hf : ∀ x ∈ xs, ∀ w1, Below w.heap.size w w1 → CallG ctx f [.int .i64 x] w1 (fun e w2 => e = .returned (.bool (p x)) ∧ Below w1.heap.size w1 w2)) :
  CP 94 #[.slice a xs.length c, f] w fun e w' => e = .returned (.int .i64 (idx p xs)) ∧ Below w.heap.size w w' := by
 refine calls_ret (vc94_calls a xs.length c f w (fun v w' => v = .int .i64 (idx p xs) ∧ Below w.heap.size w w') ?_) (by rintro v w' ⟨rfl, h⟩; exact ⟨rfl, h⟩)
 intro I hI
 have key := climb (α := Int × World) xs.length (fun i x => (∀ j (hj : j < xs.length), j < i → p xs[j] = false) ∧ Below w.heap.size w x.2) (fun i x => I [.int .i64 (i : Int), .int .i64 x.1] x.2) ?_ ?_ 0 (Nat.zero_le _) (0, w)
 ·exact key ⟨fun j _ hj => absurd hj (Nat.not_lt_zero j), Below.refl _ _⟩
 ·rintro ⟨y, w1⟩ ⟨hb, hB⟩
  exact hI _ _ _ (CondP.no (by simp) ⟨by rw [idx_none fun j hj => hb j hj hj], hB⟩)
 ·rintro i hi ih ⟨y, w1⟩ ⟨hb, hB⟩
  obtain ⟨q, hq, _, hcx⟩ := (hr.on hB) i _ (List.getElem?_eq_getElem hi)
  refine hI _ _ _ (CondP.yes (by simp; omega) (NilC.mk q hq ⟨by omega, by omega, xs[i], by have := hcx 0 _ rfl; simpa [add_zero] using this, ?_⟩))
  refine (hf xs[i] (List.getElem_mem hi) w1 hB).mono ?_
  rintro e w2 ⟨rfl, h2⟩
  refine ⟨_, rfl, CondP.mk ?_ ?_⟩
  ·intro hp
   exact ⟨by rw [idx_some hi hp fun j hj => hb j (by omega) hj], below_then hB h2⟩
  ·intro hp
   refine Ar.ok64 (by omega) (by omega) (ih (y, w2) ⟨?_, below_then hB h2⟩)
   intro j hj hji
   by_cases he : j = i
   ·subst he; exact hp
   ·exact hb j hj (by omega)
instance (V : Voc) (ids : List Int) : Decidable (V.Canon ids) := inferInstanceAs (Decidable (V.encode (V.itemsAll ids) = ids))
open Go Go.Value
theorem own_slOk {w : World} {B : Nat} {e : TypeId} {sz : Nat} {l : Sl} {xs : List Value} (h : w.ownsRow B e sz l.v l.n xs) : SlOk l := by
 obtain ⟨la, ln, lc⟩ := l
 rcases h.2 with ⟨hv, _⟩ | ⟨g, cap, cur, hv, _⟩
 ·cases hv
  exact .inl rfl
 ·cases hv
  exact .inr ⟨_, rfl⟩
theorem push_any {α : Type} {enc : α → List Value} {sz : Nat} (hsz : ∀ x, (enc x).length = sz) (h0 : 0 < sz) (h1 : ∀ x, ∀ u ∈ enc x, u.oneCell' = true) (t e : TypeId) {z : Value} {bytes : Nat} (ht : Tryz.prog.underlying t = some (.slice e)) (hi : (Tryz.prog.info? e).map (fun i => (i.zero, i.size, i.bytes)) = some (some z, sz, bytes)) (hzs : z.cells.size = sz)
  {B : Nat} {w : World} {s : Sl} {xs : List α} (hown : w.ownsRow B e sz s.v s.n (xs.flatMap enc)) (x : α) {b : Nat} {T : TypeId} {fz : Nat × Nat} (hb : w.heap[b]? = some (.cells (enc x).toArray T fz)) (hB : B ≤ w.heap.size) (hbytes : (s.n + 1) * bytes ≤ 140737488355328) (h63 : s.n + 1 ≤ 140737488355328) :
  ∃ A C w', (Builtin.append_ #[t, t] t #[.slice s.a s.n s.c, .slice (some ⟨b, 0, none⟩) 1 1]).run Tryz.prog w = .ok (.slice A (s.n + 1) C) w' ∧ w'.ownsRow B e sz (.slice A (s.n + 1) C) (s.n + 1) ((xs ++ [x]).flatMap enc) ∧ (∀ w0, Below B w0 w → Below B w0 w') ∧ (∀ k, k < w.heap.size → s.v.ownBlock ≠ some k → w'.heap[k]? = w.heap[k]?) := by
 obtain ⟨A, C, w', h2, h3, h4, h5⟩ := run_spread (P := Tryz.prog) t e ht hi hzs h0 hown ⟨some ⟨b, 0, none⟩, 1, 1⟩ (.inr ⟨_, rfl⟩) (enc x) (by rw [hsz, Nat.one_mul]) (by
  intro a ha j u hj
  cases ha
  rw [ptr_add0 _ _ hb]
  simpa using hj) (h1 x) hbytes h63 hB
 exact ⟨A, C, w', h2, by simpa using h3, h4, h5⟩
theorem Ar.nat {z : Int} {F : Int → Prop} (n : Nat) (hz : z = (n : Int)) (hn : n ≤ 9223372036854775807) (h : F (n : Int)) : Ar .i64 z F := by
 subst hz
 exact Ar.ok64 (by omega) (by omega) h
theorem cell_rw {α : Type} {enc : α → List Value} {w : World} {a : Option Addr} {xs : List α} (h : Rw enc 1 w a xs) {i : Nat} (hi : i < xs.length) {v : Value} (hv : (enc xs[i])[0]? = some v) : ∃ q, a = some q ∧ w.cell? (q.add (i * 1)) = some v := by
 obtain ⟨q, hq, _, hc⟩ := h i _ (List.getElem?_eq_getElem hi)
 have := hc 0 _ hv
 rw [add_zero] at this
 exact ⟨q, hq, this⟩
structure LsAt {α : Type} (enc : α → List Value) (sz : Nat) (w : World) (l : Sl) (xs : List α) : Prop where
 n : l.n = xs.length
 r : Rw enc sz w l.a xs
 k : SlOk l
structure ElT {α : Type} (enc : α → List Value) (sz : Nat) (t e : TypeId) (bytes : Nat) : Prop where
 hsz : ∀ x, (enc x).length = sz
 h0 : 0 < sz
 h1 : ∀ x, ∀ u ∈ enc x, u.oneCell' = true
 ht : Tryz.prog.underlying t = some (.slice e)
 hz : ∃ z : Value, (Tryz.prog.info? e).map (fun i => (i.zero, i.size, i.bytes)) = some (some z, sz, bytes) ∧ z.cells.size = sz
theorem elInt : ElT encInt 1 tInts tInt 8 := ⟨fun _ => rfl, by decide, fun x u hu => by rw [List.mem_singleton.1 hu]; rfl, undInts, _, infoInt, rfl⟩
theorem LsAt.of_own {α : Type} {enc : α → List Value} {sz bytes : Nat} {t e : TypeId} (E : ElT enc sz t e bytes) {w : World} {B : Nat} {l : Sl} {xs : List α} (h : w.ownsRow B e sz l.v l.n (xs.flatMap enc)) : LsAt enc sz w l xs :=
 have := Rw.of_own h E.hsz E.h0
 ⟨this.2, this.1, own_slOk h⟩
theorem ElT.push {α : Type} {enc : α → List Value} {sz bytes : Nat} {t e : TypeId} (E : ElT enc sz t e bytes) {B : Nat} {w2 w3 : World} {s : Sl} {xs : List α} (hown : w2.ownsRow B e sz s.v s.n (xs.flatMap enc)) (x : α) {T : TypeId} {c : Array Value} (hw : w3 = w2.alloc (.cells c T)) (hc : c = (enc x).toArray) (hB : B ≤ w2.heap.size) (hn : s.n ≤ 1000000000) (hb : bytes ≤ 1000) :
  ∃ (l : Sl) (w4 : World), l.n = s.n + 1 ∧ (Builtin.append_ #[t, t] t #[.slice s.a s.n s.c, .slice (some (nb w2)) 1 1]).run Tryz.prog w3 = .ok (.slice l.a l.n l.c) w4 ∧ w4.ownsRow B e sz l.v l.n ((xs ++ [x]).flatMap enc) ∧ (∀ w0, Below B w0 w2 → Below B w0 w4) ∧ (∀ k, k < w2.heap.size → s.v.ownBlock ≠ some k → w4.heap[k]? = w2.heap[k]?) := by
 obtain ⟨z, hi, hzs⟩ := E.hz
 subst hw hc
 have hba := below_alloc w2 (.cells (enc x).toArray T)
 have hmul : (s.n + 1) * bytes ≤ (1000000000 + 1) * 1000 := Nat.mul_le_mul (by omega) hb
 obtain ⟨A, C, w4, h1, h2, h3, h4⟩ := push_any (enc := enc) (sz := sz) E.hsz E.h0 E.h1 t e E.ht hi hzs (own_on hown hba) x (alloc_new w2 _) (Nat.le_trans hB hba.size) (by omega) (by omega)
 refine ⟨⟨A, s.n + 1, C⟩, w4, rfl, h1, h2, fun w0 h0 => h3 w0 (h0.trans (hba.mono hB)), fun k hk hne => ?_⟩
 rw [h4 k (Nat.lt_of_lt_of_le hk hba.size) hne, hba.block k hk]
theorem ElT.spread {α : Type} {enc : α → List Value} {sz bytes : Nat} {t e : TypeId} (E : ElT enc sz t e bytes) {B : Nat} {w2 : World} {s l : Sl} {xs ys : List α} (hown : w2.ownsRow B e sz s.v s.n (xs.flatMap enc)) (hl : LsAt enc sz w2 l ys) (hB : B ≤ w2.heap.size) (hn : s.n ≤ 1000000000) (hm : l.n ≤ 1000000000) (hb : bytes ≤ 1000) :
  ∃ (r : Sl) (w4 : World), r.n = s.n + l.n ∧ (Builtin.append_ #[t, t] t #[.slice s.a s.n s.c, .slice l.a l.n l.c]).run Tryz.prog w2 = .ok (.slice r.a r.n r.c) w4 ∧ w4.ownsRow B e sz r.v r.n ((xs ++ ys).flatMap enc) ∧ (∀ w0, Below B w0 w2 → Below B w0 w4) ∧ (∀ k, k < w2.heap.size → s.v.ownBlock ≠ some k → w4.heap[k]? = w2.heap[k]?) ∧ ∀ k, r.v.ownBlock = some k → s.v.ownBlock = some k ∨ w2.heap.size ≤ k := by
 obtain ⟨z, hi, hzs⟩ := E.hz
 have hmul : (s.n + l.n) * bytes ≤ (1000000000 + 1000000000) * 1000 := Nat.mul_le_mul (by omega) hb
 have hr := hl.r
 obtain ⟨A, C, w4, h1, h2, h3, h4, h5⟩ := run_spread2 (P := Tryz.prog) t e E.ht hi hzs E.h0 hown l hl.k (ys.flatMap enc) (by rw [flatMap_length E.hsz, hl.n]) (by
  intro a ha j u hj
  rw [ha] at hr
  exact hr.flat E.hsz E.h0 j u hj) (by
  intro u hu
  obtain ⟨x, _, hx⟩ := List.mem_flatMap.1 hu
  exact E.h1 x u hx) (by omega) (by omega) hB
 exact ⟨⟨A, s.n + l.n, C⟩, w4, rfl, h1, by rw [List.flatMap_append]; exact h2, h3, h4, h5⟩
theorem own_none (w : World) (B : Nat) (e : TypeId) (sz : Nat) {α : Type} (enc : α → List Value) : w.ownsRow B e sz sl0.v sl0.n (([] : List α).flatMap enc) := own_nil w B e sz
theorem pass_len (a b c : Int) (l : List Int) : (pass a b c l).length ≤ l.length := by
 induction l using pass.induct a b with
 | case1 => simp [pass]
 | case2 x => simp [pass]
 | case3 x y r hx ih =>
  obtain ⟨rfl, rfl⟩ := hx
  rw [pass_yes]
  simp only [List.length_cons]
  omega
 | case4 x y r hx ih =>
  rw [pass_no r hx]
  simp only [List.length_cons] at ih ⊢
  omega
theorem after_len (ms : List (Int × Int)) (s : List Int) : ∀ k, k ≤ ms.length → (after ms k s).length ≤ s.length
 | 0, _ => by rw [after_zero]; exact Nat.le_refl _
 | k + 1, h => by
  rw [after_succ ms (List.getElem?_eq_getElem (show k < ms.length by omega))]
  exact Nat.le_trans (pass_len _ _ _ _) (after_len ms s k (by omega))
def encU8 (b : UInt8) : List Value := [.int .u8 ((b.toNat : Nat) : Int)]
theorem u8_cells (l : List UInt8) : l.flatMap encU8 = Lib.byteCells l := by
 induction l with
 | nil => rfl
 | cons b l ih => rw [List.flatMap_cons, ih]; rfl
theorem elU8 : ElT encU8 1 tBytes tU8 1 := ⟨fun _ => rfl, by decide, fun x u hu => by rw [List.mem_singleton.1 hu]; rfl, undBytes, _, infoU8, rfl⟩
theorem flat_len {α : Type} {f : List Int → List α} (hf : ∀ p, (f p).length ≤ p.length) : ∀ l : List (List Int), (l.flatMap f).length ≤ l.flatten.length
 | [] => Nat.le_refl _
 | p :: l => by
  have := hf p
  have := flat_len hf l
  rw [List.flatMap_cons, List.flatten_cons, List.length_append, List.length_append]
  omega
theorem ElT.pushAt {α : Type} {enc : α → List Value} {sz bytes : Nat} {t e : TypeId} (E : ElT enc sz t e bytes) {B : Nat} {w : World} {s : Sl} {xs : List α} (hown : w.ownsRow B e sz s.v s.n (xs.flatMap enc)) (x : α) {b : Nat} {T : TypeId} {fz : Nat × Nat} (hx : w.heap[b]? = some (.cells (enc x).toArray T fz)) (hB : B ≤ w.heap.size) (hn : s.n ≤ 1000000000) (hb : bytes ≤ 1000) :
  ∃ (l : Sl) (w4 : World), l.n = s.n + 1 ∧ (Builtin.append_ #[t, t] t #[.slice s.a s.n s.c, .slice (some ⟨b, 0, none⟩) 1 1]).run Tryz.prog w = .ok (.slice l.a l.n l.c) w4 ∧ w4.ownsRow B e sz l.v l.n ((xs ++ [x]).flatMap enc) ∧ (∀ w0, Below B w0 w → Below B w0 w4) ∧ (∀ k, k < w.heap.size → s.v.ownBlock ≠ some k → w4.heap[k]? = w.heap[k]?) := by
 obtain ⟨z, hi, hzs⟩ := E.hz
 have hmul : (s.n + 1) * bytes ≤ (1000000000 + 1) * 1000 := Nat.mul_le_mul (by omega) hb
 obtain ⟨A, C, w4, h1, h2, h3, h4⟩ := push_any (enc := enc) (sz := sz) E.hsz E.h0 E.h1 t e E.ht hi hzs hown x hx hB (by omega) (by omega)
 exact ⟨⟨A, s.n + 1, C⟩, w4, rfl, h1, h2, h3, h4⟩
theorem Rw.cut {α : Type} {enc : α → List Value} {sz : Nat} {w : World} {a : Option Addr} {xs : List α} (h : Rw enc sz w a xs) (i m : Nat) (hm : xs.length ≤ m) : Rw enc sz w (slBase a i m sz) (xs.drop i) := by
 intro j x hj
 rw [List.getElem?_drop] at hj
 have hlt := (List.getElem?_eq_some_iff.1 hj).1
 obtain ⟨p, rfl, hp, hc⟩ := h _ _ hj
 unfold slBase
 rw [if_neg (by omega)]
 refine ⟨p.add (i * sz), rfl, by rw [add_block]; exact hp, fun k v hk => ?_⟩
 rw [Addr.add_add p, ← Nat.add_mul]
 exact hc k v hk
theorem Rw.take {α : Type} {enc : α → List Value} {sz : Nat} {w : World} {a : Option Addr} {xs : List α} (h : Rw enc sz w a xs) (n : Nat) : Rw enc sz w a (xs.take n) := by
 intro j x hj
 rw [List.getElem?_take] at hj
 split at hj
 ·exact h j x hj
 ·cases hj
theorem VocIs.lt {w : World} {v : Nat} {s : SpecV} {T : List Ent} (h : VocIs w v s T) : v < w.heap.size := by
 obtain ⟨w0, x, tp, bp, mp, d, l, uses, hR⟩ := h
 exact (Array.getElem?_eq_some_iff.1 hR.blk).1
open Go.ChangeShapes Go.WideShapes
section
variable {H : Type} {enc0 : TypeId × Value → H} {w : World} {base : Nat} {spare : Nat → Bool} {held : Bool}
end
def vc76 (a b : OA) (c d : Nat) (w : World) (R : RW) : Prop :=
 ∀ f, f = w.alloc (.cells #[pointer a] 31) →
 ∃ g, f.cell? (nb w) = some (pointer g) ∧
 CondP (Option.isNone g)
 (R (slice none 0 0) f)
 (CP 137 #[slice b c d, func (.func 138) #[] #[pointer (some (nb w))]] f (fun h i =>
 ∃ j, h = .returned (bool j) ∧
 CondP j
 (R (slice none 0 0) i)
 (∃ k, i.cell? (nb w) = some (pointer k) ∧
 CP 140 #[pointer k, slice b c d] i (fun l m =>
 ∃ n o p, l = .returned (slice n o p) ∧
 R (slice n o p) m))))
theorem vc76_calls (a b : OA) (c d : Nat) (w : World) (R : RW) (hh : vc76 a b c d w R) : CR 76 #[pointer a, slice b c d] w R :=
 cden (fn := Tryz.f76) (by kernel_rfl) (by kernel_rfl) (by kernel_rfl) (by kernel_rfl) (by kernel_rfl) hh
def vc137 (a : OA) (b c : Nat) (d : Value) (w : World) (R : RW) : Prop :=
 CP 94 #[slice a b c, d] w (fun f g =>
 ∃ h, f = .returned (int .i64 h) ∧
 R (bool (decide (h ≥ 0))) g)
theorem vc137_calls (a : OA) (b c : Nat) (d : Value) (w : World) (R : RW) (hh : vc137 a b c d w R) : CR 137 #[slice a b c, d] w R :=
 cden (fn := Tryz.f137) (by kernel_rfl) (by kernel_rfl) (by kernel_rfl) (by kernel_rfl) (by kernel_rfl) hh
def vc138 (a : Int) (b : OA) (w : World) (R : RW) : Prop :=
 NilC b (fun c =>
 ∃ d, w.cell? c = some (pointer d) ∧
 CP 139 #[pointer d, int .i64 a] w (fun f g =>
 ∃ h, f = .returned (bool h) ∧
 R (bool (!h)) g))
theorem vc138_calls (a : Int) (b : OA) (w : World) (R : RW) (hh : vc138 a b w R) : CR 138 #[int .i64 a, pointer b] w R :=
 cden (fn := Tryz.f138) (by kernel_rfl) (by kernel_rfl) (by kernel_rfl) (by kernel_rfl) (by kernel_rfl) hh
def vc139 (a : OA) (b : Int) (w : World) (R : RW) : Prop :=
 CondP (decide (b ≥ 0))
 (CondP (decide (b < 256))
 (R (bool true) w)
 (CondP (decide (b < 0))
 (CP 73 #[pointer a] w (fun c d =>
 ∃ f, c = .returned (pointer f) ∧
 CP 184 #[pointer f] d (fun g h =>
 ∃ i, g = .returned (int .i64 i) ∧
 Ar .i64 (0 - i) (fun j =>
 R (bool (decide (b ≥ j))) h))))
 (R (bool false) w)))
 (CondP (decide (b < 0))
 (CP 73 #[pointer a] w (fun k l =>
 ∃ m, k = .returned (pointer m) ∧
 CP 184 #[pointer m] l (fun n o =>
 ∃ p, n = .returned (int .i64 p) ∧
 Ar .i64 (0 - p) (fun q =>
 R (bool (decide (b ≥ q))) o))))
 (R (bool false) w))
theorem vc139_calls (a : OA) (b : Int) (w : World) (R : RW) (hh : vc139 a b w R) : CR 139 #[pointer a, int .i64 b] w R :=
 cden (fn := Tryz.f139) (by kernel_rfl) (by kernel_rfl) (by kernel_rfl) (by kernel_rfl) (by kernel_rfl) hh
def vc185 (a b : OA) (c d : Nat) (w : World) (R : RW) : Prop :=
 ∀ f, f = w.alloc (.cells #[pointer a] 31) →
 ∀ g, g = f.alloc (.cells #[slice b c d] 28) →
 R (func (.func 219) #[] #[pointer (some (nb f)), pointer (some (nb w))]) g
theorem vc185_calls (a b : OA) (c d : Nat) (w : World) (R : RW) (hh : vc185 a b c d w R) : CR 185 #[pointer a, slice b c d] w R :=
 cden (fn := Tryz.f185) (by kernel_rfl) (by kernel_rfl) (by kernel_rfl) (by kernel_rfl) (by kernel_rfl) hh
def vc186 (a b : OA) (c d : Nat) (w : World) (R : RW) : Prop :=
 NilC b (fun f =>
 (0 : Int) ≤ 0 ∧ 0 < (c : Int) ∧
 ∃ g, w.cell? (f.add ((0 : Int).toNat * 1)) = some (int .i64 g) ∧
 CondP (decide (g < 0))
 (∀ h, h = w.drew →
 NilC b (fun i =>
 (0 : Int) ≤ 0 ∧ 0 < (c : Int) ∧
 ∃ j, h.cell? (i.add ((0 : Int).toNat * 1)) = some (int .i64 j) ∧
 CP 73 #[pointer a] h (fun k l =>
 ∃ m, k = .returned (pointer m) ∧
 (l.cell? (i.add ((0 : Int).toNat * 1)) = some (int .i64 j) ∧ True) ∧
 CP 221 #[pointer m, int .i64 j] l (fun n o =>
 ∃ p q, n = .returned (tuple #[int .i64 p, bool q]) ∧
 ∀ r, r = o.alloc (.cells #[int .i64 p] 3) →
 R (slice (some (nb o)) 1 1) r))))
 (CP 67 #[pointer a] w (fun s t =>
 ∃ u, s = .returned (pointer u) ∧
 CP 222 #[slice b c d] t (fun x y =>
 ∃ z, x = .returned (string z) ∧
 CP 191 #[pointer u, string z] y (fun a1 b1 =>
 ∃ c1 d1 e1, a1 = .returned (slice c1 d1 e1) ∧
 R (slice c1 d1 e1) b1)))))
theorem vc186_calls (a b : OA) (c d : Nat) (w : World) (R : RW) (hh : vc186 a b c d w R) : CR 186 #[pointer a, slice b c d] w R :=
 cden (fn := Tryz.f186) (by kernel_rfl) (by kernel_rfl) (by kernel_rfl) (by kernel_rfl) (by kernel_rfl) hh
def vc220 (a b : OA) (c d : Nat) (w : World) (R : RW) : Prop :=
 NilC b (fun f =>
 (0 : Int) ≤ 0 ∧ 0 < (c : Int) ∧
 ∃ g, w.cell? (f.add ((0 : Int).toNat * 1)) = some (int .i64 g) ∧
 CondP (decide (g < 0))
 (R (int .i64 1) w)
 (∀ h : KW, (∀ (i j : Int) (k : World), (CondP (decide (i < (c : Int)))
 (∀ l, l = k.drew →
 NilC b (fun m =>
 (0 : Int) ≤ i ∧ i < (c : Int) ∧
 ∃ n, l.cell? (m.add (i.toNat * 1)) = some (int .i64 n) ∧
 CondP (decide (n < 0))
 (R (int .i64 i) l)
 (Ar .i64 (i - 1) (fun o =>
 NilC b (fun p =>
 (0 : Int) ≤ o ∧ o < (c : Int) ∧
 ∃ q, l.cell? (p.add (o.toNat * 1)) = some (int .i64 q) ∧
 NilC b (fun r =>
 (0 : Int) ≤ i ∧ i < (c : Int) ∧
 ∃ s, l.cell? (r.add (i.toNat * 1)) = some (int .i64 s) ∧
 CP 194 #[pointer a] l (fun t u =>
 ∃ x, t = .returned (pointer x) ∧
 (u.cell? (r.add (i.toNat * 1)) = some (int .i64 s) ∧ True) ∧
 (u.cell? (p.add (o.toNat * 1)) = some (int .i64 q) ∧ True) ∧
 CP 229 #[pointer x, int .u8 (IntKind.wrap .u8 q), int .u8 (IntKind.wrap .u8 s)] u (fun y z =>
 ∃ a1, y = .returned (bool a1) ∧
 CondP a1
 (R (int .i64 i) z)
 (Ar .i64 (i + 1) (fun b1 =>
 h [int .i64 b1, int .i64 j] z))))))))))
 (R (int .i64 (c : Int)) k)) → h [int .i64 i, int .i64 j] k) →
 h [int .i64 1, int .i64 0] w))
theorem vc220_calls (a b : OA) (c d : Nat) (w : World) (R : RW) (hh : vc220 a b c d w R) : CR 220 #[pointer a, slice b c d] w R :=
 cden (fn := Tryz.f220) (by kernel_rfl) (by kernel_rfl) (by kernel_rfl) (by kernel_rfl) (by kernel_rfl) hh
def vc222 (a : OA) (b c : Nat) (w : World) (R : RW) : Prop :=
 ∃ d f g h, (Instr.makeSlice 134 (int .i64 0) (int .i64 (b : Int))).run Tryz.prog w = .ok (slice d f g) h ∧
 ∀ i : KW, (∀ (j : Int) (k : OA) (l m : Nat) (n : World), (CondP (decide (j < (b : Int)))
 (NilC a (fun o =>
 (0 : Int) ≤ j ∧ j < (b : Int) ∧
 ∃ p, n.cell? (o.add (j.toNat * 1)) = some (int .i64 p) ∧
 ∀ q, q = n.alloc (.cells #[int .u8 (IntKind.wrap .u8 p)] 5) →
 ∃ r s t u, (Builtin.append_ #[134, 134] 134 #[slice k l m, slice (some (nb n)) 1 1]).run Tryz.prog q = .ok (slice r s t) u ∧
 Ar .i64 (j + 1) (fun x =>
 i [int .i64 x, slice r s t] u)))
 (∃ y z, (convert 134 9 (slice k l m)).run Tryz.prog n = .ok (string y) z ∧
 R (string y) z)) → i [int .i64 j, slice k l m] n) →
 i [int .i64 0, slice d f g] h
theorem vc222_calls (a : OA) (b c : Nat) (w : World) (R : RW) (hh : vc222 a b c w R) : CR 222 #[slice a b c] w R :=
 cden (fn := Tryz.f222) (by kernel_rfl) (by kernel_rfl) (by kernel_rfl) (by kernel_rfl) (by kernel_rfl) hh
def itemOk (s : SpecV) (x : Int) : Bool := decide ((0 ≤ x ∧ x < 256) ∨ (x < 0 ∧ -(s.specials.length : Int) ≤ x))
theorem encRight_spec (w : World) (v : Nat) (c : Array Value) (tp bp mp : Nat) (h : VBlk w v c tp bp mp) (s : SpecV) (hM : MkIs w mp s.specials) (hl : s.specials.length ≤ 1000000) (x : Int) :
  CP 139 #[.pointer (some ⟨v, 0, none⟩), .int .i64 x] w fun e w' => e = .returned (.bool (itemOk s x)) ∧ w' = w := by
 refine calls_ret (vc139_calls (some ⟨v, 0, none⟩) x w (fun u w' => u = .bool (itemOk s x) ∧ w' = w) ?_) (by rintro v w' ⟨rfl, h⟩; exact ⟨rfl, h⟩)
 have neg : x < 0 → CP 73 #[.pointer (some ⟨v, 0, none⟩)] w (fun e1 w1 =>
          ∃ p : Option Addr, e1 = .returned (Value.pointer p) ∧
          CP 184 #[Value.pointer p] w1 (fun e2 w2 =>
          ∃ n : Int, e2 = .returned (Value.int .i64 n) ∧
          Ar .i64 (0 - n) (fun n_1 => Value.bool (decide ((x : Int) ≥ n_1)) = .bool (itemOk s x) ∧ w2 = w))) := by
  intro hx
  refine (vocMarks_spec h).mono ?_
  rintro e w1 ⟨rfl, hw⟩
  subst w1
  refine ⟨_, rfl, (markLen_spec w mp s.specials hM).mono ?_⟩
  rintro e w2 ⟨rfl, hw⟩
  subst w2
  refine ⟨_, rfl, Ar.ok64 (by omega) (by omega) ⟨?_, rfl⟩⟩
  congr 1
  exact decide_eq_decide.2 (by omega)
 refine CondP.mk (fun h0 => CondP.mk (fun h1 => ⟨?_, rfl⟩) fun h1 => CondP.no ?_ ⟨?_, rfl⟩) fun h0 => CondP.yes ?_ (neg ?_)
 ·have h0 := of_decide_eq_true h0
  have h1 := of_decide_eq_true h1
  rw [itemOk, decide_eq_true (.inl ⟨h0, h1⟩)]
 ·have h0 := of_decide_eq_true h0
  exact decide_eq_false (by omega)
 ·have h0 := of_decide_eq_true h0
  have h1 := of_decide_eq_false h1
  rw [itemOk, decide_eq_false (by omega)]
 ·have h0 := of_decide_eq_false h0
  exact decide_eq_true (by omega)
 ·have h0 := of_decide_eq_false h0
  omega
def cutN (cut : Int → Int → Bool) : List Int → Nat
 | [] => 0
 | [_] => 1
 | x :: y :: r => if cut x y = true then 1 else cutN cut (y :: r) + 1
theorem cutN_le (cut : Int → Int → Bool) : ∀ l, cutN cut l ≤ l.length
 | [] => Nat.le_refl _
 | [_] => Nat.le_refl _
 | x :: y :: r => by
  have := cutN_le cut (y :: r)
  rw [cutN]
  split
  ·simp
  ·simp at this ⊢; omega
theorem cutN_pos (cut : Int → Int → Bool) {l : List Int} (h : l ≠ []) : 1 ≤ cutN cut l := by
 match l, h with
 | [_], _ => exact Nat.le_refl _
 | x :: y :: r, _ =>
  rw [cutN]
  split <;> omega
theorem chop_cutN (cut : Int → Int → Bool) : ∀ {l : List Int}, l ≠ [] → chop cut l = l.take (cutN cut l) :: chop cut (l.drop (cutN cut l))
 | [_], _ => rfl
 | x :: y :: r, _ => by
  rw [chop, cutN]
  split
  ·rfl
  ·rw [chop_cutN cut (l := y :: r) (by simp)]
   rfl
theorem cutN_of {cut : Int → Int → Bool} : ∀ {l : List Int} {n : Nat}, 1 ≤ n → n ≤ l.length → (∀ j, j + 1 < n → ∀ a b, l[j]? = some a → l[j + 1]? = some b → cut a b = false) → (n = l.length ∨ ∃ a b, l[n - 1]? = some a ∧ l[n]? = some b ∧ cut a b = true) → cutN cut l = n
 | [], n, h1, h2, _, _ => by simp at h2; omega
 | [x], n, h1, h2, _, _ => by simp at h2; rw [cutN]; omega
 | x :: y :: r, n, h1, h2, h3, h4 => by
  rw [cutN]
  by_cases hn : n = 1
  ·subst hn
   rcases h4 with h4 | ⟨a, b, ha, hb, hc⟩
   ·simp at h4
   ·simp at ha hb
    subst ha hb
    rw [if_pos hc]
  ·have hc := h3 0 (by omega) x y rfl rfl
   rw [if_neg (by rw [hc]; decide)]
   have := cutN_of (cut := cut) (l := y :: r) (n := n - 1) (by omega) (by simp at h2 ⊢; omega) (fun j hj a b ha hb => h3 (j + 1) (by omega) a b (by simpa using ha) (by simpa using hb)) (by
    rcases h4 with h4 | ⟨a, b, ha, hb, hc⟩
    ·exact .inl (by simp at h4 ⊢; omega)
    ·refine .inr ⟨a, b, ?_, ?_, hc⟩
     ·rw [show n - 1 = (n - 1 - 1) + 1 by omega] at ha
      simpa using ha
     ·rw [show n = (n - 1) + 1 by omega] at hb
      simpa using hb)
   omega
theorem encCut_spec (w : World) (v : Nat) (c : Array Value) (tp bp mp : Nat) (h : VBlk w v c tp bp mp) (s : SpecV) (T : List Ent) (hB : BdIs w bp s.classes s.joins) (hcl : ∀ c ∈ s.classes, classOk c = true) (A : Option Addr) (C : Nat) (items : List Int) (hr : Rw encInt 1 w A items) (hne : items ≠ []) (hl : items.length ≤ 1000000) (hok : ∀ x ∈ items, x < 256) :
  CP 220 #[.pointer (some ⟨v, 0, none⟩), .slice A items.length C] w fun e w' => e = .returned (.int .i64 ((cutN (vocOf s T).cut items : Nat) : Int)) ∧ Below w.heap.size w w' := by
 refine calls_ret (vc220_calls (some ⟨v, 0, none⟩) A items.length C w (fun u w' => u = .int .i64 ((cutN (vocOf s T).cut items : Nat) : Int) ∧ Below w.heap.size w w') ?_) (by rintro v w' ⟨rfl, h⟩; exact ⟨rfl, h⟩)
 have hpos : 0 < items.length := List.length_pos_iff.2 hne
 obtain ⟨p, hp, c0⟩ := cell_rw hr hpos rfl
 have out : ∀ (n : Nat) (q : World), Below w.heap.size w q → 1 ≤ n → n ≤ items.length → (∀ j, j + 1 < n → ∀ a b, items[j]? = some a → items[j + 1]? = some b → (vocOf s T).cut a b = false) → (n = items.length ∨ ∃ a b, items[n - 1]? = some a ∧ items[n]? = some b ∧ (vocOf s T).cut a b = true) → Value.int .i64 (n : Int) = .int .i64 ((cutN (vocOf s T).cut items : Nat) : Int) ∧ Below w.heap.size w q := fun n q hq h1 h2 h3 h4 => ⟨by rw [cutN_of h1 h2 h3 h4], hq⟩
 refine NilC.mk p hp ⟨by decide, by omega, _, c0, CondP.mk (fun h0 => ?_) fun h0 => ?_⟩
 ·have h0 := of_decide_eq_true h0
  refine out 1 w (Below.refl _ _) (Nat.le_refl _) hpos (fun j hj => by omega) ?_
  by_cases e : items.length = 1
  ·exact .inl e.symm
  ·refine .inr ⟨items[0], items[1], List.getElem?_eq_getElem hpos, List.getElem?_eq_getElem (by omega), ?_⟩
   unfold Voc.cut
   rw [decide_eq_true h0]
   rfl
 ·have h0 := of_decide_eq_false h0
  intro I hI
  have key := climb2 (α := World) (items.length - 1) (fun i q => (∀ (j : Nat) (hj : j < items.length), j ≤ i → 0 ≤ items[j]) ∧ (∀ j, j + 1 < i + 1 → ∀ a b, items[j]? = some a → items[j + 1]? = some b → (vocOf s T).cut a b = false) ∧ Below w.heap.size w q) (fun i q => ∀ y4, I [.int .i64 ((i + 1 : Nat) : Int), .int .i64 y4] q) w ⟨fun j hj hj0 => by obtain rfl : j = 0 := (by omega); omega, fun j hj => by omega, Below.refl _ _⟩ ?_ ?_
  ·exact key _
  ·rintro i hi ih q ⟨hnn, hnc, hq⟩ y4
   refine hI _ y4 q (CondP.yes (decide_eq_true (by omega)) ?_)
   intro q1 hq1
   have hq1' := below_then hq (show Below q.heap.size q q1 by subst hq1; exact drew_on q)
   obtain ⟨p1, hp1, c1⟩ := cell_rw (hr.on hq1') (show i + 1 < items.length by omega) rfl
   obtain ⟨p2, hp2, c2⟩ := cell_rw (hr.on hq1') (show i < items.length by omega) rfl
   refine NilC.mk p1 hp1 ⟨by omega, by omega, _, c1, CondP.mk (fun hneg => ?_) fun hneg => ?_⟩
   ·have hneg := of_decide_eq_true hneg
    refine out (i + 1) q1 hq1' (by omega) (by omega) hnc (.inr ⟨items[i], items[i + 1], List.getElem?_eq_getElem (by omega), List.getElem?_eq_getElem (by omega), ?_⟩)
    unfold Voc.cut
    rw [decide_eq_true hneg]
    simp
   ·have hneg := of_decide_eq_false hneg
    have ha := hnn i (by omega) (Nat.le_refl _)
    have ha2 := hok _ (List.getElem_mem (show i < items.length by omega))
    have hb2 := hok _ (List.getElem_mem (show i + 1 < items.length by omega))
    have wa : IntKind.wrap .u8 items[i] = items[i] := wrap_in (by show (0 : Int) ≤ _; omega) (by show _ ≤ (255 : Int); omega)
    have wb : IntKind.wrap .u8 items[i + 1] = items[i + 1] := wrap_in (by show (0 : Int) ≤ _; omega) (by show _ ≤ (255 : Int); omega)
    refine Ar.nat i (by omega) (by omega) (NilC.mk p2 hp2 ⟨by omega, by omega, _, c2, NilC.mk p1 hp1 ⟨by omega, by omega, _, c1, (vocBounds_spec (h.on hq1')).mono ?_⟩⟩)
    rintro e q2 ⟨rfl, hw⟩
    subst q2
    refine ⟨_, rfl, ⟨c1, trivial⟩, ⟨c2, trivial⟩, ?_⟩
    rw [wa, wb]
    refine (cuts_spec q1 bp s.classes s.joins (hB.on hq1') hcl _ _ ⟨ha, ha2⟩ ⟨by omega, hb2⟩).mono ?_
    rintro e q3 ⟨rfl, b3⟩
    have hq3 := below_then hq1' b3
    have hcut : (vocOf s T).cut items[i] items[i + 1] = cutB s.classes s.joins items[i] items[i + 1] := by
     unfold Voc.cut
     rw [decide_eq_false (by omega), decide_eq_false (by omega)]
     rfl
    refine ⟨_, rfl, CondP.mk (fun hc => ?_) fun hc => ?_⟩
    ·exact out (i + 1) q3 hq3 (by omega) (by omega) hnc (.inr ⟨items[i], items[i + 1], List.getElem?_eq_getElem (by omega), List.getElem?_eq_getElem (by omega), by rw [hcut]; exact hc⟩)
    ·refine Ar.nat (i + 1 + 1) rfl (by omega) (ih q3 ⟨fun j hj hji => ?_, fun j hj a b h1 h2 => ?_, hq3⟩ _)
     ·by_cases e : j = i + 1
      ·subst e; omega
      ·exact hnn j hj (by omega)
     ·by_cases e : j = i
      ·subst e
       rw [List.getElem?_eq_getElem (by omega)] at h1 h2
       cases h1
       cases h2
       rw [hcut]
       exact hc
      ·exact hnc j (by omega) a b h1 h2
  ·rintro q ⟨hnn, hnc, hq⟩ y4
   refine hI _ y4 q (CondP.no (decide_eq_false (by omega)) (out items.length q hq hpos (Nat.le_refl _) (fun j hj => hnc j (by omega)) (.inl rfl)))
theorem run_makeB0 (w : World) (c : Nat) (hc : c ≤ 1000000) : ∃ w1, (Instr.makeSlice tBytes (.int .i64 0) (.int .i64 (c : Int))).run Tryz.prog w = .ok (.slice (some (nb w)) 0 c) w1 ∧ w1.ownsRow w.heap.size tU8 1 (.slice (some (nb w)) 0 c) 0 (([] : List UInt8).flatMap encU8) ∧ Below w.heap.size w w1 := by
 have h : (Tryz.prog.info? tU8).map (fun i => (i.zero, i.size, i.bytes)) = some (some (.int .u8 0), 1, 1) := by kernel_rfl
 obtain ⟨i, hi, he⟩ := Option.map_eq_some_iff.1 h
 simp only [Prod.mk.injEq] at he
 obtain ⟨hz, hs, hb⟩ := he
 have := Go.run_make (P := Tryz.prog) w tBytes tU8 i (.int .u8 0) (by kernel_rfl) hi hz .i64 .i64 0 (c : Int) (by omega) (by omega) (by rw [hb]; omega) (by omega)
 refine ⟨_, this, ?_, below_alloc _ _⟩
 refine ⟨rfl, .inr ⟨w.heap.size, c, _, rfl, Nat.le_refl _, alloc_new _ _, Nat.zero_le _, by unfold maxLen; omega, ?_, by simp⟩⟩
 rw [size_madeCells, hs]
 simp
def toBs (l : List Int) : Bs := l.map fun x => UInt8.ofNat x.toNat
theorem toBs_ints {l : List Int} (h : ∀ x ∈ l, 0 ≤ x ∧ x < 256) : ints (toBs l) = l := by
 unfold ints toBs
 rw [List.map_map]
 conv => rhs; rw [← List.map_id l]
 apply List.map_congr_left
 intro x hx
 obtain ⟨h1, h2⟩ := h x hx
 show ((UInt8.ofNat x.toNat).toNat : Int) = x
 rw [UInt8.toNat_ofNat']
 omega
theorem one_u8 {x : Int} (h : 0 ≤ x ∧ x < 256) : (#[Value.int .u8 (IntKind.wrap .u8 x)] : Array Value) = (encU8 (UInt8.ofNat x.toNat)).toArray := by
 rw [wrap_in (by show (0 : Int) ≤ _; omega) (by show _ ≤ (255 : Int); omega)]
 unfold encU8
 rw [UInt8.toNat_ofNat', show ((x.toNat % 2 ^ 8 : Nat) : Int) = x by omega]
theorem encText_spec (w : World) (A : Option Addr) (C : Nat) (items : List Int) (hr : Rw encInt 1 w A items) (hl : items.length ≤ 100000) (hb : ∀ x ∈ items, 0 ≤ x ∧ x < 256) :
  CP 222 #[.slice A items.length C] w fun e w' => e = .returned (.string (str (toBs items))) ∧ Below w.heap.size w w' := by
 refine calls_ret (vc222_calls A items.length C w (fun u w' => u = .string (str (toBs items)) ∧ Below w.heap.size w w') ?_) (by rintro v w' ⟨rfl, h⟩; exact ⟨rfl, h⟩)
 obtain ⟨w1, hr1, o1, b1⟩ := run_makeB0 w items.length (by omega)
 refine ⟨_, _, _, w1, hr1, ?_⟩
 intro I hI
 have key := climb2 (α := Sl × World) items.length (fun i y => y.2.ownsRow w.heap.size tU8 1 y.1.v y.1.n ((toBs (items.take i)).flatMap encU8) ∧ y.1.n = i ∧ Below w.heap.size w y.2) (fun i y => I [.int .i64 (i : Int), y.1.v] y.2) (⟨some (nb w), 0, items.length⟩, w1) ⟨o1, rfl, b1⟩ ?_ ?_
 ·exact key
 ·rintro i hi ih ⟨f, q⟩ ⟨hown, hfn, hB⟩
  change q.ownsRow w.heap.size tU8 1 f.v f.n _ at hown
  change f.n = i at hfn
  change Below w.heap.size w q at hB
  obtain ⟨p, hp, c0⟩ := cell_rw (hr.on hB) hi rfl
  refine hI _ f.a f.n f.c q (CondP.yes (decide_eq_true (by omega)) (NilC.mk p hp ⟨by omega, by omega, _, c0, ?_⟩))
  intro q2 hq2
  rw [one_u8 (hb _ (List.getElem_mem hi))] at hq2
  obtain ⟨f', q3, e1, e2, e3, e4, _⟩ := elU8.push hown (UInt8.ofNat items[i].toNat) hq2 rfl hB.size (by omega) (by decide)
  refine ⟨f'.a, f'.n, f'.c, q3, e2, Ar.nat (i + 1) rfl (by omega) (ih (f', q3) ⟨?_, by show f'.n = i + 1; omega, e4 _ hB⟩)⟩
  have e : toBs (items.take (i + 1)) = toBs (items.take i) ++ [UInt8.ofNat items[i].toNat] := by
   unfold toBs
   rw [List.take_add_one, List.getElem?_eq_getElem hi, List.map_append]
   rfl
  rw [e]
  exact e3
 ·rintro ⟨f, q⟩ ⟨hown, hfn, hB⟩
  change q.ownsRow w.heap.size tU8 1 f.v f.n _ at hown
  rw [List.take_length] at hown
  exact hI _ f.a f.n f.c q (CondP.no (decide_eq_false (by omega)) ⟨_, q, run_str_own (P := Tryz.prog) undBytes undU8 undStr (by rw [← u8_cells]; exact hown), rfl, hB⟩)
theorem encP_cons (V : Voc) (x : Int) (r : List Int) : V.encP (x :: r) = if x < 0 then [V.sp.getD (-1 - x).toNat 0] else after V.ms V.ms.length (x :: r) := rfl
def PieceOk (s : SpecV) (p : List Int) : Prop := (∃ x, p = [x] ∧ x < 0 ∧ -(s.specials.length : Int) ≤ x) ∨ (p ≠ [] ∧ ∀ x ∈ p, 0 ≤ x ∧ x < 256)
theorem encPiece_spec (w : World) (v : Nat) (c : Array Value) (tp bp mp : Nat) (h : VBlk w v c tp bp mp) (s : SpecV) (T : List Ent) (x : SpecW) (hP : VocParts w s T x tp bp mp) (A : Option Addr) (C : Nat) (p : List Int) (hr : Rw encInt 1 w A p) (hp : PieceOk s p) (hl : p.length ≤ 100000) :
  CP 186 #[.pointer (some ⟨v, 0, none⟩), .slice A p.length C] w fun e w' => ∃ l : Sl, e = .returned l.v ∧ l.n = ((vocOf s T).encP p).length ∧ w'.ownsRow w.heap.size tInt 1 l.v l.n (((vocOf s T).encP p).flatMap encInt) ∧ Below w.heap.size w w' := by
 refine calls_ret (vc186_calls (some ⟨v, 0, none⟩) A p.length C w (fun u w' => ∃ l : Sl, u = l.v ∧ l.n = ((vocOf s T).encP p).length ∧ w'.ownsRow w.heap.size tInt 1 l.v l.n (((vocOf s T).encP p).flatMap encInt) ∧ Below w.heap.size w w') ?_) (by rintro v w' ⟨l, rfl, h⟩; exact ⟨l, rfl, h⟩)
 have hne : 0 < p.length := by
  rcases hp with ⟨x, rfl, _⟩ | ⟨h, _⟩
  ·exact Nat.succ_pos _
  ·exact List.length_pos_iff.2 h
 obtain ⟨a, ha, c0⟩ := cell_rw hr hne rfl
 refine NilC.mk a ha ⟨by decide, by omega, _, c0, CondP.mk (fun h0 => ?_) fun h0 => ?_⟩
 ·have h0 := of_decide_eq_true h0
  rcases hp with ⟨y, rfl, hy, hy2⟩ | ⟨_, hb⟩
  ·intro w1 hw1
   have b1 : Below w.heap.size w w1 := by subst hw1; exact drew_on w
   obtain ⟨a1, ha1, c1⟩ := cell_rw (hr.on b1) hne rfl
   have hfew := hP.few
   refine NilC.mk a1 ha1 ⟨by decide, by simp, _, c1, (vocMarks_spec (h.on b1)).mono ?_⟩
   rintro e w2 ⟨rfl, hw⟩
   subst w2
   refine ⟨_, rfl, ⟨c1, trivial⟩, (markId_spec w1 mp s.specials (hP.on b1).marks (by omega) _ (by show -1000000000000 ≤ y; omega)).mono ?_⟩
   rintro e w3 ⟨rfl, b3⟩
   refine ⟨_, _, rfl, ?_⟩
   intro w4 hw4
   have b4 : Below w3.heap.size w3 w4 := by subst hw4; exact below_alloc _ _
   have hb := below_then (below_then b1 b3) b4
   have eP : (vocOf s T).encP [y] = [((markAt s.specials y).map (·.1)).getD 0] := by
    rw [encP_cons, if_pos hy, markAt, if_pos hy]
    show [(s.specials.map (·.1)).getD (-1 - y).toNat 0] = _
    rw [List.getD, List.getElem?_map]
   refine ⟨⟨some (nb w3), 1, 1⟩, rfl, by rw [eP]; rfl, ?_, hb⟩
   rw [eP]
   have hz := (below_then b1 b3).size
   subst hw4
   exact ⟨rfl, .inr ⟨w3.heap.size, 1, _, rfl, hz, alloc_new _ _, Nat.le_refl _, by unfold maxLen; omega, rfl, rfl⟩⟩
  ·exact absurd (hb _ (List.getElem_mem hne)).1 (by omega)
 ·have h0 := of_decide_eq_false h0
  rcases hp with ⟨y, rfl, hy, _⟩ | ⟨hne2, hb⟩
  ·exact absurd hy h0
  ·refine (vocTable_spec h).mono ?_
   rintro e w2 ⟨rfl, hw⟩
   subst w2
   refine ⟨_, rfl, (encText_spec w A C p hr hl hb).mono ?_⟩
   rintro e w3 ⟨rfl, b3⟩
   have hP3 := hP.on b3
   have hgood := good_of hP.ok
   refine ⟨_, rfl, (encode_spec w3 tp T hP3.tab hP3.ok.sound hP3.ok.pos (toBs p) (by unfold toBs; rw [List.length_map]; exact hl)).mono ?_⟩
   rintro e w4 ⟨A4, n4, C4, rfl, ho, hn, b4⟩
   have eP : encAll T (toBs p) = (vocOf s T).encP p := by
    rw [encAll_after hP.ok, toBs_ints hb]
    match p, hne2, hb with
    | y :: r, _, hb =>
     rw [encP_cons, if_neg (by have := (hb y List.mem_cons_self).1; omega)]
     rfl
   rw [eP] at ho hn
   exact ⟨_, _, _, rfl, ⟨A4, n4, C4⟩, rfl, hn, own_base ho b3.size, below_then b3 b4⟩
theorem rangeFunc_state {α : Type} {P : Program} {g : Operand} {ps : Array Tmp} {assign body : Code} {Q : Exit → Act → World → Prop} {a : Act} {w : World} {n : Nat}
  {gf : Nat} {lb : Array Value} (hg : a.eval g = .func (.func gf) #[] lb) (eg : ∀ args w, (callFunc gf args).run P w = .ok (.enter gf args) w)
  {encs : α → Array Value} (x0 : α) (last : α → Prop) (hps : ∀ i, (encs i).size = ps.size)
  (R R' : α → World → Prop) (hRp : ∀ i W k o o', R i W → w.heap.size ≤ k → W.heap[k]? = some o → o.isCells = false → R i (W.putObj k o'))
  (hRp' : ∀ i W k o o', R' i W → w.heap.size ≤ k → W.heap[k]? = some o → o.isCells = false → R' i (W.putObj k o'))
  (h0 : ∀ o o', R x0 ((w.alloc o).alloc o'))
  (hseq : ∀ (l : Nat) (W : World) (Keep : World → Prop), (∀ W W', Keep W → KeepsOthers W W' → Keep W') →
   (∀ i W1, ¬ last i → R i W1 → Keep W1 → YieldAt Fence.wide 0 P l (encs i) W1 fun e W' => e = .returned (.bool true) ∧ R' i W' ∧ Keep W') → R x0 W → Keep W →
   CallsIn Fence.wide 0 P gf (#[.func (.yield l) #[] #[]] ++ lb) W fun e W' => (∃ v, e = .returned v) ∧ (∃ x, last x ∧ R x W') ∧ Keep W')
  (a₁ : α → Act)
  (hassign : ∀ (l : Nat) (i : α) (W : World) (K : Act → World → Prop), K (a₁ i) W →
   assign.wpIn (Fence.wide.inRound l) 0 P (Exit.then K (fun _ _ _ => False)) { tmps := (ps.zip (encs i)).foldl (fun t (p, v) => t.setIfInBounds p v) a.tmps, defers := [] } W)
  (hbody : ∀ (l : Nat) (i : α) (W : World), ¬ last i → R i W → body.wpIn (Fence.wide.inRound l) 0 P (fun e _ W' => e = .normal ∧ KeepsOthers W W' ∧ R' i W') (a₁ i) W)
  (hdone : ∀ (D : Nat) (x : α) (W : World), w.heap.size ≤ D → last x → R x W → W.heap[D]? = some (.deferred (some [])) → Q .normal { a with defers := { target := .collected D, args := #[] } :: a.defers } W) :
  (Code.rangeFunc g ps assign body).wpIn Fence.wide 0 P Q a w := by
 refine wpIn_rangeFunc ?_
 intro fn hfn
 obtain ⟨rec, hrec⟩ : ∃ rec : LoopState → Loop, rec = fun st => { state := st, pending := none, fn, tmps := a.tmps, params := ps, assign, body, defers := w.heap.size } := ⟨_, rfl⟩
 obtain ⟨W1, hW1⟩ : ∃ W1, (w.alloc (.deferred (some []))).alloc (.loop (rec .ready)) = W1 := ⟨_, rfl⟩
 have hL1 : W1.heap[w.heap.size + 1]? = some (.loop (rec .ready)) := by
  rw [← hW1]
  have := World.alloc_heap_new (w.alloc (.deferred (some []))) (.loop (rec .ready))
  rwa [World.size_alloc] at this
 have hK1 : W1.heap[w.heap.size]? = some (.deferred (some [])) := by
  rw [← hW1]
  exact (Below.heap_alloc _ _ _ (by simp)).trans (World.alloc_heap_new w _)
 refine ⟨w.heap.size + 1, [{ target := .collected w.heap.size, args := #[] }], W1, { target := .fn (.func gf) lb, args := #[.func (.yield (w.heap.size + 1)) #[] #[]] }, W1, gf,
  #[.func (.yield (w.heap.size + 1)) #[] #[]] ++ lb, W1, ?_, ?_, ?_, ?_, fun h => (by cases h), ?_⟩
 ·rw [← hW1, hrec]
  exact run_enterLoop_outer _ _ _ _ _
 ·simp only [resolve, hg]
  simp [go_sem]
 ·intro f' _
  trivial
 ·simp [invoke, go_sem, eg]
 ·refine (hseq (w.heap.size + 1) W1 (fun W => W.heap[w.heap.size + 1]? = some (.loop (rec .ready)) ∧ W.heap[w.heap.size]? = some (.deferred (some [])))
   (fun W W' h k => ⟨k.same _ _ h.1 rfl, k.same _ _ h.2 rfl⟩) ?_ (by rw [← hW1]; exact h0 _ _) ⟨hL1, hK1⟩).mono ?_
  ·rintro i W hi hr ⟨hl, hk⟩
   have hlt : w.heap.size + 1 < W.heap.size := (Array.getElem?_eq_some_iff.1 hl).1
   have hy := run_yield (P := P) (args := encs i) hl (by rw [hrec]; exact hps i)
   rw [hrec] at hy
   refine ⟨fn, _, assign, body, hy, roundIn_of_wpIn hfn (hassign _ i W _ ⟨_, run_beginRound hl (by rw [hrec]), ?_⟩)⟩
   have hl2 : (W.putObj (w.heap.size + 1) (.loop { rec .ready with state := .busy })).heap[w.heap.size + 1]? = some (.loop { rec .ready with state := .busy }) := World.putObj_heap_same hlt
   have hk2 : (W.putObj (w.heap.size + 1) (.loop { rec .ready with state := .busy })).heap[w.heap.size]? = some (.deferred (some [])) := (World.putObj_heap_other (by omega)).trans hk
   refine wpIn_mono (hbody _ i _ hi (hRp _ _ _ _ _ hr (by omega) hl rfl)) ?_
   rintro e a3 W3 ⟨rfl, hk3, hr3⟩
   have hl3 := hk3.same _ _ hl2 rfl
   refine ⟨_, _, run_endRound none hl3, rfl, hRp' _ _ _ _ _ hr3 (by omega) hl3 rfl, ?_, (World.putObj_heap_other (by omega)).trans (hk3.same _ _ hk2 rfl)⟩
   rw [hrec]
   exact World.putObj_heap_same (Array.getElem?_eq_some_iff.1 hl3).1
  ·rintro e W2 ⟨⟨v, rfl⟩, ⟨x, hx, hr⟩, hl, hk⟩
   have he := run_endLoop (P := P) hl (by rw [hrec]; simp)
   rw [hrec] at he
   exact ⟨none, _, he, hdone _ x _ (Nat.le_refl _) hx (hRp _ _ _ _ _ hr (by omega) hl rfl) ((World.putObj_heap_other (by omega)).trans hk)⟩
open Go Go.RowKit Go.Shelf
attribute [local go_sem] Oper.semAt_some
abbrev Pl := Nat × Sl
def nextPl (k : Nat) (x : Pl) : Pl := (x.1 + k, ⟨slBase x.2.a k x.2.c 1, x.2.n - k, x.2.c - k⟩)
structure RestIs (w : World) (v tp bp mp Bi Bv : Nat) (c : Array Value) (s : SpecV) (items : List Int) (x : Pl) : Prop where
 box : w.heap[Bi]? = some (.cells #[x.2.v] tInts (0, 0))
 vbox : w.heap[Bv]? = some (.cells #[.pointer (some ⟨v, 0, none⟩)] 31 (0, 0))
 blk : VBlk w v c tp bp mp
 bd : BdIs w bp s.classes s.joins
 row : Rw encInt 1 w x.2.a (items.drop x.1)
 len : x.2.n = (items.drop x.1).length
 cap : x.2.n ≤ x.2.c
set_option maxHeartbeats 2000000 in
theorem pieces1_spec (v tp bp mp Bi Bv : Nat) (c : Array Value) (s : SpecV) (T : List Ent) (hcl : ∀ c ∈ s.classes, classOk c = true) (items : List Int) (hl : items.length ≤ 1000000) (hok : ∀ x ∈ items, x < 256)
  (l : Nat) (R R' : Pl → World → Prop) (Keep : World → Prop) (hK : ∀ W W', Keep W → KeepsOthers W W' → Keep W')
  (hR : ∀ x W, R x W → RestIs W v tp bp mp Bi Bv c s items x)
  (hRb : ∀ x W W', R x W → Below W.heap.size W W' → R x W')
  (hR' : ∀ x W, R' x W → W.heap[Bi]? = some (.cells #[x.2.v] tInts (0, 0)))
  (hRn : ∀ x W k, k = cutN (vocOf s T).cut (items.drop x.1) → R' x W → R (nextPl k x) (W.setCell ⟨Bi, 0, none⟩ (nextPl k x).2.v))
  (hY : ∀ x W1 k, k = cutN (vocOf s T).cut (items.drop x.1) → R x W1 → x.2.n ≠ 0 → Keep W1 → YieldAt Fence.wide 0 Tryz.prog l #[.slice x.2.a k k] W1 fun e W' => e = .returned (.bool true) ∧ R' x W' ∧ Keep W')
  (x0 : Pl) (W : World) (h0 : R x0 W) (hk0 : Keep W) :
  CallsIn Fence.wide 0 Tryz.prog 219 #[.func (.yield l) #[] #[], .pointer (some ⟨Bi, 0, none⟩), .pointer (some ⟨Bv, 0, none⟩)] W fun e W' => (∃ v, e = .returned v) ∧ (∃ x : Pl, x.2.n = 0 ∧ R x W') ∧ Keep W' := by
 refine callsIn_of_wp Tryz.func219 rfl trivial ?_ rfl
 simp only [Tryz.ntmps219, List.size_toArray, List.length_cons, List.length_nil, Nat.reduceAdd, Nat.reduceSub, Array.replicate_succ, Array.replicate_zero, List.push_toArray, List.append_toArray, List.nil_append, List.cons_append]
 gi_wp2
 gi_loopw [4] (fun _ wr => ∃ x : Pl, R x wr ∧ Keep wr) (fun _ wr => match wr.cell? ⟨Bi, 0, none⟩ with | some (.slice _ n _) => n | _ => 0)
 case atStart => exact ⟨x0, h0, hk0⟩
 case round =>
  obtain ⟨x, hx, hk⟩ := hrel
  have hI := hR x wr hx
  obtain ⟨i, ⟨a, n, cp⟩⟩ := x
  have hb1 : wr.cell? ⟨Bi, 0, none⟩ = some (.slice a n cp) := by simp [World.cell?, hI.box, Sl.v]
  have hb2 : wr.cell? ⟨Bv, 0, none⟩ = some (.pointer (some ⟨v, 0, none⟩)) := by simp [World.cell?, hI.vbox]
  by_cases hn : n = 0
  ·subst hn
   gi_wp2
   go_end0
   exact ⟨⟨_, rfl⟩, ⟨_, rfl, hx⟩, hk⟩
  ·have hlen : (items.drop i).length = n := hI.len.symm
   have hn0 : 0 < n := by omega
   obtain ⟨k, hkk⟩ : ∃ k, cutN (vocOf s T).cut (items.drop i) = k := ⟨_, rfl⟩
   have hne : items.drop i ≠ [] := fun e => hn (by rw [← hlen, e]; rfl)
   have hk1 := cutN_pos (vocOf s T).cut hne
   have hk2 := cutN_le (vocOf s T).cut (items.drop i)
   have hcap : n ≤ cp := hI.cap
   have hnl : n ≤ 1000000 := by rw [← hlen, List.length_drop]; omega
   rw [hkk] at hk1
   rw [hkk, hlen] at hk2
   have hc := encCut_spec wr v c tp bp mp hI.blk s T hI.bd hcl a cp (items.drop i) hI.row hne (by omega) (fun x hx => hok x (List.mem_of_mem_drop hx))
   rw [hkk, hlen] at hc
   have hc := (callsIn_wide (n := 0)).2 hc
   gi_wp2
   refine ⟨trivial, rfl, ?_⟩
   refine CallsIn.mono hc ?_
   rintro e w1 ⟨rfl, b1⟩
   have hx1 := hRb _ _ _ hx b1
   have hI1 := hR _ _ hx1
   have hkp1 := hK _ _ hk (KeepsOthers.of_grownBy (row := none) ⟨b1.os, b1.tape, b1.output, b1.size, fun j hj _ => b1.block j hj⟩ (fun j o e => by cases e))
   have hb0 := hb1
   have hb1 : w1.cell? ⟨Bi, 0, none⟩ = some (.slice a n cp) := by simp [World.cell?, hI1.box, Sl.v]
   obtain ⟨fn, tmps, assign, body, hy, hRd⟩ := hY _ w1 k hkk.symm hx1 hn hkp1
   dsimp only at hy
   gi_wp2
   refine ⟨rfl, hRd.mono ?_⟩
   rintro e W3 ⟨rfl, hR3, hk3⟩
   have hb3 := hR' _ _ hR3
   have hc3 : W3.cell? ⟨Bi, 0, none⟩ = some (.slice a n cp) := by simp [World.cell?, hb3, Sl.v]
   have hf3 : W3.frozen? ⟨Bi, 0, none⟩ = false := by simp [World.frozen?, hb3]
   gi_wp2
   have hR4 := hRn _ _ k hkk.symm hR3
   have hk4 := hK _ _ hk3 (KeepsOthers.setCell W3 ⟨Bi, 0, none⟩ (nextPl k (i, ⟨a, n, cp⟩)).2.v)
   have e4 : (nextPl k (i, ⟨a, n, cp⟩)).2.v = Value.slice (if cp = k then a else Option.map (fun x => x.add k) a) (n - k) (cp - k) := by
    unfold nextPl slBase Sl.v
    dsimp only
    rw [Nat.mul_one]
   rw [e4] at hR4 hk4
   refine ⟨⟨_, hR4, hk4⟩, ?_⟩
   obtain ⟨b', hb'⟩ : ∃ b', Value.slice b' (n - k) (cp - k) = Value.slice (if cp = k then a else Option.map (fun x => x.add k) a) (n - k) (cp - k) := ⟨_, rfl⟩
   rw [← hb', World.cell?_setCell_same' _ _ _ (by rw [hc3]; rfl), hb0]
   show n - k < n
   omega
theorem encP_len (V : Voc) (p : List Int) : (V.encP p).length ≤ p.length := by
 cases p with
 | nil => exact Nat.le_refl _
 | cons x r =>
  rw [encP_cons]
  split
  ·simp
  ·exact after_len V.ms (x :: r) _ (Nat.le_refl _)
theorem encode_short (V : Voc) (Z : List Int) : (V.encode Z).length ≤ Z.length := by
 have := flat_len (f := V.encP) (encP_len V) (chop V.cut Z)
 rw [(chop_is Z).2] at this
 exact this
theorem encode_cut (V : Voc) {l : List Int} (hne : l ≠ []) : V.encode l = V.encP (l.take (cutN V.cut l)) ++ V.encode (l.drop (cutN V.cut l)) := by
 unfold Voc.encode
 rw [chop_cutN _ hne, List.flatMap_cons]
theorem uncut_bytes {V : Voc} : ∀ {x y : Int} {r : List Int}, Uncut V.cut (x :: y :: r) → ∀ z ∈ x :: y :: r, 0 ≤ z
 | x, y, [], ⟨h, _⟩, z, hz => by
  unfold Voc.cut at h
  simp at h hz
  rcases hz with rfl | rfl <;> omega
 | x, y, u :: r, ⟨h, h2⟩, z, hz => by
  have ih := uncut_bytes (V := V) h2
  rcases List.mem_cons.1 hz with rfl | hz
  ·unfold Voc.cut at h
   simp at h
   omega
  ·exact ih z hz
theorem piece_ok {s : SpecV} {T : List Ent} {l : List Int} (hne : l ≠ []) (hok : ∀ x ∈ l, itemOk s x = true) : PieceOk s (l.take (cutN (vocOf s T).cut l)) := by
 have hc := (chop_is (cut := (vocOf s T).cut) l).1
 rw [chop_cutN _ hne] at hc
 obtain ⟨h1, h2⟩ := hc.head
 have hmem : ∀ x ∈ l.take (cutN (vocOf s T).cut l), itemOk s x = true := fun x hx => hok x (List.mem_of_mem_take hx)
 revert h1 h2 hmem
 generalize l.take (cutN (vocOf s T).cut l) = p
 intro h1 h2 hmem
 match p, h1 with
 | [x], _ =>
  have := hmem x List.mem_cons_self
  unfold itemOk at this
  have := of_decide_eq_true this
  rcases this with h | h
  ·exact .inr ⟨by simp, fun y hy => by simp at hy; subst hy; exact h⟩
  ·exact .inl ⟨x, rfl, h.1, h.2⟩
 | x :: y :: r, _ =>
  refine .inr ⟨by simp, fun z hz => ?_⟩
  have h0 := uncut_bytes (V := vocOf s T) h2 z hz
  have := hmem z hz
  unfold itemOk at this
  have := of_decide_eq_true this
  omega
attribute [local go_sem] Oper.semAt_some
abbrev tVP : TypeId := 31
theorem encPieces_spec (w : World) (v : Option Addr) (A : Option Addr) (N C : Nat) :
  CP 185 #[.pointer v, .slice A N C] w fun e w' => e = .returned (.func (.func 219) #[] #[.pointer (some ⟨w.heap.size + 1, 0, none⟩), .pointer (some ⟨w.heap.size, 0, none⟩)]) ∧ w' = (w.alloc (.cells #[.pointer v] tVP)).alloc (.cells #[.slice A N C] tInts) := by
 refine calls_ret (vc185_calls v A N C w (fun u w' => u = .func (.func 219) #[] #[.pointer (some ⟨w.heap.size + 1, 0, none⟩), .pointer (some ⟨w.heap.size, 0, none⟩)] ∧ w' = (w.alloc (.cells #[.pointer v] tVP)).alloc (.cells #[.slice A N C] tInts)) ?_) (by rintro v w' ⟨rfl, h⟩; exact ⟨rfl, h⟩)
 intro w1 hw1 w2 hw2
 subst hw1 hw2
 refine ⟨?_, rfl⟩
 unfold nb
 rw [World.size_alloc]
structure TkR (w W : World) (v : Nat) (s : SpecV) (T : List Ent) (Z : List Int) (i : Nat) (x : Pl) : Prop where
 vb0 : W.heap[w.heap.size]? = some (.cells #[.pointer (some ⟨v, 0, none⟩)] tVP (0, 0))
 vb : W.heap[w.heap.size + 2]? = some (.cells #[.pointer (some ⟨v, 0, none⟩)] tVP (0, 0))
 bx : W.heap[w.heap.size + 3]? = some (.cells #[x.2.v] tInts (0, 0))
 row : Rw encInt 1 w x.2.a (Z.drop x.1)
 len : x.2.n = (Z.drop x.1).length
 cap : x.2.n ≤ x.2.c
 out : ∃ (ys : List Int) (o : Sl), Boxed W (w.heap.size + 1) tInts o.v ∧ W.ownsRow w.heap.size tInt 1 o.v o.n (ys.flatMap encInt) ∧ ys ++ (vocOf s T).encode (Z.drop i) = (vocOf s T).encode Z
 le : Below w.heap.size w W
theorem TkR.on {w W W' : World} {v : Nat} {s : SpecV} {T : List Ent} {Z : List Int} {i : Nat} {x : Pl} (h : TkR w W v s T Z i x) (hb : Below W.heap.size W W') : TkR w W' v s T Z i x := by
 obtain ⟨ys, o, h1, h2, h3⟩ := h.out
 exact ⟨held_on hb h.vb0, held_on hb h.vb, held_on hb h.bx, h.row, h.len, h.cap, ⟨ys, o, held_on hb h1, own_on h2 hb, h3⟩, below_then h.le hb⟩
theorem TkR.put {w W : World} {v : Nat} {s : SpecV} {T : List Ent} {Z : List Int} {i : Nat} {x : Pl} (h : TkR w W v s T Z i x) {k : Nat} {o o' : Obj} (hk : w.heap.size ≤ k) (ho : W.heap[k]? = some o) (hc : o.isCells = false) : TkR w (W.putObj k o') v s T Z i x := by
 have keep : ∀ {j : Nat} {c : Array Value} {t : TypeId} {f : Nat × Nat}, W.heap[j]? = some (.cells c t f) → (W.putObj k o').heap[j]? = some (.cells c t f) := by
  intro j c t f hj
  rw [World.putObj_heap_other fun e => ?_]
  ·exact hj
  ·subst e
   rw [hj] at ho
   cases ho
   cases hc
 obtain ⟨ys, y, h1, h2, h3⟩ := h.out
 exact ⟨keep h.vb0, keep h.vb, keep h.bx, h.row, h.len, h.cap, ⟨ys, y, keep h1, ownsRow_putObj h2 o' ho hc, h3⟩, h.le.trans ((Below.refl _ W).grown (grownBy_putObj' W k o') h.le.size (fun j e => by cases e; exact hk))⟩
theorem TkR.step {w W : World} {v : Nat} {s : SpecV} {T : List Ent} {Z : List Int} {k : Nat} {x : Pl} (hk : k ≤ (Z.drop x.1).length) (h : TkR w W v s T Z (x.1 + k) x) : TkR w (W.setCell ⟨w.heap.size + 3, 0, none⟩ (nextPl k x).2.v) v s T Z (nextPl k x).1 (nextPl k x) := by
 have hb : Boxed W (w.heap.size + 3) tInts x.2.v := h.bx
 have keep : ∀ {j : Nat} {c : Array Value} {t : TypeId} {f : Nat × Nat}, j ≠ w.heap.size + 3 → W.heap[j]? = some (.cells c t f) → (W.setCell ⟨w.heap.size + 3, 0, none⟩ (nextPl k x).2.v).heap[j]? = some (.cells c t f) := by
  intro j c t f hne hj
  rw [(grownBy_setCell' W (w.heap.size + 3) _).block j (Array.getElem?_eq_some_iff.1 hj).1 (fun e => hne (Option.some.inj e))]
  exact hj
 obtain ⟨ys, y, h1, h2, h3⟩ := h.out
 have hlen := h.len
 have hcap := h.cap
 obtain ⟨i, ⟨a, n, cp⟩⟩ := x
 change n = (Z.drop i).length at hlen
 change n ≤ cp at hcap
 change k ≤ (Z.drop i).length at hk
 refine ⟨keep (by omega) h.vb0, keep (by omega) h.vb, hb.set _, ?_, ?_, ?_, ⟨ys, y, keep (by omega) h1, h2.kept (grownBy_setCell' W _ _) (.inr (hb.not_row (by decide) h2).symm), h3⟩, h.le.trans ((Below.refl _ W).setCell (p := ⟨w.heap.size + 3, 0, none⟩) (by show w.heap.size ≤ w.heap.size + 3; omega) _)⟩
 ·have := h.row.cut k cp (by show (Z.drop i).length ≤ cp; omega)
  rw [List.drop_drop] at this
  exact this
 ·show n - k = (Z.drop (i + k)).length
  rw [List.length_drop] at hlen ⊢
  omega
 ·show n - k ≤ cp - k
  omega
theorem wpIn_append_run {F : Fence} {n : Nat} {P : Program} {o : Oper} {a : Act} {w w' : World} {K : Act → World → Prop} {Q : Exit → Act → World → Prop} (s x : Operand) (t : TypeId)
  (hop : o.op = Op.call { callee := Callee.builtin Builtin.append, args := #[s, x], argTypes := #[t, t] }) {vs vx v' : Value} (hs : a.eval s = vs) (hx : a.eval x = vx)
  (hrun : (Builtin.append_ #[t, t] o.type #[vs, vx]).run P w = .ok v' w') (h : K (a.put o.dst v') w') : Oper.wpIn F n P o a w K Q := by
 unfold Oper.wpIn
 refine ⟨?_, ?_⟩
 ·simp [Oper.about, hop, resolve, Target.leads, Sem.run_pure]
 ·rw [Oper.semAt_plain F _ _ (by rw [hop]; intro c hc'; cases hc')]
  simp [execOp, hop, resolve, invoke, builtin, hs, hx, hrun, Result.andThen]
  exact h
set_option maxHeartbeats 4000000 in
theorem tokens_spec (w : World) (v : Nat) (c : Array Value) (tp bp mp : Nat) (h : VBlk w v c tp bp mp) (s : SpecV) (T : List Ent) (x : SpecW) (hP : VocParts w s T x tp bp mp) (A : Option Addr) (C : Nat) (Z : List Int) (hr : Rw encInt 1 w A Z) (hC : Z.length ≤ C) (hl : Z.length ≤ 100000) (hZ : ∀ y ∈ Z, itemOk s y = true) :
  CP 140 #[.pointer (some ⟨v, 0, none⟩), .slice A Z.length C] w fun e w' => ∃ l : Sl, e = .returned l.v ∧ l.n = ((vocOf s T).encode Z).length ∧ w'.ownsRow w.heap.size tInt 1 l.v l.n (((vocOf s T).encode Z).flatMap encInt) ∧ Below w.heap.size w w' := by
 obtain ⟨N, hN⟩ : ∃ N, Z.length = N := ⟨_, rfl⟩
 rw [hN]
 refine (callsIn_wide (n := 0)).1 ?_
 refine callsIn_of_wp_marks Tryz.func140 rfl trivial ?_ rfl
 simp only [Tryz.ntmps140, List.size_toArray, List.length_cons, List.length_nil, Nat.reduceAdd, Nat.reduceSub, Array.replicate_succ, Array.replicate_zero, List.push_toArray, List.append_toArray, List.nil_append, List.cons_append]
 gi_wp2_with (refine ⟨trivial, rfl, ?_⟩; refine CallsIn.mono (callsIn_wide.2 (encPieces_spec _ _ _ _ _)) ?_; rintro e w' ⟨rfl, rfl⟩)
 obtain ⟨W0, hW0⟩ : ∃ W0, ((((w.alloc (.cells #[.pointer (some ⟨v, 0, none⟩)] tVP)).alloc (.cells #[.slice none 0 0] tInts)).alloc (.cells #[.pointer (some ⟨v, 0, none⟩)] tVP)).alloc (.cells #[.slice A N C] tInts)) = W0 := ⟨_, rfl⟩
 rw [hW0]
 have hz0 : W0.heap.size = w.heap.size + 4 := by rw [← hW0]; simp only [World.size_alloc]
 have hT0 : TkR w W0 v s T Z 0 (0, ⟨A, N, C⟩) := by
  rw [← hW0]
  have e1 := Boxed.new w tVP (.pointer (some ⟨v, 0, none⟩))
  have e2 := Boxed.new (w.alloc (.cells #[.pointer (some ⟨v, 0, none⟩)] tVP)) tInts (.slice none 0 0)
  have e3 := Boxed.new ((w.alloc (.cells #[.pointer (some ⟨v, 0, none⟩)] tVP)).alloc (.cells #[.slice none 0 0] tInts)) tVP (.pointer (some ⟨v, 0, none⟩))
  have e4 := Boxed.new (((w.alloc (.cells #[.pointer (some ⟨v, 0, none⟩)] tVP)).alloc (.cells #[.slice none 0 0] tInts)).alloc (.cells #[.pointer (some ⟨v, 0, none⟩)] tVP)) tInts (.slice A N C)
  simp only [World.size_alloc] at e2 e3 e4
  exact ⟨((e1.alloc _).alloc _).alloc _, e3.alloc _, e4, by rw [List.drop_zero]; exact hr, hN.symm, by show N ≤ C; omega, ⟨[], sl0, (e2.alloc _).alloc _, own_none _ _ _ _ encInt, rfl⟩, ((((Below.refl w.heap.size w).alloc (Nat.le_refl _) _).alloc (by simp only [World.size_alloc]; omega) _).alloc (by simp only [World.size_alloc]; omega) _).alloc (by simp only [World.size_alloc]; omega) _⟩
 have hlt : ∀ y ∈ Z, y < 256 := by
  intro y hy
  have := hZ y hy
  unfold itemOk at this
  have := of_decide_eq_true this
  omega
 have hcl : ∀ c ∈ s.classes, classOk c = true := (right_ok hP.right).1
 obtain ⟨cut, hcut⟩ : ∃ cut, (vocOf s T).cut = cut := ⟨_, rfl⟩
 refine rangeFunc_state (n := 0) (gf := 219) (lb := #[.pointer (some ⟨w.heap.size + 3, 0, none⟩), .pointer (some ⟨w.heap.size + 2, 0, none⟩)]) rfl (enters_of Tryz.func219 (by kernel_rfl) rfl)
  (encs := fun y : Pl => #[.slice y.2.a (cutN cut (Z.drop y.1)) (cutN cut (Z.drop y.1))]) ((0, ⟨A, N, C⟩) : Pl) (fun y : Pl => y.2.n = 0) (fun _ => rfl)
  (fun y W => TkR w W v s T Z y.1 y) (fun y W => TkR w W v s T Z (y.1 + cutN cut (Z.drop y.1)) y)
  (fun y W k o o' hy hk ho hc => hy.put (by omega) ho hc) (fun y W k o o' hy hk ho hc => hy.put (by omega) ho hc)
  (fun o o' => (hT0.on (below_alloc _ _)).on (below_alloc _ _)) ?seq
  (fun y => { tmps := #[.pointer (some ⟨v, 0, none⟩), .slice A N C, .pointer (some ⟨w.heap.size, 0, none⟩), undef, .slice none 0 0, .pointer (some ⟨w.heap.size + 1, 0, none⟩), .slice y.2.a (cutN cut (Z.drop y.1)) (cutN cut (Z.drop y.1)), .pointer (some ⟨v, 0, none⟩), .slice A N C, .func (.func 219) #[] #[.pointer (some ⟨w.heap.size + 1 + 1 + 1, 0, none⟩), .pointer (some ⟨w.heap.size + 1 + 1, 0, none⟩)], .slice y.2.a (cutN cut (Z.drop y.1)) (cutN cut (Z.drop y.1)), undef, undef, undef, undef, undef, undef], defers := [] }) ?assign ?body ?done
 case seq =>
  intro l W Keep hK hY h0 hk0
  refine pieces1_spec v tp bp mp (w.heap.size + 3) (w.heap.size + 2) c s T hcl Z (by omega) hlt l (fun y W => TkR w W v s T Z y.1 y) (fun y W => TkR w W v s T Z (y.1 + cutN cut (Z.drop y.1)) y) Keep hK ?_ ?_ ?_ ?_ ?_ (0, ⟨A, N, C⟩) W h0 hk0
  ·exact fun y W hy => ⟨hy.bx, hy.vb, h.on hy.le, hP.bound.on hy.le, hy.row.on hy.le, hy.len, hy.cap⟩
  ·exact fun y W W' hy hb => hy.on hb
  ·exact fun y W hy => hy.bx
  ·intro y W k hk hy
   rw [← hcut, ← hk] at hy
   exact hy.step (by rw [hk]; exact cutN_le _ _)
  ·intro y W1 k hk hy hn hkp
   have := hY y W1 hn hy hkp
   rw [← hcut] at this
   rw [hk, ← hcut]
   exact this
 case assign =>
  intro l y W K hK
  gi_wp2
  exact hK
 case body =>
  intro l y W hy hR
  obtain ⟨ys, ⟨oa, on, oc⟩, hb, ho, he⟩ := hR.out
  have hc1 : W.cell? ⟨w.heap.size + 1, 0, none⟩ = some (.slice oa on oc) := hb.cell
  have hc2 : W.cell? ⟨w.heap.size, 0, none⟩ = some (.pointer (some ⟨v, 0, none⟩)) := (show Boxed W w.heap.size tVP _ from hR.vb0).cell
  have hmx : Tryz.prog.follows .mixedOrders = true := by kernel_rfl
  obtain ⟨k, hk⟩ : ∃ k, cutN cut (Z.drop y.1) = k := ⟨_, rfl⟩
  have hpc : ∀ q, Below W.heap.size W q → CallsIn (Fence.wide.inRound l) 0 Tryz.prog 186 #[.pointer (some ⟨v, 0, none⟩), .slice y.2.a k k] q fun e q' => ∃ la ln lc, e = .returned (.slice la ln lc) ∧ ln = ((vocOf s T).encP ((Z.drop y.1).take k)).length ∧ q'.ownsRow q.heap.size tInt 1 (.slice la ln lc) ln (((vocOf s T).encP ((Z.drop y.1).take k)).flatMap encInt) ∧ Below q.heap.size q q' := by
   intro q hq
   have hle := hR.le
   have hne : Z.drop y.1 ≠ [] := by
    intro e
    have := hR.len
    rw [e] at this
    exact hy this
   have hk2 : k ≤ (Z.drop y.1).length := by rw [← hk]; exact cutN_le _ _
   have hq' := below_then hle hq
   have hpo := piece_ok (s := s) (T := T) hne (fun z hz => hZ z (List.mem_of_mem_drop hz))
   rw [hcut, hk] at hpo
   have hkl : ((Z.drop y.1).take k).length = k := by rw [List.length_take, Nat.min_eq_left hk2]
   have := encPiece_spec q v c tp bp mp (h.on hq') s T x (hP.on hq') y.2.a k ((Z.drop y.1).take k) ((hR.row.on hq').take k) hpo (by rw [hkl]; rw [List.length_drop] at hk2; omega)
   rw [hkl] at this
   refine CallsIn.inRound l (callsIn_wide.2 (this.mono ?_))
   rintro e q' ⟨r, rfl, h1, h2, h3⟩
   exact ⟨_, _, _, rfl, h1, h2, h3⟩
  rw [hk]
  gi_wp2
  have hd := drew_on W
  have hoD := own_on ho hd
  have hbD : Boxed W.drew (w.heap.size + 1) tInts (.slice oa on oc) := held_on hd hb
  have hc1D : W.drew.cell? ⟨w.heap.size + 1, 0, none⟩ = some (.slice oa on oc) := hbD.cell
  have hc2D : W.drew.cell? ⟨w.heap.size, 0, none⟩ = some (.pointer (some ⟨v, 0, none⟩)) := (show Boxed W.drew w.heap.size tVP _ from held_on hd hR.vb0).cell
  have hys : ys.length ≤ 100000 := by
   have h1 := congrArg List.length he
   rw [List.length_append] at h1
   have h2 := encode_short (vocOf s T) Z
   omega
  have hps : ((vocOf s T).encP ((Z.drop y.1).take k)).length ≤ 100000 := by
   have h1 := encP_len (vocOf s T) ((Z.drop y.1).take k)
   rw [List.length_take, List.length_drop] at h1
   omega
  have hon : on = ys.length := (Rw.of_own (s := ⟨oa, on, oc⟩) ho (fun _ => rfl) (by decide)).2
  have happ : ∀ (W3 : World) (la : Option Addr) (ln lc : Nat), Below W.drew.heap.size W.drew W3 → ln = ((vocOf s T).encP ((Z.drop y.1).take k)).length → W3.ownsRow W.drew.heap.size tInt 1 (.slice la ln lc) ln (((vocOf s T).encP ((Z.drop y.1).take k)).flatMap encInt) →
    ∃ ra rn rc W4, (Builtin.append_ #[tInts, tInts] tInts #[.slice oa on oc, .slice la ln lc]).run Tryz.prog W3 = .ok (.slice ra rn rc) W4 ∧ W4.frozen? ⟨w.heap.size + 1, 0, none⟩ = false ∧ W4.cell? ⟨w.heap.size + 1, 0, none⟩ = some (.slice oa on oc) ∧ KeepsOthers W (W4.setCell ⟨w.heap.size + 1, 0, none⟩ (.slice ra rn rc)) ∧ TkR w (W4.setCell ⟨w.heap.size + 1, 0, none⟩ (.slice ra rn rc)) v s T Z (y.1 + k) y := by
   intro W3 la ln lc hlb hln hlo
   have hle3 : Below w.heap.size w W3 := below_then (below_then hR.le hd) hlb
   have hb3 : Boxed W3 (w.heap.size + 1) tInts (.slice oa on oc) := held_on hlb hbD
   have hb30 : Boxed W3 w.heap.size tVP (.pointer (some ⟨v, 0, none⟩)) := held_on hlb (held_on hd hR.vb0)
   have hb32 : Boxed W3 (w.heap.size + 2) tVP (.pointer (some ⟨v, 0, none⟩)) := held_on hlb (held_on hd hR.vb)
   have hb33 : Boxed W3 (w.heap.size + 3) tInts y.2.v := held_on hlb (held_on hd hR.bx)
   have ho3 : W3.ownsRow w.heap.size tInt 1 (Sl.v ⟨oa, on, oc⟩) on (ys.flatMap encInt) := own_on hoD hlb
   obtain ⟨r, W4, hrn, hrun, ho4, hbel, hkeep, _⟩ := elInt.spread (s := ⟨oa, on, oc⟩) (l := ⟨la, ln, lc⟩) ho3 (LsAt.of_own elInt hlo) hle3.size (by show on ≤ _; omega) (by show ln ≤ _; omega) (by decide)
   have hB34 := hbel W3 (Below.refl _ _)
   have hg4 : W3.grownBy W4 (Sl.v ⟨oa, on, oc⟩).ownBlock := ⟨hB34.os, hB34.tape, hB34.output, hB34.size, fun j hj hne => hkeep j hj fun e => hne e.symm⟩
   have hb4 := hb3.kept hg4 (hb3.not_row (by decide) ho3)
   have hg5 := grownBy_setCell' W4 (w.heap.size + 1) r.v
   have to5 : ∀ {B : Nat} {t : TypeId} {u : Value}, B ≠ w.heap.size + 1 → t ≠ tInt → Boxed W3 B t u → Boxed (W4.setCell ⟨w.heap.size + 1, 0, none⟩ r.v) B t u := fun hB ht hb => (hb.kept hg4 (hb.not_row ht ho3)).kept hg5 (fun e => hB (Option.some.inj e))
   have hne : Z.drop y.1 ≠ [] := by
    intro e
    have := hR.len
    rw [e] at this
    exact hy this
   refine ⟨r.a, r.n, r.c, W4, hrun, hb4.frozen, hb4.cell, ?_, ?_⟩
   ·refine (((KeepsOthers.drew W).trans (KeepsOthers.of_grownBy (row := none) ⟨hlb.os, hlb.tape, hlb.output, hlb.size, fun j hj _ => hlb.block j hj⟩ (fun j o e => by cases e))).trans (KeepsOthers.of_grownBy hg4 fun j o ej hj => ?_)).trans (KeepsOthers.setCell _ _ _)
    rcases ho3.2 with ⟨e0, _⟩ | ⟨g, cap, cur, e0, _, hgb, _⟩
    ·rw [e0] at ej
     simp [Value.ownBlock] at ej
    ·rw [e0] at ej
     obtain rfl : g = j := by simpa [Value.ownBlock] using ej
     rw [hgb] at hj
     cases hj
     rfl
   ·refine ⟨to5 (by omega) (by decide) hb30, to5 (by omega) (by decide) hb32, to5 (by omega) (by decide) hb33, hR.row, hR.len, hR.cap, ⟨ys ++ (vocOf s T).encP ((Z.drop y.1).take k), r, hb4.set r.v, ho4.kept hg5 (.inr (hb4.not_row (by decide) ho4).symm), ?_⟩, (hbel w hle3).trans ((Below.refl _ W4).setCell (p := ⟨w.heap.size + 1, 0, none⟩) (by show w.heap.size ≤ w.heap.size + 1; omega) _)⟩
    rw [← he, encode_cut _ hne, hcut, hk, List.drop_drop, List.append_assoc]
  have hcs : ∀ W3, Below W.drew.heap.size W.drew W3 → W3.cell? ⟨w.heap.size + 1, 0, none⟩ = some (.slice oa on oc) := by
   intro W3 hlb
   have : Boxed W3 (w.heap.size + 1) tInts (.slice oa on oc) := held_on hlb hbD
   exact this.cell
  have hcall := hpc _ hd
  clear hon
  refine wpIn_region_any hmx ?_
  change wpAnyIn _ _ _ _ _ _ _ _ _ (World.drew _)
  refine wpAnyIn_ready (rs := [0, 1, 2]) (by kernel_rfl) (by simp) ?_
  refine AllReadyIn.cons rfl (fun K hK => ?_) ?_
  ·go_simp
   refine hK _ _ ?_
   clear hK K
   refine wpAnyIn_ready (rs := [1, 2]) (by kernel_rfl) (by simp) ?_
   refine AllReadyIn.cons rfl (fun K hK => ?_) ?_
   ·go_simp
    refine hK _ _ ?_
    clear hK K
    refine wpAnyIn_ready (rs := [2]) (by kernel_rfl) (by simp) ?_
    refine AllReadyIn.cons rfl (fun K hK => ?_) ?_
    ·go_simp
     refine hK _ _ ?_
     clear hK K
     refine wpAnyIn_ready (rs := [3]) (by kernel_rfl) (by simp) ?_
     refine AllReadyIn.cons rfl (fun K hK => ?_) ?_
     ·go_simp
      refine ⟨trivial, rfl, ?_⟩
      refine CallsIn.mono hcall ?_
      rintro e W3 ⟨la, ln, lc, rfl, hln, hlo, hlb⟩
      obtain ⟨ra, rn, rc, W4, hrn, hf4, hc4, hkk4, hR4⟩ := happ W3 la ln lc hlb hln hlo
      have hc3 := hcs W3 hlb
      clear hln hlo hlb
      dsimp only
      refine hK _ _ ?_
      clear hK K
      refine wpAnyIn_ready (rs := [4]) (by kernel_rfl) (by simp) ?_
      refine AllReadyIn.cons rfl (fun K hK => ?_) ?_
      ·rw [if_pos (by rfl)]
       refine wpIn_append_run _ _ _ rfl rfl rfl hrn ?_
       clear hrn
       go_simp
       refine hK _ _ ?_
       clear hK K
       refine wpAnyIn_ready (rs := [5]) (by kernel_rfl) (by simp) ?_
       refine AllReadyIn.cons rfl (fun K hK => ?_) ?_
       ·go_simp
        refine hK _ _ ?_
        clear hK K
        refine wpAnyIn_done (by kernel_rfl) ?_ _
        exact ⟨rfl, hkk4, hR4⟩
       exact AllReadyIn.nil
      exact AllReadyIn.nil
     exact AllReadyIn.nil
    exact AllReadyIn.nil
   refine AllReadyIn.cons rfl (fun K hK => ?_) ?_
   ·go_simp
    refine hK _ _ ?_
    clear hK K
    refine wpAnyIn_ready (rs := [1]) (by kernel_rfl) (by simp) ?_
    refine AllReadyIn.cons rfl (fun K hK => ?_) ?_
    ·go_simp
     refine hK _ _ ?_
     clear hK K
     refine wpAnyIn_ready (rs := [3]) (by kernel_rfl) (by simp) ?_
     refine AllReadyIn.cons rfl (fun K hK => ?_) ?_
     ·go_simp
      refine ⟨trivial, rfl, ?_⟩
      refine CallsIn.mono hcall ?_
      rintro e W3 ⟨la, ln, lc, rfl, hln, hlo, hlb⟩
      obtain ⟨ra, rn, rc, W4, hrn, hf4, hc4, hkk4, hR4⟩ := happ W3 la ln lc hlb hln hlo
      have hc3 := hcs W3 hlb
      clear hln hlo hlb
      dsimp only
      refine hK _ _ ?_
      clear hK K
      refine wpAnyIn_ready (rs := [4]) (by kernel_rfl) (by simp) ?_
      refine AllReadyIn.cons rfl (fun K hK => ?_) ?_
      ·rw [if_pos (by rfl)]
       refine wpIn_append_run _ _ _ rfl rfl rfl hrn ?_
       clear hrn
       go_simp
       refine hK _ _ ?_
       clear hK K
       refine wpAnyIn_ready (rs := [5]) (by kernel_rfl) (by simp) ?_
       refine AllReadyIn.cons rfl (fun K hK => ?_) ?_
       ·go_simp
        refine hK _ _ ?_
        clear hK K
        refine wpAnyIn_done (by kernel_rfl) ?_ _
        exact ⟨rfl, hkk4, hR4⟩
       exact AllReadyIn.nil
      exact AllReadyIn.nil
     exact AllReadyIn.nil
    exact AllReadyIn.nil
   exact AllReadyIn.nil
  refine AllReadyIn.cons rfl (fun K hK => ?_) ?_
  ·go_simp
   refine hK _ _ ?_
   clear hK K
   refine wpAnyIn_ready (rs := [0, 2]) (by kernel_rfl) (by simp) ?_
   refine AllReadyIn.cons rfl (fun K hK => ?_) ?_
   ·go_simp
    refine hK _ _ ?_
    clear hK K
    refine wpAnyIn_ready (rs := [2]) (by kernel_rfl) (by simp) ?_
    refine AllReadyIn.cons rfl (fun K hK => ?_) ?_
    ·go_simp
     refine hK _ _ ?_
     clear hK K
     refine wpAnyIn_ready (rs := [3]) (by kernel_rfl) (by simp) ?_
     refine AllReadyIn.cons rfl (fun K hK => ?_) ?_
     ·go_simp
      refine ⟨trivial, rfl, ?_⟩
      refine CallsIn.mono hcall ?_
      rintro e W3 ⟨la, ln, lc, rfl, hln, hlo, hlb⟩
      obtain ⟨ra, rn, rc, W4, hrn, hf4, hc4, hkk4, hR4⟩ := happ W3 la ln lc hlb hln hlo
      have hc3 := hcs W3 hlb
      clear hln hlo hlb
      dsimp only
      refine hK _ _ ?_
      clear hK K
      refine wpAnyIn_ready (rs := [4]) (by kernel_rfl) (by simp) ?_
      refine AllReadyIn.cons rfl (fun K hK => ?_) ?_
      ·rw [if_pos (by rfl)]
       refine wpIn_append_run _ _ _ rfl rfl rfl hrn ?_
       clear hrn
       go_simp
       refine hK _ _ ?_
       clear hK K
       refine wpAnyIn_ready (rs := [5]) (by kernel_rfl) (by simp) ?_
       refine AllReadyIn.cons rfl (fun K hK => ?_) ?_
       ·go_simp
        refine hK _ _ ?_
        clear hK K
        refine wpAnyIn_done (by kernel_rfl) ?_ _
        exact ⟨rfl, hkk4, hR4⟩
       exact AllReadyIn.nil
      exact AllReadyIn.nil
     exact AllReadyIn.nil
    exact AllReadyIn.nil
   refine AllReadyIn.cons rfl (fun K hK => ?_) ?_
   ·go_simp
    refine hK _ _ ?_
    clear hK K
    refine wpAnyIn_ready (rs := [0, 3]) (by kernel_rfl) (by simp) ?_
    refine AllReadyIn.cons rfl (fun K hK => ?_) ?_
    ·go_simp
     refine hK _ _ ?_
     clear hK K
     refine wpAnyIn_ready (rs := [3]) (by kernel_rfl) (by simp) ?_
     refine AllReadyIn.cons rfl (fun K hK => ?_) ?_
     ·go_simp
      refine ⟨trivial, rfl, ?_⟩
      refine CallsIn.mono hcall ?_
      rintro e W3 ⟨la, ln, lc, rfl, hln, hlo, hlb⟩
      obtain ⟨ra, rn, rc, W4, hrn, hf4, hc4, hkk4, hR4⟩ := happ W3 la ln lc hlb hln hlo
      have hc3 := hcs W3 hlb
      clear hln hlo hlb
      dsimp only
      refine hK _ _ ?_
      clear hK K
      refine wpAnyIn_ready (rs := [4]) (by kernel_rfl) (by simp) ?_
      refine AllReadyIn.cons rfl (fun K hK => ?_) ?_
      ·rw [if_pos (by rfl)]
       refine wpIn_append_run _ _ _ rfl rfl rfl hrn ?_
       clear hrn
       go_simp
       refine hK _ _ ?_
       clear hK K
       refine wpAnyIn_ready (rs := [5]) (by kernel_rfl) (by simp) ?_
       refine AllReadyIn.cons rfl (fun K hK => ?_) ?_
       ·go_simp
        refine hK _ _ ?_
        clear hK K
        refine wpAnyIn_done (by kernel_rfl) ?_ _
        exact ⟨rfl, hkk4, hR4⟩
       exact AllReadyIn.nil
      exact AllReadyIn.nil
     exact AllReadyIn.nil
    refine AllReadyIn.cons rfl (fun K hK => ?_) ?_
    ·go_simp
     refine ⟨trivial, rfl, ?_⟩
     refine CallsIn.mono hcall ?_
     rintro e W3 ⟨la, ln, lc, rfl, hln, hlo, hlb⟩
     obtain ⟨ra, rn, rc, W4, hrn, hf4, hc4, hkk4, hR4⟩ := happ W3 la ln lc hlb hln hlo
     have hc3 := hcs W3 hlb
     clear hln hlo hlb
     dsimp only
     refine hK _ _ ?_
     clear hK K
     refine wpAnyIn_ready (rs := [0]) (by kernel_rfl) (by simp) ?_
     refine AllReadyIn.cons rfl (fun K hK => ?_) ?_
     ·go_simp
      refine hK _ _ ?_
      clear hK K
      refine wpAnyIn_ready (rs := [4]) (by kernel_rfl) (by simp) ?_
      refine AllReadyIn.cons rfl (fun K hK => ?_) ?_
      ·rw [if_pos (by rfl)]
       refine wpIn_append_run _ _ _ rfl rfl rfl hrn ?_
       clear hrn
       go_simp
       refine hK _ _ ?_
       clear hK K
       refine wpAnyIn_ready (rs := [5]) (by kernel_rfl) (by simp) ?_
       refine AllReadyIn.cons rfl (fun K hK => ?_) ?_
       ·go_simp
        refine hK _ _ ?_
        clear hK K
        refine wpAnyIn_done (by kernel_rfl) ?_ _
        exact ⟨rfl, hkk4, hR4⟩
       exact AllReadyIn.nil
      exact AllReadyIn.nil
     exact AllReadyIn.nil
    exact AllReadyIn.nil
   exact AllReadyIn.nil
  refine AllReadyIn.cons rfl (fun K hK => ?_) ?_
  ·go_simp
   refine hK _ _ ?_
   clear hK K
   refine wpAnyIn_ready (rs := [0, 1]) (by kernel_rfl) (by simp) ?_
   refine AllReadyIn.cons rfl (fun K hK => ?_) ?_
   ·go_simp
    refine hK _ _ ?_
    clear hK K
    refine wpAnyIn_ready (rs := [1]) (by kernel_rfl) (by simp) ?_
    refine AllReadyIn.cons rfl (fun K hK => ?_) ?_
    ·go_simp
     refine hK _ _ ?_
     clear hK K
     refine wpAnyIn_ready (rs := [3]) (by kernel_rfl) (by simp) ?_
     refine AllReadyIn.cons rfl (fun K hK => ?_) ?_
     ·go_simp
      refine ⟨trivial, rfl, ?_⟩
      refine CallsIn.mono hcall ?_
      rintro e W3 ⟨la, ln, lc, rfl, hln, hlo, hlb⟩
      obtain ⟨ra, rn, rc, W4, hrn, hf4, hc4, hkk4, hR4⟩ := happ W3 la ln lc hlb hln hlo
      have hc3 := hcs W3 hlb
      clear hln hlo hlb
      dsimp only
      refine hK _ _ ?_
      clear hK K
      refine wpAnyIn_ready (rs := [4]) (by kernel_rfl) (by simp) ?_
      refine AllReadyIn.cons rfl (fun K hK => ?_) ?_
      ·rw [if_pos (by rfl)]
       refine wpIn_append_run _ _ _ rfl rfl rfl hrn ?_
       clear hrn
       go_simp
       refine hK _ _ ?_
       clear hK K
       refine wpAnyIn_ready (rs := [5]) (by kernel_rfl) (by simp) ?_
       refine AllReadyIn.cons rfl (fun K hK => ?_) ?_
       ·go_simp
        refine hK _ _ ?_
        clear hK K
        refine wpAnyIn_done (by kernel_rfl) ?_ _
        exact ⟨rfl, hkk4, hR4⟩
       exact AllReadyIn.nil
      exact AllReadyIn.nil
     exact AllReadyIn.nil
    exact AllReadyIn.nil
   refine AllReadyIn.cons rfl (fun K hK => ?_) ?_
   ·go_simp
    refine hK _ _ ?_
    clear hK K
    refine wpAnyIn_ready (rs := [0, 3]) (by kernel_rfl) (by simp) ?_
    refine AllReadyIn.cons rfl (fun K hK => ?_) ?_
    ·go_simp
     refine hK _ _ ?_
     clear hK K
     refine wpAnyIn_ready (rs := [3]) (by kernel_rfl) (by simp) ?_
     refine AllReadyIn.cons rfl (fun K hK => ?_) ?_
     ·go_simp
      refine ⟨trivial, rfl, ?_⟩
      refine CallsIn.mono hcall ?_
      rintro e W3 ⟨la, ln, lc, rfl, hln, hlo, hlb⟩
      obtain ⟨ra, rn, rc, W4, hrn, hf4, hc4, hkk4, hR4⟩ := happ W3 la ln lc hlb hln hlo
      have hc3 := hcs W3 hlb
      clear hln hlo hlb
      dsimp only
      refine hK _ _ ?_
      clear hK K
      refine wpAnyIn_ready (rs := [4]) (by kernel_rfl) (by simp) ?_
      refine AllReadyIn.cons rfl (fun K hK => ?_) ?_
      ·rw [if_pos (by rfl)]
       refine wpIn_append_run _ _ _ rfl rfl rfl hrn ?_
       clear hrn
       go_simp
       refine hK _ _ ?_
       clear hK K
       refine wpAnyIn_ready (rs := [5]) (by kernel_rfl) (by simp) ?_
       refine AllReadyIn.cons rfl (fun K hK => ?_) ?_
       ·go_simp
        refine hK _ _ ?_
        clear hK K
        refine wpAnyIn_done (by kernel_rfl) ?_ _
        exact ⟨rfl, hkk4, hR4⟩
       exact AllReadyIn.nil
      exact AllReadyIn.nil
     exact AllReadyIn.nil
    refine AllReadyIn.cons rfl (fun K hK => ?_) ?_
    ·go_simp
     refine ⟨trivial, rfl, ?_⟩
     refine CallsIn.mono hcall ?_
     rintro e W3 ⟨la, ln, lc, rfl, hln, hlo, hlb⟩
     obtain ⟨ra, rn, rc, W4, hrn, hf4, hc4, hkk4, hR4⟩ := happ W3 la ln lc hlb hln hlo
     have hc3 := hcs W3 hlb
     clear hln hlo hlb
     dsimp only
     refine hK _ _ ?_
     clear hK K
     refine wpAnyIn_ready (rs := [0]) (by kernel_rfl) (by simp) ?_
     refine AllReadyIn.cons rfl (fun K hK => ?_) ?_
     ·go_simp
      refine hK _ _ ?_
      clear hK K
      refine wpAnyIn_ready (rs := [4]) (by kernel_rfl) (by simp) ?_
      refine AllReadyIn.cons rfl (fun K hK => ?_) ?_
      ·rw [if_pos (by rfl)]
       refine wpIn_append_run _ _ _ rfl rfl rfl hrn ?_
       clear hrn
       go_simp
       refine hK _ _ ?_
       clear hK K
       refine wpAnyIn_ready (rs := [5]) (by kernel_rfl) (by simp) ?_
       refine AllReadyIn.cons rfl (fun K hK => ?_) ?_
       ·go_simp
        refine hK _ _ ?_
        clear hK K
        refine wpAnyIn_done (by kernel_rfl) ?_ _
        exact ⟨rfl, hkk4, hR4⟩
       exact AllReadyIn.nil
      exact AllReadyIn.nil
     exact AllReadyIn.nil
    exact AllReadyIn.nil
   exact AllReadyIn.nil
  exact AllReadyIn.nil
 case done =>
  intro D y W hD hy hR hK
  obtain ⟨ys, ⟨oa, on, oc⟩, hb, ho, he⟩ := hR.out
  have hc1 : W.cell? ⟨w.heap.size + 1, 0, none⟩ = some (.slice oa on oc) := hb.cell
  gi_wp2
  refine ⟨by simp, .inl ⟨_, _, rfl, run_takeDeferred hK, ?_⟩⟩
  refine ⟨_, results_tmp rfl _ _ _, ?_⟩
  have hnil : Z.drop y.1 = [] := List.eq_nil_of_length_eq_zero (by rw [← hR.len]; exact hy)
  rw [hnil] at he
  have he : ys = (vocOf s T).encode Z := by rw [← he]; exact (List.append_nil ys).symm
  subst he
  exact ⟨⟨oa, on, oc⟩, rfl, (Rw.of_own (s := ⟨oa, on, oc⟩) ho (fun _ => rfl) (by decide)).2, ownsRow_putObj ho _ hK rfl, hR.le.trans ((Below.refl _ W).grown (grownBy_putObj' W D _) hR.le.size (fun j e => by cases e; omega))⟩
theorem own_le {w : World} {B : Nat} {e : TypeId} {sz : Nat} {l : Sl} {xs : List Value} (h : w.ownsRow B e sz l.v l.n xs) : l.n ≤ l.c := by
 obtain ⟨a, c, e, hc⟩ := own_form h
 have e : Value.slice l.a l.n l.c = .slice a l.n c := e
 simp only [Value.slice.injEq] at e
 omega
theorem containsI_spec (a : Option Addr) (c : Nat) (xs : List Int) (f : Value) (p : Int → Bool) (w : World) (hr : Rw encInt 1 w a xs) (hl : xs.length ≤ 1000000000000000)
  (hf : ∀ x ∈ xs, ∀ w1, Below w.heap.size w w1 → CallG ctx f [.int .i64 x] w1 (fun e w2 => e = .returned (.bool (p x)) ∧ Below w1.heap.size w1 w2)) :
  CP 137 #[.slice a xs.length c, f] w fun e w' => e = .returned (.bool (decide (idx p xs ≥ 0))) ∧ Below w.heap.size w w' := by
 refine calls_ret (vc137_calls a xs.length c f w (fun v w' => v = .bool (decide (idx p xs ≥ 0)) ∧ Below w.heap.size w w') ?_) (by rintro v w' ⟨rfl, h⟩; exact ⟨rfl, h⟩)
 refine (indexI_spec a c xs f p w hr hl hf).mono ?_
 rintro e w1 ⟨rfl, b1⟩
 exact ⟨_, rfl, rfl, b1⟩
theorem encMade_spec (w : World) (v : Nat) (c : Array Value) (tp bp mp : Nat) (h : VBlk w v c tp bp mp) (s : SpecV) (T : List Ent) (x : SpecW) (hP : VocParts w s T x tp bp mp) (A : Option Addr) (C : Nat) (Z : List Int) (hr : Rw encInt 1 w A Z) (hC : Z.length ≤ C) (hl : Z.length ≤ 100000) (hZ : ∀ y ∈ Z, itemOk s y = true) :
  CP 76 #[.pointer (some ⟨v, 0, none⟩), .slice A Z.length C] w fun e w' => ∃ l : Sl, e = .returned l.v ∧ l.n = ((vocOf s T).encode Z).length ∧ w'.ownsRow w.heap.size tInt 1 l.v l.n (((vocOf s T).encode Z).flatMap encInt) ∧ Below w.heap.size w w' := by
 refine calls_ret (vc76_calls (some ⟨v, 0, none⟩) A Z.length C w (fun u w' => ∃ l : Sl, u = l.v ∧ l.n = ((vocOf s T).encode Z).length ∧ w'.ownsRow w.heap.size tInt 1 l.v l.n (((vocOf s T).encode Z).flatMap encInt) ∧ Below w.heap.size w w') ?_) (by rintro v w' ⟨l, rfl, h⟩; exact ⟨l, rfl, h⟩)
 intro w1 hw1
 have b1 : Below w.heap.size w w1 := by subst hw1; exact below_alloc _ _
 have l1 : w1.heap[w.heap.size]? = some (.cells #[.pointer (some ⟨v, 0, none⟩)] 31 (0, 0)) := by subst hw1; exact alloc_new _ _
 have pc : ∀ {w' : World}, w'.heap[w.heap.size]? = some (.cells #[.pointer (some ⟨v, 0, none⟩)] 31 (0, 0)) → w'.cell? (nb w) = some (.pointer (some ⟨v, 0, none⟩)) := fun h => cell_heap h
 have hfew := hP.few
 refine ⟨_, pc l1, CondP.no rfl ?_⟩
 refine (containsI_spec A C Z _ (fun y => !itemOk s y) w1 (hr.on b1) (by omega) ?_).mono ?_
 ·intro y hy w2 b2
  refine callG_of (by kernel_rfl) ?_
  refine calls_ret (vc138_calls y (some (nb w)) w2 (fun u w' => u = .bool (!itemOk s y) ∧ Below w2.heap.size w2 w') ?_) (by rintro v w' ⟨rfl, h⟩; exact ⟨rfl, h⟩)
  have b12 := below_then b1 b2
  refine NilC.mk _ rfl ⟨_, pc (held_on b2 l1), ?_⟩
  refine (encRight_spec w2 v c tp bp mp (h.on b12) s (hP.on b12).marks (by omega) y).mono ?_
  rintro e w3 ⟨rfl, hw⟩
  subst hw
  exact ⟨_, rfl, rfl, Below.refl _ _⟩
 ·rintro e w2 ⟨rfl, b2⟩
  have b12 := below_then b1 b2
  have hno : idx (fun y => !itemOk s y) Z = -1 := idx_none fun j hj => by rw [hZ _ (List.getElem_mem hj)]; rfl
  refine ⟨_, rfl, CondP.no (by rw [hno]; rfl) ⟨_, pc (held_on b2 l1), ?_⟩⟩
  refine (tokens_spec w2 v c tp bp mp (h.on b12) s T x (hP.on b12) A C Z (hr.on b12) hC hl hZ).mono ?_
  rintro e w3 ⟨l, rfl, hln, ho, b3⟩
  exact ⟨_, _, _, rfl, l, rfl, hln, own_base ho b12.size, below_then b12 b3⟩
end Go.Proofs.YtnmdljikfhafiaaGreat.Eng
