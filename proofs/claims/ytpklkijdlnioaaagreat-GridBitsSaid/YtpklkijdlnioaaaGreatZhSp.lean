/- Two tokens side by side: the walk along their spines, walked by the engine. -/
import Derived.Test.YtpklkijdlnioaaaGreatZhAl
set_option linter.unusedVariables false
set_option linter.unusedSimpArgs false
set_option maxRecDepth 100000
namespace Go.Proofs.YtpklkijdlnioaaaGreat.Eng
open Go Go.RowKit
abbrev tWalk : TypeId := 276
def WkIs (w : World) (p tp : Nat) (a b limit steps : Int) : Prop := w.heap[p]? = some (.cells #[.int .i64 a, .int .i64 b, .pointer (some ⟨tp, 0, none⟩), .int .i64 limit, .int .i64 steps] tWalk (0, 0))
theorem WkIs.on {w w' : World} {p tp : Nat} {a b limit steps : Int} (h : WkIs w p tp a b limit steps) (hb : Below w.heap.size w w') : WkIs w' p tp a b limit steps := held_on hb h
/-- Has a token parents? -/
def splits (T : List Ent) (a : Int) : Bool := decide (inTab T a ∧ parentsOf T a ≠ (-1, -1))

theorem left_spec (w : World) (B p tp : Nat) (T : List Ent) (a b limit steps : Int) (hT : TabIs w tp T) (h : WkIs w p tp a b limit steps) (hB : B ≤ p) (hs : 0 ≤ steps ∧ steps ≤ 1000000) (hab : -1000000 ≤ b ∧ b ≤ 1000000) :
    Calls Tryz.prog 224 #[.pointer (some ⟨p, 0, none⟩)] w fun e w' => e = .returned (.bool (splits T a)) ∧ (if splits T a = true then WkIs w' p tp (parentsOf T a).2 b a (steps + 1) else WkIs w' p tp a b limit steps) ∧ Touch p w w' := by
  refine calls_ret (vc224_calls (some ⟨p, 0, none⟩) w (fun v w' => v = .bool (splits T a) ∧ (if splits T a = true then WkIs w' p tp (parentsOf T a).2 b a (steps + 1) else WkIs w' p tp a b limit steps) ∧ Touch p w w') ?_) (by rintro v w' ⟨rfl, h⟩; exact ⟨rfl, h⟩)
  intro w1 hw1
  have hb1 : Below w.heap.size w w1 := by subst hw1; exact drew_on w
  have h1 := h.on hb1
  have hpl : p < w.heap.size := (Array.getElem?_eq_some_iff.1 h).1
  -- behind the parents: they lie in a block of their own
  have rest : ∀ (x y : Int) (r1 : Bool) (loc : Nat) (wq : World), r1 = splits T a → (r1 = true → y = (parentsOf T a).2) → loc ≠ p → WkIs wq p tp a b limit steps → wq.heap[loc]? = some (.cells #[.int .i64 x, .int .i64 y] tMg (0, 0)) → Touch p w wq →
      ∀ J : List Value → World → Prop, (∀ w5 : World, (Value.bool r1 = .bool (splits T a) ∧ (if splits T a = true then WkIs w5 p tp (parentsOf T a).2 b a (steps + 1) else WkIs w5 p tp a b limit steps) ∧ Touch p w w5) → J [] w5) →
      CondP r1
       (∀ w6 : World, w6 = wq.drew →
        NilC (some ⟨p, 0, none⟩) (fun pa_3 =>
        ∃ n_4 : Int, w6.cell? (((pa_3.add 0).add 0).add 0) = some (Value.int .i64 n_4) ∧
        
        ∃ n_6 : Int, w6.cell? ((⟨loc, 0, none⟩ : Addr).add 1) = some (Value.int .i64 n_6) ∧
        NilC (some ⟨p, 0, none⟩) (fun pa_6 =>
        (Value.int .i64 n_4).oneCell' = true ∧ (∃ u, w6.cell? (pa_6.add 3) = some u) ∧ w6.frozen? (pa_6.add 3) = false ∧
        ∀ w7 : World, w7 = (w6.setCell (pa_6.add 3) (Value.int .i64 n_4)) →
        (w7.cell? ((⟨loc, 0, none⟩ : Addr).add 1) = some (Value.int .i64 n_6) ∧ True) ∧
        NilC (some ⟨p, 0, none⟩) (fun pa_7 =>
        (Value.int .i64 n_6).oneCell' = true ∧ (∃ u, w7.cell? (((pa_7.add 0).add 0).add 0) = some u) ∧ w7.frozen? (((pa_7.add 0).add 0).add 0) = false ∧
        ∀ w8 : World, w8 = (w7.setCell (((pa_7.add 0).add 0).add 0) (Value.int .i64 n_6)) →
        NilC (some ⟨p, 0, none⟩) (fun pa_8 =>
        ∃ n_9 : Int, w8.cell? (pa_8.add 4) = some (Value.int .i64 n_9) ∧
        Ar .i64 ((n_9 : Int) + 1) (fun n_10 =>
        NilC (some ⟨p, 0, none⟩) (fun pa_11 =>
        (Value.int .i64 n_10).oneCell' = true ∧ (∃ u, w8.cell? (pa_11.add 4) = some u) ∧ w8.frozen? (pa_11.add 4) = false ∧
        ∀ w9 : World, w9 = (w8.setCell (pa_11.add 4) (Value.int .i64 n_10)) →
        J [] w9)))))))
       (J [] wq) := by
    intro x y r1 loc wq hr hy hloc hwq hlq htq J hJ
    refine CondP.mk (fun h0 => ?_) fun h0 => ?_
    · intro w6 hw6
      have h6 : WkIs w6 p tp a b limit steps := by subst hw6; exact hwq
      have l6 : w6.heap[loc]? = some (.cells #[.int .i64 x, .int .i64 y] tMg (0, 0)) := by subst hw6; exact hlq
      have t6 : Touch p w w6 := by subst hw6; exact htq.trans (Touch.of_below (drew_on _))
      have c6 : ∀ j, w6.cell? ⟨p, j, none⟩ = _ := fun j => cell_heap h6
      simp only [add_lit, Nat.zero_add, Nat.add_zero]
      refine NilC.mk _ rfl ⟨a, c6 0, ⟨y, cell_heap l6, NilC.mk _ rfl ⟨rfl, ⟨_, c6 3⟩, frozen_heap h6, ?_⟩⟩⟩
      intro w7 hw7
      have h7 : WkIs w7 p tp a b a steps := by subst hw7; exact setCell_heap h6 _
      have s7 : ∀ k, k ≠ p → w7.heap[k]? = w6.heap[k]? := fun k hk => by subst hw7; exact heap_setCell_ne hk
      have t7 : Touch p w w7 := t6.trans (by subst hw7; exact ⟨rfl, rfl, rfl, by rw [size_setCell]; exact Nat.le_refl _, fun k _ hk => heap_setCell_ne hk⟩)
      have c7 : ∀ j, w7.cell? ⟨p, j, none⟩ = _ := fun j => cell_heap h7
      refine ⟨⟨cell_heap (by rw [s7 loc hloc]; exact l6), trivial⟩, NilC.mk _ rfl ⟨rfl, ⟨_, c7 0⟩, frozen_heap h7, ?_⟩⟩
      intro w8 hw8
      have h8 : WkIs w8 p tp y b a steps := by subst hw8; exact setCell_heap h7 _
      have t8 : Touch p w w8 := t7.trans (by subst hw8; exact ⟨rfl, rfl, rfl, by rw [size_setCell]; exact Nat.le_refl _, fun k _ hk => heap_setCell_ne hk⟩)
      have c8 : ∀ j, w8.cell? ⟨p, j, none⟩ = _ := fun j => cell_heap h8
      refine NilC.mk _ rfl ⟨steps, c8 4, Ar.ok64 (by omega) (by omega) (NilC.mk _ rfl ⟨rfl, ⟨_, c8 4⟩, frozen_heap h8, ?_⟩)⟩
      intro w9 hw9
      have h9 : WkIs w9 p tp y b a (steps + 1) := by subst hw9; exact setCell_heap h8 _
      have t9 : Touch p w w9 := t8.trans (by subst hw9; exact ⟨rfl, rfl, rfl, by rw [size_setCell]; exact Nat.le_refl _, fun k _ hk => heap_setCell_ne hk⟩)
      refine hJ w9 ⟨by rw [hr], ?_, t9⟩
      rw [if_pos (by rw [← hr]; exact h0), ← hy h0]
      exact h9
    · refine hJ wq ⟨by rw [hr], ?_, htq⟩
      rw [if_neg (by rw [← hr, h0]; simp)]
      exact hwq
  have c1 : ∀ j, w1.cell? ⟨p, j, none⟩ = _ := fun j => cell_heap h1
  have hpar : ∃ (x y : Int), parV T a = .tuple #[.agg #[.int .i64 x, .int .i64 y], .bool (splits T a)] ∧ (splits T a = true → y = (parentsOf T a).2) := by
    unfold parV splits
    by_cases hc : inTab T a ∧ parentsOf T a ≠ (-1, -1)
    · rw [if_pos hc, decide_eq_true hc]
      exact ⟨_, _, rfl, fun _ => rfl⟩
    · rw [if_neg hc, decide_eq_false hc]
      exact ⟨0, 0, rfl, fun h => by cases h⟩
  obtain ⟨x, y, hxy, hxy2⟩ := hpar
  refine NilC.mk _ rfl ⟨some ⟨tp, 0, none⟩, by simp only [add_lit, Nat.zero_add]; exact c1 2, NilC.mk _ rfl ⟨a, by simp only [add_lit, Nat.zero_add, Nat.add_zero]; exact c1 0, ?_, ?_⟩⟩
  · refine (tokParents_spec w1 tp T (hT.on hb1) a).mono ?_
    rintro e w2 ⟨rfl, hb2⟩
    rw [hxy]
    refine ⟨x, y, _, rfl, ?_⟩
    intro w3 hw3
    refine storeP_new [.int .i64 0, .int .i64 0] [.int .i64 x, .int .i64 y] rfl (ones_pair _ _) w3 hw3 ?_
    intro w4 h4 hz4 hB4
    have hb14 := below_then hb1 (below_then hb2 hB4)
    have hz2 := (below_then hb1 hb2).size
    intro J hJ
    exact rest x y _ w2.heap.size w4 rfl hxy2 (by omega) (h1.on (below_then hb2 hB4)) h4 (Touch.of_below hb14) J hJ
  · intro w10 hw10
    have hb10 : Below w1.heap.size w1 w10 := by subst hw10; exact below_alloc _ _
    have h10 := h1.on hb10
    have l10 : w10.heap[w1.heap.size]? = some (.cells #[Value.int .i64 0, Value.int .i64 0] tMg (0, 0)) := by subst hw10; exact alloc_new _ _
    have c10 : ∀ j, w10.cell? ⟨p, j, none⟩ = _ := fun j => cell_heap h10
    refine ⟨⟨by simp only [add_lit, Nat.zero_add, Nat.add_zero]; exact c10 0, trivial⟩, ⟨by simp only [add_lit, Nat.zero_add]; exact c10 2, trivial⟩, ?_⟩
    refine (tokParents_spec w10 tp T ((hT.on hb1).on hb10) a).mono ?_
    rintro e w11 ⟨rfl, hb11⟩
    rw [hxy]
    refine ⟨x, y, _, rfl, ?_⟩
    have hz1 := hb1.size
    refine storeP_cells (held_on hb11 l10) [.int .i64 x, .int .i64 y] rfl (ones_pair _ _) ?_
    intro w12 h12 hs12 hz12 hB12
    have h12' : WkIs w12 p tp a b limit steps := by
      unfold WkIs
      rw [hs12 p (by omega)]
      exact h10.on hb11
    have hb112 : Below w1.heap.size w1 w12 := hB12 _ _ (Nat.le_refl _) (below_then hb10 hb11)
    intro J hJ
    exact rest x y _ w1.heap.size w12 rfl hxy2 (by omega) h12' h12 (Touch.of_below (below_then hb1 hb112)) J hJ

theorem right_spec (w : World) (B p tp : Nat) (T : List Ent) (a b limit steps : Int) (hT : TabIs w tp T) (h : WkIs w p tp a b limit steps) (hB : B ≤ p) (hs : 0 ≤ steps ∧ steps ≤ 1000000) (hab : -1000000 ≤ b ∧ b ≤ 1000000) :
    Calls Tryz.prog 225 #[.pointer (some ⟨p, 0, none⟩)] w fun e w' => e = .returned (.bool (splits T b)) ∧ (if splits T b = true then WkIs w' p tp a (parentsOf T b).1 (b + 1) (steps + 1) else WkIs w' p tp a b limit steps) ∧ Touch p w w' := by
  refine calls_ret (vc225_calls (some ⟨p, 0, none⟩) w (fun v w' => v = .bool (splits T b) ∧ (if splits T b = true then WkIs w' p tp a (parentsOf T b).1 (b + 1) (steps + 1) else WkIs w' p tp a b limit steps) ∧ Touch p w w') ?_) (by rintro v w' ⟨rfl, h⟩; exact ⟨rfl, h⟩)
  intro w1 hw1
  have hb1 : Below w.heap.size w w1 := by subst hw1; exact drew_on w
  have h1 := h.on hb1
  have hpl : p < w.heap.size := (Array.getElem?_eq_some_iff.1 h).1
  -- behind the parents: they lie in a block of their own
  have rest : ∀ (x y : Int) (r1 : Bool) (loc : Nat) (wq : World), r1 = splits T b → (r1 = true → x = (parentsOf T b).1) → loc ≠ p → WkIs wq p tp a b limit steps → wq.heap[loc]? = some (.cells #[.int .i64 x, .int .i64 y] tMg (0, 0)) → Touch p w wq →
      ∀ J : List Value → World → Prop, (∀ w5 : World, (Value.bool r1 = .bool (splits T b) ∧ (if splits T b = true then WkIs w5 p tp a (parentsOf T b).1 (b + 1) (steps + 1) else WkIs w5 p tp a b limit steps) ∧ Touch p w w5) → J [] w5) →
      CondP r1
       (∀ w6 : World, w6 = wq.drew →
        NilC (some ⟨p, 0, none⟩) (fun pa_3 =>
        ∃ n_4 : Int, w6.cell? (((pa_3.add 0).add 0).add 1) = some (Value.int .i64 n_4) ∧
        Ar .i64 ((n_4 : Int) + 1) (fun n_5 =>
        ∃ n_6 : Int, w6.cell? ((⟨loc, 0, none⟩ : Addr).add 0) = some (Value.int .i64 n_6) ∧
        NilC (some ⟨p, 0, none⟩) (fun pa_6 =>
        (Value.int .i64 n_5).oneCell' = true ∧ (∃ u, w6.cell? (pa_6.add 3) = some u) ∧ w6.frozen? (pa_6.add 3) = false ∧
        ∀ w7 : World, w7 = (w6.setCell (pa_6.add 3) (Value.int .i64 n_5)) →
        (w7.cell? ((⟨loc, 0, none⟩ : Addr).add 0) = some (Value.int .i64 n_6) ∧ True) ∧
        NilC (some ⟨p, 0, none⟩) (fun pa_7 =>
        (Value.int .i64 n_6).oneCell' = true ∧ (∃ u, w7.cell? (((pa_7.add 0).add 0).add 1) = some u) ∧ w7.frozen? (((pa_7.add 0).add 0).add 1) = false ∧
        ∀ w8 : World, w8 = (w7.setCell (((pa_7.add 0).add 0).add 1) (Value.int .i64 n_6)) →
        NilC (some ⟨p, 0, none⟩) (fun pa_8 =>
        ∃ n_9 : Int, w8.cell? (pa_8.add 4) = some (Value.int .i64 n_9) ∧
        Ar .i64 ((n_9 : Int) + 1) (fun n_10 =>
        NilC (some ⟨p, 0, none⟩) (fun pa_11 =>
        (Value.int .i64 n_10).oneCell' = true ∧ (∃ u, w8.cell? (pa_11.add 4) = some u) ∧ w8.frozen? (pa_11.add 4) = false ∧
        ∀ w9 : World, w9 = (w8.setCell (pa_11.add 4) (Value.int .i64 n_10)) →
        J [] w9))))))))
       (J [] wq) := by
    intro x y r1 loc wq hr hy hloc hwq hlq htq J hJ
    refine CondP.mk (fun h0 => ?_) fun h0 => ?_
    · intro w6 hw6
      have h6 : WkIs w6 p tp a b limit steps := by subst hw6; exact hwq
      have l6 : w6.heap[loc]? = some (.cells #[.int .i64 x, .int .i64 y] tMg (0, 0)) := by subst hw6; exact hlq
      have t6 : Touch p w w6 := by subst hw6; exact htq.trans (Touch.of_below (drew_on _))
      have c6 : ∀ j, w6.cell? ⟨p, j, none⟩ = _ := fun j => cell_heap h6
      simp only [add_lit, Nat.zero_add, Nat.add_zero]
      refine NilC.mk _ rfl ⟨b, c6 1, Ar.ok64 (by omega) (by omega) ⟨x, cell_heap l6, NilC.mk _ rfl ⟨rfl, ⟨_, c6 3⟩, frozen_heap h6, ?_⟩⟩⟩
      intro w7 hw7
      have h7 : WkIs w7 p tp a b (b + 1) steps := by subst hw7; exact setCell_heap h6 _
      have s7 : ∀ k, k ≠ p → w7.heap[k]? = w6.heap[k]? := fun k hk => by subst hw7; exact heap_setCell_ne hk
      have t7 : Touch p w w7 := t6.trans (by subst hw7; exact ⟨rfl, rfl, rfl, by rw [size_setCell]; exact Nat.le_refl _, fun k _ hk => heap_setCell_ne hk⟩)
      have c7 : ∀ j, w7.cell? ⟨p, j, none⟩ = _ := fun j => cell_heap h7
      refine ⟨⟨cell_heap (by rw [s7 loc hloc]; exact l6), trivial⟩, NilC.mk _ rfl ⟨rfl, ⟨_, c7 1⟩, frozen_heap h7, ?_⟩⟩
      intro w8 hw8
      have h8 : WkIs w8 p tp a x (b + 1) steps := by subst hw8; exact setCell_heap h7 _
      have t8 : Touch p w w8 := t7.trans (by subst hw8; exact ⟨rfl, rfl, rfl, by rw [size_setCell]; exact Nat.le_refl _, fun k _ hk => heap_setCell_ne hk⟩)
      have c8 : ∀ j, w8.cell? ⟨p, j, none⟩ = _ := fun j => cell_heap h8
      refine NilC.mk _ rfl ⟨steps, c8 4, Ar.ok64 (by omega) (by omega) (NilC.mk _ rfl ⟨rfl, ⟨_, c8 4⟩, frozen_heap h8, ?_⟩)⟩
      intro w9 hw9
      have h9 : WkIs w9 p tp a x (b + 1) (steps + 1) := by subst hw9; exact setCell_heap h8 _
      have t9 : Touch p w w9 := t8.trans (by subst hw9; exact ⟨rfl, rfl, rfl, by rw [size_setCell]; exact Nat.le_refl _, fun k _ hk => heap_setCell_ne hk⟩)
      refine hJ w9 ⟨by rw [hr], ?_, t9⟩
      rw [if_pos (by rw [← hr]; exact h0), ← hy h0]
      exact h9
    · refine hJ wq ⟨by rw [hr], ?_, htq⟩
      rw [if_neg (by rw [← hr, h0]; simp)]
      exact hwq
  have c1 : ∀ j, w1.cell? ⟨p, j, none⟩ = _ := fun j => cell_heap h1
  have hpar : ∃ (x y : Int), parV T b = .tuple #[.agg #[.int .i64 x, .int .i64 y], .bool (splits T b)] ∧ (splits T b = true → x = (parentsOf T b).1) := by
    unfold parV splits
    by_cases hc : inTab T b ∧ parentsOf T b ≠ (-1, -1)
    · rw [if_pos hc, decide_eq_true hc]
      exact ⟨_, _, rfl, fun _ => rfl⟩
    · rw [if_neg hc, decide_eq_false hc]
      exact ⟨0, 0, rfl, fun h => by cases h⟩
  obtain ⟨x, y, hxy, hxy2⟩ := hpar
  refine NilC.mk _ rfl ⟨some ⟨tp, 0, none⟩, by simp only [add_lit, Nat.zero_add]; exact c1 2, NilC.mk _ rfl ⟨b, by simp only [add_lit, Nat.zero_add, Nat.add_zero]; exact c1 1, ?_, ?_⟩⟩
  · refine (tokParents_spec w1 tp T (hT.on hb1) b).mono ?_
    rintro e w2 ⟨rfl, hb2⟩
    rw [hxy]
    refine ⟨x, y, _, rfl, ?_⟩
    intro w3 hw3
    refine storeP_new [.int .i64 0, .int .i64 0] [.int .i64 x, .int .i64 y] rfl (ones_pair _ _) w3 hw3 ?_
    intro w4 h4 hz4 hB4
    have hb14 := below_then hb1 (below_then hb2 hB4)
    have hz2 := (below_then hb1 hb2).size
    intro J hJ
    exact rest x y _ w2.heap.size w4 rfl hxy2 (by omega) (h1.on (below_then hb2 hB4)) h4 (Touch.of_below hb14) J hJ
  · intro w10 hw10
    have hb10 : Below w1.heap.size w1 w10 := by subst hw10; exact below_alloc _ _
    have h10 := h1.on hb10
    have l10 : w10.heap[w1.heap.size]? = some (.cells #[Value.int .i64 0, Value.int .i64 0] tMg (0, 0)) := by subst hw10; exact alloc_new _ _
    have c10 : ∀ j, w10.cell? ⟨p, j, none⟩ = _ := fun j => cell_heap h10
    refine ⟨⟨by simp only [add_lit, Nat.zero_add, Nat.add_zero]; exact c10 1, trivial⟩, ⟨by simp only [add_lit, Nat.zero_add]; exact c10 2, trivial⟩, ?_⟩
    refine (tokParents_spec w10 tp T ((hT.on hb1).on hb10) b).mono ?_
    rintro e w11 ⟨rfl, hb11⟩
    rw [hxy]
    refine ⟨x, y, _, rfl, ?_⟩
    have hz1 := hb1.size
    refine storeP_cells (held_on hb11 l10) [.int .i64 x, .int .i64 y] rfl (ones_pair _ _) ?_
    intro w12 h12 hs12 hz12 hB12
    have h12' : WkIs w12 p tp a b limit steps := by
      unfold WkIs
      rw [hs12 p (by omega)]
      exact h10.on hb11
    have hb112 : Below w1.heap.size w1 w12 := hB12 _ _ (Nat.le_refl _) (below_then hb10 hb11)
    intro J hJ
    exact rest x y _ w1.heap.size w12 rfl hxy2 (by omega) h12' h12 (Touch.of_below (below_then hb1 hb112)) J hJ
end Go.Proofs.YtpklkijdlnioaaaGreat.Eng
