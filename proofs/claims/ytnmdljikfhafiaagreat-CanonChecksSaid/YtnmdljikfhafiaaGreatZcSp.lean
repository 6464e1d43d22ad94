/- Two tokens side by side: the walk along their spines, walked by the engine. -/
import Derived.Test.YtnmdljikfhafiaaGreatZcPf
import Derived.Test.YtnmdljikfhafiaaGreatZcBd
set_option linter.unusedVariables false
set_option linter.unusedSimpArgs false
set_option maxRecDepth 100000
namespace Go.Proofs.YtnmdljikfhafiaaGreat.Eng
open Go Go.RowKit
abbrev tWalk : TypeId := 335
def WkIs (w : World) (p tp : Nat) (a b limit steps : Int) : Prop := w.heap[p]? = some (.cells #[.int .i64 a, .int .i64 b, .pointer (some ⟨tp, 0, none⟩), .int .i64 limit, .int .i64 steps] tWalk (0, 0))
theorem WkIs.on {w w' : World} {p tp : Nat} {a b limit steps : Int} (h : WkIs w p tp a b limit steps) (hb : Below w.heap.size w w') : WkIs w' p tp a b limit steps := held_on hb h
def splits (T : List Ent) (a : Int) : Bool := decide (inTab T a ∧ parentsOf T a ≠ (-1, -1))
theorem left_spec (w : World) (B p tp : Nat) (T : List Ent) (a b limit steps : Int) (hT : TabIs w tp T) (h : WkIs w p tp a b limit steps) (hB : B ≤ p) (hs : 0 ≤ steps ∧ steps ≤ 1000000) (hab : -1000000 ≤ b ∧ b ≤ 1000000) :
  CP 263 #[.pointer (some ⟨p, 0, none⟩)] w fun e w' => e = .returned (.bool (splits T a)) ∧ (if splits T a = true then WkIs w' p tp (parentsOf T a).2 b a (steps + 1) else WkIs w' p tp a b limit steps) ∧ Touch p w w' := by
 refine calls_ret (vc263_calls (some ⟨p, 0, none⟩) w (fun v w' => v = .bool (splits T a) ∧ (if splits T a = true then WkIs w' p tp (parentsOf T a).2 b a (steps + 1) else WkIs w' p tp a b limit steps) ∧ Touch p w w') ?_) (by rintro v w' ⟨rfl, h⟩; exact ⟨rfl, h⟩)
 intro w1 hw1
 have hb1 : Below w.heap.size w w1 := by subst hw1; exact drew_on w
 have h1 := h.on hb1
 have hpl : p < w.heap.size := (Array.getElem?_eq_some_iff.1 h).1
 have rest : ∀ (x y : Int) (r1 : Bool) (loc : Nat) (wq : World), r1 = splits T a → (r1 = true → y = (parentsOf T a).2) → loc ≠ p → WkIs wq p tp a b limit steps → wq.heap[loc]? = some (.cells #[.int .i64 x, .int .i64 y] tMg (0, 0)) → Touch p w wq →
   ∀ J : List Value → World → Prop, (∀ w5 : World, (Value.bool r1 = .bool (splits T a) ∧ (if splits T a = true then WkIs w5 p tp (parentsOf T a).2 b a (steps + 1) else WkIs w5 p tp a b limit steps) ∧ Touch p w w5) → J [] w5) →
   CondP r1
    (∀ w6 : World, w6 = wq.drew →
     NilC (some ⟨p, 0, none⟩) (fun pa_3 =>
     ∃ n_4 : Int, w6.cell? (((pa_3.add 0).add 0).add 0) = some (Value.int .i64 n_4) ∧
     ∃ n_6 : Int, w6.cell? ((⟨loc, 0, none⟩ : Addr).add 1) = some (Value.int .i64 n_6) ∧
     NilC (some ⟨p, 0, none⟩) (fun pa_6 =>
     (Value.int .i64 n_4).oneCell' = true ∧ (∃ u, w6.cell? (pa_6.add 3) = some u) ∧ w6.frozen? (pa_6.add 3) = false ∧
     ∀ w7 : World, w7 = (w6.setCell (pa_6.add 3) (Value.int .i64 n_4)) →
     (w7.cell? ((⟨loc, 0, none⟩ : Addr).add 1) = some (Value.int .i64 n_6) ∧ True) ∧
     NilC (some ⟨p, 0, none⟩) (fun pa_7 =>
     (Value.int .i64 n_6).oneCell' = true ∧ (∃ u, w7.cell? (((pa_7.add 0).add 0).add 0) = some u) ∧ w7.frozen? (((pa_7.add 0).add 0).add 0) = false ∧
     ∀ w8 : World, w8 = (w7.setCell (((pa_7.add 0).add 0).add 0) (Value.int .i64 n_6)) →
     NilC (some ⟨p, 0, none⟩) (fun pa_8 =>
     ∃ n_9 : Int, w8.cell? (pa_8.add 4) = some (Value.int .i64 n_9) ∧
     Ar .i64 ((n_9 : Int) + 1) (fun n_10 =>
     NilC (some ⟨p, 0, none⟩) (fun pa_11 =>
     (Value.int .i64 n_10).oneCell' = true ∧ (∃ u, w8.cell? (pa_11.add 4) = some u) ∧ w8.frozen? (pa_11.add 4) = false ∧
     ∀ w9 : World, w9 = (w8.setCell (pa_11.add 4) (Value.int .i64 n_10)) →
     J [] w9)))))))
    (J [] wq) := by
  intro x y r1 loc wq hr hy hloc hwq hlq htq J hJ
  refine CondP.mk (fun h0 => ?_) fun h0 => ?_
  ·intro w6 hw6
   have h6 : WkIs w6 p tp a b limit steps := by subst hw6; exact hwq
   have l6 : w6.heap[loc]? = some (.cells #[.int .i64 x, .int .i64 y] tMg (0, 0)) := by subst hw6; exact hlq
   have t6 : Touch p w w6 := by subst hw6; exact htq.trans (Touch.of_below (drew_on _))
   have c6 : ∀ j, w6.cell? ⟨p, j, none⟩ = _ := fun j => cell_heap h6
   simp only [add_lit, Nat.zero_add, Nat.add_zero]
   refine NilC.mk _ rfl ⟨a, c6 0, ⟨y, cell_heap l6, NilC.mk _ rfl ⟨rfl, ⟨_, c6 3⟩, frozen_heap h6, ?_⟩⟩⟩
   intro w7 hw7
   have h7 : WkIs w7 p tp a b a steps := by subst hw7; exact setCell_heap h6 _
   have s7 : ∀ k, k ≠ p → w7.heap[k]? = w6.heap[k]? := fun k hk => by subst hw7; exact heap_setCell_ne hk
   have t7 : Touch p w w7 := t6.trans (by subst hw7; exact ⟨rfl, rfl, rfl, by rw [size_setCell]; exact Nat.le_refl _, fun k _ hk => heap_setCell_ne hk⟩)
   have c7 : ∀ j, w7.cell? ⟨p, j, none⟩ = _ := fun j => cell_heap h7
   refine ⟨⟨cell_heap (by rw [s7 loc hloc]; exact l6), trivial⟩, NilC.mk _ rfl ⟨rfl, ⟨_, c7 0⟩, frozen_heap h7, ?_⟩⟩
   intro w8 hw8
   have h8 : WkIs w8 p tp y b a steps := by subst hw8; exact setCell_heap h7 _
   have t8 : Touch p w w8 := t7.trans (by subst hw8; exact ⟨rfl, rfl, rfl, by rw [size_setCell]; exact Nat.le_refl _, fun k _ hk => heap_setCell_ne hk⟩)
   have c8 : ∀ j, w8.cell? ⟨p, j, none⟩ = _ := fun j => cell_heap h8
   refine NilC.mk _ rfl ⟨steps, c8 4, Ar.ok64 (by omega) (by omega) (NilC.mk _ rfl ⟨rfl, ⟨_, c8 4⟩, frozen_heap h8, ?_⟩)⟩
   intro w9 hw9
   have h9 : WkIs w9 p tp y b a (steps + 1) := by subst hw9; exact setCell_heap h8 _
   have t9 : Touch p w w9 := t8.trans (by subst hw9; exact ⟨rfl, rfl, rfl, by rw [size_setCell]; exact Nat.le_refl _, fun k _ hk => heap_setCell_ne hk⟩)
   refine hJ w9 ⟨by rw [hr], ?_, t9⟩
   rw [if_pos (by rw [← hr]; exact h0), ← hy h0]
   exact h9
  ·refine hJ wq ⟨by rw [hr], ?_, htq⟩
   rw [if_neg (by rw [← hr, h0]; simp)]
   exact hwq
 have c1 : ∀ j, w1.cell? ⟨p, j, none⟩ = _ := fun j => cell_heap h1
 have hpar : ∃ (x y : Int), parV T a = .tuple #[.agg #[.int .i64 x, .int .i64 y], .bool (splits T a)] ∧ (splits T a = true → y = (parentsOf T a).2) := by
  unfold parV splits
  by_cases hc : inTab T a ∧ parentsOf T a ≠ (-1, -1)
  ·rw [if_pos hc, decide_eq_true hc]
   exact ⟨_, _, rfl, fun _ => rfl⟩
  ·rw [if_neg hc, decide_eq_false hc]
   exact ⟨0, 0, rfl, fun h => by cases h⟩
 obtain ⟨x, y, hxy, hxy2⟩ := hpar
 refine NilC.mk _ rfl ⟨some ⟨tp, 0, none⟩, by simp only [add_lit, Nat.zero_add]; exact c1 2, NilC.mk _ rfl ⟨a, by simp only [add_lit, Nat.zero_add, Nat.add_zero]; exact c1 0, ?_, ?_⟩⟩
 ·refine (tokParents_spec w1 tp T (hT.on hb1) a).mono ?_
  rintro e w2 ⟨rfl, hb2⟩
  rw [hxy]
  refine ⟨x, y, _, rfl, ?_⟩
  intro w3 hw3
  refine storeP_new [.int .i64 0, .int .i64 0] [.int .i64 x, .int .i64 y] rfl (ones_pair _ _) w3 hw3 ?_
  intro w4 h4 hz4 hB4
  have hb14 := below_then hb1 (below_then hb2 hB4)
  have hz2 := (below_then hb1 hb2).size
  intro J hJ
  exact rest x y _ w2.heap.size w4 rfl hxy2 (by omega) (h1.on (below_then hb2 hB4)) h4 (Touch.of_below hb14) J hJ
 ·intro w10 hw10
  have hb10 : Below w1.heap.size w1 w10 := by subst hw10; exact below_alloc _ _
  have h10 := h1.on hb10
  have l10 : w10.heap[w1.heap.size]? = some (.cells #[Value.int .i64 0, Value.int .i64 0] tMg (0, 0)) := by subst hw10; exact alloc_new _ _
  have c10 : ∀ j, w10.cell? ⟨p, j, none⟩ = _ := fun j => cell_heap h10
  refine ⟨⟨by simp only [add_lit, Nat.zero_add, Nat.add_zero]; exact c10 0, trivial⟩, ⟨by simp only [add_lit, Nat.zero_add]; exact c10 2, trivial⟩, ?_⟩
  refine (tokParents_spec w10 tp T ((hT.on hb1).on hb10) a).mono ?_
  rintro e w11 ⟨rfl, hb11⟩
  rw [hxy]
  refine ⟨x, y, _, rfl, ?_⟩
  have hz1 := hb1.size
  refine storeP_cells (held_on hb11 l10) [.int .i64 x, .int .i64 y] rfl (ones_pair _ _) ?_
  intro w12 h12 hs12 hz12 hB12
  have h12' : WkIs w12 p tp a b limit steps := by
   unfold WkIs
   rw [hs12 p (by omega)]
   exact h10.on hb11
  have hb112 : Below w1.heap.size w1 w12 := hB12 _ _ (Nat.le_refl _) (below_then hb10 hb11)
  intro J hJ
  exact rest x y _ w1.heap.size w12 rfl hxy2 (by omega) h12' h12 (Touch.of_below (below_then hb1 hb112)) J hJ
theorem right_spec (w : World) (B p tp : Nat) (T : List Ent) (a b limit steps : Int) (hT : TabIs w tp T) (h : WkIs w p tp a b limit steps) (hB : B ≤ p) (hs : 0 ≤ steps ∧ steps ≤ 1000000) (hab : -1000000 ≤ b ∧ b ≤ 1000000) :
  CP 264 #[.pointer (some ⟨p, 0, none⟩)] w fun e w' => e = .returned (.bool (splits T b)) ∧ (if splits T b = true then WkIs w' p tp a (parentsOf T b).1 (b + 1) (steps + 1) else WkIs w' p tp a b limit steps) ∧ Touch p w w' := by
 refine calls_ret (vc264_calls (some ⟨p, 0, none⟩) w (fun v w' => v = .bool (splits T b) ∧ (if splits T b = true then WkIs w' p tp a (parentsOf T b).1 (b + 1) (steps + 1) else WkIs w' p tp a b limit steps) ∧ Touch p w w') ?_) (by rintro v w' ⟨rfl, h⟩; exact ⟨rfl, h⟩)
 intro w1 hw1
 have hb1 : Below w.heap.size w w1 := by subst hw1; exact drew_on w
 have h1 := h.on hb1
 have hpl : p < w.heap.size := (Array.getElem?_eq_some_iff.1 h).1
 have rest : ∀ (x y : Int) (r1 : Bool) (loc : Nat) (wq : World), r1 = splits T b → (r1 = true → x = (parentsOf T b).1) → loc ≠ p → WkIs wq p tp a b limit steps → wq.heap[loc]? = some (.cells #[.int .i64 x, .int .i64 y] tMg (0, 0)) → Touch p w wq →
   ∀ J : List Value → World → Prop, (∀ w5 : World, (Value.bool r1 = .bool (splits T b) ∧ (if splits T b = true then WkIs w5 p tp a (parentsOf T b).1 (b + 1) (steps + 1) else WkIs w5 p tp a b limit steps) ∧ Touch p w w5) → J [] w5) →
   CondP r1
    (∀ w6 : World, w6 = wq.drew →
     NilC (some ⟨p, 0, none⟩) (fun pa_3 =>
     ∃ n_4 : Int, w6.cell? (((pa_3.add 0).add 0).add 1) = some (Value.int .i64 n_4) ∧
     Ar .i64 ((n_4 : Int) + 1) (fun n_5 =>
     ∃ n_6 : Int, w6.cell? ((⟨loc, 0, none⟩ : Addr).add 0) = some (Value.int .i64 n_6) ∧
     NilC (some ⟨p, 0, none⟩) (fun pa_6 =>
     (Value.int .i64 n_5).oneCell' = true ∧ (∃ u, w6.cell? (pa_6.add 3) = some u) ∧ w6.frozen? (pa_6.add 3) = false ∧
     ∀ w7 : World, w7 = (w6.setCell (pa_6.add 3) (Value.int .i64 n_5)) →
     (w7.cell? ((⟨loc, 0, none⟩ : Addr).add 0) = some (Value.int .i64 n_6) ∧ True) ∧
     NilC (some ⟨p, 0, none⟩) (fun pa_7 =>
     (Value.int .i64 n_6).oneCell' = true ∧ (∃ u, w7.cell? (((pa_7.add 0).add 0).add 1) = some u) ∧ w7.frozen? (((pa_7.add 0).add 0).add 1) = false ∧
     ∀ w8 : World, w8 = (w7.setCell (((pa_7.add 0).add 0).add 1) (Value.int .i64 n_6)) →
     NilC (some ⟨p, 0, none⟩) (fun pa_8 =>
     ∃ n_9 : Int, w8.cell? (pa_8.add 4) = some (Value.int .i64 n_9) ∧
     Ar .i64 ((n_9 : Int) + 1) (fun n_10 =>
     NilC (some ⟨p, 0, none⟩) (fun pa_11 =>
     (Value.int .i64 n_10).oneCell' = true ∧ (∃ u, w8.cell? (pa_11.add 4) = some u) ∧ w8.frozen? (pa_11.add 4) = false ∧
     ∀ w9 : World, w9 = (w8.setCell (pa_11.add 4) (Value.int .i64 n_10)) →
     J [] w9))))))))
    (J [] wq) := by
  intro x y r1 loc wq hr hy hloc hwq hlq htq J hJ
  refine CondP.mk (fun h0 => ?_) fun h0 => ?_
  ·intro w6 hw6
   have h6 : WkIs w6 p tp a b limit steps := by subst hw6; exact hwq
   have l6 : w6.heap[loc]? = some (.cells #[.int .i64 x, .int .i64 y] tMg (0, 0)) := by subst hw6; exact hlq
   have t6 : Touch p w w6 := by subst hw6; exact htq.trans (Touch.of_below (drew_on _))
   have c6 : ∀ j, w6.cell? ⟨p, j, none⟩ = _ := fun j => cell_heap h6
   simp only [add_lit, Nat.zero_add, Nat.add_zero]
   refine NilC.mk _ rfl ⟨b, c6 1, Ar.ok64 (by omega) (by omega) ⟨x, cell_heap l6, NilC.mk _ rfl ⟨rfl, ⟨_, c6 3⟩, frozen_heap h6, ?_⟩⟩⟩
   intro w7 hw7
   have h7 : WkIs w7 p tp a b (b + 1) steps := by subst hw7; exact setCell_heap h6 _
   have s7 : ∀ k, k ≠ p → w7.heap[k]? = w6.heap[k]? := fun k hk => by subst hw7; exact heap_setCell_ne hk
   have t7 : Touch p w w7 := t6.trans (by subst hw7; exact ⟨rfl, rfl, rfl, by rw [size_setCell]; exact Nat.le_refl _, fun k _ hk => heap_setCell_ne hk⟩)
   have c7 : ∀ j, w7.cell? ⟨p, j, none⟩ = _ := fun j => cell_heap h7
   refine ⟨⟨cell_heap (by rw [s7 loc hloc]; exact l6), trivial⟩, NilC.mk _ rfl ⟨rfl, ⟨_, c7 1⟩, frozen_heap h7, ?_⟩⟩
   intro w8 hw8
   have h8 : WkIs w8 p tp a x (b + 1) steps := by subst hw8; exact setCell_heap h7 _
   have t8 : Touch p w w8 := t7.trans (by subst hw8; exact ⟨rfl, rfl, rfl, by rw [size_setCell]; exact Nat.le_refl _, fun k _ hk => heap_setCell_ne hk⟩)
   have c8 : ∀ j, w8.cell? ⟨p, j, none⟩ = _ := fun j => cell_heap h8
   refine NilC.mk _ rfl ⟨steps, c8 4, Ar.ok64 (by omega) (by omega) (NilC.mk _ rfl ⟨rfl, ⟨_, c8 4⟩, frozen_heap h8, ?_⟩)⟩
   intro w9 hw9
   have h9 : WkIs w9 p tp a x (b + 1) (steps + 1) := by subst hw9; exact setCell_heap h8 _
   have t9 : Touch p w w9 := t8.trans (by subst hw9; exact ⟨rfl, rfl, rfl, by rw [size_setCell]; exact Nat.le_refl _, fun k _ hk => heap_setCell_ne hk⟩)
   refine hJ w9 ⟨by rw [hr], ?_, t9⟩
   rw [if_pos (by rw [← hr]; exact h0), ← hy h0]
   exact h9
  ·refine hJ wq ⟨by rw [hr], ?_, htq⟩
   rw [if_neg (by rw [← hr, h0]; simp)]
   exact hwq
 have c1 : ∀ j, w1.cell? ⟨p, j, none⟩ = _ := fun j => cell_heap h1
 have hpar : ∃ (x y : Int), parV T b = .tuple #[.agg #[.int .i64 x, .int .i64 y], .bool (splits T b)] ∧ (splits T b = true → x = (parentsOf T b).1) := by
  unfold parV splits
  by_cases hc : inTab T b ∧ parentsOf T b ≠ (-1, -1)
  ·rw [if_pos hc, decide_eq_true hc]
   exact ⟨_, _, rfl, fun _ => rfl⟩
  ·rw [if_neg hc, decide_eq_false hc]
   exact ⟨0, 0, rfl, fun h => by cases h⟩
 obtain ⟨x, y, hxy, hxy2⟩ := hpar
 refine NilC.mk _ rfl ⟨some ⟨tp, 0, none⟩, by simp only [add_lit, Nat.zero_add]; exact c1 2, NilC.mk _ rfl ⟨b, by simp only [add_lit, Nat.zero_add, Nat.add_zero]; exact c1 1, ?_, ?_⟩⟩
 ·refine (tokParents_spec w1 tp T (hT.on hb1) b).mono ?_
  rintro e w2 ⟨rfl, hb2⟩
  rw [hxy]
  refine ⟨x, y, _, rfl, ?_⟩
  intro w3 hw3
  refine storeP_new [.int .i64 0, .int .i64 0] [.int .i64 x, .int .i64 y] rfl (ones_pair _ _) w3 hw3 ?_
  intro w4 h4 hz4 hB4
  have hb14 := below_then hb1 (below_then hb2 hB4)
  have hz2 := (below_then hb1 hb2).size
  intro J hJ
  exact rest x y _ w2.heap.size w4 rfl hxy2 (by omega) (h1.on (below_then hb2 hB4)) h4 (Touch.of_below hb14) J hJ
 ·intro w10 hw10
  have hb10 : Below w1.heap.size w1 w10 := by subst hw10; exact below_alloc _ _
  have h10 := h1.on hb10
  have l10 : w10.heap[w1.heap.size]? = some (.cells #[Value.int .i64 0, Value.int .i64 0] tMg (0, 0)) := by subst hw10; exact alloc_new _ _
  have c10 : ∀ j, w10.cell? ⟨p, j, none⟩ = _ := fun j => cell_heap h10
  refine ⟨⟨by simp only [add_lit, Nat.zero_add, Nat.add_zero]; exact c10 1, trivial⟩, ⟨by simp only [add_lit, Nat.zero_add]; exact c10 2, trivial⟩, ?_⟩
  refine (tokParents_spec w10 tp T ((hT.on hb1).on hb10) b).mono ?_
  rintro e w11 ⟨rfl, hb11⟩
  rw [hxy]
  refine ⟨x, y, _, rfl, ?_⟩
  have hz1 := hb1.size
  refine storeP_cells (held_on hb11 l10) [.int .i64 x, .int .i64 y] rfl (ones_pair _ _) ?_
  intro w12 h12 hs12 hz12 hB12
  have h12' : WkIs w12 p tp a b limit steps := by
   unfold WkIs
   rw [hs12 p (by omega)]
   exact h10.on hb11
  have hb112 : Below w1.heap.size w1 w12 := hB12 _ _ (Nat.le_refl _) (below_then hb10 hb11)
  intro J hJ
  exact rest x y _ w1.heap.size w12 rfl hxy2 (by omega) h12' h12 (Touch.of_below (below_then hb1 hb112)) J hJ
def exT (T : List Ent) (t : Int) : List Int := ints (bytesOf T t)
theorem merges_length {T : List Ent} (h : TOk T) : (mergesOf T).length + 256 = T.length := by
 have := h.len
 simp [mergesOf]
 omega
theorem low_get {T : List Ent} (h : TOk T) {i : Nat} (hi : i < 256) : T[i]? = some (byteEnt i) := by
 have h1 : (T.take 256)[i]? = T[i]? := List.getElem?_take_of_lt hi
 rw [← h1, h.low]
 simp [begins, hi]
theorem bytes_low {T : List Ent} (h : TOk T) {i : Nat} (hi : i < 256) : bytesOf T (i : Int) = [UInt8.ofNat i] := by
 simp [bytesOf, low_get h hi, byteEnt]
theorem high_get {T : List Ent} (h : TOk T) {k : Nat} {m : Int × Int} (hm : (mergesOf T)[k]? = some m) : ∃ e, T[256 + k]? = some e ∧ e.2 = m := by
 simp only [mergesOf, List.getElem?_map, List.getElem?_drop] at hm
 obtain ⟨e, he, rfl⟩ := Option.map_eq_some_iff.1 hm
 exact ⟨e, he, rfl⟩
theorem bytes_high {T : List Ent} (h : TOk T) {k : Nat} {m : Int × Int} (hm : (mergesOf T)[k]? = some m) : bytesOf T ((256 : Int) + (k : Nat)) = bytesOf T m.1 ++ bytesOf T m.2 := by
 obtain ⟨e, he, rfl⟩ := high_get h hm
 obtain ⟨_, _, hs⟩ := h.step (256 + k) e he (by omega)
 rw [← hs]
 unfold bytesOf
 rw [show ((256 : Int) + (k : Nat)).toNat = 256 + k by omega, he]
 rfl
theorem bytes_ne {T : List Ent} (h : TOk T) : ∀ (n i : Nat), i ≤ n → i < T.length → bytesOf T (i : Int) ≠ [] := by
 intro n
 induction n with
 | zero =>
  intro i hi hl
  rw [bytes_low h (by omega)]
  simp
 | succ n ih =>
  intro i hi hl
  by_cases h256 : i < 256
  ·rw [bytes_low h h256]
   simp
  ·obtain ⟨h1, h2, h3⟩ := h.step i _ (List.getElem?_eq_getElem hl) (by omega)
   have : bytesOf T (i : Int) = T[i].1 := by simp [bytesOf, hl]
   rw [this, h3]
   have := ih T[i].2.1.toNat (by omega) (by omega)
   rw [show ((T[i].2.1.toNat : Nat) : Int) = T[i].2.1 by omega] at this
   simp [this]
theorem ints_append (a b : Bs) : ints (a ++ b) = ints a ++ ints b := by simp [ints]
theorem good_of {T : List Ent} (h : TOk T) : GoodV (mergesOf T) (exT T) := by
 have ml := merges_length h
 refine ⟨⟨fun t h0 h1 => ?_, fun k m hm => ?_, h.sound, fun k m hm => ?_⟩, fun i m hm => ⟨(merges_at h hm).1.1, (merges_at h hm).2.1⟩⟩
 ·obtain ⟨i, rfl⟩ : ∃ i : Nat, t = i := ⟨t.toNat, by omega⟩
  have hi : i < 256 := by omega
  unfold exT
  rw [bytes_low h hi]
  simp [ints]
  omega
 ·unfold exT
  rw [bytes_high h hm, ints_append]
 ·obtain ⟨h1, h2⟩ := merges_at h hm
  have hk := (List.getElem?_eq_some_iff.1 hm).1
  have n1 := bytes_ne h m.1.toNat m.1.toNat (Nat.le_refl _) (by omega)
  have n2 := bytes_ne h m.2.toNat m.2.toNat (Nat.le_refl _) (by omega)
  rw [show ((m.1.toNat : Nat) : Int) = m.1 by omega] at n1
  rw [show ((m.2.toNat : Nat) : Int) = m.2 by omega] at n2
  exact ⟨by simpa [exT, ints] using n1, by simpa [exT, ints] using n2⟩
def vocOf (s : SpecV) (T : List Ent) : Voc := ⟨mergesOf T, exT T, cutB s.classes s.joins, s.specials.map (·.1)⟩
theorem voc_ok {w : World} {s : SpecV} {T : List Ent} {x : SpecW} {tp bp mp : Nat} (h : VocParts w s T x tp bp mp) : (vocOf s T).Ok := by
 have ml := merges_length h.ok
 refine ⟨good_of h.ok, h.nodup, fun t ht => ?_⟩
 obtain ⟨y, hy, rfl⟩ := List.mem_map.1 ht
 have := h.ids y hy
 show 256 + ((mergesOf T).length : Int) ≤ y.1
 omega
theorem tok_iff {T : List Ent} (h : TOk T) (t : Int) : inTab T t ↔ Tok (mergesOf T) t := by
 have ml := merges_length h
 unfold inTab Tok
 omega
theorem encAll_after {T : List Ent} (h : TOk T) (s : Bs) : encAll T s = after (mergesOf T) (mergesOf T).length (ints s) := by
 have ml := merges_length h
 unfold encAll encB after
 rw [show ((T.length : Int) - 256).toNat = (mergesOf T).length by omega]
theorem uncut_iff {cut : Int → Int → Bool} : ∀ l : List Int, Uncut cut l ↔ ∀ (j : Nat) (x y : Int), l[j]? = some x → l[j + 1]? = some y → cut x y = false
 | [] => by simp [Uncut]
 | [x] => by simp [Uncut]
 | x :: y :: r => by
  simp only [Uncut, uncut_iff (y :: r)]
  constructor
  ·rintro ⟨h1, h2⟩ j a b ha hb
   cases j with
   | zero =>
    simp at ha hb
    rw [← ha, ← hb]
    exact h1
   | succ j => exact h2 j a b (by simpa using ha) (by simpa using hb)
  ·intro h
   exact ⟨h 0 x y rfl rfl, fun j a b ha hb => h (j + 1) a b (by simpa using ha) (by simpa using hb)⟩
theorem chop_one_iff {cut : Int → Int → Bool} {l : List Int} (hl : l ≠ []) : (chop cut l).length ≤ 1 ↔ Uncut cut l := by
 constructor
 ·intro h
  obtain ⟨h1, h2⟩ := chop_is (cut := cut) l
  match hc : chop cut l with
  | [] => rw [hc] at h2; exact absurd h2.symm hl
  | [p] =>
   rw [hc] at h1 h2
   simp at h2
   subst h2
   exact h1.2
  | p :: q :: r => rw [hc] at h; simp at h
 ·intro h
  have := chop_unique (cut := cut) [l] ⟨hl, h⟩
  simp at this
  rw [this]
  simp
theorem uncut_congr {c c' : Int → Int → Bool} {l : List Int} (h : ∀ x ∈ l, ∀ y ∈ l, c x y = c' x y) : Uncut c l ↔ Uncut c' l := by
 rw [uncut_iff, uncut_iff]
 constructor
 ·intro k j x y hx hy
  rw [← h x (List.mem_of_getElem? hx) y (List.mem_of_getElem? hy)]
  exact k j x y hx hy
 ·intro k j x y hx hy
  rw [h x (List.mem_of_getElem? hx) y (List.mem_of_getElem? hy)]
  exact k j x y hx hy
theorem whole_uncut (cut : Int → Int → Bool) (b : Bs) : wholeB cut b = true ↔ Uncut cut (ints b) := by
 unfold wholeB
 rw [decide_eq_true_eq, uncut_iff]
 have hget : ∀ j : Nat, (ints b)[j]? = (b[j]?).map fun z : UInt8 => (z.toNat : Int) := fun j => by simp [ints]
 constructor
 ·intro h j x y hx hy
  rw [hget] at hx hy
  obtain ⟨u, hu, rfl⟩ := Option.map_eq_some_iff.1 hx
  obtain ⟨v, hv, rfl⟩ := Option.map_eq_some_iff.1 hy
  have hl := (List.getElem?_eq_some_iff.1 hv).1
  have := h (j + 1) hl
  unfold cutPos at this
  rw [if_neg (by omega), Nat.add_sub_cancel, hu, hv] at this
  simpa using this
 ·intro h j hj
  unfold cutPos
  rw [if_neg (by omega)]
  cases j with
  | zero => split <;> simp
  | succ j =>
   rw [Nat.add_sub_cancel, List.getElem?_eq_getElem hj, List.getElem?_eq_getElem (show j < b.length by omega)]
   have := h j (b[j].toNat) (b[j + 1].toNat) (by rw [hget, List.getElem?_eq_getElem (show j < b.length by omega)]; rfl) (by rw [hget, List.getElem?_eq_getElem hj]; rfl)
   simp [this]
theorem ints_byte (b : Bs) : ∀ x ∈ ints b, 0 ≤ x ∧ x < 256 := by
 intro x hx
 obtain ⟨y, _, rfl⟩ := List.mem_map.1 hx
 have := y.toNat_lt
 omega
theorem cut_byte (V : Voc) {x y : Int} (hx : 0 ≤ x) (hy : 0 ≤ y) : V.cut x y = V.cutB x y := by
 unfold Voc.cut
 rw [decide_eq_false (by omega), decide_eq_false (by omega)]
 rfl
theorem aloneT_iff {w : World} {s : SpecV} {T : List Ent} {x : SpecW} {tp bp mp : Nat} (h : VocParts w s T x tp bp mp) {i : Nat} (hi : inTab T (i : Int)) : aloneT s T i = true ↔ (vocOf s T).Canon [(i : Int)] := by
 have hT := (tok_iff h.ok _).1 hi
 have hok := voc_ok h
 rw [Voc.alone_iff hok (V := vocOf s T) hT]
 have hne : exT T (i : Int) ≠ [] := (hok.good.bytes hT).2
 have hch : (chop (vocOf s T).cut ((vocOf s T).ex (i : Int))).length ≤ 1 ↔ wholeB (cutB s.classes s.joins) (bytesOf T (i : Int)) = true := by
  show (chop (vocOf s T).cut (exT T (i : Int))).length ≤ 1 ↔ _
  rw [chop_one_iff hne, whole_uncut]
  exact uncut_congr fun x hx y hy => cut_byte _ (ints_byte _ x hx).1 (ints_byte _ y hy).1
 rw [hch]
 unfold aloneT AloneT
 rw [Bool.and_eq_true, decide_eq_true_eq, encAll_after h.ok]
 exact Iff.rfl
theorem has_iff {w : World} {s : SpecV} {T : List Ent} {x : SpecW} {tp bp mp : Nat} (h : VocParts w s T x tp bp mp) (t : Int) : hasV2 s T t = true ↔ (vocOf s T).Has t := by
 unfold hasV2 Voc.Has
 rw [decide_eq_true_eq, tok_iff h.ok]
 exact Or.comm
theorem aloneV_iff {w : World} {s : SpecV} {T : List Ent} {x : SpecW} {tp bp mp : Nat} (h : VocParts w s T x tp bp mp) {t : Int} (ht : (vocOf s T).Has t) : aloneV s T t = true ↔ (vocOf s T).Canon [t] := by
 have hok := voc_ok h
 unfold aloneV
 rcases ht with ht | ht
 ·have hin := (tok_iff h.ok t).2 ht
  have hn : t ∉ s.specials.map (·.1) := fun hm => by
   have h1 : 256 + ((mergesOf T).length : Int) ≤ t := hok.above t hm
   have h2 : t < 256 + (((mergesOf T).length : Nat) : Int) := ht.2
   omega
  rw [decide_eq_false hn, decide_eq_true hin]
  have := aloneT_iff h (i := t.toNat) (by rw [show ((t.toNat : Nat) : Int) = t by have := hin.1; omega]; exact hin)
  rw [show ((t.toNat : Nat) : Int) = t by have := hin.1; omega] at this
  simpa using this
 ·have hm : t ∈ s.specials.map (·.1) := ht
  rw [decide_eq_true hm]
  simp only [Bool.true_or, true_iff]
  exact Voc.alone_special hok ht
theorem splits_iff {T : List Ent} (h : TOk T) {a : Int} (ha : inTab T a) : splits T a = true ↔ 256 ≤ a := by
 unfold splits
 rw [decide_eq_true_eq]
 have hlt : a.toNat < T.length := by have := ha.1; have := ha.2; omega
 constructor
 ·rintro ⟨_, h2⟩
  rcases Int.lt_or_le a 256 with h' | h'
  ·exfalso
   apply h2
   have hl : a.toNat < 256 := by have := ha.1; omega
   simp [parentsOf, low_get h hl, byteEnt]
  ·exact h'
 ·intro h256
  refine ⟨ha, fun e => ?_⟩
  obtain ⟨h1, _, _⟩ := h.step a.toNat _ (List.getElem?_eq_getElem hlt) (by omega)
  simp only [parentsOf, List.getElem?_eq_getElem hlt, Option.map_some, Option.getD_some] at e
  rw [e] at h1
  simp at h1
theorem parents_merge {T : List Ent} (h : TOk T) {a : Int} (ha : inTab T a) (h256 : 256 ≤ a) : ∃ j : Nat, a = 256 + (j : Int) ∧ (mergesOf T)[j]? = some (parentsOf T a) := by
 have hlt : a.toNat < T.length := by have := ha.1; have := ha.2; omega
 refine ⟨a.toNat - 256, by omega, ?_⟩
 simp only [mergesOf, List.getElem?_map, List.getElem?_drop]
 rw [show 256 + (a.toNat - 256) = a.toNat by omega, List.getElem?_eq_getElem hlt]
 simp [parentsOf, hlt]
def blockedB (T : List Ent) (a b limit : Int) : Bool := match (mergesOf T).idxOf? (a, b) with
 | some i => decide (((256 + i : Nat) : Int) < limit)
 | none => false
theorem blocked_spec (w : World) (p tp : Nat) (T : List Ent) (a b limit steps : Int) (hT : TabIs w tp T) (h : WkIs w p tp a b limit steps) :
  CP 246 #[.pointer (some ⟨p, 0, none⟩)] w fun e w' => e = .returned (.bool (blockedB T a b limit)) ∧ Below w.heap.size w w' := by
 refine calls_ret (vc246_calls (some ⟨p, 0, none⟩) w (fun v w' => v = .bool (blockedB T a b limit) ∧ Below w.heap.size w w') ?_) (by rintro v w' ⟨rfl, h⟩; exact ⟨rfl, h⟩)
 intro w1 hw1
 have hb1 : Below w.heap.size w w1 := by subst hw1; exact drew_on w
 have h1 := h.on hb1
 have c1 : ∀ j, w1.cell? ⟨p, j, none⟩ = _ := fun j => cell_heap h1
 refine NilC.mk _ rfl ⟨_, by simp only [add_lit, Nat.zero_add]; exact c1 2, NilC.mk _ rfl ⟨a, by simp only [add_lit, Nat.zero_add, Nat.add_zero]; exact c1 0, NilC.mk _ rfl ⟨b, by simp only [add_lit, Nat.zero_add, Nat.add_zero]; exact c1 1, ?_⟩⟩⟩
 refine (tokPair_spec w1 tp T (hT.on hb1) a b).mono ?_
 rintro e w2 ⟨rfl, hb2⟩
 have c2 : ∀ j, w2.cell? ⟨p, j, none⟩ = _ := fun j => cell_heap (h1.on hb2)
 have hb := below_then hb1 hb2
 unfold blockedB
 cases hx : (mergesOf T).idxOf? (a, b) with
 | none => exact ⟨_, _, rfl, CondP.no rfl ⟨rfl, hb⟩⟩
 | some i => exact ⟨_, _, rfl, CondP.yes rfl (NilC.mk _ rfl ⟨limit, by simp only [add_lit, Nat.zero_add]; exact c2 3, rfl, hb⟩)⟩
theorem apart_spec (w : World) (B p tp : Nat) (T : List Ent) (a b limit steps : Int) (hT : TabIs w tp T) (hok : TOk T) (ht : ∀ w', Touch p w w' → TabIs w' tp T) (h : WkIs w p tp a b limit steps) (hB : B ≤ p) (hs : 0 ≤ steps ∧ steps ≤ 1000000) (ha : inTab T a) (hb : inTab T b) :
  CP 247 #[.pointer (some ⟨p, 0, none⟩)] w fun e w' => ∃ r : Bool, e = .returned (.bool r) ∧ Touch p w w' ∧ ((r = true ∧ b < a ∧ 256 ≤ a ∧ WkIs w' p tp (parentsOf T a).2 b a (steps + 1)) ∨ (r = true ∧ a ≤ b ∧ 256 ≤ b ∧ WkIs w' p tp a (parentsOf T b).1 (b + 1) (steps + 1)) ∨ (r = false ∧ a < 256 ∧ b < 256 ∧ WkIs w' p tp a b limit steps)) := by
 refine calls_ret (vc247_calls (some ⟨p, 0, none⟩) w (fun v w' => ∃ r : Bool, v = .bool r ∧ Touch p w w' ∧ ((r = true ∧ b < a ∧ 256 ≤ a ∧ WkIs w' p tp (parentsOf T a).2 b a (steps + 1)) ∨ (r = true ∧ a ≤ b ∧ 256 ≤ b ∧ WkIs w' p tp a (parentsOf T b).1 (b + 1) (steps + 1)) ∨ (r = false ∧ a < 256 ∧ b < 256 ∧ WkIs w' p tp a b limit steps))) ?_) (by rintro v w' ⟨r, rfl, h⟩; exact ⟨r, rfl, h⟩)
 intro w1 hw1
 have hb1 : Below w.heap.size w w1 := by subst hw1; exact drew_on w
 have h1 := h.on hb1
 have t1 : Touch p w w1 := Touch.of_below hb1
 have c1 : ∀ j, w1.cell? ⟨p, j, none⟩ = _ := fun j => cell_heap h1
 have hmost := hok.most
 have a0 := ha.1
 have a1 := ha.2
 have b0 := hb.1
 have b1 := hb.2
 have sa := splits_iff hok ha
 have sb := splits_iff hok hb
 refine NilC.mk _ rfl ⟨a, by simp only [add_lit, Nat.zero_add, Nat.add_zero]; exact c1 0, NilC.mk _ rfl ⟨b, by simp only [add_lit, Nat.zero_add, Nat.add_zero]; exact c1 1, CondP.mk (fun h0 => ?_) fun h0 => ?_⟩⟩
 ·have h0 := of_decide_eq_true h0
  refine (left_spec w1 B p tp T a b limit steps (ht w1 t1) h1 hB hs (by omega)).mono ?_
  rintro e w2 ⟨rfl, hw2, t2⟩
  have t12 := t1.trans t2
  refine ⟨_, rfl, CondP.mk (fun h2 => ?_) fun h2 => ?_⟩
  ·rw [if_pos h2] at hw2
   exact ⟨true, rfl, t12, .inl ⟨rfl, by omega, sa.1 h2, hw2⟩⟩
  ·rw [if_neg (by rw [h2]; simp)] at hw2
   have ha256 : ¬ 256 ≤ a := fun hh => by rw [sa.2 hh] at h2; cases h2
   refine (right_spec w2 B p tp T a b limit steps (ht w2 t12) hw2 hB hs (by omega)).mono ?_
   rintro e w3 ⟨rfl, hw3, t3⟩
   have hsb : splits T b = false := by
    cases hx : splits T b with
    | false => rfl
    | true => have := sb.1 hx; omega
   rw [hsb] at hw3
   rw [if_neg (by simp)] at hw3
   exact ⟨_, rfl, false, by rw [hsb], t12.trans t3, .inr (.inr ⟨rfl, by omega, by omega, hw3⟩)⟩
 ·have h0 := of_decide_eq_false h0
  refine (right_spec w1 B p tp T a b limit steps (ht w1 t1) h1 hB hs (by omega)).mono ?_
  rintro e w2 ⟨rfl, hw2, t2⟩
  have t12 := t1.trans t2
  refine ⟨_, rfl, CondP.mk (fun h2 => ?_) fun h2 => ?_⟩
  ·rw [if_pos h2] at hw2
   exact ⟨true, rfl, t12, .inr (.inl ⟨rfl, by omega, sb.1 h2, hw2⟩)⟩
  ·rw [if_neg (by rw [h2]; simp)] at hw2
   have hb256 : ¬ 256 ≤ b := fun hh => by rw [sb.2 hh] at h2; cases h2
   refine (left_spec w2 B p tp T a b limit steps (ht w2 t12) hw2 hB hs (by omega)).mono ?_
   rintro e w3 ⟨rfl, hw3, t3⟩
   have hsa : splits T a = false := by
    cases hx : splits T a with
    | false => rfl
    | true => have := sa.1 hx; omega
   rw [hsa] at hw3
   rw [if_neg (by simp)] at hw3
   exact ⟨_, rfl, false, by rw [hsa], t12.trans t3, .inr (.inr ⟨rfl, by omega, by omega, hw3⟩)⟩
theorem free_spec (w : World) (B p tp : Nat) (T : List Ent) (a b limit : Int) (hok : TOk T) (ht : ∀ w', Touch p w w' → TabIs w' tp T) (h : WkIs w p tp a b limit 0) (hB : B ≤ p) (ha : inTab T a) (hb : inTab T b) (aa : AloneT (mergesOf T) (exT T) a) (ab : AloneT (mergesOf T) (exT T) b) (la : a ≤ limit) (lb : b + 1 ≤ limit) :
  CP 232 #[.pointer (some ⟨p, 0, none⟩)] w fun e w' => ∃ r : Bool, e = .returned (.bool r) ∧ (r = true ↔ FreeTo (mergesOf T) (exT T) a b limit) ∧ Touch p w w' := by
 refine calls_ret (vc232_calls (some ⟨p, 0, none⟩) w (fun v w' => ∃ r : Bool, v = .bool r ∧ (r = true ↔ FreeTo (mergesOf T) (exT T) a b limit) ∧ Touch p w w') ?_) (by rintro v w' ⟨r, rfl, h⟩; exact ⟨r, rfl, h⟩)
 intro I hI
 have hG := good_of hok
 have hmost := hok.most
 have ml := merges_length hok
 have key : ∀ (n : Nat) (a' b' limit' steps : Int) (w1 : World), a'.toNat + b'.toNat ≤ n → WkIs w1 p tp a' b' limit' steps → Touch p w w1 → inTab T a' → inTab T b' → AloneT (mergesOf T) (exT T) a' → AloneT (mergesOf T) (exT T) b' → a' ≤ limit' → b' + 1 ≤ limit' → 0 ≤ steps → steps + a' + b' ≤ 10000 → (FreeTo (mergesOf T) (exT T) a' b' limit' ↔ FreeTo (mergesOf T) (exT T) a b limit) → ∀ y2 : Bool, I [.bool y2] w1 := by
  intro n
  induction n using Nat.strongRecOn with
  | ind n ih =>
   intro a' b' limit' steps w1 hn h1 t1 ha' hb' aa' ab' la' lb' hs0 hs1 hF y2
   have Ta := (tok_iff hok a').1 ha'
   have Tb := (tok_iff hok b').1 hb'
   refine hI y2 w1 ?_
   refine (blocked_spec w1 p tp T a' b' limit' steps (ht w1 t1) h1).mono ?_
   rintro e w2 ⟨rfl, hb2⟩
   have h2 := h1.on hb2
   have t2 := t1.trans (Touch.of_below hb2)
   refine ⟨_, rfl, CondP.mk (fun h0 => ?_) fun h0 => ?_⟩
   ·have h0 : blockedB T a' b' limit' = false := by simpa using h0
    have hno : ∀ i : Nat, (mergesOf T)[i]? = some (a', b') → limit' ≤ 256 + (i : Int) := by
     intro i hi
     unfold blockedB at h0
     cases hx : (mergesOf T).idxOf? (a', b') with
     | none => exact absurd (List.mem_of_getElem? hi) (List.idxOf?_eq_none_iff.1 hx)
     | some j =>
      rw [hx] at h0
      have h0 := of_decide_eq_false h0
      obtain ⟨hj, he, hmin⟩ := List.findIdx?_eq_some_iff_getElem.1 hx
      have hij : j ≤ i := by
       rcases Nat.lt_or_ge i j with hlt | hge
       ·exfalso
        have := hmin i hlt
        have hil := (List.getElem?_eq_some_iff.1 hi)
        apply this
        rw [hil.2]
        simp
       ·exact hge
      omega
    refine (apart_spec w2 B p tp T a' b' limit' steps (ht w2 t2) hok (fun w' tt => ht w' (t2.trans tt)) h2 hB ⟨hs0, by have := ha'.1; have := hb'.1; omega⟩ ha' hb').mono ?_
    rintro e w3 ⟨r, rfl, t3, hcase⟩
    have t13 := t2.trans t3
    refine ⟨r, rfl, ?_⟩
    rcases hcase with ⟨rfl, hba, h256, hw3⟩ | ⟨rfl, hab, h256, hw3⟩ | ⟨rfl, h1a, h1b, hw3⟩
    ·obtain ⟨j, rfl, hm⟩ := parents_merge hok ha' h256
     have hlt := merges_at hok hm
     obtain ⟨q1, _, _, _⟩ := alone_parts hG hm aa'
     have hj := (List.getElem?_eq_some_iff.1 hm).1
     have hp := hb'.1
     refine CondP.no rfl (ih _ ?_ (parentsOf T (256 + (j : Int))).2 b' (256 + (j : Int)) (steps + 1) w3 (Nat.le_refl _) hw3 t13 ⟨hlt.2.1, by omega⟩ hb' ?_ ab' (by omega) (by omega) (by omega) (by omega) ?_ y2)
     ·omega
     ·exact (alone_parts hG hm aa').2.2.2
     ·rw [← hF]
      exact (free_left hG hm Tb aa' ab' hba la' hno).symm
    ·obtain ⟨j, rfl, hm⟩ := parents_merge hok hb' h256
     have hlt := merges_at hok hm
     have hj := (List.getElem?_eq_some_iff.1 hm).1
     have hp := ha'.1
     refine CondP.no rfl (ih _ ?_ a' (parentsOf T (256 + (j : Int))).1 (256 + (j : Int) + 1) (steps + 1) w3 (Nat.le_refl _) hw3 t13 ha' ⟨hlt.1.1, by omega⟩ aa' ?_ (by omega) (by omega) (by omega) (by omega) ?_ y2)
     ·omega
     ·exact (alone_parts hG hm ab').2.2.1
     ·rw [← hF]
      exact (free_right hG hm Ta aa' ab' hab (by omega) hno).symm
    ·refine CondP.yes rfl ⟨true, rfl, ?_, t13⟩
     rw [← hF]
     exact ⟨fun _ => free_bytes hG Ta Tb aa' ab' h1a h1b hno, fun _ => rfl⟩
   ·have h0 : blockedB T a' b' limit' = true := by simpa using h0
    refine ⟨false, rfl, ?_, t2⟩
    rw [← hF]
    refine ⟨(fun h => by cases h), fun hfree => ?_⟩
    unfold blockedB at h0
    cases hx : (mergesOf T).idxOf? (a', b') with
    | none => rw [hx] at h0; cases h0
    | some j =>
     rw [hx] at h0
     have h0 := of_decide_eq_true h0
     obtain ⟨hj, he, _⟩ := List.findIdx?_eq_some_iff_getElem.1 hx
     exact absurd hfree (free_blocked hG Ta Tb aa' ab' (i := j) (by rw [List.getElem?_eq_getElem hj]; congr 1; simpa using he) (by omega))
 exact key _ a b limit 0 w (Nat.le_refl _) h (Touch.of_below (Below.refl _ _)) ha hb aa ab la lb (Int.le_refl _) (by have := ha.2; have := hb.2; omega) Iff.rfl false
theorem spineHas_spec (w : World) (tp : Nat) (T : List Ent) (hT : TabIs w tp T) (a b : Int) : CP 230 #[.pointer (some ⟨tp, 0, none⟩), .int .i64 a, .int .i64 b] w fun e w' => e = .returned (.bool (decide (inTab T a ∧ inTab T b))) ∧ w' = w := by
 refine calls_ret (vc230_calls (some ⟨tp, 0, none⟩) a b w (fun v w' => v = .bool (decide (inTab T a ∧ inTab T b)) ∧ w' = w) ?_) (by rintro v w' ⟨rfl, h⟩; exact ⟨rfl, h⟩)
 have off : ¬ (inTab T a ∧ inTab T b) → (Value.bool false = .bool (decide (inTab T a ∧ inTab T b)) ∧ w = w) := fun h => ⟨by rw [decide_eq_false h], rfl⟩
 refine CondP.mk (fun h0 => ?_) fun h0 => off fun h => ?_
 ·have h0 := of_decide_eq_true h0
  refine (tokLen_spec w tp T hT).mono ?_
  rintro e w1 ⟨rfl, hw⟩
  subst hw
  refine ⟨_, rfl, CondP.mk (fun h1 => ?_) fun h1 => off fun h => ?_⟩
  ·have h1 := of_decide_eq_true h1
   refine CondP.mk (fun h2 => ?_) fun h2 => off fun h => ?_
   ·have h2 := of_decide_eq_true h2
    refine (tokLen_spec w1 tp T hT).mono ?_
    rintro e w2 ⟨rfl, hw⟩
    subst hw
    refine ⟨_, rfl, ?_, rfl⟩
    congr 1
    exact decide_eq_decide.2 ⟨fun h => ⟨⟨h0, h1⟩, h2, h⟩, fun h => h.2.2⟩
   ·exact of_decide_eq_false h2 h.2.1
  ·exact of_decide_eq_false h1 h.1.2
 ·exact of_decide_eq_false h0 h.1.1
theorem walk_spec (w : World) (tp : Nat) (T : List Ent) (hT : TabIs w tp T) (hok : TOk T) (a b limit : Int) (ha : inTab T a) (hb : inTab T b) (aa : AloneT (mergesOf T) (exT T) a) (ab : AloneT (mergesOf T) (exT T) b) (la : a ≤ limit) (lb : b + 1 ≤ limit) :
  CP 196 #[.pointer (some ⟨tp, 0, none⟩), .int .i64 a, .int .i64 b, .int .i64 limit] w fun e w' => ∃ r : Bool, e = .returned (.bool r) ∧ (r = true ↔ FreeTo (mergesOf T) (exT T) a b limit) ∧ Below w.heap.size w w' := by
 refine calls_ret (vc196_calls (some ⟨tp, 0, none⟩) a b limit w (fun v w' => ∃ r : Bool, v = .bool r ∧ (r = true ↔ FreeTo (mergesOf T) (exT T) a b limit) ∧ Below w.heap.size w w') ?_) (by rintro v w' ⟨r, rfl, h⟩; exact ⟨r, rfl, h⟩)
 refine (spineHas_spec w tp T hT a b).mono ?_
 rintro e w1 ⟨rfl, hw⟩
 subst hw
 refine ⟨_, rfl, CondP.yes (decide_eq_true ⟨ha, hb⟩) ?_⟩
 have hbegin : CP 231 #[.pointer (some ⟨tp, 0, none⟩), .int .i64 a, .int .i64 b, .int .i64 limit] w1 fun e w' => e = .returned (.pointer (some (nb w1))) ∧ w' = w1.alloc (.cells #[Value.int .i64 a, Value.int .i64 b, Value.pointer (some ⟨tp, 0, none⟩), Value.int .i64 limit, Value.int .i64 0] tWalk) := by
  refine calls_ret (vc231_calls (some ⟨tp, 0, none⟩) a b limit w1 (fun v w' => v = .pointer (some (nb w1)) ∧ w' = w1.alloc (.cells #[Value.int .i64 a, Value.int .i64 b, Value.pointer (some ⟨tp, 0, none⟩), Value.int .i64 limit, Value.int .i64 0] tWalk)) ?_) (by rintro v w' ⟨rfl, h⟩; exact ⟨rfl, h⟩)
  rintro w2 rfl
  exact ⟨rfl, rfl⟩
 refine hbegin.mono ?_
 rintro e w2 ⟨rfl, hw2⟩
 have hb2 : Below w1.heap.size w1 w2 := by subst hw2; exact below_alloc _ _
 have h2 : WkIs w2 w1.heap.size tp a b limit 0 := by subst hw2; exact alloc_new _ _
 refine ⟨_, rfl, ?_⟩
 refine (free_spec w2 w1.heap.size w1.heap.size tp T a b limit hok (fun w' t => hT.on (hb2.trans (t.below (Nat.le_refl _) hb2.size))) h2 (Nat.le_refl _) ha hb aa ab la lb).mono ?_
 rintro e w3 ⟨r, rfl, hr, t3⟩
 exact ⟨r, rfl, r, rfl, hr, hb2.trans (t3.below (Nat.le_refl _) hb2.size)⟩
theorem special_spec {w : World} {v : Nat} {c : Array Value} {tp bp mp : Nat} (h : VBlk w v c tp bp mp) {s : SpecV} {T : List Ent} {x : SpecW} (hp : VocParts w s T x tp bp mp) (id : Int) : CP 193 #[.pointer (some ⟨v, 0, none⟩), .int .i64 id] w fun e w' => ∃ r : Bool, e = .returned (.bool r) ∧ (r = true ↔ id ∈ s.specials.map (·.1)) ∧ w' = w := by
 refine calls_ret (vc193_calls (some ⟨v, 0, none⟩) id w (fun u w' => ∃ r : Bool, u = .bool r ∧ (r = true ↔ id ∈ s.specials.map (·.1)) ∧ w' = w) ?_) (by rintro v w' ⟨r, rfl, h⟩; exact ⟨r, rfl, h⟩)
 refine (vocMarks_spec h).mono ?_
 rintro e w1 ⟨rfl, hw⟩
 subst hw
 refine ⟨_, rfl, (markMark_spec w1 mp s.specials hp.marks hp.few id).mono ?_⟩
 rintro e w2 ⟨rfl, hw⟩
 subst hw
 exact ⟨_, _, rfl, _, rfl, idx_mem, rfl⟩
theorem last_ints (b : Bs) : (ints b).getLast? = b.getLast?.map fun z : UInt8 => (z.toNat : Int) := by simp [ints]
theorem head_ints (b : Bs) : (ints b).head? = b.head?.map fun z : UInt8 => (z.toNat : Int) := by simp [ints]
theorem beside_spec {w : World} {v : Nat} {c : Array Value} {tp bp mp : Nat} (h : VBlk w v c tp bp mp) {s : SpecV} {T : List Ent} {x : SpecW} (hp : VocParts w s T x tp bp mp) (a b : Int) (ha : (vocOf s T).Has a) (hb : (vocOf s T).Has b) (ca : (vocOf s T).Canon [a]) (cb : (vocOf s T).Canon [b]) :
  CP 147 #[.pointer (some ⟨v, 0, none⟩), .int .i64 a, .int .i64 b] w fun e w' => ∃ r : Bool, e = .returned (.bool r) ∧ (r = true ↔ (vocOf s T).Pair a b) ∧ Below w.heap.size w w' := by
 have hok := voc_ok hp
 refine calls_ret (vc147_calls (some ⟨v, 0, none⟩) a b w (fun u w' => ∃ r : Bool, u = .bool r ∧ (r = true ↔ (vocOf s T).Pair a b) ∧ Below w.heap.size w w') ?_) (by rintro v w' ⟨r, rfl, h⟩; exact ⟨r, rfl, h⟩)
 have mark_cut : ∀ t : Int, t ∈ s.specials.map (·.1) → ∃ z : Int, (vocOf s T).items t = [z] ∧ z < 0 := by
  intro t ht
  obtain ⟨i, hi, _⟩ := Voc.place_some (V := vocOf s T) ht
  refine ⟨-1 - (i : Int), ?_, by omega⟩
  unfold Voc.items
  rw [hi]
 refine (special_spec h hp a).mono ?_
 rintro e w1 ⟨r1, rfl, hr1, hw⟩
 subst hw
 refine ⟨_, rfl, CondP.mk (fun h0 => ?_) fun h0 => ?_⟩
 ·refine ⟨true, rfl, ⟨fun _ => ?_, fun _ => rfl⟩, Below.refl _ _⟩
  obtain ⟨z, hz, hneg⟩ := mark_cut a (hr1.1 h0)
  obtain ⟨y, hy⟩ : ∃ y, ((vocOf s T).items b).head? = some y := by
   cases hx : (vocOf s T).items b with
   | nil => exact absurd hx (Voc.items_ne hok hb)
   | cons y t => exact ⟨y, rfl⟩
  exact .inl ⟨z, y, by rw [hz]; rfl, hy, by unfold Voc.cut; rw [decide_eq_true hneg]; rfl⟩
 have na : a ∉ s.specials.map (·.1) := fun hm => by rw [hr1.2 hm] at h0; cases h0
 refine (special_spec h hp b).mono ?_
 rintro e w2 ⟨r2, rfl, hr2, hw⟩
 subst hw
 refine ⟨_, rfl, CondP.mk (fun h1 => ?_) fun h1 => ?_⟩
 ·refine ⟨true, rfl, ⟨fun _ => ?_, fun _ => rfl⟩, Below.refl _ _⟩
  obtain ⟨z, hz, hneg⟩ := mark_cut b (hr2.1 h1)
  obtain ⟨y, hy⟩ : ∃ y, ((vocOf s T).items a).getLast? = some y := by
   cases hx : ((vocOf s T).items a).getLast? with
   | none => exact absurd (List.getLast?_eq_none_iff.1 hx) (Voc.items_ne hok ha)
   | some y => exact ⟨y, rfl⟩
  exact .inl ⟨y, z, hy, by rw [hz]; rfl, by unfold Voc.cut; rw [decide_eq_true hneg]; simp⟩
 have nb' : b ∉ s.specials.map (·.1) := fun hm => by rw [hr2.2 hm] at h1; cases h1
 have Ta : Tok (mergesOf T) a := ha.resolve_right na
 have Tb : Tok (mergesOf T) b := hb.resolve_right nb'
 have ia := (tok_iff hp.ok a).2 Ta
 have ib := (tok_iff hp.ok b).2 Tb
 have short : ∀ t, inTab T t → (bytesOf T t).length ≤ 64 := by
  intro t ht
  obtain ⟨y, hy, hyb⟩ := bytesOf_at ht
  rw [hyb]
  exact hp.ok.short y (List.mem_of_getElem? hy)
 refine (vocTable_spec h).mono ?_
 rintro e w3 ⟨rfl, hw⟩
 subst hw
 refine ⟨_, rfl, (tokBytes_spec w3 tp T hp.tab a).mono ?_⟩
 rintro e w4 ⟨rfl, hw⟩
 subst hw
 rw [if_pos ia]
 refine ⟨_, _, rfl, (vocTable_spec h).mono ?_⟩
 rintro e w5 ⟨rfl, hw⟩
 subst hw
 refine ⟨_, rfl, (tokBytes_spec w5 tp T hp.tab b).mono ?_⟩
 rintro e w6 ⟨rfl, hw⟩
 subst hw
 rw [if_pos ib]
 refine ⟨_, _, rfl, (vocBounds_spec h).mono ?_⟩
 rintro e w7 ⟨rfl, hw⟩
 subst hw
 refine ⟨_, rfl, (between_spec w7 bp s.classes s.joins hp.bound (right_ok hp.right).1 (bytesOf T a) (bytesOf T b) (by have := short a ia; omega)).mono ?_⟩
 rintro e w8 ⟨rfl, hb8⟩
 have hpair : (vocOf s T).Pair a b ↔ betweenB (cutB s.classes s.joins) (bytesOf T a) (bytesOf T b) = true ∨ (vocOf s T).Free a b := by
  unfold Voc.Pair
  rw [Voc.items_tok hok (V := vocOf s T) Ta, Voc.items_tok hok (V := vocOf s T) Tb]
  show (∃ x y, (ints (bytesOf T a)).getLast? = some x ∧ (ints (bytesOf T b)).head? = some y ∧ (vocOf s T).cut x y = true) ∨ _ ↔ _
  rw [last_ints, head_ints]
  unfold betweenB
  cases h1 : (bytesOf T a).getLast? with
  | none =>
   simp only [Option.map_none]
   constructor
   ·rintro (⟨x, y, hx, _⟩ | h)
    ·cases hx
    ·exact .inr h.2.2
   ·rintro (h | h)
    ·cases h
    ·exact .inr ⟨Ta, Tb, h⟩
  | some z1 =>
   cases h2 : (bytesOf T b).head? with
   | none =>
    simp only [Option.map_none]
    constructor
    ·rintro (⟨x, y, _, hy, _⟩ | h)
     ·cases hy
     ·exact .inr h.2.2
    ·rintro (h | h)
     ·cases h
     ·exact .inr ⟨Ta, Tb, h⟩
   | some z2 =>
    simp only [Option.map_some]
    constructor
    ·rintro (⟨x, y, hx, hy, hc⟩ | h)
     ·cases hx
      cases hy
      rw [cut_byte _ (by omega) (by omega)] at hc
      exact .inl hc
     ·exact .inr h.2.2
    ·rintro (h | h)
     ·exact .inl ⟨_, _, rfl, rfl, by rw [cut_byte _ (by omega) (by omega)]; exact h⟩
     ·exact .inr ⟨Ta, Tb, h⟩
 refine ⟨_, rfl, CondP.mk (fun h2 => ?_) fun h2 => ?_⟩
 ·exact ⟨true, rfl, ⟨fun _ => hpair.2 (.inl h2), fun _ => rfl⟩, hb8⟩
 ·refine (vocTable_spec (h.on hb8)).mono ?_
  rintro e w9 ⟨rfl, hw⟩
  subst hw
  have hmost := hp.ok.most
  have ml := merges_length hp.ok
  have a1 := ia.2
  have b1 := ib.2
  refine ⟨_, rfl, (walk_spec w9 tp T (hp.tab.on hb8) hp.ok a b 9223372036854775807 ia ib ((Voc.alone_iff hok (V := vocOf s T) Ta).1 ca).1 ((Voc.alone_iff hok (V := vocOf s T) Tb).1 cb).1 (by omega) (by omega)).mono ?_⟩
  rintro e w10 ⟨r, rfl, hr, hb10⟩
  refine ⟨_, rfl, r, rfl, ?_, below_then hb8 hb10⟩
  rw [hr, hpair, h2]
  constructor
  ·intro hf
   exact .inr fun k hk hc => hf k hk (by change k < (mergesOf T).length at hk; omega) hc
  ·rintro (h | h)
   ·cases h
   ·exact fun k hk _ hc => h k hk hc
def FirstIs (V : Voc) (ids : List Int) : Option Nat → Prop
 | none => V.Canon ids
 | some k => k < ids.length ∧ V.Canon (ids.take k) ∧ ¬ V.Canon (ids.take (k + 1))
def firstV : Option Nat → Value
 | none => .tuple #[.int .i64 0, .bool false]
 | some k => .tuple #[.int .i64 (k : Int), .bool true]
theorem Rw.touch {α : Type} {enc : α → List Value} {sz : Nat} {w w' : World} {a : Option Addr} {xs : List α} {v : Nat} (h : Rw enc sz w a xs) (t : Touch v w w') (ha : xs ≠ [] → ∀ p, a = some p → p.block ≠ v) : Rw enc sz w' a xs := by
 intro j x hj
 obtain ⟨p, rfl, hp, hc⟩ := h j x hj
 refine ⟨p, rfl, Nat.lt_of_lt_of_le hp t.size, fun k u hk => ?_⟩
 rw [World.cell?_of_block (w := w) (by rw [add_block, add_block]; exact t.block p.block hp (ha (List.ne_nil_of_mem (List.mem_of_getElem? hj)) p rfl))]
 exact hc k u hk
theorem canon_nil (V : Voc) : V.Canon [] := rfl
theorem first_spec (w : World) (v : Nat) (s : SpecV) (T : List Ent) (hV : VocIs w v s T) (A : Option Addr) (C : Nat) (ids : List Int) (hr : Rw encInt 1 w A ids) (hA : ids ≠ [] → ∀ p, A = some p → p.block ≠ v) (hl : ids.length ≤ 1000000000000) (hh : ∀ t ∈ ids, (vocOf s T).Has t) :
  CP 116 #[.pointer (some ⟨v, 0, none⟩), .slice A ids.length C] w fun e w' => ∃ o, e = .returned (firstV o) ∧ FirstIs (vocOf s T) ids o ∧ VocIs w' v s T ∧ Touch v w w' := by
 refine calls_ret (vc116_calls (some ⟨v, 0, none⟩) A ids.length C w (fun u w' => ∃ o, u = firstV o ∧ FirstIs (vocOf s T) ids o ∧ VocIs w' v s T ∧ Touch v w w') ?_) (by rintro v w' ⟨o, rfl, h⟩; exact ⟨o, rfl, h⟩)
 intro I hI
 have key := climb2 (α := Bool × Int × World) ids.length (fun i x => (vocOf s T).Canon (ids.take i) ∧ VocIs x.2.2 v s T ∧ Touch v w x.2.2) (fun i x => I [.int .i64 (i : Int), .bool x.1, .int .i64 x.2.1] x.2.2) (false, 0, w) ⟨canon_nil _, hV, Touch.of_below (Below.refl _ _)⟩ ?_ ?_
 ·exact key
 ·rintro i hi ih ⟨y5, y4, w1⟩ ⟨hc, hV1, t1⟩
  change VocIs w1 v s T at hV1
  change Touch v w w1 at t1
  have hr1 := hr.touch t1 hA
  obtain ⟨q, hq, _, hcx⟩ := hr1 i _ (List.getElem?_eq_getElem hi)
  have h0 := hcx 0 _ rfl
  rw [add_zero] at h0
  have hHas := hh ids[i] (List.getElem_mem hi)
  have htake : ids.take (i + 1) = ids.take i ++ [ids[i]] := by rw [List.take_add_one, List.getElem?_eq_getElem hi]; rfl
  obtain ⟨w0, x, tp, bp, mp, d, l, uses, hR⟩ := hV1
  have hok := voc_ok hR.now
  refine hI _ _ _ _ (CondP.yes (by simp; omega) (NilC.mk q hq ⟨by omega, by omega, ids[i], h0, ?_⟩))
  refine (alone_spec w1 v s T ⟨w0, x, tp, bp, mp, d, l, uses, hR⟩ ids[i]).mono ?_
  rintro e w2 ⟨rfl, hV2, t2⟩
  have t12 := t1.trans t2
  have hal := aloneV_iff hR.now hHas
  have hall : ∀ t ∈ ids.take i ++ [ids[i]], (vocOf s T).Has t := by
   rw [← htake]
   intro t ht
   exact hh t (List.mem_of_mem_take ht)
  refine ⟨_, rfl, CondP.mk (fun h1 => ?_) fun h1 => ?_⟩
  ·have h1 : aloneV s T ids[i] = false := by simpa using h1
   refine ⟨some i, rfl, ⟨hi, hc, fun hcc => ?_⟩, hV2, t12⟩
   rw [htake] at hcc
   have := (Voc.canon_append hok hall hcc).2
   rw [hal.2 this] at h1
   cases h1
  ·have h1 : aloneV s T ids[i] = true := by simpa using h1
   have ct := hal.1 h1
   refine CondP.mk (fun h2 => ?_) fun h2 => ?_
   ·have h2 : 0 < i := by have := of_decide_eq_true h2; omega
    have hi1 : i - 1 < ids.length := by omega
    obtain ⟨q2, hq2, _, hcx2⟩ := (hr1.touch t2 hA) (i - 1) _ (List.getElem?_eq_getElem hi1)
    have h02 := hcx2 0 _ rfl
    rw [add_zero] at h02
    have hprev : ids.take i = ids.take (i - 1) ++ [ids[i - 1]] := by
     have := List.take_add_one (l := ids) (i := i - 1)
     rw [show i - 1 + 1 = i by omega, List.getElem?_eq_getElem hi1] at this
     exact this
    have hall2 : ∀ t ∈ ids.take (i - 1) ++ [ids[i - 1]], (vocOf s T).Has t := by
     rw [← hprev]
     intro t ht
     exact hh t (List.mem_of_mem_take ht)
    rw [hprev] at hc
    have cl := (Voc.canon_append hok hall2 hc).2
    obtain ⟨w0', x', tp', bp', mp', d', l', uses', hR'⟩ := hV2
    refine Ar.ok64 (by omega) (by omega) (NilC.mk q2 hq2 ⟨by omega, by omega, ids[i - 1], ?_, ?_⟩)
    ·rw [show ((i : Int) - 1).toNat = i - 1 by omega]
     exact h02
    ·refine (beside_spec hR'.vblk hR'.now ids[i - 1] ids[i] (hh _ (List.getElem_mem hi1)) hHas cl ct).mono ?_
     rintro e w3 ⟨r, rfl, hr3, hb3⟩
     have t13 := t12.trans (Touch.of_below hb3)
     have hV3 : VocIs w3 v s T := ⟨w0', x', tp', bp', mp', d', l', uses', hR'.on hb3⟩
     have hmore := Voc.canon_more hok hall2 hc hHas
     refine ⟨_, rfl, CondP.mk (fun h3 => ?_) fun h3 => ?_⟩
     ·have h3 : r = false := by simpa using h3
      refine ⟨some i, rfl, ⟨hi, by rw [hprev]; exact hc, fun hcc => ?_⟩, hV3, t13⟩
      rw [htake, hprev] at hcc
      have := (hmore.1 hcc).2
      rw [hr3.2 this] at h3
      cases h3
     ·have h3 : r = true := by simpa using h3
      refine Ar.ok64 (by omega) (by omega) (ih (y5, y4, w3) ⟨?_, hV3, t13⟩)
      rw [htake, hprev]
      exact hmore.2 ⟨ct, hr3.1 h3⟩
   ·have h2 : i = 0 := by have := of_decide_eq_false h2; omega
    refine Ar.ok64 (by omega) (by omega) (ih (y5, y4, w2) ⟨?_, hV2, t12⟩)
    subst h2
    rw [htake, List.take_zero, List.nil_append]
    exact ct
 ·rintro ⟨y5, y4, w1⟩ ⟨hc, hV1, t1⟩
  rw [List.take_length] at hc
  exact hI _ _ _ _ (CondP.no (by simp) ⟨none, rfl, hc, hV1, t1⟩)
theorem indexI_spec (a : Option Addr) (c : Nat) (xs : List Int) (f : Value) (p : Int → Bool) (w : World) (hr : Rw encInt 1 w a xs) (hl : xs.length ≤ 1000000000000000)
  (hf : ∀ x ∈ xs, ∀ w1, Below w.heap.size w w1 → CallG ctx f [.int .i64 x] w1 (fun e w2 => e = .returned (.bool (p x)) ∧ Below w1.heap.size w1 w2)) :
  CP 94 #[.slice a xs.length c, f] w fun e w' => e = .returned (.int .i64 (idx p xs)) ∧ Below w.heap.size w w' := by
 refine calls_ret (vc94_calls a xs.length c f w (fun v w' => v = .int .i64 (idx p xs) ∧ Below w.heap.size w w') ?_) (by rintro v w' ⟨rfl, h⟩; exact ⟨rfl, h⟩)
 intro I hI
 have key := climb (α := Int × World) xs.length (fun i x => (∀ j (hj : j < xs.length), j < i → p xs[j] = false) ∧ Below w.heap.size w x.2) (fun i x => I [.int .i64 (i : Int), .int .i64 x.1] x.2) ?_ ?_ 0 (Nat.zero_le _) (0, w)
 ·exact key ⟨fun j _ hj => absurd hj (Nat.not_lt_zero j), Below.refl _ _⟩
 ·rintro ⟨y, w1⟩ ⟨hb, hB⟩
  exact hI _ _ _ (CondP.no (by simp) ⟨by rw [idx_none fun j hj => hb j hj hj], hB⟩)
 ·rintro i hi ih ⟨y, w1⟩ ⟨hb, hB⟩
  obtain ⟨q, hq, _, hcx⟩ := (hr.on hB) i _ (List.getElem?_eq_getElem hi)
  refine hI _ _ _ (CondP.yes (by simp; omega) (NilC.mk q hq ⟨by omega, by omega, xs[i], by have := hcx 0 _ rfl; simpa [add_zero] using this, ?_⟩))
  refine (hf xs[i] (List.getElem_mem hi) w1 hB).mono ?_
  rintro e w2 ⟨rfl, h2⟩
  refine ⟨_, rfl, CondP.mk ?_ ?_⟩
  ·intro hp
   exact ⟨by rw [idx_some hi hp fun j hj => hb j (by omega) hj], below_then hB h2⟩
  ·intro hp
   refine Ar.ok64 (by omega) (by omega) (ih (y, w2) ⟨?_, below_then hB h2⟩)
   intro j hj hji
   by_cases he : j = i
   ·subst he; exact hp
   ·exact hb j hj (by omega)
theorem VocIs.has_call {w : World} {v : Nat} {s : SpecV} {T : List Ent} (h : VocIs w v s T) (id : Int) : CP 96 #[.pointer (some ⟨v, 0, none⟩), .int .i64 id] w fun e w' => e = .returned (.bool (hasV2 s T id)) ∧ w' = w := by
 obtain ⟨w0, x, tp, bp, mp, d, l, uses, hR⟩ := h
 exact vocHas_spec hR.vblk hR.now id
def badId (s : SpecV) (T : List Ent) (ids : List Int) : Int := idx (fun id => !hasV2 s T id) ids
def readyV (s : SpecV) (T : List Ent) (ids : List Int) : Int × Int := if 4000 < ids.length then (0, 3) else if badId s T ids ≥ 0 then (badId s T ids, 4) else (0, 0)
theorem ready_spec (w : World) (v : Nat) (s : SpecV) (T : List Ent) (hV : VocIs w v s T) (A : Option Addr) (C : Nat) (ids : List Int) (hr : Rw encInt 1 w A ids) :
  CP 92 #[.pointer (some ⟨v, 0, none⟩), .slice A ids.length C] w fun e w' => e = .returned (.tuple #[.int .i64 (readyV s T ids).1, .int .i64 (readyV s T ids).2]) ∧ Below w.heap.size w w' := by
 refine calls_ret (vc92_calls (some ⟨v, 0, none⟩) A ids.length C w (fun u w' => u = .tuple #[.int .i64 (readyV s T ids).1, .int .i64 (readyV s T ids).2] ∧ Below w.heap.size w w') ?_) (by rintro v w' ⟨rfl, h⟩; exact ⟨rfl, h⟩)
 intro w1 hw1
 have hb1 : Below w.heap.size w w1 := by subst hw1; exact below_alloc _ _
 have l1 : w1.heap[w.heap.size]? = some (.cells #[.pointer (some ⟨v, 0, none⟩)] 31 (0, 0)) := by subst hw1; exact alloc_new _ _
 have pc : ∀ {w' : World}, w'.heap[w.heap.size]? = some (.cells #[.pointer (some ⟨v, 0, none⟩)] 31 (0, 0)) → w'.cell? (nb w) = some (.pointer (some ⟨v, 0, none⟩)) := fun h => cell_heap h
 refine ⟨_, pc l1, CondP.no rfl (CondP.mk (fun h0 => ?_) fun h0 => ?_)⟩
 ·have h0 := of_decide_eq_true h0
  refine ⟨?_, hb1⟩
  rw [readyV, if_pos (by omega)]
 ·have h0 := of_decide_eq_false h0
  have hz1 : w.heap.size < w1.heap.size := (Array.getElem?_eq_some_iff.1 l1).1
  refine (indexI_spec A C ids _ (fun id => !hasV2 s T id) w1 (hr.on hb1) (by omega) ?_).mono ?_
  ·intro id hid w2 hb2
   refine callG_of (by kernel_rfl) ?_
   refine calls_ret (vc153_calls id (some (nb w)) w2 (fun u w' => u = .bool (!hasV2 s T id) ∧ Below w2.heap.size w2 w') ?_) (by rintro v w' ⟨rfl, h⟩; exact ⟨rfl, h⟩)
   refine NilC.mk _ rfl ⟨_, pc (held_on hb2 l1), ?_⟩
   refine (((hV.on hb1).on hb2).has_call id).mono ?_
   rintro e w3 ⟨rfl, hw⟩
   subst hw
   exact ⟨_, rfl, rfl, Below.refl _ _⟩
  ·rintro e w2 ⟨rfl, hb2⟩
   have hb := below_then hb1 hb2
   refine ⟨_, rfl, CondP.mk (fun h1 => ?_) fun h1 => ?_⟩
   ·have h1 : badId s T ids ≥ 0 := of_decide_eq_true h1
    refine ⟨?_, hb⟩
    rw [readyV, if_neg (by omega), if_pos h1]
    rfl
   ·have h1 : ¬ badId s T ids ≥ 0 := of_decide_eq_false h1
    refine ⟨?_, hb⟩
    rw [readyV, if_neg (by omega), if_neg h1]
theorem place_spec (k : Int) (bad : Bool) (w : World) : CP 93 #[.int .i64 k, .bool bad] w fun e w' => e = .returned (.int .i64 (if bad then k else -1)) ∧ w' = w := by
 refine calls_ret (vc93_calls k bad w (fun u w' => u = .int .i64 (if bad then k else -1) ∧ w' = w) ?_) (by rintro v w' ⟨rfl, h⟩; exact ⟨rfl, h⟩)
 cases bad
 ·exact CondP.yes rfl ⟨rfl, rfl⟩
 ·exact CondP.no rfl ⟨rfl, rfl⟩
theorem walkerFirst_spec (w : World) (v : Nat) (s : SpecV) (T : List Ent) (hV : VocIs w v s T) (A : Option Addr) (C : Nat) (ids : List Int) (hr : Rw encInt 1 w A ids) (hA : ids ≠ [] → ∀ p, A = some p → p.block ≠ v) (hl : ids.length ≤ 1000000000000) (hh : ∀ t ∈ ids, (vocOf s T).Has t) :
  CP 296 #[.agg #[.pointer (some ⟨v, 0, none⟩)], .slice A ids.length C] w fun e w' => ∃ o, e = .returned (firstV o) ∧ FirstIs (vocOf s T) ids o ∧ VocIs w' v s T ∧ Touch v w w' := by
 refine calls_ret (vc296_calls (some ⟨v, 0, none⟩) A ids.length C w (fun u w' => ∃ o, u = firstV o ∧ FirstIs (vocOf s T) ids o ∧ VocIs w' v s T ∧ Touch v w w') ?_) (by rintro v w' ⟨o, rfl, h⟩; exact ⟨o, rfl, h⟩)
 intro w1 hw1
 have hb1 : Below w.heap.size w w1 := by subst hw1; exact below_alloc _ _
 refine ⟨_, by subst hw1; rw [add_lit, cell_new]; rfl, ?_⟩
 refine (first_spec w1 v s T (hV.on hb1) A C ids (hr.on hb1) hA hl hh).mono ?_
 rintro e w2 ⟨o, rfl, ho, hV2, t2⟩
 have t := (Touch.of_below (v := v) hb1).trans t2
 cases o with
 | none => exact ⟨0, false, rfl, none, rfl, ho, hV2, t⟩
 | some k => exact ⟨(k : Int), true, rfl, some k, rfl, ho, hV2, t⟩
abbrev walkerJ (v : Option Addr) : Value := .iface 116 (.agg #[.pointer v])
abbrev makerJ (v : Option Addr) : Value := .iface 117 (.agg #[.pointer v])
theorem walker_call (v : Addr) (A : Option Addr) (N C : Nat) (w : World) : (callMethod (walkerJ (some v)) "First" #[.slice A N C]).run Tryz.prog w = .ok (.enter 296 #[.agg #[.pointer (some v)], .slice A N C]) w := by kernel_rfl
def placeV : Option Nat → Int
 | none => -1
 | some k => (k : Int)
theorem badId_none {s : SpecV} {T : List Ent} {ids : List Int} (h : ¬ badId s T ids ≥ 0) : ∀ t ∈ ids, hasV2 s T t = true := by
 intro t ht
 unfold badId idx at h
 cases hx : ids.findIdx? (fun id => !hasV2 s T id) with
 | some i => rw [hx] at h; exact absurd (show ((i : Nat) : Int) ≥ 0 by omega) h
 | none =>
  have := List.findIdx?_eq_none_iff.1 hx t ht
  simpa using this
theorem check_spec (w : World) (v : Nat) (s : SpecV) (T : List Ent) (hV : VocIs w v s T) (A : Option Addr) (C : Nat) (ids : List Int) (hr : Rw encInt 1 w A ids) (hA : ids ≠ [] → ∀ p, A = some p → p.block ≠ v) :
  CP 16 #[.pointer (some ⟨v, 0, none⟩), .slice A ids.length C] w fun e w' => VocIs w' v s T ∧ Touch v w w' ∧ ((readyV s T ids).2 ≠ 0 ∧ e = .returned (.tuple #[.int .i64 (readyV s T ids).1, .int .i64 (readyV s T ids).2]) ∨ ((readyV s T ids).2 = 0 ∧ (∀ t ∈ ids, hasV2 s T t = true) ∧ ∃ o, FirstIs (vocOf s T) ids o ∧ e = .returned (.tuple #[.int .i64 (placeV o), .int .i64 0]))) := by
 have hVI := hV
 have hby : CP 56 #[.pointer (some ⟨v, 0, none⟩), walkerJ (some ⟨v, 0, none⟩), .slice A ids.length C] w fun e w' => ∃ (r1 r2 : Int), e = .returned (.tuple #[.int .i64 r1, .int .i64 r2]) ∧ VocIs w' v s T ∧ Touch v w w' ∧ ((readyV s T ids).2 ≠ 0 ∧ r1 = (readyV s T ids).1 ∧ r2 = (readyV s T ids).2 ∨ ((readyV s T ids).2 = 0 ∧ (∀ t ∈ ids, hasV2 s T t = true) ∧ ∃ o, FirstIs (vocOf s T) ids o ∧ r1 = placeV o ∧ r2 = 0)) := by
  refine calls_ret (vc56_calls (some ⟨v, 0, none⟩) (walkerJ (some ⟨v, 0, none⟩)) A ids.length C w (fun u w' => ∃ (r1 r2 : Int), u = .tuple #[.int .i64 r1, .int .i64 r2] ∧ VocIs w' v s T ∧ Touch v w w' ∧ ((readyV s T ids).2 ≠ 0 ∧ r1 = (readyV s T ids).1 ∧ r2 = (readyV s T ids).2 ∨ ((readyV s T ids).2 = 0 ∧ (∀ t ∈ ids, hasV2 s T t = true) ∧ ∃ o, FirstIs (vocOf s T) ids o ∧ r1 = placeV o ∧ r2 = 0))) ?_) (by rintro v w' ⟨r1, r2, rfl, h⟩; exact ⟨r1, r2, rfl, h⟩)
  refine (ready_spec w v s T hV A C ids hr).mono ?_
  rintro e w1 ⟨rfl, hb1⟩
  refine ⟨_, _, rfl, CondP.mk (fun h0 => ?_) fun h0 => ?_⟩
  ·have h0 : (readyV s T ids).2 ≠ 0 := by simpa using h0
   exact ⟨_, _, rfl, hV.on hb1, Touch.of_below hb1, .inl ⟨h0, rfl, rfl⟩⟩
  ·have h0 : (readyV s T ids).2 = 0 := by simpa using h0
   have hsplit : ids.length ≤ 4000 ∧ ¬ badId s T ids ≥ 0 := by
    unfold readyV at h0
    split at h0
    ·cases h0
    ·split at h0
     ·cases h0
     ·exact ⟨by omega, by assumption⟩
   have hall := badId_none hsplit.2
   refine ⟨false, w1, by kernel_rfl, CondP.no rfl ⟨_, _, walker_call ⟨v, 0, none⟩ A ids.length C w1, ?_⟩⟩
   have hhas : ∀ t ∈ ids, (vocOf s T).Has t := by
    obtain ⟨w0, x, tp, bp, mp, d, l, uses, hR⟩ := hVI
    intro t ht
    exact (has_iff hR.now t).1 (hall t ht)
   refine (walkerFirst_spec w1 v s T (hV.on hb1) A C ids (hr.on hb1) hA (by omega) hhas).mono ?_
   rintro e w2 ⟨o, rfl, ho, hV2, t2⟩
   have t := (Touch.of_below (v := v) hb1).trans t2
   cases o with
   | none =>
    refine ⟨0, false, rfl, (place_spec 0 false w2).mono ?_⟩
    rintro e w3 ⟨rfl, hw⟩
    subst hw
    exact ⟨_, rfl, _, _, rfl, hV2, t, .inr ⟨h0, hall, none, ho, rfl, rfl⟩⟩
   | some k =>
    refine ⟨(k : Int), true, rfl, (place_spec (k : Int) true w2).mono ?_⟩
    rintro e w3 ⟨rfl, hw⟩
    subst hw
    exact ⟨_, rfl, _, _, rfl, hV2, t, .inr ⟨h0, hall, some k, ho, rfl, rfl⟩⟩
 have := vc16_calls (some ⟨v, 0, none⟩) A ids.length C w (fun u w' => VocIs w' v s T ∧ Touch v w w' ∧ ((readyV s T ids).2 ≠ 0 ∧ u = .tuple #[.int .i64 (readyV s T ids).1, .int .i64 (readyV s T ids).2] ∨ ((readyV s T ids).2 = 0 ∧ (∀ t ∈ ids, hasV2 s T t = true) ∧ ∃ o, FirstIs (vocOf s T) ids o ∧ u = .tuple #[.int .i64 (placeV o), .int .i64 0]))) (by
  refine hby.mono ?_
  rintro e w1 ⟨r1, r2, rfl, h1, h2, h3⟩
  refine ⟨_, _, rfl, h1, h2, ?_⟩
  rcases h3 with ⟨ha, rfl, rfl⟩ | ⟨ha, hb, o, ho, rfl, rfl⟩
  ·exact .inl ⟨ha, rfl⟩
  ·exact .inr ⟨ha, hb, o, ho, rfl⟩)
 refine this.mono ?_
 rintro e w' ⟨u, rfl, h1, h2, h3⟩
 refine ⟨h1, h2, ?_⟩
 rcases h3 with ⟨ha, rfl⟩ | ⟨ha, hb, o, ho, rfl⟩
 ·exact .inl ⟨ha, rfl⟩
 ·exact .inr ⟨ha, hb, o, ho, rfl⟩
instance (V : Voc) (ids : List Int) : Decidable (V.Canon ids) := inferInstanceAs (Decidable (V.encode (V.itemsAll ids) = ids))
end Go.Proofs.YtnmdljikfhafiaaGreat.Eng
