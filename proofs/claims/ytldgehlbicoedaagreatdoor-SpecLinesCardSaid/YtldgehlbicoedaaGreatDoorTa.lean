/- The reference's Right, Great and Same, walked by the engine. -/
import Derived.Test.YtldgehlbicoedaaGreatDoorSx
set_option linter.unusedVariables false
set_option linter.unusedSimpArgs false
set_option maxRecDepth 100000
namespace Go.Proofs.YtldgehlbicoedaaGreatDoor.Eng
open Go Go.RowKit

theorem in_spec (n lo hi : Int) (w : World) : Calls Tryz.prog 40 #[.int .i64 n, .int .i64 lo, .int .i64 hi] w fun e w' => e = .returned (.bool (decide (lo ≤ n ∧ n ≤ hi))) ∧ w' = w := by
  refine calls_ret (vc40_calls n lo hi w (fun v w' => v = .bool (decide (lo ≤ n ∧ n ≤ hi)) ∧ w' = w) ?_) (by rintro v w' ⟨rfl, h⟩; exact ⟨rfl, h⟩)
  refine CondP.mk ?_ ?_
  · intro h
    have h := of_decide_eq_true h
    exact ⟨by rw [decide_eq_decide.2 (show n ≤ hi ↔ (lo ≤ n ∧ n ≤ hi) from ⟨fun e => ⟨h, e⟩, fun e => e.2⟩)], rfl⟩
  · intro h
    have h := of_decide_eq_false h
    exact ⟨by rw [decide_eq_false (by omega : ¬ (lo ≤ n ∧ n ≤ hi))], rfl⟩
theorem not_right {s : SpecV} (h : s.right = true → False) : s.right = false := by
  cases hr : s.right with
  | false => rfl
  | true => exact (h hr).elim
theorem allOk_of {α : Type} {l : List α} {most : Nat} {may : α → Bool} (hl : l.length ≤ most) (h : ∀ j, j < l.length → ∀ hj : j < l.length, may l[j] = true) : allOk l most may = true := by
  unfold allOk
  rw [Bool.and_eq_true]
  refine ⟨decide_eq_true hl, List.all_eq_true.2 fun x hx => ?_⟩
  obtain ⟨j, hj, rfl⟩ := List.getElem_of_mem hx
  exact h j hj hj
theorem upto_succ {P : Nat → Prop} {i : Nat} (h : ∀ j, j < i → P j) (k : P i) : ∀ j, j < i + 1 → P j := by
  intro j hj
  rcases Nat.lt_succ_iff_lt_or_eq.1 hj with e | e
  · exact h j e
  · subst e; exact k

theorem refRight_spec (x : SpecW) (s : SpecV) (w : World) (h : SpecAt w x s) :
    Calls Tryz.prog 14 #[x.v] w fun e w' => e = .returned (.bool s.right) ∧ Below w.heap.size w w' := by
  refine calls_ret (vc14_calls x.ranked x.s1.a x.s1.n x.s1.c x.s2.a x.s2.n x.s2.c x.s3.a x.s3.n x.s3.c x.s4.a x.s4.n x.s4.c x.s5.a x.s5.n x.s5.c w (fun v w' => v = .bool s.right ∧ Below w.heap.size w w') ?_) (by rintro v w' ⟨rfl, h⟩; exact ⟨rfl, h⟩)
  intro w1 hw1
  have hb1 : Below w.heap.size w w1 := by rw [hw1]; exact below_alloc _ _
  have c1 : ∀ {w3 : World} (j : Nat), Below w1.heap.size w1 w3 → w3.cell? ((nb w).add j) = x.cells[j]? := by
    intro w3 j hB
    rw [hw1] at hB
    rw [add_lit, Nat.zero_add, cell_kept hB]
  have hrefl := Below.refl w1.heap.size w1
  have hs : ∀ {w3 : World}, Below w1.heap.size w1 w3 → SpecAt w3 x s := fun hB => h.on (below_then hb1 hB)
  have off : ∀ {w3 : World}, Below w1.heap.size w1 w3 → (s.right = true → False) → (Value.bool false = .bool s.right ∧ Below w.heap.size w w3) := fun hB e => ⟨by rw [not_right e], below_then hb1 hB⟩
  refine ⟨_, _, _, c1 1 hrefl, CondP.mk (fun hc => off hrefl fun hr => ?_) (fun l1 => ?_)⟩
  · have := allOk_len (right_parts hr).2.1
    have hc := of_decide_eq_true hc
    rw [h.n1] at hc
    omega
  refine ⟨_, _, _, c1 2 hrefl, CondP.mk (fun hc => off hrefl fun hr => ?_) (fun l2 => ?_)⟩
  · have := allOk_len (right_parts hr).2.2.1
    have hc := of_decide_eq_true hc
    rw [h.n2] at hc
    omega
  refine ⟨_, _, _, c1 3 hrefl, CondP.mk (fun hc => off hrefl fun hr => ?_) (fun l3 => ?_)⟩
  · have := allOk_len (right_parts hr).2.2.2.1
    have hc := of_decide_eq_true hc
    rw [h.n3] at hc
    omega
  refine ⟨_, _, _, c1 4 hrefl, CondP.mk (fun hc => off hrefl fun hr => ?_) (fun l4 => ?_)⟩
  · have := allOk_len (right_parts hr).2.2.2.2.1
    have hc := of_decide_eq_true hc
    rw [h.n4] at hc
    omega
  refine ⟨_, _, _, c1 5 hrefl, CondP.mk (fun hc => off hrefl fun hr => ?_) (fun l5 => ?_)⟩
  · have := allOk_len (right_parts hr).2.2.2.2.2
    have hc := of_decide_eq_true hc
    rw [h.n5] at hc
    omega
  have l1 := of_decide_eq_false l1
  have l2 := of_decide_eq_false l2
  have l3 := of_decide_eq_false l3
  have l4 := of_decide_eq_false l4
  have l5 := of_decide_eq_false l5
  rw [h.n1] at l1
  rw [h.n2] at l2
  rw [h.n3] at l3
  rw [h.n4] at l4
  rw [h.n5] at l5
  intro I1 hI1
  refine climb2 (α := World) s.merges.length (fun i w' => (∀ j, j < i → ∀ hj : j < s.merges.length, mergeOk s.merges[j] = true) ∧ (0 < i → s.ranked = false) ∧ Below w1.heap.size w1 w') (fun i w' => I1 [.int .i64 (i : Int), .bool false] w') w1 ⟨by simp, by simp, hrefl⟩ ?_ ?_
  · rintro i hi ih w3 ⟨hok, hrk, hB⟩
    refine hI1 _ _ _ ⟨_, _, _, c1 1 hB, CondP.yes (by rw [h.n1]; simp; omega) ⟨_, c1 0 hB, CondP.mk (fun hk => off hB fun hr => ?_) (fun hk => ?_)⟩⟩
    · have p0 := (right_parts hr).1
      rw [if_pos (by rw [← h.ranked]; exact hk)] at p0
      have : s.merges = [] := List.isEmpty_iff.1 p0
      rw [this] at hi
      simp at hi
    obtain ⟨p, hpa, _, hc⟩ := (hs hB).r1 i _ (List.getElem?_eq_getElem hi)
    refine ⟨_, _, _, c1 1 hB, NilC.mk p hpa ⟨by omega, by rw [h.n1]; omega, _, hc 0 _ rfl, ?_⟩⟩
    refine (in_spec _ 0 999 w3).mono ?_
    rintro e w4 ⟨rfl, hw⟩
    subst w4
    refine ⟨_, rfl, CondP.mk (fun hb => off hB fun hr => ?_) (fun hb => ?_)⟩
    · have := of_decide_eq_true (all_mem (right_parts hr).2.1 (List.getElem_mem hi))
      simp only [Bool.not_eq_true', decide_eq_false_iff_not] at hb
      omega
    refine ⟨_, _, _, c1 1 hB, NilC.mk p hpa ⟨by omega, by rw [h.n1]; omega, _, hc 1 _ rfl, ?_⟩⟩
    refine (in_spec _ 0 999 w3).mono ?_
    rintro e w4 ⟨rfl, hw⟩
    subst w4
    refine ⟨_, rfl, CondP.mk (fun hb2 => off hB fun hr => ?_) (fun hb2 => ?_)⟩
    · have := of_decide_eq_true (all_mem (right_parts hr).2.1 (List.getElem_mem hi))
      simp only [Bool.not_eq_true', decide_eq_false_iff_not] at hb2
      omega
    simp only [Bool.not_eq_false', decide_eq_true_eq] at hb hb2
    exact Ar.ok64 (by omega) (by omega) (ih w3 ⟨upto_succ hok (fun _ => decide_eq_true (by omega)), fun _ => by rw [← h.ranked]; exact hk, hB⟩)
  rintro w3 ⟨hok1, hrk1, hB⟩
  refine hI1 _ _ _ ⟨_, _, _, c1 1 hB, CondP.no (by rw [h.n1]; simp) ?_⟩
  intro I2 hI2
  refine climb2 (α := World) s.tokens.length (fun i w' => (∀ j, j < i → ∀ hj : j < s.tokens.length, thingOk s.tokens[j] = true) ∧ (0 < i → s.ranked = true) ∧ Below w1.heap.size w1 w') (fun i w' => I2 [.int .i64 (i : Int), .bool false] w') w3 ⟨by simp, by simp, hB⟩ ?_ ?_
  · rintro i hi ih w3 ⟨hok, hrk, hB⟩
    refine hI2 _ _ _ ⟨_, _, _, c1 2 hB, CondP.yes (by rw [h.n2]; simp; omega) ⟨_, c1 0 hB, CondP.mk (fun hk => off hB fun hr => ?_) (fun hk => ?_)⟩⟩
    · have p0 := (right_parts hr).1
      have hk : x.ranked = false := by simpa using hk
      rw [if_neg (by rw [← h.ranked, hk]; simp)] at p0
      have : s.tokens = [] := List.isEmpty_iff.1 p0
      rw [this] at hi
      simp at hi
    have hk : x.ranked = true := by simpa using hk
    obtain ⟨p, hpa, _, hc⟩ := (hs hB).r2 i _ (List.getElem?_eq_getElem hi)
    refine ⟨_, _, _, c1 2 hB, NilC.mk p hpa ⟨by omega, by rw [h.n2]; omega, str s.tokens[i], by have := hc 0 _ rfl; rwa [add_zero] at this, ?_⟩⟩
    rw [str_size]
    refine (in_spec _ 2 64 w3).mono ?_
    rintro e w4 ⟨rfl, hw⟩
    subst w4
    refine ⟨_, rfl, CondP.mk (fun hb => off hB fun hr => ?_) (fun hb => ?_)⟩
    · have := of_decide_eq_true (all_mem (right_parts hr).2.2.1 (List.getElem_mem hi))
      simp only [Bool.not_eq_true', decide_eq_false_iff_not] at hb
      omega
    simp only [Bool.not_eq_false', decide_eq_true_eq] at hb
    exact Ar.ok64 (by omega) (by omega) (ih w3 ⟨upto_succ hok (fun _ => decide_eq_true (by omega)), fun _ => by rw [← h.ranked]; exact hk, hB⟩)
  rintro w3 ⟨hok2, hrk2, hB⟩
  refine hI2 _ _ _ ⟨_, _, _, c1 2 hB, CondP.no (by rw [h.n2]; simp) ?_⟩
  intro I3 hI3
  refine climb2 (α := World) s.specials.length (fun i w' => (∀ j, j < i → ∀ hj : j < s.specials.length, specialOk s.specials[j] = true) ∧ Below w1.heap.size w1 w') (fun i w' => I3 [.int .i64 (i : Int), .bool false] w') w3 ⟨by simp, hB⟩ ?_ ?_
  · rintro i hi ih w3 ⟨hok, hB⟩
    obtain ⟨p, hpa, _, hc⟩ := (hs hB).r3 i _ (List.getElem?_eq_getElem hi)
    refine hI3 _ _ _ ⟨_, _, _, c1 3 hB, CondP.yes (by rw [h.n3]; simp; omega) ⟨_, _, _, c1 3 hB, NilC.mk p hpa ⟨by omega, by rw [h.n3]; omega, _, hc 0 _ rfl, ?_⟩⟩⟩
    refine (in_spec _ 0 1073741824 w3).mono ?_
    rintro e w4 ⟨rfl, hw⟩
    subst w4
    refine ⟨_, rfl, CondP.mk (fun hb => off hB fun hr => ?_) (fun hb => ?_)⟩
    · have := of_decide_eq_true (all_mem (right_parts hr).2.2.2.1 (List.getElem_mem hi))
      simp only [Bool.not_eq_true', decide_eq_false_iff_not] at hb
      omega
    refine ⟨_, _, _, c1 3 hB, NilC.mk p hpa ⟨by omega, by rw [h.n3]; omega, _, hc 1 _ rfl, ?_⟩⟩
    rw [str_size]
    refine (in_spec _ 1 64 w3).mono ?_
    rintro e w4 ⟨rfl, hw⟩
    subst w4
    refine ⟨_, rfl, CondP.mk (fun hb2 => off hB fun hr => ?_) (fun hb2 => ?_)⟩
    · have := of_decide_eq_true (all_mem (right_parts hr).2.2.2.1 (List.getElem_mem hi))
      simp only [Bool.not_eq_true', decide_eq_false_iff_not] at hb2
      omega
    simp only [Bool.not_eq_false', decide_eq_true_eq] at hb hb2
    exact Ar.ok64 (by omega) (by omega) (ih w3 ⟨upto_succ hok (fun _ => decide_eq_true (by omega)), hB⟩)
  rintro w3 ⟨hok3, hB⟩
  refine hI3 _ _ _ ⟨_, _, _, c1 3 hB, CondP.no (by rw [h.n3]; simp) ?_⟩
  intro I4 hI4
  refine climb2 (α := World) s.classes.length (fun i w' => (∀ j, j < i → ∀ hj : j < s.classes.length, classOk s.classes[j] = true) ∧ Below w1.heap.size w1 w') (fun i w' => I4 [.int .i64 (i : Int), .bool false] w') w3 ⟨by simp, hB⟩ ?_ ?_
  · rintro i hi ih w3 ⟨hok, hB⟩
    obtain ⟨p, hpa, _, hc⟩ := (hs hB).r4 i _ (List.getElem?_eq_getElem hi)
    refine hI4 _ _ _ ⟨_, _, _, c1 4 hB, CondP.yes (by rw [h.n4]; simp; omega) ⟨_, _, _, c1 4 hB, NilC.mk p hpa ⟨by omega, by rw [h.n4]; omega, s.classes[i].1, s.classes[i].2.1, s.classes[i].2.2, ⟨by have := hc 0 _ rfl; rwa [add_zero] at this, hc 1 _ rfl, hc 2 _ rfl, trivial⟩, ?_⟩⟩⟩
    intro w6 hw6
    refine storeP_new [.int .i64 0, .int .i64 0, .int .i64 0] [.int .i64 s.classes[i].1, .int .i64 s.classes[i].2.1, .int .i64 s.classes[i].2.2] rfl (by intro v hv; simp at hv; rcases hv with rfl | rfl | rfl <;> rfl) w6 hw6 ?_
    intro w7 f5 hsz7 f6
    have hB7 : Below w1.heap.size w1 w7 := below_then hB f6
    refine ⟨_, (cell_put (j := 0) f5).trans rfl, CondP.mk (fun hb => off hB7 fun hr => ?_) (fun hb => ?_)⟩
    · have := of_decide_eq_true (all_mem (right_parts hr).2.2.2.2.1 (List.getElem_mem hi))
      have hb := of_decide_eq_true hb
      omega
    refine ⟨_, (cell_put (j := 1) f5).trans rfl, _, (cell_put (j := 0) f5).trans rfl, CondP.mk (fun hb2 => off hB7 fun hr => ?_) (fun hb2 => ?_)⟩
    · have := of_decide_eq_true (all_mem (right_parts hr).2.2.2.2.1 (List.getElem_mem hi))
      have hb := of_decide_eq_true hb2
      omega
    refine ⟨_, (cell_put (j := 1) f5).trans rfl, CondP.mk (fun hb3 => off hB7 fun hr => ?_) (fun hb3 => ?_)⟩
    · have := of_decide_eq_true (all_mem (right_parts hr).2.2.2.2.1 (List.getElem_mem hi))
      have hb := of_decide_eq_true hb3
      omega
    refine ⟨_, (cell_put (j := 2) f5).trans rfl, ?_⟩
    refine (in_spec _ 0 15 w7).mono ?_
    rintro e w8 ⟨rfl, hw⟩
    subst w8
    refine ⟨_, rfl, CondP.mk (fun hb4 => off hB7 fun hr => ?_) (fun hb4 => ?_)⟩
    · have := of_decide_eq_true (all_mem (right_parts hr).2.2.2.2.1 (List.getElem_mem hi))
      simp only [Bool.not_eq_true', decide_eq_false_iff_not] at hb4
      omega
    have hb := of_decide_eq_false hb
    have hb2 := of_decide_eq_false hb2
    have hb3 := of_decide_eq_false hb3
    simp only [Bool.not_eq_false', decide_eq_true_eq] at hb4
    exact Ar.ok64 (by omega) (by omega) (ih w7 ⟨upto_succ hok (fun _ => decide_eq_true (by omega)), hB7⟩)
  rintro w3 ⟨hok4, hB⟩
  refine hI4 _ _ _ ⟨_, _, _, c1 4 hB, CondP.no (by rw [h.n4]; simp) ?_⟩
  intro I5 hI5
  refine climb2 (α := World) s.joins.length (fun i w' => (∀ j, j < i → ∀ hj : j < s.joins.length, joinOk s.joins[j] = true) ∧ Below w1.heap.size w1 w') (fun i w' => I5 [.int .i64 (i : Int), .bool false] w') w3 ⟨by simp, hB⟩ ?_ ?_
  · rintro i hi ih w3 ⟨hok, hB⟩
    obtain ⟨p, hpa, _, hc⟩ := (hs hB).r5 i _ (List.getElem?_eq_getElem hi)
    refine hI5 _ _ _ ⟨_, _, _, c1 5 hB, CondP.yes (by rw [h.n5]; simp; omega) ⟨_, _, _, c1 5 hB, NilC.mk p hpa ⟨by omega, by rw [h.n5]; omega, _, hc 0 _ rfl, ?_⟩⟩⟩
    refine (in_spec _ 0 15 w3).mono ?_
    rintro e w4 ⟨rfl, hw⟩
    subst w4
    refine ⟨_, rfl, CondP.mk (fun hb => off hB fun hr => ?_) (fun hb => ?_)⟩
    · have := of_decide_eq_true (all_mem (right_parts hr).2.2.2.2.2 (List.getElem_mem hi))
      simp only [Bool.not_eq_true', decide_eq_false_iff_not] at hb
      omega
    refine ⟨_, _, _, c1 5 hB, NilC.mk p hpa ⟨by omega, by rw [h.n5]; omega, _, hc 1 _ rfl, ?_⟩⟩
    refine (in_spec _ 0 15 w3).mono ?_
    rintro e w4 ⟨rfl, hw⟩
    subst w4
    refine ⟨_, rfl, CondP.mk (fun hb2 => off hB fun hr => ?_) (fun hb2 => ?_)⟩
    · have := of_decide_eq_true (all_mem (right_parts hr).2.2.2.2.2 (List.getElem_mem hi))
      simp only [Bool.not_eq_true', decide_eq_false_iff_not] at hb2
      omega
    simp only [Bool.not_eq_false', decide_eq_true_eq] at hb hb2
    exact Ar.ok64 (by omega) (by omega) (ih w3 ⟨upto_succ hok (fun _ => decide_eq_true (by omega)), hB⟩)
  rintro w3 ⟨hok5, hB⟩
  refine hI5 _ _ _ ⟨_, _, _, c1 5 hB, CondP.no (by rw [h.n5]; simp) ⟨?_, below_then hb1 hB⟩⟩
  rw [right_of (s := s) ?_ (allOk_of (by omega) hok1) (allOk_of (by omega) hok2) (allOk_of (by omega) hok3) (allOk_of (by omega) hok4) (allOk_of (by omega) hok5)]
  by_cases hk : s.ranked = true
  · rw [if_pos hk]
    cases hm : s.merges with
    | nil => rfl
    | cons _ _ => rw [hm] at hrk1; rw [hk] at hrk1; simp at hrk1
  · rw [if_neg hk]
    cases hm : s.tokens with
    | nil => rfl
    | cons _ _ => rw [hm] at hrk2; exact absurd (hrk2 (by simp)) hk

/-! ### Great -/
def greatV (s : SpecV) : Bool := decide (60 < s.merges.length ∧ s.merges.length ≠ 745 ∨ 60 < s.tokens.length ∨ 40 < s.specials.length ∨ 70 < s.classes.length ∨ 70 < s.joins.length ∨ (∃ t ∈ s.tokens, 100 < t.length) ∨ ∃ y ∈ s.specials, 100 < y.2.length)
theorem Great_spec (x : SpecW) (s : SpecV) (w : World) (h : SpecAt w x s) :
    Calls Tryz.prog 11 #[x.v] w fun e w' => e = .returned (.bool (greatV s)) ∧ Below w.heap.size w w' := by
  refine calls_ret (vc11_calls x.ranked x.s1.a x.s1.n x.s1.c x.s2.a x.s2.n x.s2.c x.s3.a x.s3.n x.s3.c x.s4.a x.s4.n x.s4.c x.s5.a x.s5.n x.s5.c w (fun v w' => v = .bool (greatV s) ∧ Below w.heap.size w w') ?_) (by rintro v w' ⟨rfl, h⟩; exact ⟨rfl, h⟩)
  intro w1 hw1
  have hb1 : Below w.heap.size w w1 := by rw [hw1]; exact below_alloc _ _
  have c1 : ∀ {w3 : World} (j : Nat), Below w1.heap.size w1 w3 → w3.cell? ((nb w).add j) = x.cells[j]? := by
    intro w3 j hB
    rw [hw1] at hB
    rw [add_lit, Nat.zero_add, cell_kept hB]
  have hB := Below.refl w1.heap.size w1
  have h1 := h.on hb1
  have yes : (60 < s.merges.length ∧ s.merges.length ≠ 745 ∨ 60 < s.tokens.length ∨ 40 < s.specials.length ∨ 70 < s.classes.length ∨ 70 < s.joins.length ∨ (∃ t ∈ s.tokens, 100 < t.length) ∨ ∃ y ∈ s.specials, 100 < y.2.length) → (Value.bool true = .bool (greatV s) ∧ Below w.heap.size w w1) := fun e => ⟨by rw [show greatV s = true from decide_eq_true e], hb1⟩
  refine ⟨_, _, _, c1 1 hB, CondP.mk (fun hm => ⟨_, _, _, c1 1 hB, CondP.mk (fun hn => ?_) (fun hn => ?_)⟩) (fun hm => ?_)⟩
  · have hm := of_decide_eq_true hm
    rw [h.n1] at hm hn
    simp at hn
    exact yes (.inl ⟨by omega, by omega⟩)
  all_goals
    have hg : ¬ (60 < s.merges.length ∧ s.merges.length ≠ 745) := by
      first
        | (have hm := of_decide_eq_false hm; rw [h.n1] at hm; omega)
        | (rw [h.n1] at hn; simp at hn; omega)
    refine ⟨_, _, _, c1 2 hB, CondP.mk (fun hm => yes (.inr (.inl (by have hm := of_decide_eq_true hm; rw [h.n2] at hm; omega)))) (fun l2 => ?_)⟩
    refine ⟨_, _, _, c1 3 hB, CondP.mk (fun hm => yes (.inr (.inr (.inl (by have hm := of_decide_eq_true hm; rw [h.n3] at hm; omega))))) (fun l3 => ?_)⟩
    refine ⟨_, _, _, c1 4 hB, CondP.mk (fun hm => yes (.inr (.inr (.inr (.inl (by have hm := of_decide_eq_true hm; rw [h.n4] at hm; omega)))))) (fun l4 => ?_)⟩
    refine ⟨_, _, _, c1 5 hB, CondP.mk (fun hm => yes (.inr (.inr (.inr (.inr (.inl (by have hm := of_decide_eq_true hm; rw [h.n5] at hm; omega))))))) (fun l5 => ?_)⟩
    have l2 := of_decide_eq_false l2
    have l3 := of_decide_eq_false l3
    have l4 := of_decide_eq_false l4
    have l5 := of_decide_eq_false l5
    rw [h.n2] at l2
    rw [h.n3] at l3
    rw [h.n4] at l4
    rw [h.n5] at l5
    intro I1 hI1
    refine climb2 (α := World) s.tokens.length (fun i w' => (∀ j, j < i → ∀ hj : j < s.tokens.length, ¬ 100 < s.tokens[j].length) ∧ w' = w1) (fun i w' => I1 [.int .i64 (i : Int), .bool false] w') w1 ⟨by simp, rfl⟩ ?_ ?_
    · rintro i hi ih w3 ⟨hok, hw3⟩
      subst w3
      obtain ⟨p, hpa, _, hc⟩ := h1.r2 i _ (List.getElem?_eq_getElem hi)
      refine hI1 _ _ _ ⟨_, _, _, c1 2 hB, CondP.yes (by rw [h.n2]; simp; omega) ⟨_, _, _, c1 2 hB, NilC.mk p hpa ⟨by omega, by rw [h.n2]; omega, str s.tokens[i], by have := hc 0 _ rfl; rwa [add_zero] at this, ?_⟩⟩⟩
      rw [str_size]
      refine CondP.mk (fun hb => yes (.inr (.inr (.inr (.inr (.inr (.inl ⟨_, List.getElem_mem hi, by have hb := of_decide_eq_true hb; omega⟩))))))) (fun hb => Ar.ok64 (by omega) (by omega) (ih w1 ⟨upto_succ hok fun _ => ?_, rfl⟩))
      have hb := of_decide_eq_false hb
      omega
    rintro w3 ⟨hok1, hw3⟩
    subst w3
    refine hI1 _ _ _ ⟨_, _, _, c1 2 hB, CondP.no (by rw [h.n2]; simp) ?_⟩
    intro I2 hI2
    refine climb2 (α := World) s.specials.length (fun i w' => (∀ j, j < i → ∀ hj : j < s.specials.length, ¬ 100 < s.specials[j].2.length) ∧ w' = w1) (fun i w' => I2 [.int .i64 (i : Int), .bool false] w') w1 ⟨by simp, rfl⟩ ?_ ?_
    · rintro i hi ih w3 ⟨hok, hw3⟩
      subst w3
      obtain ⟨p, hpa, _, hc⟩ := h1.r3 i _ (List.getElem?_eq_getElem hi)
      refine hI2 _ _ _ ⟨_, _, _, c1 3 hB, CondP.yes (by rw [h.n3]; simp; omega) ⟨_, _, _, c1 3 hB, NilC.mk p hpa ⟨by omega, by rw [h.n3]; omega, str s.specials[i].2, hc 1 _ rfl, ?_⟩⟩⟩
      rw [str_size]
      refine CondP.mk (fun hb => yes (.inr (.inr (.inr (.inr (.inr (.inr ⟨_, List.getElem_mem hi, by have hb := of_decide_eq_true hb; omega⟩))))))) (fun hb => Ar.ok64 (by omega) (by omega) (ih w1 ⟨upto_succ hok fun _ => ?_, rfl⟩))
      have hb := of_decide_eq_false hb
      omega
    rintro w3 ⟨hok2, hw3⟩
    subst w3
    refine hI2 _ _ _ ⟨_, _, _, c1 3 hB, CondP.no (by rw [h.n3]; simp) ⟨?_, hb1⟩⟩
    rw [show greatV s = false from decide_eq_false ?_]
    rintro (e | e | e | e | e | ⟨t, ht, e⟩ | ⟨y, hy, e⟩)
    · exact hg e
    · omega
    · omega
    · omega
    · omega
    · obtain ⟨j, hj, rfl⟩ := List.getElem_of_mem ht
      exact hok1 j hj hj e
    · obtain ⟨j, hj, rfl⟩ := List.getElem_of_mem hy
      exact hok2 j hj hj e
end Go.Proofs.YtldgehlbicoedaaGreatDoor.Eng

/- The reference's Same, walked by the engine. -/
set_option linter.unusedVariables false
set_option linter.unusedSimpArgs false
set_option maxRecDepth 100000
namespace Go.Proofs.YtldgehlbicoedaaGreatDoor.Eng
open Go Go.RowKit

theorem list_eq_of {α : Type} {l m : List α} (hl : l.length = m.length) (h : ∀ j, j < l.length → ∀ (hj : j < l.length) (hj' : j < m.length), l[j] = m[j]) : l = m :=
  List.ext_getElem hl fun j hj hj' => h j hj hj hj'
theorem refSame_spec (x y : SpecW) (a b : SpecV) (w : World) (hx : SpecAt w x a) (hy : SpecAt w y b) (hf : SmallS a) :
    Calls Tryz.prog 9 #[x.v, y.v] w fun e w' => e = .returned (.bool (decide (a = b))) ∧ Below w.heap.size w w' := by
  obtain ⟨f1, f2, f3, f4, f5⟩ := hf
  refine calls_ret (vc9_calls x.ranked x.s1.a x.s1.n x.s1.c x.s2.a x.s2.n x.s2.c x.s3.a x.s3.n x.s3.c x.s4.a x.s4.n x.s4.c x.s5.a x.s5.n x.s5.c y.ranked y.s1.a y.s1.n y.s1.c y.s2.a y.s2.n y.s2.c y.s3.a y.s3.n y.s3.c y.s4.a y.s4.n y.s4.c y.s5.a y.s5.n y.s5.c w (fun v w' => v = .bool (decide (a = b)) ∧ Below w.heap.size w w') ?_) (by rintro v w' ⟨rfl, h⟩; exact ⟨rfl, h⟩)
  intro w1 hw1 w2 hw2
  have hb1 : Below w.heap.size w w1 := by rw [hw1]; exact below_alloc _ _
  have hb2 : Below w1.heap.size w1 w2 := by rw [hw2]; exact below_alloc _ _
  have hb := below_then hb1 hb2
  have cx : ∀ {w3 : World} (j : Nat), Below w2.heap.size w2 w3 → w3.cell? ((nb w).add j) = x.cells[j]? := by
    intro w3 j h
    have h13 := below_then hb2 h
    rw [hw1] at h13
    rw [add_lit, Nat.zero_add, cell_kept h13]
  have cy : ∀ {w3 : World} (j : Nat), Below w2.heap.size w2 w3 → w3.cell? ((nb w1).add j) = y.cells[j]? := by
    intro w3 j h
    rw [hw2] at h
    rw [add_lit, Nat.zero_add, cell_kept h]
  have hsx : ∀ {w3 : World}, Below w2.heap.size w2 w3 → SpecAt w3 x a := fun h => hx.on (below_then hb h)
  have hsy : ∀ {w3 : World}, Below w2.heap.size w2 w3 → SpecAt w3 y b := fun h => hy.on (below_then hb h)
  have off : ∀ {w3 : World}, Below w2.heap.size w2 w3 → a ≠ b → (Value.bool false = .bool (decide (a = b)) ∧ Below w.heap.size w w3) := fun h e => ⟨by rw [decide_eq_false e], below_then hb h⟩
  have hB := Below.refl w2.heap.size w2
  refine ⟨_, cx 0 hB, _, cy 0 hB, CondP.mk (fun hc => off hB ?_) (fun r0 => ?_)⟩
  · rintro rfl
    rw [hx.ranked, hy.ranked] at hc
    simp at hc
  refine ⟨_, _, _, cx 1 hB, _, _, _, cy 1 hB, CondP.mk (fun hc => off hB ?_) (fun l1 => ?_)⟩
  · rintro rfl
    rw [hx.n1, hy.n1] at hc
    simp at hc
  refine ⟨_, _, _, cx 2 hB, _, _, _, cy 2 hB, ?_⟩
  have q2 := refTexts_spec x.s2.a y.s2.a x.s2.c y.s2.c a.tokens b.tokens w2 (hsx hB).r2.str (hsy hB).r2.str f2
  rw [← hx.n2, ← hy.n2] at q2
  refine q2.mono ?_
  rintro e w3 ⟨rfl, hB3⟩
  refine ⟨_, rfl, CondP.mk (fun hc => off hB3 ?_) (fun ht => ?_)⟩
  · rintro rfl
    simp at hc
  have ht : a.tokens = b.tokens := by simpa using ht
  refine ⟨_, _, _, cx 3 hB3, _, _, _, cy 3 hB3, CondP.mk (fun hc => off hB3 ?_) (fun l3 => ?_)⟩
  · rintro rfl
    rw [hx.n3, hy.n3] at hc
    simp at hc
  refine ⟨_, _, _, cx 4 hB3, _, _, _, cy 4 hB3, CondP.mk (fun hc => off hB3 ?_) (fun l4 => ?_)⟩
  · rintro rfl
    rw [hx.n4, hy.n4] at hc
    simp at hc
  refine ⟨_, _, _, cx 5 hB3, _, _, _, cy 5 hB3, CondP.mk (fun hc => off hB3 ?_) (fun l5 => ?_)⟩
  · rintro rfl
    rw [hx.n5, hy.n5] at hc
    simp at hc
  have r0 : a.ranked = b.ranked := by rw [hx.ranked, hy.ranked] at r0; simpa using r0
  have l1 : a.merges.length = b.merges.length := by rw [hx.n1, hy.n1] at l1; simp at l1; omega
  have l3 : a.specials.length = b.specials.length := by rw [hx.n3, hy.n3] at l3; simp at l3; omega
  have l4 : a.classes.length = b.classes.length := by rw [hx.n4, hy.n4] at l4; simp at l4; omega
  have l5 : a.joins.length = b.joins.length := by rw [hx.n5, hy.n5] at l5; simp at l5; omega
  intro I1 hI1
  refine climb2 (α := World) a.merges.length (fun i w' => (∀ j, j < i → ∀ (hj : j < a.merges.length) (hj' : j < b.merges.length), a.merges[j] = b.merges[j]) ∧ Below w2.heap.size w2 w') (fun i w' => I1 [.int .i64 (i : Int), .bool false] w') w3 ⟨by simp, hB3⟩ ?_ ?_
  · rintro i hi ih w4 ⟨hok, hB4⟩
    refine hI1 _ _ _ ⟨_, _, _, cx 1 hB4, CondP.yes (by rw [hx.n1]; simp; omega) ?_⟩
    rintro w5 rfl
    have hB5 := hB4.drew
    have hi' : i < b.merges.length := by omega
    obtain ⟨p, hpa, _, hc⟩ := (hsx hB5).r1 i _ (List.getElem?_eq_getElem hi)
    obtain ⟨q, hqa, _, hd⟩ := (hsy hB5).r1 i _ (List.getElem?_eq_getElem hi')
    refine ⟨_, _, _, cx 1 hB5, NilC.mk p hpa ⟨by omega, by rw [hx.n1]; omega, a.merges[i].1, a.merges[i].2, ⟨by have := hc 0 _ rfl; rwa [add_zero] at this, hc 1 _ rfl, trivial⟩, ?_⟩⟩
    refine ⟨_, _, _, cy 1 hB5, NilC.mk q hqa ⟨by omega, by rw [hy.n1]; omega, b.merges[i].1, b.merges[i].2, ⟨by have := hd 0 _ rfl; rwa [add_zero] at this, hd 1 _ rfl, trivial⟩, ?_⟩⟩
    
    refine CondP.mk (fun hn => off hB5 ?_) (fun hn => Ar.ok64 (by omega) (by omega) (ih _ ⟨upto_succ hok fun hj hj' => ?_, hB5⟩))
    · rintro rfl
      simp at hn
    · simp at hn
      exact Prod.ext hn.1 hn.2
  rintro w4 ⟨hok1, hB41⟩
  refine hI1 _ _ _ ⟨_, _, _, cx 1 hB41, CondP.no (by rw [hx.n1]; simp) ?_⟩
  intro I3 hI3
  refine climb2 (α := World) a.specials.length (fun i w' => (∀ j, j < i → ∀ (hj : j < a.specials.length) (hj' : j < b.specials.length), a.specials[j] = b.specials[j]) ∧ Below w2.heap.size w2 w') (fun i w' => I3 [.int .i64 (i : Int), .bool false] w') w4 ⟨by simp, hB41⟩ ?_ ?_
  · rintro i hi ih w4 ⟨hok, hB4⟩
    refine hI3 _ _ _ ⟨_, _, _, cx 3 hB4, CondP.yes (by rw [hx.n3]; simp; omega) ?_⟩
    rintro w5 rfl
    have hB5 := hB4.drew
    have hi' : i < b.specials.length := by omega
    obtain ⟨p, hpa, _, hc⟩ := (hsx hB5).r3 i _ (List.getElem?_eq_getElem hi)
    obtain ⟨q, hqa, _, hd⟩ := (hsy hB5).r3 i _ (List.getElem?_eq_getElem hi')
    refine ⟨_, _, _, cx 3 hB5, NilC.mk p hpa ⟨by omega, by rw [hx.n3]; omega, a.specials[i].1, str a.specials[i].2, ⟨by have := hc 0 _ rfl; rwa [add_zero] at this, hc 1 _ rfl, trivial⟩, ?_⟩⟩
    refine ⟨_, _, _, cy 3 hB5, NilC.mk q hqa ⟨by omega, by rw [hy.n3]; omega, b.specials[i].1, str b.specials[i].2, ⟨by have := hd 0 _ rfl; rwa [add_zero] at this, hd 1 _ rfl, trivial⟩, ?_⟩⟩
    rw [beq_str]
    refine CondP.mk (fun hn => off hB5 ?_) (fun hn => Ar.ok64 (by omega) (by omega) (ih _ ⟨upto_succ hok fun hj hj' => ?_, hB5⟩))
    · rintro rfl
      simp at hn
    · simp at hn
      exact Prod.ext hn.1 hn.2
  rintro w4 ⟨hok3, hB43⟩
  refine hI3 _ _ _ ⟨_, _, _, cx 3 hB43, CondP.no (by rw [hx.n3]; simp) ?_⟩
  intro I4 hI4
  refine climb2 (α := World) a.classes.length (fun i w' => (∀ j, j < i → ∀ (hj : j < a.classes.length) (hj' : j < b.classes.length), a.classes[j] = b.classes[j]) ∧ Below w2.heap.size w2 w') (fun i w' => I4 [.int .i64 (i : Int), .bool false] w') w4 ⟨by simp, hB43⟩ ?_ ?_
  · rintro i hi ih w4 ⟨hok, hB4⟩
    refine hI4 _ _ _ ⟨_, _, _, cx 4 hB4, CondP.yes (by rw [hx.n4]; simp; omega) ?_⟩
    rintro w5 rfl
    have hB5 := hB4.drew
    have hi' : i < b.classes.length := by omega
    obtain ⟨p, hpa, _, hc⟩ := (hsx hB5).r4 i _ (List.getElem?_eq_getElem hi)
    obtain ⟨q, hqa, _, hd⟩ := (hsy hB5).r4 i _ (List.getElem?_eq_getElem hi')
    refine ⟨_, _, _, cx 4 hB5, NilC.mk p hpa ⟨by omega, by rw [hx.n4]; omega, a.classes[i].1, a.classes[i].2.1, a.classes[i].2.2, ⟨by have := hc 0 _ rfl; rwa [add_zero] at this, hc 1 _ rfl, hc 2 _ rfl, trivial⟩, ?_⟩⟩
    refine ⟨_, _, _, cy 4 hB5, NilC.mk q hqa ⟨by omega, by rw [hy.n4]; omega, b.classes[i].1, b.classes[i].2.1, b.classes[i].2.2, ⟨by have := hd 0 _ rfl; rwa [add_zero] at this, hd 1 _ rfl, hd 2 _ rfl, trivial⟩, ?_⟩⟩
    
    refine CondP.mk (fun hn => off hB5 ?_) (fun hn => Ar.ok64 (by omega) (by omega) (ih _ ⟨upto_succ hok fun hj hj' => ?_, hB5⟩))
    · rintro rfl
      simp at hn
    · simp at hn
      exact Prod.ext hn.1 (Prod.ext hn.2.1 hn.2.2)
  rintro w4 ⟨hok4, hB44⟩
  refine hI4 _ _ _ ⟨_, _, _, cx 4 hB44, CondP.no (by rw [hx.n4]; simp) ?_⟩
  intro I5 hI5
  refine climb2 (α := World) a.joins.length (fun i w' => (∀ j, j < i → ∀ (hj : j < a.joins.length) (hj' : j < b.joins.length), a.joins[j] = b.joins[j]) ∧ Below w2.heap.size w2 w') (fun i w' => I5 [.int .i64 (i : Int), .bool false] w') w4 ⟨by simp, hB44⟩ ?_ ?_
  · rintro i hi ih w4 ⟨hok, hB4⟩
    refine hI5 _ _ _ ⟨_, _, _, cx 5 hB4, CondP.yes (by rw [hx.n5]; simp; omega) ?_⟩
    rintro w5 rfl
    have hB5 := hB4.drew
    have hi' : i < b.joins.length := by omega
    obtain ⟨p, hpa, _, hc⟩ := (hsx hB5).r5 i _ (List.getElem?_eq_getElem hi)
    obtain ⟨q, hqa, _, hd⟩ := (hsy hB5).r5 i _ (List.getElem?_eq_getElem hi')
    refine ⟨_, _, _, cx 5 hB5, NilC.mk p hpa ⟨by omega, by rw [hx.n5]; omega, a.joins[i].1, a.joins[i].2, ⟨by have := hc 0 _ rfl; rwa [add_zero] at this, hc 1 _ rfl, trivial⟩, ?_⟩⟩
    refine ⟨_, _, _, cy 5 hB5, NilC.mk q hqa ⟨by omega, by rw [hy.n5]; omega, b.joins[i].1, b.joins[i].2, ⟨by have := hd 0 _ rfl; rwa [add_zero] at this, hd 1 _ rfl, trivial⟩, ?_⟩⟩
    
    refine CondP.mk (fun hn => off hB5 ?_) (fun hn => Ar.ok64 (by omega) (by omega) (ih _ ⟨upto_succ hok fun hj hj' => ?_, hB5⟩))
    · rintro rfl
      simp at hn
    · simp at hn
      exact Prod.ext hn.1 hn.2
  rintro w4 ⟨hok5, hB45⟩
  refine hI5 _ _ _ ⟨_, _, _, cx 5 hB45, CondP.no (by rw [hx.n5]; simp) ?_⟩
  refine ⟨?_, below_then hb hB45⟩
  rw [decide_eq_true]
  cases a
  cases b
  dsimp only at *
  rw [r0, list_eq_of l1 hok1, ht, list_eq_of l3 hok3, list_eq_of l4 hok4, list_eq_of l5 hok5]
end Go.Proofs.YtldgehlbicoedaaGreatDoor.Eng

/- The reference's Lines, walked by the engine. -/
set_option linter.unusedVariables false
set_option linter.unusedSimpArgs false
set_option maxRecDepth 100000
namespace Go.Proofs.YtldgehlbicoedaaGreatDoor.Eng
open Go Go.RowKit

/-- A spec that may be told: how much of it there is. -/
structure FitS (s : SpecV) : Prop where
  l1 : s.merges.length ≤ 10000
  l2 : s.tokens.length ≤ 10000
  l3 : s.specials.length ≤ 10000
  l4 : s.classes.length ≤ 10000
  l5 : s.joins.length ≤ 10000
  m1 : ∀ m ∈ s.merges, I64 m.1 ∧ I64 m.2
  m2 : ∀ t ∈ s.tokens, t.length ≤ 100000
  m3 : ∀ m ∈ s.specials, I64 m.1 ∧ m.2.length ≤ 100000
  m4 : ∀ m ∈ s.classes, I64 m.1 ∧ I64 m.2.1 ∧ I64 m.2.2
  m5 : ∀ m ∈ s.joins, I64 m.1 ∧ I64 m.2
theorem Rw.at {α : Type} {enc : α → List Value} {sz : Nat} {w : World} {a : Option Addr} {xs : List α} (h : Rw enc sz w a xs) {p : Addr} (hp : a = some p) {j : Nat} {x : α} (hj : xs[j]? = some x) (k : Nat) (v : Value) (hk : (enc x)[k]? = some v) : w.cell? ((p.add (j * sz)).add k) = some v := by
  obtain ⟨q, hq, _, hc⟩ := h j x hj
  rw [hp] at hq
  cases hq
  exact hc k v hk
theorem sz_ok (x y : ByteArray) (hx : x.size ≤ 3000000) (hy : y.size ≤ 3000000) : ((x.size + y.size : Nat) : Int) ≤ IntKind.i64.max := by
  show _ ≤ (9223372036854775807 : Int)
  omega
theorem cat1 (w a : Bs) : str (w ++ [32]) ++ str a = str (lineOf [w, a]) := by
  rw [str_append, lineOf_cons, lineOf_one, List.append_assoc]; rfl
theorem cat2 (w a b : Bs) : ((str (w ++ [32]) ++ str a) ++ str [32]) ++ str b = str (lineOf [w, a, b]) := by
  rw [str_append, str_append, str_append, lineOf_cons, lineOf_cons, lineOf_one]; simp
theorem cat3 (w a b c : Bs) : ((((str (w ++ [32]) ++ str a) ++ str [32]) ++ str b) ++ str [32]) ++ str c = str (lineOf [w, a, b, c]) := by
  rw [str_append, str_append, str_append, str_append, str_append, lineOf_cons, lineOf_cons, lineOf_cons, lineOf_one]; simp
theorem own_take_all {w : World} {B n : Nat} {v : Value} {α : Type} {pre : List Bs} {l : List α} {f : α → Bs} (h : w.ownsRow B tStr 1 v n (strVals (pre ++ (l.take l.length).map f))) : w.ownsRow B tStr 1 v n (strVals ((pre ++ l.map f) ++ [])) := by
  rw [List.take_length] at h
  rw [List.append_nil]
  exact h

theorem refLines_spec (x : SpecW) (s : SpecV) (w : World) (h : SpecAt w x s) (hf : FitS s) :
    Calls Tryz.prog 23 #[x.v] w fun e w' => ∃ a c, e = .returned (.slice a s.lines.length c) ∧ StrRow w' a s.lines ∧ Below w.heap.size w w' := by
  refine calls_ret (vc23_calls x.ranked x.s1.a x.s1.n x.s1.c x.s2.a x.s2.n x.s2.c x.s3.a x.s3.n x.s3.c x.s4.a x.s4.n x.s4.c x.s5.a x.s5.n x.s5.c w (fun v w' => ∃ a c, v = .slice a s.lines.length c ∧ StrRow w' a s.lines ∧ Below w.heap.size w w') ?_) (by rintro v w' ⟨a, c, rfl, h⟩; exact ⟨a, c, rfl, h⟩)
  obtain ⟨l1, l2, l3, l4, l5, m1, m2, m3, m4, m5⟩ := hf
  intro w1 hw1
  have hb1 : Below w.heap.size w w1 := by rw [hw1]; exact below_alloc _ _
  have c1 : ∀ {w3 : World} (j : Nat), Below w1.heap.size w1 w3 → w3.cell? ((nb w).add j) = x.cells[j]? := by
    intro w3 j hB
    rw [hw1] at hB
    rw [add_lit, Nat.zero_add, cell_kept hB]
  have hs : ∀ {w3 : World}, Below w1.heap.size w1 w3 → SpecAt w3 x s := fun hB => h.on (below_then hb1 hB)
  intro w2 hw2
  have hb2 : Below w1.heap.size w1 w2 := by rw [hw2]; exact below_alloc _ _
  intro J hJ
  have one : ∀ (u : Bs) (w0 w3 : World), Below w1.heap.size w1 w0 → w3 = w0.alloc (.cells #[.string (str u)] tStr) → w3.ownsRow w1.heap.size tStr 1 (.slice (some (nb w0)) 1 1) 1 (strVals [u]) := by
    rintro u w0 w3 hB rfl
    exact ⟨rfl, .inr ⟨w0.heap.size, 1, _, rfl, hB.size, alloc_new w0 _, Nat.le_refl _, by decide, rfl, rfl⟩⟩
  have tail : ∀ (a : Option Addr) (n c : Nat) (w3 : World), w3.ownsRow w1.heap.size tStr 1 (.slice a n c) n (strVals ([headL s.ranked] ++ [])) → Below w1.heap.size w1 w3 → J [.slice a n c] w3 := by
    intro a0 n0 c0 w3 hown0 hB0
    refine hJ _ _ _ _ ?_
    intro I1 hI1
    refine climb2 (α := Option Addr × Nat × Nat × World) s.merges.length (fun i y => y.2.2.2.ownsRow w1.heap.size tStr 1 (.slice y.1 y.2.1 y.2.2.1) y.2.1 (strVals ([headL s.ranked] ++ (s.merges.take i).map mergeL)) ∧ Below w1.heap.size w1 y.2.2.2) (fun i y => I1 [.int .i64 (i : Int), .slice y.1 y.2.1 y.2.2.1] y.2.2.2) (a0, n0, c0, w3) ⟨hown0, hB0⟩ ?_ ?_
    · rintro i hi ih ⟨oA, oN, oC, w4⟩ ⟨hown, hB⟩
      dsimp only at hown hB
      have hok := m1 _ (List.getElem_mem hi)
      have hi? := List.getElem?_eq_getElem hi
      refine hI1 _ _ _ _ _ ⟨_, _, _, c1 1 hB, CondP.yes (by rw [h.n1]; simp; omega) ?_⟩
      rintro w5 rfl
      have hb5 : Below w4.heap.size w4 w4.drew := (Below.refl _ _).drew
      have hB5 := hB.trans (hb5.mono hB.size)
      obtain ⟨p, hpa, _, _⟩ := (hs hB5).r1 i _ hi?
      refine ⟨_, _, _, c1 1 hB5, NilC.mk p hpa ⟨by omega, by rw [h.n1]; omega, s.merges[i].1, (hs hB5).r1.at hpa hi? 0 _ rfl, ?_⟩⟩
      refine ⟨_, _, _, c1 1 hB5, NilC.mk p hpa ⟨by omega, by rw [h.n1]; omega, s.merges[i].2, (hs hB5).r1.at hpa hi? 1 _ rfl, ?_⟩⟩
      have hlit : (⟨#[109, 101, 114, 103, 101, 32]⟩ : ByteArray).size = 6 := rfl
      have hsp : (⟨#[32]⟩ : ByteArray).size = 1 := rfl
      have hlen0 := itoa_length s.merges[i].1 hok.1
      have hlen1 := itoa_length s.merges[i].2 hok.2
      refine (refNumber_spec s.merges[i].1 _ hok.1).mono ?_
      rintro e w6 ⟨rfl, h6⟩
      have hb6 := below_then hb5 h6
      have hB6 := hB.trans (hb6.mono hB.size)
      refine ⟨_, rfl, ⟨(hs hB6).r1.at hpa hi? 1 _ rfl, trivial⟩, ⟨c1 1 hB6, trivial⟩, sz_ok _ _ (by simp only [ByteArray.size_append, str_size, hlit, hsp]; omega) (by simp only [ByteArray.size_append, str_size, hlit, hsp]; omega), sz_ok _ _ (by simp only [ByteArray.size_append, str_size, hlit, hsp]; omega) (by simp only [ByteArray.size_append, str_size, hlit, hsp]; omega), ?_⟩
      refine (refNumber_spec s.merges[i].2 _ hok.2).mono ?_
      rintro e w7 ⟨rfl, h7⟩
      have hb7 := below_then hb6 h7
      have hB7 := hB.trans (hb7.mono hB.size)
      refine ⟨_, rfl, sz_ok _ _ (by simp only [ByteArray.size_append, str_size, hlit, hsp]; omega) (by simp only [ByteArray.size_append, str_size, hlit, hsp]; omega), ?_⟩
      have hcat := cat2 wMerge (Lib.itoa s.merges[i].1) (Lib.itoa s.merges[i].2)
      intro w20 hw20
      have hw20 : w20 = w7.alloc (.cells #[.string (str (mergeL s.merges[i]))] tStr) := by rw [hw20]; exact congrArg (fun z => w7.alloc (.cells #[Value.string z] tStr)) hcat
      subst hw20
      have hn := (StrRow.of_own hown).2.1
      simp only [List.length_append, List.length_map, List.length_take, List.length_cons, List.length_nil] at hn
      obtain ⟨a', c', w21, hr, hown', hbel⟩ := push_str (own_on hown hb7) (mergeL s.merges[i]) (by simp only [List.length_append, List.length_map, List.length_take, List.length_cons, List.length_nil]; omega) hB7.size
      refine ⟨a', _, c', w21, hr, Ar.ok64 (by omega) (by omega) (ih (a', oN + 1, c', w21) ⟨?_, hbel _ hB7⟩)⟩
      rw [take_snoc mergeL _ _ hi, ← List.append_assoc]
      exact hown'
    rintro ⟨ra1, rn1, rc1, w4⟩ ⟨hown1, hB10⟩
    replace hown1 := own_take_all hown1
    dsimp only at hown1 hB10
    refine hI1 _ _ _ _ _ ⟨_, _, _, c1 1 hB10, CondP.no (by rw [h.n1]; simp) ?_⟩
    intro I2 hI2
    refine climb2 (α := Option Addr × Nat × Nat × World) s.tokens.length (fun i y => y.2.2.2.ownsRow w1.heap.size tStr 1 (.slice y.1 y.2.1 y.2.2.1) y.2.1 (strVals (([headL s.ranked] ++ s.merges.map mergeL) ++ (s.tokens.take i).map tokenL)) ∧ Below w1.heap.size w1 y.2.2.2) (fun i y => I2 [.int .i64 (i : Int), .slice y.1 y.2.1 y.2.2.1] y.2.2.2) (ra1, rn1, rc1, w4) ⟨hown1, hB10⟩ ?_ ?_
    · rintro i hi ih ⟨oA, oN, oC, w4⟩ ⟨hown, hB⟩
      dsimp only at hown hB
      have hok := m2 _ (List.getElem_mem hi)
      have hi? := List.getElem?_eq_getElem hi
      refine hI2 _ _ _ _ _ ⟨_, _, _, c1 2 hB, CondP.yes (by rw [h.n2]; simp; omega) ?_⟩
      have hb5 : Below w4.heap.size w4 w4 := Below.refl _ _
      have hB5 := hB.trans (hb5.mono hB.size)
      obtain ⟨p, hpa, _, _⟩ := (hs hB5).r2 i _ hi?
      refine ⟨_, _, _, c1 2 hB5, NilC.mk p hpa ⟨by omega, by rw [h.n2]; omega, str s.tokens[i], by have := (hs hB5).r2.at hpa hi? 0 _ rfl; rwa [add_zero] at this, ?_⟩⟩
      have hlit : (⟨#[116, 111, 107, 101, 110, 32]⟩ : ByteArray).size = 6 := rfl
      have hsp : (⟨#[32]⟩ : ByteArray).size = 1 := rfl
      have hlen0 := hexT_length s.tokens[i]
      have hokl := hok
      refine (refHex_spec s.tokens[i] _ (by omega)).mono ?_
      rintro e w6 ⟨rfl, h6⟩
      have hb6 := below_then hb5 h6
      have hB6 := hB.trans (hb6.mono hB.size)
      refine ⟨_, rfl, sz_ok _ _ (by simp only [ByteArray.size_append, str_size, hlit, hsp]; omega) (by simp only [ByteArray.size_append, str_size, hlit, hsp]; omega), ?_⟩
      have hcat := cat1 wToken (hexT s.tokens[i])
      intro w20 hw20
      have hw20 : w20 = w6.alloc (.cells #[.string (str (tokenL s.tokens[i]))] tStr) := by rw [hw20]; exact congrArg (fun z => w6.alloc (.cells #[Value.string z] tStr)) hcat
      subst hw20
      have hn := (StrRow.of_own hown).2.1
      simp only [List.length_append, List.length_map, List.length_take, List.length_cons, List.length_nil] at hn
      obtain ⟨a', c', w21, hr, hown', hbel⟩ := push_str (own_on hown hb6) (tokenL s.tokens[i]) (by simp only [List.length_append, List.length_map, List.length_take, List.length_cons, List.length_nil]; omega) hB6.size
      refine ⟨a', _, c', w21, hr, Ar.ok64 (by omega) (by omega) (ih (a', oN + 1, c', w21) ⟨?_, hbel _ hB6⟩)⟩
      rw [take_snoc tokenL _ _ hi, ← List.append_assoc]
      exact hown'
    rintro ⟨ra2, rn2, rc2, w4⟩ ⟨hown2, hB20⟩
    replace hown2 := own_take_all hown2
    dsimp only at hown2 hB20
    refine hI2 _ _ _ _ _ ⟨_, _, _, c1 2 hB20, CondP.no (by rw [h.n2]; simp) ?_⟩
    intro I3 hI3
    refine climb2 (α := Option Addr × Nat × Nat × World) s.specials.length (fun i y => y.2.2.2.ownsRow w1.heap.size tStr 1 (.slice y.1 y.2.1 y.2.2.1) y.2.1 (strVals ((([headL s.ranked] ++ s.merges.map mergeL) ++ s.tokens.map tokenL) ++ (s.specials.take i).map specialL)) ∧ Below w1.heap.size w1 y.2.2.2) (fun i y => I3 [.int .i64 (i : Int), .slice y.1 y.2.1 y.2.2.1] y.2.2.2) (ra2, rn2, rc2, w4) ⟨hown2, hB20⟩ ?_ ?_
    · rintro i hi ih ⟨oA, oN, oC, w4⟩ ⟨hown, hB⟩
      dsimp only at hown hB
      have hok := m3 _ (List.getElem_mem hi)
      have hi? := List.getElem?_eq_getElem hi
      refine hI3 _ _ _ _ _ ⟨_, _, _, c1 3 hB, CondP.yes (by rw [h.n3]; simp; omega) ?_⟩
      rintro w5 rfl
      have hb5 : Below w4.heap.size w4 w4.drew := (Below.refl _ _).drew
      have hB5 := hB.trans (hb5.mono hB.size)
      obtain ⟨p, hpa, _, _⟩ := (hs hB5).r3 i _ hi?
      refine ⟨_, _, _, c1 3 hB5, NilC.mk p hpa ⟨by omega, by rw [h.n3]; omega, s.specials[i].1, (hs hB5).r3.at hpa hi? 0 _ rfl, ?_⟩⟩
      refine ⟨_, _, _, c1 3 hB5, NilC.mk p hpa ⟨by omega, by rw [h.n3]; omega, str s.specials[i].2, (hs hB5).r3.at hpa hi? 1 _ rfl, ?_⟩⟩
      have hlit : (⟨#[115, 112, 101, 99, 105, 97, 108, 32]⟩ : ByteArray).size = 8 := rfl
      have hsp : (⟨#[32]⟩ : ByteArray).size = 1 := rfl
      have hlen0 := itoa_length s.specials[i].1 hok.1
      have hlen1 := hexT_length s.specials[i].2
      have hokl := hok.2
      refine (refNumber_spec s.specials[i].1 _ hok.1).mono ?_
      rintro e w6 ⟨rfl, h6⟩
      have hb6 := below_then hb5 h6
      have hB6 := hB.trans (hb6.mono hB.size)
      refine ⟨_, rfl, ⟨(hs hB6).r3.at hpa hi? 1 _ rfl, trivial⟩, ⟨c1 3 hB6, trivial⟩, sz_ok _ _ (by simp only [ByteArray.size_append, str_size, hlit, hsp]; omega) (by simp only [ByteArray.size_append, str_size, hlit, hsp]; omega), sz_ok _ _ (by simp only [ByteArray.size_append, str_size, hlit, hsp]; omega) (by simp only [ByteArray.size_append, str_size, hlit, hsp]; omega), ?_⟩
      refine (refHex_spec s.specials[i].2 _ (by omega)).mono ?_
      rintro e w7 ⟨rfl, h7⟩
      have hb7 := below_then hb6 h7
      have hB7 := hB.trans (hb7.mono hB.size)
      refine ⟨_, rfl, sz_ok _ _ (by simp only [ByteArray.size_append, str_size, hlit, hsp]; omega) (by simp only [ByteArray.size_append, str_size, hlit, hsp]; omega), ?_⟩
      have hcat := cat2 wSpecial (Lib.itoa s.specials[i].1) (hexT s.specials[i].2)
      intro w20 hw20
      have hw20 : w20 = w7.alloc (.cells #[.string (str (specialL s.specials[i]))] tStr) := by rw [hw20]; exact congrArg (fun z => w7.alloc (.cells #[Value.string z] tStr)) hcat
      subst hw20
      have hn := (StrRow.of_own hown).2.1
      simp only [List.length_append, List.length_map, List.length_take, List.length_cons, List.length_nil] at hn
      obtain ⟨a', c', w21, hr, hown', hbel⟩ := push_str (own_on hown hb7) (specialL s.specials[i]) (by simp only [List.length_append, List.length_map, List.length_take, List.length_cons, List.length_nil]; omega) hB7.size
      refine ⟨a', _, c', w21, hr, Ar.ok64 (by omega) (by omega) (ih (a', oN + 1, c', w21) ⟨?_, hbel _ hB7⟩)⟩
      rw [take_snoc specialL _ _ hi, ← List.append_assoc]
      exact hown'
    rintro ⟨ra3, rn3, rc3, w4⟩ ⟨hown3, hB30⟩
    replace hown3 := own_take_all hown3
    dsimp only at hown3 hB30
    refine hI3 _ _ _ _ _ ⟨_, _, _, c1 3 hB30, CondP.no (by rw [h.n3]; simp) ?_⟩
    intro I4 hI4
    refine climb2 (α := Option Addr × Nat × Nat × World) s.classes.length (fun i y => y.2.2.2.ownsRow w1.heap.size tStr 1 (.slice y.1 y.2.1 y.2.2.1) y.2.1 (strVals (((([headL s.ranked] ++ s.merges.map mergeL) ++ s.tokens.map tokenL) ++ s.specials.map specialL) ++ (s.classes.take i).map classL)) ∧ Below w1.heap.size w1 y.2.2.2) (fun i y => I4 [.int .i64 (i : Int), .slice y.1 y.2.1 y.2.2.1] y.2.2.2) (ra3, rn3, rc3, w4) ⟨hown3, hB30⟩ ?_ ?_
    · rintro i hi ih ⟨oA, oN, oC, w4⟩ ⟨hown, hB⟩
      dsimp only at hown hB
      have hok := m4 _ (List.getElem_mem hi)
      have hi? := List.getElem?_eq_getElem hi
      refine hI4 _ _ _ _ _ ⟨_, _, _, c1 4 hB, CondP.yes (by rw [h.n4]; simp; omega) ?_⟩
      rintro w5 rfl
      have hb5 : Below w4.heap.size w4 w4.drew := (Below.refl _ _).drew
      have hB5 := hB.trans (hb5.mono hB.size)
      obtain ⟨p, hpa, _, _⟩ := (hs hB5).r4 i _ hi?
      refine ⟨_, _, _, c1 4 hB5, NilC.mk p hpa ⟨by omega, by rw [h.n4]; omega, s.classes[i].1, (hs hB5).r4.at hpa hi? 0 _ rfl, ?_⟩⟩
      refine ⟨_, _, _, c1 4 hB5, NilC.mk p hpa ⟨by omega, by rw [h.n4]; omega, s.classes[i].2.1, (hs hB5).r4.at hpa hi? 1 _ rfl, ?_⟩⟩
      refine ⟨_, _, _, c1 4 hB5, NilC.mk p hpa ⟨by omega, by rw [h.n4]; omega, s.classes[i].2.2, (hs hB5).r4.at hpa hi? 2 _ rfl, ?_⟩⟩
      have hlit : (⟨#[99, 108, 97, 115, 115, 32]⟩ : ByteArray).size = 6 := rfl
      have hsp : (⟨#[32]⟩ : ByteArray).size = 1 := rfl
      have hlen0 := itoa_length s.classes[i].1 hok.1
      have hlen1 := itoa_length s.classes[i].2.1 hok.2.1
      have hlen2 := itoa_length s.classes[i].2.2 hok.2.2
      refine (refNumber_spec s.classes[i].1 _ hok.1).mono ?_
      rintro e w6 ⟨rfl, h6⟩
      have hb6 := below_then hb5 h6
      have hB6 := hB.trans (hb6.mono hB.size)
      refine ⟨_, rfl, ⟨(hs hB6).r4.at hpa hi? 2 _ rfl, trivial⟩, ⟨c1 4 hB6, trivial⟩, ⟨(hs hB6).r4.at hpa hi? 1 _ rfl, trivial⟩, ⟨c1 4 hB6, trivial⟩, sz_ok _ _ (by simp only [ByteArray.size_append, str_size, hlit, hsp]; omega) (by simp only [ByteArray.size_append, str_size, hlit, hsp]; omega), sz_ok _ _ (by simp only [ByteArray.size_append, str_size, hlit, hsp]; omega) (by simp only [ByteArray.size_append, str_size, hlit, hsp]; omega), ?_⟩
      refine (refNumber_spec s.classes[i].2.1 _ hok.2.1).mono ?_
      rintro e w7 ⟨rfl, h7⟩
      have hb7 := below_then hb6 h7
      have hB7 := hB.trans (hb7.mono hB.size)
      refine ⟨_, rfl, ⟨(hs hB7).r4.at hpa hi? 2 _ rfl, trivial⟩, ⟨c1 4 hB7, trivial⟩, sz_ok _ _ (by simp only [ByteArray.size_append, str_size, hlit, hsp]; omega) (by simp only [ByteArray.size_append, str_size, hlit, hsp]; omega), sz_ok _ _ (by simp only [ByteArray.size_append, str_size, hlit, hsp]; omega) (by simp only [ByteArray.size_append, str_size, hlit, hsp]; omega), ?_⟩
      refine (refNumber_spec s.classes[i].2.2 _ hok.2.2).mono ?_
      rintro e w8 ⟨rfl, h8⟩
      have hb8 := below_then hb7 h8
      have hB8 := hB.trans (hb8.mono hB.size)
      refine ⟨_, rfl, sz_ok _ _ (by simp only [ByteArray.size_append, str_size, hlit, hsp]; omega) (by simp only [ByteArray.size_append, str_size, hlit, hsp]; omega), ?_⟩
      have hcat := cat3 wClass (Lib.itoa s.classes[i].1) (Lib.itoa s.classes[i].2.1) (Lib.itoa s.classes[i].2.2)
      intro w20 hw20
      have hw20 : w20 = w8.alloc (.cells #[.string (str (classL s.classes[i]))] tStr) := by rw [hw20]; exact congrArg (fun z => w8.alloc (.cells #[Value.string z] tStr)) hcat
      subst hw20
      have hn := (StrRow.of_own hown).2.1
      simp only [List.length_append, List.length_map, List.length_take, List.length_cons, List.length_nil] at hn
      obtain ⟨a', c', w21, hr, hown', hbel⟩ := push_str (own_on hown hb8) (classL s.classes[i]) (by simp only [List.length_append, List.length_map, List.length_take, List.length_cons, List.length_nil]; omega) hB8.size
      refine ⟨a', _, c', w21, hr, Ar.ok64 (by omega) (by omega) (ih (a', oN + 1, c', w21) ⟨?_, hbel _ hB8⟩)⟩
      rw [take_snoc classL _ _ hi, ← List.append_assoc]
      exact hown'
    rintro ⟨ra4, rn4, rc4, w4⟩ ⟨hown4, hB40⟩
    replace hown4 := own_take_all hown4
    dsimp only at hown4 hB40
    refine hI4 _ _ _ _ _ ⟨_, _, _, c1 4 hB40, CondP.no (by rw [h.n4]; simp) ?_⟩
    intro I5 hI5
    refine climb2 (α := Option Addr × Nat × Nat × World) s.joins.length (fun i y => y.2.2.2.ownsRow w1.heap.size tStr 1 (.slice y.1 y.2.1 y.2.2.1) y.2.1 (strVals ((((([headL s.ranked] ++ s.merges.map mergeL) ++ s.tokens.map tokenL) ++ s.specials.map specialL) ++ s.classes.map classL) ++ (s.joins.take i).map joinL)) ∧ Below w1.heap.size w1 y.2.2.2) (fun i y => I5 [.int .i64 (i : Int), .slice y.1 y.2.1 y.2.2.1] y.2.2.2) (ra4, rn4, rc4, w4) ⟨hown4, hB40⟩ ?_ ?_
    · rintro i hi ih ⟨oA, oN, oC, w4⟩ ⟨hown, hB⟩
      dsimp only at hown hB
      have hok := m5 _ (List.getElem_mem hi)
      have hi? := List.getElem?_eq_getElem hi
      refine hI5 _ _ _ _ _ ⟨_, _, _, c1 5 hB, CondP.yes (by rw [h.n5]; simp; omega) ?_⟩
      rintro w5 rfl
      have hb5 : Below w4.heap.size w4 w4.drew := (Below.refl _ _).drew
      have hB5 := hB.trans (hb5.mono hB.size)
      obtain ⟨p, hpa, _, _⟩ := (hs hB5).r5 i _ hi?
      refine ⟨_, _, _, c1 5 hB5, NilC.mk p hpa ⟨by omega, by rw [h.n5]; omega, s.joins[i].1, (hs hB5).r5.at hpa hi? 0 _ rfl, ?_⟩⟩
      refine ⟨_, _, _, c1 5 hB5, NilC.mk p hpa ⟨by omega, by rw [h.n5]; omega, s.joins[i].2, (hs hB5).r5.at hpa hi? 1 _ rfl, ?_⟩⟩
      have hlit : (⟨#[106, 111, 105, 110, 32]⟩ : ByteArray).size = 5 := rfl
      have hsp : (⟨#[32]⟩ : ByteArray).size = 1 := rfl
      have hlen0 := itoa_length s.joins[i].1 hok.1
      have hlen1 := itoa_length s.joins[i].2 hok.2
      refine (refNumber_spec s.joins[i].1 _ hok.1).mono ?_
      rintro e w6 ⟨rfl, h6⟩
      have hb6 := below_then hb5 h6
      have hB6 := hB.trans (hb6.mono hB.size)
      refine ⟨_, rfl, ⟨(hs hB6).r5.at hpa hi? 1 _ rfl, trivial⟩, ⟨c1 5 hB6, trivial⟩, sz_ok _ _ (by simp only [ByteArray.size_append, str_size, hlit, hsp]; omega) (by simp only [ByteArray.size_append, str_size, hlit, hsp]; omega), sz_ok _ _ (by simp only [ByteArray.size_append, str_size, hlit, hsp]; omega) (by simp only [ByteArray.size_append, str_size, hlit, hsp]; omega), ?_⟩
      refine (refNumber_spec s.joins[i].2 _ hok.2).mono ?_
      rintro e w7 ⟨rfl, h7⟩
      have hb7 := below_then hb6 h7
      have hB7 := hB.trans (hb7.mono hB.size)
      refine ⟨_, rfl, sz_ok _ _ (by simp only [ByteArray.size_append, str_size, hlit, hsp]; omega) (by simp only [ByteArray.size_append, str_size, hlit, hsp]; omega), ?_⟩
      have hcat := cat2 wJoin (Lib.itoa s.joins[i].1) (Lib.itoa s.joins[i].2)
      intro w20 hw20
      have hw20 : w20 = w7.alloc (.cells #[.string (str (joinL s.joins[i]))] tStr) := by rw [hw20]; exact congrArg (fun z => w7.alloc (.cells #[Value.string z] tStr)) hcat
      subst hw20
      have hn := (StrRow.of_own hown).2.1
      simp only [List.length_append, List.length_map, List.length_take, List.length_cons, List.length_nil] at hn
      obtain ⟨a', c', w21, hr, hown', hbel⟩ := push_str (own_on hown hb7) (joinL s.joins[i]) (by simp only [List.length_append, List.length_map, List.length_take, List.length_cons, List.length_nil]; omega) hB7.size
      refine ⟨a', _, c', w21, hr, Ar.ok64 (by omega) (by omega) (ih (a', oN + 1, c', w21) ⟨?_, hbel _ hB7⟩)⟩
      rw [take_snoc joinL _ _ hi, ← List.append_assoc]
      exact hown'
    rintro ⟨ra5, rn5, rc5, w4⟩ ⟨hown5, hB50⟩
    replace hown5 := own_take_all hown5
    dsimp only at hown5 hB50
    refine hI5 _ _ _ _ _ ⟨_, _, _, c1 5 hB50, CondP.no (by rw [h.n5]; simp) ?_⟩
    have hlines : ((((([headL s.ranked] ++ s.merges.map mergeL) ++ s.tokens.map tokenL) ++ s.specials.map specialL) ++ s.classes.map classL) ++ s.joins.map joinL) ++ [] = s.lines := by
      simp [SpecV.lines, SpecV.tail]
    rw [hlines] at hown5
    obtain ⟨g1, g2, _⟩ := StrRow.of_own hown5
    exact ⟨ra5, rc5, by rw [g2], g1, below_then hb1 hB50⟩
  refine ⟨_, c1 0 hb2, CondP.mk ?_ ?_⟩
  · intro hk
    have hk : s.ranked = true := by rw [← h.ranked]; exact hk
    intro w33 hw33
    have e : headL s.ranked = [118, 111, 99, 97, 98, 32, 114, 97, 110, 107, 115] := by rw [hk]; rfl
    refine tail _ _ _ _ ?_ (hb2.trans (by rw [hw33]; exact (below_alloc w2 _).mono hb2.size))
    rw [e]
    exact one _ w2 w33 hb2 hw33
  · intro hk
    have hk : s.ranked = false := by rw [← h.ranked]; exact hk
    have e : headL s.ranked = [118, 111, 99, 97, 98, 32, 109, 101, 114, 103, 101, 115] := by rw [hk]; rfl
    refine tail _ _ _ _ ?_ hb2
    rw [e]
    exact one _ w1 w2 (Below.refl _ _) hw2
end Go.Proofs.YtldgehlbicoedaaGreatDoor.Eng

/- The reference's Print, and the pieces of its Parse, walked by the engine. -/
set_option linter.unusedVariables false
set_option linter.unusedSimpArgs false
set_option maxRecDepth 100000
namespace Go.Proofs.YtldgehlbicoedaaGreatDoor.Eng
open Go Go.RowKit

abbrev undB8 : Tryz.prog.underlying tBytes = some (.slice tU8) := undBytes
theorem refPrint_spec (x : SpecW) (s : SpecV) (w : World) (h : SpecAt w x s) (hf : FitS s) (hsm : ∀ l ∈ s.lines, l.length ≤ 10000) :
    Calls Tryz.prog 16 #[x.v] w fun e w' => e = .returned (.string (str s.text)) ∧ Below w.heap.size w w' := by
  refine calls_ret (vc16_calls x.ranked x.s1.a x.s1.n x.s1.c x.s2.a x.s2.n x.s2.c x.s3.a x.s3.n x.s3.c x.s4.a x.s4.n x.s4.c x.s5.a x.s5.n x.s5.c w (fun v w' => v = .string (str s.text) ∧ Below w.heap.size w w') ?_) (by rintro v w' ⟨rfl, h⟩; exact ⟨rfl, h⟩)
  intro w1 hw1
  have hb1 : Below w.heap.size w w1 := by rw [hw1]; exact below_alloc _ _
  have c1 : ∀ {w3 : World} (j : Nat), Below w1.heap.size w1 w3 → w3.cell? ((nb w).add j) = x.cells[j]? := by
    intro w3 j hB
    rw [hw1] at hB
    rw [add_lit, Nat.zero_add, cell_kept hB]
  have hrefl := Below.refl w1.heap.size w1
  refine ⟨x.ranked, _, _, _, _, _, _, _, _, _, _, _, _, _, _, _, ⟨(by have := c1 0 hrefl; rw [add_zero] at this; exact this), c1 1 hrefl, c1 2 hrefl, c1 3 hrefl, c1 4 hrefl, c1 5 hrefl, trivial⟩, ?_⟩
  refine (refLines_spec x s w1 (h.on hb1) hf).mono ?_
  rintro e w2 ⟨a, c, rfl, hrow, h2⟩
  have hb2 := below_then hb1 h2
  refine ⟨_, _, _, rfl, ?_⟩
  intro w3 hw3 I hI
  have hb3 : Below w2.heap.size w2 w3 := by rw [hw3]; exact below_alloc _ _
  have hcnt : s.lines.length ≤ 60000 := by
    obtain ⟨l1, l2, l3, l4, l5, _⟩ := hf
    simp only [SpecV.lines, SpecV.tail, List.length_cons, List.length_append, List.length_map]
    omega
  have hlen : ∀ i, (textOf (s.lines.take i)).length ≤ 700000000 := by
    intro i
    have := textOf_length (s.lines.take i) (fun l hl => hsm l (List.mem_of_mem_take hl))
    have h2 : (s.lines.take i).length ≤ 60000 := by rw [List.length_take]; omega
    omega
  refine climb2 (α := Option Addr × Nat × Nat × World) s.lines.length (fun i y => y.2.2.2.ownsRow w2.heap.size tU8 1 (.slice y.1 y.2.1 y.2.2.1) y.2.1 (Lib.byteCells (textOf (s.lines.take i))) ∧ Below w2.heap.size w2 y.2.2.2) (fun i y => I [.int .i64 (i : Int), .slice y.1 y.2.1 y.2.2.1] y.2.2.2) (some (nb w2), 0, 0, w3) ⟨?_, hb3⟩ ?_ ?_
  · exact ⟨rfl, .inr ⟨w2.heap.size, 0, _, rfl, Nat.le_refl _, by rw [hw3]; exact alloc_new w2 _, Nat.le_refl _, by decide, rfl, rfl⟩⟩
  · rintro i hi ih ⟨oA, oN, oC, w4⟩ ⟨hown, hB⟩
    dsimp only at hown hB
    refine hI _ _ _ _ _ (CondP.yes (by simp; omega) ?_)
    obtain ⟨p, hpa, _, hcp⟩ := (hrow.on hB) i _ (List.getElem?_eq_getElem hi)
    refine NilC.mk p hpa ⟨by omega, by omega, str s.lines[i], by simpa using hcp, ?_⟩
    obtain ⟨k, hi', hz, hs, hby⟩ := info_parts infoU8
    have hn := hown.1
    rw [Lib.byteCells_length, Nat.mul_one] at hn
    have hl0 := hlen i
    have hl1 := hlen (i + 1)
    have hll := hsm _ (List.getElem_mem hi)
    have hstep : textOf (s.lines.take (i + 1)) = textOf (s.lines.take i) ++ (s.lines[i] ++ [10]) := by
      rw [List.take_add_one, List.getElem?_eq_getElem hi]
      exact textOf_snoc _ _
    obtain ⟨v', w5, hr, hown5, hg, _⟩ := Lib.run_append_own_string (P := Tryz.prog) w4 w2.heap.size tBytes tStr tBytes tU8 k undBytes undStr hi' hz hs hby _ _ _ hown (str s.lines[i]) (by rw [str_size]; simp [maxLen]; omega) (by rw [str_size]; omega) hB.size
    obtain ⟨a', c', rfl, _⟩ := own_form hown5
    have hB5 : Below w2.heap.size w2 w5 := hB.grown hg hB.size fun k hk => (own_lt hown k hk).1
    refine ⟨a', _, c', w5, hr, ?_⟩
    intro w6 hw6
    obtain ⟨a2, c2, w7, hr2, hown7, hg7, _⟩ := run_push (P := Tryz.prog) tBytes tU8 undBytes infoU8 rfl (by decide) hown5 [.int .u8 10] rfl (by intro u hu; simp at hu; subst hu; rfl) (by rw [str_size]; omega) (by rw [str_size]; omega) hB5.size
    refine ⟨a2, _, c2, w7, by rw [hw6]; exact hr2, Ar.ok64 (by omega) (by omega) ?_⟩
    refine ih (a2, _, c2, w7) ⟨?_, below_push hB5 hown5 hg7 hB5.size⟩
    have e : Lib.byteCells (textOf (s.lines.take i)) ++ Lib.strCells (str s.lines[i]) ++ [.int .u8 10] = Lib.byteCells (textOf (s.lines.take (i + 1))) := by
      rw [hstep, Lib.strCells_toArray]; simp [Lib.byteCells]
    rw [e] at hown7
    exact hown7
  · rintro ⟨oA, oN, oC, w4⟩ ⟨hown, hB⟩
    dsimp only at hown hB
    refine hI _ _ _ _ _ (CondP.no (by simp) ?_)
    rw [List.take_length] at hown
    exact ⟨_, w4, run_str_own undBytes undU8 undStr hown, rfl, below_then hb2 hB⟩

/-! ### Pieces of Parse -/
/-- A spec's words are stored, read again, and handed on. -/
theorem ret_specK {w w6 : World} {c : Array Value} {T : TypeId} (K : SpecW → World → Prop) (x : SpecW) (hblk : w6.heap[w.heap.size]? = some (.cells c T (0, 0))) (hc : c.size = 6)
    (hR : ∀ w7, (∀ w0, Below w.heap.size w0 w6 → Below w.heap.size w0 w7) → (∀ j, j ≠ w.heap.size → w7.heap[j]? = w6.heap[j]?) → K x w7) :
    StoreP w6 (nb w) (fun w7 =>
      ∃ res0 : Bool, ∃ res1A : Option Addr, ∃ res1N : Nat, ∃ res1C : Nat, ∃ res2A : Option Addr, ∃ res2N : Nat, ∃ res2C : Nat, ∃ res3A : Option Addr, ∃ res3N : Nat, ∃ res3C : Nat, ∃ res4A : Option Addr, ∃ res4N : Nat, ∃ res4C : Nat, ∃ res5A : Option Addr, ∃ res5N : Nat, ∃ res5C : Nat, (w7.cell? (nb w) = some (Value.bool res0) ∧ w7.cell? ((nb w).add 1) = some (Value.slice res1A res1N res1C) ∧ w7.cell? ((nb w).add 2) = some (Value.slice res2A res2N res2C) ∧ w7.cell? ((nb w).add 3) = some (Value.slice res3A res3N res3C) ∧ w7.cell? ((nb w).add 4) = some (Value.slice res4A res4N res4C) ∧ w7.cell? ((nb w).add 5) = some (Value.slice res5A res5N res5C) ∧ True) ∧
      K ⟨res0, ⟨res1A, res1N, res1C⟩, ⟨res2A, res2N, res2C⟩, ⟨res3A, res3N, res3C⟩, ⟨res4A, res4N, res4C⟩, ⟨res5A, res5N, res5C⟩⟩ w7)
      [Value.bool x.ranked, Value.slice x.s1.a x.s1.n x.s1.c, Value.slice x.s2.a x.s2.n x.s2.c, Value.slice x.s3.a x.s3.n x.s3.c, Value.slice x.s4.a x.s4.n x.s4.c, Value.slice x.s5.a x.s5.n x.s5.c] 0 := by
  refine storeP_block _ 0 w6 c 0 hblk (by simp [hc]) (by intro v hv; simp at hv; rcases hv with rfl | rfl | rfl | rfl | rfl | rfl <;> rfl) ?_
  intro w7 h7 hne hsz hB
  have h7' : w7.heap[w.heap.size]? = some (.cells x.cells T (0, 0)) := by
    rw [h7]
    congr 2
    simp [layAt, hc]
  have c0 : w7.cell? (nb w) = some (Value.bool x.ranked) := by have := cell_put (j := 0) h7'; rw [add_zero] at this; exact this.trans rfl
  exact ⟨x.ranked, _, _, _, _, _, _, _, _, _, _, _, _, _, _, _, ⟨c0, (cell_put (j := 1) h7').trans rfl, (cell_put (j := 2) h7').trans rfl, (cell_put (j := 3) h7').trans rfl, (cell_put (j := 4) h7').trans rfl, (cell_put (j := 5) h7').trans rfl, trivial⟩, hR w7 (fun w0 h => hB _ w0 (Nat.le_refl _) h) hne⟩
/-- A value that no struct's cell of a spec is. -/
def Solid (v : Value) : Prop := (∃ k n, v = .int k n) ∨ ∃ s, v = .string s
theorem cell_mem {w : World} {p : Addr} {v : Value} {c : Array Value} {T : TypeId} {fz : Nat × Nat} (h : w.heap[p.block]? = some (.cells c T fz)) (hc : w.cell? p = some v) : v ∈ c := by
  unfold World.cell? at hc
  rw [h] at hc
  dsimp only at hc
  split at hc
  · cases hc
  · exact Array.mem_of_getElem? hc
theorem spec_cells_soft (x : SpecW) : ∀ v ∈ x.cells, ¬ Solid v := by
  intro v hv hs
  simp at hv
  rcases hs with ⟨k, n, rfl⟩ | ⟨s, rfl⟩ <;> simp at hv
theorem Rw.past {α : Type} {enc : α → List Value} {sz : Nat} {w w' : World} {b : Nat} {c : Array Value} {T : TypeId} {fz : Nat × Nat} {a : Option Addr} {xs : List α} (h : Rw enc sz w a xs) (henc : ∀ x, ∃ v, (enc x)[0]? = some v ∧ Solid v) (hb : w.heap[b]? = some (.cells c T fz)) (hc : ∀ v ∈ c, ¬ Solid v)
    (hne : ∀ j, j < w.heap.size → j ≠ b → w'.heap[j]? = w.heap[j]?) (hs : w.heap.size ≤ w'.heap.size) : Rw enc sz w' a xs := by
  intro j x hj
  obtain ⟨p, hp, hlt, hcc⟩ := h j x hj
  refine ⟨p, hp, by omega, fun k v hk => ?_⟩
  have hpb : p.block ≠ b := by
    intro e
    obtain ⟨v0, h0, hsol⟩ := henc x
    have := hcc 0 v0 h0
    exact hc v0 (cell_mem (by rw [add_block, add_block, e]; exact hb) this) hsol
  rw [← hcc k v hk]
  unfold World.cell?
  rw [hne _ (by rw [add_block, add_block]; exact hlt) (by rw [add_block, add_block]; exact hpb)]
theorem solid_int (k : IntKind) (n : Int) : Solid (.int k n) := .inl ⟨k, n, rfl⟩
theorem SpecAt.past {w w' : World} {b : Nat} {c : Array Value} {T : TypeId} {fz : Nat × Nat} {x : SpecW} {s : SpecV} (h : SpecAt w x s) (hb : w.heap[b]? = some (.cells c T fz)) (hc : ∀ v ∈ c, ¬ Solid v)
    (hne : ∀ j, j < w.heap.size → j ≠ b → w'.heap[j]? = w.heap[j]?) (hs : w.heap.size ≤ w'.heap.size) : SpecAt w' x s :=
  ⟨h.ranked, h.n1, h.r1.past (fun m => ⟨_, rfl, solid_int _ _⟩) hb hc hne hs, h.n2, h.r2.past (fun m => ⟨_, rfl, .inr ⟨_, rfl⟩⟩) hb hc hne hs, h.n3, h.r3.past (fun m => ⟨_, rfl, solid_int _ _⟩) hb hc hne hs,
    h.n4, h.r4.past (fun m => ⟨_, rfl, solid_int _ _⟩) hb hc hne hs, h.n5, h.r5.past (fun m => ⟨_, rfl, solid_int _ _⟩) hb hc hne hs⟩
theorem StrRow.past {w w' : World} {b : Nat} {c : Array Value} {T : TypeId} {fz : Nat × Nat} {a : Option Addr} {xs : List Bs} (h : StrRow w a xs) (hb : w.heap[b]? = some (.cells c T fz)) (hc : ∀ v ∈ c, ¬ Solid v)
    (hne : ∀ j, j < w.heap.size → j ≠ b → w'.heap[j]? = w.heap[j]?) (hs : w.heap.size ≤ w'.heap.size) : StrRow w' a xs :=
  (h.rw.past (fun m => ⟨_, rfl, .inr ⟨_, rfl⟩⟩) hb hc hne hs).str
/-- Each slice of a spec is nil only when it is nothing. -/
structure XOk (x : SpecW) : Prop where
  k1 : SlOk x.s1
  k2 : SlOk x.s2
  k3 : SlOk x.s3
  k4 : SlOk x.s4
  k5 : SlOk x.s5
theorem Rw.flat {α : Type} {enc : α → List Value} {sz : Nat} {w : World} {p : Addr} {xs : List α} (h : Rw enc sz w (some p) xs) (hsz : ∀ x, (enc x).length = sz) (h0 : 0 < sz) (i : Nat) (u : Value) (hi : (xs.flatMap enc)[i]? = some u) : w.cell? (p.add i) = some u := by
  have hlt := (List.getElem?_eq_some_iff.1 hi).1
  rw [flatMap_length hsz] at hlt
  have hj : i / sz < xs.length := Nat.div_lt_of_lt_mul (by rw [Nat.mul_comm]; exact hlt)
  have hk : i % sz < sz := Nat.mod_lt _ h0
  have hsplit : i / sz * sz + i % sz = i := by rw [Nat.mul_comm]; exact Nat.div_add_mod i sz
  have hg := flatMap_get hsz xs (i / sz) _ (List.getElem?_eq_getElem hj) (i % sz) hk
  rw [hsplit, hi] at hg
  have := h.at rfl (List.getElem?_eq_getElem hj) (i % sz) u hg.symm
  rw [Addr.add_add, hsplit] at this
  exact this
/-- A row, copied into one of its own: 'append([]T{}, xs...)'. -/
theorem copy_row {α : Type} {enc : α → List Value} {sz : Nat} (hsz : ∀ x, (enc x).length = sz) (h0 : 0 < sz) (h1 : ∀ x, ∀ u ∈ enc x, u.oneCell' = true) (t e : TypeId) {z : Value} {bytes : Nat} (ht : Tryz.prog.underlying t = some (.slice e)) (hi : (Tryz.prog.info? e).map (fun i => (i.zero, i.size, i.bytes)) = some (some z, sz, bytes)) (hzs : z.cells.size = sz)
    (w8 : World) (src : Sl) (xs : List α) (hsrc : SlOk src) (hr : Rw enc sz w8 src.a xs) (hn : src.n = xs.length) (hb : src.n * bytes ≤ 140737488355328) (hN : src.n ≤ 140737488355328) : ∀ w18, w18 = w8.alloc (.cells #[] e) →
    ∃ A C w19, (Builtin.append_ #[t, t] t #[.slice (some (nb w8)) 0 0, src.v]).run Tryz.prog w18 = .ok (.slice A src.n C) w19 ∧ w19.ownsRow w8.heap.size e sz (.slice A src.n C) src.n (xs.flatMap enc) ∧ Below w8.heap.size w8 w19 := by
  rintro w18 rfl
  have hB := below_alloc w8 (.cells #[] e)
  have hown : (w8.alloc (.cells #[] e)).ownsRow w8.heap.size e sz (.slice (some (nb w8)) 0 0) 0 [] := ⟨by simp, .inr ⟨w8.heap.size, 0, _, rfl, Nat.le_refl _, alloc_new w8 _, Nat.le_refl _, by decide, by simp, by simp⟩⟩
  obtain ⟨A, C, w19, h2, h3, h4, _⟩ := run_spread (P := Tryz.prog) t e ht hi hzs h0 hown src hsrc (xs.flatMap enc) (by rw [flatMap_length hsz, hn]) (by
    intro a ha j u hj
    have hr' := hr.on hB
    rw [ha] at hr'
    exact hr'.flat hsz h0 j u hj) (by
    intro u hu
    obtain ⟨x, _, hx⟩ := List.mem_flatMap.1 hu
    exact h1 x u hx) (by rw [Nat.zero_add]; exact hb) (by rw [Nat.zero_add]; exact hN) hB.size
  rw [Nat.zero_add] at h2 h3
  exact ⟨A, C, w19, h2, h3, h4 w8 hB⟩
/-- One more behind a row of one's own. -/
theorem push_row {α : Type} {enc : α → List Value} {sz : Nat} (hsz : ∀ x, (enc x).length = sz) (h0 : 0 < sz) (h1 : ∀ x, ∀ u ∈ enc x, u.oneCell' = true) (t e : TypeId) {z : Value} {bytes : Nat} (ht : Tryz.prog.underlying t = some (.slice e)) (hi : (Tryz.prog.info? e).map (fun i => (i.zero, i.size, i.bytes)) = some (some z, sz, bytes)) (hzs : z.cells.size = sz)
    {B : Nat} {w21 : World} {A : Option Addr} {N C : Nat} {xs : List α} (hown : w21.ownsRow B e sz (.slice A N C) N (xs.flatMap enc)) (m : α) (hB : B ≤ w21.heap.size) (hb : (N + 1) * bytes ≤ 140737488355328) (hN : N + 1 ≤ 140737488355328) : ∀ w22, w22 = w21.alloc (.cells (enc m).toArray e) →
    ∃ A' C' w23, (Builtin.append_ #[t, t] t #[.slice A N C, .slice (some (nb w21)) 1 1]).run Tryz.prog w22 = .ok (.slice A' (N + 1) C') w23 ∧ w23.ownsRow B e sz (.slice A' (N + 1) C') (N + 1) ((xs ++ [m]).flatMap enc) ∧ (∀ w0, Below B w0 w21 → Below B w0 w23) ∧ (∃ a, A' = some a) := by
  rintro w22 rfl
  obtain ⟨A', C', w23, hr, hown', hg, _⟩ := run_push (P := Tryz.prog) t e ht hi hzs h0 hown (enc m) (hsz m) (h1 m) hb hN hB
  refine ⟨A', C', w23, hr, by simpa using hown', fun w0 h => below_push h hown hg hB, ?_⟩
  rcases hown'.2 with ⟨h, _⟩ | ⟨g, cap, cur, h, _⟩
  · cases h
  · cases h; exact ⟨_, rfl⟩
end Go.Proofs.YtldgehlbicoedaaGreatDoor.Eng

/- The reference's Parse, walked by the engine. -/
set_option linter.unusedVariables false
set_option linter.unusedSimpArgs false
set_option maxRecDepth 100000
namespace Go.Proofs.YtldgehlbicoedaaGreatDoor.Eng
open Go Go.RowKit

/-! ### What is added fits -/
theorem numAt_64 (l : List Bs) (i : Nat) : I64 (numAt l i) ∧ numAt l i ≤ maxId ∧ -1 ≤ numAt l i := by
  unfold numAt
  split
  · rename_i w hw
    unfold numW
    cases hp : parseT w maxId with
    | none => simp [I64, maxId]
    | some u =>
      have hu : (u : Int) ≤ maxId := by
        unfold parseT at hp
        split at hp
        · rename_i hc; cases hp; exact hc.2.2
        · cases hp
      show I64 (u : Int) ∧ (u : Int) ≤ maxId ∧ -1 ≤ (u : Int)
      unfold I64
      simp only [maxId] at *
      omega
  · simp [I64, maxId]
theorem unhex_short {l r : Bs} (h : unhexT l = some r) : r.length ≤ l.length := by
  have := hex_unhex l r h
  rw [← this]
  unfold hexT
  split
  · rename_i e; subst e; simp
  · rw [hexBody_length]; omega
theorem hexAt_short (l : List Bs) (i k : Nat) (h : ∀ w ∈ l, w.length ≤ k) : (hexAt l i).length ≤ k := by
  unfold hexAt
  split
  · rename_i w hw
    have := h w (List.mem_of_getElem? hw)
    cases hp : unhexT w with
    | none => simp
    | some u =>
      have := unhex_short hp
      simp only [Option.getD_some]
      omega
  · simp
theorem fit_of {s : SpecV} (h : s.right = true ∨ s = {}) : FitS s ∧ s.merges.length ≤ 1000 ∧ s.tokens.length ≤ 1000 ∧ s.specials.length ≤ 1000 ∧ s.classes.length ≤ 1000 ∧ s.joins.length ≤ 1000 := by
  rcases h with h | rfl
  · obtain ⟨_, p1, p2, p3, p4, p5⟩ := right_parts h
    have l1 := allOk_len p1
    have l2 := allOk_len p2
    have l3 := allOk_len p3
    have l4 := allOk_len p4
    have l5 := allOk_len p5
    refine ⟨⟨by omega, by omega, by omega, by omega, by omega, ?_, ?_, ?_, ?_, ?_⟩, by omega, by omega, by omega, by omega, by omega⟩
    · intro m hm
      have := of_decide_eq_true (all_mem p1 hm)
      unfold I64; omega
    · intro m hm
      have := of_decide_eq_true (all_mem p2 hm)
      omega
    · intro m hm
      have := of_decide_eq_true (all_mem p3 hm)
      unfold I64; omega
    · intro m hm
      have := of_decide_eq_true (all_mem p4 hm)
      unfold I64; omega
    · intro m hm
      have := of_decide_eq_true (all_mem p5 hm)
      unfold I64; omega
  · exact ⟨⟨by simp, by simp, by simp, by simp, by simp, by simp, by simp, by simp, by simp, by simp⟩, by simp, by simp, by simp, by simp, by simp⟩
theorem add_head {s : SpecV} {line : Bs} {l : List Bs} (h : l.head? = some wVocab) : refAdd s line l = { s with ranked := decide (line = headL true) } := by
  unfold refAdd
  rw [if_pos h]
theorem add_merges {s : SpecV} {line : Bs} {l : List Bs} (h : l.head? = some wMerge) : refAdd s line l = { s with merges := s.merges ++ [(numAt l 1, numAt l 2)] } := by
  unfold refAdd
  rw [h]
  rw [if_neg (by decide)]
  rw [if_pos rfl]
theorem add_tokens {s : SpecV} {line : Bs} {l : List Bs} (h : l.head? = some wToken) : refAdd s line l = { s with tokens := s.tokens ++ [hexAt l 1] } := by
  unfold refAdd
  rw [h]
  rw [if_neg (by decide)]
  rw [if_neg (by decide)]
  rw [if_pos rfl]
theorem add_specials {s : SpecV} {line : Bs} {l : List Bs} (h : l.head? = some wSpecial) : refAdd s line l = { s with specials := s.specials ++ [(numAt l 1, hexAt l 2)] } := by
  unfold refAdd
  rw [h]
  rw [if_neg (by decide)]
  rw [if_neg (by decide)]
  rw [if_neg (by decide)]
  rw [if_pos rfl]
theorem add_classes {s : SpecV} {line : Bs} {l : List Bs} (h : l.head? = some wClass) : refAdd s line l = { s with classes := s.classes ++ [(numAt l 1, numAt l 2, numAt l 3)] } := by
  unfold refAdd
  rw [h]
  rw [if_neg (by decide)]
  rw [if_neg (by decide)]
  rw [if_neg (by decide)]
  rw [if_neg (by decide)]
  rw [if_pos rfl]
theorem add_joins {s : SpecV} {line : Bs} {l : List Bs} (h : l.head? = some wJoin) : refAdd s line l = { s with joins := s.joins ++ [(numAt l 1, numAt l 2)] } := by
  unfold refAdd
  rw [h]
  rw [if_neg (by decide)]
  rw [if_neg (by decide)]
  rw [if_neg (by decide)]
  rw [if_neg (by decide)]
  rw [if_neg (by decide)]
  rw [if_pos rfl]
theorem add_none {s : SpecV} {line : Bs} {l : List Bs} (h0 : l.head? ≠ some wVocab) (h1 : l.head? ≠ some wMerge) (h2 : l.head? ≠ some wToken) (h3 : l.head? ≠ some wSpecial) (h4 : l.head? ≠ some wClass) (h5 : l.head? ≠ some wJoin) : refAdd s line l = s := by
  unfold refAdd
  rw [if_neg h0, if_neg h1, if_neg h2, if_neg h3, if_neg h4, if_neg h5]
theorem mem_snoc {α : Type} {l : List α} {x m : α} (h : m ∈ l ++ [x]) : m ∈ l ∨ m = x := by simpa using h
theorem fit_merges {s : SpecV} (h : FitS s) (hn : s.merges.length ≤ 1000) (l : List Bs) (hl : ∀ w ∈ l, w.length ≤ 100000) : FitS { s with merges := s.merges ++ [(numAt l 1, numAt l 2)] } :=
  ⟨by simp only [List.length_append, List.length_cons, List.length_nil]; omega, h.l2, h.l3, h.l4, h.l5, fun m hm => (mem_snoc hm).elim (h.m1 m) (fun e => by subst e; exact ⟨(numAt_64 l 1).1, (numAt_64 l 2).1⟩), h.m2, h.m3, h.m4, h.m5⟩
theorem fit_tokens {s : SpecV} (h : FitS s) (hn : s.tokens.length ≤ 1000) (l : List Bs) (hl : ∀ w ∈ l, w.length ≤ 100000) : FitS { s with tokens := s.tokens ++ [hexAt l 1] } :=
  ⟨h.l1, by simp only [List.length_append, List.length_cons, List.length_nil]; omega, h.l3, h.l4, h.l5, h.m1, fun m hm => (mem_snoc hm).elim (h.m2 m) (fun e => by subst e; exact hexAt_short l 1 _ hl), h.m3, h.m4, h.m5⟩
theorem fit_specials {s : SpecV} (h : FitS s) (hn : s.specials.length ≤ 1000) (l : List Bs) (hl : ∀ w ∈ l, w.length ≤ 100000) : FitS { s with specials := s.specials ++ [(numAt l 1, hexAt l 2)] } :=
  ⟨h.l1, h.l2, by simp only [List.length_append, List.length_cons, List.length_nil]; omega, h.l4, h.l5, h.m1, h.m2, fun m hm => (mem_snoc hm).elim (h.m3 m) (fun e => by subst e; exact ⟨(numAt_64 l 1).1, hexAt_short l 2 _ hl⟩), h.m4, h.m5⟩
theorem fit_classes {s : SpecV} (h : FitS s) (hn : s.classes.length ≤ 1000) (l : List Bs) (hl : ∀ w ∈ l, w.length ≤ 100000) : FitS { s with classes := s.classes ++ [(numAt l 1, numAt l 2, numAt l 3)] } :=
  ⟨h.l1, h.l2, h.l3, by simp only [List.length_append, List.length_cons, List.length_nil]; omega, h.l5, h.m1, h.m2, h.m3, fun m hm => (mem_snoc hm).elim (h.m4 m) (fun e => by subst e; exact ⟨(numAt_64 l 1).1, (numAt_64 l 2).1, (numAt_64 l 3).1⟩), h.m5⟩
theorem fit_joins {s : SpecV} (h : FitS s) (hn : s.joins.length ≤ 1000) (l : List Bs) (hl : ∀ w ∈ l, w.length ≤ 100000) : FitS { s with joins := s.joins ++ [(numAt l 1, numAt l 2)] } :=
  ⟨h.l1, h.l2, h.l3, h.l4, by simp only [List.length_append, List.length_cons, List.length_nil]; omega, h.m1, h.m2, h.m3, h.m4, fun m hm => (mem_snoc hm).elim (h.m5 m) (fun e => by subst e; exact ⟨(numAt_64 l 1).1, (numAt_64 l 2).1⟩)⟩

/-! ### One round -/
/-- What a new spec's block holds, behind one round's switch. -/
structure RoundAt (Q : Nat) (w8 v : World) (y : SpecW) (s' : SpecV) : Prop where
  blk : v.heap[Q]? = some (.cells y.cells tSpec (0, 0))
  held : SpecAt v y s'
  ok : XOk y
  fit : FitS s'
  keep : ∀ j, j < w8.heap.size → j ≠ Q → v.heap[j]? = w8.heap[j]?
  size : w8.heap.size ≤ v.heap.size
  below : ∀ B w0, B ≤ Q → Below B w0 w8 → Below B w0 v

theorem round_merges {Q : Nat} {w8 w21 : World} {x : SpecW} {s : SpecV} (hQ : w8.heap[Q]? = some (.cells x.cells tSpec (0, 0))) (hA : SpecAt w8 x s) (hx : XOk x) (hn : s.merges.length ≤ 1000) {A : Option Addr} {C : Nat}
    (hown : w21.ownsRow w8.heap.size tMg 2 (.slice A x.s1.n C) x.s1.n (s.merges.flatMap encPair)) (hB : Below w8.heap.size w8 w21) (m : Int × Int) (hf : FitS { s with merges := s.merges ++ [m] }) : ∀ w22, w22 = w21.alloc (.cells (encPair m).toArray tMg) →
    ∃ A' N' C' w23, (Builtin.append_ #[23, 23] 23 #[.slice A x.s1.n C, .slice (some (nb w21)) 1 1]).run Tryz.prog w22 = .ok (.slice A' N' C') w23 ∧ (∃ u, w23.cell? ((⟨Q, 0, none⟩ : Addr).add 1) = some u) ∧ w23.frozen? ((⟨Q, 0, none⟩ : Addr).add 1) = false ∧
      ∀ w24, w24 = w23.setCell ((⟨Q, 0, none⟩ : Addr).add 1) (.slice A' N' C') → ∃ y, RoundAt Q w8 w24 y { s with merges := s.merges ++ [m] } := by
  intro w22 hw22
  have hN := hA.n1
  obtain ⟨A', C', w23, hr, hown', hB', hA'⟩ := push_row (enc := encPair) (sz := 2) (fun _ => rfl) (Nat.succ_pos _) (by intro x u hu; simp [encPair] at hu; rcases hu with rfl | rfl <;> rfl) 23 tMg undMgs infoMg rfl hown m hB.size (by omega) (by omega) w22 hw22
  have hB23 := hB' w8 hB
  have hQl : Q < w8.heap.size := (Array.getElem?_eq_some_iff.1 hQ).1
  have hQ23 : w23.heap[Q]? = some (.cells x.cells tSpec (0, 0)) := by rw [hB23.block Q hQl]; exact hQ
  refine ⟨A', _, C', w23, hr, ⟨_, (cell_put (j := 1) hQ23).trans rfl⟩, frozen_put hQ23, ?_⟩
  rintro w24 rfl
  have hA23 := hA.on hB23
  obtain ⟨g1, g2⟩ := Rw.of_own (s := ⟨A', _, C'⟩) hown' (fun _ => rfl) (Nat.succ_pos _)
  have hAy : SpecAt w23 { x with s1 := ⟨A', x.s1.n + 1, C'⟩ } { s with merges := s.merges ++ [m] } := ⟨hA23.ranked, g2, g1, hA23.n2, hA23.r2, hA23.n3, hA23.r3, hA23.n4, hA23.r4, hA23.n5, hA23.r5⟩
  have hset : ∀ j, j ≠ Q → (w23.setCell ((⟨Q, 0, none⟩ : Addr).add 1) (.slice A' (x.s1.n + 1) C')).heap[j]? = w23.heap[j]? := fun j hj => heap_setCell_ne (by rw [add_block]; exact hj)
  refine ⟨{ x with s1 := ⟨A', x.s1.n + 1, C'⟩ }, (heap_put (j := 1) hQ23 _).trans rfl, hAy.past hQ23 (spec_cells_soft x) (fun j _ hj => hset j hj) (by rw [size_setCell]; exact Nat.le_refl _), ⟨.inr hA', hx.k2, hx.k3, hx.k4, hx.k5⟩, hf, ?_, ?_, ?_⟩
  · intro j hj hne
    rw [hset j hne, hB23.block j hj]
  · rw [size_setCell]; exact hB23.size
  · intro B w0 hBQ h0
    exact below_put (h0.trans (hB23.mono (by omega))) hBQ _

theorem round_tokens {Q : Nat} {w8 w21 : World} {x : SpecW} {s : SpecV} (hQ : w8.heap[Q]? = some (.cells x.cells tSpec (0, 0))) (hA : SpecAt w8 x s) (hx : XOk x) (hn : s.tokens.length ≤ 1000) {A : Option Addr} {C : Nat}
    (hown : w21.ownsRow w8.heap.size tStr 1 (.slice A x.s2.n C) x.s2.n (s.tokens.flatMap encStr)) (hB : Below w8.heap.size w8 w21) (m : Bs) (hf : FitS { s with tokens := s.tokens ++ [m] }) : ∀ w22, w22 = w21.alloc (.cells (encStr m).toArray tStr) →
    ∃ A' N' C' w23, (Builtin.append_ #[tStrs, tStrs] tStrs #[.slice A x.s2.n C, .slice (some (nb w21)) 1 1]).run Tryz.prog w22 = .ok (.slice A' N' C') w23 ∧ (∃ u, w23.cell? ((⟨Q, 0, none⟩ : Addr).add 2) = some u) ∧ w23.frozen? ((⟨Q, 0, none⟩ : Addr).add 2) = false ∧
      ∀ w24, w24 = w23.setCell ((⟨Q, 0, none⟩ : Addr).add 2) (.slice A' N' C') → ∃ y, RoundAt Q w8 w24 y { s with tokens := s.tokens ++ [m] } := by
  intro w22 hw22
  have hN := hA.n2
  obtain ⟨A', C', w23, hr, hown', hB', hA'⟩ := push_row (enc := encStr) (sz := 1) (fun _ => rfl) (Nat.succ_pos _) (by intro x u hu; simp [encStr] at hu; rcases hu with rfl; rfl) tStrs tStr undStrs infoStr rfl hown m hB.size (by omega) (by omega) w22 hw22
  have hB23 := hB' w8 hB
  have hQl : Q < w8.heap.size := (Array.getElem?_eq_some_iff.1 hQ).1
  have hQ23 : w23.heap[Q]? = some (.cells x.cells tSpec (0, 0)) := by rw [hB23.block Q hQl]; exact hQ
  refine ⟨A', _, C', w23, hr, ⟨_, (cell_put (j := 2) hQ23).trans rfl⟩, frozen_put hQ23, ?_⟩
  rintro w24 rfl
  have hA23 := hA.on hB23
  obtain ⟨g1, g2⟩ := Rw.of_own (s := ⟨A', _, C'⟩) hown' (fun _ => rfl) (Nat.succ_pos _)
  have hAy : SpecAt w23 { x with s2 := ⟨A', x.s2.n + 1, C'⟩ } { s with tokens := s.tokens ++ [m] } := ⟨hA23.ranked, hA23.n1, hA23.r1, g2, g1, hA23.n3, hA23.r3, hA23.n4, hA23.r4, hA23.n5, hA23.r5⟩
  have hset : ∀ j, j ≠ Q → (w23.setCell ((⟨Q, 0, none⟩ : Addr).add 2) (.slice A' (x.s2.n + 1) C')).heap[j]? = w23.heap[j]? := fun j hj => heap_setCell_ne (by rw [add_block]; exact hj)
  refine ⟨{ x with s2 := ⟨A', x.s2.n + 1, C'⟩ }, (heap_put (j := 2) hQ23 _).trans rfl, hAy.past hQ23 (spec_cells_soft x) (fun j _ hj => hset j hj) (by rw [size_setCell]; exact Nat.le_refl _), ⟨hx.k1, .inr hA', hx.k3, hx.k4, hx.k5⟩, hf, ?_, ?_, ?_⟩
  · intro j hj hne
    rw [hset j hne, hB23.block j hj]
  · rw [size_setCell]; exact hB23.size
  · intro B w0 hBQ h0
    exact below_put (h0.trans (hB23.mono (by omega))) hBQ _

theorem round_specials {Q : Nat} {w8 w21 : World} {x : SpecW} {s : SpecV} (hQ : w8.heap[Q]? = some (.cells x.cells tSpec (0, 0))) (hA : SpecAt w8 x s) (hx : XOk x) (hn : s.specials.length ≤ 1000) {A : Option Addr} {C : Nat}
    (hown : w21.ownsRow w8.heap.size tSp 2 (.slice A x.s3.n C) x.s3.n (s.specials.flatMap encSpecial)) (hB : Below w8.heap.size w8 w21) (m : Int × Bs) (hf : FitS { s with specials := s.specials ++ [m] }) : ∀ w22, w22 = w21.alloc (.cells (encSpecial m).toArray tSp) →
    ∃ A' N' C' w23, (Builtin.append_ #[25, 25] 25 #[.slice A x.s3.n C, .slice (some (nb w21)) 1 1]).run Tryz.prog w22 = .ok (.slice A' N' C') w23 ∧ (∃ u, w23.cell? ((⟨Q, 0, none⟩ : Addr).add 3) = some u) ∧ w23.frozen? ((⟨Q, 0, none⟩ : Addr).add 3) = false ∧
      ∀ w24, w24 = w23.setCell ((⟨Q, 0, none⟩ : Addr).add 3) (.slice A' N' C') → ∃ y, RoundAt Q w8 w24 y { s with specials := s.specials ++ [m] } := by
  intro w22 hw22
  have hN := hA.n3
  obtain ⟨A', C', w23, hr, hown', hB', hA'⟩ := push_row (enc := encSpecial) (sz := 2) (fun _ => rfl) (Nat.succ_pos _) (by intro x u hu; simp [encSpecial] at hu; rcases hu with rfl | rfl <;> rfl) 25 tSp undSps infoSp rfl hown m hB.size (by omega) (by omega) w22 hw22
  have hB23 := hB' w8 hB
  have hQl : Q < w8.heap.size := (Array.getElem?_eq_some_iff.1 hQ).1
  have hQ23 : w23.heap[Q]? = some (.cells x.cells tSpec (0, 0)) := by rw [hB23.block Q hQl]; exact hQ
  refine ⟨A', _, C', w23, hr, ⟨_, (cell_put (j := 3) hQ23).trans rfl⟩, frozen_put hQ23, ?_⟩
  rintro w24 rfl
  have hA23 := hA.on hB23
  obtain ⟨g1, g2⟩ := Rw.of_own (s := ⟨A', _, C'⟩) hown' (fun _ => rfl) (Nat.succ_pos _)
  have hAy : SpecAt w23 { x with s3 := ⟨A', x.s3.n + 1, C'⟩ } { s with specials := s.specials ++ [m] } := ⟨hA23.ranked, hA23.n1, hA23.r1, hA23.n2, hA23.r2, g2, g1, hA23.n4, hA23.r4, hA23.n5, hA23.r5⟩
  have hset : ∀ j, j ≠ Q → (w23.setCell ((⟨Q, 0, none⟩ : Addr).add 3) (.slice A' (x.s3.n + 1) C')).heap[j]? = w23.heap[j]? := fun j hj => heap_setCell_ne (by rw [add_block]; exact hj)
  refine ⟨{ x with s3 := ⟨A', x.s3.n + 1, C'⟩ }, (heap_put (j := 3) hQ23 _).trans rfl, hAy.past hQ23 (spec_cells_soft x) (fun j _ hj => hset j hj) (by rw [size_setCell]; exact Nat.le_refl _), ⟨hx.k1, hx.k2, .inr hA', hx.k4, hx.k5⟩, hf, ?_, ?_, ?_⟩
  · intro j hj hne
    rw [hset j hne, hB23.block j hj]
  · rw [size_setCell]; exact hB23.size
  · intro B w0 hBQ h0
    exact below_put (h0.trans (hB23.mono (by omega))) hBQ _

theorem round_classes {Q : Nat} {w8 w21 : World} {x : SpecW} {s : SpecV} (hQ : w8.heap[Q]? = some (.cells x.cells tSpec (0, 0))) (hA : SpecAt w8 x s) (hx : XOk x) (hn : s.classes.length ≤ 1000) {A : Option Addr} {C : Nat}
    (hown : w21.ownsRow w8.heap.size tCl 3 (.slice A x.s4.n C) x.s4.n (s.classes.flatMap encClass)) (hB : Below w8.heap.size w8 w21) (m : Int × Int × Int) (hf : FitS { s with classes := s.classes ++ [m] }) : ∀ w22, w22 = w21.alloc (.cells (encClass m).toArray tCl) →
    ∃ A' N' C' w23, (Builtin.append_ #[26, 26] 26 #[.slice A x.s4.n C, .slice (some (nb w21)) 1 1]).run Tryz.prog w22 = .ok (.slice A' N' C') w23 ∧ (∃ u, w23.cell? ((⟨Q, 0, none⟩ : Addr).add 4) = some u) ∧ w23.frozen? ((⟨Q, 0, none⟩ : Addr).add 4) = false ∧
      ∀ w24, w24 = w23.setCell ((⟨Q, 0, none⟩ : Addr).add 4) (.slice A' N' C') → ∃ y, RoundAt Q w8 w24 y { s with classes := s.classes ++ [m] } := by
  intro w22 hw22
  have hN := hA.n4
  obtain ⟨A', C', w23, hr, hown', hB', hA'⟩ := push_row (enc := encClass) (sz := 3) (fun _ => rfl) (Nat.succ_pos _) (by intro x u hu; simp [encClass] at hu; rcases hu with rfl | rfl | rfl <;> rfl) 26 tCl undCls infoCl rfl hown m hB.size (by omega) (by omega) w22 hw22
  have hB23 := hB' w8 hB
  have hQl : Q < w8.heap.size := (Array.getElem?_eq_some_iff.1 hQ).1
  have hQ23 : w23.heap[Q]? = some (.cells x.cells tSpec (0, 0)) := by rw [hB23.block Q hQl]; exact hQ
  refine ⟨A', _, C', w23, hr, ⟨_, (cell_put (j := 4) hQ23).trans rfl⟩, frozen_put hQ23, ?_⟩
  rintro w24 rfl
  have hA23 := hA.on hB23
  obtain ⟨g1, g2⟩ := Rw.of_own (s := ⟨A', _, C'⟩) hown' (fun _ => rfl) (Nat.succ_pos _)
  have hAy : SpecAt w23 { x with s4 := ⟨A', x.s4.n + 1, C'⟩ } { s with classes := s.classes ++ [m] } := ⟨hA23.ranked, hA23.n1, hA23.r1, hA23.n2, hA23.r2, hA23.n3, hA23.r3, g2, g1, hA23.n5, hA23.r5⟩
  have hset : ∀ j, j ≠ Q → (w23.setCell ((⟨Q, 0, none⟩ : Addr).add 4) (.slice A' (x.s4.n + 1) C')).heap[j]? = w23.heap[j]? := fun j hj => heap_setCell_ne (by rw [add_block]; exact hj)
  refine ⟨{ x with s4 := ⟨A', x.s4.n + 1, C'⟩ }, (heap_put (j := 4) hQ23 _).trans rfl, hAy.past hQ23 (spec_cells_soft x) (fun j _ hj => hset j hj) (by rw [size_setCell]; exact Nat.le_refl _), ⟨hx.k1, hx.k2, hx.k3, .inr hA', hx.k5⟩, hf, ?_, ?_, ?_⟩
  · intro j hj hne
    rw [hset j hne, hB23.block j hj]
  · rw [size_setCell]; exact hB23.size
  · intro B w0 hBQ h0
    exact below_put (h0.trans (hB23.mono (by omega))) hBQ _

theorem round_joins {Q : Nat} {w8 w21 : World} {x : SpecW} {s : SpecV} (hQ : w8.heap[Q]? = some (.cells x.cells tSpec (0, 0))) (hA : SpecAt w8 x s) (hx : XOk x) (hn : s.joins.length ≤ 1000) {A : Option Addr} {C : Nat}
    (hown : w21.ownsRow w8.heap.size tJn 2 (.slice A x.s5.n C) x.s5.n (s.joins.flatMap encPair)) (hB : Below w8.heap.size w8 w21) (m : Int × Int) (hf : FitS { s with joins := s.joins ++ [m] }) : ∀ w22, w22 = w21.alloc (.cells (encPair m).toArray tJn) →
    ∃ A' N' C' w23, (Builtin.append_ #[27, 27] 27 #[.slice A x.s5.n C, .slice (some (nb w21)) 1 1]).run Tryz.prog w22 = .ok (.slice A' N' C') w23 ∧ (∃ u, w23.cell? ((⟨Q, 0, none⟩ : Addr).add 5) = some u) ∧ w23.frozen? ((⟨Q, 0, none⟩ : Addr).add 5) = false ∧
      ∀ w24, w24 = w23.setCell ((⟨Q, 0, none⟩ : Addr).add 5) (.slice A' N' C') → ∃ y, RoundAt Q w8 w24 y { s with joins := s.joins ++ [m] } := by
  intro w22 hw22
  have hN := hA.n5
  obtain ⟨A', C', w23, hr, hown', hB', hA'⟩ := push_row (enc := encPair) (sz := 2) (fun _ => rfl) (Nat.succ_pos _) (by intro x u hu; simp [encPair] at hu; rcases hu with rfl | rfl <;> rfl) 27 tJn undJns infoJn rfl hown m hB.size (by omega) (by omega) w22 hw22
  have hB23 := hB' w8 hB
  have hQl : Q < w8.heap.size := (Array.getElem?_eq_some_iff.1 hQ).1
  have hQ23 : w23.heap[Q]? = some (.cells x.cells tSpec (0, 0)) := by rw [hB23.block Q hQl]; exact hQ
  refine ⟨A', _, C', w23, hr, ⟨_, (cell_put (j := 5) hQ23).trans rfl⟩, frozen_put hQ23, ?_⟩
  rintro w24 rfl
  have hA23 := hA.on hB23
  obtain ⟨g1, g2⟩ := Rw.of_own (s := ⟨A', _, C'⟩) hown' (fun _ => rfl) (Nat.succ_pos _)
  have hAy : SpecAt w23 { x with s5 := ⟨A', x.s5.n + 1, C'⟩ } { s with joins := s.joins ++ [m] } := ⟨hA23.ranked, hA23.n1, hA23.r1, hA23.n2, hA23.r2, hA23.n3, hA23.r3, hA23.n4, hA23.r4, g2, g1⟩
  have hset : ∀ j, j ≠ Q → (w23.setCell ((⟨Q, 0, none⟩ : Addr).add 5) (.slice A' (x.s5.n + 1) C')).heap[j]? = w23.heap[j]? := fun j hj => heap_setCell_ne (by rw [add_block]; exact hj)
  refine ⟨{ x with s5 := ⟨A', x.s5.n + 1, C'⟩ }, (heap_put (j := 5) hQ23 _).trans rfl, hAy.past hQ23 (spec_cells_soft x) (fun j _ hj => hset j hj) (by rw [size_setCell]; exact Nat.le_refl _), ⟨hx.k1, hx.k2, hx.k3, hx.k4, .inr hA'⟩, hf, ?_, ?_, ?_⟩
  · intro j hj hne
    rw [hset j hne, hB23.block j hj]
  · rw [size_setCell]; exact hB23.size
  · intro B w0 hBQ h0
    exact below_put (h0.trans (hB23.mono (by omega))) hBQ _
end Go.Proofs.YtldgehlbicoedaaGreatDoor.Eng

/- The reference's Parse, walked by the engine: all rounds. -/
set_option linter.unusedVariables false
set_option linter.unusedSimpArgs false
set_option maxRecDepth 100000
namespace Go.Proofs.YtldgehlbicoedaaGreatDoor.Eng
open Go Go.RowKit

noncomputable def parseNum (t : Bs) : Int := match parseS t with
  | .ok _ => 0
  | .error m => (m : Int)
noncomputable def parseGot (t : Bs) : SpecV := match parseS t with
  | .ok s => s
  | .error _ => {}
/-- What is held between rounds. -/
structure RefAt (w w2 w5 : World) (x : SpecW) (s : SpecV) : Prop where
  blk : w5.heap[w2.heap.size]? = some (.cells x.cells tSpec (0, 0))
  held : SpecAt w5 x s
  ok : XOk x
  fit : s.right = true ∨ s = {}
  below : Below w2.heap.size w2 w5

theorem zeroX_ok : XOk zeroX := ⟨.inl rfl, .inl rfl, .inl rfl, .inl rfl, .inl rfl⟩
theorem refSpecParse_spec (t : Bs) (w : World) (hl : t.length ≤ 60000) :
    Calls Tryz.prog 10 #[.string (str t)] w fun e w' => ∃ y, e = .returned (.tuple #[y.v, .int .i64 (parseNum t)]) ∧ SpecAt w' y (parseGot t) ∧ Below w.heap.size w w' := by
  refine calls_ret (vc10_calls (str t) w (fun v w' => ∃ y : SpecW, v = .tuple #[y.v, .int .i64 (parseNum t)] ∧ SpecAt w' y (parseGot t) ∧ Below w.heap.size w w') ?_) (by rintro v w' ⟨y, rfl, h⟩; exact ⟨y, rfl, h⟩)
  intro w1 hw1
  have hb1 : Below w.heap.size w w1 := by rw [hw1]; exact below_alloc _ _
  have k1 : w1.heap[w.heap.size]? = some (.cells zeroX.cells tSpec (0, 0)) := by rw [hw1]; exact alloc_new w _
  have hlt1 : w.heap.size < w1.heap.size := (Array.getElem?_eq_some_iff.1 k1).1
  refine (refCut_spec t 10 w1 (by omega)).mono ?_
  rintro e w2 ⟨la, lc, rfl, hcap, hrow, h2⟩
  have hb2 := below_then hb1 h2
  have k2 : w2.heap[w.heap.size]? = some (.cells zeroX.cells tSpec (0, 0)) := by rw [h2.block _ hlt1]; exact k1
  have hlt2 : w.heap.size < w2.heap.size := (Array.getElem?_eq_some_iff.1 k2).1
  refine ⟨_, _, _, rfl, ?_⟩
  intro w3 hw3
  refine storeP_new [.bool false, .slice none 0 0, .slice none 0 0, .slice none 0 0, .slice none 0 0, .slice none 0 0] [.bool false, .slice none 0 0, .slice none 0 0, .slice none 0 0, .slice none 0 0, .slice none 0 0] rfl (by intro v hv; simp at hv; rcases hv with rfl | rfl <;> rfl) w3 hw3 ?_
  intro w4 f4 hsz4 hB4
  have hR4 : RefAt w w2 w4 zeroX {} := ⟨f4, zero_at w4, zeroX_ok, .inr rfl, hB4⟩
  have hne0 := cutL_ne 10 t
  have hdl : (cutL 10 t).dropLast.length = (cutL 10 t).length - 1 := by simp
  have hpos : 0 < (cutL 10 t).length := List.length_pos_iff.2 hne0
  have hcnt := cutL_count 10 t
  have hsm := cutL_small 10 t
  have hall := (all_eq (cutL 10 t).dropLast read_begin).1
  have bel : ∀ {w5 : World}, Below w2.heap.size w2 w5 → Below w.heap.size w w5 := fun hB => below_then hb2 hB
  have kk : ∀ {w5 : World}, Below w2.heap.size w2 w5 → w5.heap[w.heap.size]? = some (.cells zeroX.cells tSpec (0, 0)) := fun hB => by rw [hB.block _ hlt2]; exact k2
  have bad : ∀ (m : Nat) {w5 : World}, Below w2.heap.size w2 w5 → parseS t = .error m → ∀ w7, (∀ w0, Below w.heap.size w0 w5 → Below w.heap.size w0 w7) → ∃ y : SpecW, Value.tuple #[zeroX.v, .int .i64 m] = .tuple #[y.v, .int .i64 (parseNum t)] ∧ SpecAt w7 y (parseGot t) ∧ Below w.heap.size w w7 := by
    intro m w5 hB hp w7 hB7
    refine ⟨zeroX, ?_, ?_, hB7 w (bel hB)⟩
    · unfold parseNum; rw [hp]
    · unfold parseGot; rw [hp]; exact zero_at w7
  intro I hI
  refine climb2 (α := SpecW × SpecV × World) ((cutL 10 t).length - 1)
    (fun i y => RefAt w w2 y.2.2 y.1 y.2.1 ∧ refAll {} 0 (cutL 10 t).dropLast = refAll y.2.1 i ((cutL 10 t).dropLast.drop i))
    (fun i y => I [.int .i64 (i : Int), .int .i64 0] y.2.2) (zeroX, {}, w4) ⟨hR4, rfl⟩ ?_ ?_
  · rintro i hi ih ⟨x, s, w5⟩ ⟨hR, hrd⟩
    dsimp only at hR hrd
    refine hI _ _ _ (Ar.ok64 (by omega) (by omega) (CondP.yes (decide_eq_true (by omega)) ?_))
    have hi' : i < (cutL 10 t).dropLast.length := by omega
    have hi2 : i < (cutL 10 t).length := by omega
    have hline : (cutL 10 t).dropLast[i] = (cutL 10 t)[i] := by simp
    have hrow5 := hrow.on hR.below
    obtain ⟨p, hpa, _, hcp⟩ := hrow5 i _ (List.getElem?_eq_getElem hi2)
    refine NilC.mk p hpa ⟨by omega, by omega, str (cutL 10 t)[i], by simpa using hcp, ?_⟩
    have hll : (cutL 10 t)[i].length ≤ 60000 := by
      have := hsm _ (List.getElem_mem hi2)
      omega
    refine (refCut_spec (cutL 10 t)[i] 32 w5 (by omega)).mono ?_
    rintro e w6 ⟨ca, cc, rfl, _, hwords, h6⟩
    refine ⟨_, _, _, rfl, ?_⟩
    have hP5 : w2.heap.size < w5.heap.size := (Array.getElem?_eq_some_iff.1 hR.blk).1
    have hP6 : w6.heap[w2.heap.size]? = some (.cells x.cells tSpec (0, 0)) := by rw [h6.block _ hP5]; exact hR.blk
    have hB6 : Below w2.heap.size w2 w6 := hR.below.trans (h6.mono hR.below.size)
    have hlt6 : w2.heap.size < w6.heap.size := (Array.getElem?_eq_some_iff.1 hP6).1
    refine ⟨x.ranked, _, _, _, _, _, _, _, _, _, _, _, _, _, _, _, ⟨(by have := cell_put (j := 0) hP6; rw [add_zero] at this; exact this), (cell_put (j := 1) hP6).trans rfl, (cell_put (j := 2) hP6).trans rfl, (cell_put (j := 3) hP6).trans rfl, (cell_put (j := 4) hP6).trans rfl, (cell_put (j := 5) hP6).trans rfl, trivial⟩, ?_⟩
    intro w7 hw7
    refine storeP_new [.bool false, .slice none 0 0, .slice none 0 0, .slice none 0 0, .slice none 0 0, .slice none 0 0] [.bool x.ranked, x.s1.v, x.s2.v, x.s3.v, x.s4.v, x.s5.v] rfl (by intro v hv; simp at hv; rcases hv with rfl | rfl | rfl | rfl | rfl | rfl <;> rfl) w7 hw7 ?_
    intro w8 hQ8 hsz8 hB78
    have hB8 : Below w2.heap.size w2 w8 := hB6.trans (hB78.mono hB6.size)
    have hw8 := hwords.on hB78
    have hA8 := (hR.held.on h6).on hB78
    have hP8 : w8.heap[w2.heap.size]? = some (.cells x.cells tSpec (0, 0)) := by rw [hB78.block _ hlt6]; exact hP6
    obtain ⟨hfit, n1, n2, n3, n4, n5⟩ := fit_of hR.fit
    have hsm2 := cutL_small 32 (cutL 10 t)[i]
    have hct2 := cutL_count 32 (cutL 10 t)[i]
    have hwl : ∀ y ∈ cutL 32 (cutL 10 t)[i], y.length ≤ 100000 := fun y hy => by have := hsm2 y hy; omega
    obtain ⟨first, ws, hcut⟩ : ∃ f r, cutL 32 (cutL 10 t)[i] = f :: r := by
      cases hc : cutL 32 (cutL 10 t)[i] with
      | nil => exact absurd hc (cutL_ne 32 _)
      | cons f r => exact ⟨f, r, rfl⟩
    have hfirst : (cutL 32 (cutL 10 t)[i])[0]? = some first := by rw [hcut]; rfl
    have hhead : (cutL 32 (cutL 10 t)[i]).head? = some first := by rw [hcut]; rfl
    have hlen0 : 0 < (cutL 32 (cutL 10 t)[i]).length := by rw [hcut]; simp
    obtain ⟨q, hqa, _, hcq⟩ := hw8 0 _ hfirst
    refine NilC.mk q hqa ⟨by omega, by omega, str first, by simpa using hcq, ?_⟩
    intro J hJ
    -- behind the switch
    have tail : ∀ (v : World) (y : SpecW) (s' : SpecV), s' = refAdd s (cutL 10 t)[i] (cutL 32 (cutL 10 t)[i]) → RoundAt w6.heap.size w8 v y s' → J [] v := by
      intro v y s' hs' hv
      refine hJ v ?_
      have cQ : ∀ {v' : World} (j : Nat), Below v.heap.size v v' → v'.cell? ((nb w6).add j) = y.cells[j]? := by
        intro v' j hB
        have : v'.heap[w6.heap.size]? = some (.cells y.cells tSpec (0, 0)) := by rw [hB.block _ (Array.getElem?_eq_some_iff.1 hv.blk).1]; exact hv.blk
        exact cell_put this
      have hr0 := Below.refl v.heap.size v
      refine ⟨y.ranked, _, _, _, _, _, _, _, _, _, _, _, _, _, _, _, ⟨(by have := cQ 0 hr0; rw [add_zero] at this; exact this), cQ 1 hr0, cQ 2 hr0, cQ 3 hr0, cQ 4 hr0, cQ 5 hr0, trivial⟩, ?_⟩
      refine (refLines_spec y s' v hv.held hv.fit).mono ?_
      rintro e w10 ⟨pa, pc, rfl, hlines, h10⟩
      refine ⟨_, _, _, rfl, ?_⟩
      rintro w11 rfl
      have h11 : Below v.heap.size v w10.drew := h10.drew
      refine ⟨y.ranked, _, _, _, _, _, _, _, _, _, _, _, _, _, _, _, ⟨(by have := cQ 0 h11; rw [add_zero] at this; exact this), cQ 1 h11, cQ 2 h11, cQ 3 h11, cQ 4 h11, cQ 5 h11, trivial⟩, ?_⟩
      refine (refRight_spec y s' w10.drew (hv.held.on h11)).mono ?_
      rintro e w12 ⟨rfl, h12'⟩
      have h12 := below_then h11 h12'
      have hBv : Below w2.heap.size w2 v := hv.below _ w2 (by omega) hB8
      have hB12 : Below w2.heap.size w2 w12 := hBv.trans (h12.mono hBv.size)
      refine ⟨_, rfl, ?_⟩
      rw [List.drop_eq_getElem_cons hi', refAll, hline] at hrd
      have bad' : refLn s i (cutL 10 t)[i] = none → parseS t = .error (i + 1) := by
        intro hn
        rw [hn] at hrd
        rw [hrd] at hall
        unfold parseS
        cases hr : readAll {} 0 0 (cutL 10 t).dropLast with
        | ok z => rw [hr] at hall; cases hall
        | error m => rw [hr] at hall; cases hall; rfl
      have none_of : ¬ (s'.right = true ∧ s'.lines.length = i + 1 ∧ s'.lines[i]? = some (cutL 10 t)[i]) → refLn s i (cutL 10 t)[i] = none := by
        intro hn
        unfold refLn
        rw [← hs', if_neg hn]
      refine CondP.mk ?_ ?_
      · intro hc
        refine Ar.ok64 (by omega) (by omega) ?_
        have hp := bad' (none_of (by rintro ⟨e, _⟩; rw [e] at hc; simp at hc))
        refine ret_specK (fun y w7 => ∃ z : SpecW, Value.tuple #[y.v, .int .i64 ((i : Int) + 1)] = .tuple #[z.v, .int .i64 (parseNum t)] ∧ SpecAt w7 z (parseGot t) ∧ Below w.heap.size w w7) zeroX (kk hB12) rfl ?_
        intro w7 hB7 _
        exact bad (i + 1) hB12 hp w7 hB7
      intro hc
      have hc : s'.right = true := by simpa using hc
      refine Ar.ok64 (by omega) (by omega) (CondP.mk ?_ ?_)
      · intro hc2
        have hc2 : (s'.lines.length : Int) ≠ (i : Int) + 1 := by simpa using hc2
        refine Ar.ok64 (by omega) (by omega) ?_
        have hp := bad' (none_of (by rintro ⟨_, e, _⟩; omega))
        refine ret_specK (fun y w7 => ∃ z : SpecW, Value.tuple #[y.v, .int .i64 ((i : Int) + 1)] = .tuple #[z.v, .int .i64 (parseNum t)] ∧ SpecAt w7 z (parseGot t) ∧ Below w.heap.size w w7) zeroX (kk hB12) rfl ?_
        intro w7 hB7 _
        exact bad (i + 1) hB12 hp w7 hB7
      intro hc2
      have hc2 : (s'.lines.length : Int) = (i : Int) + 1 := by simpa using hc2
      have hil : i < s'.lines.length := by omega
      have hlines12 : StrRow w12 pa s'.lines := (hlines.on ((Below.refl _ _).drew)).on h12'
      obtain ⟨p1, hp1, _, hcp1⟩ := hlines12 i _ (List.getElem?_eq_getElem hil)
      obtain ⟨p2, hp2, _, hcp2⟩ := (hrow.on hB12) i _ (List.getElem?_eq_getElem hi2)
      refine NilC.mk p1 hp1 ⟨by omega, by omega, str s'.lines[i], by simpa using hcp1, ?_⟩
      refine NilC.mk p2 hp2 ⟨by omega, by omega, str (cutL 10 t)[i], by simpa using hcp2, ?_⟩
      rw [beq_str]
      refine CondP.mk ?_ ?_
      · intro hc3
        have hc3 : s'.lines[i] ≠ (cutL 10 t)[i] := by simpa using hc3
        refine Ar.ok64 (by omega) (by omega) ?_
        have hp := bad' (none_of (by rintro ⟨_, _, e⟩; rw [List.getElem?_eq_getElem hil] at e; exact hc3 (Option.some.inj e)))
        refine ret_specK (fun y w7 => ∃ z : SpecW, Value.tuple #[y.v, .int .i64 ((i : Int) + 1)] = .tuple #[z.v, .int .i64 (parseNum t)] ∧ SpecAt w7 z (parseGot t) ∧ Below w.heap.size w w7) zeroX (kk hB12) rfl ?_
        intro w7 hB7 _
        exact bad (i + 1) hB12 hp w7 hB7
      intro hc3
      have hc3 : s'.lines[i] = (cutL 10 t)[i] := by simpa using hc3
      have hln : refLn s i (cutL 10 t)[i] = some s' := by
        unfold refLn
        rw [← hs', if_pos ⟨hc, by omega, by rw [List.getElem?_eq_getElem hil, hc3]⟩]
      rw [hln] at hrd
      refine ⟨y.ranked, _, _, _, _, _, _, _, _, _, _, _, _, _, _, _, ⟨(by have := cQ 0 h12; rw [add_zero] at this; exact this), cQ 1 h12, cQ 2 h12, cQ 3 h12, cQ 4 h12, cQ 5 h12, trivial⟩, ?_⟩
      have hlt8 : w2.heap.size < w8.heap.size := (Array.getElem?_eq_some_iff.1 hP8).1
      have hP12 : w12.heap[w2.heap.size]? = some (.cells x.cells tSpec (0, 0)) := by
        rw [h12.block _ (by have := hv.size; omega), hv.keep _ hlt8 (by omega)]
        exact hP8
      refine storeP_block _ 0 w12 _ 0 hP12 (by simp) (by intro u hu; simp at hu; rcases hu with rfl | rfl | rfl | rfl | rfl | rfl <;> rfl) ?_
      intro w16 h16 hne hsz hB16
      refine Ar.ok64 (by omega) (by omega) (ih (y, s', w16) ⟨⟨?_, ?_, hv.ok, .inl hc, hB16 _ w2 (Nat.le_refl _) hB12⟩, hrd⟩)
      · dsimp only
        rw [h16]
        congr 2
      · exact (hv.held.on h12).past hP12 (spec_cells_soft x) (fun j _ hj => hne j hj) (by dsimp only; rw [hsz]; exact Nat.le_refl _)
    have ewVocab : ((str first).toList == (⟨#[118, 111, 99, 97, 98]⟩ : ByteArray).toList) = decide (first = wVocab) := by rw [show (⟨#[118, 111, 99, 97, 98]⟩ : ByteArray) = str wVocab from rfl, beq_str]
    have ewMerge : ((str first).toList == (⟨#[109, 101, 114, 103, 101]⟩ : ByteArray).toList) = decide (first = wMerge) := by rw [show (⟨#[109, 101, 114, 103, 101]⟩ : ByteArray) = str wMerge from rfl, beq_str]
    have ewToken : ((str first).toList == (⟨#[116, 111, 107, 101, 110]⟩ : ByteArray).toList) = decide (first = wToken) := by rw [show (⟨#[116, 111, 107, 101, 110]⟩ : ByteArray) = str wToken from rfl, beq_str]
    have ewSpecial : ((str first).toList == (⟨#[115, 112, 101, 99, 105, 97, 108]⟩ : ByteArray).toList) = decide (first = wSpecial) := by rw [show (⟨#[115, 112, 101, 99, 105, 97, 108]⟩ : ByteArray) = str wSpecial from rfl, beq_str]
    have ewClass : ((str first).toList == (⟨#[99, 108, 97, 115, 115]⟩ : ByteArray).toList) = decide (first = wClass) := by rw [show (⟨#[99, 108, 97, 115, 115]⟩ : ByteArray) = str wClass from rfl, beq_str]
    have ewJoin : ((str first).toList == (⟨#[106, 111, 105, 110]⟩ : ByteArray).toList) = decide (first = wJoin) := by rw [show (⟨#[106, 111, 105, 110]⟩ : ByteArray) = str wJoin from rfl, beq_str]
    refine CondP.mk ?_ ?_
    · intro hc
      rw [ewVocab] at hc
      have hf := of_decide_eq_true hc
      rw [hf] at hhead
      obtain ⟨p3, hp3, _, hcp3⟩ := (hrow.on hB8) i _ (List.getElem?_eq_getElem hi2)
      refine NilC.mk p3 hp3 ⟨by omega, by omega, str (cutL 10 t)[i], by simpa using hcp3, rfl, ⟨_, (cell_put (j := 0) hQ8).trans rfl⟩, frozen_put hQ8, ?_⟩
      rw [show (⟨#[118, 111, 99, 97, 98, 32, 114, 97, 110, 107, 115]⟩ : ByteArray) = str (headL true) from rfl, beq_str]
      rintro w9 rfl
      have hset : ∀ j, j ≠ w6.heap.size → (w8.setCell ((nb w6).add 0) (.bool (decide ((cutL 10 t)[i] = headL true)))).heap[j]? = w8.heap[j]? := fun j hj => heap_setCell_ne (by rw [add_block]; exact hj)
      refine tail _ { x with ranked := decide ((cutL 10 t)[i] = headL true) } _ rfl ⟨(heap_put (j := 0) hQ8 _).trans rfl, ?_, ⟨hR.ok.k1, hR.ok.k2, hR.ok.k3, hR.ok.k4, hR.ok.k5⟩, ?_, fun j _ hj => hset j hj, by rw [size_setCell]; exact Nat.le_refl _, fun B w0 hBQ h0 => below_put h0 hBQ _⟩
      · rw [add_head hhead]
        have h8' := hA8.past hQ8 (spec_cells_soft x) (fun j _ hj => hset j hj) (by rw [size_setCell]; exact Nat.le_refl _)
        exact ⟨rfl, h8'.n1, h8'.r1, h8'.n2, h8'.r2, h8'.n3, h8'.r3, h8'.n4, h8'.r4, h8'.n5, h8'.r5⟩
      · rw [add_head hhead]
        exact ⟨hfit.l1, hfit.l2, hfit.l3, hfit.l4, hfit.l5, hfit.m1, hfit.m2, hfit.m3, hfit.m4, hfit.m5⟩
    intro c0
    rw [ewVocab] at c0
    have c0 := of_decide_eq_false c0
    refine CondP.mk ?_ ?_
    · intro hc
      rw [ewMerge] at hc
      have hf := of_decide_eq_true hc
      rw [hf] at hhead
      intro w18 hw18
      have hP18 : w18.heap[w2.heap.size]? = some (.cells x.cells tSpec (0, 0)) := by rw [hw18, alloc_old w8 _ (Array.getElem?_eq_some_iff.1 hP8).1]; exact hP8
      refine ⟨_, _, _, (cell_put (j := 1) hP18).trans rfl, ?_⟩
      have hnk := hA8.n1
      obtain ⟨A, C, w19, hr19, hown19, hB19⟩ := copy_row (enc := encPair) (sz := 2) (fun _ => rfl) (Nat.succ_pos _) (by intro x u hu; simp [encPair] at hu; rcases hu with rfl | rfl <;> rfl) 23 tMg undMgs infoMg rfl w8 x.s1 s.merges hR.ok.k1 hA8.r1 hnk (by omega) (by omega) w18 hw18
      refine ⟨A, _, C, w19, hr19, ?_⟩
      refine (refAt_spec ca cc (cutL 32 (cutL 10 t)[i]) 1 w19 (hw8.on hB19) (fun y hy => Nat.le_trans (hwl y hy) (by omega)) (by omega)).mono ?_
      rintro e w20 ⟨rfl, h20⟩
      have hB20 := below_then hB19 h20
      refine ⟨_, rfl, ?_⟩
      refine (refAt_spec ca cc (cutL 32 (cutL 10 t)[i]) 2 w20 (hw8.on hB20) (fun y hy => Nat.le_trans (hwl y hy) (by omega)) (by omega)).mono ?_
      rintro e w21 ⟨rfl, h21⟩
      have hB21 := below_then hB20 h21
      refine ⟨_, rfl, ?_⟩
      intro w30 hw30
      have hown := own_on hown19 (show Below w19.heap.size w19 w21 from below_then h20 h21)
      obtain ⟨A', N', C', w31, hr31, hcell, hfr, hk⟩ := round_merges hQ8 hA8 hR.ok n1 hown hB21 (numAt (cutL 32 (cutL 10 t)[i]) 1, numAt (cutL 32 (cutL 10 t)[i]) 2) (fit_merges hfit n1 _ hwl) w30 hw30
      refine ⟨A', N', C', w31, hr31, rfl, hcell, hfr, ?_⟩
      intro w32 hw32
      obtain ⟨y, hy⟩ := hk w32 hw32
      exact tail w32 y _ (add_merges hhead).symm hy
    intro c1
    rw [ewMerge] at c1
    have c1 := of_decide_eq_false c1
    refine CondP.mk ?_ ?_
    · intro hc
      rw [ewToken] at hc
      have hf := of_decide_eq_true hc
      rw [hf] at hhead
      intro w18 hw18
      have hP18 : w18.heap[w2.heap.size]? = some (.cells x.cells tSpec (0, 0)) := by rw [hw18, alloc_old w8 _ (Array.getElem?_eq_some_iff.1 hP8).1]; exact hP8
      refine ⟨_, _, _, (cell_put (j := 2) hP18).trans rfl, ?_⟩
      have hnk := hA8.n2
      obtain ⟨A, C, w19, hr19, hown19, hB19⟩ := copy_row (enc := encStr) (sz := 1) (fun _ => rfl) (Nat.succ_pos _) (by intro x u hu; simp [encStr] at hu; rcases hu with rfl; rfl) tStrs tStr undStrs infoStr rfl w8 x.s2 s.tokens hR.ok.k2 hA8.r2 hnk (by omega) (by omega) w18 hw18
      refine ⟨A, _, C, w19, hr19, ?_⟩
      refine (refHexAt_spec ca cc (cutL 32 (cutL 10 t)[i]) 1 w19 (hw8.on hB19) (fun y hy => Nat.le_trans (hwl y hy) (by omega)) (by omega)).mono ?_
      rintro e w20 ⟨rfl, h20⟩
      have hB20 := below_then hB19 h20
      refine ⟨_, rfl, ?_⟩
      intro w30 hw30
      have hown := own_on hown19 (show Below w19.heap.size w19 w20 from h20)
      obtain ⟨A', N', C', w31, hr31, hcell, hfr, hk⟩ := round_tokens hQ8 hA8 hR.ok n2 hown hB20 (hexAt (cutL 32 (cutL 10 t)[i]) 1) (fit_tokens hfit n2 _ hwl) w30 hw30
      refine ⟨A', N', C', w31, hr31, rfl, hcell, hfr, ?_⟩
      intro w32 hw32
      obtain ⟨y, hy⟩ := hk w32 hw32
      exact tail w32 y _ (add_tokens hhead).symm hy
    intro c2
    rw [ewToken] at c2
    have c2 := of_decide_eq_false c2
    refine CondP.mk ?_ ?_
    · intro hc
      rw [ewSpecial] at hc
      have hf := of_decide_eq_true hc
      rw [hf] at hhead
      intro w18 hw18
      have hP18 : w18.heap[w2.heap.size]? = some (.cells x.cells tSpec (0, 0)) := by rw [hw18, alloc_old w8 _ (Array.getElem?_eq_some_iff.1 hP8).1]; exact hP8
      refine ⟨_, _, _, (cell_put (j := 3) hP18).trans rfl, ?_⟩
      have hnk := hA8.n3
      obtain ⟨A, C, w19, hr19, hown19, hB19⟩ := copy_row (enc := encSpecial) (sz := 2) (fun _ => rfl) (Nat.succ_pos _) (by intro x u hu; simp [encSpecial] at hu; rcases hu with rfl | rfl <;> rfl) 25 tSp undSps infoSp rfl w8 x.s3 s.specials hR.ok.k3 hA8.r3 hnk (by omega) (by omega) w18 hw18
      refine ⟨A, _, C, w19, hr19, ?_⟩
      refine (refAt_spec ca cc (cutL 32 (cutL 10 t)[i]) 1 w19 (hw8.on hB19) (fun y hy => Nat.le_trans (hwl y hy) (by omega)) (by omega)).mono ?_
      rintro e w20 ⟨rfl, h20⟩
      have hB20 := below_then hB19 h20
      refine ⟨_, rfl, ?_⟩
      refine (refHexAt_spec ca cc (cutL 32 (cutL 10 t)[i]) 2 w20 (hw8.on hB20) (fun y hy => Nat.le_trans (hwl y hy) (by omega)) (by omega)).mono ?_
      rintro e w21 ⟨rfl, h21⟩
      have hB21 := below_then hB20 h21
      refine ⟨_, rfl, ?_⟩
      intro w30 hw30
      have hown := own_on hown19 (show Below w19.heap.size w19 w21 from below_then h20 h21)
      obtain ⟨A', N', C', w31, hr31, hcell, hfr, hk⟩ := round_specials hQ8 hA8 hR.ok n3 hown hB21 (numAt (cutL 32 (cutL 10 t)[i]) 1, hexAt (cutL 32 (cutL 10 t)[i]) 2) (fit_specials hfit n3 _ hwl) w30 hw30
      refine ⟨A', N', C', w31, hr31, rfl, hcell, hfr, ?_⟩
      intro w32 hw32
      obtain ⟨y, hy⟩ := hk w32 hw32
      exact tail w32 y _ (add_specials hhead).symm hy
    intro c3
    rw [ewSpecial] at c3
    have c3 := of_decide_eq_false c3
    refine CondP.mk ?_ ?_
    · intro hc
      rw [ewClass] at hc
      have hf := of_decide_eq_true hc
      rw [hf] at hhead
      intro w18 hw18
      have hP18 : w18.heap[w2.heap.size]? = some (.cells x.cells tSpec (0, 0)) := by rw [hw18, alloc_old w8 _ (Array.getElem?_eq_some_iff.1 hP8).1]; exact hP8
      refine ⟨_, _, _, (cell_put (j := 4) hP18).trans rfl, ?_⟩
      have hnk := hA8.n4
      obtain ⟨A, C, w19, hr19, hown19, hB19⟩ := copy_row (enc := encClass) (sz := 3) (fun _ => rfl) (Nat.succ_pos _) (by intro x u hu; simp [encClass] at hu; rcases hu with rfl | rfl | rfl <;> rfl) 26 tCl undCls infoCl rfl w8 x.s4 s.classes hR.ok.k4 hA8.r4 hnk (by omega) (by omega) w18 hw18
      refine ⟨A, _, C, w19, hr19, ?_⟩
      refine (refAt_spec ca cc (cutL 32 (cutL 10 t)[i]) 1 w19 (hw8.on hB19) (fun y hy => Nat.le_trans (hwl y hy) (by omega)) (by omega)).mono ?_
      rintro e w20 ⟨rfl, h20⟩
      have hB20 := below_then hB19 h20
      refine ⟨_, rfl, ?_⟩
      refine (refAt_spec ca cc (cutL 32 (cutL 10 t)[i]) 2 w20 (hw8.on hB20) (fun y hy => Nat.le_trans (hwl y hy) (by omega)) (by omega)).mono ?_
      rintro e w21 ⟨rfl, h21⟩
      have hB21 := below_then hB20 h21
      refine ⟨_, rfl, ?_⟩
      refine (refAt_spec ca cc (cutL 32 (cutL 10 t)[i]) 3 w21 (hw8.on hB21) (fun y hy => Nat.le_trans (hwl y hy) (by omega)) (by omega)).mono ?_
      rintro e w22 ⟨rfl, h22⟩
      have hB22 := below_then hB21 h22
      refine ⟨_, rfl, ?_⟩
      intro w30 hw30
      have hown := own_on hown19 (show Below w19.heap.size w19 w22 from below_then (below_then h20 h21) h22)
      obtain ⟨A', N', C', w31, hr31, hcell, hfr, hk⟩ := round_classes hQ8 hA8 hR.ok n4 hown hB22 (numAt (cutL 32 (cutL 10 t)[i]) 1, numAt (cutL 32 (cutL 10 t)[i]) 2, numAt (cutL 32 (cutL 10 t)[i]) 3) (fit_classes hfit n4 _ hwl) w30 hw30
      refine ⟨A', N', C', w31, hr31, rfl, hcell, hfr, ?_⟩
      intro w32 hw32
      obtain ⟨y, hy⟩ := hk w32 hw32
      exact tail w32 y _ (add_classes hhead).symm hy
    intro c4
    rw [ewClass] at c4
    have c4 := of_decide_eq_false c4
    refine CondP.mk ?_ ?_
    · intro hc
      rw [ewJoin] at hc
      have hf := of_decide_eq_true hc
      rw [hf] at hhead
      intro w18 hw18
      have hP18 : w18.heap[w2.heap.size]? = some (.cells x.cells tSpec (0, 0)) := by rw [hw18, alloc_old w8 _ (Array.getElem?_eq_some_iff.1 hP8).1]; exact hP8
      refine ⟨_, _, _, (cell_put (j := 5) hP18).trans rfl, ?_⟩
      have hnk := hA8.n5
      obtain ⟨A, C, w19, hr19, hown19, hB19⟩ := copy_row (enc := encPair) (sz := 2) (fun _ => rfl) (Nat.succ_pos _) (by intro x u hu; simp [encPair] at hu; rcases hu with rfl | rfl <;> rfl) 27 tJn undJns infoJn rfl w8 x.s5 s.joins hR.ok.k5 hA8.r5 hnk (by omega) (by omega) w18 hw18
      refine ⟨A, _, C, w19, hr19, ?_⟩
      refine (refAt_spec ca cc (cutL 32 (cutL 10 t)[i]) 1 w19 (hw8.on hB19) (fun y hy => Nat.le_trans (hwl y hy) (by omega)) (by omega)).mono ?_
      rintro e w20 ⟨rfl, h20⟩
      have hB20 := below_then hB19 h20
      refine ⟨_, rfl, ?_⟩
      refine (refAt_spec ca cc (cutL 32 (cutL 10 t)[i]) 2 w20 (hw8.on hB20) (fun y hy => Nat.le_trans (hwl y hy) (by omega)) (by omega)).mono ?_
      rintro e w21 ⟨rfl, h21⟩
      have hB21 := below_then hB20 h21
      refine ⟨_, rfl, ?_⟩
      intro w30 hw30
      have hown := own_on hown19 (show Below w19.heap.size w19 w21 from below_then h20 h21)
      obtain ⟨A', N', C', w31, hr31, hcell, hfr, hk⟩ := round_joins hQ8 hA8 hR.ok n5 hown hB21 (numAt (cutL 32 (cutL 10 t)[i]) 1, numAt (cutL 32 (cutL 10 t)[i]) 2) (fit_joins hfit n5 _ hwl) w30 hw30
      refine ⟨A', N', C', w31, hr31, rfl, hcell, hfr, ?_⟩
      intro w32 hw32
      obtain ⟨y, hy⟩ := hk w32 hw32
      exact tail w32 y _ (add_joins hhead).symm hy
    intro c5
    rw [ewJoin] at c5
    have c5 := of_decide_eq_false c5
    refine tail w8 x s (add_none (by rw [hhead]; intro e; cases e; exact c0 rfl) (by rw [hhead]; intro e; cases e; exact c1 rfl) (by rw [hhead]; intro e; cases e; exact c2 rfl) (by rw [hhead]; intro e; cases e; exact c3 rfl) (by rw [hhead]; intro e; cases e; exact c4 rfl) (by rw [hhead]; intro e; cases e; exact c5 rfl)).symm ⟨hQ8, hA8, hR.ok, hfit, fun _ _ _ => rfl, Nat.le_refl _, fun _ _ _ h => h⟩
  · rintro ⟨x, s, w5⟩ ⟨hR, hrd⟩
    dsimp only at hR hrd
    refine hI _ _ _ (Ar.ok64 (by omega) (by omega) (CondP.no (decide_eq_false (by omega)) ?_))
    rw [List.drop_eq_nil_of_le (by omega), refAll] at hrd
    obtain ⟨z, hz, hzs⟩ : ∃ z, readAll {} 0 0 (cutL 10 t).dropLast = .ok z ∧ z.1 = s := by
      rw [hrd] at hall
      cases hr : readAll {} 0 0 (cutL 10 t).dropLast with
      | ok z => rw [hr] at hall; cases hall; exact ⟨z, rfl, rfl⟩
      | error m => rw [hr] at hall; cases hall
    have hps : parseS t = if (cutL 10 t).getLast? = some [] ∧ (cutL 10 t).dropLast ≠ [] then .ok s else .error (cutL 10 t).length := by
      unfold parseS
      rw [hz]
      dsimp only
      rw [hzs]
    have hnil : (cutL 10 t).dropLast ≠ [] ↔ ¬ (cutL 10 t).length < 2 := by
      rw [← List.length_pos_iff, hdl]
      omega
    refine CondP.mk ?_ ?_
    · intro hc
      have hc := of_decide_eq_true hc
      have hp : parseS t = .error (cutL 10 t).length := by rw [hps, if_neg (fun e => hnil.1 e.2 (by omega))]
      refine ret_specK (fun y w7 => ∃ z : SpecW, Value.tuple #[y.v, .int .i64 ((cutL 10 t).length : Int)] = .tuple #[z.v, .int .i64 (parseNum t)] ∧ SpecAt w7 z (parseGot t) ∧ Below w.heap.size w w7) zeroX (kk hR.below) rfl ?_
      intro w7 hB7 _
      exact bad _ hR.below hp w7 hB7
    · intro hc
      have hc := of_decide_eq_false hc
      refine Ar.ok64 (by omega) (by omega) ?_
      have hlast : (cutL 10 t).length - 1 < (cutL 10 t).length := by omega
      obtain ⟨p, hpa, _, hcp⟩ := (hrow.on hR.below) ((cutL 10 t).length - 1) _ (List.getElem?_eq_getElem hlast)
      have hidx : (((cutL 10 t).length : Int) - 1).toNat = (cutL 10 t).length - 1 := by omega
      refine NilC.mk p hpa ⟨by omega, by omega, str (cutL 10 t)[(cutL 10 t).length - 1], by rw [hidx, Nat.mul_one]; exact hcp, ?_⟩
      rw [beq_nil]
      have hgl : (cutL 10 t).getLast? = some (cutL 10 t)[(cutL 10 t).length - 1] := by rw [List.getLast?_eq_getElem?, List.getElem?_eq_getElem hlast]
      refine CondP.mk ?_ ?_
      · intro hc2
        have hc2 : (cutL 10 t)[(cutL 10 t).length - 1] ≠ [] := by simpa using hc2
        have hp : parseS t = .error (cutL 10 t).length := by rw [hps, if_neg (fun e => hc2 (by have := e.1; rw [hgl] at this; exact Option.some.inj this))]
        refine ret_specK (fun y w7 => ∃ z : SpecW, Value.tuple #[y.v, .int .i64 ((cutL 10 t).length : Int)] = .tuple #[z.v, .int .i64 (parseNum t)] ∧ SpecAt w7 z (parseGot t) ∧ Below w.heap.size w w7) zeroX (kk hR.below) rfl ?_
        intro w7 hB7 _
        exact bad _ hR.below hp w7 hB7
      · intro hc2
        have hc2 : (cutL 10 t)[(cutL 10 t).length - 1] = [] := by simpa using hc2
        have hp : parseS t = .ok s := by rw [hps, if_pos ⟨by rw [hgl, hc2], hnil.2 (by omega)⟩]
        have cP : ∀ j v, x.cells[j]? = some v → w5.cell? ((nb w2).add j) = some v := by
          intro j v hv
          rw [cell_put hR.blk, hv]
        refine ⟨x.ranked, _, _, _, _, _, _, _, _, _, _, _, _, _, _, _, ⟨(by have := cP 0 _ rfl; rw [add_zero] at this; exact this), cP 1 _ rfl, cP 2 _ rfl, cP 3 _ rfl, cP 4 _ rfl, cP 5 _ rfl, trivial⟩, ?_⟩
        refine ret_specK (fun y w7 => ∃ z : SpecW, Value.tuple #[y.v, .int .i64 0] = .tuple #[z.v, .int .i64 (parseNum t)] ∧ SpecAt w7 z (parseGot t) ∧ Below w.heap.size w w7) x (kk hR.below) rfl ?_
        intro w7 hB7 hne
        refine ⟨x, ?_, ?_, hB7 w (bel hR.below)⟩
        · unfold parseNum; rw [hp]
        · unfold parseGot
          rw [hp]
          exact hR.held.past (kk hR.below) (spec_cells_soft zeroX) (fun j _ hj => hne j hj) (hB7 w5 (Below.refl _ _)).size
end Go.Proofs.YtldgehlbicoedaaGreatDoor.Eng
