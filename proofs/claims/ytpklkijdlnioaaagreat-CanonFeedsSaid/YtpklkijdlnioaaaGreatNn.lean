/- CanonNone, walked by the engine. -/
import Derived.Test.YtpklkijdlnioaaaGreatCn
set_option linter.unusedVariables false
set_option linter.unusedSimpArgs false
set_option maxRecDepth 100000
namespace Go.Proofs.YtpklkijdlnioaaaGreat.Eng
open Go Go.RowKit

def sAw : SpecV := { merges := [(97, 98)] }
def tAw : List Ent := begins ++ [([97, 98], (97, 98))]
theorem right_aw : sAw.right = true := by decide +kernel
theorem build_aw : buildV sAw = .ok tAw := by
  have h : (match buildV sAw with | .ok t => decide (t = tAw) | .error _ => false) = true := by decide +kernel
  cases hx : buildV sAw with
  | error q => rw [hx] at h; cases h
  | ok t => rw [hx] at h; rw [of_decide_eq_true h]
theorem aw1 : (vocOf sAw tAw).Canon [97] := by decide +kernel
theorem aw2 : ¬ (vocOf sAw tAw).Canon [97, 98] := by decide +kernel
theorem aw3 : (vocOf sAw tAw).Canon [256] ∧ (vocOf sAw tAw).Canon [256, 98] ∧ (vocOf sAw tAw).Canon [256, 98, 97] := by decide +kernel
theorem aw4 : readyV sAw tAw [97, 98] = (0, 0) ∧ readyV sAw tAw [256, 98, 97] = (0, 0) := by decide +kernel
theorem specAt_aw (w w1 : World) (hw1 : w1 = w.alloc (.cells #[Value.int .i64 97, Value.int .i64 98] tMg)) : SpecAt w1 ⟨false, ⟨some (nb w), 1, 1⟩, ⟨none, 0, 0⟩, ⟨none, 0, 0⟩, ⟨none, 0, 0⟩, ⟨none, 0, 0⟩⟩ sAw := by
  have l1 : w1.heap[w.heap.size]? = some (.cells #[Value.int .i64 97, Value.int .i64 98] tMg (0, 0)) := by subst hw1; exact alloc_new _ _
  have none_ : ∀ {α : Type} {enc : α → List Value} {sz : Nat}, Rw enc sz w1 none [] := fun j x hj => by simp at hj
  refine ⟨rfl, rfl, fun j x hj => ?_, rfl, none_, rfl, none_, rfl, none_, rfl, none_⟩
  have hj0 : j = 0 := by
    have := (List.getElem?_eq_some_iff.1 hj).1
    simp [sAw] at this
    exact this
  subst hj0
  have hx : x = (97, 98) := by simpa [sAw] using hj.symm
  subst hx
  refine ⟨nb w, rfl, (Array.getElem?_eq_some_iff.1 l1).1, fun k v hk => ?_⟩
  rw [Nat.zero_mul, add_zero, ptr_add0 _ _ l1]
  match k, hk with
  | 0, hk => cases hk; rfl
  | 1, hk => cases hk; rfl
theorem intsAt (w w1 : World) (xs : List Int) (c : Array Value) (hc : c = (xs.map fun n => Value.int .i64 n).toArray) (hw1 : w1 = w.alloc (.cells c tInt)) : Rw encInt 1 w1 (some (nb w)) xs := by
  intro j x hj
  have l1 : w1.heap[w.heap.size]? = some (.cells c tInt (0, 0)) := by subst hw1; exact alloc_new _ _
  refine ⟨nb w, rfl, (Array.getElem?_eq_some_iff.1 l1).1, fun k v hk => ?_⟩
  match k, hk with
  | 0, hk =>
    cases hk
    rw [add_zero, Nat.mul_one, ptr_add0 _ _ l1, hc]
    simp [hj]
theorem awake18_spec (w : World) : Calls Tryz.prog 16 #[] w fun e w' => e = .returned (.bool true) ∧ Below w.heap.size w w' := by
  refine calls_ret (vc16_calls w (fun u w' => u = .bool true ∧ Below w.heap.size w w') ?_) (by rintro v w' ⟨rfl, h⟩; exact ⟨rfl, h⟩)
  intro w1 hw1
  have hb1 : Below w.heap.size w w1 := by subst hw1; exact below_alloc _ _
  refine (vocabNew_spec w1 _ sAw (specAt_aw w w1 hw1)).mono ?_
  rintro e w2 ⟨u, rfl, hb2, hp⟩
  rw [if_pos right_aw, build_aw] at hp
  obtain ⟨v, rfl, hV, hv⟩ := hp
  have hb12 := below_then hb1 hb2
  have hz1 := hb1.size
  refine ⟨_, _, _, rfl, ?_⟩
  intro w3 hw3
  have hb3 : Below w2.heap.size w2 w3 := by subst hw3; exact below_alloc _ _
  have hvl : v < w2.heap.size := by
    obtain ⟨w0, x, tp, bp, mp, d, l, uses, hR⟩ := hV
    exact (Array.getElem?_eq_some_iff.1 hR.blk).1
  have hB3 := below_then hb12 hb3
  refine (check_spec w3 v sAw tAw (hV.on hb3) (some (nb w2)) 2 [97, 98] (intsAt w2 w3 [97, 98] _ rfl hw3) (by rintro _ p hp; cases hp; show w2.heap.size ≠ v; omega)).mono ?_
  rintro e w4 ⟨hV4, t4, h4⟩
  obtain ⟨hr, _, o, ho, rfl⟩ := h4.resolve_left (fun h => h.1 (by rw [aw4.1]))
  have ho1 : o = some 1 := by
    cases o with
    | none => exact absurd ho aw2
    | some k =>
      obtain ⟨hk, h1, h2⟩ := ho
      match k, hk, h2 with
      | 0, _, h2 => exact absurd aw1 h2
      | 1, _, _ => rfl
  subst ho1
  refine ⟨_, _, rfl, ?_⟩
  intro w5 hw5
  have hb5 : Below w4.heap.size w4 w5 := by subst hw5; exact below_alloc _ _
  have hz4 := t4.size
  have hz3 := hb3.size
  refine (check_spec w5 v sAw tAw (hV4.on hb5) (some (nb w4)) 3 [256, 98, 97] (intsAt w4 w5 [256, 98, 97] _ rfl hw5) (by rintro _ p hp; cases hp; show w4.heap.size ≠ v; omega)).mono ?_
  rintro e w6 ⟨hV6, t6, h6⟩
  obtain ⟨hr6, _, o6, ho6, rfl⟩ := h6.resolve_left (fun h => h.1 (by rw [aw4.2]))
  have ho2 : o6 = none := by
    cases o6 with
    | none => rfl
    | some k =>
      obtain ⟨hk, h1, h2⟩ := ho6
      match k, hk, h2 with
      | 0, _, h2 => exact absurd aw3.1 h2
      | 1, _, h2 => exact absurd aw3.2.1 h2
      | 2, _, h2 => exact absurd aw3.2.2 h2
  subst ho2
  refine ⟨_, _, rfl, CondP.yes rfl (CondP.yes rfl (CondP.yes rfl ⟨rfl, ?_⟩))⟩
  have hB4 : Below w.heap.size w w4 := hB3.trans (t4.below (by omega) hB3.size)
  have hB5 := hB4.trans (hb5.mono hB4.size)
  exact hB5.trans (t6.below (by omega) hB5.size)
theorem CanonNone_spec (A : Option Addr) (N C : Nat) (w : World) : Calls Tryz.prog 7 #[.slice A N C] w fun e w' => e = .returned (.bool true) ∧ Below w.heap.size w w' := by
  refine calls_ret (vc7_calls A N C w (fun u w' => u = .bool true ∧ Below w.heap.size w w') ?_) (by rintro v w' ⟨rfl, h⟩; exact ⟨rfl, h⟩)
  refine CondP.mk (fun _ => ?_) fun _ => ?_
  · refine (awake18_spec w).mono ?_
    rintro e w1 ⟨rfl, hb⟩
    exact ⟨_, rfl, rfl, hb⟩
  · refine (check_nil w A N C).mono ?_
    rintro e w2 ⟨rfl, b2⟩
    refine ⟨_, _, rfl, (again_nil w2 A N C).mono ?_⟩
    rintro e w3 ⟨rfl, b3⟩
    refine ⟨_, _, rfl, (canonNew_nil w3).mono ?_⟩
    rintro e w4 ⟨rfl, hw⟩
    subst hw
    refine ⟨_, rfl, (feed_nil w4 A N C).mono ?_⟩
    rintro e w5 ⟨rfl, b5⟩
    refine ⟨_, _, rfl, (reset_nil w5).mono ?_⟩
    rintro e w6 ⟨rfl, hw⟩
    subst hw
    have b := below_then (below_then b2 b3) b5
    refine ⟨rfl, CondP.yes rfl (CondP.yes rfl (CondP.yes rfl (CondP.yes rfl (CondP.yes rfl (CondP.yes rfl (CondP.yes rfl ((offence_nil w6).mono ?_)))))))⟩
    rintro e w7 ⟨rfl, hw⟩
    subst hw
    refine ⟨_, rfl, CondP.yes rfl ((count_nil w7).mono ?_)⟩
    rintro e w8 ⟨rfl, hw⟩
    subst hw
    refine ⟨_, rfl, CondP.yes rfl ((awake18_spec w8).mono ?_)⟩
    rintro e w9 ⟨rfl, b9⟩
    exact ⟨_, rfl, rfl, below_then b b9⟩
end Go.Proofs.YtpklkijdlnioaaaGreat.Eng
