/- CanonNone, walked by the engine. -/
import Derived.Test.YtpklkijdlnioaaaGreatZhCn
set_option linter.unusedVariables false
set_option linter.unusedSimpArgs false
set_option maxRecDepth 100000
namespace Go.Proofs.YtpklkijdlnioaaaGreat.Eng
open Go Go.RowKit
def sAw : SpecV := { merges := [(97, 98)] }
def tAw : List Ent := begins ++ [([97, 98], (97, 98))]
theorem right_aw : sAw.right = true := by decide +kernel
theorem build_aw : buildV sAw = .ok tAw := by
  have h : (match buildV sAw with | .ok t => decide (t = tAw) | .error _ => false) = true := by decide +kernel
  cases hx : buildV sAw with
  | error q => rw [hx] at h; cases h
  | ok t => rw [hx] at h; rw [of_decide_eq_true h]
theorem specAt_aw (w w1 : World) (hw1 : w1 = w.alloc (.cells #[Value.int .i64 97, Value.int .i64 98] tMg)) : SpecAt w1 ⟨false, ⟨some (nb w), 1, 1⟩, ⟨none, 0, 0⟩, ⟨none, 0, 0⟩, ⟨none, 0, 0⟩, ⟨none, 0, 0⟩⟩ sAw := by
  have l1 : w1.heap[w.heap.size]? = some (.cells #[Value.int .i64 97, Value.int .i64 98] tMg (0, 0)) := by subst hw1; exact alloc_new _ _
  have none_ : ∀ {α : Type} {enc : α → List Value} {sz : Nat}, Rw enc sz w1 none [] := fun j x hj => by simp at hj
  refine ⟨rfl, rfl, fun j x hj => ?_, rfl, none_, rfl, none_, rfl, none_, rfl, none_⟩
  have hj0 : j = 0 := by
    have := (List.getElem?_eq_some_iff.1 hj).1
    simp [sAw] at this
    exact this
  subst hj0
  have hx : x = (97, 98) := by simpa [sAw] using hj.symm
  subst hx
  refine ⟨nb w, rfl, (Array.getElem?_eq_some_iff.1 l1).1, fun k v hk => ?_⟩
  rw [Nat.zero_mul, add_zero, ptr_add0 _ _ l1]
  match k, hk with
  | 0, hk => cases hk; rfl
  | 1, hk => cases hk; rfl
theorem intsAt (w w1 : World) (xs : List Int) (c : Array Value) (hc : c = (xs.map fun n => Value.int .i64 n).toArray) (hw1 : w1 = w.alloc (.cells c tInt)) : Rw encInt 1 w1 (some (nb w)) xs := by
  intro j x hj
  have l1 : w1.heap[w.heap.size]? = some (.cells c tInt (0, 0)) := by subst hw1; exact alloc_new _ _
  refine ⟨nb w, rfl, (Array.getElem?_eq_some_iff.1 l1).1, fun k v hk => ?_⟩
  match k, hk with
  | 0, hk =>
    cases hk
    rw [add_zero, Nat.mul_one, ptr_add0 _ _ l1, hc]
    simp [hj]
end Go.Proofs.YtpklkijdlnioaaaGreat.Eng
