/- Bits in words; in plain Lean. -/
import Derived.Test.YtpklkijdlnioaaaGreatZhPd
set_option linter.unusedVariables false
namespace Go.Proofs.YtpklkijdlnioaaaGreat.Eng
/-- A number of the bits that a function tells. -/
def bitsN (f : Nat → Bool) : Nat → Nat
  | 0 => 0
  | m + 1 => bitsN f m ||| (if f m then 2 ^ m else 0)
theorem bitsN_test (f : Nat → Bool) : ∀ m j, (bitsN f m).testBit j = (decide (j < m) && f j)
  | 0, j => by simp [bitsN]
  | m + 1, j => by
    rw [bitsN, Nat.testBit_or, bitsN_test f m j]
    by_cases h : f m = true
    · rw [if_pos h, Nat.testBit_two_pow]
      by_cases e : m = j
      · subst e; simp [h]
      · by_cases e2 : j < m
        · simp [e, e2, show j < m + 1 by omega]
        · simp [e, e2, show ¬ j < m + 1 by omega]
    · rw [if_neg h, Nat.zero_testBit]
      by_cases e : j = m
      · subst e; simp [h]
      · by_cases e2 : j < m
        · simp [e2, show j < m + 1 by omega]
        · simp [e2, show ¬ j < m + 1 by omega]
theorem bitsN_lt (f : Nat → Bool) (m : Nat) : bitsN f m < 2 ^ m := by
  apply Nat.lt_pow_two_of_testBit
  intro j hj
  rw [bitsN_test, decide_eq_false (by omega)]
  rfl
theorem bitsN_congr {f g : Nat → Bool} {m : Nat} (h : ∀ j, j < m → f j = g j) : bitsN f m = bitsN g m := by
  apply Nat.eq_of_testBit_eq
  intro j
  rw [bitsN_test, bitsN_test]
  by_cases hj : j < m
  · rw [h j hj]
  · simp [hj]
/-- The k-th word of n bits. -/
def wordAt (n : Nat) (p : Nat → Bool) (k : Nat) : Nat := bitsN (fun j => decide (64 * k + j < n) && p (64 * k + j)) 64
def wordsOf (n : Nat) (p : Nat → Bool) : List Int := (List.range ((n + 63) / 64)).map fun k => ((wordAt n p k : Nat) : Int)
theorem wordsOf_length (n : Nat) (p : Nat → Bool) : (wordsOf n p).length = (n + 63) / 64 := by simp [wordsOf]
theorem wordsOf_get (n : Nat) (p : Nat → Bool) {k : Nat} (hk : k < (n + 63) / 64) : (wordsOf n p)[k]? = some ((wordAt n p k : Nat) : Int) := by simp [wordsOf, hk]
theorem wordAt_lt (n : Nat) (p : Nat → Bool) (k : Nat) : wordAt n p k < 2 ^ 64 := bitsN_lt _ _
theorem wordAt_test (n : Nat) (p : Nat → Bool) {i : Nat} (hi : i < n) : (wordAt n p (i / 64)).testBit (i % 64) = p i := by
  rw [wordAt, bitsN_test]
  have h1 : i % 64 < 64 := Nat.mod_lt _ (by decide)
  have h2 : 64 * (i / 64) + i % 64 = i := by omega
  simp [h1, h2, hi]
/-- One bit more. -/
theorem wordAt_more (n : Nat) (p : Nat → Bool) {i : Nat} (hi : i < n) (hp : p i = true) (k : Nat) : wordAt n (fun j => p j && decide (j < i + 1)) k = if k = i / 64 then wordAt n (fun j => p j && decide (j < i)) k ||| 2 ^ (i % 64) else wordAt n (fun j => p j && decide (j < i)) k := by
  apply Nat.eq_of_testBit_eq
  intro j
  unfold wordAt
  by_cases hk : k = i / 64
  · rw [if_pos hk, Nat.testBit_or, bitsN_test, bitsN_test, Nat.testBit_two_pow]
    by_cases hj : j < 64
    · by_cases e : i % 64 = j
      · have : 64 * k + j = i := by omega
        simp [hj, e, this, hi, hp]
      · have hne : 64 * k + j ≠ i := by omega
        simp only [hj, e, decide_true, decide_false, Bool.true_and, Bool.or_false]
        congr 2
        exact decide_eq_decide.2 (by omega)
    · have : i % 64 ≠ j := by omega
      simp [hj, this]
  · rw [if_neg hk, bitsN_test, bitsN_test]
    by_cases hj : j < 64
    · have hne : 64 * k + j ≠ i := by omega
      simp only [hj, decide_true, Bool.true_and]
      congr 2
      exact decide_eq_decide.2 (by omega)
    · simp [hj]
theorem wordAt_less (n : Nat) (p : Nat → Bool) {i : Nat} (hp : p i = false) (k : Nat) : wordAt n (fun j => p j && decide (j < i + 1)) k = wordAt n (fun j => p j && decide (j < i)) k := by
  unfold wordAt
  apply bitsN_congr
  intro j _
  congr 1
  by_cases e : 64 * k + j = i
  · simp [e, hp]
  · have h2 : decide (64 * k + j < i + 1) = decide (64 * k + j < i) := decide_eq_decide.2 ⟨fun h => by omega, fun h => by omega⟩
    simp only [h2]
theorem wordsOf_more (n : Nat) (p : Nat → Bool) {i : Nat} (hi : i < n) (hp : p i = true) : wordsOf n (fun j => p j && decide (j < i + 1)) = (wordsOf n (fun j => p j && decide (j < i))).set (i / 64) (((wordAt n (fun j => p j && decide (j < i)) (i / 64) ||| 2 ^ (i % 64) : Nat)) : Int) := by
  apply List.ext_getElem
  · rw [List.length_set, wordsOf_length, wordsOf_length]
  · intro k h1 h2
    rw [List.getElem_set]
    rw [wordsOf_length] at h1
    by_cases e : i / 64 = k
    · rw [if_pos e]
      simp only [wordsOf, List.getElem_map, List.getElem_range]
      rw [wordAt_more n p hi hp, if_pos e.symm, e]
    · rw [if_neg e]
      simp only [wordsOf, List.getElem_map, List.getElem_range]
      rw [wordAt_more n p hi hp, if_neg (fun h => e h.symm)]
theorem wordsOf_less (n : Nat) (p : Nat → Bool) {i : Nat} (hp : p i = false) : wordsOf n (fun j => p j && decide (j < i + 1)) = wordsOf n (fun j => p j && decide (j < i)) := by
  unfold wordsOf
  apply List.map_congr_left
  intro k _
  rw [wordAt_less n p hp]
theorem wordsOf_none (n : Nat) (p : Nat → Bool) : wordsOf n (fun j => p j && decide (j < 0)) = List.replicate ((n + 63) / 64) 0 := by
  apply List.ext_getElem
  · rw [wordsOf_length, List.length_replicate]
  · intro k h1 h2
    simp only [wordsOf, List.getElem_map, List.getElem_range, List.getElem_replicate]
    have : wordAt n (fun j => p j && decide (j < 0)) k = 0 := by
      apply Nat.eq_of_testBit_eq
      intro j
      unfold wordAt
      rw [bitsN_test]
      simp
    rw [this]
    rfl
theorem wordsOf_all (n : Nat) (p : Nat → Bool) : wordsOf n (fun j => p j && decide (j < n)) = wordsOf n p := by
  unfold wordsOf
  apply List.map_congr_left
  intro k _
  congr 1
  unfold wordAt
  apply bitsN_congr
  intro j _
  by_cases e : 64 * k + j < n <;> simp [e]
end Go.Proofs.YtpklkijdlnioaaaGreat.Eng
