/- Texts cut at a byte, in plain Lean: no program in sight. -/
import Derived.Lib.SplitLaws
import Derived.Lib.CountLaws
import Derived.Lib.Split
import Derived.Lib.Join
namespace Go.Proofs.YtibjkknfgppogaaDoor.Eng
open Go

/-- A text at each byte of a kind. -/
def cutL (c : UInt8) : List UInt8 → List (List UInt8)
  | [] => [[]]
  | b :: l => if b = c then [] :: cutL c l else match cutL c l with
    | h :: t => (b :: h) :: t
    | [] => [[b]]
theorem cutL_ne (c : UInt8) (l : List UInt8) : cutL c l ≠ [] := by
  cases l with
  | nil => simp [cutL]
  | cons b l =>
    simp only [cutL]
    split
    · simp
    · split <;> simp
theorem index_cons (c b : UInt8) (l : List UInt8) : Lib.index (b :: l) [c] = if b = c then 0 else if Lib.index l [c] = -1 then -1 else Lib.index l [c] + 1 := by
  rw [Lib.index]
  by_cases h : b = c
  · subst h; simp [List.isPrefixOf]
  · have : ¬ c = b := fun e => h e.symm
    simp [List.isPrefixOf, h, this]
theorem cutL_miss (c : UInt8) : ∀ l, Lib.index l [c] = -1 → cutL c l = [l]
  | [], _ => rfl
  | b :: l, h => by
    rw [index_cons] at h
    by_cases hb : b = c
    · rw [if_pos hb] at h; omega
    · rw [if_neg hb] at h
      by_cases hi : Lib.index l [c] = -1
      · simp only [cutL, if_neg hb, cutL_miss c l hi]
      · rw [if_neg hi] at h
        have := Lib.index_ge l [c]
        omega
theorem cutL_hit (c : UInt8) : ∀ (l : List UInt8) (i : Nat), Lib.index l [c] = i → cutL c l = l.take i :: cutL c (l.drop (i + 1))
  | [], i, h => by simp [Lib.index] at h
  | b :: l, i, h => by
    rw [index_cons] at h
    by_cases hb : b = c
    · rw [if_pos hb] at h
      have : i = 0 := by omega
      subst this
      simp [cutL, if_pos hb]
    · rw [if_neg hb] at h
      by_cases hi : Lib.index l [c] = -1
      · rw [if_pos hi] at h; omega
      · rw [if_neg hi] at h
        have hg := Lib.index_ge l [c]
        obtain ⟨j, rfl⟩ : ∃ j, i = j + 1 := ⟨i - 1, by omega⟩
        have := cutL_hit c l j (by omega)
        simp only [cutL, if_neg hb, this]
        simp
theorem index_cases (c : UInt8) (l : List UInt8) : Lib.index l [c] = -1 ∨ ∃ i : Nat, Lib.index l [c] = i ∧ i < l.length := by
  have hg := Lib.index_ge l [c]
  by_cases h : Lib.index l [c] = -1
  · exact .inl h
  · right
    have := Lib.index_room l [c] (by omega)
    refine ⟨(Lib.index l [c]).toNat, by omega, ?_⟩
    simp at this
    omega
theorem cut_miss (c : UInt8) (l : List UInt8) (h : Lib.index l [c] = -1) : Lib.cut l [c] = (l, [], false) := by
  unfold Lib.cut
  rw [if_neg (by omega)]
theorem cut_hit (c : UInt8) (l : List UInt8) (i : Nat) (h : Lib.index l [c] = i) : Lib.cut l [c] = (l.take i, l.drop (i + 1), true) := by
  unfold Lib.cut
  rw [if_pos (by omega), h]
  simp
theorem splitK_cutL (c : UInt8) (n : Nat) : ∀ l : List UInt8, l.length ≤ n → Lib.splitK [c] 0 (Lib.count l [c]) l = cutL c l := by
  induction n with
  | zero =>
    intro l hl
    have : l = [] := List.eq_nil_of_length_eq_zero (by omega)
    subst this
    simp [cutL, Lib.count_one, Lib.splitK]
  | succ n ih =>
    intro l hl
    rcases index_cases c l with h | ⟨i, h, hi⟩
    · rw [Lib.count_miss h, cutL_miss c l h]
      simp [Lib.splitK]
    · rw [Lib.count_hit (by simp) h, cutL_hit c l i h, Nat.add_comm]
      have := ih (l.drop (i + 1)) (by rw [List.length_drop]; omega)
      simp only [Lib.splitK, h]
      rw [if_neg (by simp)]
      simp only [Int.toNat_natCast, Nat.add_zero, List.length_singleton, this]
theorem split_cutL (c : UInt8) (s : ByteArray) : (Lib.splitB ⟨#[c]⟩ 0 (Lib.countB s ⟨#[c]⟩) s).map (·.data.toList) = cutL c s.data.toList := by
  rw [Lib.splitB_data]
  exact splitK_cutL c s.data.toList.length s.data.toList (Nat.le_refl _)
theorem cutL_length (c : UInt8) (s : ByteArray) : (cutL c s.data.toList).length = Lib.countB s ⟨#[c]⟩ + 1 := by
  rw [← split_cutL, List.length_map]
  exact Lib.splitB_all ⟨#[c]⟩ (show 1 ≤ 1 from Nat.le_refl 1) 0 _ s rfl
theorem cutL_le (c : UInt8) : ∀ l : List UInt8, (cutL c l).length ≤ l.length + 1
  | [] => by simp [cutL]
  | b :: l => by
    have := cutL_le c l
    simp only [cutL]
    split
    · simp; omega
    · split
      · rename_i h t e; rw [e] at this; simp at *; omega
      · simp
/-- What stands ahead of the first byte of the kind does not hold it. -/
theorem cutL_app (c : UInt8) (a r : List UInt8) (h : c ∉ a) : cutL c (a ++ c :: r) = a :: cutL c r := by
  induction a with
  | nil => simp [cutL]
  | cons b a ih =>
    have hb : ¬ b = c := fun e => h (by simp [e])
    simp only [List.cons_append, cutL, if_neg hb, ih (fun e => h (by simp [e]))]
theorem cutL_last (c : UInt8) (a : List UInt8) (h : c ∉ a) : cutL c a = [a] := by
  induction a with
  | nil => rfl
  | cons b a ih =>
    have hb : ¬ b = c := fun e => h (by simp [e])
    simp only [cutL, if_neg hb, ih (fun e => h (by simp [e]))]
end Go.Proofs.YtibjkknfgppogaaDoor.Eng
