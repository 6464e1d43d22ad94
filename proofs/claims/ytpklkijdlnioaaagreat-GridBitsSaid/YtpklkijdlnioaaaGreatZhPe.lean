/- A heap: what is least, first; in plain Lean. -/
import Derived.Test.YtpklkijdlnioaaaGreatZhPd
set_option linter.unusedVariables false
namespace Go.Proofs.YtpklkijdlnioaaaGreat.Eng
/-- What a heap holds: rank, place, turn; and two nodes as they were: the first one's place, both tokens. -/
structure HE where
  r : Int
  p : Int
  t : Int
  f : Int
  a : Int
  b : Int
  deriving DecidableEq, Inhabited
def HE.lt (x y : HE) : Prop := x.r < y.r ∨ x.r = y.r ∧ (x.p < y.p ∨ x.p = y.p ∧ x.t < y.t)
instance (x y : HE) : Decidable (x.lt y) := by unfold HE.lt; infer_instance
theorem HE.asymm {x y : HE} (h : x.lt y) : ¬ y.lt x := by unfold HE.lt at *; omega
theorem HE.le_trans {x y z : HE} (h1 : ¬ y.lt x) (h2 : ¬ z.lt y) : ¬ z.lt x := by unfold HE.lt at *; omega
theorem HE.lt_le {x y z : HE} (h1 : x.lt y) (h2 : ¬ z.lt y) : ¬ z.lt x := HE.le_trans (HE.asymm h1) h2

abbrev hat (l : List HE) (j : Nat) : HE := l.getD j default
def swp (l : List HE) (i k : Nat) : List HE := (l.set i (hat l k)).set k (hat l i)
theorem swp_length (l : List HE) (i k : Nat) : (swp l i k).length = l.length := by simp [swp]
theorem hat_swp {l : List HE} {i k : Nat} (hi : i < l.length) (hk : k < l.length) (j : Nat) : hat (swp l i k) j = if j = k then hat l i else if j = i then hat l k else hat l j := by
  unfold hat swp
  simp only [List.getD_eq_getElem?_getD, List.getElem?_set, List.length_set]
  by_cases h1 : j = k
  · subst h1; simp [hk]
  · by_cases h2 : j = i
    · subst h2
      rw [if_neg (fun e => h1 e.symm), if_pos rfl, if_pos hi, if_neg h1, if_pos rfl]
      rfl
    · rw [if_neg (fun e => h1 e.symm), if_neg (fun e => h2 e.symm), if_neg h1, if_neg h2]
theorem mem_hat {l : List HE} {e : HE} : e ∈ l ↔ ∃ j, j < l.length ∧ hat l j = e := by
  constructor
  · intro h
    obtain ⟨j, hj, rfl⟩ := List.getElem_of_mem h
    exact ⟨j, hj, by simp [hat, hj]⟩
  · rintro ⟨j, hj, rfl⟩
    simp only [hat, List.getD_eq_getElem?_getD, List.getElem?_eq_getElem hj, Option.getD_some]
    exact List.getElem_mem hj
theorem mem_swp {l : List HE} {i k : Nat} (hi : i < l.length) (hk : k < l.length) (e : HE) : e ∈ swp l i k ↔ e ∈ l := by
  rw [mem_hat, mem_hat, swp_length]
  constructor
  · rintro ⟨j, hj, rfl⟩
    rw [hat_swp hi hk]
    split
    · exact ⟨i, hi, rfl⟩
    · split
      · exact ⟨k, hk, rfl⟩
      · exact ⟨j, hj, rfl⟩
  · rintro ⟨j, hj, rfl⟩
    by_cases h1 : j = i
    · subst h1; exact ⟨k, hk, by rw [hat_swp hi hk, if_pos rfl]⟩
    · by_cases h2 : j = k
      · subst h2; exact ⟨i, hi, by rw [hat_swp hi hk, if_neg (fun e => h1 e.symm), if_pos rfl]⟩
      · exact ⟨j, hj, by rw [hat_swp hi hk, if_neg h2, if_neg h1]⟩
def par (j : Nat) : Nat := (j - 1) / 2
theorem par_lt {j : Nat} (h : 0 < j) : par j < j := by unfold par; omega
def IsHeap (l : List HE) : Prop := ∀ j, 0 < j → j < l.length → ¬ (hat l j).lt (hat l (par j))
/-- All is in order, but perhaps one place and the one above it. -/
def UpAt (l : List HE) (i : Nat) : Prop := ∀ j, 0 < j → j < l.length → (j ≠ i → ¬ (hat l j).lt (hat l (par j))) ∧ (par j = i → 0 < i → ¬ (hat l j).lt (hat l (par i)))
theorem up_done {l : List HE} {i : Nat} (h : UpAt l i) (hi : i = 0 ∨ ¬ (hat l i).lt (hat l (par i))) : IsHeap l := by
  intro j h0 hj
  by_cases e : j = i
  · subst e
    rcases hi with hi | hi
    · omega
    · exact hi
  · exact (h j h0 hj).1 e
theorem up_step {l : List HE} {i : Nat} (h : UpAt l i) (h0 : 0 < i) (hi : i < l.length) (hl : (hat l i).lt (hat l (par i))) : UpAt (swp l i (par i)) (par i) := by
  have hp := par_lt h0
  have hpl : par i < l.length := by omega
  intro j j0 hj
  rw [swp_length] at hj
  have hjp := par_lt j0
  have at_ : ∀ x, hat (swp l i (par i)) x = if x = par i then hat l i else if x = i then hat l (par i) else hat l x := hat_swp hi hpl
  constructor
  · intro hne
    rw [at_ j, at_ (par j), if_neg hne]
    by_cases e1 : j = i
    · subst e1
      rw [if_pos rfl, if_pos rfl]
      exact HE.asymm hl
    · rw [if_neg e1]
      by_cases e2 : par j = par i
      · rw [if_pos e2]
        have h1 := (h j j0 hj).1 e1
        rw [e2] at h1
        exact HE.lt_le hl h1
      · rw [if_neg e2]
        by_cases e3 : par j = i
        · rw [if_pos e3]
          exact (h j j0 hj).2 e3 h0
        · rw [if_neg e3]
          exact (h j j0 hj).1 e1
  · intro e2 hp0
    have hpp := par_lt hp0
    have a1 : hat (swp l i (par i)) j = if j = i then hat l (par i) else hat l j := by rw [at_ j, if_neg (by omega)]
    have a2 : hat (swp l i (par i)) (par (par i)) = hat l (par (par i)) := by rw [at_ _, if_neg (by omega), if_neg (by omega)]
    rw [a1, a2]
    have h1 := (h (par i) hp0 hpl).1 (by omega)
    by_cases e1 : j = i
    · subst e1
      rw [if_pos rfl]
      exact h1
    · rw [if_neg e1]
      have h2 := (h j j0 hj).1 e1
      rw [e2] at h2
      exact HE.le_trans h1 h2
/-- All is in order, but perhaps one place and the ones below it. -/
def DownAt (l : List HE) (i : Nat) : Prop := ∀ j, 0 < j → j < l.length → (par j ≠ i → ¬ (hat l j).lt (hat l (par j))) ∧ (par j = i → 0 < i → ¬ (hat l j).lt (hat l (par i)))
theorem down_done {l : List HE} {i : Nat} (h : DownAt l i) (hc : ∀ j, 0 < j → j < l.length → par j = i → ¬ (hat l j).lt (hat l i)) : IsHeap l := by
  intro j h0 hj
  by_cases e : par j = i
  · rw [e]; exact hc j h0 hj e
  · exact (h j h0 hj).1 e
theorem down_step {l : List HE} {i c : Nat} (h : DownAt l i) (hc0 : 0 < c) (hc : c < l.length) (hpc : par c = i) (hl : (hat l c).lt (hat l i)) (ho : ∀ j, 0 < j → j < l.length → par j = i → ¬ (hat l j).lt (hat l c)) : DownAt (swp l i c) c := by
  have hp := par_lt hc0
  have hil : i < l.length := by omega
  have at_ : ∀ x, hat (swp l i c) x = if x = c then hat l i else if x = i then hat l c else hat l x := hat_swp hil hc
  intro j j0 hj
  rw [swp_length] at hj
  have hjp := par_lt j0
  constructor
  · intro hne
    rw [at_ j, at_ (par j), if_neg hne]
    by_cases e1 : j = c
    · subst e1
      rw [if_pos rfl, if_pos hpc]
      exact HE.asymm hl
    · rw [if_neg e1]
      by_cases e2 : j = i
      · subst e2
        rw [if_pos rfl, if_neg (by omega)]
        exact (h c hc0 hc).2 hpc j0
      · rw [if_neg e2]
        by_cases e3 : par j = i
        · rw [if_pos e3]
          exact ho j j0 hj e3
        · rw [if_neg e3]
          exact (h j j0 hj).1 e3
  · intro e1 _
    have a1 : hat (swp l i c) j = hat l j := by rw [at_ j, if_neg (by omega), if_neg (by omega)]
    have a2 : hat (swp l i c) i = hat l c := by rw [at_ i, if_neg (by omega), if_pos rfl]
    rw [hpc, a1, a2]
    have := (h j j0 hj).1 (by omega)
    rw [e1] at this
    exact this
theorem push_up {l : List HE} (h : IsHeap l) (x : HE) : UpAt (l ++ [x]) l.length := by
  intro j j0 hj
  have hjp := par_lt j0
  simp at hj
  constructor
  · intro hne
    have hlt : j < l.length := by omega
    have e : ∀ y, y < l.length → hat (l ++ [x]) y = hat l y := by
      intro y hy
      simp only [hat, List.getD_eq_getElem?_getD, List.getElem?_append_left hy]
    rw [e j hlt, e _ (by omega)]
    exact h j j0 hlt
  · intro e
    omega
theorem pop_down {l : List HE} (h : IsHeap l) (n : Nat) (hn : l.length = n + 1) : DownAt ((swp l 0 n).take n) 0 := by
  intro j j0 hj
  rw [List.length_take, swp_length, hn] at hj
  have hjn : j < n := by omega
  have hjp := par_lt j0
  have e : ∀ y, y < n → 0 < y → hat ((swp l 0 n).take n) y = hat l y := by
    intro y hy hy0
    have : hat ((swp l 0 n).take n) y = hat (swp l 0 n) y := by simp only [hat, List.getD_eq_getElem?_getD, List.getElem?_take_of_lt hy]
    rw [this, hat_swp (by omega) (by omega), if_neg (by omega), if_neg (by omega)]
  constructor
  · intro hne
    rw [e j hjn j0, e _ (by omega) (by omega)]
    exact h j j0 (by omega)
  · intro _ h0
    omega
theorem root_least {l : List HE} (h : IsHeap l) : ∀ j, j < l.length → ¬ (hat l j).lt (hat l 0) := by
  intro j
  induction j using Nat.strongRecOn with
  | ind j ih =>
    intro hj
    by_cases h0 : j = 0
    · subst h0; intro e; exact HE.asymm e e
    · have hp := par_lt (Nat.pos_of_ne_zero h0)
      exact HE.le_trans (ih (par j) hp (by omega)) (h j (Nat.pos_of_ne_zero h0) hj)
/-- What is left behind the least one. -/
theorem pop_mem {l : List HE} (n : Nat) (hn : l.length = n + 1) : (∀ e ∈ l, e = hat l 0 ∨ e ∈ (swp l 0 n).take n) ∧ ∀ e ∈ (swp l 0 n).take n, e ∈ l := by
  constructor
  · intro e he
    rw [← mem_swp (l := l) (i := 0) (k := n) (by omega) (by omega)] at he
    obtain ⟨j, hj, rfl⟩ := mem_hat.1 he
    rw [swp_length] at hj
    by_cases hjn : j = n
    · subst hjn
      rw [hat_swp (by omega) (by omega), if_pos rfl]
      exact .inl rfl
    · refine .inr (mem_hat.2 ⟨j, by rw [List.length_take, swp_length]; omega, ?_⟩)
      simp only [hat, List.getD_eq_getElem?_getD, List.getElem?_take_of_lt (show j < n by omega)]
  · intro e he
    exact (mem_swp (by omega) (by omega) e).1 (List.mem_of_mem_take he)
end Go.Proofs.YtpklkijdlnioaaaGreat.Eng
