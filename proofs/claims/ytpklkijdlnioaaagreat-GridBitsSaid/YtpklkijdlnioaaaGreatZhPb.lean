/- Where two lists of tokens stand side by side: when what is made of both is what is made of each; in plain Lean. -/
import Derived.Test.YtpklkijdlnioaaaGreatZhPa
set_option linter.unusedVariables false
namespace Go.Proofs.YtpklkijdlnioaaaGreat.Eng
/-- What a pass makes of a list, parted, is what it makes of two parts of the list. -/
theorem pass_back {a b c : Int} : ∀ (l P' Q' : List Int), pass a b c l = P' ++ Q' → ∃ P Q, l = P ++ Q ∧ pass a b c P = P' ∧ pass a b c Q = Q'
  | [], P', Q', h => by
    have h := List.append_eq_nil_iff.1 h.symm
    exact ⟨[], [], rfl, h.1.symm, h.2.symm⟩
  | [x], [], Q', h => ⟨[], [x], rfl, rfl, h⟩
  | [x], p :: P', Q', h => by
    simp only [pass, List.cons_append, List.cons.injEq] at h
    have h2 := List.append_eq_nil_iff.1 h.2.symm
    exact ⟨[x], [], by simp, by rw [← h.1, h2.1]; rfl, by rw [h2.2]; rfl⟩
  | x :: y :: r, [], Q', h => ⟨[], _, rfl, rfl, h⟩
  | x :: y :: r, p :: P', Q', h => by
    by_cases hx : x = a ∧ y = b
    · obtain ⟨rfl, rfl⟩ := hx
      rw [pass_yes, List.cons_append, List.cons.injEq] at h
      obtain ⟨P, Q, h1, h2, h3⟩ := pass_back r P' Q' h.2
      exact ⟨x :: y :: P, Q, by rw [h1]; rfl, by rw [pass_yes, h2, h.1], h3⟩
    · rw [pass_no r hx, List.cons_append, List.cons.injEq] at h
      obtain ⟨P, Q, h1, h2, h3⟩ := pass_back (y :: r) P' Q' h.2
      refine ⟨x :: P, Q, by rw [h1]; rfl, ?_, h3⟩
      cases P with
      | nil => rw [← h2, h.1]; rfl
      | cons z P =>
        simp only [List.cons_append, List.cons.injEq] at h1
        rw [pass_no P (by rw [← h1.1]; exact hx), h2, h.1]
/-- Either a pass goes by what stands between two lists, or the last one of the first, which is left alone there, and the first one of the second become one. -/
theorem pass_join {a b c : Int} : ∀ (X Y : List Int), pass a b c (X ++ Y) = pass a b c X ++ pass a b c Y ∨ (∃ X' Y', X = X' ++ [a] ∧ Y = b :: Y' ∧ pass a b c X = pass a b c X' ++ [a])
  | [], Y => .inl rfl
  | [x], [] => .inl rfl
  | [x], y :: Y => by
    by_cases hx : x = a ∧ y = b
    · obtain ⟨rfl, rfl⟩ := hx
      exact .inr ⟨[], Y, rfl, rfl, rfl⟩
    · refine .inl ?_
      rw [List.cons_append, List.nil_append, pass_no Y hx]
      rfl
  | x :: y :: r, Y => by
    by_cases hx : x = a ∧ y = b
    · obtain ⟨rfl, rfl⟩ := hx
      rcases pass_join (c := c) r Y with h | ⟨X', Y', h1, h2, h3⟩
      · refine .inl ?_
        rw [List.cons_append, List.cons_append, pass_yes, pass_yes, h]
        rfl
      · refine .inr ⟨x :: y :: X', Y', by rw [h1]; rfl, h2, ?_⟩
        rw [pass_yes, pass_yes, h3]
        rfl
    · rcases pass_join (c := c) (y :: r) Y with h | ⟨X', Y', h1, h2, h3⟩
      · refine .inl ?_
        rw [List.cons_append, List.cons_append, pass_no _ hx, pass_no _ hx]
        rw [List.cons_append] at h
        rw [h]
        rfl
      · refine .inr ⟨x :: X', Y', by rw [h1]; rfl, h2, ?_⟩
        rw [pass_no r hx, h3]
        cases X' with
        | nil => rfl
        | cons z X' =>
          simp only [List.cons_append, List.cons.injEq] at h1
          rw [pass_no X' (by rw [← h1.1]; exact hx)]
          rfl
theorem pass_cross {a b c : Int} : ∀ (X Y : List Int), pass a b c (X ++ [a]) = pass a b c X ++ [a] → pass a b c (X ++ a :: b :: Y) = pass a b c X ++ c :: pass a b c Y
  | [], Y, _ => pass_yes a b c Y
  | [x], Y, h => by
    by_cases hx : x = a ∧ a = b
    · obtain ⟨rfl, rfl⟩ := hx
      rw [List.cons_append, List.nil_append, pass_yes] at h
      have := congrArg List.length h
      simp [pass] at this
    · rw [List.cons_append, List.nil_append, pass_no _ hx, pass_yes]
      rfl
  | x :: y :: r, Y, h => by
    by_cases hx : x = a ∧ y = b
    · obtain ⟨rfl, rfl⟩ := hx
      rw [List.cons_append, List.cons_append, pass_yes, pass_yes, List.cons_append, List.cons.injEq] at h
      rw [List.cons_append, List.cons_append, pass_yes, pass_yes, pass_cross r Y h.2]
      rfl
    · rw [List.cons_append, List.cons_append, pass_no _ hx, pass_no _ hx, List.cons_append, List.cons.injEq] at h
      have := pass_cross (y :: r) Y (by rw [List.cons_append]; exact h.2)
      rw [List.cons_append, List.cons_append, pass_no _ hx, pass_no _ hx]
      rw [List.cons_append] at this
      rw [this]
      rfl
/-- Where the last one that a pass leaves is that one, it was the last one ahead of it. -/
theorem pass_last {a b c : Int} (hca : c ≠ a) : ∀ (X : List Int), (pass a b c X).getLast? = some a → ∃ X', X = X' ++ [a] ∧ pass a b c X = pass a b c X' ++ [a]
  | [], h => by simp [pass] at h
  | [x], h => by
    simp [pass] at h
    subst h
    exact ⟨[], rfl, rfl⟩
  | x :: y :: r, h => by
    by_cases hx : x = a ∧ y = b
    · obtain ⟨rfl, rfl⟩ := hx
      rw [pass_yes] at h
      cases hr : pass x y c r with
      | nil => rw [hr] at h; simp at h; exact absurd h hca
      | cons z t =>
        rw [hr, List.getLast?_cons_cons, ← hr] at h
        obtain ⟨X', h1, h2⟩ := pass_last hca r h
        exact ⟨x :: y :: X', by rw [h1]; rfl, by rw [pass_yes, pass_yes, h2]; rfl⟩
    · rw [pass_no r hx] at h
      have hne : pass a b c (y :: r) ≠ [] := by
        cases r with
        | nil => simp [pass]
        | cons z r => simp only [pass]; split <;> simp
      cases hr : pass a b c (y :: r) with
      | nil => exact absurd hr hne
      | cons z t =>
        rw [hr, List.getLast?_cons_cons, ← hr] at h
        obtain ⟨X', h1, h2⟩ := pass_last hca (y :: r) h
        refine ⟨x :: X', by rw [h1]; rfl, ?_⟩
        rw [pass_no r hx, h2]
        cases X' with
        | nil => rfl
        | cons u X' =>
          simp only [List.cons_append, List.cons.injEq] at h1
          rw [pass_no X' (by rw [← h1.1]; exact hx)]
          rfl
theorem pass_ne {a b c : Int} {l : List Int} (h : l ≠ []) : pass a b c l ≠ [] := by
  match l, h with
  | [x], _ => simp [pass]
  | x :: y :: r, _ => simp only [pass]; split <;> simp

/-! ### After so many passes -/
section
variable (ms : List (Int × Int))
/-- After the first k passes. -/
def after (k : Nat) (s : List Int) : List Int := encFrom 256 (ms.take k) s
theorem after_zero (s : List Int) : after ms 0 s = s := by simp [after, encFrom]
theorem after_succ {k : Nat} {m : Int × Int} (h : ms[k]? = some m) (s : List Int) : after ms (k + 1) s = pass m.1 m.2 (256 + k) (after ms k s) := by
  have hk := (List.getElem?_eq_some_iff.1 h).1
  unfold after
  rw [List.take_add_one, h, encFrom_append, List.length_take, Nat.min_eq_left (by omega)]
  rfl
theorem after_ne {s : List Int} (h : s ≠ []) : ∀ k, after ms k s ≠ []
  | 0 => by rw [after_zero]; exact h
  | k + 1 => by
    cases hm : ms[k]? with
    | none =>
      have hk := List.getElem?_eq_none_iff.1 hm
      have : after ms (k + 1) s = after ms k s := by
        unfold after
        rw [List.take_of_length_le (by omega), List.take_of_length_le (by omega)]
      rw [this]
      exact after_ne h k
    | some m => rw [after_succ ms hm]; exact pass_ne (after_ne h k)
theorem after_nil : ∀ k, after ms k [] = []
  | 0 => after_zero ms []
  | k + 1 => by
    cases hm : ms[k]? with
    | none =>
      have hk := List.getElem?_eq_none_iff.1 hm
      have : after ms (k + 1) [] = after ms k [] := by
        unfold after
        rw [List.take_of_length_le (by omega), List.take_of_length_le (by omega)]
      rw [this, after_nil k]
    | some m => rw [after_succ ms hm, after_nil k]; rfl
/-- What is made of a list, parted, is what is made of two parts of it. -/
theorem after_back : ∀ (k : Nat), k ≤ ms.length → ∀ (s P' Q' : List Int), after ms k s = P' ++ Q' → ∃ P Q, s = P ++ Q ∧ after ms k P = P' ∧ after ms k Q = Q'
  | 0, _, s, P', Q', h => ⟨P', Q', by rwa [after_zero] at h, after_zero ms P', after_zero ms Q'⟩
  | k + 1, hk, s, P', Q', h => by
    have hm : ms[k]? = some ms[k] := List.getElem?_eq_getElem (by omega)
    rw [after_succ ms hm] at h
    obtain ⟨P1, Q1, h1, h2, h3⟩ := pass_back _ _ _ h
    obtain ⟨P, Q, e, e1, e2⟩ := after_back k (by omega) s P1 Q1 h1
    exact ⟨P, Q, e, by rw [after_succ ms hm, e1, h2], by rw [after_succ ms hm, e2, h3]⟩

/-! ### What tokens stand for -/
variable (ex : Int → List Int)
/-- Each token stands for what its parents stand for. -/
structure Stands : Prop where
  low : ∀ t, 0 ≤ t → t < 256 → ex t = [t]
  high : ∀ (k : Nat) (m : Int × Int), ms[k]? = some m → ex ((256 : Int) + (k : Nat)) = ex m.1 ++ ex m.2
  sound : Sound 256 ms
  ne : ∀ (k : Nat) (m : Int × Int), ms[k]? = some m → ex m.1 ≠ [] ∧ ex m.2 ≠ []
def expand (l : List Int) : List Int := l.flatMap ex
variable {ms ex}
theorem expand_append (a b : List Int) : expand ex (a ++ b) = expand ex a ++ expand ex b := by simp [expand]
theorem expand_pass {a b c : Int} (h : ex c = ex a ++ ex b) : ∀ l, expand ex (pass a b c l) = expand ex l
  | [] => rfl
  | [x] => rfl
  | x :: y :: r => by
    by_cases hx : x = a ∧ y = b
    · obtain ⟨rfl, rfl⟩ := hx
      rw [pass_yes]
      have := expand_pass h r
      simp only [expand, List.flatMap_cons] at this ⊢
      rw [this, h, List.append_assoc]
    · rw [pass_no r hx]
      have := expand_pass h (y :: r)
      simp only [expand, List.flatMap_cons] at this ⊢
      rw [this]
theorem expand_after (hS : Stands ms ex) : ∀ (k : Nat), k ≤ ms.length → ∀ s, expand ex (after ms k s) = expand ex s
  | 0, _, s => by rw [after_zero]
  | k + 1, hk, s => by
    have hm : ms[k]? = some ms[k] := List.getElem?_eq_getElem (by omega)
    rw [after_succ ms hm, expand_pass (hS.high k _ hm), expand_after hS k (by omega)]
/-- The pass number k joins what stands between two lists. -/
def CrossAt (ms : List (Int × Int)) (X Y : List Int) (k : Nat) : Prop := ∃ m, ms[k]? = some m ∧ (after ms (k + 1) X).getLast? = some m.1 ∧ (after ms k Y).head? = some m.2
theorem after_free {X Y : List Int} : ∀ (k : Nat), k ≤ ms.length → (∀ j, j < k → ¬ CrossAt ms X Y j) → after ms k (X ++ Y) = after ms k X ++ after ms k Y
  | 0, _, _ => by rw [after_zero, after_zero, after_zero]
  | k + 1, hk, h => by
    have hm : ms[k]? = some ms[k] := List.getElem?_eq_getElem (by omega)
    rw [after_succ ms hm, after_succ ms hm, after_succ ms hm, after_free k (by omega) fun j hj => h j (by omega)]
    rcases pass_join (c := 256 + (k : Nat)) (a := ms[k].1) (b := ms[k].2) (after ms k X) (after ms k Y) with e | ⟨X', Y', h1, h2, h3⟩
    · exact e
    · exfalso
      refine h k (by omega) ⟨ms[k], hm, ?_, ?_⟩
      · rw [after_succ ms hm, h3]; simp
      · rw [h2]; rfl
theorem stands_ne (hS : Stands ms ex) {k : Nat} {m : Int × Int} (h : ms[k]? = some m) : ((256 : Int) + (k : Nat)) ≠ m.1 := by
  have := (sound_lt hS.sound k m h).1
  omega
/-- **Where nothing is joined between two lists, what is made of both is what is made of each; else it isn't.** -/
theorem after_both (hS : Stands ms ex) (N : Nat) (hN : N ≤ ms.length) (X Y : List Int) : after ms N (X ++ Y) = after ms N X ++ after ms N Y ↔ ∀ k, k < N → ¬ CrossAt ms X Y k := by
  constructor
  · intro h k
    induction k using Nat.strongRecOn with
    | ind k ih =>
      intro hk hc
      have hfree := after_free (X := X) (Y := Y) k (by omega) fun j hj => ih j hj (by omega)
      obtain ⟨m, hm, hl, hh⟩ := hc
      rw [after_succ ms hm] at hl
      obtain ⟨X', h1, h2⟩ := pass_last (stands_ne hS hm) _ hl
      obtain ⟨Y', hY⟩ : ∃ Y', after ms k Y = m.2 :: Y' := by
        cases hy : after ms k Y with
        | nil => rw [hy] at hh; cases hh
        | cons z Y' => rw [hy] at hh; cases hh; exact ⟨Y', rfl⟩
      have hnext : after ms (k + 1) (X ++ Y) = pass m.1 m.2 ((256 : Int) + (k : Nat)) X' ++ ((256 : Int) + (k : Nat)) :: pass m.1 m.2 ((256 : Int) + (k : Nat)) Y' := by
        rw [after_succ ms hm, hfree, h1, hY, List.append_assoc]
        exact pass_cross X' Y' (by rw [← h1]; exact h2)
      -- the rest of the passes
      have hrest : ∀ d s, after ms (k + 1 + d) s = encFrom (256 + ((k + 1 : Nat) : Int)) ((ms.drop (k + 1)).take d) (after ms (k + 1) s) := by
        intro d s
        unfold after
        rw [List.take_add, encFrom_append, List.length_take, Nat.min_eq_left (by omega)]
      have hback : ∀ (d : Nat), d ≤ (ms.drop (k + 1)).length → ∀ (s P' Q' : List Int), encFrom (256 + ((k + 1 : Nat) : Int)) ((ms.drop (k + 1)).take d) s = P' ++ Q' → ∃ P Q, s = P ++ Q ∧ expand ex P = expand ex P' ∧ expand ex Q = expand ex Q' := by
        intro d
        induction d with
        | zero => intro _ s P' Q' h; exact ⟨P', Q', by simpa [encFrom] using h, rfl, rfl⟩
        | succ d ihd =>
          intro hd s P' Q' h
          have hlt : k + 1 + d < ms.length := by rw [List.length_drop] at hd; omega
          have hmd : (ms.drop (k + 1))[d]? = some ms[k + 1 + d] := by rw [List.getElem?_drop, List.getElem?_eq_getElem hlt]
          rw [List.take_add_one, hmd, encFrom_append, List.length_take, Nat.min_eq_left (by omega)] at h
          simp only [Option.toList_some, encFrom] at h
          obtain ⟨P1, Q1, g1, g2, g3⟩ := pass_back _ _ _ h
          obtain ⟨P, Q, e, e1, e2⟩ := ihd (by omega) s P1 Q1 g1
          have hex : ex (256 + ((k + 1 : Nat) : Int) + (d : Nat)) = ex ms[k + 1 + d].1 ++ ex ms[k + 1 + d].2 := by
            rw [← hS.high (k + 1 + d) _ (List.getElem?_eq_getElem hlt)]
            congr 1
            omega
          exact ⟨P, Q, e, by rw [e1, ← g2, expand_pass hex], by rw [e2, ← g3, expand_pass hex]⟩
      have hall := hrest (N - (k + 1)) (X ++ Y)
      rw [show k + 1 + (N - (k + 1)) = N by omega, h] at hall
      obtain ⟨P, Q, e, e1, e2⟩ := hback (N - (k + 1)) (by rw [List.length_drop]; omega) _ _ _ hall.symm
      rw [hnext] at e
      rw [expand_after hS _ hN] at e1
      have hXX : expand ex X = expand ex (pass m.1 m.2 ((256 : Int) + (k : Nat)) X') ++ ex m.1 := by
        rw [← expand_after hS k (by omega) X, h1, expand_append, expand_pass (hS.high k m hm)]
        simp [expand]
      have hc := hS.high k m hm
      obtain ⟨na, nb⟩ := hS.ne k m hm
      rw [hXX] at e1
      rcases List.append_eq_append_iff.1 e with ⟨t, ht, _⟩ | ⟨t, ht, hq⟩
      · -- P reaches beyond
        cases t with
        | nil =>
          rw [List.append_nil] at ht
          rw [ht] at e1
          have := congrArg List.length e1
          rw [List.length_append] at this
          have : 0 < (ex m.1).length := List.length_pos_iff.2 na
          omega
        | cons z t =>
          rename_i hcq
          simp only [List.cons_append, List.cons.injEq] at hcq
          rw [ht, expand_append] at e1
          have h3 := congrArg List.length e1
          rw [List.length_append, List.length_append] at h3
          have h4 : (ex ((256 : Int) + (k : Nat))).length ≤ (expand ex (z :: t)).length := by
            rw [hcq.1]
            simp [expand]
          rw [hc, List.length_append] at h4
          have : 0 < (ex m.2).length := List.length_pos_iff.2 nb
          omega
      · have h3 := congrArg List.length e1
        have h4 := congrArg List.length (congrArg (expand ex) ht)
        rw [expand_append] at h4
        rw [List.length_append] at h3 h4
        have : 0 < (ex m.1).length := List.length_pos_iff.2 na
        omega
  · exact after_free N hN
end
end Go.Proofs.YtpklkijdlnioaaaGreat.Eng
