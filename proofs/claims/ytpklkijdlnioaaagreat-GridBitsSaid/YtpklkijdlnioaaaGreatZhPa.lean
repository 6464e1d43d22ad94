/- How bytes become tokens, in plain Lean: rank by rank, and pair by pair. -/
set_option linter.unusedVariables false
namespace Go.Proofs.YtpklkijdlnioaaaGreat.Eng
/-- One pass: from the beginning on, each two that are these become one. -/
def pass (a b c : Int) : List Int → List Int
  | [] => []
  | [x] => [x]
  | x :: y :: r => if x = a ∧ y = b then c :: pass a b c r else x :: pass a b c (y :: r)
theorem pass_yes (a b c : Int) (r : List Int) : pass a b c (a :: b :: r) = c :: pass a b c r := by simp [pass]
theorem pass_no {a b c x y : Int} (r : List Int) (h : ¬ (x = a ∧ y = b)) : pass a b c (x :: y :: r) = x :: pass a b c (y :: r) := by simp [pass, h]
theorem pass_skip {a b c x : Int} (l : List Int) (h : x ≠ a) : pass a b c (x :: l) = x :: pass a b c l := by
  cases l with
  | nil => rfl
  | cons y r => exact pass_no r fun e => h e.1
/-- Two stand side by side somewhere. -/
def Beside (a b : Int) (l : List Int) : Prop := ∃ u v, l = u ++ a :: b :: v
theorem beside_cons {a b x : Int} {l : List Int} (h : Beside a b l) : Beside a b (x :: l) := by
  obtain ⟨u, v, rfl⟩ := h
  exact ⟨x :: u, v, rfl⟩
theorem pass_none {a b c : Int} : ∀ l : List Int, ¬ Beside a b l → pass a b c l = l
  | [], _ => rfl
  | [x], _ => rfl
  | x :: y :: r, h => by
    have h1 : ¬ (x = a ∧ y = b) := by
      rintro ⟨rfl, rfl⟩
      exact h ⟨[], r, rfl⟩
    rw [pass_no r h1, pass_none (y :: r) fun e => h (beside_cons e)]
/-- The first two of them become one. -/
theorem pass_first {a b c : Int} : ∀ (u v : List Int), ¬ Beside a b (u ++ [a]) → pass a b c (u ++ a :: b :: v) = u ++ c :: pass a b c v
  | [], v, _ => pass_yes a b c v
  | [x], v, h => by
    have hx : ¬ (x = a ∧ a = b) := by
      rintro ⟨rfl, rfl⟩
      exact h ⟨[], [], rfl⟩
    rw [List.cons_append, List.nil_append, pass_no (b :: v) hx, pass_yes]
    rfl
  | x :: y :: u, v, h => by
    have hx : ¬ (x = a ∧ y = b) := by
      rintro ⟨rfl, rfl⟩
      exact h ⟨[], u ++ [x], rfl⟩
    have := pass_first (c := c) (y :: u) v fun e => h (by rw [List.cons_append]; exact beside_cons e)
    rw [List.cons_append, List.cons_append, pass_no _ hx]
    rw [List.cons_append] at this
    rw [this]
    rfl
/-- What has become one already is passed by. -/
theorem pass_after {a b c : Int} (hca : c ≠ a) (hcb : c ≠ b) : ∀ (u v : List Int), ¬ Beside a b u → pass a b c (u ++ c :: v) = u ++ c :: pass a b c v
  | [], v, _ => pass_skip v hca
  | [x], v, _ => by
    rw [List.cons_append, List.nil_append, pass_no v fun e => hcb e.2, pass_skip v hca]
    rfl
  | x :: y :: u, v, h => by
    have hx : ¬ (x = a ∧ y = b) := by
      rintro ⟨rfl, rfl⟩
      exact h ⟨[], u, rfl⟩
    have := pass_after hca hcb (y :: u) v fun e => h (beside_cons e)
    rw [List.cons_append, List.cons_append, pass_no _ hx]
    rw [List.cons_append] at this
    rw [this]
    rfl
theorem beside_left {a b : Int} {u v : List Int} (h : Beside a b u) : Beside a b (u ++ v) := by
  obtain ⟨p, q, rfl⟩ := h
  exact ⟨p, q ++ v, by simp⟩

/-! ### All passes -/
/-- The passes of these merges, the first one making token number k. -/
def encFrom (k : Int) : List (Int × Int) → List Int → List Int
  | [], l => l
  | m :: ms, l => encFrom (k + 1) ms (pass m.1 m.2 k l)
/-- Each merge is of tokens that were there. -/
def Sound (k : Int) : List (Int × Int) → Prop
  | [] => True
  | m :: ms => m.1 < k ∧ m.2 < k ∧ Sound (k + 1) ms
theorem encFrom_none : ∀ (ms : List (Int × Int)) (k : Int) (l : List Int), (∀ m ∈ ms, ¬ Beside m.1 m.2 l) → encFrom k ms l = l
  | [], k, l, _ => rfl
  | m :: ms, k, l, h => by
    simp only [encFrom]
    rw [pass_none l (h m (by simp))]
    exact encFrom_none ms (k + 1) l fun x hx => h x (by simp [hx])
theorem encFrom_append : ∀ (a b : List (Int × Int)) (k : Int) (l : List Int), encFrom k (a ++ b) l = encFrom (k + a.length) b (encFrom k a l)
  | [], b, k, l => by simp [encFrom]
  | m :: a, b, k, l => by
    simp only [List.cons_append, encFrom]
    rw [encFrom_append a b]
    congr 1
    simp
    omega
theorem sound_lt : ∀ {ms : List (Int × Int)} {k : Int}, Sound k ms → ∀ (i : Nat) (m : Int × Int), ms[i]? = some m → m.1 < k + i ∧ m.2 < k + i
  | [], k, _, i, m, hi => by simp at hi
  | x :: ms, k, h, 0, m, hi => by
    simp at hi
    subst hi
    exact ⟨by have := h.1; omega, by have := h.2.1; omega⟩
  | x :: ms, k, h, i + 1, m, hi => by
    have := sound_lt h.2.2 i m (by simpa using hi)
    omega
/-- No pair of the list is of a rank below. -/
def Quiet (ms : List (Int × Int)) (l : List Int) : Prop := ∀ m ∈ ms, ¬ Beside m.1 m.2 l
theorem beside_new {a b c x y : Int} {u v : List Int} (h : Beside x y (u ++ c :: v)) (hn : ¬ Beside x y (u ++ a :: b :: v)) : x = c ∨ y = c := by
  obtain ⟨p, q, he⟩ := h
  rcases List.append_eq_append_iff.1 he with ⟨t, ht, hc⟩ | ⟨t, ht, hc⟩
  · cases t with
    | nil => simp at hc; exact .inl hc.1.symm
    | cons t0 t =>
      simp at hc
      exfalso
      apply hn
      rw [hc.2]
      exact ⟨u ++ a :: b :: t, q, by simp⟩
  · match t, ht, hc with
    | [], _, hc => simp at hc; exact .inl hc.1
    | [x'], _, hc => simp at hc; exact .inr hc.2.1
    | x' :: y' :: t, ht, hc =>
      simp at hc
      exfalso
      apply hn
      rw [ht, ← hc.1, ← hc.2.1]
      exact ⟨p, t ++ a :: b :: v, by simp⟩
/-- **The join.** Where the pair of the least rank is joined where it first stands, all comes to the same. -/
theorem enc_join {k : Int} {low high : List (Int × Int)} {m : Int × Int} {u v : List Int} (hs : Sound k (low ++ m :: high)) (hq : Quiet low (u ++ m.1 :: m.2 :: v)) (hf : ¬ Beside m.1 m.2 (u ++ [m.1])) :
    encFrom k (low ++ m :: high) (u ++ m.1 :: m.2 :: v) = encFrom k (low ++ m :: high) (u ++ (k + low.length) :: v) := by
  have hq' : Quiet low (u ++ (k + low.length) :: v) := by
    intro x hx hb
    obtain ⟨i, hi, hxi⟩ := List.getElem_of_mem hx
    have hlt := sound_lt hs i x (by rw [List.getElem?_append_left hi, List.getElem?_eq_getElem hi, hxi])
    rcases beside_new (a := m.1) (b := m.2) hb (hq x hx) with e | e <;> omega
  rw [encFrom_append, encFrom_append, encFrom_none low k _ hq, encFrom_none low k _ hq']
  have hm := sound_lt hs low.length m (by rw [List.getElem?_append_right (Nat.le_refl _)]; simp)
  simp only [encFrom]
  rw [pass_first u v hf, pass_after (by omega) (by omega) u v fun e => hf (beside_left e)]

/-- What is made of bytes by the tokens below a number. -/
def encB (ms : List (Int × Int)) (below : Int) (l : List Int) : List Int := encFrom 256 (ms.take (below - 256).toNat) l
end Go.Proofs.YtpklkijdlnioaaaGreat.Eng
