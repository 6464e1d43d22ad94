/- Along two spines: whether two tokens may stand side by side; in plain Lean. -/
import Derived.Test.YtpklkijdlnioaaaGreatZhPb
set_option linter.unusedVariables false
namespace Go.Proofs.YtpklkijdlnioaaaGreat.Eng
theorem getLast_app (l : List Int) {r : List Int} (h : r ≠ []) : (l ++ r).getLast? = r.getLast? := by
  rw [List.getLast?_append]
  cases hr : r.getLast? with
  | none => exact absurd (List.getLast?_eq_none_iff.1 hr) h
  | some x => rfl
theorem head_app (r : List Int) {l : List Int} (h : l ≠ []) : (l ++ r).head? = l.head? := by
  cases l with
  | nil => exact absurd rfl h
  | cons x l => rfl
theorem encFrom_single (x : Int) : ∀ (ms : List (Int × Int)) (k : Int), encFrom k ms [x] = [x]
  | [], k => rfl
  | m :: ms, k => by simp only [encFrom, pass]; exact encFrom_single x ms (k + 1)
/-- What ends as one that was there from the beginning was that one. -/
theorem encFrom_one {t : Int} : ∀ (ms : List (Int × Int)) (k : Int) (l : List Int), t < k → encFrom k ms l = [t] → l = [t]
  | [], k, l, _, h => h
  | m :: ms, k, l, ht, h => by
    have h1 := encFrom_one ms (k + 1) _ (by omega) h
    match l, h1 with
    | [x], h1 => exact h1
    | x :: y :: r, h1 =>
      exfalso
      by_cases hx : x = m.1 ∧ y = m.2
      · obtain ⟨rfl, rfl⟩ := hx
        rw [pass_yes] at h1
        simp at h1
        omega
      · rw [pass_no r hx] at h1
        simp only [List.cons.injEq] at h1
        exact pass_ne (by simp) h1.2
section
variable {ms : List (Int × Int)} {ex : Int → List Int}
/-- After so many passes no token is greater. -/
theorem after_lt : ∀ (k : Nat), k ≤ ms.length → ∀ s : List Int, (∀ x ∈ s, x < 256) → ∀ x ∈ after ms k s, x < 256 + (k : Nat)
  | 0, _, s, h, x, hx => by rw [after_zero] at hx; have := h x hx; omega
  | k + 1, hk, s, h, x, hx => by
    rw [after_succ ms (List.getElem?_eq_getElem (show k < ms.length by omega))] at hx
    have ih := after_lt k (by omega) s h
    have key : ∀ l : List Int, (∀ y ∈ l, y < 256 + (k : Nat)) → ∀ y ∈ pass ms[k].1 ms[k].2 ((256 : Int) + (k : Nat)) l, y < 256 + ((k + 1 : Nat) : Int) := by
      intro l
      induction l using pass.induct ms[k].1 ms[k].2 with
      | case1 => intro _ y hy; simp [pass] at hy
      | case2 x => intro hl y hy; simp [pass] at hy; subst hy; have := hl y (by simp); omega
      | case3 x y r hx ih =>
        obtain ⟨rfl, rfl⟩ := hx
        intro hl z hz
        rw [pass_yes] at hz
        rcases List.mem_cons.1 hz with rfl | hz
        · omega
        · exact ih (fun u hu => hl u (by simp [hu])) z hz
      | case4 x y r hx ih =>
        intro hl z hz
        rw [pass_no r hx] at hz
        rcases List.mem_cons.1 hz with rfl | hz
        · have := hl z (by simp); omega
        · exact ih (fun u hu => hl u (by simp [hu])) z hz
    exact key _ ih x hx
theorem after_single (k : Nat) (x : Int) : after ms k [x] = [x] := encFrom_single x _ _
/-- More passes behind some. -/
theorem after_more (k d : Nat) (hk : k ≤ ms.length) (s : List Int) : after ms (k + d) s = encFrom ((256 : Int) + (k : Nat)) ((ms.drop k).take d) (after ms k s) := by
  unfold after
  rw [List.take_add, encFrom_append, List.length_take, Nat.min_eq_left hk]
/-- A token that is there: a byte, or one of the merges'. -/
def Tok (ms : List (Int × Int)) (t : Int) : Prop := 0 ≤ t ∧ t < 256 + (ms.length : Nat)
theorem ex_bytes (hS : Stands ms ex) : ∀ (n : Nat) (t : Int), t.toNat ≤ n → 0 ≤ t → t < 256 + (ms.length : Nat) → (∀ (i : Nat) (m : Int × Int), ms[i]? = some m → 0 ≤ m.1 ∧ 0 ≤ m.2) → (∀ x ∈ ex t, 0 ≤ x ∧ x < 256) ∧ ex t ≠ []
  | n, t, hn, h0, ht, hp => by
    by_cases hlow : t < 256
    · rw [hS.low t h0 hlow]
      exact ⟨fun x hx => by simp at hx; omega, by simp⟩
    · obtain ⟨j, rfl⟩ : ∃ j : Nat, t = 256 + (j : Nat) := ⟨(t - 256).toNat, by omega⟩
      have hj : j < ms.length := by omega
      have hm : ms[j]? = some ms[j] := List.getElem?_eq_getElem hj
      have hlt := sound_lt hS.sound j _ hm
      have hnn := hp j _ hm
      obtain ⟨n', rfl⟩ : ∃ n', n = n' + 1 := ⟨n - 1, by omega⟩
      have h1 := ex_bytes hS n' ms[j].1 (by omega) hnn.1 (by omega) hp
      have h2 := ex_bytes hS n' ms[j].2 (by omega) hnn.2 (by omega) hp
      rw [hS.high j _ hm]
      refine ⟨fun x hx => ?_, by simp [h1.2]⟩
      rcases List.mem_append.1 hx with hx | hx
      · exact h1.1 x hx
      · exact h2.1 x hx
end
/-- What a table must be. -/
structure GoodV (ms : List (Int × Int)) (ex : Int → List Int) : Prop where
  stands : Stands ms ex
  pos : ∀ (i : Nat) (m : Int × Int), ms[i]? = some m → 0 ≤ m.1 ∧ 0 ≤ m.2
section
variable {ms : List (Int × Int)} {ex : Int → List Int}
theorem GoodV.bytes (hG : GoodV ms ex) {t : Int} (ht : Tok ms t) : (∀ x ∈ ex t, 0 ≤ x ∧ x < 256) ∧ ex t ≠ [] := ex_bytes hG.stands t.toNat t (Nat.le_refl _) ht.1 ht.2 hG.pos
theorem expand_low (hS : Stands ms ex) : ∀ s : List Int, (∀ x ∈ s, 0 ≤ x ∧ x < 256) → expand ex s = s
  | [], _ => rfl
  | x :: s, h => by
    have h1 := h x (by simp)
    simp only [expand, List.flatMap_cons]
    rw [hS.low x h1.1 h1.2]
    have := expand_low hS s fun y hy => h y (by simp [hy])
    unfold expand at this
    rw [this]
    rfl
/-- Is a token made of its bytes? -/
def AloneT (ms : List (Int × Int)) (ex : Int → List Int) (t : Int) : Prop := after ms ms.length (ex t) = [t]
/-- A token that is made of its bytes is made of its parents, each of which is made of its own. -/
theorem alone_parts (hG : GoodV ms ex) {j : Nat} {m : Int × Int} (hm : ms[j]? = some m) (ha : AloneT ms ex ((256 : Int) + (j : Nat))) :
    after ms (j + 1) (ex ((256 : Int) + (j : Nat))) = [(256 : Int) + (j : Nat)] ∧ (∀ k, k ≤ j → after ms k (ex ((256 : Int) + (j : Nat))) = after ms k (ex m.1) ++ after ms k (ex m.2)) ∧ AloneT ms ex m.1 ∧ AloneT ms ex m.2 := by
  have hS := hG.stands
  have hj := (List.getElem?_eq_some_iff.1 hm).1
  have h1 : after ms (j + 1) (ex ((256 : Int) + (j : Nat))) = [(256 : Int) + (j : Nat)] := by
    have h2 := after_more (j + 1) (ms.length - (j + 1)) (show j + 1 ≤ ms.length by omega) (ex ((256 : Int) + (j : Nat)))
    rw [show j + 1 + (ms.length - (j + 1)) = ms.length by omega] at h2
    unfold AloneT at ha
    rw [ha] at h2
    exact encFrom_one _ _ _ (by omega) h2.symm
  have hb := hG.bytes (t := 256 + (j : Nat)) ⟨by omega, by omega⟩
  have hlt := after_lt (ms := ms) j (by omega) (ex ((256 : Int) + (j : Nat))) fun x hx => (hb.1 x hx).2
  have h2 : after ms j (ex ((256 : Int) + (j : Nat))) = [m.1, m.2] := by
    rw [after_succ ms hm] at h1
    match hl : after ms j (ex ((256 : Int) + (j : Nat))), h1 with
    | [x], h1 =>
      exfalso
      simp [pass] at h1
      have := hlt x (by rw [hl]; simp)
      omega
    | x :: y :: r, h1 =>
      by_cases hx : x = m.1 ∧ y = m.2
      · obtain ⟨rfl, rfl⟩ := hx
        rw [pass_yes] at h1
        simp only [List.cons.injEq] at h1
        cases r with
        | nil => rfl
        | cons z r => exact absurd h1.2 (pass_ne (by simp))
      · rw [pass_no r hx] at h1
        simp only [List.cons.injEq] at h1
        exact absurd h1.2 (pass_ne (by simp))
  have hex := hS.high j m hm
  have hlt2 := sound_lt hS.sound j m hm
  have hnn := hG.pos j m hm
  have b1 := hG.bytes (t := m.1) ⟨hnn.1, by omega⟩
  have b2 := hG.bytes (t := m.2) ⟨hnn.2, by omega⟩
  obtain ⟨P, Q, e, e1, e2⟩ := after_back ms j (by omega) _ [m.1] [m.2] (by rw [h2]; rfl)
  have hsub : ∀ x ∈ P ++ Q, 0 ≤ x ∧ x < 256 := by rw [← e]; exact hb.1
  have hP : P = ex m.1 := by
    have h3 := expand_after hS j (by omega) P
    rw [e1, expand_low hS P fun x hx => hsub x (by simp [hx])] at h3
    rw [← h3]; simp [expand]
  have hQ : Q = ex m.2 := by
    have h3 := expand_after hS j (by omega) Q
    rw [e2, expand_low hS Q fun x hx => hsub x (by simp [hx])] at h3
    rw [← h3]; simp [expand]
  rw [hP] at e1
  rw [hQ] at e2
  have hfree : after ms j (ex m.1 ++ ex m.2) = after ms j (ex m.1) ++ after ms j (ex m.2) := by rw [← hex, h2, e1, e2]; rfl
  have hno := (after_both hS j (by omega) (ex m.1) (ex m.2)).1 hfree
  have stay : ∀ x : Int, after ms j (ex x) = [x] → AloneT ms ex x := by
    intro x hx
    unfold AloneT
    have h3 := after_more j (ms.length - j) (show j ≤ ms.length by omega) (ex x)
    rw [show j + (ms.length - j) = ms.length by omega, hx] at h3
    rw [h3, encFrom_single]
  refine ⟨h1, fun k hk => ?_, stay _ e1, stay _ e2⟩
  rw [hex]
  exact after_free k (by omega) fun i hi => hno i (by omega)
/-- Where it has been made already it stays. -/
theorem alone_made (hG : GoodV ms ex) {t : Int} (ht : Tok ms t) (ha : AloneT ms ex t) {k : Nat} (hk : k ≤ ms.length) (h : t < 256 + (k : Nat)) : after ms k (ex t) = [t] := by
  by_cases hlow : t < 256
  · rw [hG.stands.low t ht.1 hlow]
    exact after_single k t
  · obtain ⟨j, rfl⟩ : ∃ j : Nat, t = 256 + (j : Nat) := ⟨(t - 256).toNat, by omega⟩
    have hj : j < ms.length := by have := ht.2; omega
    obtain ⟨h1, _⟩ := alone_parts hG (List.getElem?_eq_getElem hj) ha
    have h2 := after_more (j + 1) (k - (j + 1)) (show j + 1 ≤ ms.length by omega) (ex ((256 : Int) + (j : Nat)))
    rw [show j + 1 + (k - (j + 1)) = k by omega, h1] at h2
    rw [h2, encFrom_single]
/-- Nothing is joined between two tokens by a pass below a limit. -/
def FreeTo (ms : List (Int × Int)) (ex : Int → List Int) (a b limit : Int) : Prop := ∀ k, k < ms.length → 256 + (k : Int) < limit → ¬ CrossAt ms (ex a) (ex b) k
theorem free_blocked (hG : GoodV ms ex) {a b limit : Int} (ha : Tok ms a) (hb : Tok ms b) (aa : AloneT ms ex a) (ab : AloneT ms ex b) {i : Nat} (hi : ms[i]? = some (a, b)) (hl : 256 + (i : Int) < limit) : ¬ FreeTo ms ex a b limit := by
  intro h
  have hil := (List.getElem?_eq_some_iff.1 hi).1
  have hlt := sound_lt hG.stands.sound i _ hi
  refine h i hil hl ⟨(a, b), hi, ?_, ?_⟩
  · rw [alone_made hG ha aa (by omega) (by dsimp only at hlt; omega)]; rfl
  · rw [alone_made hG hb ab (by omega) (by dsimp only at hlt; omega)]; rfl
/-- Two that stand as they are join nothing, but by a merge of just them. -/
theorem cross_made (hG : GoodV ms ex) {a b : Int} (ha : Tok ms a) (hb : Tok ms b) (aa : AloneT ms ex a) (ab : AloneT ms ex b) {k : Nat} (hk : k < ms.length) (h1 : a ≤ 256 + (k : Int)) (h2 : b < 256 + (k : Int)) (h : CrossAt ms (ex a) (ex b) k) : ms[k]? = some (a, b) := by
  obtain ⟨m, hm, hl, hh⟩ := h
  rw [alone_made hG ha aa (by omega) (by omega)] at hl
  rw [alone_made hG hb ab (by omega) (by omega)] at hh
  simp at hl hh
  rw [hm]
  congr 1
  exact Prod.ext hl.symm hh.symm
theorem free_left (hG : GoodV ms ex) {b limit : Int} {j : Nat} {m : Int × Int} (hm : ms[j]? = some m) (hb : Tok ms b) (aa : AloneT ms ex ((256 : Int) + (j : Nat))) (ab : AloneT ms ex b) (hba : b < 256 + (j : Nat)) (hlim : 256 + (j : Int) ≤ limit)
    (hno : ∀ i : Nat, ms[i]? = some (256 + (j : Int), b) → limit ≤ 256 + (i : Int)) : FreeTo ms ex ((256 : Int) + (j : Nat)) b limit ↔ FreeTo ms ex m.2 b ((256 : Int) + (j : Nat)) := by
  have hj := (List.getElem?_eq_some_iff.1 hm).1
  obtain ⟨h1, h2, h3, h4⟩ := alone_parts hG hm aa
  have hnn := hG.pos j m hm
  have hlt := sound_lt hG.stands.sound j m hm
  have b2 := hG.bytes (t := m.2) ⟨hnn.2, by omega⟩
  have same : ∀ k, k < j → (CrossAt ms (ex ((256 : Int) + (j : Nat))) (ex b) k ↔ CrossAt ms (ex m.2) (ex b) k) := by
    intro k hk
    unfold CrossAt
    rw [h2 (k + 1) (by omega), getLast_app _ (after_ne ms b2.2 (k + 1))]
  constructor
  · intro h k hk hkl hc
    exact h k hk (by omega) ((same k (by omega)).2 hc)
  · intro h k hk hkl hc
    by_cases hkj : k < j
    · exact h k hk (by omega) ((same k hkj).1 hc)
    · have := cross_made hG (a := 256 + (j : Nat)) ⟨by omega, by omega⟩ hb aa ab hk (by omega) (by omega) hc
      have := hno k this
      omega
theorem free_right (hG : GoodV ms ex) {a limit : Int} {j : Nat} {m : Int × Int} (hm : ms[j]? = some m) (ha : Tok ms a) (aa : AloneT ms ex a) (ab : AloneT ms ex ((256 : Int) + (j : Nat))) (hab : a ≤ 256 + (j : Nat)) (hlim : 256 + (j : Int) + 1 ≤ limit)
    (hno : ∀ i : Nat, ms[i]? = some (a, 256 + (j : Int)) → limit ≤ 256 + (i : Int)) : FreeTo ms ex a ((256 : Int) + (j : Nat)) limit ↔ FreeTo ms ex a m.1 (256 + (j : Nat) + 1) := by
  have hj := (List.getElem?_eq_some_iff.1 hm).1
  obtain ⟨h1, h2, h3, h4⟩ := alone_parts hG hm ab
  have hnn := hG.pos j m hm
  have hlt := sound_lt hG.stands.sound j m hm
  have b1 := hG.bytes (t := m.1) ⟨hnn.1, by omega⟩
  have same : ∀ k, k ≤ j → (CrossAt ms (ex a) (ex ((256 : Int) + (j : Nat))) k ↔ CrossAt ms (ex a) (ex m.1) k) := by
    intro k hk
    unfold CrossAt
    rw [h2 k hk, head_app _ (after_ne ms b1.2 k)]
  constructor
  · intro h k hk hkl hc
    exact h k hk (by omega) ((same k (by omega)).2 hc)
  · intro h k hk hkl hc
    by_cases hkj : k ≤ j
    · exact h k hk (by omega) ((same k hkj).1 hc)
    · have := cross_made hG (b := 256 + (j : Nat)) ha ⟨by omega, by omega⟩ aa ab hk (by omega) (by omega) hc
      have := hno k this
      omega
theorem free_bytes (hG : GoodV ms ex) {a b limit : Int} (ha : Tok ms a) (hb : Tok ms b) (aa : AloneT ms ex a) (ab : AloneT ms ex b) (h1 : a < 256) (h2 : b < 256) (hno : ∀ i : Nat, ms[i]? = some (a, b) → limit ≤ 256 + (i : Int)) : FreeTo ms ex a b limit := by
  intro k hk hkl hc
  have := hno k (cross_made hG ha hb aa ab hk (by omega) (by omega) hc)
  omega

/-! ### Tokens in a row -/
/-- Are they what is made of their bytes? -/
def CanonT (ms : List (Int × Int)) (ex : Int → List Int) (ids : List Int) : Prop := after ms ms.length (expand ex ids) = ids
theorem expand_bytes (hG : GoodV ms ex) {ids : List Int} (h : ∀ t ∈ ids, Tok ms t) : ∀ x ∈ expand ex ids, 0 ≤ x ∧ x < 256 := by
  intro x hx
  obtain ⟨t, ht, hxt⟩ := List.mem_flatMap.1 hx
  exact (hG.bytes (h t ht)).1 x hxt
theorem canon_parts (hG : GoodV ms ex) {P Q : List Int} (ht : ∀ t ∈ P ++ Q, Tok ms t) (h : CanonT ms ex (P ++ Q)) : CanonT ms ex P ∧ CanonT ms ex Q ∧ ∀ k, k < ms.length → ¬ CrossAt ms (expand ex P) (expand ex Q) k := by
  have hS := hG.stands
  unfold CanonT at h
  obtain ⟨X, Y, e, e1, e2⟩ := after_back ms ms.length (Nat.le_refl _) _ P Q h
  have hb := expand_bytes hG ht
  rw [e] at hb
  have hX : X = expand ex P := by
    have h3 := expand_after hS ms.length (Nat.le_refl _) X
    rw [e1, expand_low hS X fun x hx => hb x (by simp [hx])] at h3
    exact h3.symm
  have hY : Y = expand ex Q := by
    have h3 := expand_after hS ms.length (Nat.le_refl _) Y
    rw [e2, expand_low hS Y fun x hx => hb x (by simp [hx])] at h3
    exact h3.symm
  subst hX hY
  refine ⟨e1, e2, (after_both hS ms.length (Nat.le_refl _) _ _).1 ?_⟩
  rw [← e, h, e1, e2]
theorem canon_snoc (hG : GoodV ms ex) {init : List Int} {l t : Int} (ht : ∀ x ∈ init ++ [l], Tok ms x) (h : CanonT ms ex (init ++ [l])) (hT : Tok ms t) (ha : AloneT ms ex t) : CanonT ms ex (init ++ [l] ++ [t]) ↔ ∀ k, k < ms.length → ¬ CrossAt ms (ex l) (ex t) k := by
  have hS := hG.stands
  obtain ⟨_, _, hno⟩ := canon_parts hG ht h
  have one : ∀ x : Int, expand ex [x] = ex x := fun x => by simp [expand]
  have bl := hG.bytes (ht l (by simp))
  have same : ∀ k, k < ms.length → (CrossAt ms (expand ex (init ++ [l])) (ex t) k ↔ CrossAt ms (ex l) (ex t) k) := by
    intro k hk
    unfold CrossAt
    rw [expand_append, one, after_free (k + 1) (by omega) fun j hj => by have := hno j (by omega); rwa [one] at this, getLast_app _ (after_ne ms bl.2 (k + 1))]
  unfold CanonT
  have h' : after ms ms.length (expand ex (init ++ [l])) = init ++ [l] := h
  have ha' : after ms ms.length (ex t) = [t] := ha
  rw [expand_append (init ++ [l]) [t], one]
  have := after_both hS ms.length (Nat.le_refl _) (expand ex (init ++ [l])) (ex t)
  rw [h', ha'] at this
  rw [this]
  exact ⟨fun h k hk hc => h k hk ((same k hk).2 hc), fun h k hk hc => h k hk ((same k hk).1 hc)⟩
end
end Go.Proofs.YtpklkijdlnioaaaGreat.Eng
