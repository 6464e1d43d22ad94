/- A vocabulary as a text, in plain Lean: no program in sight. -/
import Derived.Test.YtldgehlbicoedaaGreatDoorWm
namespace Go.Proofs.YtldgehlbicoedaaGreatDoor.Eng
open Go

abbrev Bs := List UInt8
/-- What a spec holds. -/
structure SpecV where
  ranked : Bool := false
  merges : List (Int × Int) := []
  tokens : List Bs := []
  specials : List (Int × Bs) := []
  classes : List (Int × Int × Int) := []
  joins : List (Int × Int) := []
  deriving DecidableEq

def mergeOk (m : Int × Int) : Bool := decide (0 ≤ m.1 ∧ m.1 ≤ 999 ∧ 0 ≤ m.2 ∧ m.2 ≤ 999)
def thingOk (s : Bs) : Bool := decide (2 ≤ s.length ∧ s.length ≤ 64)
def specialOk (x : Int × Bs) : Bool := decide (0 ≤ x.1 ∧ x.1 ≤ 1073741824 ∧ 1 ≤ x.2.length ∧ x.2.length ≤ 64)
def classOk (c : Int × Int × Int) : Bool := decide (0 ≤ c.1 ∧ c.1 ≤ c.2.1 ∧ c.2.1 ≤ 255 ∧ 0 ≤ c.2.2 ∧ c.2.2 ≤ 15)
def joinOk (j : Int × Int) : Bool := decide (0 ≤ j.1 ∧ j.1 ≤ 15 ∧ 0 ≤ j.2 ∧ j.2 ≤ 15)
def allOk {α : Type} (l : List α) (most : Nat) (may : α → Bool) : Bool := decide (l.length ≤ most) && l.all may
/-- Is a spec right? -/
def SpecV.right (s : SpecV) : Bool :=
  (if s.ranked then s.merges.isEmpty else s.tokens.isEmpty) && allOk s.merges 744 mergeOk && allOk s.tokens 744 thingOk && allOk s.specials 32 specialOk && allOk s.classes 64 classOk && allOk s.joins 64 joinOk

/-! ### Its lines -/
def wVocab : Bs := [118, 111, 99, 97, 98]
def wMerges : Bs := [109, 101, 114, 103, 101, 115]
def wRanks : Bs := [114, 97, 110, 107, 115]
def wMerge : Bs := [109, 101, 114, 103, 101]
def wToken : Bs := [116, 111, 107, 101, 110]
def wSpecial : Bs := [115, 112, 101, 99, 105, 97, 108]
def wClass : Bs := [99, 108, 97, 115, 115]
def wJoin : Bs := [106, 111, 105, 110]
/-- Words as a line. -/
def lineOf (ws : List Bs) : Bs := Lib.join ws [32]
def headL (r : Bool) : Bs := lineOf [wVocab, if r then wRanks else wMerges]
def mergeL (m : Int × Int) : Bs := lineOf [wMerge, Lib.itoa m.1, Lib.itoa m.2]
def tokenL (t : Bs) : Bs := lineOf [wToken, hexT t]
def specialL (x : Int × Bs) : Bs := lineOf [wSpecial, Lib.itoa x.1, hexT x.2]
def classL (c : Int × Int × Int) : Bs := lineOf [wClass, Lib.itoa c.1, Lib.itoa c.2.1, Lib.itoa c.2.2]
def joinL (j : Int × Int) : Bs := lineOf [wJoin, Lib.itoa j.1, Lib.itoa j.2]
def SpecV.tail (s : SpecV) : List Bs := s.merges.map mergeL ++ (s.tokens.map tokenL ++ (s.specials.map specialL ++ (s.classes.map classL ++ s.joins.map joinL)))
def SpecV.lines (s : SpecV) : List Bs := headL s.ranked :: s.tail
def textOf (ls : List Bs) : Bs := (ls.map (· ++ [10])).flatten
def SpecV.text (s : SpecV) : Bs := textOf s.lines

/-! ### Cut and joined -/
theorem lineOf_one (w : Bs) : lineOf [w] = w := Lib.join_one w [32]
theorem lineOf_cons (w x : Bs) (r : List Bs) : lineOf (w :: x :: r) = w ++ 32 :: lineOf (x :: r) := by
  unfold lineOf
  rw [Lib.join_cons, Lib.join_cons]
  simp [Lib.joinTail]
theorem cut_lineOf (ws : List Bs) (hne : ws ≠ []) (h : ∀ w ∈ ws, 32 ∉ w) : cutL 32 (lineOf ws) = ws := by
  induction ws with
  | nil => exact absurd rfl hne
  | cons w r ih =>
    cases r with
    | nil => rw [lineOf_one]; exact cutL_last 32 w (h w (by simp))
    | cons x r =>
      rw [lineOf_cons, cutL_app 32 w _ (h w (by simp)), ih (by simp) (fun y hy => h y (by simp [hy]))]
theorem lineOf_cut (l : Bs) : lineOf (cutL 32 l) = l := by
  induction l with
  | nil => rfl
  | cons b l ih =>
    simp only [cutL]
    split
    · rename_i hb
      subst hb
      cases hc : cutL 32 l with
      | nil => exact absurd hc (cutL_ne 32 l)
      | cons x r =>
        rw [lineOf_cons, ← hc, ih]
        rfl
    · cases hc : cutL 32 l with
      | nil => exact absurd hc (cutL_ne 32 l)
      | cons x r =>
        rw [hc] at ih
        cases r with
        | nil => rw [lineOf_one] at ih ⊢; rw [ih]
        | cons y r => rw [lineOf_cons] at ih ⊢; rw [List.cons_append, ih]
theorem cut_textOf (ls : List Bs) (h : ∀ l ∈ ls, 10 ∉ l) : cutL 10 (textOf ls) = ls ++ [[]] := by
  induction ls with
  | nil => rfl
  | cons l r ih =>
    have : textOf (l :: r) = l ++ 10 :: textOf r := by simp [textOf]
    rw [this, cutL_app 10 l _ (h l (by simp)), ih (fun y hy => h y (by simp [hy]))]
    rfl
theorem textOf_cut (t : Bs) (h : (cutL 10 t).getLast? = some []) : textOf (cutL 10 t).dropLast = t := by
  induction t with
  | nil => rfl
  | cons b t ih =>
    cases hc : cutL 10 t with
    | nil => exact absurd hc (cutL_ne 10 t)
    | cons x r =>
      simp only [cutL, hc] at h ⊢
      rw [hc] at ih
      split at h
      · rename_i hb
        subst hb
        rw [if_pos rfl]
        rw [List.getLast?_cons_cons] at h
        have := ih h
        rw [List.dropLast_cons_of_ne_nil (by simp)]
        simp only [textOf, List.map_cons, List.flatten_cons] at this ⊢
        rw [this]
        rfl
      · rename_i hb
        rw [if_neg hb]
        cases r with
        | nil => simp at h
        | cons y r =>
          rw [List.getLast?_cons_cons] at h
          have := ih (by rw [List.getLast?_cons_cons]; exact h)
          rw [List.dropLast_cons_of_ne_nil (by simp)] at this ⊢
          simp only [textOf, List.map_cons, List.flatten_cons, List.cons_append] at this ⊢
          rw [this]
/-- What is cut holds no such byte. -/
theorem cutL_free (c : UInt8) (l : Bs) : ∀ w ∈ cutL c l, c ∉ w := by
  induction l with
  | nil => intro w hw; simp [cutL] at hw; subst hw; simp
  | cons b l ih =>
    intro w hw
    simp only [cutL] at hw
    split at hw
    · rcases List.mem_cons.1 hw with e | e
      · subst e; simp
      · exact ih w e
    · rename_i hb
      cases hc : cutL c l with
      | nil => exact absurd hc (cutL_ne c l)
      | cons x r =>
        rw [hc] at hw ih
        rcases List.mem_cons.1 hw with e | e
        · subst e
          intro hm
          rcases List.mem_cons.1 hm with e | e
          · exact hb e.symm
          · exact ih x (by simp) e
        · exact ih w (by simp [e])

/-! ### What words hold -/
theorem digit_not (b : UInt8) (h : isD b) : b ≠ 32 ∧ b ≠ 10 := by
  unfold isD at h
  constructor <;> (intro e; subst e; simp at h)
theorem itoa_free (n : Int) : 32 ∉ Lib.itoa n ∧ 10 ∉ Lib.itoa n := by
  unfold Lib.itoa
  split
  · constructor
    · intro h
      rcases List.mem_cons.1 h with e | e
      · cases e
      · exact (digit_not _ (dec_digits _ _ e)).1 rfl
    · intro h
      rcases List.mem_cons.1 h with e | e
      · cases e
      · exact (digit_not _ (dec_digits _ _ e)).2 rfl
  · exact ⟨fun e => (digit_not _ (dec_digits _ _ e)).1 rfl, fun e => (digit_not _ (dec_digits _ _ e)).2 rfl⟩
theorem hx_all : ∀ n : Fin 16, hx n.val ≠ 32 ∧ hx n.val ≠ 10 := by decide
theorem hexBody_free (l : Bs) : 32 ∉ hexBody l ∧ 10 ∉ hexBody l := by
  induction l with
  | nil => simp [hexBody]
  | cons b l ih =>
    have hb := b.toNat_lt
    have h1 := hx_all ⟨b.toNat / 16, by omega⟩
    have h2 := hx_all ⟨b.toNat % 16, by omega⟩
    simp only [hexBody, List.mem_cons, not_or]
    exact ⟨⟨fun e => h1.1 e.symm, fun e => h2.1 e.symm, ih.1⟩, ⟨fun e => h1.2 e.symm, fun e => h2.2 e.symm, ih.2⟩⟩
theorem hexT_free (l : Bs) : 32 ∉ hexT l ∧ 10 ∉ hexT l := by
  unfold hexT
  split
  · decide
  · exact hexBody_free l
end Go.Proofs.YtldgehlbicoedaaGreatDoor.Eng

/- A vocabulary's text read, line by line, in plain Lean: the program's way and the document's. -/
namespace Go.Proofs.YtldgehlbicoedaaGreatDoor.Eng
open Go

abbrev maxId : Int := 1073741824
/-- A number that a word tells. -/
noncomputable def numW (w : Bs) : Option Int := (parseT w maxId).map fun u => (u : Int)
noncomputable def nums2 : List Bs → Option (Int × Int)
  | [a, b] => match numW a, numW b with
    | some x, some y => some (x, y)
    | _, _ => none
  | _ => none
noncomputable def nums3 : List Bs → Option (Int × Int × Int)
  | [a, b, c] => match numW a, numW b, numW c with
    | some x, some y, some z => some (x, y, z)
    | _, _, _ => none
  | _ => none
def hexW : List Bs → Option Bs
  | [a] => unhexT a
  | _ => none
noncomputable def specW : List Bs → Option (Int × Bs)
  | [a, b] => match numW a, unhexT b with
    | some x, some y => some (x, y)
    | _, _ => none
  | _ => none
/-- What a line's words add to a spec, and of what kind they are. -/
noncomputable def addW (s : SpecV) : List Bs → Option (SpecV × Nat)
  | [] => none
  | first :: l =>
    if first = wVocab then
      (if l = [wRanks] then some ({ s with ranked := true }, 0) else if l = [wMerges] then some ({ s with ranked := false }, 0) else none)
    else if first = wMerge then (nums2 l).map fun m => ({ s with merges := s.merges ++ [m] }, 1)
    else if first = wToken then (hexW l).map fun m => ({ s with tokens := s.tokens ++ [m] }, 1)
    else if first = wSpecial then (specW l).map fun m => ({ s with specials := s.specials ++ [m] }, 2)
    else if first = wClass then (nums3 l).map fun m => ({ s with classes := s.classes ++ [m] }, 3)
    else if first = wJoin then (nums2 l).map fun m => ({ s with joins := s.joins ++ [m] }, 4)
    else none
/-- May it stand there? -/
def gate (k n : Nat) : Option (SpecV × Nat) → Option (SpecV × Nat)
  | none => none
  | some (x, j) => if (n = 0 ↔ j = 0) ∧ k ≤ j ∧ x.right = true then some (x, j) else none
noncomputable def readLn (s : SpecV) (k n : Nat) (line : Bs) : Option (SpecV × Nat) := gate k n (addW s (cutL 32 line))
/-- The lines of a text, from the n-th one on: the spec, or the line that is wrong. -/
noncomputable def readAll (s : SpecV) (k n : Nat) : List Bs → Except Nat (SpecV × Nat)
  | [] => .ok (s, k)
  | l :: r => match readLn s k n l with
    | none => .error (n + 1)
    | some (x, j) => readAll x j (n + 1) r
/-- A text's spec, or the line that is wrong. -/
noncomputable def parseS (t : Bs) : Except Nat SpecV :=
  match readAll {} 0 0 (cutL 10 t).dropLast with
  | .error n => .error n
  | .ok s => if (cutL 10 t).getLast? = some [] ∧ (cutL 10 t).dropLast ≠ [] then .ok s.1 else .error (cutL 10 t).length

/-! ### The document's way -/
noncomputable def numAt (l : List Bs) (i : Nat) : Int := match l[i]? with
  | some w => (numW w).getD (-1)
  | none => -1
def hexAt (l : List Bs) (i : Nat) : Bs := match l[i]? with
  | some w => (unhexT w).getD []
  | none => []
noncomputable def refAdd (s : SpecV) (line : Bs) (l : List Bs) : SpecV :=
  if l.head? = some wVocab then { s with ranked := decide (line = headL true) }
  else if l.head? = some wMerge then { s with merges := s.merges ++ [(numAt l 1, numAt l 2)] }
  else if l.head? = some wToken then { s with tokens := s.tokens ++ [hexAt l 1] }
  else if l.head? = some wSpecial then { s with specials := s.specials ++ [(numAt l 1, hexAt l 2)] }
  else if l.head? = some wClass then { s with classes := s.classes ++ [(numAt l 1, numAt l 2, numAt l 3)] }
  else if l.head? = some wJoin then { s with joins := s.joins ++ [(numAt l 1, numAt l 2)] }
  else s
noncomputable def refLn (s : SpecV) (n : Nat) (line : Bs) : Option SpecV :=
  if (refAdd s line (cutL 32 line)).right = true ∧ (refAdd s line (cutL 32 line)).lines.length = n + 1 ∧ (refAdd s line (cutL 32 line)).lines[n]? = some line then some (refAdd s line (cutL 32 line)) else none

noncomputable def refAll (s : SpecV) (n : Nat) : List Bs → Except Nat SpecV
  | [] => .ok s
  | l :: r => match refLn s n l with
    | none => .error (n + 1)
    | some x => refAll x (n + 1) r
/-! ### Words, and what they tell -/
theorem numW_word {w : Bs} {x : Int} (h : numW w = some x) : Lib.itoa x = w ∧ 0 ≤ x := by
  unfold numW at h
  obtain ⟨u, hu, rfl⟩ := Option.map_eq_some_iff.1 h
  unfold parseT at hu
  split at hu
  · rename_i hc
    cases hu
    exact ⟨by rw [Lib.itoa_nonneg]; exact numeral_dec w.length w (Nat.le_refl _) hc.1, by omega⟩
  · cases hu
theorem numW_itoa (u : Nat) (h : (u : Int) ≤ maxId) : numW (Lib.itoa (u : Int)) = some (u : Int) := by
  unfold numW
  rw [Lib.itoa_nonneg, parseT_some _ _ u (by unfold maxI; unfold maxId at h; omega) h rfl]
  rfl
theorem numAt_word {l : List Bs} {i : Nat} (h : 0 ≤ numAt l i) : ∃ w, l[i]? = some w ∧ numW w = some (numAt l i) := by
  unfold numAt at h ⊢
  split at h
  · rename_i w hw
    cases hn : numW w with
    | none => rw [hn] at h; simp at h
    | some x => exact ⟨w, hw, by simp [hn]⟩
  · omega
theorem hexAt_word {l : List Bs} {i : Nat} (h : hexAt l i ≠ []) : ∃ w, l[i]? = some w ∧ unhexT w = some (hexAt l i) := by
  unfold hexAt at h ⊢
  split at h
  · rename_i w hw
    cases hn : unhexT w with
    | none => rw [hn] at h; simp at h
    | some x => exact ⟨w, hw, by simp [hn]⟩
  · exact absurd rfl h
theorem numAt_of {l : List Bs} {i : Nat} {w : Bs} {x : Int} (h : l[i]? = some w) (hx : numW w = some x) : numAt l i = x := by
  unfold numAt; rw [h]; simp [hx]
theorem hexAt_of {l : List Bs} {i : Nat} {w x : Bs} (h : l[i]? = some w) (hx : unhexT w = some x) : hexAt l i = x := by
  unfold hexAt; rw [h]; simp [hx]

/-- The words of a line that stands in a text. -/
theorem cut_mergeL (m : Int × Int) : cutL 32 (mergeL m) = [wMerge, Lib.itoa m.1, Lib.itoa m.2] :=
  cut_lineOf _ (by simp) (by intro w hw; simp at hw; rcases hw with rfl | rfl | rfl; · decide
                             · exact (itoa_free _).1
                             · exact (itoa_free _).1)
theorem cut_tokenL (t : Bs) : cutL 32 (tokenL t) = [wToken, hexT t] :=
  cut_lineOf _ (by simp) (by intro w hw; simp at hw; rcases hw with rfl | rfl; · decide
                             · exact (hexT_free _).1)
theorem cut_specialL (x : Int × Bs) : cutL 32 (specialL x) = [wSpecial, Lib.itoa x.1, hexT x.2] :=
  cut_lineOf _ (by simp) (by intro w hw; simp at hw; rcases hw with rfl | rfl | rfl; · decide
                             · exact (itoa_free _).1
                             · exact (hexT_free _).1)
theorem cut_classL (c : Int × Int × Int) : cutL 32 (classL c) = [wClass, Lib.itoa c.1, Lib.itoa c.2.1, Lib.itoa c.2.2] :=
  cut_lineOf _ (by simp) (by intro w hw; simp at hw; rcases hw with rfl | rfl | rfl | rfl; · decide
                             · exact (itoa_free _).1
                             · exact (itoa_free _).1
                             · exact (itoa_free _).1)
theorem cut_joinL (m : Int × Int) : cutL 32 (joinL m) = [wJoin, Lib.itoa m.1, Lib.itoa m.2] :=
  cut_lineOf _ (by simp) (by intro w hw; simp at hw; rcases hw with rfl | rfl | rfl; · decide
                             · exact (itoa_free _).1
                             · exact (itoa_free _).1)
theorem cut_headL (r : Bool) : cutL 32 (headL r) = [wVocab, if r then wRanks else wMerges] :=
  cut_lineOf _ (by simp) (by intro w hw; simp at hw; rcases hw with rfl | rfl; · decide
                             · cases r <;> decide)

/-- Where a new line stands last. -/
theorem last_line {s x : SpecV} {n : Nat} {line lk w : Bs} {pre post : List Bs} (hs : s.lines = pre ++ post) (hn : s.lines.length = n) (hx : x.lines = pre ++ lk :: post)
    (hline : (cutL 32 line).head? = some w) (hpost : ∀ p ∈ post, (cutL 32 p).head? ≠ some w) : (x.lines.length = n + 1 ∧ x.lines[n]? = some line) ↔ (post = [] ∧ lk = line) := by
  rw [hs, List.length_append] at hn
  rw [hx]
  constructor
  · rintro ⟨_, h⟩
    cases post with
    | nil =>
      simp at hn
      rw [List.getElem?_append_right (by omega)] at h
      rw [show n - pre.length = 0 by omega] at h
      simpa using h
    | cons p r =>
      exfalso
      rw [List.getElem?_append_right (by omega)] at h
      simp at hn
      rw [show n - pre.length = (r.length) + 1 by omega, List.getElem?_cons_succ] at h
      have hm := List.mem_of_getElem? h
      exact hpost line hm hline
  · rintro ⟨rfl, rfl⟩
    simp at hn
    subst hn
    simp
end Go.Proofs.YtldgehlbicoedaaGreatDoor.Eng

/- The program's way to read a vocabulary's lines comes to what the document's way comes to. -/
namespace Go.Proofs.YtldgehlbicoedaaGreatDoor.Eng
open Go

/-- The kind of a spec's last line. -/
def kindOf (s : SpecV) : Nat := if s.joins ≠ [] then 4 else if s.classes ≠ [] then 3 else if s.specials ≠ [] then 2 else if s.merges ≠ [] ∨ s.tokens ≠ [] then 1 else 0
/-- What has been read. -/
def Read (s : SpecV) (k n : Nat) (done : List Bs) : Prop := (n = 0 ∧ s = {} ∧ k = 0 ∧ done = []) ∨ (0 < n ∧ s.lines = done ∧ done.length = n ∧ s.right = true ∧ k = kindOf s)

theorem kind_case {s x : SpecV} {n k j : Nat} {line lk w : Bs} {pre post done : List Bs} (item : Option (SpecV × Nat)) (hd : s.lines = done) (hs : s.lines = pre ++ post) (hn : s.lines.length = n) (h0 : n ≠ 0) (hx : x.lines = pre ++ lk :: post)
    (hline : (cutL 32 line).head? = some w) (hpost : ∀ p ∈ post, (cutL 32 p).head? ≠ some w) (hj : j ≠ 0) (hk : x.right = true → (k ≤ j ↔ post = [])) (hkind : x.right = true → post = [] → kindOf x = j)
    (h1 : ∀ y, item = some y → y = (x, j) ∧ lk = line) (h2 : x.right = true → lk = line → item = some (x, j)) :
    (if x.right = true ∧ x.lines.length = n + 1 ∧ x.lines[n]? = some line then some x else none) =
      (gate k n item).map (·.1) ∧
    ∀ y j', gate k n item = some (y, j') → Read y j' (n + 1) (done ++ [line]) := by
  have hll := last_line hs hn hx hline hpost
  cases hi : item with
  | none =>
    refine ⟨?_, by simp [gate]⟩
    rw [if_neg]
    · rfl
    · rintro ⟨hr, hl⟩
      have := h2 hr (hll.1 hl).2
      rw [hi] at this
      cases this
  | some y =>
    obtain ⟨rfl, hlk⟩ := h1 y hi
    by_cases hr : x.right = true
    · by_cases hp : post = []
      · have hc : x.right = true ∧ x.lines.length = n + 1 ∧ x.lines[n]? = some line := ⟨hr, hll.2 ⟨hp, hlk⟩⟩
        have hc2 : (n = 0 ↔ j = 0) ∧ k ≤ j ∧ x.right = true := ⟨by constructor <;> intro e <;> omega, (hk hr).2 hp, hr⟩
        rw [if_pos hc]
        simp only [gate, if_pos hc2]
        refine ⟨rfl, ?_⟩
        intro y j' e
        cases e
        refine .inr ⟨by omega, ?_, ?_, hr, (hkind hr hp).symm⟩
        · rw [hx, ← hd, hs, hp, hlk]; simp
        · rw [← hd, List.length_append, hn]; rfl
      · rw [if_neg (by rintro ⟨_, hl⟩; exact hp (hll.1 hl).1)]
        have hc2 : ¬ ((n = 0 ↔ j = 0) ∧ k ≤ j ∧ x.right = true) := by rintro ⟨_, h, _⟩; exact hp ((hk hr).1 h)
        simp only [gate, if_neg hc2]
        exact ⟨rfl, by simp⟩
    · rw [if_neg (by rintro ⟨h, _⟩; exact hr h)]
      have hc2 : ¬ ((n = 0 ↔ j = 0) ∧ k ≤ j ∧ x.right = true) := by rintro ⟨_, _, h⟩; exact hr h
      simp only [gate, if_neg hc2]
      exact ⟨rfl, by simp⟩

theorem right_parts {s : SpecV} (h : s.right = true) : (if s.ranked then s.merges.isEmpty else s.tokens.isEmpty) = true ∧ allOk s.merges 744 mergeOk = true ∧ allOk s.tokens 744 thingOk = true ∧ allOk s.specials 32 specialOk = true ∧ allOk s.classes 64 classOk = true ∧ allOk s.joins 64 joinOk = true := by
  unfold SpecV.right at h
  simp only [Bool.and_eq_true] at h
  obtain ⟨⟨⟨⟨⟨h1, h2⟩, h3⟩, h4⟩, h5⟩, h6⟩ := h
  exact ⟨h1, h2, h3, h4, h5, h6⟩
theorem allOk_last {α : Type} {l : List α} {x : α} {most : Nat} {may : α → Bool} (h : allOk (l ++ [x]) most may = true) : may x = true := by
  unfold allOk at h
  simp only [Bool.and_eq_true, List.all_append, List.all_cons, List.all_nil] at h
  exact h.2.2.1

theorem nums2_of {a b : Bs} {x y : Int} (hx : numW a = some x) (hy : numW b = some y) : nums2 [a, b] = some (x, y) := by simp [nums2, hx, hy]
theorem nums2_out {l : List Bs} {m : Int × Int} (h : nums2 l = some m) : ∃ a b, l = [a, b] ∧ numW a = some m.1 ∧ numW b = some m.2 := by
  match l, h with
  | [a, b], h =>
    simp only [nums2] at h
    split at h
    · rename_i x y hx hy; cases h; exact ⟨a, b, rfl, hx, hy⟩
    · cases h
theorem nums3_out {l : List Bs} {m : Int × Int × Int} (h : nums3 l = some m) : ∃ a b c, l = [a, b, c] ∧ numW a = some m.1 ∧ numW b = some m.2.1 ∧ numW c = some m.2.2 := by
  match l, h with
  | [a, b, c], h =>
    simp only [nums3] at h
    split at h
    · rename_i x y z hx hy hz; cases h; exact ⟨a, b, c, rfl, hx, hy, hz⟩
    · cases h
theorem hexW_out {l : List Bs} {t : Bs} (h : hexW l = some t) : ∃ a, l = [a] ∧ unhexT a = some t := by
  match l, h with
  | [a], h => exact ⟨a, rfl, h⟩
theorem specW_out {l : List Bs} {m : Int × Bs} (h : specW l = some m) : ∃ a b, l = [a, b] ∧ numW a = some m.1 ∧ unhexT b = some m.2 := by
  match l, h with
  | [a, b], h =>
    simp only [specW] at h
    split at h
    · rename_i x y hx hy; cases h; exact ⟨a, b, rfl, hx, hy⟩
    · cases h
/-- Two numbers, told: by the program's words and by the document's. -/
theorem pair_words {w line : Bs} {l : List Bs} (hw : cutL 32 line = w :: l) :
    (∀ m, nums2 l = some m → (numAt (w :: l) 1, numAt (w :: l) 2) = m ∧ lineOf [w, Lib.itoa (numAt (w :: l) 1), Lib.itoa (numAt (w :: l) 2)] = line) ∧
    (0 ≤ numAt (w :: l) 1 → 0 ≤ numAt (w :: l) 2 → lineOf [w, Lib.itoa (numAt (w :: l) 1), Lib.itoa (numAt (w :: l) 2)] = line → nums2 l = some (numAt (w :: l) 1, numAt (w :: l) 2)) := by
  have hline : line = lineOf (w :: l) := by rw [← hw, lineOf_cut]
  have hfree := cutL_free 32 line
  rw [hw] at hfree
  constructor
  · intro m hm
    obtain ⟨a, b, rfl, ha, hb⟩ := nums2_out hm
    rw [numAt_of (l := [w, a, b]) (i := 1) rfl ha, numAt_of (l := [w, a, b]) (i := 2) rfl hb, (numW_word ha).1, (numW_word hb).1]
    exact ⟨rfl, hline.symm⟩
  · intro h1 h2 he
    obtain ⟨a, ha, hna⟩ := numAt_word h1
    obtain ⟨b, hb, hnb⟩ := numAt_word h2
    rw [(numW_word hna).1, (numW_word hnb).1] at he
    have hc := cut_lineOf [w, a, b] (by simp) (by
      intro x hx
      simp at hx
      rcases hx with rfl | rfl | rfl
      · exact hfree _ (by simp)
      · exact hfree _ (List.mem_of_getElem? ha)
      · exact hfree _ (List.mem_of_getElem? hb))
    rw [he, hw] at hc
    cases hc
    exact nums2_of hna hnb
theorem triple_words {w line : Bs} {l : List Bs} (hw : cutL 32 line = w :: l) :
    (∀ m, nums3 l = some m → (numAt (w :: l) 1, numAt (w :: l) 2, numAt (w :: l) 3) = m ∧ lineOf [w, Lib.itoa (numAt (w :: l) 1), Lib.itoa (numAt (w :: l) 2), Lib.itoa (numAt (w :: l) 3)] = line) ∧
    (0 ≤ numAt (w :: l) 1 → 0 ≤ numAt (w :: l) 2 → 0 ≤ numAt (w :: l) 3 → lineOf [w, Lib.itoa (numAt (w :: l) 1), Lib.itoa (numAt (w :: l) 2), Lib.itoa (numAt (w :: l) 3)] = line → nums3 l = some (numAt (w :: l) 1, numAt (w :: l) 2, numAt (w :: l) 3)) := by
  have hline : line = lineOf (w :: l) := by rw [← hw, lineOf_cut]
  have hfree := cutL_free 32 line
  rw [hw] at hfree
  constructor
  · intro m hm
    obtain ⟨a, b, c, rfl, ha, hb, hc⟩ := nums3_out hm
    rw [numAt_of (l := [w, a, b, c]) (i := 1) rfl ha, numAt_of (l := [w, a, b, c]) (i := 2) rfl hb, numAt_of (l := [w, a, b, c]) (i := 3) rfl hc, (numW_word ha).1, (numW_word hb).1, (numW_word hc).1]
    exact ⟨rfl, hline.symm⟩
  · intro h1 h2 h3 he
    obtain ⟨a, ha, hna⟩ := numAt_word h1
    obtain ⟨b, hb, hnb⟩ := numAt_word h2
    obtain ⟨c, hc, hnc⟩ := numAt_word h3
    rw [(numW_word hna).1, (numW_word hnb).1, (numW_word hnc).1] at he
    have hcut := cut_lineOf [w, a, b, c] (by simp) (by
      intro x hx
      simp at hx
      rcases hx with rfl | rfl | rfl | rfl
      · exact hfree _ (by simp)
      · exact hfree _ (List.mem_of_getElem? ha)
      · exact hfree _ (List.mem_of_getElem? hb)
      · exact hfree _ (List.mem_of_getElem? hc))
    rw [he, hw] at hcut
    cases hcut
    simp [nums3, hna, hnb, hnc]
theorem hex_words {w line : Bs} {l : List Bs} (hw : cutL 32 line = w :: l) :
    (∀ m, hexW l = some m → hexAt (w :: l) 1 = m ∧ lineOf [w, hexT (hexAt (w :: l) 1)] = line) ∧
    (hexAt (w :: l) 1 ≠ [] → lineOf [w, hexT (hexAt (w :: l) 1)] = line → hexW l = some (hexAt (w :: l) 1)) := by
  have hline : line = lineOf (w :: l) := by rw [← hw, lineOf_cut]
  have hfree := cutL_free 32 line
  rw [hw] at hfree
  constructor
  · intro m hm
    obtain ⟨a, rfl, ha⟩ := hexW_out hm
    rw [hexAt_of (l := [w, a]) (i := 1) rfl ha, hex_unhex _ _ ha]
    exact ⟨rfl, hline.symm⟩
  · intro h1 he
    obtain ⟨a, ha, hna⟩ := hexAt_word h1
    rw [hex_unhex _ _ hna] at he
    have hcut := cut_lineOf [w, a] (by simp) (by
      intro x hx
      simp at hx
      rcases hx with rfl | rfl
      · exact hfree _ (by simp)
      · exact hfree _ (List.mem_of_getElem? ha))
    rw [he, hw] at hcut
    cases hcut
    exact hna
theorem spec_words {w line : Bs} {l : List Bs} (hw : cutL 32 line = w :: l) :
    (∀ m, specW l = some m → (numAt (w :: l) 1, hexAt (w :: l) 2) = m ∧ lineOf [w, Lib.itoa (numAt (w :: l) 1), hexT (hexAt (w :: l) 2)] = line) ∧
    (0 ≤ numAt (w :: l) 1 → hexAt (w :: l) 2 ≠ [] → lineOf [w, Lib.itoa (numAt (w :: l) 1), hexT (hexAt (w :: l) 2)] = line → specW l = some (numAt (w :: l) 1, hexAt (w :: l) 2)) := by
  have hline : line = lineOf (w :: l) := by rw [← hw, lineOf_cut]
  have hfree := cutL_free 32 line
  rw [hw] at hfree
  constructor
  · intro m hm
    obtain ⟨a, b, rfl, ha, hb⟩ := specW_out hm
    rw [numAt_of (l := [w, a, b]) (i := 1) rfl ha, hexAt_of (l := [w, a, b]) (i := 2) rfl hb, (numW_word ha).1, hex_unhex _ _ hb]
    exact ⟨rfl, hline.symm⟩
  · intro h1 h2 he
    obtain ⟨a, ha, hna⟩ := numAt_word h1
    obtain ⟨b, hb, hnb⟩ := hexAt_word h2
    rw [(numW_word hna).1, hex_unhex _ _ hnb] at he
    have hcut := cut_lineOf [w, a, b] (by simp) (by
      intro x hx
      simp at hx
      rcases hx with rfl | rfl | rfl
      · exact hfree _ (by simp)
      · exact hfree _ (List.mem_of_getElem? ha)
      · exact hfree _ (List.mem_of_getElem? hb))
    rw [he, hw] at hcut
    cases hcut
    simp [specW, hna, hnb]
end Go.Proofs.YtldgehlbicoedaaGreatDoor.Eng

/- One line, and all lines: the program's way and the document's come to the same. -/
namespace Go.Proofs.YtldgehlbicoedaaGreatDoor.Eng
open Go

theorem headL_inj : headL true ≠ headL false := by
  intro h
  have := congrArg (cutL 32) h
  rw [cut_headL, cut_headL] at this
  simp [wRanks, wMerges] at this
theorem lines_empty : ({} : SpecV).lines = [headL false] := rfl
theorem gate_none (k n : Nat) : gate k n none = none := rfl
theorem gate_off {k n j : Nat} {x : SpecV} (h : ¬ (n = 0 ↔ j = 0)) : gate k n (some (x, j)) = none := by
  simp only [gate]
  rw [if_neg (fun e => h e.1)]
theorem gate_map_off {α : Type} {k n j : Nat} {o : Option α} {f : α → SpecV} (h : ¬ (n = 0 ↔ j = 0)) : gate k n (o.map fun m => (f m, j)) = none := by
  cases o with
  | none => rfl
  | some m => exact gate_off h

theorem words_vocab {line : Bs} {l : List Bs} (hw : cutL 32 line = wVocab :: l) : (l = [wRanks] ↔ line = headL true) ∧ (l = [wMerges] ↔ line = headL false) := by
  constructor
  · constructor
    · rintro rfl
      rw [← lineOf_cut line, hw]; rfl
    · rintro rfl
      rw [cut_headL] at hw
      simp at hw
      exact hw.symm
  · constructor
    · rintro rfl
      rw [← lineOf_cut line, hw]; rfl
    · rintro rfl
      rw [cut_headL] at hw
      simp at hw
      exact hw.symm

theorem kinds_apart : wMerge ≠ wVocab ∧ wToken ≠ wVocab ∧ wSpecial ≠ wVocab ∧ wClass ≠ wVocab ∧ wJoin ≠ wVocab ∧ wToken ≠ wMerge ∧ wSpecial ≠ wMerge ∧ wClass ≠ wMerge ∧ wJoin ≠ wMerge ∧ wSpecial ≠ wToken ∧ wClass ≠ wToken ∧ wJoin ≠ wToken ∧ wClass ≠ wSpecial ∧ wJoin ≠ wSpecial ∧ wJoin ≠ wClass := by decide

/-- The first line. -/
theorem step_first (line : Bs) : refLn {} 0 line = (readLn {} 0 0 line).map (·.1) ∧ ∀ y j, readLn {} 0 0 line = some (y, j) → Read y j 1 [line] := by
  cases hw : cutL 32 line with
  | nil => exact absurd hw (cutL_ne 32 line)
  | cons w l =>
    have hh : (w :: l).head? = some w := rfl
    have two : ∀ x : SpecV, x.lines.length ≠ 1 → (if x.right = true ∧ x.lines.length = 0 + 1 ∧ x.lines[0]? = some line then some x else none) = none := by
      intro x hx
      rw [if_neg (fun e => hx e.2.1)]
    by_cases h1 : w = wVocab
    · subst h1
      obtain ⟨hr, hm⟩ := words_vocab hw
      unfold refLn readLn
      rw [hw]
      simp only [refAdd, hh, if_true, addW]
      by_cases hl : l = [wRanks]
      · have hline := hr.1 hl
        rw [if_pos hl, decide_eq_true hline]
        have hg : gate 0 0 (some (({ ranked := true } : SpecV), 0)) = some ({ ranked := true }, 0) := by
          simp only [gate]; rw [if_pos ⟨by simp, Nat.le_refl _, by decide⟩]
        rw [hg, if_pos ⟨by decide, rfl, by rw [hline]; rfl⟩]
        refine ⟨rfl, ?_⟩
        intro y j e
        cases e
        exact .inr ⟨by omega, by rw [hline]; rfl, rfl, by decide, rfl⟩
      · have hline : line ≠ headL true := fun e => hl (hr.2 e)
        rw [if_neg hl, decide_eq_false hline]
        by_cases hl2 : l = [wMerges]
        · have hline2 := hm.1 hl2
          rw [if_pos hl2]
          have hg : gate 0 0 (some (({ ranked := false } : SpecV), 0)) = some ({ ranked := false }, 0) := by
            simp only [gate]; rw [if_pos ⟨by simp, Nat.le_refl _, by decide⟩]
          rw [hg, if_pos ⟨by decide, rfl, by rw [hline2]; rfl⟩]
          refine ⟨rfl, ?_⟩
          intro y j e
          cases e
          exact .inr ⟨by omega, by rw [hline2]; rfl, rfl, by decide, rfl⟩
        · rw [if_neg hl2, gate_none, if_neg]
          · exact ⟨rfl, by simp⟩
          · rintro ⟨_, _, e⟩
            apply hl2
            rw [hm]
            have e : some (headL false) = some line := e
            exact (Option.some.inj e).symm
    · have hread : readLn {} 0 0 line = none := by
        unfold readLn
        rw [hw]
        simp only [addW, if_neg h1]
        split
        · exact gate_map_off (by omega)
        · split
          · exact gate_map_off (by omega)
          · split
            · exact gate_map_off (by omega)
            · split
              · exact gate_map_off (by omega)
              · split
                · exact gate_map_off (by omega)
                · rfl
      rw [hread]
      refine ⟨?_, by simp⟩
      unfold refLn
      rw [hw]
      simp only [refAdd, hh, Option.some.injEq, if_neg h1]
      split
      · exact two _ (by simp [SpecV.lines, SpecV.tail])
      · split
        · exact two _ (by simp [SpecV.lines, SpecV.tail])
        · split
          · exact two _ (by simp [SpecV.lines, SpecV.tail])
          · split
            · exact two _ (by simp [SpecV.lines, SpecV.tail])
            · split
              · exact two _ (by simp [SpecV.lines, SpecV.tail])
              · rw [if_neg]
                · rfl
                · rintro ⟨_, _, e⟩
                  have e : some (headL false) = some line := e
                  rw [← Option.some.inj e, cut_headL] at hw
                  cases hw
                  exact h1 rfl

theorem mem_heads {s : SpecV} {w : Bs} (p : Bs) : (p ∈ s.tokens.map tokenL → w ≠ wToken → (cutL 32 p).head? ≠ some w) ∧ (p ∈ s.specials.map specialL → w ≠ wSpecial → (cutL 32 p).head? ≠ some w) ∧
    (p ∈ s.classes.map classL → w ≠ wClass → (cutL 32 p).head? ≠ some w) ∧ (p ∈ s.joins.map joinL → w ≠ wJoin → (cutL 32 p).head? ≠ some w) := by
  refine ⟨?_, ?_, ?_, ?_⟩
  · intro h hw e
    obtain ⟨x, _, rfl⟩ := List.mem_map.1 h
    rw [cut_tokenL] at e
    exact hw (Option.some.inj e).symm
  · intro h hw e
    obtain ⟨x, _, rfl⟩ := List.mem_map.1 h
    rw [cut_specialL] at e
    exact hw (Option.some.inj e).symm
  · intro h hw e
    obtain ⟨x, _, rfl⟩ := List.mem_map.1 h
    rw [cut_classL] at e
    exact hw (Option.some.inj e).symm
  · intro h hw e
    obtain ⟨x, _, rfl⟩ := List.mem_map.1 h
    rw [cut_joinL] at e
    exact hw (Option.some.inj e).symm

/-- A later line. -/
theorem step_later {s : SpecV} {k n : Nat} {done : List Bs} (line : Bs) (hn : 0 < n) (hd : s.lines = done) (hlen : done.length = n) (hk : k = kindOf s) :
    refLn s n line = (readLn s k n line).map (·.1) ∧ ∀ y j, readLn s k n line = some (y, j) → Read y j (n + 1) (done ++ [line]) := by
  have hsn : s.lines.length = n := by rw [hd, hlen]
  cases hw : cutL 32 line with
  | nil => exact absurd hw (cutL_ne 32 line)
  | cons w l =>
    have hh : (cutL 32 line).head? = some w := by rw [hw]; rfl
    have hh' : (w :: l).head? = some w := rfl
    obtain ⟨n1, n2, n3, n4, n5, n6, n7, n8, n9, n10, n11, n12, n13, n14, n15⟩ := kinds_apart
    have same : ∀ x : SpecV, x.lines.length = n → (if x.right = true ∧ x.lines.length = n + 1 ∧ x.lines[n]? = some line then some x else none) = none := by
      intro x hx
      rw [if_neg (fun e => by omega)]
    unfold refLn readLn
    rw [hw]
    by_cases h1 : w = wVocab
    · subst h1
      simp only [refAdd, hh', if_true, addW]
      have hread : gate k n (if l = [wRanks] then some ({ s with ranked := true }, 0) else if l = [wMerges] then some ({ s with ranked := false }, 0) else none) = none := by
        split
        · exact gate_off (by omega)
        · split
          · exact gate_off (by omega)
          · rfl
      rw [hread, same _ (by rw [← hsn]; rfl)]
      exact ⟨rfl, by simp⟩
    · simp only [refAdd, hh', Option.some.injEq, addW, if_neg h1]
      by_cases h2 : w = wMerge
      · subst h2
        simp only [if_true]
        obtain ⟨hp1, hp2⟩ := pair_words hw
        refine kind_case (j := 1) (pre := headL s.ranked :: s.merges.map mergeL) (post := s.tokens.map tokenL ++ (s.specials.map specialL ++ (s.classes.map classL ++ s.joins.map joinL))) (lk := mergeL (numAt (wMerge :: l) 1, numAt (wMerge :: l) 2)) _ hd rfl hsn (by omega) (by simp [SpecV.lines, SpecV.tail]) hh ?_ (by decide) ?_ ?_ ?_ ?_
        · intro p hp
          obtain ⟨g1, g2, g3, g4⟩ := mem_heads (s := s) (w := wMerge) p
          simp only [List.mem_append] at hp
          rcases hp with hp | hp | hp | hp
          · exact g1 hp n6.symm
          · exact g2 hp n7.symm
          · exact g3 hp n8.symm
          · exact g4 hp n9.symm
        · intro hr
          have hra := (right_parts hr).1
          have hnr : s.ranked = false := by
            cases h : s.ranked
            · rfl
            · rw [if_pos (by simpa using h)] at hra; simp at hra
          have htok : s.tokens = [] := by simpa [hnr] using hra
          rw [hk, htok]
          unfold kindOf
          constructor
          · intro h
            split at h
            · omega
            · split at h
              · omega
              · split at h
                · omega
                · rename_i a b c
                  simp at a b c
                  simp [a, b, c]
          · intro h
            simp at h
            obtain ⟨a, b, c⟩ := h
            simp only [a, b, c, ne_eq, not_true_eq_false, if_false]
            split <;> omega
        · intro hr hp
          simp at hp
          obtain ⟨a, b, c, d⟩ := hp
          simp [kindOf, a, b, c, d]
        · intro y hy
          obtain ⟨m, hm, rfl⟩ := Option.map_eq_some_iff.1 hy
          obtain ⟨e1, e2⟩ := hp1 m hm
          exact ⟨by rw [e1], e2⟩
        · intro hr he
          have hmo := allOk_last (right_parts hr).2.1
          simp only [mergeOk, decide_eq_true_eq] at hmo
          rw [hp2 hmo.1 hmo.2.2.1 he]
          rfl
      · simp only [if_neg h2]
        by_cases h3 : w = wToken
        · subst h3
          simp only [if_true]
          obtain ⟨hp1, hp2⟩ := hex_words hw
          refine kind_case (j := 1) (pre := headL s.ranked :: (s.merges.map mergeL ++ s.tokens.map tokenL)) (post := s.specials.map specialL ++ (s.classes.map classL ++ s.joins.map joinL)) (lk := tokenL (hexAt (wToken :: l) 1)) _ hd (by simp [SpecV.lines, SpecV.tail]) hsn (by omega) (by simp [SpecV.lines, SpecV.tail]) hh ?_ (by decide) ?_ ?_ ?_ ?_
          · intro p hp
            obtain ⟨g1, g2, g3, g4⟩ := mem_heads (s := s) (w := wToken) p
            simp only [List.mem_append] at hp
            rcases hp with hp | hp | hp
            · exact g2 hp n10.symm
            · exact g3 hp n11.symm
            · exact g4 hp n12.symm
          · intro hr
            rw [hk]
            unfold kindOf
            constructor
            · intro h
              split at h
              · omega
              · split at h
                · omega
                · split at h
                  · omega
                  · rename_i a b c
                    simp at a b c
                    simp [a, b, c]
            · intro h
              simp at h
              obtain ⟨a, b, c⟩ := h
              simp only [a, b, c, ne_eq, not_true_eq_false, if_false]
              split <;> omega
          · intro hr hp
            simp at hp
            obtain ⟨a, b, c⟩ := hp
            simp [kindOf, a, b, c]
          · intro y hy
            obtain ⟨m, hm, rfl⟩ := Option.map_eq_some_iff.1 hy
            obtain ⟨e1, e2⟩ := hp1 m hm
            exact ⟨by rw [e1], e2⟩
          · intro hr he
            have hmo := allOk_last (right_parts hr).2.2.1
            simp only [thingOk, decide_eq_true_eq] at hmo
            rw [hp2 (by intro e; rw [e] at hmo; simp at hmo) he]
            rfl
        · simp only [if_neg h3]
          by_cases h4 : w = wSpecial
          · subst h4
            simp only [if_true]
            obtain ⟨hp1, hp2⟩ := spec_words hw
            refine kind_case (j := 2) (pre := headL s.ranked :: (s.merges.map mergeL ++ (s.tokens.map tokenL ++ s.specials.map specialL))) (post := s.classes.map classL ++ s.joins.map joinL) (lk := specialL (numAt (wSpecial :: l) 1, hexAt (wSpecial :: l) 2)) _ hd (by simp [SpecV.lines, SpecV.tail]) hsn (by omega) (by simp [SpecV.lines, SpecV.tail]) hh ?_ (by decide) ?_ ?_ ?_ ?_
            · intro p hp
              obtain ⟨g1, g2, g3, g4⟩ := mem_heads (s := s) (w := wSpecial) p
              simp only [List.mem_append] at hp
              rcases hp with hp | hp
              · exact g3 hp n13.symm
              · exact g4 hp n14.symm
            · intro hr
              rw [hk]
              unfold kindOf
              constructor
              · intro h
                split at h
                · omega
                · split at h
                  · omega
                  · rename_i a b
                    simp at a b
                    simp [a, b]
              · intro h
                simp at h
                obtain ⟨a, b⟩ := h
                simp only [a, b, ne_eq, not_true_eq_false, if_false]
                split
                · omega
                · split <;> omega
            · intro hr hp
              simp at hp
              obtain ⟨a, b⟩ := hp
              simp [kindOf, a, b]
            · intro y hy
              obtain ⟨m, hm, rfl⟩ := Option.map_eq_some_iff.1 hy
              obtain ⟨e1, e2⟩ := hp1 m hm
              exact ⟨by rw [e1], e2⟩
            · intro hr he
              have hmo := allOk_last (right_parts hr).2.2.2.1
              simp only [specialOk, decide_eq_true_eq] at hmo
              rw [hp2 hmo.1 (by intro e; rw [e] at hmo; simp at hmo) he]
              rfl
          · simp only [if_neg h4]
            by_cases h5 : w = wClass
            · subst h5
              simp only [if_true]
              obtain ⟨hp1, hp2⟩ := triple_words hw
              refine kind_case (j := 3) (pre := headL s.ranked :: (s.merges.map mergeL ++ (s.tokens.map tokenL ++ (s.specials.map specialL ++ s.classes.map classL)))) (post := s.joins.map joinL) (lk := classL (numAt (wClass :: l) 1, numAt (wClass :: l) 2, numAt (wClass :: l) 3)) _ hd (by simp [SpecV.lines, SpecV.tail]) hsn (by omega) (by simp [SpecV.lines, SpecV.tail]) hh ?_ (by decide) ?_ ?_ ?_ ?_
              · intro p hp
                obtain ⟨g1, g2, g3, g4⟩ := mem_heads (s := s) (w := wClass) p
                exact g4 hp n15.symm
              · intro hr
                rw [hk]
                unfold kindOf
                constructor
                · intro h
                  split at h
                  · omega
                  · rename_i a
                    simp at a
                    simp [a]
                · intro h
                  simp at h
                  simp only [h, ne_eq, not_true_eq_false, if_false]
                  split
                  · omega
                  · split
                    · omega
                    · split <;> omega
              · intro hr hp
                simp at hp
                simp [kindOf, hp]
              · intro y hy
                obtain ⟨m, hm, rfl⟩ := Option.map_eq_some_iff.1 hy
                obtain ⟨e1, e2⟩ := hp1 m hm
                exact ⟨by rw [e1], e2⟩
              · intro hr he
                have hmo := allOk_last (right_parts hr).2.2.2.2.1
                simp only [classOk, decide_eq_true_eq] at hmo
                rw [hp2 hmo.1 (by omega) hmo.2.2.2.1 he]
                rfl
            · simp only [if_neg h5]
              by_cases h6 : w = wJoin
              · subst h6
                simp only [if_true]
                obtain ⟨hp1, hp2⟩ := pair_words hw
                refine kind_case (j := 4) (pre := s.lines) (post := []) (lk := joinL (numAt (wJoin :: l) 1, numAt (wJoin :: l) 2)) _ hd (by simp) hsn (by omega) (by simp [SpecV.lines, SpecV.tail]) hh (by simp) (by decide) ?_ ?_ ?_ ?_
                · intro hr
                  rw [hk]
                  unfold kindOf
                  constructor
                  · intro _; rfl
                  · intro _
                    split
                    · omega
                    · split
                      · omega
                      · split
                        · omega
                        · split <;> omega
                · intro hr hp
                  simp [kindOf]
                · intro y hy
                  obtain ⟨m, hm, rfl⟩ := Option.map_eq_some_iff.1 hy
                  obtain ⟨e1, e2⟩ := hp1 m hm
                  exact ⟨by rw [e1], e2⟩
                · intro hr he
                  have hmo := allOk_last (right_parts hr).2.2.2.2.2
                  simp only [joinOk, decide_eq_true_eq] at hmo
                  rw [hp2 hmo.1 hmo.2.2.1 he]
                  rfl
              · simp only [if_neg h6]
                rw [same s hsn]
                exact ⟨rfl, by simp [gate]⟩
end Go.Proofs.YtldgehlbicoedaaGreatDoor.Eng

/- What is printed is read as it was; what is read is printed as it was: in plain Lean. -/
namespace Go.Proofs.YtldgehlbicoedaaGreatDoor.Eng
open Go

theorem step_eq {s : SpecV} {k n : Nat} {done : List Bs} (h : Read s k n done) (line : Bs) : refLn s n line = (readLn s k n line).map (·.1) ∧ ∀ y j, readLn s k n line = some (y, j) → Read y j (n + 1) (done ++ [line]) := by
  rcases h with ⟨rfl, rfl, rfl, rfl⟩ | ⟨hn, hd, hl, _, hk⟩
  · exact step_first line
  · exact step_later line hn hd hl hk
/-- All lines: the document's way, and the program's. -/
theorem all_eq : ∀ (ls : List Bs) {s : SpecV} {k n : Nat} {done : List Bs}, Read s k n done →
    (match readAll s k n ls with | .ok x => Except.ok x.1 | .error m => .error m) = refAll s n ls ∧ ∀ y j, readAll s k n ls = .ok (y, j) → Read y j (n + ls.length) (done ++ ls)
  | [], s, k, n, done, h => ⟨rfl, fun y j e => by cases e; simpa using h⟩
  | l :: r, s, k, n, done, h => by
    obtain ⟨h1, h2⟩ := step_eq h l
    simp only [readAll, refAll]
    cases hr : readLn s k n l with
    | none =>
      rw [hr] at h1
      rw [h1]
      exact ⟨rfl, by simp⟩
    | some y =>
      obtain ⟨y, j⟩ := y
      rw [hr] at h1
      rw [h1]
      obtain ⟨g1, g2⟩ := all_eq r (h2 y j hr)
      refine ⟨g1, ?_⟩
      intro z q e
      have := g2 z q e
      rw [List.length_cons, show n + (r.length + 1) = n + 1 + r.length by omega]
      simpa using this
theorem read_begin : Read {} 0 0 [] := .inl ⟨rfl, rfl, rfl, rfl⟩
theorem readAll_append : ∀ (a b : List Bs) (s : SpecV) (k n : Nat), readAll s k n (a ++ b) = match readAll s k n a with | .ok x => readAll x.1 x.2 (n + a.length) b | .error m => .error m
  | [], b, s, k, n => rfl
  | l :: a, b, s, k, n => by
    simp only [List.cons_append, readAll]
    cases readLn s k n l with
    | none => rfl
    | some y =>
      obtain ⟨y, j⟩ := y
      simp only []
      rw [readAll_append a b y j (n + 1), List.length_cons, show n + (a.length + 1) = n + 1 + a.length by omega]

/-! ### Parts of a right spec -/
theorem allOk_prefix {α : Type} {a b : List α} {most : Nat} {may : α → Bool} (h : allOk (a ++ b) most may = true) : allOk a most may = true := by
  unfold allOk at h ⊢
  simp only [Bool.and_eq_true, decide_eq_true_eq, List.all_append, List.length_append] at h ⊢
  exact ⟨by omega, h.2.1⟩
theorem right_of {s : SpecV} (h1 : (if s.ranked then s.merges.isEmpty else s.tokens.isEmpty) = true) (h2 : allOk s.merges 744 mergeOk = true) (h3 : allOk s.tokens 744 thingOk = true) (h4 : allOk s.specials 32 specialOk = true) (h5 : allOk s.classes 64 classOk = true) (h6 : allOk s.joins 64 joinOk = true) : s.right = true := by
  unfold SpecV.right
  rw [h1, h2, h3, h4, h5, h6]
  rfl
theorem nums2_itoa {m : Int × Int} (h1 : 0 ≤ m.1) (h2 : m.1 ≤ maxId) (h3 : 0 ≤ m.2) (h4 : m.2 ≤ maxId) : nums2 [Lib.itoa m.1, Lib.itoa m.2] = some m := by
  obtain ⟨a, ha⟩ := Int.eq_ofNat_of_zero_le h1
  obtain ⟨b, hb⟩ := Int.eq_ofNat_of_zero_le h3
  have e1 : numW (Lib.itoa m.1) = some m.1 := by rw [ha]; exact numW_itoa a (by rw [← ha]; exact h2)
  have e2 : numW (Lib.itoa m.2) = some m.2 := by rw [hb]; exact numW_itoa b (by rw [← hb]; exact h4)
  simp [nums2, e1, e2]
theorem nums3_itoa {m : Int × Int × Int} (h1 : 0 ≤ m.1) (h2 : m.1 ≤ maxId) (h3 : 0 ≤ m.2.1) (h4 : m.2.1 ≤ maxId) (h5 : 0 ≤ m.2.2) (h6 : m.2.2 ≤ maxId) : nums3 [Lib.itoa m.1, Lib.itoa m.2.1, Lib.itoa m.2.2] = some m := by
  obtain ⟨a, ha⟩ := Int.eq_ofNat_of_zero_le h1
  obtain ⟨b, hb⟩ := Int.eq_ofNat_of_zero_le h3
  obtain ⟨c, hc⟩ := Int.eq_ofNat_of_zero_le h5
  have e1 : numW (Lib.itoa m.1) = some m.1 := by rw [ha]; exact numW_itoa a (by rw [← ha]; exact h2)
  have e2 : numW (Lib.itoa m.2.1) = some m.2.1 := by rw [hb]; exact numW_itoa b (by rw [← hb]; exact h4)
  have e3 : numW (Lib.itoa m.2.2) = some m.2.2 := by rw [hc]; exact numW_itoa c (by rw [← hc]; exact h6)
  simp [nums3, e1, e2, e3]
theorem specW_itoa {m : Int × Bs} (h1 : 0 ≤ m.1) (h2 : m.1 ≤ maxId) : specW [Lib.itoa m.1, hexT m.2] = some m := by
  obtain ⟨a, ha⟩ := Int.eq_ofNat_of_zero_le h1
  have e1 : numW (Lib.itoa m.1) = some m.1 := by rw [ha]; exact numW_itoa a (by rw [← ha]; exact h2)
  simp [specW, e1, unhex_hex]

/-- A group of lines of one kind. -/
theorem group {α : Type} (put : SpecV → α → SpecV) (lineK : α → Bs) (j : Nat) (hj : j ≠ 0) : ∀ (ms : List α) (s : SpecV) (k n : Nat), n ≠ 0 → k ≤ j →
    (∀ i, i < ms.length → ((ms.take (i + 1)).foldl put s).right = true) → (∀ m ∈ ms, ∀ s, addW s (cutL 32 (lineK m)) = some (put s m, j)) →
    readAll s k n (ms.map lineK) = .ok (ms.foldl put s, if ms = [] then k else j)
  | [], s, k, n, _, _, _, _ => rfl
  | m :: ms, s, k, n, hn, hk, hr, ha => by
    simp only [List.map_cons, readAll]
    have hr0 : (put s m).right = true := by simpa using hr 0 (by simp)
    have hl : readLn s k n (lineK m) = some (put s m, j) := by
      unfold readLn
      rw [ha m (by simp) s]
      simp only [gate]
      rw [if_pos ⟨by constructor <;> intro e <;> omega, hk, hr0⟩]
    rw [hl]
    simp only []
    rw [group put lineK j hj ms (put s m) j (n + 1) (by omega) (Nat.le_refl _) (fun i hi => by simpa using hr (i + 1) (by simpa using hi)) (fun x hx => ha x (by simp [hx]))]
    simp
end Go.Proofs.YtldgehlbicoedaaGreatDoor.Eng

/- A right spec's text is read as it was; what is read is printed as it was: in plain Lean. -/
namespace Go.Proofs.YtldgehlbicoedaaGreatDoor.Eng
open Go

theorem fold_merges : ∀ (ms : List (Int × Int)) (s : SpecV), ms.foldl (fun (s : SpecV) m => { s with merges := s.merges ++ [m] }) s = { s with merges := s.merges ++ ms }
  | [], s => by simp
  | m :: ms, s => by rw [List.foldl_cons, fold_merges ms]; simp
theorem fold_tokens : ∀ (ms : List Bs) (s : SpecV), ms.foldl (fun (s : SpecV) m => { s with tokens := s.tokens ++ [m] }) s = { s with tokens := s.tokens ++ ms }
  | [], s => by simp
  | m :: ms, s => by rw [List.foldl_cons, fold_tokens ms]; simp
theorem fold_specials : ∀ (ms : List (Int × Bs)) (s : SpecV), ms.foldl (fun (s : SpecV) m => { s with specials := s.specials ++ [m] }) s = { s with specials := s.specials ++ ms }
  | [], s => by simp
  | m :: ms, s => by rw [List.foldl_cons, fold_specials ms]; simp
theorem fold_classes : ∀ (ms : List (Int × Int × Int)) (s : SpecV), ms.foldl (fun (s : SpecV) m => { s with classes := s.classes ++ [m] }) s = { s with classes := s.classes ++ ms }
  | [], s => by simp
  | m :: ms, s => by rw [List.foldl_cons, fold_classes ms]; simp
theorem fold_joins : ∀ (ms : List (Int × Int)) (s : SpecV), ms.foldl (fun (s : SpecV) m => { s with joins := s.joins ++ [m] }) s = { s with joins := s.joins ++ ms }
  | [], s => by simp
  | m :: ms, s => by rw [List.foldl_cons, fold_joins ms]; simp
theorem take_split {α : Type} (l : List α) (i : Nat) : ∃ r, l = l.take i ++ r := ⟨l.drop i, (List.take_append_drop i l).symm⟩
theorem all_mem {α : Type} {l : List α} {most : Nat} {may : α → Bool} (h : allOk l most may = true) {x : α} (hx : x ∈ l) : may x = true := by
  unfold allOk at h
  simp only [Bool.and_eq_true, List.all_eq_true] at h
  exact h.2 x hx
theorem allOk_nil {α : Type} (most : Nat) (may : α → Bool) : allOk [] most may = true := by simp [allOk]

/-- WHAT IS PRINTED IS READ AS IT WAS. -/
theorem read_lines (s : SpecV) (h : s.right = true) : ∃ k, readAll {} 0 0 s.lines = .ok (s, k) := by
  obtain ⟨h1, h2, h3, h4, h5, h6⟩ := right_parts h
  have w1 := fun (m : Int × Int) (hm : m ∈ s.merges) => all_mem h2 hm
  have w3 := fun (m : Int × Bs) (hm : m ∈ s.specials) => all_mem h4 hm
  have w4 := fun (m : Int × Int × Int) (hm : m ∈ s.classes) => all_mem h5 hm
  have w5 := fun (m : Int × Int) (hm : m ∈ s.joins) => all_mem h6 hm
  obtain ⟨k1, n1, n2, n3, n4, n5, m1, m2, m3, m4, o1, o2, o3, q1, q2⟩ := kinds_apart
  have hhead : readLn {} 0 0 (headL s.ranked) = some ({ ranked := s.ranked }, 0) := by
    unfold readLn
    rw [cut_headL]
    cases s.ranked <;> rfl
  simp only [SpecV.lines, readAll, hhead, SpecV.tail]
  have g1 := group (fun (s : SpecV) m => { s with merges := s.merges ++ [m] }) mergeL 1 (by decide) s.merges { ranked := s.ranked } 0 1 (by decide) (by decide)
    (fun i hi => by
      rw [fold_merges]
      obtain ⟨r, hr⟩ := take_split s.merges (i + 1)
      refine right_of ?_ (by rw [hr] at h2; simpa using allOk_prefix h2) (allOk_nil _ _) (allOk_nil _ _) (allOk_nil _ _) (allOk_nil _ _)
      cases hrk : s.ranked
      · rfl
      · rw [hrk] at h1; simp at h1; rw [h1] at hi; simp at hi)
    (fun m hm s' => by
      have hmo := w1 m hm
      simp only [mergeOk, decide_eq_true_eq] at hmo
      rw [cut_mergeL]
      simp only [addW, if_neg k1, if_true, nums2_itoa hmo.1 (show m.1 ≤ maxId by unfold maxId; omega) hmo.2.2.1 (show m.2 ≤ maxId by unfold maxId; omega)]
      rfl)
  rw [fold_merges] at g1
  rw [readAll_append, g1]
  simp only [List.nil_append]
  have e1 : ∀ (α : Type) (l : List α), (if l = [] then (0 : Nat) else 1) ≤ 1 := by intro α l; split <;> omega
  generalize hkA : (if s.merges = [] then (0 : Nat) else 1) = kA
  have hA : kA ≤ 1 := by rw [← hkA]; split <;> omega
  have g2 := group (fun (s : SpecV) m => { s with tokens := s.tokens ++ [m] }) tokenL 1 (by decide) s.tokens { ranked := s.ranked, merges := s.merges } kA (1 + (s.merges.map mergeL).length) (by omega) hA
    (fun i hi => by
      rw [fold_tokens]
      obtain ⟨r, hr⟩ := take_split s.tokens (i + 1)
      refine right_of ?_ h2 (by rw [hr] at h3; simpa using allOk_prefix h3) (allOk_nil _ _) (allOk_nil _ _) (allOk_nil _ _)
      cases hrk : s.ranked
      · rw [hrk] at h1; simp at h1; rw [h1] at hi; simp at hi
      · rw [hrk] at h1; simpa using h1)
    (fun m hm s' => by
      rw [cut_tokenL]
      simp only [addW, if_neg n1, if_neg n5, if_true, hexW, unhex_hex]
      rfl)
  rw [fold_tokens] at g2
  rw [readAll_append, g2]
  simp only [List.nil_append]
  generalize hkB : (if s.tokens = [] then kA else 1) = kB
  have hB : kB ≤ 2 := by rw [← hkB]; split <;> omega
  have hr0 : (if s.ranked = true then s.merges.isEmpty else s.tokens.isEmpty) = true := h1
  have g3 := group (fun (s : SpecV) m => { s with specials := s.specials ++ [m] }) specialL 2 (by decide) s.specials { ranked := s.ranked, merges := s.merges, tokens := s.tokens } kB (1 + (s.merges.map mergeL).length + (s.tokens.map tokenL).length) (by omega) hB
    (fun i hi => by
      rw [fold_specials]
      obtain ⟨r, hr⟩ := take_split s.specials (i + 1)
      exact right_of hr0 h2 h3 (by rw [hr] at h4; simpa using allOk_prefix h4) (allOk_nil _ _) (allOk_nil _ _))
    (fun m hm s' => by
      have hmo := w3 m hm
      simp only [specialOk, decide_eq_true_eq] at hmo
      rw [cut_specialL]
      simp only [addW, if_neg n2, if_neg m1, if_neg m4, if_true, specW_itoa (m := m) hmo.1 hmo.2.1]
      rfl)
  rw [fold_specials] at g3
  rw [readAll_append, g3]
  simp only [List.nil_append]
  generalize hkC : (if s.specials = [] then kB else 2) = kC
  have hC : kC ≤ 3 := by rw [← hkC]; split <;> omega
  have g4 := group (fun (s : SpecV) m => { s with classes := s.classes ++ [m] }) classL 3 (by decide) s.classes { ranked := s.ranked, merges := s.merges, tokens := s.tokens, specials := s.specials } kC (1 + (s.merges.map mergeL).length + (s.tokens.map tokenL).length + (s.specials.map specialL).length) (by omega) hC
    (fun i hi => by
      rw [fold_classes]
      obtain ⟨r, hr⟩ := take_split s.classes (i + 1)
      exact right_of hr0 h2 h3 h4 (by rw [hr] at h5; simpa using allOk_prefix h5) (allOk_nil _ _))
    (fun m hm s' => by
      have hmo := w4 m hm
      simp only [classOk, decide_eq_true_eq] at hmo
      rw [cut_classL]
      simp only [addW, if_neg n3, if_neg m2, if_neg o1, if_neg o3, if_true, nums3_itoa (m := m) hmo.1 (by unfold maxId; omega) (by omega) (by unfold maxId; omega) hmo.2.2.2.1 (by unfold maxId; omega)]
      rfl)
  rw [fold_classes] at g4
  rw [readAll_append, g4]
  simp only [List.nil_append]
  generalize hkD : (if s.classes = [] then kC else 3) = kD
  have hD : kD ≤ 4 := by rw [← hkD]; split <;> omega
  have g5 := group (fun (s : SpecV) m => { s with joins := s.joins ++ [m] }) joinL 4 (by decide) s.joins { ranked := s.ranked, merges := s.merges, tokens := s.tokens, specials := s.specials, classes := s.classes } kD (1 + (s.merges.map mergeL).length + (s.tokens.map tokenL).length + (s.specials.map specialL).length + (s.classes.map classL).length) (by omega) hD
    (fun i hi => by
      rw [fold_joins]
      obtain ⟨r, hr⟩ := take_split s.joins (i + 1)
      exact right_of hr0 h2 h3 h4 h5 (by rw [hr] at h6; simpa using allOk_prefix h6))
    (fun m hm s' => by
      have hmo := w5 m hm
      simp only [joinOk, decide_eq_true_eq] at hmo
      rw [cut_joinL]
      simp only [addW, if_neg n4, if_neg m3, if_neg o2, if_neg q1, if_neg q2, if_true, nums2_itoa (m := m) hmo.1 (by unfold maxId; omega) hmo.2.2.1 (by unfold maxId; omega)]
      rfl)
  rw [fold_joins] at g5
  exact ⟨_, g5⟩

theorem lines_free (s : SpecV) : ∀ l ∈ s.lines, 10 ∉ l := by
  have join_free : ∀ ws : List Bs, (∀ w ∈ ws, 10 ∉ w) → 10 ∉ lineOf ws := by
    intro ws
    induction ws with
    | nil => intro _; simp [lineOf, Lib.join_nil]
    | cons w r ih =>
      intro h
      cases r with
      | nil => rw [lineOf_one]; exact h w (by simp)
      | cons x r =>
        rw [lineOf_cons]
        simp only [List.mem_append, List.mem_cons, not_or]
        exact ⟨h w (by simp), by decide, ih fun y hy => h y (by simp [hy])⟩
  intro l hl
  simp only [SpecV.lines, SpecV.tail, List.mem_cons, List.mem_append, List.mem_map] at hl
  rcases hl with rfl | ⟨m, _, rfl⟩ | ⟨m, _, rfl⟩ | ⟨m, _, rfl⟩ | ⟨m, _, rfl⟩ | ⟨m, _, rfl⟩
  · cases s.ranked <;> decide +kernel
  · exact join_free _ (by intro w hw; simp at hw; rcases hw with rfl | rfl | rfl <;> first | decide | exact (itoa_free _).2)
  · exact join_free _ (by intro w hw; simp at hw; rcases hw with rfl | rfl <;> first | decide | exact (hexT_free _).2)
  · exact join_free _ (by intro w hw; simp at hw; rcases hw with rfl | rfl | rfl <;> first | decide | exact (itoa_free _).2 | exact (hexT_free _).2)
  · exact join_free _ (by intro w hw; simp at hw; rcases hw with rfl | rfl | rfl | rfl <;> first | decide | exact (itoa_free _).2)
  · exact join_free _ (by intro w hw; simp at hw; rcases hw with rfl | rfl | rfl <;> first | decide | exact (itoa_free _).2)

/-- A right spec's text is that spec's. -/
theorem parse_text (s : SpecV) (h : s.right = true) : parseS s.text = .ok s := by
  obtain ⟨k, hk⟩ := read_lines s h
  unfold parseS SpecV.text
  rw [cut_textOf _ (lines_free s), List.dropLast_concat, hk]
  simp only []
  rw [if_pos ⟨by simp, by simp [SpecV.lines]⟩]
/-- A text that is a spec's is that spec's text; and the spec is right. -/
theorem text_parse (t : Bs) (s : SpecV) (h : parseS t = .ok s) : s.text = t ∧ s.right = true := by
  unfold parseS at h
  cases hr : readAll {} 0 0 (cutL 10 t).dropLast with
  | error m => rw [hr] at h; cases h
  | ok x =>
    obtain ⟨y, j⟩ := x
    rw [hr] at h
    simp only [] at h
    split at h
    · rename_i hc
      cases h
      have := (all_eq (cutL 10 t).dropLast read_begin).2 _ _ hr
      rcases this with ⟨e, _⟩ | ⟨_, hl, _, hright, _⟩
      · have : (cutL 10 t).dropLast = [] := List.eq_nil_of_length_eq_zero (by omega)
        exact absurd this hc.2
      · refine ⟨?_, hright⟩
        unfold SpecV.text
        rw [hl]
        exact textOf_cut t hc.1
    · cases h
end Go.Proofs.YtldgehlbicoedaaGreatDoor.Eng
