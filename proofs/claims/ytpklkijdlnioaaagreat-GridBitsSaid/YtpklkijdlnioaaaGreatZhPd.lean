/- Items cut into pieces, and tokens of a vocabulary in a row; in plain Lean. -/
import Derived.Test.YtpklkijdlnioaaaGreatZhPc
set_option linter.unusedVariables false
namespace Go.Proofs.YtpklkijdlnioaaaGreat.Eng
section
variable (cut : Int → Int → Bool)
/-- Cut where it is cut between two. -/
def chop : List Int → List (List Int)
  | [] => []
  | [x] => [[x]]
  | x :: y :: r => if cut x y = true then [x] :: chop (y :: r) else match chop (y :: r) with
    | [] => [[x]]
    | p :: ps => (x :: p) :: ps
def Uncut : List Int → Prop
  | [] => True
  | [_] => True
  | x :: y :: r => cut x y = false ∧ Uncut (y :: r)
/-- Between two lists it is cut. -/
def CutAt (p q : List Int) : Prop := ∃ x y, p.getLast? = some x ∧ q.head? = some y ∧ cut x y = true
def IsChop : List (List Int) → Prop
  | [] => True
  | [p] => p ≠ [] ∧ Uncut cut p
  | p :: q :: r => p ≠ [] ∧ Uncut cut p ∧ CutAt cut p q ∧ IsChop (q :: r)
variable {cut}
theorem IsChop.head {p : List Int} {r : List (List Int)} (h : IsChop cut (p :: r)) : p ≠ [] ∧ Uncut cut p := by
  cases r with
  | nil => exact h
  | cons q r => exact ⟨h.1, h.2.1⟩
theorem IsChop.tail {p : List Int} {r : List (List Int)} (h : IsChop cut (p :: r)) : IsChop cut r := by
  cases r with
  | nil => trivial
  | cons q r => exact h.2.2.2
theorem IsChop.cons {p : List Int} {r : List (List Int)} (h1 : p ≠ []) (h2 : Uncut cut p) (h3 : ∀ q r', r = q :: r' → CutAt cut p q) (h4 : IsChop cut r) : IsChop cut (p :: r) := by
  cases r with
  | nil => exact ⟨h1, h2⟩
  | cons q r => exact ⟨h1, h2, h3 q r rfl, h4⟩
theorem chop_one (rest : List (List Int)) (hr : chop cut rest.flatten = rest) : ∀ p : List Int, IsChop cut (p :: rest) → chop cut (p ++ rest.flatten) = p :: rest
  | [], h => absurd rfl h.head.1
  | [x], h => by
    cases rest with
    | nil => rfl
    | cons q r =>
      obtain ⟨u, y, hu, hy, hc⟩ := h.2.2.1
      simp at hu
      subst hu
      cases q with
      | nil => cases hy
      | cons z q =>
        simp at hy
        subst hy
        rw [List.flatten_cons] at hr ⊢
        rw [List.cons_append] at hr
        simp only [List.cons_append, List.nil_append, chop, hc, if_true, hr]
  | x :: y :: p, h => by
    have h2 := h.head.2
    have hc : IsChop cut ((y :: p) :: rest) := by
      refine IsChop.cons (by simp) h2.2 (fun q r' hq => ?_) h.tail
      subst hq
      obtain ⟨u, v, hu, hv, hcc⟩ := h.2.2.1
      exact ⟨u, v, by rw [List.getLast?_cons_cons] at hu; exact hu, hv, hcc⟩
    have ih := chop_one rest hr (y :: p) hc
    rw [List.cons_append] at ih
    simp only [List.cons_append, chop]
    rw [if_neg (by rw [h2.1]; simp), ih]
theorem chop_unique : ∀ ps : List (List Int), IsChop cut ps → chop cut ps.flatten = ps
  | [], _ => rfl
  | p :: rest, h => by
    rw [List.flatten_cons]
    exact chop_one rest (chop_unique rest h.tail) p h
theorem chop_ne {Z : List Int} (h : Z ≠ []) : ∃ p ps, chop cut Z = p :: ps ∧ p.head? = Z.head? := by
  match Z, h with
  | [x], _ => exact ⟨[x], [], rfl, rfl⟩
  | x :: y :: r, _ =>
    simp only [chop]
    split
    · exact ⟨[x], _, rfl, rfl⟩
    · cases chop cut (y :: r) with
      | nil => exact ⟨[x], [], rfl, rfl⟩
      | cons p ps => exact ⟨x :: p, ps, rfl, rfl⟩
theorem chop_is : ∀ Z : List Int, IsChop cut (chop cut Z) ∧ (chop cut Z).flatten = Z
  | [] => ⟨trivial, rfl⟩
  | [x] => ⟨⟨by simp, trivial⟩, rfl⟩
  | x :: y :: r => by
    obtain ⟨h1, h2⟩ := chop_is (y :: r)
    obtain ⟨p, ps, hp, hh⟩ := chop_ne (cut := cut) (Z := y :: r) (by simp)
    simp only [chop]
    split
    · rename_i hc
      refine ⟨IsChop.cons (by simp) trivial (fun q r' hq => ?_) h1, by rw [List.flatten_cons, h2]; rfl⟩
      rw [hp] at hq
      cases hq
      exact ⟨x, y, rfl, hh, hc⟩
    · rename_i hc
      rw [hp] at h1 h2 ⊢
      dsimp only
      have hpp := h1.head
      refine ⟨IsChop.cons (by simp) ?_ (fun q r' hq => ?_) h1.tail, by rw [List.flatten_cons] at h2 ⊢; rw [List.cons_append, h2]⟩
      · cases p with
        | nil => exact absurd rfl hpp.1
        | cons z p =>
          simp at hh
          subst hh
          exact ⟨by simpa using hc, hpp.2⟩
      · subst hq
        obtain ⟨u, v, hu, hv, hcc⟩ := h1.2.2.1
        cases p with
        | nil => exact absurd rfl hpp.1
        | cons z p => exact ⟨u, v, by rw [List.getLast?_cons_cons]; exact hu, hv, hcc⟩
theorem IsChop.append {a b : List (List Int)} (h : IsChop cut (a ++ b)) : IsChop cut a ∧ IsChop cut b := by
  induction a with
  | nil => exact ⟨trivial, h⟩
  | cons p a ih =>
    rw [List.cons_append] at h
    obtain ⟨h1, h2⟩ := ih h.tail
    refine ⟨IsChop.cons h.head.1 h.head.2 (fun q r' hq => ?_) h1, h2⟩
    subst hq
    exact h.2.2.1
theorem IsChop.glue {a : List (List Int)} {p : List Int} {b : List (List Int)} (ha : IsChop cut (a ++ [p])) (hb : IsChop cut b) (hc : ∀ q r', b = q :: r' → CutAt cut p q) : IsChop cut (a ++ p :: b) := by
  induction a with
  | nil => exact IsChop.cons ha.head.1 ha.head.2 hc hb
  | cons x a ih =>
    rw [List.cons_append] at ha ⊢
    refine IsChop.cons ha.head.1 ha.head.2 (fun q r' hq => ?_) (ih ha.tail)
    cases a with
    | nil => cases hq; exact ha.2.2.1
    | cons z a => cases hq; exact ha.2.2.1
theorem uncut_append : ∀ (p q : List Int), Uncut cut (p ++ q) ↔ Uncut cut p ∧ Uncut cut q ∧ (∀ x y, p.getLast? = some x → q.head? = some y → cut x y = false)
  | [], q => by simp [Uncut]
  | [x], [] => by simp [Uncut]
  | [x], y :: q => by
    simp only [List.cons_append, List.nil_append, Uncut]
    constructor
    · rintro ⟨h1, h2⟩
      refine ⟨trivial, h2, ?_⟩
      intro a b ha hb
      simp at ha hb
      rw [← ha, ← hb]
      exact h1
    · rintro ⟨_, h2, h3⟩
      exact ⟨h3 x y rfl rfl, h2⟩
  | x :: y :: p, q => by
    have := uncut_append (y :: p) q
    simp only [List.cons_append, Uncut] at this ⊢
    rw [this]
    constructor
    · rintro ⟨h1, h2, h3, h4⟩
      exact ⟨⟨h1, h2⟩, h3, fun a b ha hb => h4 a b (by rwa [List.getLast?_cons_cons] at ha) hb⟩
    · rintro ⟨⟨h1, h2⟩, h3, h4⟩
      exact ⟨h1, h2, h3, fun a b ha hb => h4 a b (by rw [List.getLast?_cons_cons]; exact ha) hb⟩
/-- A piece parted: both ends of the pieces stay pieces. -/
theorem IsChop.part {a b : List (List Int)} {p q : List Int} (h : IsChop cut (a ++ (p ++ q) :: b)) (hp : p ≠ []) (hq : q ≠ []) : IsChop cut (a ++ [p]) ∧ IsChop cut (q :: b) := by
  obtain ⟨h1, h2⟩ := h.append
  have hu := (uncut_append p q).1 h2.head.2
  constructor
  · clear h1
    induction a with
    | nil => exact ⟨hp, hu.1⟩
    | cons x a ih =>
      rw [List.cons_append] at h ⊢
      refine IsChop.cons h.head.1 h.head.2 (fun z r' hz => ?_) (ih h.tail)
      cases a with
      | nil =>
        cases hz
        obtain ⟨u, v, hu', hv, hc⟩ := h.2.2.1
        exact ⟨u, v, hu', by rwa [head_app _ hp] at hv, hc⟩
      | cons y a => cases hz; exact h.2.2.1
  · refine IsChop.cons hq hu.2.1 (fun z r' hz => ?_) h2.tail
    subst hz
    obtain ⟨u, v, hu', hv, hc⟩ := h2.2.2.1
    exact ⟨u, v, by rwa [getLast_app _ hq] at hu', hv, hc⟩
end
theorem flatMap_part {f : List Int → List Int} : ∀ (ps : List (List Int)) (P Q : List Int), ps.flatMap f = P ++ Q →
    (∃ a b, ps = a ++ b ∧ P = a.flatMap f ∧ Q = b.flatMap f) ∨ (∃ a p b u v, ps = a ++ p :: b ∧ f p = u ++ v ∧ u ≠ [] ∧ v ≠ [] ∧ P = a.flatMap f ++ u ∧ Q = v ++ b.flatMap f)
  | [], P, Q, h => by
    have h := List.append_eq_nil_iff.1 h.symm
    exact .inl ⟨[], [], rfl, h.1, h.2⟩
  | p :: ps, P, Q, h => by
    rw [List.flatMap_cons] at h
    rcases List.append_eq_append_iff.1 h with ⟨t, ht, hc⟩ | ⟨t, ht, hc⟩
    · rcases flatMap_part ps t Q hc with ⟨a, b, h1, h2, h3⟩ | ⟨a, x, b, u, v, h1, h2, h3, h4, h5, h6⟩
      · exact .inl ⟨p :: a, b, by rw [h1]; rfl, by rw [ht, h2]; rfl, h3⟩
      · exact .inr ⟨p :: a, x, b, u, v, by rw [h1]; rfl, h2, h3, h4, by rw [ht, h5]; simp, h6⟩
    · by_cases hP : P = []
      · subst hP
        refine .inl ⟨[], p :: ps, rfl, rfl, ?_⟩
        rw [List.nil_append] at ht
        rw [hc, ← ht, List.flatMap_cons]
      · by_cases htn : t = []
        · subst htn
          rw [List.append_nil] at ht
          exact .inl ⟨[p], ps, rfl, by simp [ht], by simpa using hc⟩
        · exact .inr ⟨[], p, ps, P, t, rfl, ht, hP, htn, by simp, hc⟩

/-! ### A vocabulary's tokens -/
/-- A vocabulary: its merges, what tokens stand for, where bytes are cut, the special tokens' numbers. -/
structure Voc where
  ms : List (Int × Int)
  ex : Int → List Int
  cutB : Int → Int → Bool
  sp : List Int
namespace Voc
variable (V : Voc)
def cut (x y : Int) : Bool := decide (x < 0) || decide (y < 0) || V.cutB x y
/-- A number's place among the special ones. -/
def place (t : Int) : Option Nat := V.sp.idxOf? t
def items (t : Int) : List Int := match V.place t with
  | some i => [-1 - (i : Int)]
  | none => V.ex t
def encP : List Int → List Int
  | [] => []
  | x :: r => if x < 0 then [V.sp.getD (-1 - x).toNat 0] else after V.ms V.ms.length (x :: r)
def encode (Z : List Int) : List Int := (chop V.cut Z).flatMap V.encP
def itemsAll (ids : List Int) : List Int := ids.flatMap V.items
/-- Are tokens what is made of their items? -/
def Canon (ids : List Int) : Prop := V.encode (V.itemsAll ids) = ids
/-- There is such a token. -/
def Has (t : Int) : Prop := Tok V.ms t ∨ t ∈ V.sp
structure Ok : Prop where
  good : GoodV V.ms V.ex
  nodup : V.sp.Nodup
  above : ∀ t ∈ V.sp, 256 + (V.ms.length : Int) ≤ t
variable {V}
theorem place_none (h : V.Ok) {t : Int} (ht : Tok V.ms t) : V.place t = none := by
  unfold place
  rw [List.idxOf?_eq_none_iff]
  intro hm
  have := h.above t hm
  have := ht.2
  omega
theorem place_some {t : Int} (ht : t ∈ V.sp) : ∃ i, V.place t = some i ∧ V.sp[i]? = some t := by
  unfold place
  cases hp : V.sp.idxOf? t with
  | none => exact absurd ht (List.idxOf?_eq_none_iff.1 hp)
  | some i =>
    refine ⟨i, rfl, ?_⟩
    rw [List.idxOf?, List.findIdx?_eq_some_iff_getElem] at hp
    obtain ⟨hi, hb, _⟩ := hp
    rw [List.getElem?_eq_getElem hi]
    simpa using hb
theorem items_tok (h : V.Ok) {t : Int} (ht : Tok V.ms t) : V.items t = V.ex t := by
  unfold items
  rw [place_none h ht]
theorem items_ne (h : V.Ok) {t : Int} (ht : V.Has t) : V.items t ≠ [] := by
  rcases ht with ht | ht
  · rw [items_tok h ht]; exact (h.good.bytes ht).2
  · obtain ⟨i, hi, _⟩ := place_some ht
    unfold items
    rw [hi]
    simp
/-- Items that there are. -/
def Items (V : Voc) (Z : List Int) : Prop := ∀ x ∈ Z, -(V.sp.length : Int) ≤ x ∧ x < 256
theorem items_ok (h : V.Ok) {t : Int} (ht : V.Has t) : V.Items (V.items t) := by
  intro x hx
  rcases ht with ht | ht
  · rw [items_tok h ht] at hx
    have := (h.good.bytes ht).1 x hx
    omega
  · obtain ⟨i, hi, hs⟩ := place_some ht
    have := (List.getElem?_eq_some_iff.1 hs).1
    unfold items at hx
    rw [hi] at hx
    simp at hx
    omega
theorem itemsAll_ok (h : V.Ok) {ids : List Int} (ht : ∀ t ∈ ids, V.Has t) : V.Items (V.itemsAll ids) := by
  intro x hx
  obtain ⟨t, hm, hx⟩ := List.mem_flatMap.1 hx
  exact items_ok h (ht t hm) x hx
/-- A piece is a mark, or bytes. -/
theorem piece_kind {p : List Int} (hp : p ≠ []) (hu : Uncut V.cut p) (hi : V.Items p) : (∃ i : Nat, i < V.sp.length ∧ p = [-1 - (i : Int)]) ∨ (∀ x ∈ p, 0 ≤ x ∧ x < 256) := by
  induction p with
  | nil => exact absurd rfl hp
  | cons x r ih =>
    by_cases hx : x < 0
    · refine .inl ?_
      cases r with
      | nil =>
        have := hi x (by simp)
        exact ⟨(-1 - x).toNat, by omega, by congr 1; omega⟩
      | cons y r =>
        have := hu.1
        unfold cut at this
        simp [hx] at this
    · refine .inr ?_
      cases r with
      | nil => intro y hy; simp at hy; subst hy; have := hi y (by simp); omega
      | cons y r =>
        rcases ih (by simp) hu.2 (fun z hz => hi z (by simp [hz])) with ⟨i, _, e⟩ | e
        · exfalso
          have := hu.1
          cases e
          unfold cut at this
          have : (-1 - (i : Int)) < 0 := by omega
          simp_all
        · intro z hz
          rcases List.mem_cons.1 hz with rfl | hz
          · have := hi z (by simp); omega
          · exact e z hz
theorem encP_mark (h : V.Ok) {i : Nat} (hi : i < V.sp.length) : V.encP [-1 - (i : Int)] = [V.sp[i]] ∧ V.items V.sp[i] = [-1 - (i : Int)] := by
  constructor
  · unfold encP
    dsimp only
    rw [if_pos (by omega), show (-1 - (-1 - (i : Int))).toNat = i by omega]
    simp [List.getD, List.getElem?_eq_getElem hi]
  · obtain ⟨j, hj, hs⟩ := place_some (V := V) (List.getElem_mem hi)
    have hjl := (List.getElem?_eq_some_iff.1 hs).1
    rw [List.getElem?_eq_getElem hjl] at hs
    have : j = i := (List.getElem_inj h.nodup).1 (Option.some.inj hs)
    unfold items
    rw [hj, this]
theorem encP_bytes {p : List Int} (hp : p ≠ []) (hb : ∀ x ∈ p, 0 ≤ x ∧ x < 256) : V.encP p = after V.ms V.ms.length p := by
  cases p with
  | nil => exact absurd rfl hp
  | cons x r =>
    unfold encP
    dsimp only
    rw [if_neg (by have := hb x (by simp); omega)]
/-- What is made of bytes are ordinary tokens. -/
theorem after_tok (h : V.Ok) {s : List Int} (hs : ∀ x ∈ s, 0 ≤ x ∧ x < 256) : ∀ t ∈ after V.ms V.ms.length s, Tok V.ms t := by
  have key : ∀ k, k ≤ V.ms.length → ∀ t ∈ after V.ms k s, 0 ≤ t := by
    intro k
    induction k with
    | zero => intro _ t ht; rw [after_zero] at ht; exact (hs t ht).1
    | succ k ih =>
      intro hk t ht
      rw [after_succ V.ms (List.getElem?_eq_getElem (show k < V.ms.length by omega))] at ht
      have ih := ih (by omega)
      generalize after V.ms k s = l at ht ih
      induction l using pass.induct V.ms[k].1 V.ms[k].2 with
      | case1 => simp [pass] at ht
      | case2 x => simp [pass] at ht; subst ht; exact ih _ (by simp)
      | case3 x y r hx ih2 =>
        obtain ⟨rfl, rfl⟩ := hx
        rw [pass_yes] at ht
        rcases List.mem_cons.1 ht with rfl | ht
        · omega
        · exact ih2 ht fun u hu => ih u (by simp [hu])
      | case4 x y r hx ih2 =>
        rw [pass_no r hx] at ht
        rcases List.mem_cons.1 ht with rfl | ht
        · exact ih _ (by simp)
        · exact ih2 ht fun u hu => ih u (by simp [hu])
  intro t ht
  exact ⟨key _ (Nat.le_refl _) t ht, after_lt (ms := V.ms) V.ms.length (Nat.le_refl _) s (fun x hx => (hs x hx).2) t ht⟩
theorem itemsAll_append (a b : List Int) : V.itemsAll (a ++ b) = V.itemsAll a ++ V.itemsAll b := by simp [itemsAll]
theorem itemsAll_toks (h : V.Ok) {l : List Int} (hl : ∀ t ∈ l, Tok V.ms t) : V.itemsAll l = expand V.ex l := by
  induction l with
  | nil => rfl
  | cons t l ih =>
    have := ih fun x hx => hl x (by simp [hx])
    unfold itemsAll expand at this ⊢
    rw [List.flatMap_cons, List.flatMap_cons, this, items_tok h (hl t (by simp))]
/-- What is made of a piece stands for the piece; its parts, of parts of it. -/
theorem encP_items (h : V.Ok) {p : List Int} (hp : p ≠ []) (hu : Uncut V.cut p) (hi : V.Items p) : V.itemsAll (V.encP p) = p ∧ (∀ t ∈ V.encP p, V.Has t) ∧ ∀ u v, V.encP p = u ++ v → u ≠ [] → v ≠ [] → ∃ p1 p2, p = p1 ++ p2 ∧ p1 ≠ [] ∧ p2 ≠ [] ∧ V.encP p1 = u ∧ V.encP p2 = v := by
  rcases piece_kind hp hu hi with ⟨i, hil, rfl⟩ | hb
  · obtain ⟨h1, h2⟩ := encP_mark h hil
    rw [h1]
    refine ⟨by simp [itemsAll, h2], ?_, ?_⟩
    · intro t ht
      simp at ht
      subst ht
      exact .inr (List.getElem_mem hil)
    · intro u v e hu hv
      exfalso
      have := congrArg List.length e
      have h3 : 0 < u.length := List.length_pos_iff.2 hu
      have h4 : 0 < v.length := List.length_pos_iff.2 hv
      simp at this
      omega
  · have hS := h.good.stands
    rw [encP_bytes hp hb]
    have htok := after_tok h hb
    refine ⟨?_, fun t ht => .inl (htok t ht), ?_⟩
    · rw [itemsAll_toks h htok, expand_after hS _ (Nat.le_refl _), expand_low hS p hb]
    · intro u v e hu' hv'
      obtain ⟨p1, p2, e1, e2, e3⟩ := after_back V.ms V.ms.length (Nat.le_refl _) p u v e
      have n1 : p1 ≠ [] := by rintro rfl; rw [after_nil] at e2; exact hu' e2.symm
      have n2 : p2 ≠ [] := by rintro rfl; rw [after_nil] at e3; exact hv' e3.symm
      refine ⟨p1, p2, e1, n1, n2, ?_, ?_⟩
      · rw [encP_bytes n1 fun x hx => hb x (by rw [e1]; simp [hx]), e2]
      · rw [encP_bytes n2 fun x hx => hb x (by rw [e1]; simp [hx]), e3]
theorem pieces_items {Z : List Int} (hZ : V.Items Z) {ps : List (List Int)} (hf : ps.flatten = Z) : ∀ p ∈ ps, V.Items p := by
  intro p hp x hx
  exact hZ x (by rw [← hf]; exact List.mem_flatten.2 ⟨p, hp, hx⟩)
theorem chop_all {ps : List (List Int)} (h : IsChop V.cut ps) : ∀ p ∈ ps, p ≠ [] ∧ Uncut V.cut p := by
  induction ps with
  | nil => intro p hp; cases hp
  | cons q ps ih =>
    intro p hp
    rcases List.mem_cons.1 hp with rfl | hp
    · exact h.head
    · exact ih h.tail p hp
theorem encode_chop {ps : List (List Int)} (h : IsChop V.cut ps) : V.encode ps.flatten = ps.flatMap V.encP := by
  unfold encode
  rw [chop_unique ps h]
/-- What is made of items stands for them. -/
theorem encode_items (h : V.Ok) {Z : List Int} (hZ : V.Items Z) : V.itemsAll (V.encode Z) = Z ∧ ∀ t ∈ V.encode Z, V.Has t := by
  obtain ⟨h1, h2⟩ := chop_is (cut := V.cut) Z
  have hi := pieces_items hZ h2
  have hp := chop_all h1
  unfold encode
  constructor
  · conv => rhs; rw [← h2]
    generalize chop V.cut Z = ps at hi hp
    clear h1 h2
    induction ps with
    | nil => rfl
    | cons p ps ih =>
      rw [List.flatMap_cons, List.flatten_cons, itemsAll_append, ih (fun q hq => hi q (by simp [hq])) (fun q hq => hp q (by simp [hq])), (encP_items h (hp p (by simp)).1 (hp p (by simp)).2 (hi p (by simp))).1]
  · intro t ht
    obtain ⟨p, hpm, htp⟩ := List.mem_flatMap.1 ht
    exact (encP_items h (hp p hpm).1 (hp p hpm).2 (hi p hpm)).2.1 t htp
/-- What is made of items, parted, is what is made of two parts of them. -/
theorem encode_back (h : V.Ok) {Z P Q : List Int} (hZ : V.Items Z) (he : V.encode Z = P ++ Q) : ∃ X Y, Z = X ++ Y ∧ V.encode X = P ∧ V.encode Y = Q := by
  obtain ⟨h1, h2⟩ := chop_is (cut := V.cut) Z
  unfold encode at he
  rcases flatMap_part _ P Q he with ⟨a, b, e, rfl, rfl⟩ | ⟨a, p, b, u, v, e, e1, hu, hv, rfl, rfl⟩
  · rw [e] at h1 h2
    obtain ⟨g1, g2⟩ := h1.append
    exact ⟨a.flatten, b.flatten, by rw [← h2, List.flatten_append], encode_chop g1, encode_chop g2⟩
  · have hi := pieces_items hZ h2
    have hp := chop_all h1
    rw [e] at h1 h2 hi hp
    have hpm := hp p (by simp)
    obtain ⟨p1, p2, rfl, n1, n2, q1, q2⟩ := (encP_items h hpm.1 hpm.2 (hi p (by simp))).2.2 u v e1 hu hv
    obtain ⟨g1, g2⟩ := h1.part n1 n2
    refine ⟨(a ++ [p1]).flatten, (p2 :: b).flatten, by rw [← h2]; simp, ?_, ?_⟩
    · rw [encode_chop g1]; simp [q1]
    · rw [encode_chop g2]; simp [q2]
theorem canon_append (h : V.Ok) {P Q : List Int} (ht : ∀ t ∈ P ++ Q, V.Has t) (hc : V.Canon (P ++ Q)) : V.Canon P ∧ V.Canon Q := by
  obtain ⟨X, Y, e, e1, e2⟩ := encode_back h (itemsAll_ok h ht) hc
  have hZ := itemsAll_ok h ht
  rw [e] at hZ
  have hX := (encode_items h (Z := X) fun x hx => hZ x (by simp [hx])).1
  have hY := (encode_items h (Z := Y) fun x hx => hZ x (by simp [hx])).1
  rw [e1] at hX
  rw [e2] at hY
  exact ⟨by unfold Canon; rw [hX, e1], by unfold Canon; rw [hY, e2]⟩
/-- Nothing is joined between two tokens. -/
def Free (V : Voc) (a b : Int) : Prop := ∀ k, k < V.ms.length → ¬ CrossAt V.ms (V.ex a) (V.ex b) k
/-- May two that are alone stand side by side? -/
def Pair (V : Voc) (a b : Int) : Prop := (∃ x y, (V.items a).getLast? = some x ∧ (V.items b).head? = some y ∧ V.cut x y = true) ∨ (Tok V.ms a ∧ Tok V.ms b ∧ V.Free a b)
theorem alone_iff (h : V.Ok) {t : Int} (ht : Tok V.ms t) : V.Canon [t] ↔ AloneT V.ms V.ex t ∧ (chop V.cut (V.ex t)).length ≤ 1 := by
  have hb := h.good.bytes ht
  unfold Canon encode itemsAll AloneT
  simp only [List.flatMap_cons, List.flatMap_nil, List.append_nil]
  rw [items_tok h ht]
  obtain ⟨h1, h2⟩ := chop_is (cut := V.cut) (V.ex t)
  have hp := chop_all h1
  have hi : V.Items (V.ex t) := fun x hx => by have := hb.1 x hx; omega
  have hpi := pieces_items hi h2
  match hc : chop V.cut (V.ex t) with
  | [] => rw [hc] at h2; exact absurd h2.symm hb.2
  | [p] =>
    rw [hc] at h2
    simp at h2
    subst h2
    simp only [List.flatMap_cons, List.flatMap_nil, List.append_nil, List.length_cons, List.length_nil]
    rw [encP_bytes hb.2 hb.1]
    simp
  | p :: q :: r =>
    constructor
    · intro e
      exfalso
      have ne : ∀ p ∈ chop V.cut (V.ex t), V.encP p ≠ [] := by
        intro p hpm e
        have := (encP_items h (hp p hpm).1 (hp p hpm).2 (hpi p hpm)).1
        rw [e] at this
        exact (hp p hpm).1 this.symm
      rw [hc] at ne
      have n1 := List.length_pos_iff.2 (ne p (by simp))
      have n2 := List.length_pos_iff.2 (ne q (by simp))
      have := congrArg List.length e
      simp only [List.flatMap_cons, List.length_append, List.length_cons, List.length_nil] at this
      omega
    · rintro ⟨_, e⟩
      simp at e
theorem alone_special (h : V.Ok) {t : Int} (ht : t ∈ V.sp) : V.Canon [t] := by
  obtain ⟨i, hi, hs⟩ := place_some ht
  have hil := (List.getElem?_eq_some_iff.1 hs).1
  rw [List.getElem?_eq_getElem hil] at hs
  obtain ⟨h1, h2⟩ := encP_mark h hil
  rw [Option.some.inj hs] at h1 h2
  unfold Canon encode itemsAll
  simp only [List.flatMap_cons, List.flatMap_nil, List.append_nil, h2]
  show V.encP [-1 - (i : Int)] ++ [] = [t]
  rw [h1]
  rfl
/-- **One token more.** -/
theorem canon_more (h : V.Ok) {init : List Int} {l t : Int} (ht : ∀ x ∈ init ++ [l], V.Has x) (hc : V.Canon (init ++ [l])) (hT : V.Has t) : V.Canon (init ++ [l] ++ [t]) ↔ V.Canon [t] ∧ V.Pair l t := by
  have hS := itemsAll_ok h ht
  have hTi := items_ok h hT
  have nS : V.itemsAll (init ++ [l]) ≠ [] := by
    rw [itemsAll_append]
    have := items_ne h (ht l (by simp))
    simp [itemsAll, this]
  have nT := items_ne h hT
  obtain ⟨s1, s2⟩ := chop_is (cut := V.cut) (V.itemsAll (init ++ [l]))
  obtain ⟨t1, t2⟩ := chop_is (cut := V.cut) (V.items t)
  obtain ⟨q, qs, hq, hqh⟩ := chop_ne (cut := V.cut) nT
  have one : ∀ x : Int, V.itemsAll [x] = V.items x := fun x => by simp [itemsAll]
  obtain ⟨ps, p, hps⟩ : ∃ ps p, chop V.cut (V.itemsAll (init ++ [l])) = ps ++ [p] := by
    rcases List.eq_nil_or_concat (chop V.cut (V.itemsAll (init ++ [l]))) with e | ⟨a, b, e⟩
    · rw [e] at s2; exact absurd s2.symm nS
    · exact ⟨a, b, by rw [e]; simp⟩
  rw [hps] at s1 s2
  rw [hq] at t1 t2
  have hpp := chop_all s1 p (by simp)
  have hqq := t1.head
  have hlast : p.getLast? = (V.items l).getLast? := by
    have e1 : (V.itemsAll (init ++ [l])).getLast? = (V.items l).getLast? := by
      rw [itemsAll_append, one, getLast_app _ (items_ne h (ht l (by simp)))]
    rw [← s2, List.flatten_append, List.flatten_cons, List.flatten_nil, List.append_nil, getLast_app _ hpp.1] at e1
    exact e1
  have hall : V.itemsAll (init ++ [l] ++ [t]) = (ps ++ [p]).flatten ++ (q :: qs).flatten := by
    rw [itemsAll_append, one, s2, t2]
  have hencS : ps.flatMap V.encP ++ V.encP p = init ++ [l] := by
    have : V.encode (V.itemsAll (init ++ [l])) = init ++ [l] := hc
    rw [← s2, encode_chop s1] at this
    simpa using this
  have hencT : V.Canon [t] ↔ V.encP q ++ qs.flatMap V.encP = [t] := by
    unfold Canon
    rw [one, ← t2, encode_chop t1]
    simp
  by_cases hcut : CutAt V.cut p q
  · -- it is cut
    have hglue : IsChop V.cut (ps ++ p :: (q :: qs)) := s1.glue t1 fun z r hz => by cases hz; exact hcut
    have hpair : V.Pair l t := by
      obtain ⟨x, y, hx, hy, hxy⟩ := hcut
      exact .inl ⟨x, y, by rw [← hlast]; exact hx, by rw [← hqh]; exact hy, hxy⟩
    have : V.encode (V.itemsAll (init ++ [l] ++ [t])) = init ++ [l] ++ (V.encP q ++ qs.flatMap V.encP) := by
      rw [hall, ← List.flatten_append, show ps ++ [p] ++ q :: qs = ps ++ p :: (q :: qs) by simp, encode_chop hglue, ← hencS]
      simp
    unfold Canon at *
    rw [this, List.append_right_inj]
    exact ⟨fun e => ⟨hencT.2 e, hpair⟩, fun e => hencT.1 e.1⟩
  · -- it isn't: both are bytes
    obtain ⟨x, hx⟩ : ∃ x, p.getLast? = some x := by
      cases hpl : p.getLast? with
      | none => exact absurd (List.getLast?_eq_none_iff.1 hpl) hpp.1
      | some x => exact ⟨x, rfl⟩
    obtain ⟨y, hy⟩ : ∃ y, q.head? = some y := by
      cases hql : q.head? with
      | none => exact absurd (List.head?_eq_none_iff.1 hql) hqq.1
      | some y => exact ⟨y, rfl⟩
    have hnc : V.cut x y = false := by
      cases hxy : V.cut x y with
      | false => rfl
      | true => exact absurd ⟨x, y, hx, hy, hxy⟩ hcut
    have hx0 : ¬ x < 0 := by intro e; unfold cut at hnc; simp [e] at hnc
    have hy0 : ¬ y < 0 := by intro e; unfold cut at hnc; simp [e] at hnc
    have hip := pieces_items hS s2 p (by simp)
    have hiq := pieces_items hTi t2 q (by simp)
    have bp : ∀ z ∈ p, 0 ≤ z ∧ z < 256 := by
      rcases piece_kind hpp.1 hpp.2 hip with ⟨i, _, rfl⟩ | e
      · simp at hx; omega
      · exact e
    have bq : ∀ z ∈ q, 0 ≤ z ∧ z < 256 := by
      rcases piece_kind hqq.1 hqq.2 hiq with ⟨i, _, rfl⟩ | e
      · simp at hy; omega
      · exact e
    have tokOf : ∀ {u : Int} (hu : V.Has u), (∀ z, (V.items u).getLast? = some z ∨ (V.items u).head? = some z → ¬ z < 0 → Tok V.ms u) := by
      intro u hu z hz hz0
      rcases hu with hu | hu
      · exact hu
      · exfalso
        obtain ⟨i, hi, _⟩ := place_some hu
        unfold items at hz
        rw [hi] at hz
        simp at hz
        omega
    have tl : Tok V.ms l := tokOf (ht l (by simp)) x (.inl (by rw [← hlast]; exact hx)) hx0
    have tt : Tok V.ms t := tokOf hT y (.inr (by rw [← hqh]; exact hy)) hy0
    have hchop : IsChop V.cut (ps ++ (p ++ q) :: qs) := by
      have hu : Uncut V.cut (p ++ q) := (uncut_append p q).2 ⟨hpp.2, hqq.2, fun a b ha hb => by rw [hx] at ha; rw [hy] at hb; cases ha; cases hb; exact hnc⟩
      have npq : p ++ q ≠ [] := by simp [hpp.1]
      have h1 : IsChop V.cut (ps ++ [p ++ q]) := by
        clear hencS hall
        have s1' := s1
        revert s1'
        generalize ps = a
        intro s1'
        induction a with
        | nil => exact ⟨npq, hu⟩
        | cons z a ih =>
          rw [List.cons_append] at s1' ⊢
          refine IsChop.cons s1'.head.1 s1'.head.2 (fun w r hw => ?_) (ih s1'.tail)
          cases a with
          | nil =>
            cases hw
            obtain ⟨u, v, hu', hv, hcc⟩ := s1'.2.2.1
            exact ⟨u, v, hu', by rw [head_app _ hpp.1]; exact hv, hcc⟩
          | cons z' a => cases hw; exact s1'.2.2.1
      refine h1.glue t1.tail fun z r hz => ?_
      subst hz
      obtain ⟨u, v, hu', hv, hcc⟩ := t1.2.2.1
      exact ⟨u, v, by rw [getLast_app _ hqq.1]; exact hu', hv, hcc⟩
    have henc : V.encode (V.itemsAll (init ++ [l] ++ [t])) = ps.flatMap V.encP ++ (after V.ms V.ms.length (p ++ q) ++ qs.flatMap V.encP) := by
      rw [hall, show (ps ++ [p]).flatten ++ (q :: qs).flatten = (ps ++ (p ++ q) :: qs).flatten by simp, encode_chop hchop]
      simp only [List.flatMap_append, List.flatMap_cons]
      rw [encP_bytes (by simp [hpp.1]) fun z hz => (List.mem_append.1 hz).elim (bp z) (bq z)]
    -- the last piece's tokens
    rw [encP_bytes hpp.1 bp] at hencS
    have tokp := after_tok h bp
    obtain ⟨i2, hi2⟩ : ∃ i2, after V.ms V.ms.length p = i2 ++ [l] := by
      have hne := after_ne V.ms hpp.1 V.ms.length
      rcases List.eq_nil_or_concat (after V.ms V.ms.length p) with e | ⟨a, b, e⟩
      · exact absurd e hne
      · rw [e] at hencS
        have := congrArg List.getLast? hencS
        simp at this
        exact ⟨a, by rw [e, this]; simp⟩
    rw [hi2] at tokp
    have hcp : CanonT V.ms V.ex (i2 ++ [l]) := by
      unfold CanonT
      rw [← hi2, expand_after h.good.stands _ (Nat.le_refl _), expand_low h.good.stands p bp, hi2]
    have hpe : p = expand V.ex (i2 ++ [l]) := by
      rw [← hi2, expand_after h.good.stands _ (Nat.le_refl _), expand_low h.good.stands p bp]
    have single : V.Canon [t] → qs = [] ∧ q = V.ex t ∧ AloneT V.ms V.ex t := by
      intro e
      obtain ⟨ha, hl⟩ := (alone_iff h tt).1 e
      rw [items_tok h tt] at hq t2
      rw [hq] at hl
      simp at hl
      subst hl
      simp at t2
      exact ⟨rfl, t2, ha⟩
    have finish : V.Canon [t] → (V.Canon (init ++ [l] ++ [t]) ↔ V.Free l t) := by
      intro e
      obtain ⟨e1, e2, e3⟩ := single e
      have hsn := canon_snoc h.good tokp hcp tt e3
      unfold Canon
      rw [henc, e1, e2]
      simp only [List.flatMap_nil, List.append_nil]
      rw [hi2] at hencS
      unfold CanonT at hsn
      rw [expand_append, ← hpe, show expand V.ex [t] = V.ex t by simp [expand]] at hsn
      rw [← hencS, List.append_assoc, List.append_right_inj]
      exact hsn
    have pair_iff : V.Pair l t ↔ V.Free l t := by
      constructor
      · rintro (⟨u, v, hu, hv, hcc⟩ | ⟨_, _, hf⟩)
        · exfalso
          rw [← hlast, hx] at hu
          rw [← hqh, hy] at hv
          cases hu
          cases hv
          rw [hnc] at hcc
          cases hcc
        · exact hf
      · exact fun hf => .inr ⟨tl, tt, hf⟩
    constructor
    · intro e
      have hT1 := (canon_append h (P := init ++ [l]) (Q := [t]) (by
        intro z hz
        rcases List.mem_append.1 hz with hz | hz
        · exact ht z hz
        · simp at hz; subst hz; exact hT) e).2
      exact ⟨hT1, pair_iff.2 ((finish hT1).1 e)⟩
    · rintro ⟨e1, e2⟩
      exact (finish e1).2 (pair_iff.1 e2)
end Voc
end Go.Proofs.YtpklkijdlnioaaaGreat.Eng
