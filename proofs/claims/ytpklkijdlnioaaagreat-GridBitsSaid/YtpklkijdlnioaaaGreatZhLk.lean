/- A vocabulary in memory is one of the plain laws'. -/
import Derived.Test.YtpklkijdlnioaaaGreatZhSp
import Derived.Test.YtpklkijdlnioaaaGreatZhPd
set_option linter.unusedVariables false
set_option linter.unusedSimpArgs false
set_option maxRecDepth 100000
namespace Go.Proofs.YtpklkijdlnioaaaGreat.Eng
open Go Go.RowKit
def exT (T : List Ent) (t : Int) : List Int := ints (bytesOf T t)
theorem merges_length {T : List Ent} (h : TOk T) : (mergesOf T).length + 256 = T.length := by
  have := h.len
  simp [mergesOf]
  omega
theorem low_get {T : List Ent} (h : TOk T) {i : Nat} (hi : i < 256) : T[i]? = some (byteEnt i) := by
  have h1 : (T.take 256)[i]? = T[i]? := List.getElem?_take_of_lt hi
  rw [← h1, h.low]
  simp [begins, hi]
theorem bytes_low {T : List Ent} (h : TOk T) {i : Nat} (hi : i < 256) : bytesOf T (i : Int) = [UInt8.ofNat i] := by
  simp [bytesOf, low_get h hi, byteEnt]
theorem high_get {T : List Ent} (h : TOk T) {k : Nat} {m : Int × Int} (hm : (mergesOf T)[k]? = some m) : ∃ e, T[256 + k]? = some e ∧ e.2 = m := by
  simp only [mergesOf, List.getElem?_map, List.getElem?_drop] at hm
  obtain ⟨e, he, rfl⟩ := Option.map_eq_some_iff.1 hm
  exact ⟨e, he, rfl⟩
theorem bytes_high {T : List Ent} (h : TOk T) {k : Nat} {m : Int × Int} (hm : (mergesOf T)[k]? = some m) : bytesOf T ((256 : Int) + (k : Nat)) = bytesOf T m.1 ++ bytesOf T m.2 := by
  obtain ⟨e, he, rfl⟩ := high_get h hm
  obtain ⟨_, _, hs⟩ := h.step (256 + k) e he (by omega)
  rw [← hs]
  unfold bytesOf
  rw [show ((256 : Int) + (k : Nat)).toNat = 256 + k by omega, he]
  rfl
theorem bytes_ne {T : List Ent} (h : TOk T) : ∀ (n i : Nat), i ≤ n → i < T.length → bytesOf T (i : Int) ≠ [] := by
  intro n
  induction n with
  | zero =>
    intro i hi hl
    rw [bytes_low h (by omega)]
    simp
  | succ n ih =>
    intro i hi hl
    by_cases h256 : i < 256
    · rw [bytes_low h h256]
      simp
    · obtain ⟨h1, h2, h3⟩ := h.step i _ (List.getElem?_eq_getElem hl) (by omega)
      have : bytesOf T (i : Int) = T[i].1 := by simp [bytesOf, hl]
      rw [this, h3]
      have := ih T[i].2.1.toNat (by omega) (by omega)
      rw [show ((T[i].2.1.toNat : Nat) : Int) = T[i].2.1 by omega] at this
      simp [this]
theorem ints_append (a b : Bs) : ints (a ++ b) = ints a ++ ints b := by simp [ints]
theorem good_of {T : List Ent} (h : TOk T) : GoodV (mergesOf T) (exT T) := by
  have ml := merges_length h
  refine ⟨⟨fun t h0 h1 => ?_, fun k m hm => ?_, h.sound, fun k m hm => ?_⟩, fun i m hm => ⟨(merges_at h hm).1.1, (merges_at h hm).2.1⟩⟩
  · obtain ⟨i, rfl⟩ : ∃ i : Nat, t = i := ⟨t.toNat, by omega⟩
    have hi : i < 256 := by omega
    unfold exT
    rw [bytes_low h hi]
    simp [ints]
    omega
  · unfold exT
    rw [bytes_high h hm, ints_append]
  · obtain ⟨h1, h2⟩ := merges_at h hm
    have hk := (List.getElem?_eq_some_iff.1 hm).1
    have n1 := bytes_ne h m.1.toNat m.1.toNat (Nat.le_refl _) (by omega)
    have n2 := bytes_ne h m.2.toNat m.2.toNat (Nat.le_refl _) (by omega)
    rw [show ((m.1.toNat : Nat) : Int) = m.1 by omega] at n1
    rw [show ((m.2.toNat : Nat) : Int) = m.2 by omega] at n2
    exact ⟨by simpa [exT, ints] using n1, by simpa [exT, ints] using n2⟩
def vocOf (s : SpecV) (T : List Ent) : Voc := ⟨mergesOf T, exT T, cutB s.classes s.joins, s.specials.map (·.1)⟩
theorem voc_ok {w : World} {s : SpecV} {T : List Ent} {x : SpecW} {tp bp mp : Nat} (h : VocParts w s T x tp bp mp) : (vocOf s T).Ok := by
  have ml := merges_length h.ok
  refine ⟨good_of h.ok, h.nodup, fun t ht => ?_⟩
  obtain ⟨y, hy, rfl⟩ := List.mem_map.1 ht
  have := h.ids y hy
  show 256 + ((mergesOf T).length : Int) ≤ y.1
  omega
theorem tok_iff {T : List Ent} (h : TOk T) (t : Int) : inTab T t ↔ Tok (mergesOf T) t := by
  have ml := merges_length h
  unfold inTab Tok
  omega
theorem encAll_after {T : List Ent} (h : TOk T) (s : Bs) : encAll T s = after (mergesOf T) (mergesOf T).length (ints s) := by
  have ml := merges_length h
  unfold encAll encB after
  rw [show ((T.length : Int) - 256).toNat = (mergesOf T).length by omega]
theorem uncut_iff {cut : Int → Int → Bool} : ∀ l : List Int, Uncut cut l ↔ ∀ (j : Nat) (x y : Int), l[j]? = some x → l[j + 1]? = some y → cut x y = false
  | [] => by simp [Uncut]
  | [x] => by simp [Uncut]
  | x :: y :: r => by
    simp only [Uncut, uncut_iff (y :: r)]
    constructor
    · rintro ⟨h1, h2⟩ j a b ha hb
      cases j with
      | zero =>
        simp at ha hb
        rw [← ha, ← hb]
        exact h1
      | succ j => exact h2 j a b (by simpa using ha) (by simpa using hb)
    · intro h
      exact ⟨h 0 x y rfl rfl, fun j a b ha hb => h (j + 1) a b (by simpa using ha) (by simpa using hb)⟩
theorem chop_one_iff {cut : Int → Int → Bool} {l : List Int} (hl : l ≠ []) : (chop cut l).length ≤ 1 ↔ Uncut cut l := by
  constructor
  · intro h
    obtain ⟨h1, h2⟩ := chop_is (cut := cut) l
    match hc : chop cut l with
    | [] => rw [hc] at h2; exact absurd h2.symm hl
    | [p] =>
      rw [hc] at h1 h2
      simp at h2
      subst h2
      exact h1.2
    | p :: q :: r => rw [hc] at h; simp at h
  · intro h
    have := chop_unique (cut := cut) [l] ⟨hl, h⟩
    simp at this
    rw [this]
    simp
theorem uncut_congr {c c' : Int → Int → Bool} {l : List Int} (h : ∀ x ∈ l, ∀ y ∈ l, c x y = c' x y) : Uncut c l ↔ Uncut c' l := by
  rw [uncut_iff, uncut_iff]
  constructor
  · intro k j x y hx hy
    rw [← h x (List.mem_of_getElem? hx) y (List.mem_of_getElem? hy)]
    exact k j x y hx hy
  · intro k j x y hx hy
    rw [h x (List.mem_of_getElem? hx) y (List.mem_of_getElem? hy)]
    exact k j x y hx hy
theorem whole_uncut (cut : Int → Int → Bool) (b : Bs) : wholeB cut b = true ↔ Uncut cut (ints b) := by
  unfold wholeB
  rw [decide_eq_true_eq, uncut_iff]
  have hget : ∀ j : Nat, (ints b)[j]? = (b[j]?).map fun z : UInt8 => (z.toNat : Int) := fun j => by simp [ints]
  constructor
  · intro h j x y hx hy
    rw [hget] at hx hy
    obtain ⟨u, hu, rfl⟩ := Option.map_eq_some_iff.1 hx
    obtain ⟨v, hv, rfl⟩ := Option.map_eq_some_iff.1 hy
    have hl := (List.getElem?_eq_some_iff.1 hv).1
    have := h (j + 1) hl
    unfold cutPos at this
    rw [if_neg (by omega), Nat.add_sub_cancel, hu, hv] at this
    simpa using this
  · intro h j hj
    unfold cutPos
    rw [if_neg (by omega)]
    cases j with
    | zero => split <;> simp
    | succ j =>
      rw [Nat.add_sub_cancel, List.getElem?_eq_getElem hj, List.getElem?_eq_getElem (show j < b.length by omega)]
      have := h j (b[j].toNat) (b[j + 1].toNat) (by rw [hget, List.getElem?_eq_getElem (show j < b.length by omega)]; rfl) (by rw [hget, List.getElem?_eq_getElem hj]; rfl)
      simp [this]
theorem ints_byte (b : Bs) : ∀ x ∈ ints b, 0 ≤ x ∧ x < 256 := by
  intro x hx
  obtain ⟨y, _, rfl⟩ := List.mem_map.1 hx
  have := y.toNat_lt
  omega
theorem cut_byte (V : Voc) {x y : Int} (hx : 0 ≤ x) (hy : 0 ≤ y) : V.cut x y = V.cutB x y := by
  unfold Voc.cut
  rw [decide_eq_false (by omega), decide_eq_false (by omega)]
  rfl
theorem aloneT_iff {w : World} {s : SpecV} {T : List Ent} {x : SpecW} {tp bp mp : Nat} (h : VocParts w s T x tp bp mp) {i : Nat} (hi : inTab T (i : Int)) : aloneT s T i = true ↔ (vocOf s T).Canon [(i : Int)] := by
  have hT := (tok_iff h.ok _).1 hi
  have hok := voc_ok h
  rw [Voc.alone_iff hok (V := vocOf s T) hT]
  have hne : exT T (i : Int) ≠ [] := (hok.good.bytes hT).2
  have hch : (chop (vocOf s T).cut ((vocOf s T).ex (i : Int))).length ≤ 1 ↔ wholeB (cutB s.classes s.joins) (bytesOf T (i : Int)) = true := by
    show (chop (vocOf s T).cut (exT T (i : Int))).length ≤ 1 ↔ _
    rw [chop_one_iff hne, whole_uncut]
    exact uncut_congr fun x hx y hy => cut_byte _ (ints_byte _ x hx).1 (ints_byte _ y hy).1
  rw [hch]
  unfold aloneT AloneT
  rw [Bool.and_eq_true, decide_eq_true_eq, encAll_after h.ok]
  exact Iff.rfl
theorem has_iff {w : World} {s : SpecV} {T : List Ent} {x : SpecW} {tp bp mp : Nat} (h : VocParts w s T x tp bp mp) (t : Int) : hasV2 s T t = true ↔ (vocOf s T).Has t := by
  unfold hasV2 Voc.Has
  rw [decide_eq_true_eq, tok_iff h.ok]
  exact Or.comm
theorem aloneV_iff {w : World} {s : SpecV} {T : List Ent} {x : SpecW} {tp bp mp : Nat} (h : VocParts w s T x tp bp mp) {t : Int} (ht : (vocOf s T).Has t) : aloneV s T t = true ↔ (vocOf s T).Canon [t] := by
  have hok := voc_ok h
  unfold aloneV
  rcases ht with ht | ht
  · have hin := (tok_iff h.ok t).2 ht
    have hn : t ∉ s.specials.map (·.1) := fun hm => by
      have h1 : 256 + ((mergesOf T).length : Int) ≤ t := hok.above t hm
      have h2 : t < 256 + (((mergesOf T).length : Nat) : Int) := ht.2
      omega
    rw [decide_eq_false hn, decide_eq_true hin]
    have := aloneT_iff h (i := t.toNat) (by rw [show ((t.toNat : Nat) : Int) = t by have := hin.1; omega]; exact hin)
    rw [show ((t.toNat : Nat) : Int) = t by have := hin.1; omega] at this
    simpa using this
  · have hm : t ∈ s.specials.map (·.1) := ht
    rw [decide_eq_true hm]
    simp only [Bool.true_or, true_iff]
    exact Voc.alone_special hok ht
/-- Parents are those of a merge. -/
theorem splits_iff {T : List Ent} (h : TOk T) {a : Int} (ha : inTab T a) : splits T a = true ↔ 256 ≤ a := by
  unfold splits
  rw [decide_eq_true_eq]
  have hlt : a.toNat < T.length := by have := ha.1; have := ha.2; omega
  constructor
  · rintro ⟨_, h2⟩
    rcases Int.lt_or_le a 256 with h' | h'
    · exfalso
      apply h2
      have hl : a.toNat < 256 := by have := ha.1; omega
      simp [parentsOf, low_get h hl, byteEnt]
    · exact h'
  · intro h256
    refine ⟨ha, fun e => ?_⟩
    obtain ⟨h1, _, _⟩ := h.step a.toNat _ (List.getElem?_eq_getElem hlt) (by omega)
    simp only [parentsOf, List.getElem?_eq_getElem hlt, Option.map_some, Option.getD_some] at e
    rw [e] at h1
    simp at h1
theorem parents_merge {T : List Ent} (h : TOk T) {a : Int} (ha : inTab T a) (h256 : 256 ≤ a) : ∃ j : Nat, a = 256 + (j : Int) ∧ (mergesOf T)[j]? = some (parentsOf T a) := by
  have hlt : a.toNat < T.length := by have := ha.1; have := ha.2; omega
  refine ⟨a.toNat - 256, by omega, ?_⟩
  simp only [mergesOf, List.getElem?_map, List.getElem?_drop]
  rw [show 256 + (a.toNat - 256) = a.toNat by omega, List.getElem?_eq_getElem hlt]
  simp [parentsOf, hlt]
end Go.Proofs.YtpklkijdlnioaaaGreat.Eng
