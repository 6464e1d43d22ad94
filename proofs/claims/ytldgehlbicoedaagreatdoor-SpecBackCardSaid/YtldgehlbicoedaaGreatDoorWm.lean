/- Words of texts, in plain Lean: no program in sight. -/
import Derived.Below
import Derived.Lib.SplitLaws
import Derived.Lib.CountLaws
import Derived.Lib.Split
import Derived.Lib.Join
import Derived.Lib.ItoaNum
import Derived.Lib.AtoiAll
import Derived.Lib.ItoaMem
namespace Go.Proofs.YtldgehlbicoedaaGreatDoor.Eng

/-- The sixteen digits. -/
def digs : List UInt8 := [48, 49, 50, 51, 52, 53, 54, 55, 56, 57, 97, 98, 99, 100, 101, 102]
def hx (n : Nat) : UInt8 := digs.getD n 0
def hexBody : List UInt8 → List UInt8
  | [] => []
  | b :: l => hx (b.toNat / 16) :: hx (b.toNat % 16) :: hexBody l
/-- Bytes, told. -/
def hexT (l : List UInt8) : List UInt8 := if l = [] then [45] else hexBody l
/-- A hex digit's number. -/
def dig (b : UInt8) : Option Nat :=
  if 48 ≤ b.toNat ∧ b.toNat ≤ 57 then some (b.toNat - 48) else if 97 ≤ b.toNat ∧ b.toNat ≤ 102 then some (b.toNat - 87) else none
def pairs : List UInt8 → Option (List UInt8)
  | [] => some []
  | [_] => none
  | a :: b :: l => match dig a, dig b, pairs l with
    | some x, some y, some r => some (UInt8.ofNat (16 * x + y) :: r)
    | _, _, _ => none
/-- The bytes that are told so. -/
def unhexT (l : List UInt8) : Option (List UInt8) := if l = [45] then some [] else if l = [] then none else pairs l

theorem all_u8 {p : UInt8 → Prop} (h : ∀ n : Fin 256, p (UInt8.ofNat n.val)) (b : UInt8) : p b := by
  have := h ⟨b.toNat, b.toNat_lt⟩
  simpa using this
theorem dig_lt : ∀ b n, dig b = some n → n < 16 := by
  intro b n h
  unfold dig at h
  split at h
  · cases h; omega
  · split at h
    · cases h; omega
    · cases h
theorem dig_hx_all : ∀ n : Fin 16, dig (hx n.val) = some n.val := by decide
theorem dig_hx (n : Nat) (h : n < 16) : dig (hx n) = some n := dig_hx_all ⟨n, h⟩
theorem hx_dig_all : ∀ n : Fin 256, ∀ k : Fin 16, dig (UInt8.ofNat n.val) = some k.val → hx k.val = UInt8.ofNat n.val := by decide +kernel
theorem hx_dig (b : UInt8) (n : Nat) (h : dig b = some n) : hx n = b :=
  all_u8 (p := fun b => ∀ n, dig b = some n → hx n = b) (fun k n h => hx_dig_all k ⟨n, dig_lt _ n h⟩ h) b n h
theorem hexBody_append (a b : List UInt8) : hexBody (a ++ b) = hexBody a ++ hexBody b := by
  induction a with
  | nil => rfl
  | cons x a ih => simp [hexBody, ih]
theorem hexBody_length (l : List UInt8) : (hexBody l).length = 2 * l.length := by
  induction l with
  | nil => rfl
  | cons b l ih => simp [hexBody, ih]; omega
theorem pairs_hex (l : List UInt8) : pairs (hexBody l) = some l := by
  induction l with
  | nil => rfl
  | cons b l ih =>
    have hb := b.toNat_lt
    simp only [hexBody, pairs, dig_hx _ (show b.toNat / 16 < 16 by omega), dig_hx _ (show b.toNat % 16 < 16 by omega), ih]
    rw [Nat.div_add_mod b.toNat 16]
    simp
theorem hex_pairs (n : Nat) : ∀ (l : List UInt8), l.length ≤ n → ∀ r, pairs l = some r → hexBody r = l := by
  induction n with
  | zero =>
    intro l hl r h
    cases l with
    | nil => simp [pairs] at h; subst h; rfl
    | cons a l => simp at hl
  | succ n ih =>
    intro l hl r h
    match l, hl, h with
    | [], _, h => simp [pairs] at h; subst h; rfl
    | [_], _, h => simp [pairs] at h
    | a :: b :: l, hl, h =>
      simp only [pairs] at h
      split at h
      · rename_i x y r' hx' hy hr
        cases h
        have h1 := dig_lt _ _ hx'
        have h2 := dig_lt _ _ hy
        have hval : (UInt8.ofNat (16 * x + y)).toNat = 16 * x + y := by simp; omega
        simp only [hexBody, hval]
        rw [show (16 * x + y) / 16 = x by omega, show (16 * x + y) % 16 = y by omega, hx_dig _ _ hx', hx_dig _ _ hy, ih l (by simp at hl; omega) _ hr]
      · cases h
/-- What is told of bytes is read as they were. -/
theorem unhex_hex (l : List UInt8) : unhexT (hexT l) = some l := by
  unfold hexT
  split
  · rename_i h; subst h; rfl
  · rename_i h
    have hlen := hexBody_length l
    unfold unhexT
    rw [if_neg, if_neg, pairs_hex]
    · intro e; rw [e] at hlen; simp at hlen; exact h (List.eq_nil_of_length_eq_zero (by omega))
    · intro e; rw [e] at hlen; simp at hlen; omega
/-- What is read as bytes is what is told of them. -/
theorem hex_unhex (l r : List UInt8) (h : unhexT l = some r) : hexT r = l := by
  unfold unhexT at h
  split at h
  · rename_i e; subst e; cases h; rfl
  · rename_i e
    split at h
    · cases h
    · rename_i e2
      have hb := hex_pairs l.length l (Nat.le_refl _) r h
      unfold hexT
      rw [if_neg, hb]
      intro e3
      subst e3
      exact e2 hb.symm
end Go.Proofs.YtldgehlbicoedaaGreatDoor.Eng

/- Texts cut at a byte, in plain Lean: no program in sight. -/
namespace Go.Proofs.YtldgehlbicoedaaGreatDoor.Eng
open Go

/-- A text at each byte of a kind. -/
def cutL (c : UInt8) : List UInt8 → List (List UInt8)
  | [] => [[]]
  | b :: l => if b = c then [] :: cutL c l else match cutL c l with
    | h :: t => (b :: h) :: t
    | [] => [[b]]
theorem cutL_ne (c : UInt8) (l : List UInt8) : cutL c l ≠ [] := by
  cases l with
  | nil => simp [cutL]
  | cons b l =>
    simp only [cutL]
    split
    · simp
    · split <;> simp
theorem index_cons (c b : UInt8) (l : List UInt8) : Lib.index (b :: l) [c] = if b = c then 0 else if Lib.index l [c] = -1 then -1 else Lib.index l [c] + 1 := by
  rw [Lib.index]
  by_cases h : b = c
  · subst h; simp [List.isPrefixOf]
  · have : ¬ c = b := fun e => h e.symm
    simp [List.isPrefixOf, h, this]
theorem cutL_miss (c : UInt8) : ∀ l, Lib.index l [c] = -1 → cutL c l = [l]
  | [], _ => rfl
  | b :: l, h => by
    rw [index_cons] at h
    by_cases hb : b = c
    · rw [if_pos hb] at h; omega
    · rw [if_neg hb] at h
      by_cases hi : Lib.index l [c] = -1
      · simp only [cutL, if_neg hb, cutL_miss c l hi]
      · rw [if_neg hi] at h
        have := Lib.index_ge l [c]
        omega
theorem cutL_hit (c : UInt8) : ∀ (l : List UInt8) (i : Nat), Lib.index l [c] = i → cutL c l = l.take i :: cutL c (l.drop (i + 1))
  | [], i, h => by simp [Lib.index] at h
  | b :: l, i, h => by
    rw [index_cons] at h
    by_cases hb : b = c
    · rw [if_pos hb] at h
      have : i = 0 := by omega
      subst this
      simp [cutL, if_pos hb]
    · rw [if_neg hb] at h
      by_cases hi : Lib.index l [c] = -1
      · rw [if_pos hi] at h; omega
      · rw [if_neg hi] at h
        have hg := Lib.index_ge l [c]
        obtain ⟨j, rfl⟩ : ∃ j, i = j + 1 := ⟨i - 1, by omega⟩
        have := cutL_hit c l j (by omega)
        simp only [cutL, if_neg hb, this]
        simp
theorem index_cases (c : UInt8) (l : List UInt8) : Lib.index l [c] = -1 ∨ ∃ i : Nat, Lib.index l [c] = i ∧ i < l.length := by
  have hg := Lib.index_ge l [c]
  by_cases h : Lib.index l [c] = -1
  · exact .inl h
  · right
    have := Lib.index_room l [c] (by omega)
    refine ⟨(Lib.index l [c]).toNat, by omega, ?_⟩
    simp at this
    omega
theorem cut_miss (c : UInt8) (l : List UInt8) (h : Lib.index l [c] = -1) : Lib.cut l [c] = (l, [], false) := by
  unfold Lib.cut
  rw [if_neg (by omega)]
theorem cut_hit (c : UInt8) (l : List UInt8) (i : Nat) (h : Lib.index l [c] = i) : Lib.cut l [c] = (l.take i, l.drop (i + 1), true) := by
  unfold Lib.cut
  rw [if_pos (by omega), h]
  simp
theorem splitK_cutL (c : UInt8) (n : Nat) : ∀ l : List UInt8, l.length ≤ n → Lib.splitK [c] 0 (Lib.count l [c]) l = cutL c l := by
  induction n with
  | zero =>
    intro l hl
    have : l = [] := List.eq_nil_of_length_eq_zero (by omega)
    subst this
    simp [cutL, Lib.count_one, Lib.splitK]
  | succ n ih =>
    intro l hl
    rcases index_cases c l with h | ⟨i, h, hi⟩
    · rw [Lib.count_miss h, cutL_miss c l h]
      simp [Lib.splitK]
    · rw [Lib.count_hit (by simp) h, cutL_hit c l i h, Nat.add_comm]
      have := ih (l.drop (i + 1)) (by rw [List.length_drop]; omega)
      simp only [Lib.splitK, h]
      rw [if_neg (by simp)]
      simp only [Int.toNat_natCast, Nat.add_zero, List.length_singleton, this]
theorem split_cutL (c : UInt8) (s : ByteArray) : (Lib.splitB ⟨#[c]⟩ 0 (Lib.countB s ⟨#[c]⟩) s).map (·.data.toList) = cutL c s.data.toList := by
  rw [Lib.splitB_data]
  exact splitK_cutL c s.data.toList.length s.data.toList (Nat.le_refl _)
theorem cutL_length (c : UInt8) (s : ByteArray) : (cutL c s.data.toList).length = Lib.countB s ⟨#[c]⟩ + 1 := by
  rw [← split_cutL, List.length_map]
  exact Lib.splitB_all ⟨#[c]⟩ (show 1 ≤ 1 from Nat.le_refl 1) 0 _ s rfl
theorem cutL_le (c : UInt8) : ∀ l : List UInt8, (cutL c l).length ≤ l.length + 1
  | [] => by simp [cutL]
  | b :: l => by
    have := cutL_le c l
    simp only [cutL]
    split
    · simp; omega
    · split
      · rename_i h t e; rw [e] at this; simp at *; omega
      · simp
/-- What stands ahead of the first byte of the kind does not hold it. -/
theorem cutL_app (c : UInt8) (a r : List UInt8) (h : c ∉ a) : cutL c (a ++ c :: r) = a :: cutL c r := by
  induction a with
  | nil => simp [cutL]
  | cons b a ih =>
    have hb : ¬ b = c := fun e => h (by simp [e])
    simp only [List.cons_append, cutL, if_neg hb, ih (fun e => h (by simp [e]))]
theorem cutL_last (c : UInt8) (a : List UInt8) (h : c ∉ a) : cutL c a = [a] := by
  induction a with
  | nil => rfl
  | cons b a ih =>
    have hb : ¬ b = c := fun e => h (by simp [e])
    simp only [cutL, if_neg hb, ih (fun e => h (by simp [e]))]
end Go.Proofs.YtldgehlbicoedaaGreatDoor.Eng

/- Decimal numbers, in plain Lean: no program in sight. -/
namespace Go.Proofs.YtldgehlbicoedaaGreatDoor.Eng
open Go

def isD (b : UInt8) : Prop := 48 ≤ b.toNat ∧ b.toNat ≤ 57
def step (n : Nat) (b : UInt8) : Nat := 10 * n + (b.toNat - 48)
def nval (n : Nat) (l : List UInt8) : Nat := l.foldl step n
theorem nval_nil (n : Nat) : nval n [] = n := rfl
theorem nval_cons (n : Nat) (b : UInt8) (r : List UInt8) : nval n (b :: r) = nval (step n b) r := by unfold nval; rw [List.foldl_cons]
theorem nval_one (n : Nat) (b : UInt8) : nval n [b] = step n b := rfl
/-- A number's digits, and nothing else. -/
def Numeral (l : List UInt8) : Prop := l ≠ [] ∧ (∀ b ∈ l, isD b) ∧ (1 < l.length → l.head? ≠ some 48)
def maxI : Nat := 9223372036854775807
theorem nval_append (a b : List UInt8) (n : Nat) : nval n (a ++ b) = nval (nval n a) b := List.foldl_append
theorem nval_ge (l : List UInt8) : ∀ n, n ≤ nval n l := by
  induction l with
  | nil => intro n; exact Nat.le_refl _
  | cons b l ih => intro n; rw [nval_cons]; exact Nat.le_trans (by unfold step; omega) (ih _)
theorem dig_u8 (d : Nat) (h : d < 10) : (UInt8.ofNat (48 + d)).toNat = 48 + d := by simp; omega
theorem u8_dig (b : UInt8) (h : isD b) : UInt8.ofNat (48 + (b.toNat - 48)) = b := by
  unfold isD at h
  rw [show 48 + (b.toNat - 48) = b.toNat by omega]
  simp
theorem nval_dec (u : Nat) : nval 0 (Lib.decDigits u) = u := by
  induction u using Nat.strongRecOn with
  | _ u ih =>
    rw [Lib.decDigits]
    split
    · rename_i h
      rw [nval_one, step, dig_u8 u h]
      omega
    · rename_i h
      rw [nval_append, ih (u / 10) (by omega)]
      rw [nval_one, step, dig_u8 (u % 10) (by omega)]
      omega
theorem dec_ne (u : Nat) : Lib.decDigits u ≠ [] := by
  rw [Lib.decDigits]
  split <;> simp
theorem dec_digits (u : Nat) : ∀ b ∈ Lib.decDigits u, isD b := by
  induction u using Nat.strongRecOn with
  | _ u ih =>
    rw [Lib.decDigits]
    split
    · rename_i h
      intro b hb
      simp only [List.mem_singleton] at hb
      subst hb
      unfold isD
      rw [dig_u8 u h]
      omega
    · rename_i h
      intro b hb
      rcases List.mem_append.1 hb with hb | hb
      · exact ih (u / 10) (by omega) b hb
      · simp only [List.mem_singleton] at hb
        subst hb
        unfold isD
        rw [dig_u8 (u % 10) (by omega)]
        omega
theorem dec_head (u : Nat) : u ≠ 0 → (Lib.decDigits u).head? ≠ some 48 := by
  induction u using Nat.strongRecOn with
  | _ u ih =>
    intro h0
    rw [Lib.decDigits]
    split
    · rename_i h
      intro e
      simp only [List.head?_cons, Option.some.injEq] at e
      have := congrArg UInt8.toNat e
      rw [dig_u8 u h] at this
      simp at this
      omega
    · rename_i h
      have hne := dec_ne (u / 10)
      have := ih (u / 10) (by omega) (by omega)
      cases hd : Lib.decDigits (u / 10) with
      | nil => exact absurd hd hne
      | cons x xs => rw [hd] at this; simpa using this
theorem dec_numeral (u : Nat) : Numeral (Lib.decDigits u) := by
  refine ⟨dec_ne u, dec_digits u, fun h => ?_⟩
  by_cases h0 : u = 0
  · subst h0
    rw [Lib.decDigits] at h
    simp at h
  · exact dec_head u h0
theorem numeral_dec (n : Nat) : ∀ l : List UInt8, l.length ≤ n → Numeral l → Lib.decDigits (nval 0 l) = l := by
  induction n with
  | zero => intro l hl h; exact absurd (List.eq_nil_of_length_eq_zero (by omega)) h.1
  | succ n ih =>
    intro l hl h
    obtain ⟨l', b, rfl⟩ : ∃ l' b, l = l' ++ [b] := ⟨l.dropLast, l.getLast h.1, (List.dropLast_concat_getLast h.1).symm⟩
    have hb : isD b := h.2.1 b (by simp)
    have hb' := hb
    unfold isD at hb'
    rw [nval_append, nval_one, step]
    cases hl' : l' with
    | nil =>
      rw [nval_nil]
      rw [Lib.decDigits_one (show 10 * 0 + (b.toNat - 48) < 10 by omega), show 48 + (10 * 0 + (b.toNat - 48)) = 48 + (b.toNat - 48) by omega, u8_dig b hb]
      rfl
    | cons x t =>
      rw [← hl']
      have hx : l'.head? ≠ some 48 := by
        have := h.2.2 (by rw [hl']; simp)
        rw [hl'] at this ⊢
        simpa using this
      have hxd : isD x := h.2.1 x (by rw [hl']; simp)
      have hm : 1 ≤ nval 0 l' := by
        rw [hl'] at hx ⊢
        rw [nval_cons]
        refine Nat.le_trans ?_ (nval_ge t _)
        unfold step
        have hx48 : x.toNat ≠ 48 := by
          intro e
          apply hx
          simp only [List.head?_cons, Option.some.injEq]
          exact UInt8.toNat_inj.1 e
        unfold isD at hxd
        omega
      have hrec := ih l' (by simp at hl; omega) ⟨by rw [hl']; simp, fun c hc => h.2.1 c (by simp [hc]), fun _ => hx⟩
      rw [Lib.decDigits, dif_neg (by omega), show (10 * nval 0 l' + (b.toNat - 48)) / 10 = nval 0 l' by omega, hrec, show (10 * nval 0 l' + (b.toNat - 48)) % 10 = b.toNat - 48 by omega, u8_dig b hb]
theorem dec_length (k : Nat) : ∀ u, u < 10 ^ (k + 1) → (Lib.decDigits u).length ≤ k + 1 := by
  induction k with
  | zero => intro u h; rw [Lib.decDigits_one (by simpa using h)]; simp
  | succ k ih =>
    intro u h
    rw [Lib.decDigits]
    split
    · simp
    · have := ih (u / 10) (by rw [Nat.pow_succ] at h; omega)
      simp
      omega
theorem parse_digits (l : List UInt8) : ∀ acc, (∀ b ∈ l, isD b) → nval acc l < 18446744073709551616 → Lib.parseUint10 acc l = .ok (nval acc l) := by
  induction l with
  | nil => intro acc _ _; rfl
  | cons b l ih =>
    intro acc hd hv
    have hb := hd b (by simp)
    unfold isD at hb
    rw [nval_cons] at hv ⊢
    have hge := Nat.lt_of_le_of_lt (nval_ge l (step acc b)) hv
    have hrec := ih (step acc b) (fun c hc => hd c (by simp [hc])) hv
    unfold step at hge
    rw [Lib.parseUint10, if_pos hb, if_neg (by omega), if_neg (by omega), show acc * 10 + (b.toNat - 48) = step acc b by unfold step; omega]
    exact hrec
theorem atoi_dec (u : Nat) (h : u ≤ maxI) : Lib.atoiAll (Lib.decDigits u) = .ok (u : Int) := by
  unfold maxI at h
  have hd := dec_digits u
  have hv := nval_dec u
  cases hl : Lib.decDigits u with
  | nil => exact absurd hl (dec_ne u)
  | cons c r =>
    have hc : isD c := hd c (by rw [hl]; simp)
    unfold isD at hc
    have hp : Lib.parseMag (c :: r) = .ok u := by
      unfold Lib.parseMag
      rw [if_neg (by simp), ← hl, parse_digits _ 0 hd (by rw [hv]; omega), hv]
    simp only [Lib.atoiAll]
    rw [if_neg (by omega), hp]
    simp only []
    rw [if_neg (by omega), if_neg (by omega), if_neg (by omega)]

open Classical in
/-- The number that is told so, up to any one. -/
noncomputable def parseT (l : List UInt8) (most : Int) : Option Nat := if Numeral l ∧ nval 0 l ≤ maxI ∧ (nval 0 l : Int) ≤ most then some (nval 0 l) else none
theorem parseT_some (l : List UInt8) (most : Int) (u : Nat) (hu : u ≤ maxI) (hm : (u : Int) ≤ most) (h : Lib.decDigits u = l) : parseT l most = some u := by
  subst h
  unfold parseT
  rw [nval_dec, if_pos ⟨dec_numeral u, hu, hm⟩]
theorem parseT_none (l : List UInt8) (most : Int) (h : ∀ u : Nat, u ≤ maxI → (u : Int) ≤ most → Lib.decDigits u ≠ l) : parseT l most = none := by
  unfold parseT
  rw [if_neg]
  rintro ⟨h1, h2, h3⟩
  exact h _ h2 h3 (numeral_dec l.length l (Nat.le_refl _) h1)
end Go.Proofs.YtldgehlbicoedaaGreatDoor.Eng
