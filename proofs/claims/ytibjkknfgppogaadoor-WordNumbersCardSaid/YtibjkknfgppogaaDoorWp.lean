/- Decimal numbers, in plain Lean: no program in sight. -/
import Derived.Lib.ItoaNum
import Derived.Lib.AtoiAll
import Derived.Lib.ItoaMem
import Derived.Lib.Join
namespace Go.Proofs.YtibjkknfgppogaaDoor.Eng
open Go

def isD (b : UInt8) : Prop := 48 ≤ b.toNat ∧ b.toNat ≤ 57
def step (n : Nat) (b : UInt8) : Nat := 10 * n + (b.toNat - 48)
def nval (n : Nat) (l : List UInt8) : Nat := l.foldl step n
theorem nval_nil (n : Nat) : nval n [] = n := rfl
theorem nval_cons (n : Nat) (b : UInt8) (r : List UInt8) : nval n (b :: r) = nval (step n b) r := by unfold nval; rw [List.foldl_cons]
theorem nval_one (n : Nat) (b : UInt8) : nval n [b] = step n b := rfl
/-- A number's digits, and nothing else. -/
def Numeral (l : List UInt8) : Prop := l ≠ [] ∧ (∀ b ∈ l, isD b) ∧ (1 < l.length → l.head? ≠ some 48)
def maxI : Nat := 9223372036854775807
theorem nval_append (a b : List UInt8) (n : Nat) : nval n (a ++ b) = nval (nval n a) b := List.foldl_append
theorem nval_ge (l : List UInt8) : ∀ n, n ≤ nval n l := by
  induction l with
  | nil => intro n; exact Nat.le_refl _
  | cons b l ih => intro n; rw [nval_cons]; exact Nat.le_trans (by unfold step; omega) (ih _)
theorem dig_u8 (d : Nat) (h : d < 10) : (UInt8.ofNat (48 + d)).toNat = 48 + d := by simp; omega
theorem u8_dig (b : UInt8) (h : isD b) : UInt8.ofNat (48 + (b.toNat - 48)) = b := by
  unfold isD at h
  rw [show 48 + (b.toNat - 48) = b.toNat by omega]
  simp
theorem nval_dec (u : Nat) : nval 0 (Lib.decDigits u) = u := by
  induction u using Nat.strongRecOn with
  | _ u ih =>
    rw [Lib.decDigits]
    split
    · rename_i h
      rw [nval_one, step, dig_u8 u h]
      omega
    · rename_i h
      rw [nval_append, ih (u / 10) (by omega)]
      rw [nval_one, step, dig_u8 (u % 10) (by omega)]
      omega
theorem dec_ne (u : Nat) : Lib.decDigits u ≠ [] := by
  rw [Lib.decDigits]
  split <;> simp
theorem dec_digits (u : Nat) : ∀ b ∈ Lib.decDigits u, isD b := by
  induction u using Nat.strongRecOn with
  | _ u ih =>
    rw [Lib.decDigits]
    split
    · rename_i h
      intro b hb
      simp only [List.mem_singleton] at hb
      subst hb
      unfold isD
      rw [dig_u8 u h]
      omega
    · rename_i h
      intro b hb
      rcases List.mem_append.1 hb with hb | hb
      · exact ih (u / 10) (by omega) b hb
      · simp only [List.mem_singleton] at hb
        subst hb
        unfold isD
        rw [dig_u8 (u % 10) (by omega)]
        omega
theorem dec_head (u : Nat) : u ≠ 0 → (Lib.decDigits u).head? ≠ some 48 := by
  induction u using Nat.strongRecOn with
  | _ u ih =>
    intro h0
    rw [Lib.decDigits]
    split
    · rename_i h
      intro e
      simp only [List.head?_cons, Option.some.injEq] at e
      have := congrArg UInt8.toNat e
      rw [dig_u8 u h] at this
      simp at this
      omega
    · rename_i h
      have hne := dec_ne (u / 10)
      have := ih (u / 10) (by omega) (by omega)
      cases hd : Lib.decDigits (u / 10) with
      | nil => exact absurd hd hne
      | cons x xs => rw [hd] at this; simpa using this
theorem dec_numeral (u : Nat) : Numeral (Lib.decDigits u) := by
  refine ⟨dec_ne u, dec_digits u, fun h => ?_⟩
  by_cases h0 : u = 0
  · subst h0
    rw [Lib.decDigits] at h
    simp at h
  · exact dec_head u h0
theorem numeral_dec (n : Nat) : ∀ l : List UInt8, l.length ≤ n → Numeral l → Lib.decDigits (nval 0 l) = l := by
  induction n with
  | zero => intro l hl h; exact absurd (List.eq_nil_of_length_eq_zero (by omega)) h.1
  | succ n ih =>
    intro l hl h
    obtain ⟨l', b, rfl⟩ : ∃ l' b, l = l' ++ [b] := ⟨l.dropLast, l.getLast h.1, (List.dropLast_concat_getLast h.1).symm⟩
    have hb : isD b := h.2.1 b (by simp)
    have hb' := hb
    unfold isD at hb'
    rw [nval_append, nval_one, step]
    cases hl' : l' with
    | nil =>
      rw [nval_nil]
      rw [Lib.decDigits_one (show 10 * 0 + (b.toNat - 48) < 10 by omega), show 48 + (10 * 0 + (b.toNat - 48)) = 48 + (b.toNat - 48) by omega, u8_dig b hb]
      rfl
    | cons x t =>
      rw [← hl']
      have hx : l'.head? ≠ some 48 := by
        have := h.2.2 (by rw [hl']; simp)
        rw [hl'] at this ⊢
        simpa using this
      have hxd : isD x := h.2.1 x (by rw [hl']; simp)
      have hm : 1 ≤ nval 0 l' := by
        rw [hl'] at hx ⊢
        rw [nval_cons]
        refine Nat.le_trans ?_ (nval_ge t _)
        unfold step
        have hx48 : x.toNat ≠ 48 := by
          intro e
          apply hx
          simp only [List.head?_cons, Option.some.injEq]
          exact UInt8.toNat_inj.1 e
        unfold isD at hxd
        omega
      have hrec := ih l' (by simp at hl; omega) ⟨by rw [hl']; simp, fun c hc => h.2.1 c (by simp [hc]), fun _ => hx⟩
      rw [Lib.decDigits, dif_neg (by omega), show (10 * nval 0 l' + (b.toNat - 48)) / 10 = nval 0 l' by omega, hrec, show (10 * nval 0 l' + (b.toNat - 48)) % 10 = b.toNat - 48 by omega, u8_dig b hb]
theorem dec_length (k : Nat) : ∀ u, u < 10 ^ (k + 1) → (Lib.decDigits u).length ≤ k + 1 := by
  induction k with
  | zero => intro u h; rw [Lib.decDigits_one (by simpa using h)]; simp
  | succ k ih =>
    intro u h
    rw [Lib.decDigits]
    split
    · simp
    · have := ih (u / 10) (by rw [Nat.pow_succ] at h; omega)
      simp
      omega
theorem parse_digits (l : List UInt8) : ∀ acc, (∀ b ∈ l, isD b) → nval acc l < 18446744073709551616 → Lib.parseUint10 acc l = .ok (nval acc l) := by
  induction l with
  | nil => intro acc _ _; rfl
  | cons b l ih =>
    intro acc hd hv
    have hb := hd b (by simp)
    unfold isD at hb
    rw [nval_cons] at hv ⊢
    have hge := Nat.lt_of_le_of_lt (nval_ge l (step acc b)) hv
    have hrec := ih (step acc b) (fun c hc => hd c (by simp [hc])) hv
    unfold step at hge
    rw [Lib.parseUint10, if_pos hb, if_neg (by omega), if_neg (by omega), show acc * 10 + (b.toNat - 48) = step acc b by unfold step; omega]
    exact hrec
theorem atoi_dec (u : Nat) (h : u ≤ maxI) : Lib.atoiAll (Lib.decDigits u) = .ok (u : Int) := by
  unfold maxI at h
  have hd := dec_digits u
  have hv := nval_dec u
  cases hl : Lib.decDigits u with
  | nil => exact absurd hl (dec_ne u)
  | cons c r =>
    have hc : isD c := hd c (by rw [hl]; simp)
    unfold isD at hc
    have hp : Lib.parseMag (c :: r) = .ok u := by
      unfold Lib.parseMag
      rw [if_neg (by simp), ← hl, parse_digits _ 0 hd (by rw [hv]; omega), hv]
    simp only [Lib.atoiAll]
    rw [if_neg (by omega), hp]
    simp only []
    rw [if_neg (by omega), if_neg (by omega), if_neg (by omega)]

open Classical in
/-- The number that is told so, up to any one. -/
noncomputable def parseT (l : List UInt8) (most : Int) : Option Nat := if Numeral l ∧ nval 0 l ≤ maxI ∧ (nval 0 l : Int) ≤ most then some (nval 0 l) else none
theorem parseT_some (l : List UInt8) (most : Int) (u : Nat) (hu : u ≤ maxI) (hm : (u : Int) ≤ most) (h : Lib.decDigits u = l) : parseT l most = some u := by
  subst h
  unfold parseT
  rw [nval_dec, if_pos ⟨dec_numeral u, hu, hm⟩]
theorem parseT_none (l : List UInt8) (most : Int) (h : ∀ u : Nat, u ≤ maxI → (u : Int) ≤ most → Lib.decDigits u ≠ l) : parseT l most = none := by
  unfold parseT
  rw [if_neg]
  rintro ⟨h1, h2, h3⟩
  exact h _ h2 h3 (numeral_dec l.length l (Nat.le_refl _) h1)
end Go.Proofs.YtibjkknfgppogaaDoor.Eng
