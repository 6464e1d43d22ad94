/- Words of texts, in plain Lean: no program in sight. -/
import Derived.Below
namespace Go.Proofs.YtibjkknfgppogaaDoor.Eng

/-- The sixteen digits. -/
def digs : List UInt8 := [48, 49, 50, 51, 52, 53, 54, 55, 56, 57, 97, 98, 99, 100, 101, 102]
def hx (n : Nat) : UInt8 := digs.getD n 0
def hexBody : List UInt8 → List UInt8
  | [] => []
  | b :: l => hx (b.toNat / 16) :: hx (b.toNat % 16) :: hexBody l
/-- Bytes, told. -/
def hexT (l : List UInt8) : List UInt8 := if l = [] then [45] else hexBody l
/-- A hex digit's number. -/
def dig (b : UInt8) : Option Nat :=
  if 48 ≤ b.toNat ∧ b.toNat ≤ 57 then some (b.toNat - 48) else if 97 ≤ b.toNat ∧ b.toNat ≤ 102 then some (b.toNat - 87) else none
def pairs : List UInt8 → Option (List UInt8)
  | [] => some []
  | [_] => none
  | a :: b :: l => match dig a, dig b, pairs l with
    | some x, some y, some r => some (UInt8.ofNat (16 * x + y) :: r)
    | _, _, _ => none
/-- The bytes that are told so. -/
def unhexT (l : List UInt8) : Option (List UInt8) := if l = [45] then some [] else if l = [] then none else pairs l

theorem all_u8 {p : UInt8 → Prop} (h : ∀ n : Fin 256, p (UInt8.ofNat n.val)) (b : UInt8) : p b := by
  have := h ⟨b.toNat, b.toNat_lt⟩
  simpa using this
theorem dig_lt : ∀ b n, dig b = some n → n < 16 := by
  intro b n h
  unfold dig at h
  split at h
  · cases h; omega
  · split at h
    · cases h; omega
    · cases h
theorem dig_hx_all : ∀ n : Fin 16, dig (hx n.val) = some n.val := by decide
theorem dig_hx (n : Nat) (h : n < 16) : dig (hx n) = some n := dig_hx_all ⟨n, h⟩
theorem hx_dig_all : ∀ n : Fin 256, ∀ k : Fin 16, dig (UInt8.ofNat n.val) = some k.val → hx k.val = UInt8.ofNat n.val := by decide +kernel
theorem hx_dig (b : UInt8) (n : Nat) (h : dig b = some n) : hx n = b :=
  all_u8 (p := fun b => ∀ n, dig b = some n → hx n = b) (fun k n h => hx_dig_all k ⟨n, dig_lt _ n h⟩ h) b n h
theorem hexBody_append (a b : List UInt8) : hexBody (a ++ b) = hexBody a ++ hexBody b := by
  induction a with
  | nil => rfl
  | cons x a ih => simp [hexBody, ih]
theorem hexBody_length (l : List UInt8) : (hexBody l).length = 2 * l.length := by
  induction l with
  | nil => rfl
  | cons b l ih => simp [hexBody, ih]; omega
theorem pairs_hex (l : List UInt8) : pairs (hexBody l) = some l := by
  induction l with
  | nil => rfl
  | cons b l ih =>
    have hb := b.toNat_lt
    simp only [hexBody, pairs, dig_hx _ (show b.toNat / 16 < 16 by omega), dig_hx _ (show b.toNat % 16 < 16 by omega), ih]
    rw [Nat.div_add_mod b.toNat 16]
    simp
theorem hex_pairs (n : Nat) : ∀ (l : List UInt8), l.length ≤ n → ∀ r, pairs l = some r → hexBody r = l := by
  induction n with
  | zero =>
    intro l hl r h
    cases l with
    | nil => simp [pairs] at h; subst h; rfl
    | cons a l => simp at hl
  | succ n ih =>
    intro l hl r h
    match l, hl, h with
    | [], _, h => simp [pairs] at h; subst h; rfl
    | [_], _, h => simp [pairs] at h
    | a :: b :: l, hl, h =>
      simp only [pairs] at h
      split at h
      · rename_i x y r' hx' hy hr
        cases h
        have h1 := dig_lt _ _ hx'
        have h2 := dig_lt _ _ hy
        have hval : (UInt8.ofNat (16 * x + y)).toNat = 16 * x + y := by simp; omega
        simp only [hexBody, hval]
        rw [show (16 * x + y) / 16 = x by omega, show (16 * x + y) % 16 = y by omega, hx_dig _ _ hx', hx_dig _ _ hy, ih l (by simp at hl; omega) _ hr]
      · cases h
/-- What is told of bytes is read as they were. -/
theorem unhex_hex (l : List UInt8) : unhexT (hexT l) = some l := by
  unfold hexT
  split
  · rename_i h; subst h; rfl
  · rename_i h
    have hlen := hexBody_length l
    unfold unhexT
    rw [if_neg, if_neg, pairs_hex]
    · intro e; rw [e] at hlen; simp at hlen; exact h (List.eq_nil_of_length_eq_zero (by omega))
    · intro e; rw [e] at hlen; simp at hlen; omega
/-- What is read as bytes is what is told of them. -/
theorem hex_unhex (l r : List UInt8) (h : unhexT l = some r) : hexT r = l := by
  unfold unhexT at h
  split at h
  · rename_i e; subst e; cases h; rfl
  · rename_i e
    split at h
    · cases h
    · rename_i e2
      have hb := hex_pairs l.length l (Nat.le_refl _) r h
      unfold hexT
      rw [if_neg, hb]
      intro e3
      subst e3
      exact e2 hb.symm
end Go.Proofs.YtibjkknfgppogaaDoor.Eng
