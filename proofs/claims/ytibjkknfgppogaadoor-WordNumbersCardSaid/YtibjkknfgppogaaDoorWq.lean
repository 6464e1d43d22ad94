/- word's Parse, the reference's Parse and Number, and the law WordNumbers, walked by the engine. -/
import Derived.Test.YtibjkknfgppogaaDoorWd
import Derived.Test.YtibjkknfgppogaaDoorWp
set_option linter.unusedVariables false
set_option linter.unusedSimpArgs false
namespace Go.Proofs.YtibjkknfgppogaaDoor.Eng
open Go Go.RowKit

theorem run_one_byte (b : UInt8) (w : World) : (convert tBytes tStr (.slice (some (nb w)) 1 1)).run Tryd.prog (w.alloc (.cells #[.int .u8 b.toNat] tU8)) = .ok (.string (str [b])) (w.alloc (.cells #[.int .u8 b.toNat] tU8)) :=
  run_convert_bytes_back (P := Tryd.prog) (w.alloc (.cells #[.int .u8 b.toNat] tU8)) tBytes tStr tU8 (nb w) 1 [b] undBytes undU8 undStr (by
      intro j hj
      rw [add_lit, Nat.zero_add, cell_new]
      match j, hj with
      | 0, _ => rfl)
theorem digit_u8 (m : Nat) (h : m < 10) : IntKind.wrap .u8 ((48 : Int) + (m : Int)) = ((UInt8.ofNat (48 + m)).toNat : Int) := by
  rw [wrap_in (k := .u8) (by simp [IntKind.min, IntKind.signed]; omega) (by simp [IntKind.max, IntKind.signed, IntKind.bits]; omega), dig_u8 m h]
  omega
theorem dec_big (m : Nat) (h : 10 ≤ m) : Lib.decDigits m = Lib.decDigits (m / 10) ++ [UInt8.ofNat (48 + m % 10)] := by
  rw [Lib.decDigits, dif_neg (by omega)]

theorem refNumber_spec (n : Int) (w : World) (hn : I64 n) :
    Calls Tryd.prog 18 #[.int .i64 n] w fun e w' => e = .returned (.string (str (Lib.itoa n))) ∧ Below w.heap.size w w' := by
  refine calls_ret (vc18_calls n w (fun v w' => v = .string (str (Lib.itoa n)) ∧ Below w.heap.size w w') ?_) (by rintro v w' ⟨rfl, h⟩; exact ⟨rfl, h⟩)
  have hlen := itoa_length n hn
  refine CondP.mk ?_ ?_
  · intro h
    have h := of_decide_eq_true h
    obtain ⟨u, rfl⟩ : ∃ u : Nat, n = u := ⟨n.toNat, by omega⟩
    rw [Lib.itoa_nonneg] at hlen ⊢
    intro I hI
    have hu : u < 9223372036854775808 := by have := hn.2; omega
    have key : ∀ (k : Nat) (m : Nat), m ≤ k → m < 9223372036854775808 → ∀ (s : List UInt8) (w1 : World), Below w.heap.size w w1 → ((s = [] ∧ m = u) ∨ (s ≠ [] ∧ 0 < m ∧ Lib.decDigits u = Lib.decDigits m ++ s) ∨ (s ≠ [] ∧ m = 0 ∧ Lib.decDigits u = s)) → I [.string (str s), .int .i64 (m : Int)] w1 := by
      intro k
      induction k using Nat.strongRecOn with
      | _ k ih =>
        intro m hmk hm63 s w1 hB hs
        have hslen : s.length ≤ 21 := by
          rcases hs with ⟨h, _⟩ | ⟨_, _, h⟩ | ⟨_, _, h⟩
          · rw [h]; simp
          · rw [h] at hlen; simp at hlen; omega
          · rw [h] at hlen; omega
        have hmod : Int.tmod (m : Int) 10 = ((m % 10 : Nat) : Int) := rfl
        have hdiv : Int.tdiv (m : Int) 10 = ((m / 10 : Nat) : Int) := rfl
        have next : (0 < m ∨ s = []) → ∀ w2, w2 = w1.alloc (.cells #[Value.int .u8 (IntKind.wrap .u8 ((48 : Int) + ((m % 10 : Nat) : Int)))] tU8) →
            ∃ s_4 : ByteArray, ∃ w3 : World, (convert tBytes tStr (Value.slice (some (nb w1)) 1 1)).run Tryd.prog w2 = .ok (Value.string s_4) w3 ∧
            (((s_4 : ByteArray).size + (str s : ByteArray).size : Nat) : Int) ≤ IntKind.i64.max ∧ (10 : Int) ≠ 0 ∧
            I [Value.string ((s_4 : ByteArray) ++ (str s : ByteArray)), Value.int .i64 (IntKind.wrap .i64 ((m / 10 : Nat) : Int))] w3 := by
          rintro hgo w2 rfl
          rw [digit_u8 _ (by omega)]
          refine ⟨_, _, run_one_byte _ _, ?_, by decide, ?_⟩
          · rw [str_size, str_size]
            simp [IntKind.max, IntKind.signed, IntKind.bits]
            omega
          · rw [wrap_in (k := .i64) (by simp [IntKind.min, IntKind.signed, IntKind.bits]; omega) (by simp [IntKind.max, IntKind.signed, IntKind.bits]; omega), str_append]
            by_cases h10 : m < 10
            · have hm0 : m / 10 = 0 := by omega
              have hend : ∀ w2, Below w.heap.size w w2 → I [.string (str ([UInt8.ofNat (48 + m % 10)] ++ s)), .int .i64 ((0 : Nat) : Int)] w2 := by
                intro w2 hB2
                refine hI _ _ _ (CondP.no (by simp) (CondP.no ?_ ⟨?_, hB2⟩))
                · rw [beq_nil]; simp
                · rw [show m % 10 = m by omega, ← Lib.decDigits_one h10]
                  rcases hs with ⟨h, hmu⟩ | ⟨_, _, h⟩ | ⟨h, h0, _⟩
                  · rw [h, ← hmu]; simp
                  · rw [h]
                  · rcases hgo with h1 | h1
                    · omega
                    · exact absurd h1 h
              rw [hm0]
              exact hend _ (hB.alloc hB.size _)
            · refine ih (m / 10) (by omega) (m / 10) (Nat.le_refl _) (by omega) _ _ (hB.alloc hB.size _) (.inr (.inl ⟨by simp, by omega, ?_⟩))
              have hd := dec_big m (by omega)
              rcases hs with ⟨h, hmu⟩ | ⟨_, _, h⟩ | ⟨_, h0, _⟩
              · rw [h, ← hmu, hd]; simp
              · rw [h, hd]; simp
              · omega
        refine hI _ _ _ (CondP.mk ?_ ?_)
        · intro hpos
          have hpos := of_decide_eq_true hpos
          rw [hmod, hdiv]
          exact ⟨by decide, Ar.ok64 (by omega) (by omega) (next (.inl (by omega)))⟩
        · intro hpos
          have hpos := of_decide_eq_false hpos
          refine CondP.mk ?_ ?_
          · intro hs0
            rw [beq_nil] at hs0
            rw [hmod, hdiv]
            exact ⟨by decide, Ar.ok64 (by omega) (by omega) (next (.inr (of_decide_eq_true hs0)))⟩
          · intro hs0
            rw [beq_nil] at hs0
            have hs0 := of_decide_eq_false hs0
            refine ⟨?_, hB⟩
            rcases hs with ⟨h, _⟩ | ⟨_, h, _⟩ | ⟨_, _, h⟩
            · exact absurd h hs0
            · omega
            · rw [h]
    exact key u u (Nat.le_refl _) hu [] w (Below.refl _ _) (.inl ⟨rfl, rfl⟩)
  · intro h
    have h := of_decide_eq_false h
    obtain ⟨u, hu0, rfl⟩ : ∃ u : Nat, 1 ≤ u ∧ n = -(u : Int) := ⟨(-n).toNat, by omega, by omega⟩
    rw [Lib.itoa_neg u hu0] at hlen ⊢
    intro I hI
    have hu : u ≤ 9223372036854775808 := by have := hn.1; omega
    have key : ∀ (k : Nat) (m : Nat), m ≤ k → m ≤ 9223372036854775808 → ∀ (s : List UInt8) (w1 : World), Below w.heap.size w w1 → ((0 < m ∧ Lib.decDigits u = Lib.decDigits m ++ s) ∨ (m = 0 ∧ Lib.decDigits u = s)) → I [.string (str s), .int .i64 (-(m : Int))] w1 := by
      intro k
      induction k using Nat.strongRecOn with
      | _ k ih =>
        intro m hmk hm63 s w1 hB hs
        have hslen : s.length ≤ 21 := by
          rcases hs with ⟨_, h⟩ | ⟨_, h⟩
          · rw [h] at hlen; simp at hlen; omega
          · rw [h] at hlen; simp at hlen; omega
        have hmod : Int.tmod (-(m : Int)) 10 = -((m % 10 : Nat) : Int) := by rw [Int.neg_tmod]; rfl
        have hdiv : Int.tdiv (-(m : Int)) 10 = -((m / 10 : Nat) : Int) := by rw [Int.neg_tdiv]; rfl
        refine hI _ _ _ (CondP.mk ?_ ?_)
        · intro hpos
          have hpos := of_decide_eq_true hpos
          rw [hmod, hdiv, show (48 : Int) - -((m % 10 : Nat) : Int) = 48 + ((m % 10 : Nat) : Int) by omega]
          refine ⟨by decide, Ar.ok64 (by omega) (by omega) ?_⟩
          rw [digit_u8 _ (by omega)]
          rintro w2 rfl
          refine ⟨_, _, run_one_byte _ _, ?_, by decide, ?_⟩
          · rw [str_size, str_size]
            simp [IntKind.max, IntKind.signed, IntKind.bits]
            omega
          · rw [wrap_in (k := .i64) (by simp [IntKind.min, IntKind.signed, IntKind.bits]; omega) (by simp [IntKind.max, IntKind.signed, IntKind.bits]; omega), str_append]
            refine ih (m / 10) (by omega) (m / 10) (Nat.le_refl _) (by omega) _ _ (hB.alloc hB.size _) ?_
            rcases hs with ⟨_, h⟩ | ⟨h0, _⟩
            · by_cases h10 : m < 10
              · right
                refine ⟨by omega, ?_⟩
                rw [h, Lib.decDigits_one h10, show m % 10 = m by omega]
              · left
                refine ⟨by omega, ?_⟩
                rw [h, dec_big m (by omega)]
                simp
            · omega
        · intro hpos
          have hpos := of_decide_eq_false hpos
          refine ⟨?_, ?_, hB⟩
          · rw [show (⟨#[45]⟩ : ByteArray) = str [45] from rfl, str_size, str_size]
            simp [IntKind.max, IntKind.signed, IntKind.bits]
            omega
          · rw [show (⟨#[45]⟩ : ByteArray) = str [45] from rfl, str_append]
            rcases hs with ⟨h, _⟩ | ⟨_, h⟩
            · omega
            · rw [h]; rfl
    exact key u u (Nat.le_refl _) hu [] w (Below.refl _ _) (.inl ⟨by omega, by simp⟩)

/-- What a parse hands back. -/
def pres : Option Nat → Value
  | some u => .tuple #[.int .i64 u, .bool true]
  | none => .tuple #[.int .i64 0, .bool false]
theorem CondP.share {b c : Bool} {x y A B : Prop} (hx : b = true → x ∧ y) (hA : b = true → c = true → A) (hB : (b = true → c = false) → B) : CondP b (x ∧ y ∧ CondP c A B) B := by
  refine CondP.mk (fun hb => ⟨(hx hb).1, (hx hb).2, CondP.mk (hA hb) fun hc => hB fun _ => hc⟩) fun hb => hB fun e => ?_
  rw [hb] at e
  cases e

theorem refParse_spec (l : List UInt8) (most : Int) (w : World) (hl : l.length ≤ 1000000) :
    Calls Tryd.prog 17 #[.string (str l), .int .i64 most] w fun e w' => e = .returned (pres (parseT l most)) ∧ w' = w := by
  refine calls_ret (vc17_calls (str l) most w (fun v w' => v = pres (parseT l most) ∧ w' = w) ?_) (by rintro v w' ⟨rfl, h⟩; exact ⟨rfl, h⟩)
  have none_of : (∀ u : Nat, u ≤ maxI → (u : Int) ≤ most → Lib.decDigits u ≠ l) → Value.tuple #[.int .i64 0, .bool false] = pres (parseT l most) := fun h => by rw [parseT_none l most h]; rfl
  refine CondP.mk ?_ ?_
  · intro h
    refine ⟨none_of fun u _ _ e => ?_, rfl⟩
    have : l.length = 0 := by simpa [str_size] using h
    exact dec_ne u (by rw [e]; exact List.eq_nil_of_length_eq_zero this)
  · intro h
    have hne : l ≠ [] := by
      intro e; subst e; simp [str_size] at h
    have hpos : 0 < l.length := List.length_pos_iff.2 hne
    refine CondP.mk ?_ ?_
    · intro h
      have h := of_decide_eq_true h
      rw [str_size] at h
      refine ⟨none_of fun u hu _ e => ?_, rfl⟩
      have := dec_length 18 u (by unfold maxI at hu; omega)
      rw [e] at this
      omega
    · intro h19
      have h19 := of_decide_eq_false h19
      rw [str_size] at h19
      refine CondP.share ?_ ?_ ?_
      · intro h1
        have h1 := of_decide_eq_true h1
        exact ⟨by decide, by omega⟩
      · intro h1 h48
        have h1 := of_decide_eq_true h1
        rw [str_size] at h1
        refine ⟨none_of fun u _ _ e => ?_, rfl⟩
        have hd := (dec_numeral u).2.2 (by rw [e]; omega)
        apply hd
        rw [e, List.head?_eq_getElem?, List.getElem?_eq_getElem hpos]
        have hb := btAt_str l 0 hpos
        rw [show ((0 : Nat) : Int) = 0 from rfl] at hb
        rw [hb] at h48
        have h48 : (l[0].toNat : Int) = 48 := by simpa using h48
        congr 1
        exact UInt8.toNat_inj.1 (by show l[0].toNat = 48; omega)
      · intro hno I hI
        have hhead : 1 < l.length → l.head? ≠ some 48 := by
          intro h1 e
          have h48 := hno (decide_eq_true (by rw [str_size]; omega))
          have hb := btAt_str l 0 hpos
          rw [show ((0 : Nat) : Int) = 0 from rfl] at hb
          rw [hb] at h48
          rw [List.head?_eq_getElem?, List.getElem?_eq_getElem hpos] at e
          simp only [Option.some.injEq] at e
          rw [e] at h48
          simp at h48
        rw [str_size] at hI
        have key := climb (α := Nat × Bool × Int × World) l.length
          (fun i x => x.1 = nval 0 (l.take i) ∧ (∀ b ∈ l.take i, isD b) ∧ x.1 ≤ maxI ∧ x.2.2.2 = w)
          (fun i x => I [.int .i64 (i : Int), .int .i64 (x.1 : Int), .bool x.2.1, .int .i64 x.2.2.1] x.2.2.2) ?_ ?_ 0 (Nat.zero_le _) (0, false, 0, w)
        · exact key ⟨by rw [List.take_zero, nval_nil], by simp, by simp, rfl⟩
        · rintro ⟨n, y5, y4, w1⟩ ⟨hn, hd, hmax, hw⟩
          dsimp only at hn hmax hw
          subst hw
          rw [List.take_length] at hn hd
          refine hI _ _ _ _ _ (CondP.no (by simp) (CondP.mk ?_ ?_))
          · intro hm
            have hm := of_decide_eq_true hm
            refine ⟨none_of fun u _ hu e => ?_, rfl⟩
            rw [← e, nval_dec] at hn
            omega
          · intro hm
            have hm := of_decide_eq_false hm
            refine ⟨?_, rfl⟩
            rw [parseT_some l most n hmax (by omega) (by rw [hn]; exact numeral_dec l.length l (Nat.le_refl _) ⟨hne, hd, hhead⟩)]
            rfl
        · rintro i hi ih ⟨n, y5, y4, w1⟩ ⟨hn, hd, hmax, hw⟩
          dsimp only at hn hmax hw
          subst hw
          unfold maxI at hmax
          have bad : ¬ isD l[i] → Value.tuple #[.int .i64 0, .bool false] = pres (parseT l most) := fun hb => none_of fun u _ _ e => hb (dec_digits u _ (by rw [e]; exact List.getElem_mem hi))
          have hb8 := l[i].toNat_lt
          refine hI _ _ _ _ _ (CondP.yes (by simp; omega) ⟨by omega, by omega, ?_⟩)
          rw [btAt_str l i hi]
          refine CondP.mk ?_ ?_
          · intro h
            have h := of_decide_eq_true h
            exact ⟨bad fun hb => by unfold isD at hb; omega, rfl⟩
          · intro h48
            have h48 := of_decide_eq_false h48
            refine ⟨by omega, by omega, CondP.mk ?_ ?_⟩
            · intro h
              have h := of_decide_eq_true h
              exact ⟨bad fun hb => by unfold isD at hb; omega, rfl⟩
            · intro h57
              have h57 := of_decide_eq_false h57
              refine ⟨by omega, by omega, Ar.ok (k := .u8) (by simp [IntKind.min, IntKind.signed]; omega) (by simp [IntKind.max, IntKind.signed, IntKind.bits]; omega) ?_⟩
              rw [wrap_in (k := .i64) (z := (l[i].toNat : Int) - 48) (by simp [IntKind.min, IntKind.signed, IntKind.bits]; omega) (by simp [IntKind.max, IntKind.signed, IntKind.bits]; omega)]
              refine Ar.ok64 (by omega) (by omega) ⟨by decide, ?_⟩
              have hq : Int.tdiv ((9223372036854775807 : Int) - ((l[i].toNat : Int) - 48)) 10 = (((9223372036854775807 - (l[i].toNat - 48)) / 10 : Nat) : Int) := by
                rw [show (9223372036854775807 : Int) - ((l[i].toNat : Int) - 48) = ((9223372036854775807 - (l[i].toNat - 48) : Nat) : Int) by omega]
                rfl
              rw [hq, wrap_in (k := .i64) (by simp [IntKind.min, IntKind.signed, IntKind.bits]; omega) (by simp [IntKind.max, IntKind.signed, IntKind.bits]; omega)]
              have htake : l.take (i + 1) = l.take i ++ [l[i]] := by rw [List.take_add_one, List.getElem?_eq_getElem hi]; rfl
              have hnv : nval 0 (l.take (i + 1)) = 10 * n + (l[i].toNat - 48) := by rw [htake, nval_append, nval_one, ← hn]; rfl
              refine CondP.mk ?_ ?_
              · intro hbig
                have hbig := of_decide_eq_true hbig
                refine ⟨none_of fun u hu _ e => ?_, rfl⟩
                have hv := nval_dec u
                rw [e] at hv
                have hge : nval 0 (l.take (i + 1)) ≤ nval 0 l := by
                  conv => rhs; rw [← List.take_append_drop (i + 1) l, nval_append]
                  exact nval_ge _ _
                unfold maxI at hu
                omega
              · intro hbig
                have hbig := of_decide_eq_false hbig
                refine Ar.ok64 (by omega) (by omega) ⟨by omega, by omega, Ar.ok (k := .u8) (by simp [IntKind.min, IntKind.signed]; omega) (by simp [IntKind.max, IntKind.signed, IntKind.bits]; omega) ?_⟩
                rw [wrap_in (k := .i64) (z := (l[i].toNat : Int) - 48) (by simp [IntKind.min, IntKind.signed, IntKind.bits]; omega) (by simp [IntKind.max, IntKind.signed, IntKind.bits]; omega)]
                refine Ar.ok64 (by omega) (by omega) (Ar.ok64 (by omega) (by omega) ?_)
                rw [show (10 : Int) * n + ((l[i].toNat : Int) - 48) = ((10 * n + (l[i].toNat - 48) : Nat) : Int) by omega]
                refine ih (10 * n + (l[i].toNat - 48), y5, y4, w1) ⟨hnv.symm, ?_, by unfold maxI; omega, rfl⟩
                intro b hb
                rw [htake] at hb
                rcases List.mem_append.1 hb with hb | hb
                · exact hd b hb
                · simp only [List.mem_singleton] at hb
                  subst hb
                  unfold isD
                  omega
end Go.Proofs.YtibjkknfgppogaaDoor.Eng
