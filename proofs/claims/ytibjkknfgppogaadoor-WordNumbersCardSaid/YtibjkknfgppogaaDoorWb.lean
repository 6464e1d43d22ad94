/- word's and its reference's Hex and Unhex, walked by the engine. -/
import Derived.Test.YtibjkknfgppogaaDoorWa
import Derived.Test.YtibjkknfgppogaaDoorWm
set_option linter.unusedVariables false
set_option linter.unusedSimpArgs false
namespace Go.Proofs.YtibjkknfgppogaaDoor.Eng
open Go Go.RowKit

abbrev tStr : TypeId := 9
theorem undStr : Tryd.prog.underlying tStr = some .string := by kernel_rfl
theorem undU8 : Tryd.prog.underlying tU8 = some (.int .u8) := by kernel_rfl

theorem D_eq : (⟨#[48, 49, 50, 51, 52, 53, 54, 55, 56, 57, 97, 98, 99, 100, 101, 102]⟩ : ByteArray) = str digs := rfl
theorem btAt_D (n : Nat) (h : n < 16) : btAt (str digs) (n : Int) = ((hx n).toNat : Int) := by
  rw [btAt_str digs n (by simpa [digs] using h)]
  simp [hx, List.getD, List.getElem?_eq_getElem (show n < digs.length by simpa [digs] using h)]
theorem fdiv16 (b : UInt8) : Int.fdiv (b.toNat : Int) (2 ^ (min (4 : Int).toNat (IntKind.bits .u8))) = ((b.toNat / 16 : Nat) : Int) := by
  rw [show (2 : Int) ^ (min (4 : Int).toNat (IntKind.bits .u8)) = 16 from by decide, Int.fdiv_eq_ediv_of_nonneg _ (by decide)]
  omega
theorem and15_all : ∀ n : Fin 256, IntKind.wrap .u8 ((BitVec.ofInt (IntKind.bits .u8) (n.val : Int) &&& BitVec.ofInt (IntKind.bits .u8) 15).toNat : Int) = ((n.val % 16 : Nat) : Int) := by decide +kernel
theorem and15 (b : UInt8) : IntKind.wrap .u8 ((BitVec.ofInt (IntKind.bits .u8) (b.toNat : Int) &&& BitVec.ofInt (IntKind.bits .u8) 15).toNat : Int) = ((b.toNat % 16 : Nat) : Int) := and15_all ⟨b.toNat, b.toNat_lt⟩
theorem beq_nil (l : List UInt8) : ((str l).toList == (⟨#[]⟩ : ByteArray).toList) = decide (l = []) := by
  rw [show (⟨#[]⟩ : ByteArray) = str [] from rfl, str_toList, str_toList]
  cases l <;> simp

theorem hex_step (l : List UInt8) (i : Nat) (h : i < l.length) : hexBody (l.take (i + 1)) = hexBody (l.take i) ++ [hx (l[i].toNat / 16)] ++ [hx (l[i].toNat % 16)] := by
  rw [List.take_add_one, List.getElem?_eq_getElem h, hexBody_append]
  simp [hexBody]

theorem Hex_spec (l : List UInt8) (w : World) (hl : l.length ≤ 1000000) :
    Calls Tryd.prog 9 #[.string (str l)] w fun e w' => e = .returned (.string (str (hexT l))) ∧ Below w.heap.size w w' := by
  refine calls_ret (vc9_calls (str l) w (fun v w' => v = .string (str (hexT l)) ∧ Below w.heap.size w w') ?_) (by rintro v w' ⟨rfl, h⟩; exact ⟨rfl, h⟩)
  refine CondP.mk ?_ ?_
  · intro h
    rw [beq_nil] at h
    have h := of_decide_eq_true h
    subst h
    exact ⟨rfl, Below.refl _ _⟩
  · intro hne
    rw [beq_nil] at hne
    have hne := of_decide_eq_false hne
    rintro w1 rfl I hI
    have key := climb (α := World) l.length (fun i w2 => Lib.IsBuilder tB tU8 w.heap.size w.heap.size (Lib.byteCells (hexBody (l.take i))) w2 ∧ Below w.heap.size w w2) (fun i w2 => I [.int .i64 (i : Int)] w2) ?_ ?_ 0 (Nat.zero_le _) (w.alloc (.cells #[Value.pointer none, Value.slice none 0 0] tB))
    · refine key ⟨?_, (Below.refl _ _).alloc (Nat.le_refl _) _⟩
      exact Lib.fresh_isBuilder tB tU8 w
    · rintro w2 ⟨hb, hB⟩
      refine hI _ _ (CondP.no (by simp [str_size]) ?_)
      rw [List.take_length] at hb
      refine (Tryd.Builder_String_any _ _ _ w2 hb hB.size).mono ?_
      rintro e w5 ⟨rfl, h5⟩
      refine ⟨_, rfl, ?_, hB.trans h5⟩
      unfold hexT
      rw [if_neg hne]
    · intro i hi ih w2 ⟨hb, hB⟩
      have hbt := (l[i]).toNat_lt
      have hlen : (Lib.byteCells (hexBody (l.take i))).length ≤ 2000000 := by
        rw [Lib.byteCells_length, hexBody_length, List.length_take]; omega
      refine hI _ _ (CondP.yes (by simp [str_size]; omega) ?_)
      rw [D_eq, btAt_str l i hi, fdiv16, and15, btAt_D _ (show l[i].toNat / 16 < 16 by omega), btAt_D _ (show l[i].toNat % 16 < 16 by omega)]
      refine ⟨by omega, by rw [str_size]; omega, by decide, by omega, by rw [str_size]; simp [digs]; omega, ?_⟩
      refine (writeByte_spec _ _ _ _ w2 hb (by omega) hB.size).mono ?_
      rintro e w3 ⟨rfl, hb3, hB3⟩
      refine ⟨_, rfl, by omega, by rw [str_size]; omega, by omega, by rw [str_size]; simp [digs]; omega, ?_⟩
      rw [byteCells_snoc] at hb3
      refine (writeByte_spec _ _ _ _ w3 (.inr hb3) (by rw [Lib.byteCells_length] at *; simp; omega) (Nat.le_trans hB.size hB3.size)).mono ?_
      rintro e w4 ⟨rfl, hb4, hB4⟩
      rw [byteCells_snoc] at hb4
      refine ⟨_, rfl, Ar.ok64 (by omega) (by omega) ?_⟩
      refine ih w4 ⟨?_, (hB.trans hB3).trans hB4⟩
      rw [hex_step l i hi]
      exact .inr hb4

theorem indexByte_digs_all : ∀ n : Fin 256, Lib.indexByte digs (UInt8.ofNat n.val) = match dig (UInt8.ofNat n.val) with | some k => (k : Int) | none => -1 := by decide +kernel
theorem indexByte_digs (b : UInt8) : Lib.indexByte digs b = match dig b with | some k => (k : Int) | none => -1 :=
  all_u8 (p := fun b => Lib.indexByte digs b = match dig b with | some k => (k : Int) | none => -1) indexByte_digs_all b
theorem u8_back (b : UInt8) : ((b.toNat : Int)).toNat.toUInt8 = b := by simp

theorem digit_spec (b : UInt8) (w : World) :
    Calls Tryd.prog 21 #[.int .u8 b.toNat] w fun e w' => e = .returned (.int .i64 (match dig b with | some k => (k : Int) | none => -1)) ∧ w' = w := by
  refine calls_ret (vc21_calls b.toNat w (fun v w' => v = .int .i64 (match dig b with | some k => (k : Int) | none => -1) ∧ w' = w) ?_) (by rintro v w' ⟨rfl, h⟩; exact ⟨rfl, h⟩)
  refine (Tryd.strings_IndexByte _ _ w).mono ?_
  rintro e w' ⟨rfl, rfl⟩
  rw [u8_back]
  exact ⟨_, rfl, by rw [show (ByteArray.mk #[48, 49, 50, 51, 52, 53, 54, 55, 56, 57, 97, 98, 99, 100, 101, 102]).data.toList = digs from rfl, indexByte_digs], rfl⟩

theorem refDigit_spec (b : UInt8) (w : World) :
    Calls Tryd.prog 22 #[.int .u8 b.toNat] w fun e w' => e = .returned (.int .i64 (match dig b with | some k => (k : Int) | none => 16)) ∧ w' = w := by
  refine calls_ret (vc22_calls b.toNat w (fun v w' => v = .int .i64 (match dig b with | some k => (k : Int) | none => 16) ∧ w' = w) ?_) (by rintro v w' ⟨rfl, h⟩; exact ⟨rfl, h⟩)
  have hb := b.toNat_lt
  refine CondP.mk ?_ ?_
  · intro h1
    have h1 := of_decide_eq_true h1
    refine CondP.mk ?_ ?_
    · intro h2
      have h2 := of_decide_eq_true h2
      refine Ar.ok (k := .u8) (by simp [IntKind.min, IntKind.signed]; omega) (by simp [IntKind.max, IntKind.signed, IntKind.bits]; omega) ?_
      rw [wrap_in (k := .i64) (by simp [IntKind.min, IntKind.signed, IntKind.bits]; omega) (by simp [IntKind.max, IntKind.signed, IntKind.bits]; omega)]
      refine ⟨?_, rfl⟩
      unfold dig
      rw [if_pos ⟨by omega, by omega⟩]
      congr 1
      dsimp only
      omega
    · intro h2
      have h2 := of_decide_eq_false h2
      refine CondP.mk ?_ ?_
      · intro h3
        have h3 := of_decide_eq_true h3
        refine CondP.mk ?_ ?_
        · intro h4
          have h4 := of_decide_eq_true h4
          refine Ar.ok (k := .u8) (by simp [IntKind.min, IntKind.signed]; omega) (by simp [IntKind.max, IntKind.signed, IntKind.bits]; omega) ?_
          rw [wrap_in (k := .i64) (by simp [IntKind.min, IntKind.signed, IntKind.bits]; omega) (by simp [IntKind.max, IntKind.signed, IntKind.bits]; omega)]
          refine Ar.ok64 (by omega) (by omega) ⟨?_, rfl⟩
          unfold dig
          rw [if_neg (by omega), if_pos ⟨by omega, by omega⟩]
          congr 1
          dsimp only
          omega
        · intro h4
          have h4 := of_decide_eq_false h4
          refine ⟨?_, rfl⟩
          unfold dig
          rw [if_neg (by omega), if_neg (by omega)]
      · intro h3
        have h3 := of_decide_eq_false h3
        refine ⟨?_, rfl⟩
        unfold dig
        rw [if_neg (by omega), if_neg (by omega)]
  · intro h1
    have h1 := of_decide_eq_false h1
    refine CondP.no ?_ ⟨?_, rfl⟩
    · exact decide_eq_false (by omega)
    · unfold dig
      rw [if_neg (by omega), if_neg (by omega)]
end Go.Proofs.YtibjkknfgppogaaDoor.Eng
