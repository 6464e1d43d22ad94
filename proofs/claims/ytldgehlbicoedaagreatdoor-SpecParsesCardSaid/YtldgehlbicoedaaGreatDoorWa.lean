/- strings.Builder's writers, walked by the engine: what is written is appended to the bytes that it holds. -/
import Derived.Test.YtldgehlbicoedaaGreatDoorVc
import Derived.Test.YtldgehlbicoedaaGreatDoorLib
import Derived.Test.YtldgehlbicoedaaGreatDoorSh
import Derived.Test.YtldgehlbicoedaaGreatDoorWm
import Derived.Laws.MakeOwn
import Derived.Lib.AppendIntMem
import Derived.Lib.AtoiErrMem
set_option linter.unusedVariables false
set_option linter.unusedSimpArgs false
namespace Go.Proofs.YtldgehlbicoedaaGreatDoor.Eng
open Go Go.RowKit

/-- The type numbers of a strings.Builder and of a byte. -/
abbrev tB : TypeId := 67
abbrev tU8 : TypeId := 5
abbrev tBytes : TypeId := 65
theorem sizeB : (Tryz.prog.info? tB).map (·.size) = some 2 := by kernel_rfl
theorem liesB : liesAt Tryz.prog Tryz.prog.depth tB (2 / Tryz.prog.cellsOf tB) 0 tB 1 = true := by kernel_rfl
theorem undPB : Tryz.prog.underlying 64 = some (.pointer tB) := by kernel_rfl
theorem undUP : Tryz.prog.underlying 124 = some .unsafePointer := by kernel_rfl
theorem infoU8 : (Tryz.prog.info? tU8).map (fun i => (i.zero, i.size, i.bytes)) = some (some (.int .u8 0), 1, 1) := by kernel_rfl
theorem undBytes : Tryz.prog.underlying tBytes = some (.slice tU8) := by kernel_rfl
theorem ext_noEscape (x : Value) (w : World) : (extCall 91 #[x]).run Tryz.prog w = .ok x w := by kernel_rfl

/-- What a block must be for a strings.Builder to lie at its beginning. -/
abbrev HoldsB (T : TypeId) : Prop := liesAt Tryz.prog Tryz.prog.depth T (2 / Tryz.prog.cellsOf T) 0 tB 1 = true ∧ T ≠ tU8
theorem copyCheck_spec {T : TypeId} (hT : HoldsB T) (B b : Nat) (bs : List Value) (w : World) (h : Lib.IsBuilder T tU8 B b bs w) :
    Calls Tryz.prog 78 #[.pointer (some ⟨b, 0, none⟩)] w fun e w' => e = .returned (.tuple #[]) ∧ Lib.BuilderAt T tU8 B b (.pointer (some ⟨b, 0, none⟩)) bs w' ∧ Below B w w' := by
  obtain ⟨j, hj, hjs⟩ := info_exists sizeB
  refine calls_ret (vc78_calls (some ⟨b, 0, none⟩) w (fun v w' => v = .tuple #[] ∧ Lib.BuilderAt T tU8 B b (.pointer (some ⟨b, 0, none⟩)) bs w' ∧ Below B w w') ?_) (by rintro v w' ⟨rfl, h⟩; exact ⟨rfl, h⟩)
  rcases h with h | h
  · refine ⟨none, h.cell0, some ⟨b, 0, none⟩, w, ?_, .pointer (some ⟨b, 0, none⟩), w, ext_noEscape _ _, some ⟨b, 0, none⟩, rfl, some ⟨b, 0, none⟩, w, ?_, rfl, ⟨_, h.cell0⟩, h.frozen0, ?_⟩
    · exact Lib.run_to_unsafe w ⟨b, 0, none⟩ undPB undUP hj (by rw [hjs]; decide) h.shape (Nat.zero_lt_succ 1)
    · exact Lib.run_from_unsafe w ⟨b, 0, none⟩ undUP undPB hj h.shape hT.1
    · rintro w4 rfl
      exact ⟨rfl, h.used _, (Below.refl B w).setCell (p := ⟨b, 0, none⟩) h.1 _⟩
  · exact ⟨_, h.cell0, _, h.cell0, true, equal_same undPB sizeB 9999, rfl, h, Below.refl _ _⟩

theorem writeByte_spec {T : TypeId} (hT : HoldsB T) (B b : Nat) (bs : List Value) (c : Int) (w : World) (h : Lib.IsBuilder T tU8 B b bs w) (hlen : bs.length + 1 ≤ 140737488355328) (hBw : B ≤ w.heap.size) :
    Calls Tryz.prog 56 #[.pointer (some ⟨b, 0, none⟩), .int .u8 c] w fun e w' => e = .returned .nilIface ∧ Lib.BuilderAt T tU8 B b (.pointer (some ⟨b, 0, none⟩)) (bs ++ [.int .u8 c]) w' ∧ Below B w w' := by
  refine calls_ret (vc56_calls (some ⟨b, 0, none⟩) c w (fun v w' => v = .nilIface ∧ Lib.BuilderAt T tU8 B b (.pointer (some ⟨b, 0, none⟩)) (bs ++ [.int .u8 c]) w' ∧ Below B w w') ?_) (by rintro v w' ⟨rfl, h⟩; exact ⟨rfl, h⟩)
  refine (copyCheck_spec hT B b bs w h).mono ?_
  rintro e w1 ⟨rfl, h1, hb1⟩
  refine ⟨rfl, ?_⟩
  obtain ⟨hB, v, hb, hown, hne⟩ := h1
  obtain ⟨ao, cap, rfl, hcap⟩ := own_form hown
  have hlt : b < w1.heap.size := (Array.getElem?_eq_some_iff.1 hb).1
  have hB1 : B ≤ w1.heap.size := Nat.le_trans hBw hb1.size
  have c1 : w1.cell? ⟨b, 1, none⟩ = some (.slice ao bs.length cap) := by rw [cell_heap hb]; rfl
  refine ⟨ao, bs.length, cap, c1, ?_⟩
  rintro w2 rfl
  obtain ⟨a', c', w3, hr, hown3, hg, hnb⟩ := run_push (P := Tryz.prog) tBytes tU8 undBytes infoU8 rfl (by decide) hown [.int .u8 c] rfl (by intro u hu; simp at hu; subst hu; rfl) (by omega) (by omega) hB1
  have hb3 : w3.heap[b]? = some (.cells #[.pointer (some ⟨b, 0, none⟩), .slice ao bs.length cap] T (0, 0)) := by
    rw [block_push hg hlt (fun he => hne he.symm)]; exact hb
  have hlt3 : b < w3.heap.size := (Array.getElem?_eq_some_iff.1 hb3).1
  have hne3 : (Value.slice a' (bs.length + 1) c').ownBlock ≠ some b := by
    rcases hnb with e | e
    · rw [e]; exact hne
    · rw [e]; intro e; cases e; omega
  refine ⟨a', bs.length + 1, c', w3, hr, rfl, ⟨_, (cell_heap hb3 (j := 1)).trans rfl⟩, ?_, ?_⟩
  · show w3.frozen? ⟨b, 1, none⟩ = false
    simp [World.frozen?, hb3]
  · rintro w4 rfl
    refine ⟨rfl, ⟨hB, .slice a' (bs.length + 1) c', ?_, ?_, hne3⟩, ?_⟩
    · exact (setCell_heap hb3 _).trans rfl
    · rw [show (bs ++ [Value.int .u8 c]).length = bs.length + 1 from by simp]
      exact own_setCell hown3 _ hne3
    · exact (below_push hb1 hown hg hB1).setCell (p := ⟨b, 1, none⟩) hB _
end Go.Proofs.YtldgehlbicoedaaGreatDoor.Eng

/- word's and its reference's Hex and Unhex, walked by the engine. -/
set_option linter.unusedVariables false
set_option linter.unusedSimpArgs false
namespace Go.Proofs.YtldgehlbicoedaaGreatDoor.Eng
open Go Go.RowKit

abbrev tStr : TypeId := 9
theorem undStr : Tryz.prog.underlying tStr = some .string := by kernel_rfl
theorem undU8 : Tryz.prog.underlying tU8 = some (.int .u8) := by kernel_rfl

theorem holdsB : HoldsB tB := ⟨by kernel_rfl, by decide⟩
theorem D_eq : (⟨#[48, 49, 50, 51, 52, 53, 54, 55, 56, 57, 97, 98, 99, 100, 101, 102]⟩ : ByteArray) = str digs := rfl
theorem btAt_D (n : Nat) (h : n < 16) : btAt (str digs) (n : Int) = ((hx n).toNat : Int) := by
  rw [btAt_str digs n (by simpa [digs] using h)]
  simp [hx, List.getD, List.getElem?_eq_getElem (show n < digs.length by simpa [digs] using h)]
theorem fdiv16 (b : UInt8) : Int.fdiv (b.toNat : Int) (2 ^ (min (4 : Int).toNat (IntKind.bits .u8))) = ((b.toNat / 16 : Nat) : Int) := by
  rw [show (2 : Int) ^ (min (4 : Int).toNat (IntKind.bits .u8)) = 16 from by decide, Int.fdiv_eq_ediv_of_nonneg _ (by decide)]
  omega
theorem and15_all : ∀ n : Fin 256, IntKind.wrap .u8 ((BitVec.ofInt (IntKind.bits .u8) (n.val : Int) &&& BitVec.ofInt (IntKind.bits .u8) 15).toNat : Int) = ((n.val % 16 : Nat) : Int) := by decide +kernel
theorem and15 (b : UInt8) : IntKind.wrap .u8 ((BitVec.ofInt (IntKind.bits .u8) (b.toNat : Int) &&& BitVec.ofInt (IntKind.bits .u8) 15).toNat : Int) = ((b.toNat % 16 : Nat) : Int) := and15_all ⟨b.toNat, b.toNat_lt⟩
theorem beq_nil (l : List UInt8) : ((str l).toList == (⟨#[]⟩ : ByteArray).toList) = decide (l = []) := by
  rw [show (⟨#[]⟩ : ByteArray) = str [] from rfl, str_toList, str_toList]
  cases l <;> simp

theorem hex_step (l : List UInt8) (i : Nat) (h : i < l.length) : hexBody (l.take (i + 1)) = hexBody (l.take i) ++ [hx (l[i].toNat / 16)] ++ [hx (l[i].toNat % 16)] := by
  rw [List.take_add_one, List.getElem?_eq_getElem h, hexBody_append]
  simp [hexBody]

theorem Hex_spec (l : List UInt8) (w : World) (hl : l.length ≤ 1000000) :
    Calls Tryz.prog 26 #[.string (str l)] w fun e w' => e = .returned (.string (str (hexT l))) ∧ Below w.heap.size w w' := by
  refine calls_ret (vc26_calls (str l) w (fun v w' => v = .string (str (hexT l)) ∧ Below w.heap.size w w') ?_) (by rintro v w' ⟨rfl, h⟩; exact ⟨rfl, h⟩)
  refine CondP.mk ?_ ?_
  · intro h
    rw [beq_nil] at h
    have h := of_decide_eq_true h
    subst h
    exact ⟨rfl, Below.refl _ _⟩
  · intro hne
    rw [beq_nil] at hne
    have hne := of_decide_eq_false hne
    rintro w1 rfl I hI
    have key := climb (α := World) l.length (fun i w2 => Lib.IsBuilder tB tU8 w.heap.size w.heap.size (Lib.byteCells (hexBody (l.take i))) w2 ∧ Below w.heap.size w w2) (fun i w2 => I [.int .i64 (i : Int)] w2) ?_ ?_ 0 (Nat.zero_le _) (w.alloc (.cells #[Value.pointer none, Value.slice none 0 0] tB))
    · refine key ⟨?_, (Below.refl _ _).alloc (Nat.le_refl _) _⟩
      exact Lib.fresh_isBuilder tB tU8 w
    · rintro w2 ⟨hb, hB⟩
      refine hI _ _ (CondP.no (by simp [str_size]) ?_)
      rw [List.take_length] at hb
      refine (Tryz.Builder_String_any _ _ _ w2 hb hB.size).mono ?_
      rintro e w5 ⟨rfl, h5⟩
      refine ⟨_, rfl, ?_, hB.trans h5⟩
      unfold hexT
      rw [if_neg hne]
    · intro i hi ih w2 ⟨hb, hB⟩
      have hbt := (l[i]).toNat_lt
      have hlen : (Lib.byteCells (hexBody (l.take i))).length ≤ 2000000 := by
        rw [Lib.byteCells_length, hexBody_length, List.length_take]; omega
      refine hI _ _ (CondP.yes (by simp [str_size]; omega) ?_)
      rw [D_eq, btAt_str l i hi, fdiv16, and15, btAt_D _ (show l[i].toNat / 16 < 16 by omega), btAt_D _ (show l[i].toNat % 16 < 16 by omega)]
      refine ⟨by omega, by rw [str_size]; omega, by decide, by omega, by rw [str_size]; simp [digs]; omega, ?_⟩
      refine (writeByte_spec holdsB _ _ _ _ w2 hb (by omega) hB.size).mono ?_
      rintro e w3 ⟨rfl, hb3, hB3⟩
      refine ⟨_, rfl, by omega, by rw [str_size]; omega, by omega, by rw [str_size]; simp [digs]; omega, ?_⟩
      rw [byteCells_snoc] at hb3
      refine (writeByte_spec holdsB _ _ _ _ w3 (.inr hb3) (by rw [Lib.byteCells_length] at *; simp; omega) (Nat.le_trans hB.size hB3.size)).mono ?_
      rintro e w4 ⟨rfl, hb4, hB4⟩
      rw [byteCells_snoc] at hb4
      refine ⟨_, rfl, Ar.ok64 (by omega) (by omega) ?_⟩
      refine ih w4 ⟨?_, (hB.trans hB3).trans hB4⟩
      rw [hex_step l i hi]
      exact .inr hb4

theorem indexByte_digs_all : ∀ n : Fin 256, Lib.indexByte digs (UInt8.ofNat n.val) = match dig (UInt8.ofNat n.val) with | some k => (k : Int) | none => -1 := by decide +kernel
theorem indexByte_digs (b : UInt8) : Lib.indexByte digs b = match dig b with | some k => (k : Int) | none => -1 :=
  all_u8 (p := fun b => Lib.indexByte digs b = match dig b with | some k => (k : Int) | none => -1) indexByte_digs_all b
theorem u8_back (b : UInt8) : ((b.toNat : Int)).toNat.toUInt8 = b := by simp

theorem digit_spec (b : UInt8) (w : World) :
    Calls Tryz.prog 101 #[.int .u8 b.toNat] w fun e w' => e = .returned (.int .i64 (match dig b with | some k => (k : Int) | none => -1)) ∧ w' = w := by
  refine calls_ret (vc101_calls b.toNat w (fun v w' => v = .int .i64 (match dig b with | some k => (k : Int) | none => -1) ∧ w' = w) ?_) (by rintro v w' ⟨rfl, h⟩; exact ⟨rfl, h⟩)
  refine (Tryz.strings_IndexByte _ _ w).mono ?_
  rintro e w' ⟨rfl, rfl⟩
  rw [u8_back]
  exact ⟨_, rfl, by rw [show (ByteArray.mk #[48, 49, 50, 51, 52, 53, 54, 55, 56, 57, 97, 98, 99, 100, 101, 102]).data.toList = digs from rfl, indexByte_digs], rfl⟩

theorem refDigit_spec (b : UInt8) (w : World) :
    Calls Tryz.prog 77 #[.int .u8 b.toNat] w fun e w' => e = .returned (.int .i64 (match dig b with | some k => (k : Int) | none => 16)) ∧ w' = w := by
  refine calls_ret (vc77_calls b.toNat w (fun v w' => v = .int .i64 (match dig b with | some k => (k : Int) | none => 16) ∧ w' = w) ?_) (by rintro v w' ⟨rfl, h⟩; exact ⟨rfl, h⟩)
  have hb := b.toNat_lt
  refine CondP.mk ?_ ?_
  · intro h1
    have h1 := of_decide_eq_true h1
    refine CondP.mk ?_ ?_
    · intro h2
      have h2 := of_decide_eq_true h2
      refine Ar.ok (k := .u8) (by simp [IntKind.min, IntKind.signed]; omega) (by simp [IntKind.max, IntKind.signed, IntKind.bits]; omega) ?_
      rw [wrap_in (k := .i64) (by simp [IntKind.min, IntKind.signed, IntKind.bits]; omega) (by simp [IntKind.max, IntKind.signed, IntKind.bits]; omega)]
      refine ⟨?_, rfl⟩
      unfold dig
      rw [if_pos ⟨by omega, by omega⟩]
      congr 1
      dsimp only
      omega
    · intro h2
      have h2 := of_decide_eq_false h2
      refine CondP.mk ?_ ?_
      · intro h3
        have h3 := of_decide_eq_true h3
        refine CondP.mk ?_ ?_
        · intro h4
          have h4 := of_decide_eq_true h4
          refine Ar.ok (k := .u8) (by simp [IntKind.min, IntKind.signed]; omega) (by simp [IntKind.max, IntKind.signed, IntKind.bits]; omega) ?_
          rw [wrap_in (k := .i64) (by simp [IntKind.min, IntKind.signed, IntKind.bits]; omega) (by simp [IntKind.max, IntKind.signed, IntKind.bits]; omega)]
          refine Ar.ok64 (by omega) (by omega) ⟨?_, rfl⟩
          unfold dig
          rw [if_neg (by omega), if_pos ⟨by omega, by omega⟩]
          congr 1
          dsimp only
          omega
        · intro h4
          have h4 := of_decide_eq_false h4
          refine ⟨?_, rfl⟩
          unfold dig
          rw [if_neg (by omega), if_neg (by omega)]
      · intro h3
        have h3 := of_decide_eq_false h3
        refine ⟨?_, rfl⟩
        unfold dig
        rw [if_neg (by omega), if_neg (by omega)]
  · intro h1
    have h1 := of_decide_eq_false h1
    refine CondP.no ?_ ⟨?_, rfl⟩
    · exact decide_eq_false (by omega)
    · unfold dig
      rw [if_neg (by omega), if_neg (by omega)]
end Go.Proofs.YtldgehlbicoedaaGreatDoor.Eng

/- word's and its reference's Unhex, and the reference's Hex, walked by the engine. -/
set_option linter.unusedVariables false
set_option linter.unusedSimpArgs false
namespace Go.Proofs.YtldgehlbicoedaaGreatDoor.Eng
open Go Go.RowKit

def unRes : Option (List UInt8) → Value
  | some r => .tuple #[.string (str r), .bool true]
  | none => .tuple #[.string (str []), .bool false]
theorem beq_str (a b : List UInt8) : ((str a).toList == (str b).toList) = decide (a = b) := by
  rw [str_toList, str_toList]
  by_cases h : a = b
  · subst h; simp
  · simp [h]
/-- What a round of reading finds, told of the whole. -/
theorem pairs_step (l acc : List UInt8) (i : Nat) (h : i + 1 < l.length) (hp : pairs l = (pairs (l.drop i)).map (acc ++ ·)) (x y : Nat) (hx : dig l[i] = some x) (hy : dig l[i + 1] = some y) :
    pairs l = (pairs (l.drop (i + 2))).map ((acc ++ [UInt8.ofNat (16 * x + y)]) ++ ·) := by
  rw [hp, List.drop_eq_getElem_cons (show i < l.length by omega), List.drop_eq_getElem_cons (show i + 1 < l.length by omega)]
  simp only [pairs, hx, hy]
  cases pairs (l.drop (i + 1 + 1)) with
  | none => rfl
  | some r => simp
theorem pairs_bad (l acc : List UInt8) (i : Nat) (h : i + 1 < l.length) (hp : pairs l = (pairs (l.drop i)).map (acc ++ ·)) (hb : dig l[i] = none ∨ dig l[i + 1] = none) : pairs l = none := by
  rw [hp, List.drop_eq_getElem_cons (show i < l.length by omega), List.drop_eq_getElem_cons (show i + 1 < l.length by omega)]
  rcases hb with hb | hb
  · simp [pairs, hb]
  · simp only [pairs, hb]
    cases dig l[i] <;> rfl
theorem pairs_done (l acc : List UInt8) (i : Nat) (h : l.length ≤ i) (hp : pairs l = (pairs (l.drop i)).map (acc ++ ·)) : pairs l = some acc := by
  rw [hp, List.drop_eq_nil_of_le h]
  simp [pairs]
theorem pairs_one (l acc : List UInt8) (i : Nat) (h : i + 1 = l.length) (hp : pairs l = (pairs (l.drop i)).map (acc ++ ·)) : pairs l = none := by
  rw [hp, List.drop_eq_getElem_cons (show i < l.length by omega), List.drop_eq_nil_of_le (by omega)]
  simp [pairs]
theorem pairs_even (n : Nat) : ∀ l : List UInt8, l.length ≤ n → ∀ r, pairs l = some r → l.length = 2 * r.length := by
  induction n with
  | zero =>
    intro l hl r h
    cases l with
    | nil => simp [pairs] at h; subst h; rfl
    | cons a l => simp at hl
  | succ n ih =>
    intro l hl r h
    match l, hl, h with
    | [], _, h => simp [pairs] at h; subst h; rfl
    | [_], _, h => simp [pairs] at h
    | a :: b :: l, hl, h =>
      simp only [pairs] at h
      split at h
      · rename_i x y r' _ _ hr
        cases h
        have := ih l (by simp at hl; omega) _ hr
        simp
        omega
      · cases h
theorem unhexT_pairs (l : List UInt8) (h1 : l ≠ [45]) (h2 : l ≠ []) : unhexT l = pairs l := by
  unfold unhexT
  rw [if_neg h1, if_neg h2]
theorem sum_hex (x y : Nat) (hx : x < 16) (hy : y < 16) : IntKind.wrap .u8 ((x : Int) * 16 + y) = ((UInt8.ofNat (16 * x + y)).toNat : Int) := by
  rw [wrap_in (k := .u8) (by simp [IntKind.min, IntKind.signed]; omega) (by simp [IntKind.max, IntKind.signed, IntKind.bits]; omega)]
  have : (UInt8.ofNat (16 * x + y)).toNat = 16 * x + y := by simp; omega
  omega

theorem Unhex_spec (l : List UInt8) (w : World) (hl : l.length ≤ 2000000) :
    Calls Tryz.prog 89 #[.string (str l)] w fun e w' => e = .returned (unRes (unhexT l)) ∧ Below w.heap.size w w' := by
  refine calls_ret (vc89_calls (str l) w (fun v w' => v = unRes (unhexT l) ∧ Below w.heap.size w w') ?_) (by rintro v w' ⟨rfl, h⟩; exact ⟨rfl, h⟩)
  refine CondP.mk ?_ ?_
  · intro h
    rw [show (⟨#[45]⟩ : ByteArray) = str [45] from rfl, beq_str] at h
    have h := of_decide_eq_true h
    subst h
    exact ⟨rfl, Below.refl _ _⟩
  · intro h1
    rw [show (⟨#[45]⟩ : ByteArray) = str [45] from rfl, beq_str] at h1
    have h1 := of_decide_eq_false h1
    refine CondP.mk ?_ ?_
    · intro h
      rw [beq_nil] at h
      have h := of_decide_eq_true h
      subst h
      exact ⟨rfl, Below.refl _ _⟩
    · intro h2
      rw [beq_nil] at h2
      have h2 := of_decide_eq_false h2
      have hu := unhexT_pairs l h1 h2
      rw [hu]
      refine ⟨by decide, ?_⟩
      rw [str_size, show Int.tmod (l.length : Int) 2 = ((l.length % 2 : Nat) : Int) from rfl, show Int.tdiv (l.length : Int) 2 = ((l.length / 2 : Nat) : Int) from rfl]
      refine CondP.mk ?_ ?_
      · intro h3
        have h3 : l.length % 2 ≠ 0 := by
          intro e; rw [e] at h3; simp at h3
        refine ⟨?_, Below.refl _ _⟩
        cases hp : pairs l with
        | none => rfl
        | some r => have := pairs_even l.length l (Nat.le_refl _) r hp; omega
      · intro h3
        have h3 : l.length % 2 = 0 := by
          rcases Nat.mod_two_eq_zero_or_one l.length with e | e
          · exact e
          · rw [e] at h3; simp at h3
        refine ⟨by decide, ?_⟩
        rw [wrap_in (k := .i64) (by simp [IntKind.min, IntKind.signed, IntKind.bits]; omega) (by simp [IntKind.max, IntKind.signed, IntKind.bits]; omega)]
        obtain ⟨i, hi', hz, hs, hb⟩ := info_parts infoU8
        obtain ⟨w1, hr, hown, hg⟩ := run_make_own (P := Tryz.prog) w w.heap.size tBytes tU8 i _ 1 undBytes hi' hz hs .i64 .i64 (l.length / 2) (by rw [hb]; omega) (by simp [maxLen]; omega) (Nat.le_refl _)
        refine ⟨_, _, _, w1, hr, ?_⟩
        intro I hI
        have key := climb (α := Option Addr × Nat × Nat × Bool × ByteArray × World) (l.length / 2)
          (fun k x => ∃ acc, pairs l = (pairs (l.drop (2 * k))).map (acc ++ ·) ∧ acc.length ≤ k ∧ x.2.2.2.2.2.ownsRow w.heap.size tU8 1 (.slice x.1 x.2.1 x.2.2.1) x.2.1 (Lib.byteCells acc) ∧ Below w.heap.size w x.2.2.2.2.2)
          (fun k x => I [.int .i64 ((2 * k : Nat) : Int), .slice x.1 x.2.1 x.2.2.1, .bool x.2.2.2.1, .string x.2.2.2.2.1] x.2.2.2.2.2) ?_ ?_ 0 (Nat.zero_le _) (some ⟨w.heap.size, 0, none⟩, 0, l.length / 2, false, str [], w1)
        · refine key ⟨[], ?_, Nat.le_refl _, hown, (Below.refl _ w).grown hg (Nat.le_refl _) (fun _ h => by cases h)⟩
          simp
        · rintro ⟨bA, bN, bC, y3, y2, w2⟩ ⟨acc, hp, _, hown2, hB⟩
          refine hI _ _ _ _ _ _ _ (CondP.no (decide_eq_false (by omega)) ?_)
          have hd := pairs_done l acc _ (by omega) hp
          refine ⟨_, _, run_str_own undBytes undU8 undStr hown2, ?_, hB⟩
          rw [hd]; rfl
        · rintro k hk ih ⟨bA, bN, bC, y3, y2, w2⟩ ⟨acc, hp, hacc, hown2, hB⟩
          have hi1 : 2 * k + 1 < l.length := by omega
          refine hI _ _ _ _ _ _ _ (CondP.yes (decide_eq_true (by omega)) ?_)
          rintro w3 rfl
          refine ⟨by omega, by omega, Ar.ok64 (by omega) (by omega) ?_⟩
          refine ⟨by omega, by omega, ?_⟩
          rw [btAt_str l (2 * k) (by omega), show ((2 * k : Nat) : Int) + 1 = ((2 * k + 1 : Nat) : Int) by omega, btAt_str l (2 * k + 1) hi1]
          refine (digit_spec _ w2.drew).mono ?_
          rintro e w4 ⟨rfl, rfl⟩
          refine ⟨_, rfl, ?_⟩
          refine (digit_spec _ w2.drew).mono ?_
          rintro e w5 ⟨rfl, rfl⟩
          refine ⟨_, rfl, ?_⟩
          cases hx : dig l[2 * k] with
          | none =>
            refine CondP.yes rfl ⟨?_, hB.drew⟩
            rw [pairs_bad l acc _ hi1 hp (.inl hx)]; rfl
          | some x =>
            cases hy : dig l[2 * k + 1] with
            | none =>
              refine CondP.no (decide_eq_false (by dsimp only; omega)) (CondP.yes rfl ⟨?_, hB.drew⟩)
              rw [pairs_bad l acc _ hi1 hp (.inr hy)]; rfl
            | some y =>
              have h4 := dig_lt _ _ hx
              have h5 := dig_lt _ _ hy
              refine CondP.no (decide_eq_false (by dsimp only; omega)) (CondP.no (decide_eq_false (by dsimp only; omega)) ?_)
              dsimp only
              refine Ar.ok64 (by omega) (by omega) (Ar.ok64 (by omega) (by omega) ?_)
              rw [sum_hex x y h4 h5]
              rintro w6 rfl
              have hn := hown2.1
              dsimp only at hn hown2 hB
              rw [Lib.byteCells_length] at hn
              obtain ⟨a', c', w7, hr, hown7, hg, _⟩ := run_push (P := Tryz.prog) tBytes tU8 undBytes infoU8 rfl (by decide) (own_drew hown2) [.int .u8 (UInt8.ofNat (16 * x + y)).toNat] rfl (by intro u hu; simp at hu; subst hu; rfl) (by omega) (by omega) hB.size
              refine ⟨_, _, _, w7, hr, Ar.ok64 (by omega) (by omega) ?_⟩
              rw [byteCells_snoc] at hown7
              have := ih (a', bN + 1, c', y3, y2, w7) ⟨acc ++ [UInt8.ofNat (16 * x + y)], pairs_step l acc _ hi1 hp x y hx hy, by simp; omega, hown7, below_push hB.drew (own_drew hown2) hg hB.size⟩
              rw [show ((2 * k : Nat) : Int) + 2 = ((2 * (k + 1) : Nat) : Int) by omega]
              exact this

theorem sum_hex' (x y : Nat) (hx : x < 16) (hy : y < 16) : IntKind.wrap .u8 ((16 : Int) * x + y) = ((UInt8.ofNat (16 * x + y)).toNat : Int) := by
  rw [show (16 : Int) * x + y = (x : Int) * 16 + y by omega]
  exact sum_hex x y hx hy

theorem refUnhex_spec (l : List UInt8) (w : World) (hl : l.length ≤ 2000000) :
    Calls Tryz.prog 50 #[.string (str l)] w fun e w' => e = .returned (unRes (unhexT l)) ∧ Below w.heap.size w w' := by
  refine calls_ret (vc50_calls (str l) w (fun v w' => v = unRes (unhexT l) ∧ Below w.heap.size w w') ?_) (by rintro v w' ⟨rfl, h⟩; exact ⟨rfl, h⟩)
  refine CondP.mk ?_ ?_
  · intro h
    rw [show (⟨#[45]⟩ : ByteArray) = str [45] from rfl, beq_str] at h
    have h := of_decide_eq_true h
    subst h
    exact ⟨rfl, Below.refl _ _⟩
  · intro h1
    rw [show (⟨#[45]⟩ : ByteArray) = str [45] from rfl, beq_str] at h1
    have h1 := of_decide_eq_false h1
    intro I hI
    have bad : pairs l = none → unhexT l = none := by
      intro h
      unfold unhexT
      rw [if_neg h1]
      split
      · rfl
      · exact h
    have key := climb (α := Option Addr × Nat × Nat × Bool × ByteArray × World) ((l.length + 1) / 2)
      (fun k x => ∃ acc, pairs l = (pairs (l.drop (2 * k))).map (acc ++ ·) ∧ acc.length = k ∧ 2 * k ≤ l.length ∧ x.2.2.2.2.2.ownsRow w.heap.size tU8 1 (.slice x.1 x.2.1 x.2.2.1) x.2.1 (Lib.byteCells acc) ∧ Below w.heap.size w x.2.2.2.2.2)
      (fun k x => I [.int .i64 ((2 * k : Nat) : Int), .slice x.1 x.2.1 x.2.2.1, .bool x.2.2.2.1, .string x.2.2.2.2.1] x.2.2.2.2.2) ?_ ?_ 0 (Nat.zero_le _) (none, 0, 0, false, str [], w)
    · refine key ⟨[], ?_, rfl, by omega, own_nil _ _ _ _, Below.refl _ w⟩
      simp
    · rintro ⟨bA, bN, bC, y3, y2, w2⟩ ⟨acc, hp, hacc, hle, hown2, hB⟩
      refine hI _ _ _ _ _ _ _ (CondP.no (decide_eq_false (by rw [str_size]; omega)) ?_)
      have hd := pairs_done l acc _ (by omega) hp
      have hn := hown2.1
      dsimp only at hn
      rw [Lib.byteCells_length] at hn
      refine ⟨_, _, run_str_own undBytes undU8 undStr hown2, ?_, hB⟩
      unfold unhexT
      rw [if_neg h1]
      dsimp only
      split
      · rename_i e
        subst e
        simp [pairs] at hd
        subst hd
        simp at hn
        subst hn
        rfl
      · rename_i e
        have hpos : 0 < l.length := List.length_pos_iff.2 e
        rw [hd, decide_eq_true (by omega)]
        rfl
    · rintro k hk ih ⟨bA, bN, bC, y3, y2, w2⟩ ⟨acc, hp, hacc, hle, hown2, hB⟩
      rw [str_size] at hI
      refine hI _ _ _ _ _ _ _ (CondP.yes (decide_eq_true (by omega)) ?_)
      refine Ar.ok64 (by omega) (by omega) (CondP.mk ?_ ?_)
      · intro h
        have h := of_decide_eq_true h
        refine ⟨?_, hB⟩
        rw [bad (pairs_one l acc _ (by omega) hp)]; rfl
      · intro h
        have h := of_decide_eq_false h
        have hi1 : 2 * k + 1 < l.length := by omega
        have hi64 : ∀ {F : Int → Prop}, F ((2 * k + 1 : Nat) : Int) → Ar .i64 (((2 * k : Nat) : Int) + 1) F := fun {F} hF => Ar.ok64 (by omega) (by omega) (by rwa [show ((2 * k : Nat) : Int) + 1 = ((2 * k + 1 : Nat) : Int) by omega])
        refine ⟨by omega, by omega, ?_⟩
        rw [btAt_str l (2 * k) (by omega)]
        refine (refDigit_spec _ w2).mono ?_
        rintro e w3 ⟨rfl, hw3⟩
        subst w3
        refine ⟨_, rfl, ?_⟩
        cases hx : dig l[2 * k] with
        | none =>
          refine CondP.yes rfl ⟨?_, hB⟩
          rw [bad (pairs_bad l acc _ hi1 hp (.inl hx))]; rfl
        | some x =>
          have h4 := dig_lt _ _ hx
          refine CondP.no (decide_eq_false (by dsimp only; omega)) (hi64 ⟨by omega, by omega, ?_⟩)
          rw [btAt_str l (2 * k + 1) hi1]
          refine (refDigit_spec _ w2).mono ?_
          rintro e w3 ⟨rfl, hw3⟩
          subst w3
          refine ⟨_, rfl, ?_⟩
          cases hy : dig l[2 * k + 1] with
          | none =>
            refine CondP.yes rfl ⟨?_, hB⟩
            rw [bad (pairs_bad l acc _ hi1 hp (.inr hy))]; rfl
          | some y =>
            have h5 := dig_lt _ _ hy
            refine CondP.no (decide_eq_false (by dsimp only; omega)) ?_
            rintro w4 rfl
            refine ⟨by omega, by omega, hi64 ⟨by omega, by omega, ?_⟩⟩
            refine (refDigit_spec _ w2.drew).mono ?_
            rintro e w5 ⟨rfl, rfl⟩
            refine ⟨_, rfl, ?_⟩
            rw [hx]
            dsimp only
            refine Ar.ok64 (by omega) (by omega) ?_
            rw [btAt_str l (2 * k + 1) hi1]
            refine (refDigit_spec _ w2.drew).mono ?_
            rintro e w5 ⟨rfl, rfl⟩
            refine ⟨_, rfl, ?_⟩
            rw [hy]
            dsimp only
            refine Ar.ok64 (by omega) (by omega) ?_
            rw [sum_hex' x y h4 h5]
            rintro w6 rfl
            have hn := hown2.1
            dsimp only at hn hown2 hB
            rw [Lib.byteCells_length] at hn
            obtain ⟨a', c', w7, hr, hown7, hg, _⟩ := run_push (P := Tryz.prog) tBytes tU8 undBytes infoU8 rfl (by decide) (own_drew hown2) [.int .u8 (UInt8.ofNat (16 * x + y)).toNat] rfl (by intro u hu; simp at hu; subst hu; rfl) (by omega) (by omega) hB.size
            refine ⟨_, _, _, w7, hr, Ar.ok64 (by omega) (by omega) ?_⟩
            rw [byteCells_snoc] at hown7
            have := ih (a', bN + 1, c', y3, y2, w7) ⟨acc ++ [UInt8.ofNat (16 * x + y)], pairs_step l acc _ hi1 hp x y hx hy, by simp; omega, by omega, hown7, below_push hB.drew (own_drew hown2) hg hB.size⟩
            rw [show ((2 * k : Nat) : Int) + 2 = ((2 * (k + 1) : Nat) : Int) by omega]
            exact this

theorem refHex_spec (l : List UInt8) (w : World) (hl : l.length ≤ 1000000) :
    Calls Tryz.prog 52 #[.string (str l)] w fun e w' => e = .returned (.string (str (hexT l))) ∧ Below w.heap.size w w' := by
  refine calls_ret (vc52_calls (str l) w (fun v w' => v = .string (str (hexT l)) ∧ Below w.heap.size w w') ?_) (by rintro v w' ⟨rfl, h⟩; exact ⟨rfl, h⟩)
  intro I hI
  rw [str_size] at hI
  have key := climb (α := World) l.length (fun i w2 => Below w.heap.size w w2) (fun i w2 => I [.int .i64 (i : Int), .string (str (hexBody (l.take i)))] w2) ?_ ?_ 0 (Nat.zero_le _) w
  · exact key (Below.refl _ _)
  · intro w2 hB
    refine hI _ _ _ (CondP.no (by simp) (CondP.mk ?_ ?_))
    · intro h
      rw [beq_nil] at h
      have h := of_decide_eq_true h
      have hlen := hexBody_length (l.take l.length)
      rw [h, List.take_length] at hlen
      have : l = [] := List.eq_nil_of_length_eq_zero (by simp at hlen; omega)
      subst this
      exact ⟨rfl, hB⟩
    · intro h
      rw [beq_nil] at h
      have h := of_decide_eq_false h
      rw [List.take_length] at *
      refine ⟨?_, hB⟩
      unfold hexT
      rw [if_neg]
      intro e
      subst e
      exact h rfl
  · intro i hi ih w2 hB
    have hbt := (l[i]).toNat_lt
    refine hI _ _ _ (CondP.yes (by simp; omega) ?_)
    rintro w3 rfl
    rw [btAt_str l i hi, show Int.tdiv ((l[i].toNat : Nat) : Int) 16 = ((l[i].toNat / 16 : Nat) : Int) from rfl, show Int.tmod ((l[i].toNat : Nat) : Int) 16 = ((l[i].toNat % 16 : Nat) : Int) from rfl, D_eq]
    rw [wrap_in (k := .u8) (by simp [IntKind.min, IntKind.signed]; omega) (by simp [IntKind.max, IntKind.signed, IntKind.bits]; omega)]
    rw [btAt_D _ (show l[i].toNat / 16 < 16 by omega), btAt_D _ (show l[i].toNat % 16 < 16 by omega)]
    refine ⟨by omega, by omega, by decide, by omega, by rw [str_size]; simp [digs]; omega, by omega, by omega, by decide, by omega, by rw [str_size]; simp [digs]; omega, ?_⟩
    rintro w4 rfl
    have hc := run_convert_bytes_back (P := Tryz.prog) (w2.drew.alloc (.cells (Lib.byteCells [hx (l[i].toNat / 16), hx (l[i].toNat % 16)]).toArray tU8)) tBytes tStr tU8 (nb w2.drew) 2 [hx (l[i].toNat / 16), hx (l[i].toNat % 16)] undBytes undU8 undStr (by
      intro j hj
      have hadd : (nb w2.drew).add j = ⟨w2.drew.heap.size, j, none⟩ := by unfold Addr.add nb; split <;> simp_all
      rw [hadd, cell_new]
      match j, hj with
      | 0, _ => rfl
      | 1, _ => rfl)
    refine ⟨_, _, hc, ?_, Ar.ok64 (by omega) (by omega) ?_⟩
    · have hlen := hexBody_length (l.take i)
      rw [List.length_take] at hlen
      rw [str_size, str_size, hlen]
      simp [IntKind.max, IntKind.signed, IntKind.bits]
      omega
    · show I [_, .string (str (hexBody (l.take i)) ++ str [hx (l[i].toNat / 16), hx (l[i].toNat % 16)])] _
      rw [str_append, show hexBody (l.take i) ++ [hx (l[i].toNat / 16), hx (l[i].toNat % 16)] = hexBody (l.take (i + 1)) by rw [hex_step l i hi]; simp]
      exact ih _ (hB.drew.alloc hB.size _)
end Go.Proofs.YtldgehlbicoedaaGreatDoor.Eng

/- word's Number and Numbers, and the law's own examples, walked by the engine. -/
set_option linter.unusedVariables false
set_option linter.unusedSimpArgs false
namespace Go.Proofs.YtldgehlbicoedaaGreatDoor.Eng
open Go Go.RowKit

abbrev tStrs : TypeId := 24
theorem undStrs : Tryz.prog.underlying tStrs = some (.slice tStr) := by kernel_rfl
theorem infoStr : (Tryz.prog.info? tStr).map (fun i => (i.zero, i.size, i.bytes)) = some (some (.string ⟨#[]⟩), 1, 16) := by kernel_rfl
abbrev Pow (w : World) : Prop := Lib.TabIs Tryz.prog w "internal/strconv.uint64pow10" .u64 Lib.pow10Tab
theorem Pow.on {w w' : World} (h : Pow w) (hb : Below w.heap.size w w') : Pow w' := Lib.tabBelow_of_tabIs h w' hb
def I64 (n : Int) : Prop := -9223372036854775808 ≤ n ∧ n ≤ 9223372036854775807

theorem itoa_length (n : Int) (h : I64 n) : (Lib.itoa n).length ≤ 21 := by
  have key : ∀ u : Nat, u < 18446744073709551616 → (Lib.decDigits u).length ≤ 20 := by
    intro u hu
    rw [Lib.decDigits_length]
    by_cases h1 : 1 ≤ u
    · have := Lib.numDigits_eq u h1 hu
      rw [← this.1]
      have := this.2
      split <;> omega
    · rw [Lib.nDigits_small (by omega)]; omega
  unfold I64 at h
  unfold Lib.itoa
  split
  · have := key n.natAbs (by omega)
    simp
    omega
  · have := key n.toNat (by omega)
    omega

theorem Number_spec (n : Int) (w : World) (hn : I64 n) (ht : Pow w) :
    Calls Tryz.prog 27 #[.int .i64 n] w fun e w' => e = .returned (.string (str (Lib.itoa n))) ∧ Below w.heap.size w w' := by
  refine calls_ret (vc27_calls n w (fun v w' => v = .string (str (Lib.itoa n)) ∧ Below w.heap.size w w') ?_) (by rintro v w' ⟨rfl, h⟩; exact ⟨rfl, h⟩)
  refine (Tryz.strconv_Itoa n hn.1 hn.2 w ht).mono ?_
  rintro e w' ⟨rfl, k, os, rfl⟩
  exact ⟨_, rfl, rfl, Lib.below_grow _ w (Nat.le_refl _) k os⟩

/-- Numbers, told. -/
def numsT (ns : List Int) : List UInt8 := if ns = [] then [45] else Lib.join (ns.map Lib.itoa) [32]
def strVals (xs : List (List UInt8)) : List Value := xs.map fun x => .string (str x)

theorem lens_small (xs : List (List UInt8)) (h : ∀ x ∈ xs, x.length ≤ 21) : Lib.lens xs ≤ 21 * xs.length := by
  induction xs with
  | nil => simp [Lib.lens]
  | cons x xs ih =>
    have h1 := h x (by simp)
    have h2 := ih fun y hy => h y (by simp [hy])
    simp [Lib.lens] at *
    omega

/-- A row of texts that the call owns, joined. -/
theorem join_own {base : Nat} {w : World} {a : Option Addr} {n c : Nat} {xs : List (List UInt8)} (h : w.ownsRow base tStr 1 (.slice a n c) n (strVals xs)) (hne : xs ≠ []) (sep : List UInt8) (hl : (Lib.join xs sep).length ≤ 140737488355328) (hN : xs.length ≤ 140737488355328) :
    Calls Tryz.prog 55 #[.slice a n c, .string (str sep)] w fun e w' => e = .returned (.string (str (Lib.join xs sep))) ∧ Below w.heap.size w w' := by
  have hn := h.1
  rw [show (strVals xs).length = xs.length by simp [strVals]] at hn
  rcases h.2 with ⟨h1, h2⟩ | ⟨g, cap, cur, h1, h2, h3, h4, h5, h6, h7⟩
  · exact absurd (List.eq_nil_of_length_eq_zero (by omega)) hne
  · cases h1
    have hlen : n = (xs.map fun x => str x).length := by simp; omega
    have hmap : (xs.map fun x => str x).map (·.data.toList) = xs := by
      rw [List.map_map]
      conv => rhs; rw [← List.map_id xs]
      apply List.map_congr_left
      intro x _
      simp [str]
    have hj := Tryz.strings_Join g 0 c (xs.map fun x => str x) (str sep) w (by
      intro j x hj
      rw [Nat.zero_add, cell_heap h3]
      have hj' : j < n := by rw [hlen]; exact (List.getElem?_eq_some_iff.1 hj).1
      have h8 : (strVals xs)[j]? = some (.string x) := by
        simp only [strVals, List.getElem?_map] at hj ⊢
        cases hx : xs[j]? with
        | none => simp [hx] at hj
        | some y => simp [hx] at hj; simp [hj]
      rw [← h7, List.getElem?_take_of_lt (by omega)] at h8
      simpa using h8) (Array.getElem?_eq_some_iff.1 h3).1 (by simpa using hN) (by rw [← hlen]; exact h4) (by rw [hmap]; exact hl)
    rw [← hlen, hmap] at hj
    exact hj

/-- A row of numbers, read at each place. -/
def IntRow (w : World) (a : Option Addr) (ns : List Int) : Prop := ∀ (j : Nat) (n : Int), ns[j]? = some n → ∃ x, a = some x ∧ x.block < w.heap.size ∧ w.cell? (x.add j) = some (.int .i64 n)
theorem IntRow.on {w w' : World} {a : Option Addr} {ns : List Int} (h : IntRow w a ns) (hb : Below w.heap.size w w') : IntRow w' a ns := by
  intro j n hj
  obtain ⟨x, rfl, hx, hc⟩ := h j n hj
  exact ⟨x, rfl, Nat.lt_of_lt_of_le hx hb.size, by rw [hb.cell (by rwa [add_block])]; exact hc⟩

theorem Numbers_spec (a : Option Addr) (c : Nat) (ns : List Int) (w : World) (hcells : IntRow w a ns) (hN : ns.length ≤ 1000) (h64 : ∀ n ∈ ns, I64 n) (ht : Pow w) (hne : ns ≠ []) :
    Calls Tryz.prog 25 #[.slice a ns.length c] w fun e w' => e = .returned (.string (str (numsT ns))) ∧ Below w.heap.size w w' := by
  refine calls_ret (vc25_calls a ns.length c w (fun v w' => v = .string (str (numsT ns)) ∧ Below w.heap.size w w') ?_) (by rintro v w' ⟨rfl, h⟩; exact ⟨rfl, h⟩)
  have hpos : 0 < ns.length := List.length_pos_iff.2 hne
  have hsmall : ∀ x ∈ ns.map Lib.itoa, x.length ≤ 21 := by
    intro x hx
    obtain ⟨n, hn, rfl⟩ := List.mem_map.1 hx
    exact itoa_length n (h64 n hn)
  refine CondP.no (by simp; omega) ?_
  intro I hI
  have key := climb (α := Option Addr × Nat × Nat × World) ns.length
    (fun k x => x.2.2.2.ownsRow w.heap.size tStr 1 (.slice x.1 x.2.1 x.2.2.1) x.2.1 (strVals ((ns.take k).map Lib.itoa)) ∧ Below w.heap.size w x.2.2.2)
    (fun k x => I [.int .i64 (k : Int), .slice x.1 x.2.1 x.2.2.1] x.2.2.2) ?_ ?_ 0 (Nat.zero_le _) (none, 0, 0, w)
  · exact key ⟨own_nil _ _ _ _, Below.refl _ _⟩
  · rintro ⟨oA, oN, oC, w1⟩ ⟨hown, hB⟩
    refine hI _ _ _ _ _ (CondP.no (by simp) ?_)
    dsimp only at hown hB
    rw [List.take_length] at hown
    have hjl : (Lib.join (ns.map Lib.itoa) [32]).length ≤ 140737488355328 := by
      cases hns : ns with
      | nil => exact absurd hns hne
      | cons n r =>
        rw [List.map_cons, Lib.join_length, ← List.map_cons, ← hns]
        have := lens_small _ hsmall
        rw [List.length_map] at this ⊢
        have : r.length ≤ ns.length := by rw [hns]; simp
        simp
        omega
    refine (join_own hown (by simpa using hne) [32] hjl (by rw [List.length_map]; omega)).mono ?_
    rintro e w5 ⟨rfl, h5⟩
    refine ⟨_, rfl, ?_, below_then hB h5⟩
    unfold numsT
    rw [if_neg hne]
  · rintro k hk ih ⟨oA, oN, oC, w1⟩ ⟨hown, hB⟩
    dsimp only at hown hB
    refine hI _ _ _ _ _ (CondP.yes (by simp; omega) ?_)
    obtain ⟨x, hxa, _, hcx⟩ := (hcells.on hB) k _ (List.getElem?_eq_getElem hk)
    refine NilC.mk x hxa ⟨by omega, by omega, ns[k], by simpa using hcx, ?_⟩
    refine (Number_spec ns[k] w1 (h64 _ (List.getElem_mem hk)) (ht.on hB)).mono ?_
    rintro e w2 ⟨rfl, h2⟩
    refine ⟨_, rfl, ?_⟩
    rintro w3 rfl
    have hB2 := below_then hB h2
    have hn := hown.1
    rw [show (strVals ((ns.take k).map Lib.itoa)).length = k by simp [strVals]; omega] at hn
    have hown2 : w2.ownsRow w.heap.size tStr 1 (.slice oA oN oC) oN (strVals ((ns.take k).map Lib.itoa)) := by
      refine ⟨hown.1, ?_⟩
      rcases hown.2 with hh | ⟨g, cap, cur, h1, h2', h3, h4⟩
      · exact .inl hh
      · exact .inr ⟨g, cap, cur, h1, h2', by rw [h2.block g (Array.getElem?_eq_some_iff.1 h3).1]; exact h3, h4⟩
    obtain ⟨a', c', w4, hr, hown4, hg, _⟩ := run_push (P := Tryz.prog) tStrs tStr undStrs infoStr rfl (by decide) hown2 [.string (str (Lib.itoa ns[k]))] rfl (by intro u hu; simp at hu; subst hu; rfl) (by omega) (by omega) hB2.size
    refine ⟨_, _, _, w4, hr, Ar.ok64 (by omega) (by omega) ?_⟩
    have e1 : strVals ((ns.take k).map Lib.itoa) ++ [.string (str (Lib.itoa ns[k]))] = strVals ((ns.take (k + 1)).map Lib.itoa) := by
      have e0 : ns.take (k + 1) = ns.take k ++ [ns[k]] := by rw [List.take_add_one, List.getElem?_eq_getElem hk]; rfl
      rw [e0]
      simp only [strVals, List.map_append, List.map_cons, List.map_nil]
    rw [e1] at hown4
    exact ih (a', oN + 1, c', w4) ⟨hown4, below_push hB2 hown2 hg hB2.size⟩

end Go.Proofs.YtldgehlbicoedaaGreatDoor.Eng

/- word's Line, Cut and Lines, and the reference's Cut and Texts, walked by the engine. -/
set_option linter.unusedVariables false
set_option linter.unusedSimpArgs false
namespace Go.Proofs.YtldgehlbicoedaaGreatDoor.Eng
open Go Go.RowKit

/-- A row of texts, read at each place. -/
def StrRow (w : World) (a : Option Addr) (xs : List (List UInt8)) : Prop := ∀ (j : Nat) (s : List UInt8), xs[j]? = some s → ∃ x, a = some x ∧ x.block < w.heap.size ∧ w.cell? (x.add j) = some (.string (str s))
theorem StrRow.on {w w' : World} {a : Option Addr} {xs : List (List UInt8)} (h : StrRow w a xs) (hb : Below w.heap.size w w') : StrRow w' a xs := by
  intro j s hj
  obtain ⟨x, rfl, hx, hc⟩ := h j s hj
  exact ⟨x, rfl, Nat.lt_of_lt_of_le hx hb.size, by rw [hb.cell (by rwa [add_block])]; exact hc⟩
theorem StrRow.of_own {w : World} {base : Nat} {a : Option Addr} {n c : Nat} {xs : List (List UInt8)} (h : w.ownsRow base tStr 1 (.slice a n c) n (strVals xs)) : StrRow w a xs ∧ n = xs.length ∧ n ≤ c := by
  have hn := h.1
  rw [show (strVals xs).length = xs.length by simp [strVals]] at hn
  refine ⟨?_, by omega, ?_⟩
  · intro j s hj
    have hjl := (List.getElem?_eq_some_iff.1 hj).1
    rcases h.2 with ⟨h1, h2⟩ | ⟨g, cap, cur, h1, h2, h3, h4, h5, h6, h7⟩
    · omega
    · cases h1
      refine ⟨_, rfl, (Array.getElem?_eq_some_iff.1 h3).1, ?_⟩
      rw [add_lit, Nat.zero_add, cell_heap h3]
      have h8 : (strVals xs)[j]? = some (.string (str s)) := by simp [strVals, hj]
      rw [← h7, List.getElem?_take_of_lt (by omega)] at h8
      simpa using h8
  · obtain ⟨a', c', e, hc⟩ := own_form h
    cases e
    exact hc
theorem strVals_snoc (xs : List (List UInt8)) (s : List UInt8) : strVals xs ++ [.string (str s)] = strVals (xs ++ [s]) := by simp [strVals]
/-- 'append(xs, s)' of a row of texts. -/
theorem push_str {base : Nat} {w : World} {a : Option Addr} {n c : Nat} {xs : List (List UInt8)} (h : w.ownsRow base tStr 1 (.slice a n c) n (strVals xs)) (s : List UInt8) (hx : xs.length ≤ 1000000) (hB : base ≤ w.heap.size) :
    ∃ a' c' w3, (Builtin.append_ #[tStrs, tStrs] tStrs #[.slice a n c, .slice (some (nb w)) 1 1]).run Tryz.prog (w.alloc (.cells #[.string (str s)] tStr)) = .ok (.slice a' (n + 1) c') w3 ∧
      w3.ownsRow base tStr 1 (.slice a' (n + 1) c') (n + 1) (strVals (xs ++ [s])) ∧ ∀ w0, Below base w0 w → Below base w0 w3 := by
  have hn := (StrRow.of_own h).2.1
  obtain ⟨a', c', w4, hr, hown4, hg, _⟩ := run_push (P := Tryz.prog) tStrs tStr undStrs infoStr rfl (by decide) h [.string (str s)] rfl (by intro u hu; simp at hu; subst hu; rfl) (by omega) (by omega) hB
  rw [strVals_snoc] at hown4
  exact ⟨a', c', w4, hr, hown4, fun w0 hb => below_push hb h hg hB⟩

theorem refTexts_spec (a b : Option Addr) (ca cb : Nat) (xs ys : List (List UInt8)) (w : World) (hx : StrRow w a xs) (hy : StrRow w b ys) (hl : xs.length ≤ 1000000) :
    Calls Tryz.prog 19 #[.slice a xs.length ca, .slice b ys.length cb] w fun e w' => e = .returned (.bool (decide (xs = ys))) ∧ Below w.heap.size w w' := by
  refine calls_ret (vc19_calls a xs.length ca b ys.length cb w (fun v w' => v = .bool (decide (xs = ys)) ∧ Below w.heap.size w w') ?_) (by rintro v w' ⟨rfl, h⟩; exact ⟨rfl, h⟩)
  refine CondP.mk ?_ ?_
  · intro h
    refine ⟨?_, Below.refl _ _⟩
    rw [decide_eq_false]
    intro e
    subst e
    simp at h
  · intro h
    have hlen : (xs.length : Int) = ys.length := by simpa using h
    have hlen : xs.length = ys.length := by omega
    intro I hI
    have key := climb (α := Bool × World) xs.length (fun i x => xs.take i = ys.take i ∧ Below w.heap.size w x.2) (fun i x => I [.int .i64 (i : Int), .bool x.1] x.2) ?_ ?_ 0 (Nat.zero_le _) (false, w)
    · exact key ⟨rfl, Below.refl _ _⟩
    · rintro ⟨y4, w1⟩ ⟨he, hB⟩
      refine hI _ _ _ (CondP.no (by simp) ⟨?_, hB⟩)
      rw [List.take_length, hlen, List.take_length] at he
      rw [decide_eq_true he]
    · rintro i hi ih ⟨y4, w1⟩ ⟨he, hB⟩
      dsimp only at he hB
      refine hI _ _ _ (CondP.yes (by simp; omega) ?_)
      rintro w2 rfl
      obtain ⟨x, hxa, _, hcx⟩ := (hx.on hB) i _ (List.getElem?_eq_getElem hi)
      obtain ⟨y, hyb, _, hcy⟩ := (hy.on hB) i _ (List.getElem?_eq_getElem (show i < ys.length by omega))
      refine NilC.mk x hxa ⟨by omega, by omega, str xs[i], by simpa using hcx, NilC.mk y hyb ⟨by omega, by omega, str ys[i], by simpa using hcy, CondP.mk ?_ ?_⟩⟩
      · intro hne
        refine ⟨?_, hB.drew⟩
        rw [decide_eq_false]
        intro e
        subst e
        simp at hne
      · intro hne
        rw [beq_str] at hne
        have heq : xs[i] = ys[i] := by simpa using hne
        refine Ar.ok64 (by omega) (by omega) (ih (y4, w1.drew) ⟨?_, hB.drew⟩)
        rw [List.take_add_one, List.take_add_one, List.getElem?_eq_getElem hi, List.getElem?_eq_getElem (show i < ys.length by omega), he, heq]

abbrev Mx (w : World) : Prop := ∃ m, w.cell? ⟨0, 0, none⟩ = some (.int .i64 m)
theorem Mx.on {w w' : World} (h : Mx w) (hb : Below w.heap.size w w') : Mx w' := by
  obtain ⟨m, hm⟩ := h
  have hlt : 0 < w.heap.size := World.block_lt_of_cell? _ _ hm
  exact ⟨m, by rw [hb.cell hlt]; exact hm⟩

theorem Cut_at (l : List UInt8) (w : World) (hl : l.length ≤ 1000000) (hm : Mx w) :
    Calls Tryz.prog 47 #[.string (str l)] w fun e w' => e = .returned (.slice (some (nb w)) (cutL 32 l).length (cutL 32 l).length) ∧ StrRow w' (some (nb w)) (cutL 32 l) ∧ Below w.heap.size w w' := by
  refine calls_ret (vc47_calls (str l) w (fun v w' => v = .slice (some (nb w)) (cutL 32 l).length (cutL 32 l).length ∧ StrRow w' (some (nb w)) (cutL 32 l) ∧ Below w.heap.size w w') ?_) (by rintro v w' ⟨rfl, h⟩; exact ⟨rfl, h⟩)
  obtain ⟨m, hm⟩ := hm
  refine (Tryz.strings_Split (str l) ⟨#[32]⟩ m w (by rw [str_size]; omega) hm (Nat.le_refl 1)).mono ?_
  rintro e w1 ⟨rfl, rfl⟩
  have hlen : (cutL 32 l).length = Lib.countB (str l) ⟨#[32]⟩ + 1 := cutL_length 32 (str l)
  refine ⟨_, _, _, rfl, by rw [hlen], ?_, below_alloc _ _⟩
  intro j s hj
  refine ⟨_, rfl, by rw [alloc_size]; exact Nat.lt_succ_self _, ?_⟩
  rw [add_lit, Nat.zero_add, cell_new]
  rw [show cutL 32 l = cutL 32 (str l).data.toList from rfl, ← split_cutL] at hj
  rw [List.getElem?_map, Option.map_eq_some_iff] at hj
  obtain ⟨x, hx, rfl⟩ := hj
  simp only [List.getElem?_toArray, List.getElem?_map, hx, Option.map_some]

theorem Cut_spec (l : List UInt8) (w : World) (hl : l.length ≤ 1000000) (hm : Mx w) :
    Calls Tryz.prog 47 #[.string (str l)] w fun e w' => ∃ a c, e = .returned (.slice a (cutL 32 l).length c) ∧ StrRow w' a (cutL 32 l) ∧ Below w.heap.size w w' := by
  refine (Cut_at l w hl hm).mono ?_
  rintro e w' ⟨rfl, h⟩
  exact ⟨_, _, rfl, h⟩

theorem Lines_spec (l : List UInt8) (w : World) (hl : l.length ≤ 100000) (hm : Mx w) :
    Calls Tryz.prog 17 #[.string (str l)] w fun e w' => ∃ a c, e = .returned (.tuple #[.slice a ((cutL 10 l).length - 1) c, .bool (decide ((cutL 10 l).getLast? = some []))]) ∧ StrRow w' a (cutL 10 l).dropLast ∧ Below w.heap.size w w' := by
  refine calls_ret (vc17_calls (str l) w (fun v w' => ∃ a c, v = .tuple #[.slice a ((cutL 10 l).length - 1) c, .bool (decide ((cutL 10 l).getLast? = some []))] ∧ StrRow w' a (cutL 10 l).dropLast ∧ Below w.heap.size w w') ?_) (by rintro v w' ⟨a, c, rfl, h⟩; exact ⟨a, c, rfl, h⟩)
  intro I hI
  have key : ∀ (k : Nat) (r : List UInt8), r.length ≤ k → ∀ (done : List (List UInt8)) (a : Option Addr) (n c : Nat) (y3 : Bool) (yA : Option Addr) (yN yC : Nat) (w1 : World), cutL 10 l = done ++ cutL 10 r → done.length + r.length ≤ l.length →
      w1.ownsRow w.heap.size tStr 1 (.slice a n c) n (strVals done) → Below w.heap.size w w1 → I [.slice a n c, .bool y3, .slice yA yN yC, .string (str r)] w1 := by
    intro k
    induction k with
    | zero =>
      intro r hr done a n c y3 yA yN yC w1 hcut hle hown hB
      have : r = [] := List.eq_nil_of_length_eq_zero (by omega)
      subst this
      refine hI _ _ _ _ _ _ _ _ _ ?_
      obtain ⟨m, hm⟩ := hm.on hB
      refine (Tryz.strings_Cut (str []) ⟨#[10]⟩ m w1 (by decide) hm).mono ?_
      rintro e w2 ⟨rfl, q, rfl⟩
      refine ⟨_, _, _, rfl, ?_⟩
      rw [show Lib.cut (str []).data.toList (⟨#[10]⟩ : ByteArray).data.toList = ([], [], false) from rfl]
      refine CondP.yes rfl ?_
      obtain ⟨hrow, hn, hc⟩ := StrRow.of_own hown
      have hrow : StrRow (w1.drewN q) a done := hrow
      have hcut : cutL 10 l = done ++ [[]] := hcut
      refine ⟨a, c, ?_, ?_, hB.trans ⟨rfl, rfl, rfl, Nat.le_refl _, fun _ _ => rfl⟩⟩
      · rw [hcut]; simp [hn]
      · rw [hcut]; simpa using hrow
    | succ k ih =>
      intro r hr done a n c y3 yA yN yC w1 hcut hle hown hB
      refine hI _ _ _ _ _ _ _ _ _ ?_
      obtain ⟨m, hm1⟩ := hm.on hB
      refine (Tryz.strings_Cut (str r) ⟨#[10]⟩ m w1 (by rw [str_size]; omega) hm1).mono ?_
      rintro e w2 ⟨rfl, q, rfl⟩
      refine ⟨_, _, _, rfl, ?_⟩
      have hBq : Below w.heap.size w (w1.drewN q) := hB.trans ⟨rfl, rfl, rfl, Nat.le_refl _, fun _ _ => rfl⟩
      obtain ⟨hrow, hn, hc⟩ := StrRow.of_own hown
      have hrow : StrRow (w1.drewN q) a done := hrow
      rw [show (str r).data.toList = r from rfl, show (⟨#[10]⟩ : ByteArray).data.toList = [10] from rfl]
      rcases index_cases 10 r with h | ⟨i, h, hi⟩
      · rw [cut_miss 10 r h]
        rw [cutL_miss 10 r h] at hcut
        refine CondP.yes rfl ?_
        refine ⟨a, c, ?_, ?_, hBq⟩
        · rw [hcut, show (⟨#[]⟩ : ByteArray) = str [] from rfl, beq_str]
          simp [hn]
        · rw [hcut]; simpa using hrow
      · rw [cut_hit 10 r i h]
        rw [cutL_hit 10 r i h] at hcut
        refine CondP.no rfl ?_
        rintro w3 rfl
        obtain ⟨a', c', w4, hrun, hown4, hB4⟩ := push_str (w := w1.drewN q) (base := w.heap.size) hown (r.take i) (by omega) hBq.size
        refine ⟨_, _, _, w4, hrun, ?_⟩
        refine ih (r.drop (i + 1)) (by rw [List.length_drop]; omega) (done ++ [r.take i]) a' (n + 1) c' y3 yA yN yC w4 (by rw [hcut]; simp) ?_ hown4 (hB4 _ hBq)
        rw [List.length_append, List.length_drop]
        simp
        omega
  exact key l.length l (Nat.le_refl _) [] none 0 0 false none 0 0 w rfl (by simp) (own_nil _ _ _ _) (Below.refl _ _)

theorem refCut_spec (l : List UInt8) (c : UInt8) (w : World) (hl : l.length ≤ 100000) :
    Calls Tryz.prog 20 #[.string (str l), .int .u8 c.toNat] w fun e w' => ∃ a k, e = .returned (.slice a (cutL c l).length k) ∧ (cutL c l).length ≤ k ∧ StrRow w' a (cutL c l) ∧ Below w.heap.size w w' := by
  refine calls_ret (vc20_calls (str l) c.toNat w (fun v w' => ∃ a k, v = .slice a (cutL c l).length k ∧ (cutL c l).length ≤ k ∧ StrRow w' a (cutL c l) ∧ Below w.heap.size w w') ?_) (by rintro v w' ⟨a, k, rfl, h⟩; exact ⟨a, k, rfl, h⟩)
  intro I hI
  rw [str_size] at hI
  have key := climb (α := Nat × Option Addr × Nat × Nat × World) (l.length + 1)
    (fun i x => ∃ acc, x.2.2.2.2.ownsRow w.heap.size tStr 1 (.slice x.2.1 x.2.2.1 x.2.2.2.1) x.2.2.1 (strVals acc) ∧ Below w.heap.size w x.2.2.2.2 ∧ acc.length ≤ i ∧
      ((i ≤ l.length ∧ x.1 ≤ i ∧ cutL c l = acc ++ cutL c (l.drop x.1) ∧ c ∉ (l.drop x.1).take (i - x.1)) ∨ (i = l.length + 1 ∧ cutL c l = acc)))
    (fun i x => I [.int .i64 (i : Int), .int .i64 (x.1 : Int), .slice x.2.1 x.2.2.1 x.2.2.2.1] x.2.2.2.2) ?_ ?_ 0 (Nat.zero_le _) (0, none, 0, 0, w)
  · exact key ⟨[], own_nil _ _ _ _, Below.refl _ _, Nat.le_refl _, .inl ⟨Nat.zero_le _, Nat.le_refl _, rfl, by simp⟩⟩
  · rintro ⟨fr, a, n, k, w1⟩ ⟨acc, hown, hB, _, hh⟩
    dsimp only at hown hB hh
    refine hI _ _ _ _ _ _ (CondP.no (decide_eq_false (by omega)) ?_)
    rcases hh with ⟨h, _⟩ | ⟨_, h⟩
    · omega
    · obtain ⟨hrow, hn, hc⟩ := StrRow.of_own hown
      rw [h, ← hn]
      exact ⟨_, _, rfl, hc, hrow, hB⟩
  · rintro i hi ih ⟨fr, a, n, k, w1⟩ ⟨acc, hown, hB, hacc, hh⟩
    dsimp only at hown hB hh
    rcases hh with ⟨hil, hfr, hcut, hno⟩ | ⟨h, _⟩
    case inr => omega
    refine hI _ _ _ _ _ _ (CondP.yes (decide_eq_true (by omega)) ?_)
    intro J hJ
    refine CondP.mk ?_ ?_
    · intro h
      have h : (i : Int) = l.length := by simpa using h
      have h : i = l.length := by omega
      refine ⟨by omega, by omega, by omega, ?_⟩
      rw [Int.toNat_natCast, Int.toNat_natCast, str_extract]
      rintro w2 rfl
      obtain ⟨a', c', w3, hrun, hown3, hB3⟩ := push_str hown ((l.drop fr).take (i - fr)) (by omega) hB.size
      refine ⟨_, _, _, w3, hrun, Ar.ok64 (by omega) (by omega) (hJ _ _ _ _ _ (Ar.ok64 (by omega) (by omega) ?_))⟩
      refine ih (i + 1, a', n + 1, c', w3) ⟨_, hown3, hB3 _ hB, by simp; omega, .inr ⟨by omega, ?_⟩⟩
      rw [hcut]
      refine congrArg (acc ++ ·) ?_
      have hall : (l.drop fr).take (i - fr) = l.drop fr := List.take_of_length_le (by rw [List.length_drop]; omega)
      rw [hall] at hno ⊢
      exact cutL_last c _ hno
    · intro h
      have h : ¬ (i : Int) = l.length := by simpa using h
      have hil : i < l.length := by omega
      refine ⟨by omega, by omega, ?_⟩
      rw [btAt_str l i hil]
      refine CondP.mk ?_ ?_
      · intro he
        have he : l[i] = c := by
          have : (l[i].toNat : Int) = c.toNat := by simpa using he
          exact UInt8.toNat_inj.1 (by omega)
        refine ⟨by omega, by omega, by omega, ?_⟩
        rw [Int.toNat_natCast, Int.toNat_natCast, str_extract]
        rintro w2 rfl
        obtain ⟨a', c', w3, hrun, hown3, hB3⟩ := push_str hown ((l.drop fr).take (i - fr)) (by omega) hB.size
        refine ⟨_, _, _, w3, hrun, Ar.ok64 (by omega) (by omega) (hJ _ _ _ _ _ (Ar.ok64 (by omega) (by omega) ?_))⟩
        refine ih (i + 1, a', n + 1, c', w3) ⟨_, hown3, hB3 _ hB, by simp; omega, .inl ⟨by omega, by omega, ?_, by simp⟩⟩
        have hsplit : l.drop fr = (l.drop fr).take (i - fr) ++ c :: l.drop (i + 1) := by
          conv => lhs; rw [← List.take_append_drop (i - fr) (l.drop fr)]
          rw [List.drop_drop, show fr + (i - fr) = i by omega, List.drop_eq_getElem_cons hil, he]
        rw [hcut]
        conv => lhs; rw [hsplit, cutL_app c _ _ hno]
        simp
      · intro he
        have he : l[i] ≠ c := by
          intro e
          rw [e] at he
          simp at he
        refine hJ _ _ _ _ _ (Ar.ok64 (by omega) (by omega) ?_)
        refine ih (fr, a, n, k, w1) ⟨acc, hown, hB, by omega, .inl ⟨by omega, by omega, hcut, ?_⟩⟩
        rw [show i + 1 - fr = (i - fr) + 1 by omega, List.take_add_one, List.getElem?_drop, show fr + (i - fr) = i by omega, List.getElem?_eq_getElem hil]
        simp only [Option.toList_some, List.mem_append, List.mem_singleton, not_or]
        exact ⟨hno, fun e => he e.symm⟩

theorem lens_le (k : Nat) (xs : List (List UInt8)) (h : ∀ x ∈ xs, x.length ≤ k) : Lib.lens xs ≤ k * xs.length := by
  induction xs with
  | nil => simp [Lib.lens]
  | cons x xs ih =>
    have h1 := h x (by simp)
    have h2 := ih fun y hy => h y (by simp [hy])
    simp [Lib.lens, Nat.mul_add] at *
    omega
/-- A row of texts among the arguments. -/
def ArgStrs (w : World) (a : Option Addr) (c : Nat) (xs : List (List UInt8)) : Prop := StrRow w a xs ∧ ((a = none ∧ c = 0 ∧ xs = []) ∨ a.isSome = true)

theorem Line_spec (first : List UInt8) (a : Option Addr) (c : Nat) (more : List (List UInt8)) (w : World) (hm : ArgStrs w a c more) (hf : first.length ≤ 100000) (hl : ∀ x ∈ more, x.length ≤ 100000) (hn : more.length ≤ 20) :
    Calls Tryz.prog 54 #[.string (str first), .slice a more.length c] w fun e w' => e = .returned (.string (str (Lib.join (first :: more) [32]))) ∧ Below w.heap.size w w' := by
  refine calls_ret (vc54_calls (str first) a more.length c w (fun v w' => v = .string (str (Lib.join (first :: more) [32])) ∧ Below w.heap.size w w') ?_) (by rintro v w' ⟨rfl, h⟩; exact ⟨rfl, h⟩)
  rintro w1 rfl
  have hown : (w.alloc (.cells #[.string (str first)] tStr)).ownsRow w.heap.size tStr 1 (.slice (some (nb w)) 1 1) 1 (strVals [first]) :=
    ⟨rfl, .inr ⟨w.heap.size, 1, #[.string (str first)], rfl, Nat.le_refl _, alloc_new _ _, Nat.le_refl _, by decide, rfl, rfl⟩⟩
  have hB1 := below_alloc w (.cells #[.string (str first)] tStr)
  obtain ⟨i, hi', hz, hs, hb⟩ := info_parts infoStr
  have hjl : (Lib.join (first :: more) [32]).length ≤ 140737488355328 := by
    rw [Lib.join_length]
    have := lens_le 100000 (first :: more) (fun x hx => (List.mem_cons.1 hx).elim (fun e => by rw [e]; exact hf) (hl x))
    simp at this ⊢
    omega
  have fin : ∀ (a' : Option Addr) (n' c' : Nat) (w2 : World), w2.ownsRow w.heap.size tStr 1 (.slice a' n' c') n' (strVals (first :: more)) → Below w.heap.size w w2 →
      Calls Tryz.prog 55 #[.slice a' n' c', .string (str [32])] w2 (fun e3 w3 => ∃ s : ByteArray, e3 = .returned (Value.string s) ∧ (Value.string s = .string (str (Lib.join (first :: more) [32])) ∧ Below w.heap.size w w3)) := by
    intro a' n' c' w2 hown2 hB2
    refine (join_own hown2 (by simp) [32] hjl (by simp; omega)).mono ?_
    rintro e w3 ⟨rfl, h3⟩
    exact ⟨_, rfl, rfl, below_then hB2 h3⟩
  rcases hm.2 with ⟨rfl, rfl, rfl⟩ | hsome
  · have hrun := run_append_owned_none (P := Tryz.prog) (w := w.alloc (.cells #[.string (str first)] tStr)) w.heap.size tStrs tStrs tStr i 1 undStrs hi' _ 1 _ hown
    exact ⟨_, _, _, _, hrun, fin _ _ _ _ hown hB1⟩
  · obtain ⟨x, rfl⟩ := Option.isSome_iff_exists.1 hsome
    obtain ⟨v', w2, hrun, hown2, hg, _, _⟩ := run_append_own_at (P := Tryz.prog) (w.alloc (.cells #[.string (str first)] tStr)) w.heap.size tStrs tStrs tStr i _ 1 16 undStrs hi' hz hs hb rfl (by decide) _ 1 _ hown x more.length c (strVals more) (by simp [strVals])
      (fun j u hj => by
        simp only [strVals, List.getElem?_map, Option.map_eq_some_iff] at hj
        obtain ⟨s, hs, rfl⟩ := hj
        obtain ⟨y, hy, _, hc⟩ := (hm.1.on hB1) j s hs
        cases hy
        exact hc)
      (by intro u hu; simp [strVals] at hu; obtain ⟨s, _, rfl⟩ := hu; rfl) (by simp [maxLen]; omega) (by omega) hB1.size
    obtain ⟨a', c', rfl, _⟩ := own_form hown2
    have hnn : 1 + more.length = (first :: more).length := by simp; omega
    refine ⟨_, _, _, w2, hrun, fin _ _ _ _ ?_ (hB1.grown hg hB1.size fun k hk => (own_lt hown k hk).1)⟩
    simpa [strVals] using hown2

theorem StrRow.dropLast {w : World} {a : Option Addr} {xs : List (List UInt8)} (h : StrRow w a xs) : StrRow w a xs.dropLast := by
  intro j s hj
  rw [List.getElem?_dropLast] at hj
  split at hj
  · exact h j s hj
  · cases hj
end Go.Proofs.YtldgehlbicoedaaGreatDoor.Eng

/- word's Parse, the reference's Parse and Number, and the law WordNumbers, walked by the engine. -/
set_option linter.unusedVariables false
set_option linter.unusedSimpArgs false
namespace Go.Proofs.YtldgehlbicoedaaGreatDoor.Eng
open Go Go.RowKit

theorem run_one_byte (b : UInt8) (w : World) : (convert tBytes tStr (.slice (some (nb w)) 1 1)).run Tryz.prog (w.alloc (.cells #[.int .u8 b.toNat] tU8)) = .ok (.string (str [b])) (w.alloc (.cells #[.int .u8 b.toNat] tU8)) :=
  run_convert_bytes_back (P := Tryz.prog) (w.alloc (.cells #[.int .u8 b.toNat] tU8)) tBytes tStr tU8 (nb w) 1 [b] undBytes undU8 undStr (by
      intro j hj
      rw [add_lit, Nat.zero_add, cell_new]
      match j, hj with
      | 0, _ => rfl)
theorem digit_u8 (m : Nat) (h : m < 10) : IntKind.wrap .u8 ((48 : Int) + (m : Int)) = ((UInt8.ofNat (48 + m)).toNat : Int) := by
  rw [wrap_in (k := .u8) (by simp [IntKind.min, IntKind.signed]; omega) (by simp [IntKind.max, IntKind.signed, IntKind.bits]; omega), dig_u8 m h]
  omega
theorem dec_big (m : Nat) (h : 10 ≤ m) : Lib.decDigits m = Lib.decDigits (m / 10) ++ [UInt8.ofNat (48 + m % 10)] := by
  rw [Lib.decDigits, dif_neg (by omega)]

theorem refNumber_spec (n : Int) (w : World) (hn : I64 n) :
    Calls Tryz.prog 51 #[.int .i64 n] w fun e w' => e = .returned (.string (str (Lib.itoa n))) ∧ Below w.heap.size w w' := by
  refine calls_ret (vc51_calls n w (fun v w' => v = .string (str (Lib.itoa n)) ∧ Below w.heap.size w w') ?_) (by rintro v w' ⟨rfl, h⟩; exact ⟨rfl, h⟩)
  have hlen := itoa_length n hn
  refine CondP.mk ?_ ?_
  · intro h
    have h := of_decide_eq_true h
    obtain ⟨u, rfl⟩ : ∃ u : Nat, n = u := ⟨n.toNat, by omega⟩
    rw [Lib.itoa_nonneg] at hlen ⊢
    intro I hI
    have hu : u < 9223372036854775808 := by have := hn.2; omega
    have key : ∀ (k : Nat) (m : Nat), m ≤ k → m < 9223372036854775808 → ∀ (s : List UInt8) (w1 : World), Below w.heap.size w w1 → ((s = [] ∧ m = u) ∨ (s ≠ [] ∧ 0 < m ∧ Lib.decDigits u = Lib.decDigits m ++ s) ∨ (s ≠ [] ∧ m = 0 ∧ Lib.decDigits u = s)) → I [.string (str s), .int .i64 (m : Int)] w1 := by
      intro k
      induction k using Nat.strongRecOn with
      | _ k ih =>
        intro m hmk hm63 s w1 hB hs
        have hslen : s.length ≤ 21 := by
          rcases hs with ⟨h, _⟩ | ⟨_, _, h⟩ | ⟨_, _, h⟩
          · rw [h]; simp
          · rw [h] at hlen; simp at hlen; omega
          · rw [h] at hlen; omega
        have hmod : Int.tmod (m : Int) 10 = ((m % 10 : Nat) : Int) := rfl
        have hdiv : Int.tdiv (m : Int) 10 = ((m / 10 : Nat) : Int) := rfl
        have next : (0 < m ∨ s = []) → ∀ w2, w2 = w1.alloc (.cells #[Value.int .u8 (IntKind.wrap .u8 ((48 : Int) + ((m % 10 : Nat) : Int)))] tU8) →
            ∃ s_4 : ByteArray, ∃ w3 : World, (convert tBytes tStr (Value.slice (some (nb w1)) 1 1)).run Tryz.prog w2 = .ok (Value.string s_4) w3 ∧
            (((s_4 : ByteArray).size + (str s : ByteArray).size : Nat) : Int) ≤ IntKind.i64.max ∧ (10 : Int) ≠ 0 ∧
            I [Value.string ((s_4 : ByteArray) ++ (str s : ByteArray)), Value.int .i64 (IntKind.wrap .i64 ((m / 10 : Nat) : Int))] w3 := by
          rintro hgo w2 rfl
          rw [digit_u8 _ (by omega)]
          refine ⟨_, _, run_one_byte _ _, ?_, by decide, ?_⟩
          · rw [str_size, str_size]
            simp [IntKind.max, IntKind.signed, IntKind.bits]
            omega
          · rw [wrap_in (k := .i64) (by simp [IntKind.min, IntKind.signed, IntKind.bits]; omega) (by simp [IntKind.max, IntKind.signed, IntKind.bits]; omega), str_append]
            by_cases h10 : m < 10
            · have hm0 : m / 10 = 0 := by omega
              have hend : ∀ w2, Below w.heap.size w w2 → I [.string (str ([UInt8.ofNat (48 + m % 10)] ++ s)), .int .i64 ((0 : Nat) : Int)] w2 := by
                intro w2 hB2
                refine hI _ _ _ (CondP.no (by simp) (CondP.no ?_ ⟨?_, hB2⟩))
                · rw [beq_nil]; simp
                · rw [show m % 10 = m by omega, ← Lib.decDigits_one h10]
                  rcases hs with ⟨h, hmu⟩ | ⟨_, _, h⟩ | ⟨h, h0, _⟩
                  · rw [h, ← hmu]; simp
                  · rw [h]
                  · rcases hgo with h1 | h1
                    · omega
                    · exact absurd h1 h
              rw [hm0]
              exact hend _ (hB.alloc hB.size _)
            · refine ih (m / 10) (by omega) (m / 10) (Nat.le_refl _) (by omega) _ _ (hB.alloc hB.size _) (.inr (.inl ⟨by simp, by omega, ?_⟩))
              have hd := dec_big m (by omega)
              rcases hs with ⟨h, hmu⟩ | ⟨_, _, h⟩ | ⟨_, h0, _⟩
              · rw [h, ← hmu, hd]; simp
              · rw [h, hd]; simp
              · omega
        refine hI _ _ _ (CondP.mk ?_ ?_)
        · intro hpos
          have hpos := of_decide_eq_true hpos
          rw [hmod, hdiv]
          exact ⟨by decide, Ar.ok64 (by omega) (by omega) (next (.inl (by omega)))⟩
        · intro hpos
          have hpos := of_decide_eq_false hpos
          refine CondP.mk ?_ ?_
          · intro hs0
            rw [beq_nil] at hs0
            rw [hmod, hdiv]
            exact ⟨by decide, Ar.ok64 (by omega) (by omega) (next (.inr (of_decide_eq_true hs0)))⟩
          · intro hs0
            rw [beq_nil] at hs0
            have hs0 := of_decide_eq_false hs0
            refine ⟨?_, hB⟩
            rcases hs with ⟨h, _⟩ | ⟨_, h, _⟩ | ⟨_, _, h⟩
            · exact absurd h hs0
            · omega
            · rw [h]
    exact key u u (Nat.le_refl _) hu [] w (Below.refl _ _) (.inl ⟨rfl, rfl⟩)
  · intro h
    have h := of_decide_eq_false h
    obtain ⟨u, hu0, rfl⟩ : ∃ u : Nat, 1 ≤ u ∧ n = -(u : Int) := ⟨(-n).toNat, by omega, by omega⟩
    rw [Lib.itoa_neg u hu0] at hlen ⊢
    intro I hI
    have hu : u ≤ 9223372036854775808 := by have := hn.1; omega
    have key : ∀ (k : Nat) (m : Nat), m ≤ k → m ≤ 9223372036854775808 → ∀ (s : List UInt8) (w1 : World), Below w.heap.size w w1 → ((0 < m ∧ Lib.decDigits u = Lib.decDigits m ++ s) ∨ (m = 0 ∧ Lib.decDigits u = s)) → I [.string (str s), .int .i64 (-(m : Int))] w1 := by
      intro k
      induction k using Nat.strongRecOn with
      | _ k ih =>
        intro m hmk hm63 s w1 hB hs
        have hslen : s.length ≤ 21 := by
          rcases hs with ⟨_, h⟩ | ⟨_, h⟩
          · rw [h] at hlen; simp at hlen; omega
          · rw [h] at hlen; simp at hlen; omega
        have hmod : Int.tmod (-(m : Int)) 10 = -((m % 10 : Nat) : Int) := by rw [Int.neg_tmod]; rfl
        have hdiv : Int.tdiv (-(m : Int)) 10 = -((m / 10 : Nat) : Int) := by rw [Int.neg_tdiv]; rfl
        refine hI _ _ _ (CondP.mk ?_ ?_)
        · intro hpos
          have hpos := of_decide_eq_true hpos
          rw [hmod, hdiv, show (48 : Int) - -((m % 10 : Nat) : Int) = 48 + ((m % 10 : Nat) : Int) by omega]
          refine ⟨by decide, Ar.ok64 (by omega) (by omega) ?_⟩
          rw [digit_u8 _ (by omega)]
          rintro w2 rfl
          refine ⟨_, _, run_one_byte _ _, ?_, by decide, ?_⟩
          · rw [str_size, str_size]
            simp [IntKind.max, IntKind.signed, IntKind.bits]
            omega
          · rw [wrap_in (k := .i64) (by simp [IntKind.min, IntKind.signed, IntKind.bits]; omega) (by simp [IntKind.max, IntKind.signed, IntKind.bits]; omega), str_append]
            refine ih (m / 10) (by omega) (m / 10) (Nat.le_refl _) (by omega) _ _ (hB.alloc hB.size _) ?_
            rcases hs with ⟨_, h⟩ | ⟨h0, _⟩
            · by_cases h10 : m < 10
              · right
                refine ⟨by omega, ?_⟩
                rw [h, Lib.decDigits_one h10, show m % 10 = m by omega]
              · left
                refine ⟨by omega, ?_⟩
                rw [h, dec_big m (by omega)]
                simp
            · omega
        · intro hpos
          have hpos := of_decide_eq_false hpos
          refine ⟨?_, ?_, hB⟩
          · rw [show (⟨#[45]⟩ : ByteArray) = str [45] from rfl, str_size, str_size]
            simp [IntKind.max, IntKind.signed, IntKind.bits]
            omega
          · rw [show (⟨#[45]⟩ : ByteArray) = str [45] from rfl, str_append]
            rcases hs with ⟨h, _⟩ | ⟨_, h⟩
            · omega
            · rw [h]; rfl
    exact key u u (Nat.le_refl _) hu [] w (Below.refl _ _) (.inl ⟨by omega, by simp⟩)

/-- What a parse hands back. -/
def pres : Option Nat → Value
  | some u => .tuple #[.int .i64 u, .bool true]
  | none => .tuple #[.int .i64 0, .bool false]
theorem CondP.share {b c : Bool} {x y A B : Prop} (hx : b = true → x ∧ y) (hA : b = true → c = true → A) (hB : (b = true → c = false) → B) : CondP b (x ∧ y ∧ CondP c A B) B := by
  refine CondP.mk (fun hb => ⟨(hx hb).1, (hx hb).2, CondP.mk (hA hb) fun hc => hB fun _ => hc⟩) fun hb => hB fun e => ?_
  rw [hb] at e
  cases e

theorem refParse_spec (l : List UInt8) (most : Int) (w : World) (hl : l.length ≤ 1000000) :
    Calls Tryz.prog 49 #[.string (str l), .int .i64 most] w fun e w' => e = .returned (pres (parseT l most)) ∧ w' = w := by
  refine calls_ret (vc49_calls (str l) most w (fun v w' => v = pres (parseT l most) ∧ w' = w) ?_) (by rintro v w' ⟨rfl, h⟩; exact ⟨rfl, h⟩)
  have none_of : (∀ u : Nat, u ≤ maxI → (u : Int) ≤ most → Lib.decDigits u ≠ l) → Value.tuple #[.int .i64 0, .bool false] = pres (parseT l most) := fun h => by rw [parseT_none l most h]; rfl
  refine CondP.mk ?_ ?_
  · intro h
    refine ⟨none_of fun u _ _ e => ?_, rfl⟩
    have : l.length = 0 := by simpa [str_size] using h
    exact dec_ne u (by rw [e]; exact List.eq_nil_of_length_eq_zero this)
  · intro h
    have hne : l ≠ [] := by
      intro e; subst e; simp [str_size] at h
    have hpos : 0 < l.length := List.length_pos_iff.2 hne
    refine CondP.mk ?_ ?_
    · intro h
      have h := of_decide_eq_true h
      rw [str_size] at h
      refine ⟨none_of fun u hu _ e => ?_, rfl⟩
      have := dec_length 18 u (by unfold maxI at hu; omega)
      rw [e] at this
      omega
    · intro h19
      have h19 := of_decide_eq_false h19
      rw [str_size] at h19
      refine CondP.share ?_ ?_ ?_
      · intro h1
        have h1 := of_decide_eq_true h1
        exact ⟨by decide, by omega⟩
      · intro h1 h48
        have h1 := of_decide_eq_true h1
        rw [str_size] at h1
        refine ⟨none_of fun u _ _ e => ?_, rfl⟩
        have hd := (dec_numeral u).2.2 (by rw [e]; omega)
        apply hd
        rw [e, List.head?_eq_getElem?, List.getElem?_eq_getElem hpos]
        have hb := btAt_str l 0 hpos
        rw [show ((0 : Nat) : Int) = 0 from rfl] at hb
        rw [hb] at h48
        have h48 : (l[0].toNat : Int) = 48 := by simpa using h48
        congr 1
        exact UInt8.toNat_inj.1 (by show l[0].toNat = 48; omega)
      · intro hno I hI
        have hhead : 1 < l.length → l.head? ≠ some 48 := by
          intro h1 e
          have h48 := hno (decide_eq_true (by rw [str_size]; omega))
          have hb := btAt_str l 0 hpos
          rw [show ((0 : Nat) : Int) = 0 from rfl] at hb
          rw [hb] at h48
          rw [List.head?_eq_getElem?, List.getElem?_eq_getElem hpos] at e
          simp only [Option.some.injEq] at e
          rw [e] at h48
          simp at h48
        rw [str_size] at hI
        have key := climb (α := Nat × Bool × Int × World) l.length
          (fun i x => x.1 = nval 0 (l.take i) ∧ (∀ b ∈ l.take i, isD b) ∧ x.1 ≤ maxI ∧ x.2.2.2 = w)
          (fun i x => I [.int .i64 (i : Int), .int .i64 (x.1 : Int), .bool x.2.1, .int .i64 x.2.2.1] x.2.2.2) ?_ ?_ 0 (Nat.zero_le _) (0, false, 0, w)
        · exact key ⟨by rw [List.take_zero, nval_nil], by simp, by simp, rfl⟩
        · rintro ⟨n, y5, y4, w1⟩ ⟨hn, hd, hmax, hw⟩
          dsimp only at hn hmax hw
          subst hw
          rw [List.take_length] at hn hd
          refine hI _ _ _ _ _ (CondP.no (by simp) (CondP.mk ?_ ?_))
          · intro hm
            have hm := of_decide_eq_true hm
            refine ⟨none_of fun u _ hu e => ?_, rfl⟩
            rw [← e, nval_dec] at hn
            omega
          · intro hm
            have hm := of_decide_eq_false hm
            refine ⟨?_, rfl⟩
            rw [parseT_some l most n hmax (by omega) (by rw [hn]; exact numeral_dec l.length l (Nat.le_refl _) ⟨hne, hd, hhead⟩)]
            rfl
        · rintro i hi ih ⟨n, y5, y4, w1⟩ ⟨hn, hd, hmax, hw⟩
          dsimp only at hn hmax hw
          subst hw
          unfold maxI at hmax
          have bad : ¬ isD l[i] → Value.tuple #[.int .i64 0, .bool false] = pres (parseT l most) := fun hb => none_of fun u _ _ e => hb (dec_digits u _ (by rw [e]; exact List.getElem_mem hi))
          have hb8 := l[i].toNat_lt
          refine hI _ _ _ _ _ (CondP.yes (by simp; omega) ⟨by omega, by omega, ?_⟩)
          rw [btAt_str l i hi]
          refine CondP.mk ?_ ?_
          · intro h
            have h := of_decide_eq_true h
            exact ⟨bad fun hb => by unfold isD at hb; omega, rfl⟩
          · intro h48
            have h48 := of_decide_eq_false h48
            refine ⟨by omega, by omega, CondP.mk ?_ ?_⟩
            · intro h
              have h := of_decide_eq_true h
              exact ⟨bad fun hb => by unfold isD at hb; omega, rfl⟩
            · intro h57
              have h57 := of_decide_eq_false h57
              refine ⟨by omega, by omega, Ar.ok (k := .u8) (by simp [IntKind.min, IntKind.signed]; omega) (by simp [IntKind.max, IntKind.signed, IntKind.bits]; omega) ?_⟩
              rw [wrap_in (k := .i64) (z := (l[i].toNat : Int) - 48) (by simp [IntKind.min, IntKind.signed, IntKind.bits]; omega) (by simp [IntKind.max, IntKind.signed, IntKind.bits]; omega)]
              refine Ar.ok64 (by omega) (by omega) ⟨by decide, ?_⟩
              have hq : Int.tdiv ((9223372036854775807 : Int) - ((l[i].toNat : Int) - 48)) 10 = (((9223372036854775807 - (l[i].toNat - 48)) / 10 : Nat) : Int) := by
                rw [show (9223372036854775807 : Int) - ((l[i].toNat : Int) - 48) = ((9223372036854775807 - (l[i].toNat - 48) : Nat) : Int) by omega]
                rfl
              rw [hq, wrap_in (k := .i64) (by simp [IntKind.min, IntKind.signed, IntKind.bits]; omega) (by simp [IntKind.max, IntKind.signed, IntKind.bits]; omega)]
              have htake : l.take (i + 1) = l.take i ++ [l[i]] := by rw [List.take_add_one, List.getElem?_eq_getElem hi]; rfl
              have hnv : nval 0 (l.take (i + 1)) = 10 * n + (l[i].toNat - 48) := by rw [htake, nval_append, nval_one, ← hn]; rfl
              refine CondP.mk ?_ ?_
              · intro hbig
                have hbig := of_decide_eq_true hbig
                refine ⟨none_of fun u hu _ e => ?_, rfl⟩
                have hv := nval_dec u
                rw [e] at hv
                have hge : nval 0 (l.take (i + 1)) ≤ nval 0 l := by
                  conv => rhs; rw [← List.take_append_drop (i + 1) l, nval_append]
                  exact nval_ge _ _
                unfold maxI at hu
                omega
              · intro hbig
                have hbig := of_decide_eq_false hbig
                refine Ar.ok64 (by omega) (by omega) ⟨by omega, by omega, Ar.ok (k := .u8) (by simp [IntKind.min, IntKind.signed]; omega) (by simp [IntKind.max, IntKind.signed, IntKind.bits]; omega) ?_⟩
                rw [wrap_in (k := .i64) (z := (l[i].toNat : Int) - 48) (by simp [IntKind.min, IntKind.signed, IntKind.bits]; omega) (by simp [IntKind.max, IntKind.signed, IntKind.bits]; omega)]
                refine Ar.ok64 (by omega) (by omega) (Ar.ok64 (by omega) (by omega) ?_)
                rw [show (10 : Int) * n + ((l[i].toNat : Int) - 48) = ((10 * n + (l[i].toNat - 48) : Nat) : Int) by omega]
                refine ih (10 * n + (l[i].toNat - 48), y5, y4, w1) ⟨hnv.symm, ?_, by unfold maxI; omega, rfl⟩
                intro b hb
                rw [htake] at hb
                rcases List.mem_append.1 hb with hb | hb
                · exact hd b hb
                · simp only [List.mem_singleton] at hb
                  subst hb
                  unfold isD
                  omega

theorem neq_nil (n : Nat) (w : World) : (do eqGuard .neq 99 (.tmp n) (.const Value.nilIface) Value.nilIface Value.nilIface; binOp .neq 99 Value.nilIface Value.nilIface).run Tryz.prog w = .ok (.bool false) w := by kernel_rfl
theorem neq_some (k : TypeId) (p : Option Addr) (n : Nat) (w : World) : (do eqGuard .neq 99 (.tmp n) (.const Value.nilIface) (Value.iface k (.pointer p)) Value.nilIface; binOp .neq 99 (Value.iface k (.pointer p)) Value.nilIface).run Tryz.prog w = .ok (.bool true) w := by kernel_rfl

/-- The two errors that strconv.Atoi hands back stand where they were laid. -/
abbrev Errs (w : World) : Prop := (∃ tp p, w.var? Tryz.prog "strconv.ErrSyntax" = some #[.iface tp p]) ∧ (∃ tp p, w.var? Tryz.prog "strconv.ErrRange" = some #[.iface tp p])
theorem var_on {P : Program} {w w' : World} {n : String} {cs : Array Value} (h : w.var? P n = some cs) (hb : Below w.heap.size w w') : w'.var? P n = some cs := by
  unfold World.var? at *
  cases hg : P.globalNamed n with
  | none => simp [hg] at h
  | some g =>
    simp only [hg, Option.bind_some] at h ⊢
    have hlt : g < w.heap.size := by
      rcases Nat.lt_or_ge g w.heap.size with h' | h'
      · exact h'
      · rw [Array.getElem?_eq_none h'] at h; simp at h
    rw [hb.block g hlt]
    exact h
theorem Errs.on {w w' : World} (h : Errs w) (hb : Below w.heap.size w w') : Errs w' := by
  obtain ⟨⟨t1, p1, h1⟩, ⟨t2, p2, h2⟩⟩ := h
  exact ⟨⟨t1, p1, var_on h1 hb⟩, ⟨t2, p2, var_on h2 hb⟩⟩

theorem atoi_within {l : List UInt8} {v : Int} (h : Lib.atoiAll l = .ok v) : I64 v := by
  unfold I64
  cases l with
  | nil => simp [Lib.atoiAll] at h
  | cons c r =>
    simp only [Lib.atoiAll] at h
    split at h
    · cases h
    · cases h
    · split at h
      · cases h
      · split at h
        · cases h
        · injection h with h
          split at h <;> omega

theorem Parse_spec (l : List UInt8) (most : Int) (w : World) (hl : l.length ≤ 1000000) (ht : Pow w) (he : Errs w) :
    Calls Tryz.prog 90 #[.string (str l), .int .i64 most] w fun e w' => e = .returned (pres (parseT l most)) ∧ Below w.heap.size w w' := by
  refine calls_ret (vc90_calls (str l) most w (fun v w' => v = pres (parseT l most) ∧ Below w.heap.size w w') ?_) (by rintro v w' ⟨rfl, h⟩; exact ⟨rfl, h⟩)
  have none_of : (∀ u : Nat, u ≤ maxI → (u : Int) ≤ most → Lib.decDigits u ≠ l) → Value.tuple #[.int .i64 0, .bool false] = pres (parseT l most) := fun h => by rw [parseT_none l most h]; rfl
  have bad : ∀ {tp : TypeId} {x : Int} {w1 : World} {N : Nat}, (∀ v, Lib.atoiAll l ≠ .ok v) → Below w.heap.size w w1 → Value.tuple #[.int .i64 0, .bool false] = pres (parseT l most) ∧ Below w.heap.size w w1 := by
    intro tp x w1 N h hb
    exact ⟨none_of fun u hu _ e => h u (by rw [← e]; exact atoi_dec u hu), hb⟩
  cases h : Lib.atoiAll l
  case ok v =>
    have hv := atoi_within h
    refine (Tryz.strconv_Atoi_ok (str l) (by rw [str_size]; omega) v h w).mono ?_
    rintro e w1 ⟨rfl, hw⟩
    have hb : Below w.heap.size w w1 := by
      rcases hw with rfl | ⟨t, rfl⟩
      · exact Below.refl _ _
      · exact Lib.bytesWorld_below _ _ _
    refine ⟨_, _, rfl, _, _, neq_nil _ _, CondP.no rfl (CondP.mk ?_ ?_)⟩
    · intro h0
      have h0 := of_decide_eq_true h0
      refine ⟨none_of fun u hu _ e => ?_, hb⟩
      rw [← e, atoi_dec u hu] at h
      injection h with h
      omega
    · intro h0
      have h0 := of_decide_eq_false h0
      refine CondP.mk ?_ ?_
      · intro hm
        have hm := of_decide_eq_true hm
        refine ⟨none_of fun u hu hum e => ?_, hb⟩
        rw [← e, atoi_dec u hu] at h
        injection h with h
        omega
      · intro hm
        have hm := of_decide_eq_false hm
        refine (Number_spec v w1 hv (ht.on hb)).mono ?_
        rintro e w3 ⟨rfl, h3⟩
        have hb3 := below_then hb h3
        obtain ⟨u, rfl⟩ : ∃ u : Nat, v = u := ⟨v.toNat, by omega⟩
        rw [Lib.itoa_nonneg]
        refine ⟨_, rfl, CondP.mk ?_ ?_⟩
        · intro hne
          rw [beq_str] at hne
          have hne : Lib.decDigits u ≠ l := by simpa using hne
          refine ⟨none_of fun u' hu' _ e => ?_, hb3⟩
          rw [← e, atoi_dec u' hu'] at h
          injection h with h
          have : u' = u := by omega
          subst this
          exact hne e
        · intro heq
          rw [beq_str] at heq
          have heq : Lib.decDigits u = l := by simpa using heq
          refine ⟨?_, hb3⟩
          have hmax := hv.2
          rw [parseT_some l most u (by unfold maxI; omega) (by omega) heq]
          rfl
  case range =>
    obtain ⟨_, ⟨tp, p, hvar⟩⟩ := he
    refine (Tryz.strconv_Atoi_range_var (str l) (by rw [str_size]; omega) h tp p w hvar).mono ?_
    rintro e w1 ⟨N, rfl, _, _, hb⟩
    exact ⟨_, _, rfl, _, _, neq_some _ _ _ _, CondP.yes rfl (bad (tp := tp) (x := 0) (N := N) (fun v hv => by rw [hv] at h; cases h) hb)⟩
  obtain ⟨⟨tp, p, hvar⟩, _⟩ := he
  refine (Tryz.strconv_Atoi_syntax_var (str l) (by rw [str_size]; omega) (by rw [show (str l).data.toList = l from rfl, h]; trivial) tp p w hvar).mono ?_
  rintro e w1 ⟨N, rfl, _, _, hb⟩
  exact ⟨_, _, rfl, _, _, neq_some _ _ _ _, CondP.yes rfl (bad (tp := tp) (x := 0) (N := N) (fun v hv => by rw [hv] at h; cases h) hb)⟩
end Go.Proofs.YtldgehlbicoedaaGreatDoor.Eng
