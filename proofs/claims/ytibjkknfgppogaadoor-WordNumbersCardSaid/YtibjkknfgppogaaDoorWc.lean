/- word's and its reference's Unhex, and the reference's Hex, walked by the engine. -/
import Derived.Test.YtibjkknfgppogaaDoorWb
import Derived.Laws.MakeOwn
set_option linter.unusedVariables false
set_option linter.unusedSimpArgs false
namespace Go.Proofs.YtibjkknfgppogaaDoor.Eng
open Go Go.RowKit

def unRes : Option (List UInt8) → Value
  | some r => .tuple #[.string (str r), .bool true]
  | none => .tuple #[.string (str []), .bool false]
theorem beq_str (a b : List UInt8) : ((str a).toList == (str b).toList) = decide (a = b) := by
  rw [str_toList, str_toList]
  by_cases h : a = b
  · subst h; simp
  · simp [h]
/-- What a round of reading finds, told of the whole. -/
theorem pairs_step (l acc : List UInt8) (i : Nat) (h : i + 1 < l.length) (hp : pairs l = (pairs (l.drop i)).map (acc ++ ·)) (x y : Nat) (hx : dig l[i] = some x) (hy : dig l[i + 1] = some y) :
    pairs l = (pairs (l.drop (i + 2))).map ((acc ++ [UInt8.ofNat (16 * x + y)]) ++ ·) := by
  rw [hp, List.drop_eq_getElem_cons (show i < l.length by omega), List.drop_eq_getElem_cons (show i + 1 < l.length by omega)]
  simp only [pairs, hx, hy]
  cases pairs (l.drop (i + 1 + 1)) with
  | none => rfl
  | some r => simp
theorem pairs_bad (l acc : List UInt8) (i : Nat) (h : i + 1 < l.length) (hp : pairs l = (pairs (l.drop i)).map (acc ++ ·)) (hb : dig l[i] = none ∨ dig l[i + 1] = none) : pairs l = none := by
  rw [hp, List.drop_eq_getElem_cons (show i < l.length by omega), List.drop_eq_getElem_cons (show i + 1 < l.length by omega)]
  rcases hb with hb | hb
  · simp [pairs, hb]
  · simp only [pairs, hb]
    cases dig l[i] <;> rfl
theorem pairs_done (l acc : List UInt8) (i : Nat) (h : l.length ≤ i) (hp : pairs l = (pairs (l.drop i)).map (acc ++ ·)) : pairs l = some acc := by
  rw [hp, List.drop_eq_nil_of_le h]
  simp [pairs]
theorem pairs_one (l acc : List UInt8) (i : Nat) (h : i + 1 = l.length) (hp : pairs l = (pairs (l.drop i)).map (acc ++ ·)) : pairs l = none := by
  rw [hp, List.drop_eq_getElem_cons (show i < l.length by omega), List.drop_eq_nil_of_le (by omega)]
  simp [pairs]
theorem pairs_even (n : Nat) : ∀ l : List UInt8, l.length ≤ n → ∀ r, pairs l = some r → l.length = 2 * r.length := by
  induction n with
  | zero =>
    intro l hl r h
    cases l with
    | nil => simp [pairs] at h; subst h; rfl
    | cons a l => simp at hl
  | succ n ih =>
    intro l hl r h
    match l, hl, h with
    | [], _, h => simp [pairs] at h; subst h; rfl
    | [_], _, h => simp [pairs] at h
    | a :: b :: l, hl, h =>
      simp only [pairs] at h
      split at h
      · rename_i x y r' _ _ hr
        cases h
        have := ih l (by simp at hl; omega) _ hr
        simp
        omega
      · cases h
theorem unhexT_pairs (l : List UInt8) (h1 : l ≠ [45]) (h2 : l ≠ []) : unhexT l = pairs l := by
  unfold unhexT
  rw [if_neg h1, if_neg h2]
theorem sum_hex (x y : Nat) (hx : x < 16) (hy : y < 16) : IntKind.wrap .u8 ((x : Int) * 16 + y) = ((UInt8.ofNat (16 * x + y)).toNat : Int) := by
  rw [wrap_in (k := .u8) (by simp [IntKind.min, IntKind.signed]; omega) (by simp [IntKind.max, IntKind.signed, IntKind.bits]; omega)]
  have : (UInt8.ofNat (16 * x + y)).toNat = 16 * x + y := by simp; omega
  omega

theorem Unhex_spec (l : List UInt8) (w : World) (hl : l.length ≤ 2000000) :
    Calls Tryd.prog 7 #[.string (str l)] w fun e w' => e = .returned (unRes (unhexT l)) ∧ Below w.heap.size w w' := by
  refine calls_ret (vc7_calls (str l) w (fun v w' => v = unRes (unhexT l) ∧ Below w.heap.size w w') ?_) (by rintro v w' ⟨rfl, h⟩; exact ⟨rfl, h⟩)
  refine CondP.mk ?_ ?_
  · intro h
    rw [show (⟨#[45]⟩ : ByteArray) = str [45] from rfl, beq_str] at h
    have h := of_decide_eq_true h
    subst h
    exact ⟨rfl, Below.refl _ _⟩
  · intro h1
    rw [show (⟨#[45]⟩ : ByteArray) = str [45] from rfl, beq_str] at h1
    have h1 := of_decide_eq_false h1
    refine CondP.mk ?_ ?_
    · intro h
      rw [beq_nil] at h
      have h := of_decide_eq_true h
      subst h
      exact ⟨rfl, Below.refl _ _⟩
    · intro h2
      rw [beq_nil] at h2
      have h2 := of_decide_eq_false h2
      have hu := unhexT_pairs l h1 h2
      rw [hu]
      refine ⟨by decide, ?_⟩
      rw [str_size, show Int.tmod (l.length : Int) 2 = ((l.length % 2 : Nat) : Int) from rfl, show Int.tdiv (l.length : Int) 2 = ((l.length / 2 : Nat) : Int) from rfl]
      refine CondP.mk ?_ ?_
      · intro h3
        have h3 : l.length % 2 ≠ 0 := by
          intro e; rw [e] at h3; simp at h3
        refine ⟨?_, Below.refl _ _⟩
        cases hp : pairs l with
        | none => rfl
        | some r => have := pairs_even l.length l (Nat.le_refl _) r hp; omega
      · intro h3
        have h3 : l.length % 2 = 0 := by
          rcases Nat.mod_two_eq_zero_or_one l.length with e | e
          · exact e
          · rw [e] at h3; simp at h3
        refine ⟨by decide, ?_⟩
        rw [wrap_in (k := .i64) (by simp [IntKind.min, IntKind.signed, IntKind.bits]; omega) (by simp [IntKind.max, IntKind.signed, IntKind.bits]; omega)]
        obtain ⟨i, hi', hz, hs, hb⟩ := info_parts infoU8
        obtain ⟨w1, hr, hown, hg⟩ := run_make_own (P := Tryd.prog) w w.heap.size tBytes tU8 i _ 1 undBytes hi' hz hs .i64 .i64 (l.length / 2) (by rw [hb]; omega) (by simp [maxLen]; omega) (Nat.le_refl _)
        refine ⟨_, _, _, w1, hr, ?_⟩
        intro I hI
        have key := climb (α := Option Addr × Nat × Nat × Bool × ByteArray × World) (l.length / 2)
          (fun k x => ∃ acc, pairs l = (pairs (l.drop (2 * k))).map (acc ++ ·) ∧ acc.length ≤ k ∧ x.2.2.2.2.2.ownsRow w.heap.size tU8 1 (.slice x.1 x.2.1 x.2.2.1) x.2.1 (Lib.byteCells acc) ∧ Below w.heap.size w x.2.2.2.2.2)
          (fun k x => I [.int .i64 ((2 * k : Nat) : Int), .slice x.1 x.2.1 x.2.2.1, .bool x.2.2.2.1, .string x.2.2.2.2.1] x.2.2.2.2.2) ?_ ?_ 0 (Nat.zero_le _) (some ⟨w.heap.size, 0, none⟩, 0, l.length / 2, false, str [], w1)
        · refine key ⟨[], ?_, Nat.le_refl _, hown, (Below.refl _ w).grown hg (Nat.le_refl _) (fun _ h => by cases h)⟩
          simp
        · rintro ⟨bA, bN, bC, y3, y2, w2⟩ ⟨acc, hp, _, hown2, hB⟩
          refine hI _ _ _ _ _ _ _ (CondP.no (decide_eq_false (by omega)) ?_)
          have hd := pairs_done l acc _ (by omega) hp
          refine ⟨_, _, run_str_own undBytes undU8 undStr hown2, ?_, hB⟩
          rw [hd]; rfl
        · rintro k hk ih ⟨bA, bN, bC, y3, y2, w2⟩ ⟨acc, hp, hacc, hown2, hB⟩
          have hi1 : 2 * k + 1 < l.length := by omega
          refine hI _ _ _ _ _ _ _ (CondP.yes (decide_eq_true (by omega)) ?_)
          rintro w3 rfl
          refine ⟨by omega, by omega, Ar.ok64 (by omega) (by omega) ?_⟩
          refine ⟨by omega, by omega, ?_⟩
          rw [btAt_str l (2 * k) (by omega), show ((2 * k : Nat) : Int) + 1 = ((2 * k + 1 : Nat) : Int) by omega, btAt_str l (2 * k + 1) hi1]
          refine (digit_spec _ w2.drew).mono ?_
          rintro e w4 ⟨rfl, rfl⟩
          refine ⟨_, rfl, ?_⟩
          refine (digit_spec _ w2.drew).mono ?_
          rintro e w5 ⟨rfl, rfl⟩
          refine ⟨_, rfl, ?_⟩
          cases hx : dig l[2 * k] with
          | none =>
            refine CondP.yes rfl ⟨?_, hB.drew⟩
            rw [pairs_bad l acc _ hi1 hp (.inl hx)]; rfl
          | some x =>
            cases hy : dig l[2 * k + 1] with
            | none =>
              refine CondP.no (decide_eq_false (by dsimp only; omega)) (CondP.yes rfl ⟨?_, hB.drew⟩)
              rw [pairs_bad l acc _ hi1 hp (.inr hy)]; rfl
            | some y =>
              have h4 := dig_lt _ _ hx
              have h5 := dig_lt _ _ hy
              refine CondP.no (decide_eq_false (by dsimp only; omega)) (CondP.no (decide_eq_false (by dsimp only; omega)) ?_)
              dsimp only
              refine Ar.ok64 (by omega) (by omega) (Ar.ok64 (by omega) (by omega) ?_)
              rw [sum_hex x y h4 h5]
              rintro w6 rfl
              have hn := hown2.1
              dsimp only at hn hown2 hB
              rw [Lib.byteCells_length] at hn
              obtain ⟨a', c', w7, hr, hown7, hg, _⟩ := run_push (P := Tryd.prog) tBytes tU8 undBytes infoU8 rfl (by decide) (own_drew hown2) [.int .u8 (UInt8.ofNat (16 * x + y)).toNat] rfl (by intro u hu; simp at hu; subst hu; rfl) (by omega) (by omega) hB.size
              refine ⟨_, _, _, w7, hr, Ar.ok64 (by omega) (by omega) ?_⟩
              rw [byteCells_snoc] at hown7
              have := ih (a', bN + 1, c', y3, y2, w7) ⟨acc ++ [UInt8.ofNat (16 * x + y)], pairs_step l acc _ hi1 hp x y hx hy, by simp; omega, hown7, below_push hB.drew (own_drew hown2) hg hB.size⟩
              rw [show ((2 * k : Nat) : Int) + 2 = ((2 * (k + 1) : Nat) : Int) by omega]
              exact this

theorem sum_hex' (x y : Nat) (hx : x < 16) (hy : y < 16) : IntKind.wrap .u8 ((16 : Int) * x + y) = ((UInt8.ofNat (16 * x + y)).toNat : Int) := by
  rw [show (16 : Int) * x + y = (x : Int) * 16 + y by omega]
  exact sum_hex x y hx hy

theorem refUnhex_spec (l : List UInt8) (w : World) (hl : l.length ≤ 2000000) :
    Calls Tryd.prog 8 #[.string (str l)] w fun e w' => e = .returned (unRes (unhexT l)) ∧ Below w.heap.size w w' := by
  refine calls_ret (vc8_calls (str l) w (fun v w' => v = unRes (unhexT l) ∧ Below w.heap.size w w') ?_) (by rintro v w' ⟨rfl, h⟩; exact ⟨rfl, h⟩)
  refine CondP.mk ?_ ?_
  · intro h
    rw [show (⟨#[45]⟩ : ByteArray) = str [45] from rfl, beq_str] at h
    have h := of_decide_eq_true h
    subst h
    exact ⟨rfl, Below.refl _ _⟩
  · intro h1
    rw [show (⟨#[45]⟩ : ByteArray) = str [45] from rfl, beq_str] at h1
    have h1 := of_decide_eq_false h1
    intro I hI
    have bad : pairs l = none → unhexT l = none := by
      intro h
      unfold unhexT
      rw [if_neg h1]
      split
      · rfl
      · exact h
    have key := climb (α := Option Addr × Nat × Nat × Bool × ByteArray × World) ((l.length + 1) / 2)
      (fun k x => ∃ acc, pairs l = (pairs (l.drop (2 * k))).map (acc ++ ·) ∧ acc.length = k ∧ 2 * k ≤ l.length ∧ x.2.2.2.2.2.ownsRow w.heap.size tU8 1 (.slice x.1 x.2.1 x.2.2.1) x.2.1 (Lib.byteCells acc) ∧ Below w.heap.size w x.2.2.2.2.2)
      (fun k x => I [.int .i64 ((2 * k : Nat) : Int), .slice x.1 x.2.1 x.2.2.1, .bool x.2.2.2.1, .string x.2.2.2.2.1] x.2.2.2.2.2) ?_ ?_ 0 (Nat.zero_le _) (none, 0, 0, false, str [], w)
    · refine key ⟨[], ?_, rfl, by omega, own_nil _ _ _ _, Below.refl _ w⟩
      simp
    · rintro ⟨bA, bN, bC, y3, y2, w2⟩ ⟨acc, hp, hacc, hle, hown2, hB⟩
      refine hI _ _ _ _ _ _ _ (CondP.no (decide_eq_false (by rw [str_size]; omega)) ?_)
      have hd := pairs_done l acc _ (by omega) hp
      have hn := hown2.1
      dsimp only at hn
      rw [Lib.byteCells_length] at hn
      refine ⟨_, _, run_str_own undBytes undU8 undStr hown2, ?_, hB⟩
      unfold unhexT
      rw [if_neg h1]
      dsimp only
      split
      · rename_i e
        subst e
        simp [pairs] at hd
        subst hd
        simp at hn
        subst hn
        rfl
      · rename_i e
        have hpos : 0 < l.length := List.length_pos_iff.2 e
        rw [hd, decide_eq_true (by omega)]
        rfl
    · rintro k hk ih ⟨bA, bN, bC, y3, y2, w2⟩ ⟨acc, hp, hacc, hle, hown2, hB⟩
      rw [str_size] at hI
      refine hI _ _ _ _ _ _ _ (CondP.yes (decide_eq_true (by omega)) ?_)
      refine Ar.ok64 (by omega) (by omega) (CondP.mk ?_ ?_)
      · intro h
        have h := of_decide_eq_true h
        refine ⟨?_, hB⟩
        rw [bad (pairs_one l acc _ (by omega) hp)]; rfl
      · intro h
        have h := of_decide_eq_false h
        have hi1 : 2 * k + 1 < l.length := by omega
        have hi64 : ∀ {F : Int → Prop}, F ((2 * k + 1 : Nat) : Int) → Ar .i64 (((2 * k : Nat) : Int) + 1) F := fun {F} hF => Ar.ok64 (by omega) (by omega) (by rwa [show ((2 * k : Nat) : Int) + 1 = ((2 * k + 1 : Nat) : Int) by omega])
        refine ⟨by omega, by omega, ?_⟩
        rw [btAt_str l (2 * k) (by omega)]
        refine (refDigit_spec _ w2).mono ?_
        rintro e w3 ⟨rfl, hw3⟩
        subst w3
        refine ⟨_, rfl, ?_⟩
        cases hx : dig l[2 * k] with
        | none =>
          refine CondP.yes rfl ⟨?_, hB⟩
          rw [bad (pairs_bad l acc _ hi1 hp (.inl hx))]; rfl
        | some x =>
          have h4 := dig_lt _ _ hx
          refine CondP.no (decide_eq_false (by dsimp only; omega)) (hi64 ⟨by omega, by omega, ?_⟩)
          rw [btAt_str l (2 * k + 1) hi1]
          refine (refDigit_spec _ w2).mono ?_
          rintro e w3 ⟨rfl, hw3⟩
          subst w3
          refine ⟨_, rfl, ?_⟩
          cases hy : dig l[2 * k + 1] with
          | none =>
            refine CondP.yes rfl ⟨?_, hB⟩
            rw [bad (pairs_bad l acc _ hi1 hp (.inr hy))]; rfl
          | some y =>
            have h5 := dig_lt _ _ hy
            refine CondP.no (decide_eq_false (by dsimp only; omega)) ?_
            rintro w4 rfl
            refine ⟨by omega, by omega, hi64 ⟨by omega, by omega, ?_⟩⟩
            refine (refDigit_spec _ w2.drew).mono ?_
            rintro e w5 ⟨rfl, rfl⟩
            refine ⟨_, rfl, ?_⟩
            rw [hx]
            dsimp only
            refine Ar.ok64 (by omega) (by omega) ?_
            rw [btAt_str l (2 * k + 1) hi1]
            refine (refDigit_spec _ w2.drew).mono ?_
            rintro e w5 ⟨rfl, rfl⟩
            refine ⟨_, rfl, ?_⟩
            rw [hy]
            dsimp only
            refine Ar.ok64 (by omega) (by omega) ?_
            rw [sum_hex' x y h4 h5]
            rintro w6 rfl
            have hn := hown2.1
            dsimp only at hn hown2 hB
            rw [Lib.byteCells_length] at hn
            obtain ⟨a', c', w7, hr, hown7, hg, _⟩ := run_push (P := Tryd.prog) tBytes tU8 undBytes infoU8 rfl (by decide) (own_drew hown2) [.int .u8 (UInt8.ofNat (16 * x + y)).toNat] rfl (by intro u hu; simp at hu; subst hu; rfl) (by omega) (by omega) hB.size
            refine ⟨_, _, _, w7, hr, Ar.ok64 (by omega) (by omega) ?_⟩
            rw [byteCells_snoc] at hown7
            have := ih (a', bN + 1, c', y3, y2, w7) ⟨acc ++ [UInt8.ofNat (16 * x + y)], pairs_step l acc _ hi1 hp x y hx hy, by simp; omega, by omega, hown7, below_push hB.drew (own_drew hown2) hg hB.size⟩
            rw [show ((2 * k : Nat) : Int) + 2 = ((2 * (k + 1) : Nat) : Int) by omega]
            exact this

theorem refHex_spec (l : List UInt8) (w : World) (hl : l.length ≤ 1000000) :
    Calls Tryd.prog 10 #[.string (str l)] w fun e w' => e = .returned (.string (str (hexT l))) ∧ Below w.heap.size w w' := by
  refine calls_ret (vc10_calls (str l) w (fun v w' => v = .string (str (hexT l)) ∧ Below w.heap.size w w') ?_) (by rintro v w' ⟨rfl, h⟩; exact ⟨rfl, h⟩)
  intro I hI
  rw [str_size] at hI
  have key := climb (α := World) l.length (fun i w2 => Below w.heap.size w w2) (fun i w2 => I [.int .i64 (i : Int), .string (str (hexBody (l.take i)))] w2) ?_ ?_ 0 (Nat.zero_le _) w
  · exact key (Below.refl _ _)
  · intro w2 hB
    refine hI _ _ _ (CondP.no (by simp) (CondP.mk ?_ ?_))
    · intro h
      rw [beq_nil] at h
      have h := of_decide_eq_true h
      have hlen := hexBody_length (l.take l.length)
      rw [h, List.take_length] at hlen
      have : l = [] := List.eq_nil_of_length_eq_zero (by simp at hlen; omega)
      subst this
      exact ⟨rfl, hB⟩
    · intro h
      rw [beq_nil] at h
      have h := of_decide_eq_false h
      rw [List.take_length] at *
      refine ⟨?_, hB⟩
      unfold hexT
      rw [if_neg]
      intro e
      subst e
      exact h rfl
  · intro i hi ih w2 hB
    have hbt := (l[i]).toNat_lt
    refine hI _ _ _ (CondP.yes (by simp; omega) ?_)
    rintro w3 rfl
    rw [btAt_str l i hi, show Int.tdiv ((l[i].toNat : Nat) : Int) 16 = ((l[i].toNat / 16 : Nat) : Int) from rfl, show Int.tmod ((l[i].toNat : Nat) : Int) 16 = ((l[i].toNat % 16 : Nat) : Int) from rfl, D_eq]
    rw [wrap_in (k := .u8) (by simp [IntKind.min, IntKind.signed]; omega) (by simp [IntKind.max, IntKind.signed, IntKind.bits]; omega)]
    rw [btAt_D _ (show l[i].toNat / 16 < 16 by omega), btAt_D _ (show l[i].toNat % 16 < 16 by omega)]
    refine ⟨by omega, by omega, by decide, by omega, by rw [str_size]; simp [digs]; omega, by omega, by omega, by decide, by omega, by rw [str_size]; simp [digs]; omega, ?_⟩
    rintro w4 rfl
    have hc := run_convert_bytes_back (P := Tryd.prog) (w2.drew.alloc (.cells (Lib.byteCells [hx (l[i].toNat / 16), hx (l[i].toNat % 16)]).toArray tU8)) tBytes tStr tU8 (nb w2.drew) 2 [hx (l[i].toNat / 16), hx (l[i].toNat % 16)] undBytes undU8 undStr (by
      intro j hj
      have hadd : (nb w2.drew).add j = ⟨w2.drew.heap.size, j, none⟩ := by unfold Addr.add nb; split <;> simp_all
      rw [hadd, cell_new]
      match j, hj with
      | 0, _ => rfl
      | 1, _ => rfl)
    refine ⟨_, _, hc, ?_, Ar.ok64 (by omega) (by omega) ?_⟩
    · have hlen := hexBody_length (l.take i)
      rw [List.length_take] at hlen
      rw [str_size, str_size, hlen]
      simp [IntKind.max, IntKind.signed, IntKind.bits]
      omega
    · show I [_, .string (str (hexBody (l.take i)) ++ str [hx (l[i].toNat / 16), hx (l[i].toNat % 16)])] _
      rw [str_append, show hexBody (l.take i) ++ [hx (l[i].toNat / 16), hx (l[i].toNat % 16)] = hexBody (l.take (i + 1)) by rw [hex_step l i hi]; simp]
      exact ih _ (hB.drew.alloc hB.size _)
end Go.Proofs.YtibjkknfgppogaaDoor.Eng
