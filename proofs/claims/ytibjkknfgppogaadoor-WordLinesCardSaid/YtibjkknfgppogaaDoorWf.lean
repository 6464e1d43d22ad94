/- word's Line, Cut and Lines, and the reference's Cut and Texts, walked by the engine. -/
import Derived.Test.YtibjkknfgppogaaDoorWd
import Derived.Test.YtibjkknfgppogaaDoorWn
set_option linter.unusedVariables false
set_option linter.unusedSimpArgs false
namespace Go.Proofs.YtibjkknfgppogaaDoor.Eng
open Go Go.RowKit

/-- A row of texts, read at each place. -/
def StrRow (w : World) (a : Option Addr) (xs : List (List UInt8)) : Prop := ∀ (j : Nat) (s : List UInt8), xs[j]? = some s → ∃ x, a = some x ∧ x.block < w.heap.size ∧ w.cell? (x.add j) = some (.string (str s))
theorem StrRow.on {w w' : World} {a : Option Addr} {xs : List (List UInt8)} (h : StrRow w a xs) (hb : Below w.heap.size w w') : StrRow w' a xs := by
  intro j s hj
  obtain ⟨x, rfl, hx, hc⟩ := h j s hj
  exact ⟨x, rfl, Nat.lt_of_lt_of_le hx hb.size, by rw [hb.cell (by rwa [add_block])]; exact hc⟩
theorem StrRow.of_own {w : World} {base : Nat} {a : Option Addr} {n c : Nat} {xs : List (List UInt8)} (h : w.ownsRow base tStr 1 (.slice a n c) n (strVals xs)) : StrRow w a xs ∧ n = xs.length ∧ n ≤ c := by
  have hn := h.1
  rw [show (strVals xs).length = xs.length by simp [strVals]] at hn
  refine ⟨?_, by omega, ?_⟩
  · intro j s hj
    have hjl := (List.getElem?_eq_some_iff.1 hj).1
    rcases h.2 with ⟨h1, h2⟩ | ⟨g, cap, cur, h1, h2, h3, h4, h5, h6, h7⟩
    · omega
    · cases h1
      refine ⟨_, rfl, (Array.getElem?_eq_some_iff.1 h3).1, ?_⟩
      rw [add_lit, Nat.zero_add, cell_heap h3]
      have h8 : (strVals xs)[j]? = some (.string (str s)) := by simp [strVals, hj]
      rw [← h7, List.getElem?_take_of_lt (by omega)] at h8
      simpa using h8
  · obtain ⟨a', c', e, hc⟩ := own_form h
    cases e
    exact hc
theorem strVals_snoc (xs : List (List UInt8)) (s : List UInt8) : strVals xs ++ [.string (str s)] = strVals (xs ++ [s]) := by simp [strVals]
/-- 'append(xs, s)' of a row of texts. -/
theorem push_str {base : Nat} {w : World} {a : Option Addr} {n c : Nat} {xs : List (List UInt8)} (h : w.ownsRow base tStr 1 (.slice a n c) n (strVals xs)) (s : List UInt8) (hx : xs.length ≤ 1000000) (hB : base ≤ w.heap.size) :
    ∃ a' c' w3, (Builtin.append_ #[tStrs, tStrs] tStrs #[.slice a n c, .slice (some (nb w)) 1 1]).run Tryd.prog (w.alloc (.cells #[.string (str s)] tStr)) = .ok (.slice a' (n + 1) c') w3 ∧
      w3.ownsRow base tStr 1 (.slice a' (n + 1) c') (n + 1) (strVals (xs ++ [s])) ∧ ∀ w0, Below base w0 w → Below base w0 w3 := by
  have hn := (StrRow.of_own h).2.1
  obtain ⟨a', c', w4, hr, hown4, hg, _⟩ := run_push (P := Tryd.prog) tStrs tStr undStrs infoStr rfl (by decide) h [.string (str s)] rfl (by intro u hu; simp at hu; subst hu; rfl) (by omega) (by omega) hB
  rw [strVals_snoc] at hown4
  exact ⟨a', c', w4, hr, hown4, fun w0 hb => below_push hb h hg hB⟩

theorem refTexts_spec (a b : Option Addr) (ca cb : Nat) (xs ys : List (List UInt8)) (w : World) (hx : StrRow w a xs) (hy : StrRow w b ys) (hl : xs.length ≤ 1000000) :
    Calls Tryd.prog 14 #[.slice a xs.length ca, .slice b ys.length cb] w fun e w' => e = .returned (.bool (decide (xs = ys))) ∧ Below w.heap.size w w' := by
  refine calls_ret (vc14_calls a xs.length ca b ys.length cb w (fun v w' => v = .bool (decide (xs = ys)) ∧ Below w.heap.size w w') ?_) (by rintro v w' ⟨rfl, h⟩; exact ⟨rfl, h⟩)
  refine CondP.mk ?_ ?_
  · intro h
    refine ⟨?_, Below.refl _ _⟩
    rw [decide_eq_false]
    intro e
    subst e
    simp at h
  · intro h
    have hlen : (xs.length : Int) = ys.length := by simpa using h
    have hlen : xs.length = ys.length := by omega
    intro I hI
    have key := climb (α := Bool × World) xs.length (fun i x => xs.take i = ys.take i ∧ Below w.heap.size w x.2) (fun i x => I [.int .i64 (i : Int), .bool x.1] x.2) ?_ ?_ 0 (Nat.zero_le _) (false, w)
    · exact key ⟨rfl, Below.refl _ _⟩
    · rintro ⟨y4, w1⟩ ⟨he, hB⟩
      refine hI _ _ _ (CondP.no (by simp) ⟨?_, hB⟩)
      rw [List.take_length, hlen, List.take_length] at he
      rw [decide_eq_true he]
    · rintro i hi ih ⟨y4, w1⟩ ⟨he, hB⟩
      dsimp only at he hB
      refine hI _ _ _ (CondP.yes (by simp; omega) ?_)
      rintro w2 rfl
      obtain ⟨x, hxa, _, hcx⟩ := (hx.on hB) i _ (List.getElem?_eq_getElem hi)
      obtain ⟨y, hyb, _, hcy⟩ := (hy.on hB) i _ (List.getElem?_eq_getElem (show i < ys.length by omega))
      refine NilC.mk x hxa ⟨by omega, by omega, str xs[i], by simpa using hcx, NilC.mk y hyb ⟨by omega, by omega, str ys[i], by simpa using hcy, CondP.mk ?_ ?_⟩⟩
      · intro hne
        refine ⟨?_, hB.drew⟩
        rw [decide_eq_false]
        intro e
        subst e
        simp at hne
      · intro hne
        rw [beq_str] at hne
        have heq : xs[i] = ys[i] := by simpa using hne
        refine Ar.ok64 (by omega) (by omega) (ih (y4, w1.drew) ⟨?_, hB.drew⟩)
        rw [List.take_add_one, List.take_add_one, List.getElem?_eq_getElem hi, List.getElem?_eq_getElem (show i < ys.length by omega), he, heq]

abbrev Mx (w : World) : Prop := ∃ m, w.cell? ⟨0, 0, none⟩ = some (.int .i64 m)
theorem Mx.on {w w' : World} (h : Mx w) (hb : Below w.heap.size w w') : Mx w' := by
  obtain ⟨m, hm⟩ := h
  have hlt : 0 < w.heap.size := World.block_lt_of_cell? _ _ hm
  exact ⟨m, by rw [hb.cell hlt]; exact hm⟩

theorem Cut_spec (l : List UInt8) (w : World) (hl : l.length ≤ 1000000) (hm : Mx w) :
    Calls Tryd.prog 15 #[.string (str l)] w fun e w' => ∃ a c, e = .returned (.slice a (cutL 32 l).length c) ∧ StrRow w' a (cutL 32 l) ∧ Below w.heap.size w w' := by
  refine calls_ret (vc15_calls (str l) w (fun v w' => ∃ a c, v = .slice a (cutL 32 l).length c ∧ StrRow w' a (cutL 32 l) ∧ Below w.heap.size w w') ?_) (by rintro v w' ⟨a, c, rfl, h⟩; exact ⟨a, c, rfl, h⟩)
  obtain ⟨m, hm⟩ := hm
  refine (Tryd.strings_Split (str l) ⟨#[32]⟩ m w (by rw [str_size]; omega) hm (Nat.le_refl 1)).mono ?_
  rintro e w1 ⟨rfl, rfl⟩
  have hlen : (cutL 32 l).length = Lib.countB (str l) ⟨#[32]⟩ + 1 := cutL_length 32 (str l)
  refine ⟨_, _, _, rfl, _, _, by rw [hlen], ?_, below_alloc _ _⟩
  intro j s hj
  refine ⟨_, rfl, by rw [alloc_size]; exact Nat.lt_succ_self _, ?_⟩
  rw [add_lit, Nat.zero_add, cell_new]
  rw [show cutL 32 l = cutL 32 (str l).data.toList from rfl, ← split_cutL] at hj
  rw [List.getElem?_map, Option.map_eq_some_iff] at hj
  obtain ⟨x, hx, rfl⟩ := hj
  simp only [List.getElem?_toArray, List.getElem?_map, hx, Option.map_some]

theorem Lines_spec (l : List UInt8) (w : World) (hl : l.length ≤ 100000) (hm : Mx w) :
    Calls Tryd.prog 11 #[.string (str l)] w fun e w' => ∃ a c, e = .returned (.tuple #[.slice a ((cutL 10 l).length - 1) c, .bool (decide ((cutL 10 l).getLast? = some []))]) ∧ StrRow w' a (cutL 10 l).dropLast ∧ Below w.heap.size w w' := by
  refine calls_ret (vc11_calls (str l) w (fun v w' => ∃ a c, v = .tuple #[.slice a ((cutL 10 l).length - 1) c, .bool (decide ((cutL 10 l).getLast? = some []))] ∧ StrRow w' a (cutL 10 l).dropLast ∧ Below w.heap.size w w') ?_) (by rintro v w' ⟨a, c, rfl, h⟩; exact ⟨a, c, rfl, h⟩)
  intro I hI
  have key : ∀ (k : Nat) (r : List UInt8), r.length ≤ k → ∀ (done : List (List UInt8)) (a : Option Addr) (n c : Nat) (y3 : Bool) (yA : Option Addr) (yN yC : Nat) (w1 : World), cutL 10 l = done ++ cutL 10 r → done.length + r.length ≤ l.length →
      w1.ownsRow w.heap.size tStr 1 (.slice a n c) n (strVals done) → Below w.heap.size w w1 → I [.slice a n c, .bool y3, .slice yA yN yC, .string (str r)] w1 := by
    intro k
    induction k with
    | zero =>
      intro r hr done a n c y3 yA yN yC w1 hcut hle hown hB
      have : r = [] := List.eq_nil_of_length_eq_zero (by omega)
      subst this
      refine hI _ _ _ _ _ _ _ _ _ ?_
      obtain ⟨m, hm⟩ := hm.on hB
      refine (Tryd.strings_Cut (str []) ⟨#[10]⟩ m w1 (by decide) hm).mono ?_
      rintro e w2 ⟨rfl, q, rfl⟩
      refine ⟨_, _, _, rfl, ?_⟩
      rw [show Lib.cut (str []).data.toList (⟨#[10]⟩ : ByteArray).data.toList = ([], [], false) from rfl]
      refine CondP.yes rfl ?_
      obtain ⟨hrow, hn, hc⟩ := StrRow.of_own hown
      have hrow : StrRow (w1.drewN q) a done := hrow
      have hcut : cutL 10 l = done ++ [[]] := hcut
      refine ⟨a, c, ?_, ?_, hB.trans ⟨rfl, rfl, rfl, Nat.le_refl _, fun _ _ => rfl⟩⟩
      · rw [hcut]; simp [hn]
      · rw [hcut]; simpa using hrow
    | succ k ih =>
      intro r hr done a n c y3 yA yN yC w1 hcut hle hown hB
      refine hI _ _ _ _ _ _ _ _ _ ?_
      obtain ⟨m, hm1⟩ := hm.on hB
      refine (Tryd.strings_Cut (str r) ⟨#[10]⟩ m w1 (by rw [str_size]; omega) hm1).mono ?_
      rintro e w2 ⟨rfl, q, rfl⟩
      refine ⟨_, _, _, rfl, ?_⟩
      have hBq : Below w.heap.size w (w1.drewN q) := hB.trans ⟨rfl, rfl, rfl, Nat.le_refl _, fun _ _ => rfl⟩
      obtain ⟨hrow, hn, hc⟩ := StrRow.of_own hown
      have hrow : StrRow (w1.drewN q) a done := hrow
      rw [show (str r).data.toList = r from rfl, show (⟨#[10]⟩ : ByteArray).data.toList = [10] from rfl]
      rcases index_cases 10 r with h | ⟨i, h, hi⟩
      · rw [cut_miss 10 r h]
        rw [cutL_miss 10 r h] at hcut
        refine CondP.yes rfl ?_
        refine ⟨a, c, ?_, ?_, hBq⟩
        · rw [hcut, show (⟨#[]⟩ : ByteArray) = str [] from rfl, beq_str]
          simp [hn]
        · rw [hcut]; simpa using hrow
      · rw [cut_hit 10 r i h]
        rw [cutL_hit 10 r i h] at hcut
        refine CondP.no rfl ?_
        rintro w3 rfl
        obtain ⟨a', c', w4, hrun, hown4, hB4⟩ := push_str (w := w1.drewN q) (base := w.heap.size) hown (r.take i) (by omega) hBq.size
        refine ⟨_, _, _, w4, hrun, ?_⟩
        refine ih (r.drop (i + 1)) (by rw [List.length_drop]; omega) (done ++ [r.take i]) a' (n + 1) c' y3 yA yN yC w4 (by rw [hcut]; simp) ?_ hown4 (hB4 _ hBq)
        rw [List.length_append, List.length_drop]
        simp
        omega
  exact key l.length l (Nat.le_refl _) [] none 0 0 false none 0 0 w rfl (by simp) (own_nil _ _ _ _) (Below.refl _ _)

theorem refCut_spec (l : List UInt8) (c : UInt8) (w : World) (hl : l.length ≤ 100000) :
    Calls Tryd.prog 12 #[.string (str l), .int .u8 c.toNat] w fun e w' => ∃ a k, e = .returned (.slice a (cutL c l).length k) ∧ (cutL c l).length ≤ k ∧ StrRow w' a (cutL c l) ∧ Below w.heap.size w w' := by
  refine calls_ret (vc12_calls (str l) c.toNat w (fun v w' => ∃ a k, v = .slice a (cutL c l).length k ∧ (cutL c l).length ≤ k ∧ StrRow w' a (cutL c l) ∧ Below w.heap.size w w') ?_) (by rintro v w' ⟨a, k, rfl, h⟩; exact ⟨a, k, rfl, h⟩)
  intro I hI
  rw [str_size] at hI
  have key := climb (α := Nat × Option Addr × Nat × Nat × World) (l.length + 1)
    (fun i x => ∃ acc, x.2.2.2.2.ownsRow w.heap.size tStr 1 (.slice x.2.1 x.2.2.1 x.2.2.2.1) x.2.2.1 (strVals acc) ∧ Below w.heap.size w x.2.2.2.2 ∧ acc.length ≤ i ∧
      ((i ≤ l.length ∧ x.1 ≤ i ∧ cutL c l = acc ++ cutL c (l.drop x.1) ∧ c ∉ (l.drop x.1).take (i - x.1)) ∨ (i = l.length + 1 ∧ cutL c l = acc)))
    (fun i x => I [.int .i64 (i : Int), .int .i64 (x.1 : Int), .slice x.2.1 x.2.2.1 x.2.2.2.1] x.2.2.2.2) ?_ ?_ 0 (Nat.zero_le _) (0, none, 0, 0, w)
  · exact key ⟨[], own_nil _ _ _ _, Below.refl _ _, Nat.le_refl _, .inl ⟨Nat.zero_le _, Nat.le_refl _, rfl, by simp⟩⟩
  · rintro ⟨fr, a, n, k, w1⟩ ⟨acc, hown, hB, _, hh⟩
    dsimp only at hown hB hh
    refine hI _ _ _ _ _ _ (CondP.no (decide_eq_false (by omega)) ?_)
    rcases hh with ⟨h, _⟩ | ⟨_, h⟩
    · omega
    · obtain ⟨hrow, hn, hc⟩ := StrRow.of_own hown
      rw [h, ← hn]
      exact ⟨_, _, rfl, hc, hrow, hB⟩
  · rintro i hi ih ⟨fr, a, n, k, w1⟩ ⟨acc, hown, hB, hacc, hh⟩
    dsimp only at hown hB hh
    rcases hh with ⟨hil, hfr, hcut, hno⟩ | ⟨h, _⟩
    case inr => omega
    refine hI _ _ _ _ _ _ (CondP.yes (decide_eq_true (by omega)) (CondP.mk ?_ ?_))
    · intro h
      have h : (i : Int) = l.length := by simpa using h
      have h : i = l.length := by omega
      refine ⟨by omega, by omega, by omega, ?_⟩
      rw [Int.toNat_natCast, Int.toNat_natCast, str_extract]
      rintro w2 rfl
      obtain ⟨a', c', w3, hrun, hown3, hB3⟩ := push_str hown ((l.drop fr).take (i - fr)) (by omega) hB.size
      refine ⟨_, _, _, w3, hrun, Ar.ok64 (by omega) (by omega) (Ar.ok64 (by omega) (by omega) ?_)⟩
      refine ih (i + 1, a', n + 1, c', w3) ⟨_, hown3, hB3 _ hB, by simp; omega, .inr ⟨by omega, ?_⟩⟩
      rw [hcut]
      refine congrArg (acc ++ ·) ?_
      have hall : (l.drop fr).take (i - fr) = l.drop fr := List.take_of_length_le (by rw [List.length_drop]; omega)
      rw [hall] at hno ⊢
      exact cutL_last c _ hno
    · intro h
      have h : ¬ (i : Int) = l.length := by simpa using h
      have hil : i < l.length := by omega
      refine ⟨by omega, by omega, ?_⟩
      rw [btAt_str l i hil]
      refine CondP.mk ?_ ?_
      · intro he
        have he : l[i] = c := by
          have : (l[i].toNat : Int) = c.toNat := by simpa using he
          exact UInt8.toNat_inj.1 (by omega)
        refine ⟨by omega, by omega, by omega, ?_⟩
        rw [Int.toNat_natCast, Int.toNat_natCast, str_extract]
        rintro w2 rfl
        obtain ⟨a', c', w3, hrun, hown3, hB3⟩ := push_str hown ((l.drop fr).take (i - fr)) (by omega) hB.size
        refine ⟨_, _, _, w3, hrun, Ar.ok64 (by omega) (by omega) (Ar.ok64 (by omega) (by omega) ?_)⟩
        refine ih (i + 1, a', n + 1, c', w3) ⟨_, hown3, hB3 _ hB, by simp; omega, .inl ⟨by omega, by omega, ?_, by simp⟩⟩
        have hsplit : l.drop fr = (l.drop fr).take (i - fr) ++ c :: l.drop (i + 1) := by
          conv => lhs; rw [← List.take_append_drop (i - fr) (l.drop fr)]
          rw [List.drop_drop, show fr + (i - fr) = i by omega, List.drop_eq_getElem_cons hil, he]
        rw [hcut]
        conv => lhs; rw [hsplit, cutL_app c _ _ hno]
        simp
      · intro he
        have he : l[i] ≠ c := by
          intro e
          rw [e] at he
          simp at he
        refine Ar.ok64 (by omega) (by omega) ?_
        refine ih (fr, a, n, k, w1) ⟨acc, hown, hB, by omega, .inl ⟨by omega, by omega, hcut, ?_⟩⟩
        rw [show i + 1 - fr = (i - fr) + 1 by omega, List.take_add_one, List.getElem?_drop, show fr + (i - fr) = i by omega, List.getElem?_eq_getElem hil]
        simp only [Option.toList_some, List.mem_append, List.mem_singleton, not_or]
        exact ⟨hno, fun e => he e.symm⟩
end Go.Proofs.YtibjkknfgppogaaDoor.Eng
