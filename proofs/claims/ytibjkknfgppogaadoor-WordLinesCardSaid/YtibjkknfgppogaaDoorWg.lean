/- word's Line, and the law WordLines, walked by the engine. -/
import Derived.Test.YtibjkknfgppogaaDoorWf
set_option linter.unusedVariables false
set_option linter.unusedSimpArgs false
namespace Go.Proofs.YtibjkknfgppogaaDoor.Eng
open Go Go.RowKit

theorem lens_le (k : Nat) (xs : List (List UInt8)) (h : ∀ x ∈ xs, x.length ≤ k) : Lib.lens xs ≤ k * xs.length := by
  induction xs with
  | nil => simp [Lib.lens]
  | cons x xs ih =>
    have h1 := h x (by simp)
    have h2 := ih fun y hy => h y (by simp [hy])
    simp [Lib.lens, Nat.mul_add] at *
    omega
/-- A row of texts among the arguments. -/
def ArgStrs (w : World) (a : Option Addr) (c : Nat) (xs : List (List UInt8)) : Prop := StrRow w a xs ∧ ((a = none ∧ c = 0 ∧ xs = []) ∨ a.isSome = true)

theorem Line_spec (first : List UInt8) (a : Option Addr) (c : Nat) (more : List (List UInt8)) (w : World) (hm : ArgStrs w a c more) (hf : first.length ≤ 100) (hl : ∀ x ∈ more, x.length ≤ 100) (hn : more.length ≤ 20) :
    Calls Tryd.prog 13 #[.string (str first), .slice a more.length c] w fun e w' => e = .returned (.string (str (Lib.join (first :: more) [32]))) ∧ Below w.heap.size w w' := by
  refine calls_ret (vc13_calls (str first) a more.length c w (fun v w' => v = .string (str (Lib.join (first :: more) [32])) ∧ Below w.heap.size w w') ?_) (by rintro v w' ⟨rfl, h⟩; exact ⟨rfl, h⟩)
  rintro w1 rfl
  have hown : (w.alloc (.cells #[.string (str first)] tStr)).ownsRow w.heap.size tStr 1 (.slice (some (nb w)) 1 1) 1 (strVals [first]) :=
    ⟨rfl, .inr ⟨w.heap.size, 1, #[.string (str first)], rfl, Nat.le_refl _, alloc_new _ _, Nat.le_refl _, by decide, rfl, rfl⟩⟩
  have hB1 := below_alloc w (.cells #[.string (str first)] tStr)
  obtain ⟨i, hi', hz, hs, hb⟩ := info_parts infoStr
  have hjl : (Lib.join (first :: more) [32]).length ≤ 140737488355328 := by
    rw [Lib.join_length]
    have := lens_le 100 (first :: more) (by intro x hx; rcases List.mem_cons.1 hx with e | e; · rw [e]; exact hf
                                            · exact hl x e)
    simp at this ⊢
    omega
  have fin : ∀ (a' : Option Addr) (n' c' : Nat) (w2 : World), w2.ownsRow w.heap.size tStr 1 (.slice a' n' c') n' (strVals (first :: more)) → Below w.heap.size w w2 →
      Calls Tryd.prog 26 #[.slice a' n' c', .string (str [32])] w2 (fun e3 w3 => ∃ s : ByteArray, e3 = .returned (Value.string s) ∧ (Value.string s = .string (str (Lib.join (first :: more) [32])) ∧ Below w.heap.size w w3)) := by
    intro a' n' c' w2 hown2 hB2
    refine (join_own hown2 (by simp) [32] hjl (by simp; omega)).mono ?_
    rintro e w3 ⟨rfl, h3⟩
    exact ⟨_, rfl, rfl, below_then hB2 h3⟩
  rcases hm.2 with ⟨rfl, rfl, rfl⟩ | hsome
  · have hrun := run_append_owned_none (P := Tryd.prog) (w := w.alloc (.cells #[.string (str first)] tStr)) w.heap.size tStrs tStrs tStr i 1 undStrs hi' _ 1 _ hown
    exact ⟨_, _, _, _, hrun, fin _ _ _ _ hown hB1⟩
  · obtain ⟨x, rfl⟩ := Option.isSome_iff_exists.1 hsome
    obtain ⟨v', w2, hrun, hown2, hg, _, _⟩ := run_append_own_at (P := Tryd.prog) (w.alloc (.cells #[.string (str first)] tStr)) w.heap.size tStrs tStrs tStr i _ 1 16 undStrs hi' hz hs hb rfl (by decide) _ 1 _ hown x more.length c (strVals more) (by simp [strVals])
      (fun j u hj => by
        simp only [strVals, List.getElem?_map, Option.map_eq_some_iff] at hj
        obtain ⟨s, hs, rfl⟩ := hj
        obtain ⟨y, hy, _, hc⟩ := (hm.1.on hB1) j s hs
        cases hy
        exact hc)
      (by intro u hu; simp [strVals] at hu; obtain ⟨s, _, rfl⟩ := hu; rfl) (by simp [maxLen]; omega) (by omega) hB1.size
    obtain ⟨a', c', rfl, _⟩ := own_form hown2
    have hnn : 1 + more.length = (first :: more).length := by simp; omega
    refine ⟨_, _, _, w2, hrun, fin _ _ _ _ ?_ (hB1.grown hg hB1.size fun k hk => (own_lt hown k hk).1)⟩
    simpa [strVals] using hown2

theorem StrRow.dropLast {w : World} {a : Option Addr} {xs : List (List UInt8)} (h : StrRow w a xs) : StrRow w a xs.dropLast := by
  intro j s hj
  rw [List.getElem?_dropLast] at hj
  split at hj
  · exact h j s hj
  · cases hj

theorem WordLines_spec (first : List UInt8) (a : Option Addr) (c : Nat) (more : List (List UInt8)) (s : List UInt8) (w : World) (hm : ArgStrs w a c more) (ht : Pow w) (hx : Mx w) :
    Calls Tryd.prog 4 #[.string (str first), .slice a more.length c, .string (str s)] w fun e w' => e = .returned (.bool true) ∧ Below w.heap.size w w' := by
  refine calls_ret (vc4_calls (str first) a more.length c (str s) w (fun v w' => v = .bool true ∧ Below w.heap.size w w') ?_) (by rintro v w' ⟨rfl, h⟩; exact ⟨rfl, h⟩)
  have aw : ∀ w1, Below w.heap.size w w1 → Calls Tryd.prog 6 #[] w1 (fun e1 w2 => ∃ b_1 : Bool, e1 = .returned (Value.bool b_1) ∧ (Value.bool b_1 = .bool true ∧ Below w.heap.size w w2)) := by
    intro w1 h1
    refine (awake_spec w1 (ht.on h1)).mono ?_
    rintro e w2 ⟨rfl, h2⟩
    exact ⟨_, rfl, rfl, below_then h1 h2⟩
  refine CondP.mk (fun _ => aw w (Below.refl _ _)) ?_
  intro hf
  have hf := of_decide_eq_false hf
  refine CondP.mk (fun _ => aw w (Below.refl _ _)) ?_
  intro hn
  have hn := of_decide_eq_false hn
  refine CondP.mk (fun _ => aw w (Below.refl _ _)) ?_
  intro hs
  have hs := of_decide_eq_false hs
  rw [str_size] at hf hs
  intro I hI
  have key := climb (α := Bool × World) more.length (fun i x => (∀ t ∈ more.take i, t.length ≤ 100) ∧ Below w.heap.size w x.2)
    (fun i x => I [.int .i64 (i : Int), .string (str (first ++ Lib.joinTail [32] (more.take i))), .bool x.1] x.2) ?_ ?_ 0 (Nat.zero_le _) (false, w)
  · have := key ⟨by simp, Below.refl _ _⟩
    simpa [Lib.joinTail] using this
  · rintro ⟨y6, w4⟩ ⟨hall, hB⟩
    refine hI _ _ _ _ (CondP.no (by simp) ?_)
    rw [List.take_length] at hall ⊢
    rw [← Lib.join_cons]
    refine (Lines_spec s w4 (by omega) (hx.on hB)).mono ?_
    rintro e w6 ⟨rA, rC, rfl, hlines, h6⟩
    refine ⟨_, _, _, _, rfl, ?_⟩
    have hB6 := below_then hB h6
    refine (refCut_spec s 10 w6 (by omega)).mono ?_
    rintro e w7 ⟨lA, lC, rfl, hcap, hcut, h7⟩
    refine ⟨_, _, _, rfl, ?_⟩
    have hB7 := below_then hB6 h7
    refine (Line_spec first a c more w7 ⟨hm.1.on hB7, hm.2⟩ (by omega) hall (by omega)).mono ?_
    rintro e w8 ⟨rfl, h8⟩
    refine ⟨_, rfl, CondP.yes (by simp) ?_⟩
    have hB8 := below_then hB7 h8
    refine (Cut_spec s w8 (by omega) (hx.on hB8)).mono ?_
    rintro e w9 ⟨cA, cC, rfl, hc1, h9⟩
    refine ⟨_, _, _, rfl, ?_⟩
    have hB9 := below_then hB8 h9
    refine (refCut_spec s 32 w9 (by omega)).mono ?_
    rintro e w10 ⟨dA, dC, rfl, _, hc2, h10⟩
    refine ⟨_, _, _, rfl, ?_⟩
    have hB10 := below_then hB9 h10
    have hle := cutL_le 32 s
    refine (refTexts_spec cA dA cC dC _ _ w10 (hc1.on h10) hc2 (by omega)).mono ?_
    rintro e w11 ⟨rfl, h11⟩
    have hB11 := below_then hB10 h11
    refine ⟨_, rfl, CondP.yes (by simp) ?_⟩
    have hle10 := cutL_le 10 s
    have hpos : 0 < (cutL 10 s).length := List.length_pos_iff.2 (cutL_ne 10 s)
    have h811 : Below w7.heap.size w7 w11 := below_then (below_then (below_then h8 h9) h10) h11
    refine Ar.ok64 (by omega) (by omega) ⟨by simp, by simp; omega, by omega, trivial, trivial, ?_⟩
    have hdl : (cutL 10 s).dropLast.length = (cutL 10 s).length - 1 := by simp
    have hbase : slBase lA ((0 : Nat) : Int).toNat ((lC : Nat) : Int).toNat 1 = lA := by
      unfold slBase
      split
      · rfl
      · cases lA with
        | none => rfl
        | some x => simp [Addr.add]
    rw [hbase, show ((((cutL 10 s).length : Nat) : Int) - 1).toNat - ((0 : Nat) : Int).toNat = (cutL 10 s).dropLast.length by rw [hdl]; simp <;> omega, show (cutL 10 s).length - 1 = (cutL 10 s).dropLast.length from hdl.symm]
    have h1011 : Below w6.heap.size w6 w11 := below_then h7 h811
    refine (refTexts_spec rA lA rC _ _ _ w11 (hlines.on h1011) ((hcut.on h811).dropLast) (by omega)).mono ?_
    rintro e w12 ⟨rfl, h12⟩
    have hB12 := below_then hB11 h12
    refine ⟨_, rfl, CondP.yes (by simp) ?_⟩
    have hlast : (cutL 10 s)[(cutL 10 s).length - 1]? = (cutL 10 s).getLast? := by rw [List.getLast?_eq_getElem?]
    obtain ⟨z, hz⟩ : ∃ z, (cutL 10 s).getLast? = some z := by
      cases h : (cutL 10 s).getLast? with
      | none => exact absurd (List.getLast?_eq_none_iff.1 h) (cutL_ne 10 s)
      | some z => exact ⟨z, rfl⟩
    rw [hz] at hlast ⊢
    obtain ⟨x, hxa, _, hcx⟩ := (hcut.on (below_then h811 h12)) _ _ hlast
    refine Ar.ok64 (by omega) (by omega) (NilC.mk x hxa ⟨by omega, by omega, str z, ?_, CondP.yes ?_ (aw w12 hB12)⟩)
    · rw [show ((((cutL 10 s).length : Nat) : Int) - 1).toNat * 1 = (cutL 10 s).length - 1 by omega]
      exact hcx
    · rw [beq_nil]
      simp
  · rintro i hi ih ⟨y6, w4⟩ ⟨hall, hB⟩
    refine hI _ _ _ _ (CondP.yes (by simp; omega) ?_)
    obtain ⟨x, hxa, _, hcx⟩ := (hm.1.on hB) i _ (List.getElem?_eq_getElem hi)
    have hcx' : w4.cell? (x.add ((i : Int).toNat * 1)) = some (.string (str more[i])) := by simpa using hcx
    refine NilC.mk x hxa ⟨by omega, by omega, str more[i], hcx', CondP.mk (fun _ => aw w4 hB) ?_⟩
    intro hlen
    have hlen := of_decide_eq_false hlen
    rw [str_size] at hlen
    have htl : (Lib.joinTail [32] (more.take i)).length ≤ 100000 := by
      rw [Lib.joinTail_length]
      have := lens_le 100 (more.take i) hall
      simp only [List.length_take, List.length_singleton] at this ⊢
      omega
    have hnext : str (first ++ Lib.joinTail [32] (more.take i)) ++ ⟨#[32]⟩ ++ str more[i] = str (first ++ Lib.joinTail [32] (more.take (i + 1))) := by
      rw [show (⟨#[32]⟩ : ByteArray) = str [32] from rfl, str_append, str_append, Lib.joinTail_take_succ [32] more i _ (List.getElem?_eq_getElem hi)]
      simp
    refine ⟨?_, NilC.mk x hxa ⟨by omega, by omega, str more[i], hcx', ?_, Ar.ok64 (by omega) (by omega) ?_⟩⟩
    · rw [str_size, show (⟨#[32]⟩ : ByteArray).size = 1 from rfl, List.length_append]
      simp [IntKind.max, IntKind.signed, IntKind.bits]
      omega
    · rw [show (⟨#[32]⟩ : ByteArray) = str [32] from rfl, str_append, str_size, str_size, List.length_append, List.length_append]
      simp [IntKind.max, IntKind.signed, IntKind.bits]
      omega
    · rw [hnext]
      refine ih (y6, w4) ⟨?_, hB⟩
      intro t ht
      rw [List.take_add_one, List.getElem?_eq_getElem hi] at ht
      rcases List.mem_append.1 ht with h | h
      · exact hall t h
      · simp at h; subst h; omega
end Go.Proofs.YtibjkknfgppogaaDoor.Eng
