/- word's Number and Numbers, and the law's own examples, walked by the engine. -/
import Derived.Test.YtibjkknfgppogaaDoorWc
import Derived.Lib.AppendIntMem
set_option linter.unusedVariables false
set_option linter.unusedSimpArgs false
namespace Go.Proofs.YtibjkknfgppogaaDoor.Eng
open Go Go.RowKit

abbrev tStrs : TypeId := 27
theorem undStrs : Tryd.prog.underlying tStrs = some (.slice tStr) := by kernel_rfl
theorem infoStr : (Tryd.prog.info? tStr).map (fun i => (i.zero, i.size, i.bytes)) = some (some (.string ⟨#[]⟩), 1, 16) := by kernel_rfl
abbrev Pow (w : World) : Prop := Lib.TabIs Tryd.prog w "internal/strconv.uint64pow10" .u64 Lib.pow10Tab
theorem Pow.on {w w' : World} (h : Pow w) (hb : Below w.heap.size w w') : Pow w' := Lib.tabBelow_of_tabIs h w' hb
def I64 (n : Int) : Prop := -9223372036854775808 ≤ n ∧ n ≤ 9223372036854775807

theorem itoa_length (n : Int) (h : I64 n) : (Lib.itoa n).length ≤ 21 := by
  have key : ∀ u : Nat, u < 18446744073709551616 → (Lib.decDigits u).length ≤ 20 := by
    intro u hu
    rw [Lib.decDigits_length]
    by_cases h1 : 1 ≤ u
    · have := Lib.numDigits_eq u h1 hu
      rw [← this.1]
      have := this.2
      split <;> omega
    · rw [Lib.nDigits_small (by omega)]; omega
  unfold I64 at h
  unfold Lib.itoa
  split
  · have := key n.natAbs (by omega)
    simp
    omega
  · have := key n.toNat (by omega)
    omega

theorem Number_spec (n : Int) (w : World) (hn : I64 n) (ht : Pow w) :
    Calls Tryd.prog 19 #[.int .i64 n] w fun e w' => e = .returned (.string (str (Lib.itoa n))) ∧ Below w.heap.size w w' := by
  refine calls_ret (vc19_calls n w (fun v w' => v = .string (str (Lib.itoa n)) ∧ Below w.heap.size w w') ?_) (by rintro v w' ⟨rfl, h⟩; exact ⟨rfl, h⟩)
  refine (Tryd.strconv_Itoa n hn.1 hn.2 w ht).mono ?_
  rintro e w' ⟨rfl, k, os, rfl⟩
  exact ⟨_, rfl, rfl, Lib.below_grow _ w (Nat.le_refl _) k os⟩

/-- Numbers, told. -/
def numsT (ns : List Int) : List UInt8 := if ns = [] then [45] else Lib.join (ns.map Lib.itoa) [32]
def strVals (xs : List (List UInt8)) : List Value := xs.map fun x => .string (str x)

theorem lens_small (xs : List (List UInt8)) (h : ∀ x ∈ xs, x.length ≤ 21) : Lib.lens xs ≤ 21 * xs.length := by
  induction xs with
  | nil => simp [Lib.lens]
  | cons x xs ih =>
    have h1 := h x (by simp)
    have h2 := ih fun y hy => h y (by simp [hy])
    simp [Lib.lens] at *
    omega

/-- A row of texts that the call owns, joined. -/
theorem join_own {base : Nat} {w : World} {a : Option Addr} {n c : Nat} {xs : List (List UInt8)} (h : w.ownsRow base tStr 1 (.slice a n c) n (strVals xs)) (hne : xs ≠ []) (sep : List UInt8) (hl : (Lib.join xs sep).length ≤ 140737488355328) (hN : xs.length ≤ 140737488355328) :
    Calls Tryd.prog 26 #[.slice a n c, .string (str sep)] w fun e w' => e = .returned (.string (str (Lib.join xs sep))) ∧ Below w.heap.size w w' := by
  have hn := h.1
  rw [show (strVals xs).length = xs.length by simp [strVals]] at hn
  rcases h.2 with ⟨h1, h2⟩ | ⟨g, cap, cur, h1, h2, h3, h4, h5, h6, h7⟩
  · exact absurd (List.eq_nil_of_length_eq_zero (by omega)) hne
  · cases h1
    have hlen : n = (xs.map fun x => str x).length := by simp; omega
    have hmap : (xs.map fun x => str x).map (·.data.toList) = xs := by
      rw [List.map_map]
      conv => rhs; rw [← List.map_id xs]
      apply List.map_congr_left
      intro x _
      simp [str]
    have hj := Tryd.strings_Join g 0 c (xs.map fun x => str x) (str sep) w (by
      intro j x hj
      rw [Nat.zero_add, cell_heap h3]
      have hj' : j < n := by rw [hlen]; exact (List.getElem?_eq_some_iff.1 hj).1
      have h8 : (strVals xs)[j]? = some (.string x) := by
        simp only [strVals, List.getElem?_map] at hj ⊢
        cases hx : xs[j]? with
        | none => simp [hx] at hj
        | some y => simp [hx] at hj; simp [hj]
      rw [← h7, List.getElem?_take_of_lt (by omega)] at h8
      simpa using h8) (Array.getElem?_eq_some_iff.1 h3).1 (by simpa using hN) (by rw [← hlen]; exact h4) (by rw [hmap]; exact hl)
    rw [← hlen, hmap] at hj
    exact hj

/-- A row of numbers, read at each place. -/
def IntRow (w : World) (a : Option Addr) (ns : List Int) : Prop := ∀ (j : Nat) (n : Int), ns[j]? = some n → ∃ x, a = some x ∧ x.block < w.heap.size ∧ w.cell? (x.add j) = some (.int .i64 n)
theorem IntRow.on {w w' : World} {a : Option Addr} {ns : List Int} (h : IntRow w a ns) (hb : Below w.heap.size w w') : IntRow w' a ns := by
  intro j n hj
  obtain ⟨x, rfl, hx, hc⟩ := h j n hj
  exact ⟨x, rfl, Nat.lt_of_lt_of_le hx hb.size, by rw [hb.cell (by rwa [add_block])]; exact hc⟩

theorem Numbers_spec (a : Option Addr) (c : Nat) (ns : List Int) (w : World) (hcells : IntRow w a ns) (hN : ns.length ≤ 1000) (h64 : ∀ n ∈ ns, I64 n) (ht : Pow w) (hne : ns ≠ []) :
    Calls Tryd.prog 20 #[.slice a ns.length c] w fun e w' => e = .returned (.string (str (numsT ns))) ∧ Below w.heap.size w w' := by
  refine calls_ret (vc20_calls a ns.length c w (fun v w' => v = .string (str (numsT ns)) ∧ Below w.heap.size w w') ?_) (by rintro v w' ⟨rfl, h⟩; exact ⟨rfl, h⟩)
  have hpos : 0 < ns.length := List.length_pos_iff.2 hne
  have hsmall : ∀ x ∈ ns.map Lib.itoa, x.length ≤ 21 := by
    intro x hx
    obtain ⟨n, hn, rfl⟩ := List.mem_map.1 hx
    exact itoa_length n (h64 n hn)
  refine CondP.no (by simp; omega) ?_
  intro I hI
  have key := climb (α := Option Addr × Nat × Nat × World) ns.length
    (fun k x => x.2.2.2.ownsRow w.heap.size tStr 1 (.slice x.1 x.2.1 x.2.2.1) x.2.1 (strVals ((ns.take k).map Lib.itoa)) ∧ Below w.heap.size w x.2.2.2)
    (fun k x => I [.int .i64 (k : Int), .slice x.1 x.2.1 x.2.2.1] x.2.2.2) ?_ ?_ 0 (Nat.zero_le _) (none, 0, 0, w)
  · exact key ⟨own_nil _ _ _ _, Below.refl _ _⟩
  · rintro ⟨oA, oN, oC, w1⟩ ⟨hown, hB⟩
    refine hI _ _ _ _ _ (CondP.no (by simp) ?_)
    dsimp only at hown hB
    rw [List.take_length] at hown
    have hjl : (Lib.join (ns.map Lib.itoa) [32]).length ≤ 140737488355328 := by
      cases hns : ns with
      | nil => exact absurd hns hne
      | cons n r =>
        rw [List.map_cons, Lib.join_length, ← List.map_cons, ← hns]
        have := lens_small _ hsmall
        rw [List.length_map] at this ⊢
        have : r.length ≤ ns.length := by rw [hns]; simp
        simp
        omega
    refine (join_own hown (by simpa using hne) [32] hjl (by rw [List.length_map]; omega)).mono ?_
    rintro e w5 ⟨rfl, h5⟩
    refine ⟨_, rfl, ?_, below_then hB h5⟩
    unfold numsT
    rw [if_neg hne]
  · rintro k hk ih ⟨oA, oN, oC, w1⟩ ⟨hown, hB⟩
    dsimp only at hown hB
    refine hI _ _ _ _ _ (CondP.yes (by simp; omega) ?_)
    obtain ⟨x, hxa, _, hcx⟩ := (hcells.on hB) k _ (List.getElem?_eq_getElem hk)
    refine NilC.mk x hxa ⟨by omega, by omega, ns[k], by simpa using hcx, ?_⟩
    refine (Number_spec ns[k] w1 (h64 _ (List.getElem_mem hk)) (ht.on hB)).mono ?_
    rintro e w2 ⟨rfl, h2⟩
    refine ⟨_, rfl, ?_⟩
    rintro w3 rfl
    have hB2 := below_then hB h2
    have hn := hown.1
    rw [show (strVals ((ns.take k).map Lib.itoa)).length = k by simp [strVals]; omega] at hn
    have hown2 : w2.ownsRow w.heap.size tStr 1 (.slice oA oN oC) oN (strVals ((ns.take k).map Lib.itoa)) := by
      refine ⟨hown.1, ?_⟩
      rcases hown.2 with hh | ⟨g, cap, cur, h1, h2', h3, h4⟩
      · exact .inl hh
      · exact .inr ⟨g, cap, cur, h1, h2', by rw [h2.block g (Array.getElem?_eq_some_iff.1 h3).1]; exact h3, h4⟩
    obtain ⟨a', c', w4, hr, hown4, hg, _⟩ := run_push (P := Tryd.prog) tStrs tStr undStrs infoStr rfl (by decide) hown2 [.string (str (Lib.itoa ns[k]))] rfl (by intro u hu; simp at hu; subst hu; rfl) (by omega) (by omega) hB2.size
    refine ⟨_, _, _, w4, hr, Ar.ok64 (by omega) (by omega) ?_⟩
    have e1 : strVals ((ns.take k).map Lib.itoa) ++ [.string (str (Lib.itoa ns[k]))] = strVals ((ns.take (k + 1)).map Lib.itoa) := by
      have e0 : ns.take (k + 1) = ns.take k ++ [ns[k]] := by rw [List.take_add_one, List.getElem?_eq_getElem hk]; rfl
      rw [e0]
      simp only [strVals, List.map_append, List.map_cons, List.map_nil]
    rw [e1] at hown4
    exact ih (a', oN + 1, c', w4) ⟨hown4, below_push hB2 hown2 hg hB2.size⟩

theorem hexT_az : hexT [97, 122] = [54, 49, 55, 97] := by decide +kernel
theorem numsT_3 : numsT [3, -1] = [51, 32, 45, 49] := by
  unfold numsT
  rw [if_neg (by decide)]
  simp [Lib.itoa, Lib.decDigits_one (show 3 < 10 by omega), Lib.decDigits_one (show 1 < 10 by omega), Lib.join, List.intercalate]

theorem awake_spec (w : World) (ht : Pow w) :
    Calls Tryd.prog 6 #[] w fun e w' => e = .returned (.bool true) ∧ Below w.heap.size w w' := by
  refine calls_ret (vc6_calls w (fun v w' => v = .bool true ∧ Below w.heap.size w w') ?_) (by rintro v w' ⟨rfl, h⟩; exact ⟨rfl, h⟩)
  refine (Hex_spec [97, 122] w (by simp)).mono ?_
  rintro e w1 ⟨rfl, h1⟩
  refine ⟨_, rfl, CondP.yes ?_ ?_⟩
  · rw [show (⟨#[54, 49, 55, 97]⟩ : ByteArray) = str [54, 49, 55, 97] from rfl, beq_str, hexT_az]; rfl
  · rintro w2 rfl
    have h2 := (Below.refl w1.heap.size w1).alloc (Nat.le_refl _) (.cells #[Value.int .i64 3, Value.int .i64 (-1)] 3)
    refine (Numbers_spec (some (nb w1)) 2 [3, -1] _ (by
      intro j n hj
      refine ⟨_, rfl, by rw [alloc_size]; exact Nat.lt_succ_self _, ?_⟩
      rw [add_lit, Nat.zero_add, cell_new]
      match j, hj with
      | 0, hj => cases hj; rfl
      | 1, hj => cases hj; rfl) (by simp) (by intro n hn; simp at hn; rcases hn with rfl | rfl <;> (unfold I64; omega)) ((ht.on h1).on h2) (by simp)).mono ?_
    rintro e w3 ⟨rfl, h3⟩
    refine ⟨_, rfl, ?_, below_then h1 (below_then h2 h3)⟩
    rw [show (⟨#[51, 32, 45, 49]⟩ : ByteArray) = str [51, 32, 45, 49] from rfl, beq_str, numsT_3]; rfl
end Go.Proofs.YtibjkknfgppogaaDoor.Eng
