/- The fold's first offence; a nil fold; the laws on folds. -/
import Derived.Test.YtboemnagahmlkaaGreatZfVf
import Derived.Test.YtboemnagahmlkaaGreatZfLib
set_option linter.unusedVariables false
set_option linter.unusedSimpArgs false
set_option maxRecDepth 100000
namespace Go.Proofs.YtboemnagahmlkaaGreat.Eng
open Go Go.RowKit
/-! ### A nil fold -/
theorem fPlace_nil (w : World) (id : Int) : Calls Tryz.prog 68 #[.pointer none, .int .i64 id] w fun e w' => e = .returned (.tuple #[.int .i64 0, .bool false]) ∧ w' = w :=
  calls_ret (vc68_calls none id w (fun u w' => u = .tuple #[.int .i64 0, .bool false] ∧ w' = w) (CondP.yes rfl ⟨rfl, rfl⟩)) (by rintro v w' ⟨rfl, h⟩; exact ⟨rfl, h⟩)
theorem fRow_nil (w : World) (id : Int) : Calls Tryz.prog 26 #[.pointer none, .int .i64 id] w fun e w' => e = .returned (.tuple #[.int .i64 0, .bool false]) ∧ w' = w := by
  refine calls_ret (vc26_calls none id w (fun u w' => u = .tuple #[.int .i64 0, .bool false] ∧ w' = w) ?_) (by rintro v w' ⟨rfl, h⟩; exact ⟨rfl, h⟩)
  refine (fPlace_nil w id).mono ?_
  rintro e w1 ⟨rfl, rfl⟩
  exact ⟨_, _, rfl, CondP.yes rfl ⟨rfl, rfl⟩⟩
theorem fCol_nil (w : World) (id : Int) : Calls Tryz.prog 27 #[.pointer none, .int .i64 id] w fun e w' => e = .returned (.tuple #[.int .i64 0, .bool false]) ∧ w' = w := by
  refine calls_ret (vc27_calls none id w (fun u w' => u = .tuple #[.int .i64 0, .bool false] ∧ w' = w) ?_) (by rintro v w' ⟨rfl, h⟩; exact ⟨rfl, h⟩)
  refine (fPlace_nil w id).mono ?_
  rintro e w1 ⟨rfl, rfl⟩
  exact ⟨_, _, rfl, CondP.yes rfl ⟨rfl, rfl⟩⟩
theorem fRows_nil (w : World) : Calls Tryz.prog 28 #[.pointer none] w fun e w' => e = .returned (.int .i64 0) ∧ w' = w :=
  calls_ret (vc28_calls none w (fun u w' => u = .int .i64 0 ∧ w' = w) (CondP.yes rfl ⟨rfl, rfl⟩)) (by rintro v w' ⟨rfl, h⟩; exact ⟨rfl, h⟩)
theorem fCols_nil (w : World) : Calls Tryz.prog 29 #[.pointer none] w fun e w' => e = .returned (.int .i64 0) ∧ w' = w :=
  calls_ret (vc29_calls none w (fun u w' => u = .int .i64 0 ∧ w' = w) (CondP.yes rfl ⟨rfl, rfl⟩)) (by rintro v w' ⟨rfl, h⟩; exact ⟨rfl, h⟩)
theorem fBits_nil (w : World) : Calls Tryz.prog 30 #[.pointer none] w fun e w' => e = .returned (.int .i64 0) ∧ w' = w := by
  refine calls_ret (vc30_calls none w (fun u w' => u = .int .i64 0 ∧ w' = w) ?_) (by rintro v w' ⟨rfl, h⟩; exact ⟨rfl, h⟩)
  refine (fRows_nil w).mono ?_
  rintro e w1 ⟨rfl, rfl⟩
  refine ⟨_, rfl, (fCols_nil w1).mono ?_⟩
  rintro e w2 ⟨rfl, rfl⟩
  exact ⟨_, rfl, Ar.nat 0 rfl (by omega) ⟨rfl, rfl⟩⟩
theorem fAlone_nil (w : World) (id : Int) : Calls Tryz.prog 34 #[.pointer none, .int .i64 id] w fun e w' => e = .returned (.bool false) ∧ w' = w := by
  refine calls_ret (vc34_calls none id w (fun u w' => u = .bool false ∧ w' = w) ?_) (by rintro v w' ⟨rfl, h⟩; exact ⟨rfl, h⟩)
  refine (fCol_nil w id).mono ?_
  rintro e w1 ⟨rfl, rfl⟩
  exact ⟨_, _, rfl, CondP.no rfl ⟨rfl, rfl⟩⟩
theorem fHas_nil (w : World) (a b : Int) : Calls Tryz.prog 35 #[.pointer none, .int .i64 a, .int .i64 b] w fun e w' => e = .returned (.bool false) ∧ w' = w := by
  refine calls_ret (vc35_calls none a b w (fun u w' => u = .bool false ∧ w' = w) ?_) (by rintro v w' ⟨rfl, h⟩; exact ⟨rfl, h⟩)
  refine (fRow_nil w a).mono ?_
  rintro e w1 ⟨rfl, rfl⟩
  refine ⟨_, _, rfl, (fCol_nil w1 b).mono ?_⟩
  rintro e w2 ⟨rfl, rfl⟩
  exact ⟨_, _, rfl, CondP.no rfl ⟨rfl, rfl⟩⟩
theorem fFirst_nil1 (w : World) (A : Option Addr) (C : Nat) (ids : List Int) (hr : Rw encInt 1 w A ids) (hne : 0 < ids.length) : Calls Tryz.prog 36 #[.pointer none, .slice A ids.length C] w fun e w' => e = .returned (.tuple #[.int .i64 0, .bool true]) ∧ w' = w := by
  refine calls_ret (vc36_calls none A ids.length C w (fun u w' => u = .tuple #[.int .i64 0, .bool true] ∧ w' = w) ?_) (by rintro v w' ⟨rfl, h⟩; exact ⟨rfl, h⟩)
  intro I hI
  obtain ⟨p, hp, c0⟩ := cell_rw hr hne rfl
  refine hI 0 _ _ _ (CondP.yes (decide_eq_true (by omega)) (NilC.mk p hp ⟨Int.le_refl _, by omega, _, c0, ?_⟩))
  refine (fAlone_nil w _).mono ?_
  rintro e w2 ⟨rfl, rfl⟩
  exact ⟨_, rfl, CondP.yes rfl ⟨rfl, rfl⟩⟩
theorem foldNew_nil (w : World) : Calls Tryz.prog 37 #[.pointer none] w fun e w' => e = .returned (.pointer none) ∧ Below w.heap.size w w' := by
  refine calls_ret (vc37_calls none w (fun u w' => u = .pointer none ∧ Below w.heap.size w w') ?_) (by rintro v w' ⟨rfl, h⟩; exact ⟨rfl, h⟩)
  intro w1 hw1
  have b1 : Below w.heap.size w w1 := by subst hw1; exact below_alloc _ _
  have l1 : w1.heap[w.heap.size]? = some (.cells #[.pointer none] 48 (0, 0)) := by subst hw1; exact alloc_new _ _
  exact ⟨_, cell1 l1, CondP.yes rfl ⟨rfl, b1⟩⟩

/-! ### What is awake -/
theorem firsts_same {κ κ' : Type} [DecidableEq κ] [DecidableEq κ'] {k : Nat → κ} {k' : Nat → κ'} : ∀ {n : Nat}, (∀ i j, i < n → j < n → (k i = k j ↔ k' i = k' j)) → firsts k n = firsts k' n
  | 0, _ => rfl
  | n + 1, h => by
    have e := firsts_same (k := k) (k' := k') (n := n) fun i j hi hj => h i j (by omega) (by omega)
    rw [firsts_succ, firsts_succ, ← e]
    have ef : (firsts k n).findIdx? (fun a => decide (k a = k n)) = (firsts k n).findIdx? (fun a => decide (k' a = k' n)) := by
      have : ∀ l : List Nat, (∀ a ∈ l, a < n) → l.findIdx? (fun a => decide (k a = k n)) = l.findIdx? (fun a => decide (k' a = k' n)) := by
        intro l
        induction l with
        | nil => intro _; rfl
        | cons a l ih =>
          intro hl
          have ha := hl a List.mem_cons_self
          rw [List.findIdx?_cons, List.findIdx?_cons, ih fun b hb => hl b (List.mem_cons_of_mem _ hb), decide_eq_decide.2 (h a n (by omega) (by omega))]
      exact this _ fun a ha => firsts_lt ha
    rw [ef]
abbrev V0 : Voc := vocOf sAw tAw
theorem aw_ms : V0.ms = [(97, 98)] := by decide +kernel
theorem aw_ex : ∀ i : Nat, i < 256 → V0.ex (i : Int) = [(i : Int)] := by decide +kernel
theorem aw_ex2 : V0.ex 256 = [97, 98] := by decide +kernel
theorem aw_cut (x y : Int) (hx : 0 ≤ x) (hy : 0 ≤ y) : V0.cut x y = false := by
  unfold Voc.cut
  rw [decide_eq_false (by omega), decide_eq_false (by omega), Bool.false_or, Bool.false_or]
  show cutB [] [] x y = false
  unfold cutB
  exact decide_eq_false fun e => e.1 rfl
theorem aw_chop : ∀ Z : List Int, Z ≠ [] → (∀ x ∈ Z, 0 ≤ x) → chop V0.cut Z = [Z]
  | [], h, _ => absurd rfl h
  | [x], _, _ => rfl
  | x :: y :: r, _, h => by
    have hx := h x (by simp)
    have hy := h y (by simp)
    rw [chop, if_neg (by rw [aw_cut x y hx hy]; exact Bool.false_ne_true), aw_chop (y :: r) (by simp) fun z hz => h z (List.mem_cons_of_mem _ hz)]
theorem aw_enc (Z : List Int) (h : Z ≠ []) (h0 : ∀ x ∈ Z, 0 ≤ x) : V0.encode Z = pass 97 98 256 Z := by
  unfold Voc.encode
  rw [aw_chop Z h h0, List.flatMap_cons, List.flatMap_nil, List.append_nil]
  cases Z with
  | nil => exact absurd rfl h
  | cons x r =>
    have := h0 x List.mem_cons_self
    show (if x < 0 then _ else after V0.ms V0.ms.length (x :: r)) = _
    rw [if_neg (by omega), aw_ms]
    rfl
theorem aw_items (t : Int) : V0.items t = V0.ex t := rfl
theorem aw_gid {i : Nat} (hi : i < 257) : (gids sAw tAw).getD i 0 = (i : Int) := by
  have h : ∀ i : Nat, i < 257 → (gids sAw tAw).getD i 0 = (i : Int) := by decide +kernel
  exact h i hi
theorem aw_ex3 {i : Nat} (hi : i < 257) : (i = 256 ∧ V0.ex (i : Int) = [97, 98]) ∨ (i < 256 ∧ V0.ex (i : Int) = [(i : Int)]) := by
  by_cases e : i = 256
  · subst e; exact .inl ⟨rfl, aw_ex2⟩
  · exact .inr ⟨by omega, aw_ex i (by omega)⟩
theorem rel_aw {i j : Nat} (hi : i < 257) (hj : j < 257) : relB sAw tAw i j = !(decide (i = 97) && decide (j = 98)) := by
  unfold relB
  rw [aw_gid hi, aw_gid hj]
  have e : (V0.Canon [(i : Int), (j : Int)]) ↔ pass 97 98 256 (V0.ex (i : Int) ++ V0.ex (j : Int)) = [(i : Int), (j : Int)] := by
    unfold Voc.Canon Voc.itemsAll
    simp only [List.flatMap_cons, List.flatMap_nil, List.append_nil, aw_items]
    rw [aw_enc]
    · rcases aw_ex3 hi with ⟨_, h⟩ | ⟨_, h⟩ <;> rw [h] <;> simp
    · intro x hx
      rcases aw_ex3 hi with ⟨_, h⟩ | ⟨_, h⟩ <;> rcases aw_ex3 hj with ⟨_, h'⟩ | ⟨_, h'⟩ <;> rw [h, h'] at hx <;> simp at hx <;> omega
  rw [Bool.eq_iff_iff, decide_eq_true_iff, e]
  rcases aw_ex3 hi with ⟨rfl, h⟩ | ⟨h1, h⟩ <;> rcases aw_ex3 hj with ⟨rfl, h'⟩ | ⟨h2, h'⟩ <;> simp only [h, h']
  · decide
  · have : pass 97 98 256 ([97, 98] ++ [(j : Int)]) = [256, (j : Int)] := by simp [pass]
    rw [this]
    simp
  · have : pass 97 98 256 ([(i : Int)] ++ [97, 98]) = [(i : Int), 256] := by
      show pass 97 98 256 ((i : Int) :: 97 :: [98]) = _
      rw [pass_no _ (by omega), pass_yes]
      rfl
    rw [this]
    simp
  · by_cases e1 : i = 97 ∧ j = 98
    · obtain ⟨rfl, rfl⟩ := e1
      decide
    · have : pass 97 98 256 ([(i : Int)] ++ [(j : Int)]) = [(i : Int), (j : Int)] := by
        show pass 97 98 256 ((i : Int) :: (j : Int) :: []) = _
        rw [pass_no _ (by omega)]
        rfl
      rw [this]
      have : (decide (i = 97) && decide (j = 98)) = false := by
        rw [← Bool.decide_and]
        exact decide_eq_false e1
      rw [this]
      simp
theorem al_aw {i : Nat} (hi : i < 257) : alB sAw tAw i = true := by
  unfold alB
  rw [aw_gid hi]
  refine decide_eq_true ?_
  show V0.encode (V0.itemsAll [(i : Int)]) = [(i : Int)]
  unfold Voc.itemsAll
  simp only [List.flatMap_cons, List.flatMap_nil, List.append_nil, aw_items]
  rcases aw_ex3 hi with ⟨rfl, h⟩ | ⟨h1, h⟩
  · rw [h, aw_enc _ (by simp) (by intro x hx; simp at hx; omega)]
    rfl
  · rw [h, aw_enc _ (by simp) (by intro x hx; simp at hx; omega)]
    rfl
theorem gN_aw : gN sAw tAw = 257 := gids_aw
theorem rowF_aw : (rowF sAw tAw).length = 2 := by
  have e : rowF sAw tAw = firsts (fun i => decide (i = 97)) 257 := by
    unfold rowF
    rw [gN_aw]
    refine firsts_same fun i j hi hj => ?_
    rw [row_eq, gN_aw]
    constructor
    · intro h
      have := h 98 (by decide)
      rw [rel_aw hi (by decide), rel_aw hj (by decide)] at this
      simpa using this
    · intro h m hm
      rw [rel_aw hi hm, rel_aw hj hm, h]
  rw [e]
  decide +kernel
theorem colF_aw : (colF sAw tAw).length = 2 := by
  have e : colF sAw tAw = firsts (fun i => decide (i = 98)) 257 := by
    unfold colF
    rw [gN_aw]
    refine firsts_same fun i j hi hj => ?_
    rw [col_all (by rw [gN_aw]; exact hi) (by rw [gN_aw]; exact hj), gN_aw]
    constructor
    · rintro ⟨_, h⟩
      have := h 97 (by decide)
      rw [rel_aw (by decide) hi, rel_aw (by decide) hj] at this
      simpa using this
    · intro h
      refine ⟨by rw [al_aw hi, al_aw hj], fun a ha => ?_⟩
      rw [rel_aw ha hi, rel_aw ha hj, h]
  rw [e]
  decide +kernel
theorem gAw4 : gHas sAw tAw 256 98 = true := by decide +kernel
theorem rise_aw : RiseG sAw tAw := gids_rising List.Pairwise.nil (by intro y hy; cases hy)
theorem awake16_spec (w : World) : Calls Tryz.prog 22 #[] w fun e w' => e = .returned (.bool true) ∧ Below w.heap.size w w' := by
  refine calls_ret (vc22_calls w (fun u w' => u = .bool true ∧ Below w.heap.size w w') ?_) (by rintro v w' ⟨rfl, h⟩; exact ⟨rfl, h⟩)
  intro w1 hw1
  have hb1 : Below w.heap.size w w1 := by subst hw1; exact below_alloc _ _
  refine (vocabNew_spec w1 _ sAw (specAt_aw w w1 hw1)).mono ?_
  rintro e w2 ⟨u, rfl, hb2, hp⟩
  rw [if_pos right_aw, build_aw] at hp
  obtain ⟨v, rfl, hV, hv⟩ := hp
  have hb12 := below_then hb1 hb2
  have hz1 := hb1.size
  refine ⟨_, _, _, rfl, ?_⟩
  refine (gridNew_spec w2 v sAw tAw hV List.Pairwise.nil 1048576).mono ?_
  rintro e w3 ⟨u, rfl, hV3, t3, hu⟩
  rw [gids_aw, if_neg (by decide)] at hu
  obtain ⟨g, rfl, hG, hg⟩ := hu
  have hb3 : Below w.heap.size w w3 := hb12.trans (t3.below (by omega) hb12.size)
  have hgl : g < w3.heap.size := by
    obtain ⟨ids, rows, alone, mb, rs, hR⟩ := hG
    exact (Array.getElem?_eq_some_iff.1 hR.blk).1
  have hn : gN sAw tAw ≤ 1032 := by rw [gN_aw]; decide
  refine ⟨_, _, rfl, (foldNew_spec w3 g sAw tAw hG hn rise_aw hgl).mono ?_⟩
  rintro e w4 ⟨f, rfl, hF, b4⟩
  refine ⟨_, rfl, CondP.yes rfl ((fRows_spec w4 f g sAw tAw hF).mono ?_)⟩
  rintro e w5 ⟨rfl, rfl⟩
  rw [rowF_aw]
  refine ⟨_, rfl, CondP.yes rfl ((fCols_spec w5 f g sAw tAw hF).mono ?_)⟩
  rintro e w6 ⟨rfl, rfl⟩
  rw [colF_aw]
  refine ⟨_, rfl, CondP.yes rfl ((fBits_spec w6 f g sAw tAw hF hn).mono ?_)⟩
  rintro e w7 ⟨rfl, rfl⟩
  rw [rowF_aw, colF_aw]
  refine ⟨_, rfl, CondP.yes rfl ((fHas_spec w7 f g sAw tAw hF 97 98).mono ?_)⟩
  rintro e w8 ⟨rfl, rfl⟩
  rw [gAw1]
  refine ⟨_, rfl, CondP.yes rfl ((fHas_spec w8 f g sAw tAw hF 256 98).mono ?_)⟩
  rintro e w9 ⟨rfl, rfl⟩
  rw [gAw4]
  exact ⟨_, rfl, rfl, below_then hb3 b4⟩
theorem FoldNone_spec (a b : Int) (w : World) : Calls Tryz.prog 6 #[.int .i64 a, .int .i64 b] w fun e w' => e = .returned (.bool true) ∧ Below w.heap.size w w' := by
  refine calls_ret (vc6_calls a b w (fun u w' => u = .bool true ∧ Below w.heap.size w w') ?_) (by rintro v w' ⟨rfl, h⟩; exact ⟨rfl, h⟩)
  refine (foldNew_nil w).mono ?_
  rintro e w1 ⟨rfl, b1⟩
  refine ⟨_, rfl, (fRow_nil w1 a).mono ?_⟩
  rintro e w2 ⟨rfl, rfl⟩
  refine ⟨_, _, rfl, (fCol_nil w2 b).mono ?_⟩
  rintro e w3 ⟨rfl, rfl⟩
  refine ⟨_, _, rfl, ?_⟩
  intro w4 hw4
  have b4 : Below w3.heap.size w3 w4 := by subst hw4; exact below_alloc _ _
  refine (fFirst_nil1 w4 (some (nb w3)) 1 [a] (intsAt w3 w4 [a] _ rfl hw4) (Nat.succ_pos _)).mono ?_
  rintro e w5 ⟨rfl, rfl⟩
  refine ⟨_, _, rfl, CondP.yes rfl (CondP.yes rfl (CondP.yes rfl ((fRows_nil w5).mono ?_)))⟩
  rintro e w6 ⟨rfl, rfl⟩
  refine ⟨_, rfl, CondP.yes rfl ((fCols_nil w6).mono ?_)⟩
  rintro e w7 ⟨rfl, rfl⟩
  refine ⟨_, rfl, CondP.yes rfl ((fBits_nil w7).mono ?_)⟩
  rintro e w8 ⟨rfl, rfl⟩
  refine ⟨_, rfl, CondP.yes rfl ((fHas_nil w8 a b).mono ?_)⟩
  rintro e w9 ⟨rfl, rfl⟩
  refine ⟨_, rfl, CondP.yes rfl ((fAlone_nil w9 a).mono ?_)⟩
  rintro e w10 ⟨rfl, rfl⟩
  refine ⟨_, rfl, CondP.yes rfl (CondP.yes rfl ((awake16_spec w10).mono ?_))⟩
  rintro e w11 ⟨rfl, b11⟩
  exact ⟨_, rfl, rfl, below_then (below_then b1 b4) b11⟩
end Go.Proofs.YtboemnagahmlkaaGreat.Eng

/- The frame of a law's row where no variable is laid. -/
set_option linter.unusedVariables false
namespace Go.Proofs.YtboemnagahmlkaaGreat.Eng
open Go Go.RowKit
theorem law_frame0 {H : Type} {enc : TypeId × Value → H} {C : Checked} {os : Os} {f : FuncId} {fn : Func} {s : ChangeSpec}
    (own : ownKnob C.prog.godebug = none) (started : os.Started) (noInit : C.prog.inits.idxOf? f = none) (hfn : C.prog.funcs[f]? = some fn)
    (witness : ∃ (w : World) (tape : Tape) (i : Input), w.os = os ∧ (w.forCall tape i).Shaped C.prog ∧ i.vars = [] ∧ Input.okWide C.prog (w.forCall tape i) .any w.heap.size f i ∧
      ((s.pre enc C.prog fn [] false (w.forCall tape i).memory i.args ∧ True) ∧ sizedMet enc C.prog fn (OpenSpec.ofChange s) false (w.forCall tape i).memory i.args) ∧ ({} : Assume).holds C.prog (lone (Frame.enter C.prog f i.args .normal) [] (w.forCall tape i)))
    (contract : ∀ (W : World) (base : Nat) (args : Array Value) (ds gs : List (DataW H)) (before : List MemPlace),
      (∀ (j : Nat) t v, fn.params[j]? = some t → args[j]? = some v → Value.okWide C.prog W .any base t v) →
      DataW.Whole enc C.prog fn.params.toList s.vars false W args.toList ds gs before →
      (DataW.weightsEach C.prog (fn.params.toList ++ s.plain.varTypes C.prog) (ds ++ gs)).all (· ≤ reachBytes) = true →
      W.ShapedOpen C.prog →
      Calls C.prog f args W fun e W' => ∃ v, e = .returned v ∧ s.post enc C.prog fn false true false false W args v W') :
    ReturnsInHanded {} C os f .any (fun w args => s.pre enc C.prog fn [] false w args ∧ sizedMet enc C.prog fn (OpenSpec.ofChange s) false w args) (s.post enc C.prog fn false true false false) := by
  have witness' : ∃ (w : World) (tape : Tape) (i : Input), w.os = os ∧ (w.forCall tape i).Shaped C.prog ∧ i.vars = [] ∧ Input.okWide C.prog (w.forCall tape i) .any w.heap.size f i ∧
      (s.pre enc C.prog fn [] false (w.forCall tape i).memory i.args ∧ sizedMet enc C.prog fn (OpenSpec.ofChange s) false (w.forCall tape i).memory i.args) ∧ ({} : Assume).holds C.prog (lone (Frame.enter C.prog f i.args .normal) [] (w.forCall tape i)) := by
    obtain ⟨w, tape, i, h1, h2, h3, h4, ⟨⟨h5, _⟩, h6⟩, h7⟩ := witness
    exact ⟨w, tape, i, h1, h2, h3, h4, ⟨h5, h6⟩, h7⟩
  refine returnsInHanded_of_calls own started noInit witness' ?_
  intro w tape i _ hshape _ hok hpre _
  obtain ⟨_, _, _, fn', hfn', _, _, _, _, hval⟩ := hok
  obtain rfl : fn' = fn := Option.some.inj (hfn'.symm.trans hfn)
  obtain ⟨⟨ds, gs, before, hw, _⟩, hz⟩ := hpre
  refine (contract (w.forCall tape i) w.heap.size i.args ds gs before hval (DataW.Whole.of_heap (w' := w.forCall tape i) (by rfl) hw) (hz.weights hw) hshape).mono ?_
  rintro e W' ⟨v, rfl, hp⟩
  exact ChangeSpec.post_blind hp
end Go.Proofs.YtboemnagahmlkaaGreat.Eng
