/- The grid's first offence; a nil grid; the laws on what is awake. -/
import Derived.Test.YtpklkijdlnioaaaGreatZgGh
import Derived.Test.YtpklkijdlnioaaaGreatZgFr
import Derived.Test.YtpklkijdlnioaaaGreatZgNn
set_option linter.unusedVariables false
set_option linter.unusedSimpArgs false
set_option maxRecDepth 100000
namespace Go.Proofs.YtpklkijdlnioaaaGreat.Eng
open Go Go.RowKit
theorem gFirst_spec (w : World) (g : Nat) (s : SpecV) (T : List Ent) (h : GrIs w g s T) (hn : (gids s T).length ≤ 1032) (hok : TOk T) (hV : (vocOf s T).Ok) (A : Option Addr) (C : Nat) (ids : List Int) (hr : Rw encInt 1 w A ids) (hl : ids.length ≤ 10000) :
    Calls Tryz.prog 31 #[.pointer (some ⟨g, 0, none⟩), .slice A ids.length C] w fun e w' => ∃ o : Option Nat, e = .returned (.tuple #[.int .i64 ((o.getD 0 : Nat) : Int), .bool o.isSome]) ∧ FirstR (vocOf s T) ids o ∧ w' = w := by
  refine calls_ret (vc31_calls (some ⟨g, 0, none⟩) A ids.length C w (fun u w' => ∃ o : Option Nat, u = .tuple #[.int .i64 ((o.getD 0 : Nat) : Int), .bool o.isSome] ∧ FirstR (vocOf s T) ids o ∧ w' = w) ?_) (by rintro v w' ⟨o, rfl, h⟩; exact ⟨o, rfl, h⟩)
  have hal : ∀ t, gAl s T t = true ↔ (vocOf s T).Has t ∧ (vocOf s T).Canon [t] := by
    intro t
    unfold gAl
    rw [Bool.and_eq_true, has_iff2 hok, decide_eq_true_iff]
  have hpr : ∀ a b, gHas s T a b = true ↔ ((vocOf s T).Has a ∧ (vocOf s T).Has b) ∧ (vocOf s T).Canon [a, b] := by
    intro a b
    unfold gHas
    rw [Bool.and_eq_true, Bool.and_eq_true, has_iff2 hok, has_iff2 hok, decide_eq_true_iff]
  intro I hI
  have key := climb2 (α := World) ids.length (fun i q => (∀ (j : Nat) (h : j < ids.length), j < i → (vocOf s T).Has ids[j] ∧ (vocOf s T).Canon (ids.take (j + 1))) ∧ q = w) (fun i q => ∀ y5 y4, I [.int .i64 (i : Int), .bool y5, .int .i64 y4] q) w ⟨fun j _ hj => absurd hj (Nat.not_lt_zero j), rfl⟩ ?_ ?_
  · exact key _ _
  · rintro i hi ih q ⟨hinv, rfl⟩ y5 y4
    obtain ⟨p, hp, c0⟩ := cell_rw hr hi rfl
    refine hI _ _ _ _ (CondP.yes (by simp; omega) (NilC.mk p hp ⟨by omega, by omega, _, c0, ?_⟩))
    refine (gAlone_spec q g s T h hn _).mono ?_
    rintro e w2 ⟨rfl, rfl⟩
    refine ⟨_, rfl, CondP.mk (fun h0 => ?_) fun h0 => ?_⟩
    · refine ⟨some i, rfl, ⟨fun j hj hji => hinv j hj hji, hi, fun e => ?_⟩, rfl⟩
      have hh : ∀ t ∈ ids.take (i + 1), (vocOf s T).Has t := by
        intro t ht
        obtain ⟨j, hj, rfl⟩ := List.mem_take_iff_getElem.1 ht
        by_cases e2 : j = i
        · subst e2; exact e.1
        · exact (hinv j (by omega) (by omega)).1
      have htk : ids.take (i + 1) = ids.take i ++ [ids[i]] := by rw [List.take_add_one, List.getElem?_eq_getElem hi]; rfl
      rw [htk] at hh e
      rw [(hal _).2 ⟨e.1, (Voc.canon_append hV hh e.2).2⟩] at h0
      cases h0
    · have h1 := (hal _).1 (by simpa using h0)
      have htk : ids.take (i + 1) = ids.take i ++ [ids[i]] := by rw [List.take_add_one, List.getElem?_eq_getElem hi]; rfl
      have next : (vocOf s T).Canon (ids.take (i + 1)) → Ar .i64 ((i : Int) + 1) (fun n => I [.int .i64 n, .bool y5, .int .i64 y4] w2) := by
        intro hc
        refine Ar.nat (i + 1) rfl (by omega) (ih w2 ⟨fun j hj hji => ?_, rfl⟩ _ _)
        by_cases e2 : j = i
        · subst e2; exact ⟨h1.1, hc⟩
        · exact hinv j hj (by omega)
      refine CondP.mk (fun hi0 => ?_) fun hi0 => ?_
      · have hi0 := of_decide_eq_true hi0
        obtain ⟨k, rfl⟩ : ∃ k, i = k + 1 := ⟨i - 1, by omega⟩
        obtain ⟨p2, hp2, c1⟩ := cell_rw hr (show k < ids.length by omega) rfl
        refine Ar.nat k (by omega) (by omega) (NilC.mk p2 hp2 ⟨by omega, by omega, _, c1, ?_⟩)
        refine (gHas_spec w2 g s T h hn _ _).mono ?_
        rintro e w3 ⟨rfl, rfl⟩
        have hk := hinv k (by omega) (by omega)
        have htk2 : ids.take (k + 1) = ids.take k ++ [ids[k]] := by rw [List.take_add_one, List.getElem?_eq_getElem (by omega)]; rfl
        have hh : ∀ t ∈ ids.take k ++ [ids[k]], (vocOf s T).Has t := by
          intro t ht
          rw [← htk2] at ht
          obtain ⟨j, hj, rfl⟩ := List.mem_take_iff_getElem.1 ht
          exact (hinv j (by omega) (by omega)).1
        have hc2 := hk.2
        rw [htk2] at hc2
        have m1 := Voc.canon_more hV hh hc2 h1.1
        have m2 : (vocOf s T).Canon [ids[k], ids[k + 1]] ↔ (vocOf s T).Canon [ids[k + 1]] ∧ (vocOf s T).Pair ids[k] ids[k + 1] := Voc.canon_more hV (init := []) (l := ids[k]) (t := ids[k + 1]) (fun x hx => by rw [List.nil_append, List.mem_singleton] at hx; rw [hx]; exact hk.1) (Voc.canon_append hV hh hc2).2 h1.1
        refine ⟨_, rfl, CondP.mk (fun h2 => ?_) fun h2 => ?_⟩
        · refine ⟨some (k + 1), rfl, ⟨fun j hj hji => hinv j hj hji, hi, fun e => ?_⟩, rfl⟩
          have e2 := e.2
          rw [htk, htk2] at e2
          rw [(hpr _ _).2 ⟨⟨hk.1, h1.1⟩, m2.2 (m1.1 e2)⟩] at h2
          cases h2
        · have h3 := (hpr _ _).1 (by simpa using h2)
          exact next (by rw [htk, htk2]; exact m1.2 (m2.1 h3.2))
      · have hi0 := of_decide_eq_false hi0
        obtain rfl : i = 0 := by omega
        refine next ?_
        rw [htk, List.take_zero, List.nil_append]
        exact h1.2
  · rintro q ⟨hinv, rfl⟩ y5 y4
    exact hI _ _ _ _ (CondP.no (by simp) ⟨none, rfl, fun j hj => hinv j hj hj, rfl⟩)

/-! ### A nil grid -/
theorem gPlace_nil (w : World) (id : Int) : Calls Tryz.prog 37 #[.pointer none, .int .i64 id] w fun e w' => e = .returned (.tuple #[.int .i64 0, .bool false]) ∧ w' = w :=
  calls_ret (vc37_calls none id w (fun u w' => u = .tuple #[.int .i64 0, .bool false] ∧ w' = w) (CondP.yes rfl ⟨rfl, rfl⟩)) (by rintro v w' ⟨rfl, h⟩; exact ⟨rfl, h⟩)
theorem gSize_nil (w : World) : Calls Tryz.prog 35 #[.pointer none] w fun e w' => e = .returned (.int .i64 0) ∧ w' = w :=
  calls_ret (vc35_calls none w (fun u w' => u = .int .i64 0 ∧ w' = w) (CondP.yes rfl ⟨rfl, rfl⟩)) (by rintro v w' ⟨rfl, h⟩; exact ⟨rfl, h⟩)
theorem gId_nil (w : World) (n : Int) : Calls Tryz.prog 33 #[.pointer none, .int .i64 n] w fun e w' => e = .returned (.tuple #[.int .i64 0, .bool false]) ∧ w' = w := by
  refine calls_ret (vc33_calls none n w (fun u w' => u = .tuple #[.int .i64 0, .bool false] ∧ w' = w) ?_) (by rintro v w' ⟨rfl, h⟩; exact ⟨rfl, h⟩)
  refine CondP.mk (fun _ => ⟨rfl, rfl⟩) fun h => ?_
  refine (gSize_nil w).mono ?_
  rintro e w1 ⟨rfl, rfl⟩
  exact ⟨_, rfl, CondP.yes (decide_eq_true (by have := of_decide_eq_false h; omega)) ⟨rfl, rfl⟩⟩
theorem gHas_nil (w : World) (a b : Int) : Calls Tryz.prog 34 #[.pointer none, .int .i64 a, .int .i64 b] w fun e w' => e = .returned (.bool false) ∧ w' = w := by
  refine calls_ret (vc34_calls none a b w (fun u w' => u = .bool false ∧ w' = w) ?_) (by rintro v w' ⟨rfl, h⟩; exact ⟨rfl, h⟩)
  refine (gPlace_nil w a).mono ?_
  rintro e w1 ⟨rfl, rfl⟩
  refine ⟨_, _, rfl, (gPlace_nil w1 b).mono ?_⟩
  rintro e w2 ⟨rfl, rfl⟩
  exact ⟨_, _, rfl, CondP.no rfl ⟨rfl, rfl⟩⟩
theorem gAlone_nil (w : World) (a : Int) : Calls Tryz.prog 39 #[.pointer none, .int .i64 a] w fun e w' => e = .returned (.bool false) ∧ w' = w := by
  refine calls_ret (vc39_calls none a w (fun u w' => u = .bool false ∧ w' = w) ?_) (by rintro v w' ⟨rfl, h⟩; exact ⟨rfl, h⟩)
  refine (gPlace_nil w a).mono ?_
  rintro e w1 ⟨rfl, rfl⟩
  exact ⟨_, _, rfl, CondP.no rfl ⟨rfl, rfl⟩⟩
theorem gRow_nil (w : World) (a : Int) : Calls Tryz.prog 32 #[.pointer none, .int .i64 a] w fun e w' => e = .returned (.slice none 0 0) ∧ w' = w := by
  refine calls_ret (vc32_calls none a w (fun u w' => u = .slice none 0 0 ∧ w' = w) ?_) (by rintro v w' ⟨rfl, h⟩; exact ⟨rfl, h⟩)
  refine (gPlace_nil w a).mono ?_
  rintro e w1 ⟨rfl, rfl⟩
  exact ⟨_, _, rfl, CondP.yes rfl ⟨rfl, rfl⟩⟩
theorem gCount_nil (w : World) (a : Int) : Calls Tryz.prog 36 #[.pointer none, .int .i64 a] w fun e w' => e = .returned (.int .i64 0) ∧ w' = w := by
  refine calls_ret (vc36_calls none a w (fun u w' => u = .int .i64 0 ∧ w' = w) ?_) (by rintro v w' ⟨rfl, h⟩; exact ⟨rfl, h⟩)
  refine (gPlace_nil w a).mono ?_
  rintro e w1 ⟨rfl, rfl⟩
  exact ⟨_, _, rfl, CondP.yes rfl ⟨rfl, rfl⟩⟩
theorem gFirst_nil1 (w : World) (A : Option Addr) (C : Nat) (ids : List Int) (hr : Rw encInt 1 w A ids) (hne : 0 < ids.length) : Calls Tryz.prog 31 #[.pointer none, .slice A ids.length C] w fun e w' => e = .returned (.tuple #[.int .i64 0, .bool true]) ∧ w' = w := by
  refine calls_ret (vc31_calls none A ids.length C w (fun u w' => u = .tuple #[.int .i64 0, .bool true] ∧ w' = w) ?_) (by rintro v w' ⟨rfl, h⟩; exact ⟨rfl, h⟩)
  intro I hI
  obtain ⟨p, hp, c0⟩ := cell_rw hr hne rfl
  refine hI 0 _ _ _ (CondP.yes (decide_eq_true (by omega)) (NilC.mk p hp ⟨Int.le_refl _, by omega, _, c0, ?_⟩))
  refine (gAlone_nil w _).mono ?_
  rintro e w2 ⟨rfl, rfl⟩
  exact ⟨_, rfl, CondP.yes rfl ⟨rfl, rfl⟩⟩
theorem gFirst_nil0 (w : World) : Calls Tryz.prog 31 #[.pointer none, .slice none 0 0] w fun e w' => e = .returned (.tuple #[.int .i64 0, .bool false]) ∧ w' = w := by
  refine calls_ret (vc31_calls none none 0 0 w (fun u w' => u = .tuple #[.int .i64 0, .bool false] ∧ w' = w) ?_) (by rintro v w' ⟨rfl, h⟩; exact ⟨rfl, h⟩)
  intro I hI
  exact hI 0 _ _ _ (CondP.no rfl ⟨rfl, rfl⟩)
theorem vocIds_nil (w : World) : Calls Tryz.prog 65 #[.pointer none] w fun e w' => e = .returned (.slice none 0 0) ∧ w' = w := by
  refine calls_ret (vc65_calls none w (fun u w' => u = .slice none 0 0 ∧ w' = w) ?_) (by rintro v w' ⟨rfl, h⟩; exact ⟨rfl, h⟩)
  have size0 : Calls Tryz.prog 94 #[.pointer none] w fun e w' => e = .returned (.int .i64 0) ∧ w' = w := by
    refine calls_ret (vc94_calls none w (fun u w' => u = .int .i64 0 ∧ w' = w) ?_) (by rintro v w' ⟨rfl, h⟩; exact ⟨rfl, h⟩)
    have tab0 : Calls Tryz.prog 127 #[.pointer none] w fun e w' => e = .returned (.pointer none) ∧ w' = w := calls_ret (vc127_calls none w (fun u w' => u = .pointer none ∧ w' = w) (CondP.yes rfl ⟨rfl, rfl⟩)) (by rintro v w' ⟨rfl, h⟩; exact ⟨rfl, h⟩)
    refine tab0.mono ?_
    rintro e w1 ⟨rfl, rfl⟩
    have len0 : Calls Tryz.prog 118 #[.pointer none] w1 fun e w' => e = .returned (.int .i64 0) ∧ w' = w1 := calls_ret (vc118_calls none w1 (fun u w' => u = .int .i64 0 ∧ w' = w1) (CondP.yes rfl ⟨rfl, rfl⟩)) (by rintro v w' ⟨rfl, h⟩; exact ⟨rfl, h⟩)
    refine ⟨_, rfl, len0.mono ?_⟩
    rintro e w2 ⟨rfl, rfl⟩
    exact ⟨_, rfl, rfl, rfl⟩
  refine size0.mono ?_
  rintro e w1 ⟨rfl, rfl⟩
  refine ⟨_, rfl, ?_⟩
  intro I hI
  refine hI 0 _ _ _ _ (CondP.no rfl ?_)
  have marks0 : Calls Tryz.prog 92 #[.pointer none] w1 fun e w' => e = .returned (.pointer none) ∧ w' = w1 := calls_ret (vc92_calls none w1 (fun u w' => u = .pointer none ∧ w' = w1) (CondP.yes rfl ⟨rfl, rfl⟩)) (by rintro v w' ⟨rfl, h⟩; exact ⟨rfl, h⟩)
  refine marks0.mono ?_
  rintro e w2 ⟨rfl, rfl⟩
  have all0 : Calls Tryz.prog 96 #[.pointer none] w2 fun e w' => e = .returned (.slice none 0 0) ∧ w' = w2 := calls_ret (vc96_calls none w2 (fun u w' => u = .slice none 0 0 ∧ w' = w2) (CondP.yes rfl ⟨rfl, rfl⟩)) (by rintro v w' ⟨rfl, h⟩; exact ⟨rfl, h⟩)
  refine ⟨_, rfl, all0.mono ?_⟩
  rintro e w3 ⟨rfl, rfl⟩
  refine ⟨_, _, _, rfl, ?_⟩
  intro I2 hI2
  refine hI2 0 _ _ _ _ (CondP.no rfl ?_)
  refine (sort_nil w3).mono ?_
  rintro e w4 ⟨rfl, rfl⟩
  exact ⟨rfl, rfl, rfl⟩
theorem gridNew_nil (w : World) (most : Int) : Calls Tryz.prog 30 #[.pointer none, .int .i64 most] w fun e w' => e = .returned (.tuple #[.pointer none, .int .i64 1]) ∧ Below w.heap.size w w' := by
  refine calls_ret (vc30_calls none most w (fun u w' => u = .tuple #[.pointer none, .int .i64 1] ∧ Below w.heap.size w w') ?_) (by rintro v w' ⟨rfl, h⟩; exact ⟨rfl, h⟩)
  intro w1 hw1
  have b1 : Below w.heap.size w w1 := by subst hw1; exact below_alloc _ _
  have l1 : w1.heap[w.heap.size]? = some (.cells #[.pointer none] 31 (0, 0)) := by subst hw1; exact alloc_new _ _
  refine ⟨_, cell1 l1, (vocIds_nil w1).mono ?_⟩
  rintro e w2 ⟨rfl, rfl⟩
  refine ⟨_, _, _, rfl, ?_⟩
  intro w3 hw3
  refine box_store hw3 rfl ?_
  intro w4 l4 b4
  exact ⟨_, cell1 (held_on b4 l1), CondP.yes rfl ⟨rfl, below_then b1 b4⟩⟩

/-! ### What is awake -/
theorem gids_aw : (gids sAw tAw).length = 257 := by decide +kernel
theorem gAw1 : gHas sAw tAw 97 98 = false := by decide +kernel
theorem gAw2 : gHas sAw tAw 98 97 = true := by decide +kernel
theorem gAw3 : gCnt sAw tAw 97 = 256 := by decide +kernel
theorem awake15_spec (w : World) : Calls Tryz.prog 29 #[] w fun e w' => e = .returned (.bool true) ∧ Below w.heap.size w w' := by
  refine calls_ret (vc29_calls w (fun u w' => u = .bool true ∧ Below w.heap.size w w') ?_) (by rintro v w' ⟨rfl, h⟩; exact ⟨rfl, h⟩)
  intro w1 hw1
  have hb1 : Below w.heap.size w w1 := by subst hw1; exact below_alloc _ _
  refine (vocabNew_spec w1 _ sAw (specAt_aw w w1 hw1)).mono ?_
  rintro e w2 ⟨u, rfl, hb2, hp⟩
  rw [if_pos right_aw, build_aw] at hp
  obtain ⟨v, rfl, hV, hv⟩ := hp
  have hb12 := below_then hb1 hb2
  have hz1 := hb1.size
  refine ⟨_, _, _, rfl, ?_⟩
  refine (gridNew_spec w2 v sAw tAw hV List.Pairwise.nil 1048576).mono ?_
  rintro e w3 ⟨u, rfl, hV3, t3, hu⟩
  rw [gids_aw, if_neg (by decide)] at hu
  obtain ⟨g, rfl, hG, hg⟩ := hu
  refine ⟨_, _, rfl, CondP.yes rfl ?_⟩
  refine (gSize_spec w3 g sAw tAw hG).mono ?_
  rintro e w4 ⟨rfl, rfl⟩
  rw [gids_aw]
  refine ⟨_, rfl, CondP.yes rfl ?_⟩
  have hn : (gids sAw tAw).length ≤ 1032 := by rw [gids_aw]; decide
  refine (gHas_spec w4 g sAw tAw hG hn 97 98).mono ?_
  rintro e w5 ⟨rfl, rfl⟩
  rw [gAw1]
  refine ⟨_, rfl, CondP.yes rfl ((gHas_spec w5 g sAw tAw hG hn 98 97).mono ?_)⟩
  rintro e w6 ⟨rfl, rfl⟩
  rw [gAw2]
  refine ⟨_, rfl, CondP.yes rfl ((gCount_spec w6 g sAw tAw hG hn 97).mono ?_)⟩
  rintro e w7 ⟨rfl, rfl⟩
  rw [gAw3]
  exact ⟨_, rfl, rfl, hb12.trans (t3.below (by omega) hb12.size)⟩
theorem GridNone_spec (a b : Int) (w : World) : Calls Tryz.prog 11 #[.int .i64 a, .int .i64 b] w fun e w' => e = .returned (.bool true) ∧ Below w.heap.size w w' := by
  refine calls_ret (vc11_calls a b w (fun u w' => u = .bool true ∧ Below w.heap.size w w') ?_) (by rintro v w' ⟨rfl, h⟩; exact ⟨rfl, h⟩)
  refine (gridNew_nil w 1048576).mono ?_
  rintro e w1 ⟨rfl, b1⟩
  refine ⟨_, _, rfl, (gPlace_nil w1 a).mono ?_⟩
  rintro e w2 ⟨rfl, rfl⟩
  refine ⟨_, _, rfl, (gId_nil w2 a).mono ?_⟩
  rintro e w3 ⟨rfl, rfl⟩
  refine ⟨_, _, rfl, ?_⟩
  intro w4 hw4
  have b4 : Below w3.heap.size w3 w4 := by subst hw4; exact below_alloc _ _
  refine (gFirst_nil1 w4 (some (nb w3)) 2 [a, b] (intsAt w3 w4 [a, b] _ rfl hw4) (Nat.succ_pos _)).mono ?_
  rintro e w5 ⟨rfl, rfl⟩
  refine ⟨_, _, rfl, (gFirst_nil0 w5).mono ?_⟩
  rintro e w6 ⟨rfl, rfl⟩
  refine ⟨_, _, rfl, CondP.yes rfl (CondP.yes rfl (CondP.yes rfl (CondP.yes rfl ((gHas_nil w6 a b).mono ?_))))⟩
  rintro e w7 ⟨rfl, rfl⟩
  refine ⟨_, rfl, CondP.yes rfl ((gAlone_nil w7 a).mono ?_)⟩
  rintro e w8 ⟨rfl, rfl⟩
  refine ⟨_, rfl, CondP.yes rfl ((gRow_nil w8 a).mono ?_)⟩
  rintro e w9 ⟨rfl, rfl⟩
  refine ⟨_, _, _, rfl, CondP.yes rfl ((gCount_nil w9 a).mono ?_)⟩
  rintro e w10 ⟨rfl, rfl⟩
  refine ⟨_, rfl, CondP.yes rfl ((gSize_nil w10).mono ?_)⟩
  rintro e w11 ⟨rfl, rfl⟩
  refine ⟨_, rfl, CondP.yes rfl (CondP.yes rfl (CondP.yes rfl (CondP.yes rfl ((awake15_spec w11).mono ?_))))⟩
  rintro e w12 ⟨rfl, b12⟩
  exact ⟨_, rfl, rfl, below_then (below_then b1 b4) b12⟩

/-! ### The first offence by the grid is the reference's -/
theorem gids_few {w : World} {v : Nat} {y : RvW} {s : SpecV} {T : List Ent} (h : Both w v y s T) : (gids s T).length ≤ 1006 ∧ (((gids s T).length * (gids s T).length : Nat) : Int) ≤ 1048576 := by
  have h1 := h.now.ok.most
  have h2 := h.few
  have h3 := h.ids
  have hT : T.length ≤ 1000 := h1
  have hl : (gids s T).length ≤ 1006 := by rw [gids_length]; omega
  refine ⟨hl, ?_⟩
  have : (gids s T).length * (gids s T).length ≤ 1006 * 1006 := Nat.mul_le_mul hl hl
  omega
theorem firstR_unique {V : Voc} {ids : List Int} {o o' : Option Nat} (h : FirstR V ids o) (h' : FirstR V ids o') : o = o' := by
  cases o with
  | none =>
    cases o' with
    | none => rfl
    | some k => obtain ⟨_, hk, h2⟩ := h'; exact absurd (h k hk) h2
  | some k =>
    obtain ⟨h1, hk, h2⟩ := h
    cases o' with
    | none => exact absurd (h' k hk) h2
    | some k' =>
      obtain ⟨h1', hk', h2'⟩ := h'
      rcases Nat.lt_trichotomy k k' with h | h | h
      · exact absurd (h1' k hk h) h2
      · rw [h]
      · exact absurd (h1 k' hk' h) h2'
end Go.Proofs.YtpklkijdlnioaaaGreat.Eng
