/- The grid's first offence; a nil grid; the laws on what is awake. -/
import Derived.Test.YtpklkijdlnioaaaGreatZhGh
import Derived.Test.YtpklkijdlnioaaaGreatZhFr
import Derived.Test.YtpklkijdlnioaaaGreatZhNn
set_option linter.unusedVariables false
set_option linter.unusedSimpArgs false
set_option maxRecDepth 100000
namespace Go.Proofs.YtpklkijdlnioaaaGreat.Eng
open Go Go.RowKit
/-! ### A nil grid -/
/-! ### What is awake -/
theorem gids_aw : (gids sAw tAw).length = 257 := by decide +kernel
theorem gAw1 : gHas sAw tAw 97 98 = false := by decide +kernel
theorem gAw2 : gHas sAw tAw 98 97 = true := by decide +kernel
theorem gAw3 : gCnt sAw tAw 97 = 256 := by decide +kernel
theorem awake15_spec (w : World) : Calls Tryz.prog 29 #[] w fun e w' => e = .returned (.bool true) ∧ Below w.heap.size w w' := by
  refine calls_ret (vc29_calls w (fun u w' => u = .bool true ∧ Below w.heap.size w w') ?_) (by rintro v w' ⟨rfl, h⟩; exact ⟨rfl, h⟩)
  intro w1 hw1
  have hb1 : Below w.heap.size w w1 := by subst hw1; exact below_alloc _ _
  refine (vocabNew_spec w1 _ sAw (specAt_aw w w1 hw1)).mono ?_
  rintro e w2 ⟨u, rfl, hb2, hp⟩
  rw [if_pos right_aw, build_aw] at hp
  obtain ⟨v, rfl, hV, hv⟩ := hp
  have hb12 := below_then hb1 hb2
  have hz1 := hb1.size
  refine ⟨_, _, _, rfl, ?_⟩
  refine (gridNew_spec w2 v sAw tAw hV List.Pairwise.nil 1048576).mono ?_
  rintro e w3 ⟨u, rfl, hV3, t3, hu⟩
  rw [gids_aw, if_neg (by decide)] at hu
  obtain ⟨g, rfl, hG, hg⟩ := hu
  refine ⟨_, _, rfl, CondP.yes rfl ?_⟩
  refine (gSize_spec w3 g sAw tAw hG).mono ?_
  rintro e w4 ⟨rfl, rfl⟩
  rw [gids_aw]
  refine ⟨_, rfl, CondP.yes rfl ?_⟩
  have hn : (gids sAw tAw).length ≤ 1032 := by rw [gids_aw]; decide
  refine (gHas_spec w4 g sAw tAw hG hn 97 98).mono ?_
  rintro e w5 ⟨rfl, rfl⟩
  rw [gAw1]
  refine ⟨_, rfl, CondP.yes rfl ((gHas_spec w5 g sAw tAw hG hn 98 97).mono ?_)⟩
  rintro e w6 ⟨rfl, rfl⟩
  rw [gAw2]
  refine ⟨_, rfl, CondP.yes rfl ((gCount_spec w6 g sAw tAw hG hn 97).mono ?_)⟩
  rintro e w7 ⟨rfl, rfl⟩
  rw [gAw3]
  exact ⟨_, rfl, rfl, hb12.trans (t3.below (by omega) hb12.size)⟩
/-! ### The first offence by the grid is the reference's -/
theorem gids_few {w : World} {v : Nat} {y : RvW} {s : SpecV} {T : List Ent} (h : Both w v y s T) : (gids s T).length ≤ 1006 ∧ (((gids s T).length * (gids s T).length : Nat) : Int) ≤ 1048576 := by
  have h1 := h.now.ok.most
  have h2 := h.few
  have h3 := h.ids
  have hT : T.length ≤ 1000 := h1
  have hl : (gids s T).length ≤ 1006 := by rw [gids_length]; omega
  refine ⟨hl, ?_⟩
  have : (gids s T).length * (gids s T).length ≤ 1006 * 1006 := Nat.mul_le_mul hl hl
  omega
end Go.Proofs.YtpklkijdlnioaaaGreat.Eng
