/- The law WordHexes, walked by the engine. -/
import Derived.Test.YtibjkknfgppogaaDoorWd
set_option linter.unusedVariables false
set_option linter.unusedSimpArgs false
namespace Go.Proofs.YtibjkknfgppogaaDoor.Eng
open Go Go.RowKit

theorem unhexT_length (l r : List UInt8) (h : unhexT l = some r) : r.length ≤ l.length := by
  unfold unhexT at h
  split at h
  · cases h; simp
  · split at h
    · cases h
    · have := pairs_even l.length l (Nat.le_refl _) r h
      omega
theorem hexT_length (l : List UInt8) : (hexT l).length ≤ 2 * l.length + 1 := by
  unfold hexT
  split
  · simp
  · rw [hexBody_length]; omega

theorem WordHexes_spec (b s : List UInt8) (w : World) (ht : Pow w) :
    Calls Tryd.prog 3 #[.string (str b), .string (str s)] w fun e w' => e = .returned (.bool true) ∧ Below w.heap.size w w' := by
  refine calls_ret (vc3_calls (str b) (str s) w (fun v w' => v = .bool true ∧ Below w.heap.size w w') ?_) (by rintro v w' ⟨rfl, h⟩; exact ⟨rfl, h⟩)
  have aw : ∀ w1, Below w.heap.size w w1 → Calls Tryd.prog 6 #[] w1 (fun e1 w2 => ∃ b_1 : Bool, e1 = .returned (Value.bool b_1) ∧ (Value.bool b_1 = .bool true ∧ Below w.heap.size w w2)) := by
    intro w1 h1
    refine (awake_spec w1 (ht.on h1)).mono ?_
    rintro e w2 ⟨rfl, h2⟩
    exact ⟨_, rfl, rfl, below_then h1 h2⟩
  refine CondP.mk (fun _ => aw w (Below.refl _ _)) ?_
  intro hb
  have hb := of_decide_eq_false hb
  rw [str_size] at hb
  refine CondP.mk (fun _ => aw w (Below.refl _ _)) ?_
  intro hs
  have hs := of_decide_eq_false hs
  rw [str_size] at hs
  refine (Unhex_spec s w (by omega)).mono ?_
  rintro e w3 ⟨rfl, h3⟩
  have hun : ∃ r0 r1, unRes (unhexT s) = .tuple #[.string (str r0), .bool r1] ∧ (r1 = true → unhexT s = some r0) ∧ (r1 = false → r0 = []) := by
    cases h : unhexT s with
    | none => exact ⟨[], false, rfl, by simp, fun _ => rfl⟩
    | some r => exact ⟨r, true, rfl, fun _ => rfl, by simp⟩
  obtain ⟨r0, r1, hr, hr1, hr0⟩ := hun
  rw [hr]
  refine ⟨_, _, rfl, ?_⟩
  refine (refUnhex_spec s w3 (by omega)).mono ?_
  rintro e w4 ⟨rfl, h4⟩
  rw [hr]
  refine ⟨_, _, rfl, ?_⟩
  refine (Hex_spec b w4 (by omega)).mono ?_
  rintro e w5 ⟨rfl, h5⟩
  refine ⟨_, rfl, ?_⟩
  have hlen := hexT_length b
  refine (Unhex_spec (hexT b) w5 (by omega)).mono ?_
  rintro e w6 ⟨rfl, h6⟩
  rw [unhex_hex]
  refine ⟨_, _, rfl, ?_⟩
  have h06 := below_then (below_then (below_then h3 h4) h5) h6
  intro J hJ
  have main : J [Value.string (str r0)] w6 := by
    refine hJ _ _ ?_
    refine (Hex_spec b w6 (by omega)).mono ?_
    rintro e w8 ⟨rfl, h8⟩
    refine ⟨_, rfl, ?_⟩
    refine (refHex_spec b w8 (by omega)).mono ?_
    rintro e w9 ⟨rfl, h9⟩
    have h09 := below_then (below_then h06 h8) h9
    refine ⟨_, rfl, CondP.yes (by simp) (CondP.yes (by simp) (CondP.yes (by simp) (CondP.yes (by simp) (CondP.yes rfl (CondP.mk ?_ ?_)))))⟩
    · intro _
      exact aw w9 h09
    · intro h1
      have h1 : r1 = true := by simpa using h1
      have hu := hr1 h1
      have hul := unhexT_length s r0 hu
      refine (Hex_spec r0 w9 (by omega)).mono ?_
      rintro e w11 ⟨rfl, h11⟩
      refine ⟨_, rfl, CondP.yes ?_ (aw w11 (below_then h09 h11))⟩
      rw [hex_unhex s r0 hu]
      simp
  refine CondP.mk ?_ (fun _ => main)
  intro h1
  have h1 : r1 = false := by simpa using h1
  rw [hr0 h1] at main
  exact main
end Go.Proofs.YtibjkknfgppogaaDoor.Eng
