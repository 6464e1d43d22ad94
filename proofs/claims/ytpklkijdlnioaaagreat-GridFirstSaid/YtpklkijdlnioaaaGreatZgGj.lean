/- The grid's first offence is the reference's. -/
import Derived.Test.YtpklkijdlnioaaaGreatZgGi
set_option linter.unusedVariables false
set_option linter.unusedSimpArgs false
set_option maxRecDepth 100000
namespace Go.Proofs.YtpklkijdlnioaaaGreat.Eng
open Go Go.RowKit
theorem GridFirst_spec (w : World) (y : CsW) (ls : List Int) (cs : List (Int × Int × Int)) (js : List (Int × Int)) (xs : List (Int × Bs)) (h : CsAt w y ls cs js xs) (A : Option Addr) (C : Nat) (ids : List Int) (hr : Rw encInt 1 w A ids) (hC : ids.length ≤ C) :
    Calls Tryz.prog 8 #[y.v, .slice A ids.length C] w fun e w' => e = .returned (.bool true) ∧ Below w.heap.size w w' := by
  refine calls_ret (vc8_calls y.l.a y.l.n y.l.c y.c.a y.c.n y.c.c y.j.a y.j.n y.j.c y.x.a y.x.n y.x.c A ids.length C w (fun u w' => u = .bool true ∧ Below w.heap.size w w') ?_) (by rintro v w' ⟨rfl, h⟩; exact ⟨rfl, h⟩)
  intro w1 hw1
  have hb1 : Below w.heap.size w w1 := by subst hw1; exact below_alloc _ _
  have l1 : w1.heap[w.heap.size]? = some (.cells y.cells tCs (0, 0)) := by subst hw1; exact alloc_new _ _
  refine ⟨_, _, _, _, _, _, _, _, _, _, _, _, agg4 l1, ?_⟩
  refine (lawGreat_spec w1 y ls cs js xs (h.on hb1)).mono ?_
  rintro e w2 ⟨n, rfl, b2⟩
  have hb2 := below_then hb1 b2
  have aw : ∀ {q : World}, Below w.heap.size w q → Calls Tryz.prog 29 #[] q fun e w' => ∃ b : Bool, e = .returned (.bool b) ∧ (Value.bool b = Value.bool true ∧ Below w.heap.size w w') := by
    intro q hq
    refine (awake15_spec q).mono ?_
    rintro e w3 ⟨rfl, b3⟩
    exact ⟨true, rfl, rfl, below_then hq b3⟩
  refine ⟨n, rfl, CondP.mk (fun _ => aw hb2) fun _ => CondP.mk (fun _ => aw hb2) fun h12 => ?_⟩
  have h12 := of_decide_eq_false h12
  refine (awake15_spec w2).mono ?_
  rintro e w6 ⟨rfl, b6⟩
  have hb6 := below_then hb2 b6
  refine ⟨_, rfl, CondP.no rfl ⟨_, _, _, _, _, _, _, _, _, _, _, _, agg4 (held_on b6 (held_on b2 l1)), ?_⟩⟩
  refine (lawOf_spec w6 y ls cs js xs (h.on hb6)).mono ?_
  rintro e w7 ⟨u, rfl, v, r, s, T, rfl, hB7, hv, b7⟩
  have hb7 := below_then hb6 b7
  refine ⟨_, _, _, _, _, _, _, _, _, _, _, _, _, _, _, _, rfl, ?_⟩
  intro w8 hw8
  refine storeP_new (slRv rv0) (slRv r) rfl (ones_rv r) w8 hw8 ?_
  intro w0 h0 hz0 b0
  have hB := hB7.on b0
  have hb0 := below_then hb7 b0
  have hvl := hB7.voc.lt
  have hz1 := hb6.size
  have hok := hB.now.ok
  have hVok := hB.now.vok
  obtain ⟨hl, hsq⟩ := gids_few hB
  refine CondP.no rfl ((gridNew_spec w0 v s T hB.voc hB.asc 1048576).mono ?_)
  rintro e w10 ⟨u, rfl, hV10, t10, hu⟩
  rw [if_neg (by omega)] at hu
  obtain ⟨g, rfl, hG, hg⟩ := hu
  have hB10 := hB.touch t10 hV10
  have hb10 : Below w.heap.size w w10 := hb0.trans (t10.below (by omega) hb0.size)
  have h10 := t10.held (by have := hB7.voc.lt; omega) h0
  refine ⟨_, _, rfl, (gFirst_spec w10 g s T hG (by omega) hok hVok A C ids (hr.on hb10) (by omega)).mono ?_⟩
  rintro e w11 ⟨o, rfl, ho, rfl⟩
  refine ⟨_, _, rfl, _, _, _, _, _, _, _, _, _, _, _, _, _, _, _, agg5 (x := r) h10, ?_⟩
  refine (refFirst_spec w11 r s T hB10.now A C ids (hr.on hb10) hC (by omega)).mono ?_
  rintro e w12 ⟨o', rfl, ho', b12⟩
  obtain rfl := firstR_unique ho ho'
  have hb12 := below_then hb10 b12
  refine ⟨_, rfl, CondP.yes rfl ?_⟩
  cases o with
  | none => exact CondP.yes rfl (CondP.no rfl (CondP.yes rfl ⟨rfl, hb12⟩))
  | some k =>
    refine CondP.yes ?_ (CondP.yes rfl (CondP.yes ?_ ⟨rfl, hb12⟩))
    · show (true == decide (((k : Nat) : Int) ≥ 0)) = true
      rw [decide_eq_true (by omega)]
      rfl
    · show ((((k : Nat) : Int)) == ((k : Nat) : Int)) = true
      simp
end Go.Proofs.YtpklkijdlnioaaaGreat.Eng
