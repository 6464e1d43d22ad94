/- The reference's first offence, walked by the engine. -/
import Derived.Test.YtpklkijdlnioaaaGreatZgRk
set_option linter.unusedVariables false
set_option linter.unusedSimpArgs false
set_option maxRecDepth 100000
namespace Go.Proofs.YtpklkijdlnioaaaGreat.Eng
open Go Go.RowKit
/-- The first one that isn't there, or with which they aren't what would be made. -/
def FirstR (V : Voc) (ids : List Int) : Option Nat → Prop
  | none => ∀ (i : Nat) (h : i < ids.length), V.Has ids[i] ∧ V.Canon (ids.take (i + 1))
  | some k => (∀ (i : Nat) (h : i < ids.length), i < k → V.Has ids[i] ∧ V.Canon (ids.take (i + 1))) ∧ ∃ h : k < ids.length, ¬ (V.Has ids[k] ∧ V.Canon (ids.take (k + 1)))
theorem has_iff2 {s : SpecV} {T : List Ent} (hok : TOk T) (t : Int) : hasV2 s T t = true ↔ (vocOf s T).Has t := by
  unfold hasV2
  rw [decide_eq_true_eq, tok_iff hok]
  exact Or.comm
theorem refFirst_spec (w : World) (x : RvW) (s : SpecV) (T : List Ent) (h : RvAt w x s T) (A : Option Addr) (C : Nat) (ids : List Int) (hr : Rw encInt 1 w A ids) (hC : ids.length ≤ C) (hl : ids.length ≤ 10000) :
    Calls Tryz.prog 23 #[x.v, .slice A ids.length C] w fun e w' => ∃ o, e = .returned (.int .i64 (placeV o)) ∧ FirstR (vocOf s T) ids o ∧ Below w.heap.size w w' := by
  refine calls_ret (vc23_calls x.t.b.a x.t.b.n x.t.b.c x.t.m.a x.t.m.n x.t.m.c x.b.b.a x.b.b.n x.b.b.c x.b.m.a x.b.m.n x.b.m.c x.sp.a x.sp.n x.sp.c A ids.length C w (fun u w' => ∃ o, u = .int .i64 (placeV o) ∧ FirstR (vocOf s T) ids o ∧ Below w.heap.size w w') ?_) (by rintro v w' ⟨o, rfl, h⟩; exact ⟨o, rfl, h⟩)
  intro w1 hw1
  have hb1 : Below w.heap.size w w1 := by subst hw1; exact below_alloc _ _
  have l1 : w1.heap[w.heap.size]? = some (.cells x.cells tRv (0, 0)) := by subst hw1; exact alloc_new _ _
  have hok := h.ok
  intro I hI
  have key := climb2 (α := Int × World) ids.length (fun i y => (∀ (j : Nat) (h : j < ids.length), j < i → (vocOf s T).Has ids[j] ∧ (vocOf s T).Canon (ids.take (j + 1))) ∧ Below w1.heap.size w1 y.2) (fun i y => I [.int .i64 (i : Int), .int .i64 y.1] y.2) (0, w1) ⟨fun j _ hj => absurd hj (Nat.not_lt_zero j), Below.refl _ _⟩ ?_ ?_
  · exact key
  · rintro i hi ih ⟨y, q⟩ ⟨hinv, hB⟩
    change Below w1.heap.size w1 q at hB
    refine hI _ y q (CondP.yes (by simp; omega) ?_)
    intro w3 hw3
    have b3 : Below q.heap.size q w3 := by subst hw3; exact drew_on q
    have hB3 := below_then hB b3
    have hw := below_then hb1 hB3
    obtain ⟨p, hp, c0⟩ := cell_rw (hr.on hw) hi rfl
    refine ⟨_, _, _, _, _, _, _, _, _, _, _, _, _, _, _, agg5 (held_on hB3 l1), NilC.mk p hp ⟨by omega, by omega, _, c0, ?_⟩⟩
    refine (refVHas_spec w3 x s T (h.on hw) ids[i]).mono ?_
    rintro e w4 ⟨rfl, b4⟩
    have hB4 := below_then hB3 b4
    have hw4 := below_then hb1 hB4
    refine ⟨_, rfl, CondP.mk (fun h0 => ?_) fun h0 => ?_⟩
    · refine ⟨some i, rfl, ⟨fun j hj hji => hinv j hj hji, hi, fun e => ?_⟩, hw4⟩
      rw [(has_iff2 hok _).2 e.1] at h0
      cases h0
    · have hhas : (vocOf s T).Has ids[i] := (has_iff2 hok _).1 (by simpa using h0)
      have htk : ids.take (i + 1) = ids.take i ++ [ids[i]] := by rw [List.take_add_one, List.getElem?_eq_getElem hi]; rfl
      have hall : ∀ t ∈ ids.take (i + 1), (vocOf s T).Has t := by
        intro t ht
        obtain ⟨j, hj, rfl⟩ := List.mem_take_iff_getElem.1 ht
        by_cases e : j = i
        · subst e; exact hhas
        · exact (hinv j (by omega) (by omega)).1
      refine ⟨_, _, _, _, _, _, _, _, _, _, _, _, _, _, _, agg5 (held_on hB4 l1), Ar.nat (i + 1) rfl (by omega) ⟨by omega, by omega, by omega, trivial, trivial, ?_⟩⟩
      have hrow := ((hr.on hw4).cut 0 C hC).take (i + 1)
      rw [List.drop_zero] at hrow
      have hcl : Calls Tryz.prog 20 #[x.v, .slice (slBase A 0 C 1) (i + 1 - 0) (C - 0)] w4 fun e w' => e = .returned (.bool (decide ((vocOf s T).Canon (ids.take (i + 1))))) ∧ Below w4.heap.size w4 w' := by
        rw [show i + 1 - 0 = (ids.take (i + 1)).length by rw [List.length_take]; omega]
        exact refCanon_spec w4 x s T (h.on hw4) _ _ _ hrow (by rw [List.length_take]; omega) hall
      refine hcl.mono ?_
      rintro e w5 ⟨rfl, b5⟩
      have hB5 := below_then hB4 b5
      refine ⟨_, rfl, CondP.mk (fun h1 => ?_) fun h1 => ?_⟩
      · refine ⟨some i, rfl, ⟨fun j hj hji => hinv j hj hji, hi, fun e => ?_⟩, below_then hb1 hB5⟩
        rw [decide_eq_true e.2] at h1
        cases h1
      · have h1 : (vocOf s T).Canon (ids.take (i + 1)) := by simpa using h1
        refine Ar.nat (i + 1) rfl (by omega) (ih (y, w5) ⟨fun j hj hji => ?_, hB5⟩)
        by_cases e : j = i
        · subst e
          exact ⟨hhas, h1⟩
        · exact hinv j hj (by omega)
  · rintro ⟨y, q⟩ ⟨hinv, hB⟩
    exact hI _ y q (CondP.no (by simp) ⟨none, rfl, fun j hj => hinv j hj hj, below_then hb1 hB⟩)
end Go.Proofs.YtpklkijdlnioaaaGreat.Eng
