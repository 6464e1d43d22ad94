/- The reference's first offence, walked by the engine. -/
import Derived.Test.YtpklkijdlnioaaaGreatFd
set_option linter.unusedVariables false
set_option linter.unusedSimpArgs false
set_option maxRecDepth 100000
namespace Go.Proofs.YtpklkijdlnioaaaGreat.Eng
open Go Go.RowKit

/-- The first one that isn't there, or with which they aren't what would be made. -/
def FirstR (V : Voc) (ids : List Int) : Option Nat → Prop
  | none => ∀ (i : Nat) (h : i < ids.length), V.Has ids[i] ∧ V.Canon (ids.take (i + 1))
  | some k => (∀ (i : Nat) (h : i < ids.length), i < k → V.Has ids[i] ∧ V.Canon (ids.take (i + 1))) ∧ ∃ h : k < ids.length, ¬ (V.Has ids[k] ∧ V.Canon (ids.take (k + 1)))
theorem firstR_is {V : Voc} {ids : List Int} (hh : ∀ t ∈ ids, V.Has t) {o : Option Nat} (h : FirstR V ids o) : FirstIs V ids o := by
  cases o with
  | none =>
    rcases Nat.eq_zero_or_pos ids.length with e | e
    · rw [List.eq_nil_of_length_eq_zero e]
      rfl
    · have := (h (ids.length - 1) (by omega)).2
      rwa [Nat.sub_add_cancel e, List.take_length] at this
  | some k =>
    obtain ⟨h1, hk, h2⟩ := h
    refine ⟨hk, ?_, fun e => h2 ⟨hh _ (List.getElem_mem hk), e⟩⟩
    cases k with
    | zero => rfl
    | succ j => exact (h1 j (by omega) (by omega)).2
theorem has_iff2 {s : SpecV} {T : List Ent} (hok : TOk T) (t : Int) : hasV2 s T t = true ↔ (vocOf s T).Has t := by
  unfold hasV2
  rw [decide_eq_true_eq, tok_iff hok]
  exact Or.comm
theorem refFirst_spec (w : World) (x : RvW) (s : SpecV) (T : List Ent) (h : RvAt w x s T) (A : Option Addr) (C : Nat) (ids : List Int) (hr : Rw encInt 1 w A ids) (hC : ids.length ≤ C) (hl : ids.length ≤ 10000) :
    Calls Tryz.prog 23 #[x.v, .slice A ids.length C] w fun e w' => ∃ o, e = .returned (.int .i64 (placeV o)) ∧ FirstR (vocOf s T) ids o ∧ Below w.heap.size w w' := by
  refine calls_ret (vc23_calls x.t.b.a x.t.b.n x.t.b.c x.t.m.a x.t.m.n x.t.m.c x.b.b.a x.b.b.n x.b.b.c x.b.m.a x.b.m.n x.b.m.c x.sp.a x.sp.n x.sp.c A ids.length C w (fun u w' => ∃ o, u = .int .i64 (placeV o) ∧ FirstR (vocOf s T) ids o ∧ Below w.heap.size w w') ?_) (by rintro v w' ⟨o, rfl, h⟩; exact ⟨o, rfl, h⟩)
  intro w1 hw1
  have hb1 : Below w.heap.size w w1 := by subst hw1; exact below_alloc _ _
  have l1 : w1.heap[w.heap.size]? = some (.cells x.cells tRv (0, 0)) := by subst hw1; exact alloc_new _ _
  have hok := h.ok
  intro I hI
  have key := climb2 (α := Int × World) ids.length (fun i y => (∀ (j : Nat) (h : j < ids.length), j < i → (vocOf s T).Has ids[j] ∧ (vocOf s T).Canon (ids.take (j + 1))) ∧ Below w1.heap.size w1 y.2) (fun i y => I [.int .i64 (i : Int), .int .i64 y.1] y.2) (0, w1) ⟨fun j _ hj => absurd hj (Nat.not_lt_zero j), Below.refl _ _⟩ ?_ ?_
  · exact key
  · rintro i hi ih ⟨y, q⟩ ⟨hinv, hB⟩
    change Below w1.heap.size w1 q at hB
    refine hI _ y q (CondP.yes (by simp; omega) ?_)
    intro w3 hw3
    have b3 : Below q.heap.size q w3 := by subst hw3; exact drew_on q
    have hB3 := below_then hB b3
    have hw := below_then hb1 hB3
    obtain ⟨p, hp, c0⟩ := cell_rw (hr.on hw) hi rfl
    refine ⟨_, _, _, _, _, _, _, _, _, _, _, _, _, _, _, agg5 (held_on hB3 l1), NilC.mk p hp ⟨by omega, by omega, _, c0, ?_⟩⟩
    refine (refVHas_spec w3 x s T (h.on hw) ids[i]).mono ?_
    rintro e w4 ⟨rfl, b4⟩
    have hB4 := below_then hB3 b4
    have hw4 := below_then hb1 hB4
    refine ⟨_, rfl, CondP.mk (fun h0 => ?_) fun h0 => ?_⟩
    · refine ⟨some i, rfl, ⟨fun j hj hji => hinv j hj hji, hi, fun e => ?_⟩, hw4⟩
      rw [(has_iff2 hok _).2 e.1] at h0
      cases h0
    · have hhas : (vocOf s T).Has ids[i] := (has_iff2 hok _).1 (by simpa using h0)
      have htk : ids.take (i + 1) = ids.take i ++ [ids[i]] := by rw [List.take_add_one, List.getElem?_eq_getElem hi]; rfl
      have hall : ∀ t ∈ ids.take (i + 1), (vocOf s T).Has t := by
        intro t ht
        obtain ⟨j, hj, rfl⟩ := List.mem_take_iff_getElem.1 ht
        by_cases e : j = i
        · subst e; exact hhas
        · exact (hinv j (by omega) (by omega)).1
      refine ⟨_, _, _, _, _, _, _, _, _, _, _, _, _, _, _, agg5 (held_on hB4 l1), Ar.nat (i + 1) rfl (by omega) ⟨by omega, by omega, by omega, trivial, trivial, ?_⟩⟩
      have hrow := ((hr.on hw4).cut 0 C hC).take (i + 1)
      rw [List.drop_zero] at hrow
      have hcl : Calls Tryz.prog 20 #[x.v, .slice (slBase A 0 C 1) (i + 1 - 0) (C - 0)] w4 fun e w' => e = .returned (.bool (decide ((vocOf s T).Canon (ids.take (i + 1))))) ∧ Below w4.heap.size w4 w' := by
        rw [show i + 1 - 0 = (ids.take (i + 1)).length by rw [List.length_take]; omega]
        exact refCanon_spec w4 x s T (h.on hw4) _ _ _ hrow (by rw [List.length_take]; omega) hall
      refine hcl.mono ?_
      rintro e w5 ⟨rfl, b5⟩
      have hB5 := below_then hB4 b5
      refine ⟨_, rfl, CondP.mk (fun h1 => ?_) fun h1 => ?_⟩
      · refine ⟨some i, rfl, ⟨fun j hj hji => hinv j hj hji, hi, fun e => ?_⟩, below_then hb1 hB5⟩
        rw [decide_eq_true e.2] at h1
        cases h1
      · have h1 : (vocOf s T).Canon (ids.take (i + 1)) := by simpa using h1
        refine Ar.nat (i + 1) rfl (by omega) (ih (y, w5) ⟨fun j hj hji => ?_, hB5⟩)
        by_cases e : j = i
        · subst e
          exact ⟨hhas, h1⟩
        · exact hinv j hj (by omega)
  · rintro ⟨y, q⟩ ⟨hinv, hB⟩
    exact hI _ y q (CondP.no (by simp) ⟨none, rfl, fun j hj => hinv j hj hj, below_then hb1 hB⟩)
theorem refFirstIs_spec (w : World) (x : RvW) (s : SpecV) (T : List Ent) (h : RvAt w x s T) (A : Option Addr) (N C : Nat) (ids : List Int) (hN : N = ids.length) (hr : Rw encInt 1 w A ids) (hC : N ≤ C) (hl : ids.length ≤ 10000) (hh : ∀ t ∈ ids, (vocOf s T).Has t) {o : Option Nat} (ho : FirstIs (vocOf s T) ids o) :
    Calls Tryz.prog 23 #[x.v, .slice A N C] w fun e w' => e = .returned (.int .i64 (placeV o)) ∧ Below w.heap.size w w' := by
  subst hN
  refine (refFirst_spec w x s T h A C ids hr hC hl).mono ?_
  rintro e w' ⟨o', rfl, ho', hb⟩
  rw [first_unique h.vok hh ho (firstR_is hh ho')]
  exact ⟨rfl, hb⟩

/-! ### The detector's answers -/
theorem detNew_spec (q : World) (v : Nat) : Calls Tryz.prog 24 #[.pointer (some ⟨v, 0, none⟩)] q fun e q' => e = .returned (.pointer (some ⟨q.heap.size, 0, none⟩)) ∧ q' = q.alloc (.cells #[.pointer (some ⟨v, 0, none⟩), .slice none 0 0, .int .i64 0, .int .i64 (-1)] tDet) := by
  refine calls_ret (vc24_calls (some ⟨v, 0, none⟩) q (fun u q' => u = .pointer (some ⟨q.heap.size, 0, none⟩) ∧ q' = q.alloc (.cells #[.pointer (some ⟨v, 0, none⟩), .slice none 0 0, .int .i64 0, .int .i64 (-1)] tDet)) ?_) (by rintro v w' ⟨rfl, h⟩; exact ⟨rfl, h⟩)
  exact CondP.no rfl fun w1 hw1 => ⟨rfl, hw1⟩
theorem det_new {v : Nat} {s : SpecV} {T : List Ent} (w0 : World) (hV : VocIs w0 v s T) (q : World) (hq : q = w0.alloc (.cells #[.pointer (some ⟨v, 0, none⟩), .slice none 0 0, .int .i64 0, .int .i64 (-1)] tDet)) : DetAt w0 q w0.heap.size v s T [] none sl0 := by
  subst hq
  have hb := below_alloc w0 (.cells #[.pointer (some ⟨v, 0, none⟩), .slice none 0 0, .int .i64 0, .int .i64 (-1)] tDet)
  exact ⟨⟨hV.on hb, Touch.of_below hb, Nat.le_refl _, hV.lt, alloc_new _ _, own_none _ _ _ _ encInt⟩, fun t ht => (by cases ht), rfl⟩
section
variable {w0 q : World} {d v : Nat} {s : SpecV} {T : List Ent} {all : List Int} {o : Option Nat} {last : Sl}
theorem detCount_spec (h : DetAt w0 q d v s T all o last) : Calls Tryz.prog 26 #[.pointer (some ⟨d, 0, none⟩)] q fun e q' => e = .returned (.int .i64 (all.length : Int)) ∧ q' = q := by
  obtain ⟨hr, _, _⟩ := h
  refine calls_ret (vc26_calls (some ⟨d, 0, none⟩) q (fun u q' => u = .int .i64 (all.length : Int) ∧ q' = q) ?_) (by rintro v w' ⟨rfl, h⟩; exact ⟨rfl, h⟩)
  exact CondP.no rfl (NilC.mk _ rfl ⟨_, ptr_add0 _ _ hr.blk 2, rfl, rfl⟩)
theorem detOffence_spec (h : DetAt w0 q d v s T all o last) : Calls Tryz.prog 27 #[.pointer (some ⟨d, 0, none⟩)] q fun e q' => e = .returned (.int .i64 (placeV o)) ∧ q' = q := by
  obtain ⟨hr, _, _⟩ := h
  refine calls_ret (vc27_calls (some ⟨d, 0, none⟩) q (fun u q' => u = .int .i64 (placeV o) ∧ q' = q) ?_) (by rintro v w' ⟨rfl, h⟩; exact ⟨rfl, h⟩)
  exact CondP.no rfl (NilC.mk _ rfl ⟨_, ptr_add0 _ _ hr.blk 3, rfl, rfl⟩)
theorem detReset_spec (h : DetAt w0 q d v s T all o last) : Calls Tryz.prog 28 #[.pointer (some ⟨d, 0, none⟩)] q fun e q' => e = .returned (.tuple #[]) ∧ q.heap.size ≤ q'.heap.size ∧ Keeps v d q q' ∧ DetAt w0 q' d v s T [] none sl0 := by
  obtain ⟨hr, _, _⟩ := h
  refine calls_ret (vc28_calls (some ⟨d, 0, none⟩) q (fun u q' => u = .tuple #[] ∧ q.heap.size ≤ q'.heap.size ∧ Keeps v d q q' ∧ DetAt w0 q' d v s T [] none sl0) ?_) (by rintro v w' ⟨rfl, h⟩; exact ⟨rfl, h⟩)
  refine CondP.yes rfl (NilC.mk _ rfl ⟨rfl, ⟨_, ptr_add0 _ _ hr.blk 1⟩, frozen_put hr.blk, ?_⟩)
  rintro q1 hq1
  have h1 : DetRaw w0 q1 d v s T sl0 [] all.length (placeV o) := by subst hq1; exact hr.set_last (own_none _ _ _ _ encInt)
  refine NilC.mk _ rfl ⟨rfl, ⟨_, ptr_add0 _ _ h1.blk 2⟩, frozen_put h1.blk, ?_⟩
  rintro q2 hq2
  have h2 : DetRaw w0 q2 d v s T sl0 [] 0 (placeV o) := by subst hq2; exact h1.set_cnt 0
  refine NilC.mk _ rfl ⟨rfl, ⟨_, ptr_add0 _ _ h2.blk 3⟩, frozen_put h2.blk, ?_⟩
  rintro q3 hq3
  have h3 : DetRaw w0 q3 d v s T sl0 [] 0 (-1) := by subst hq3; exact h2.set_off (-1)
  have k : Keeps v d q q3 := by
    subst hq3 hq2 hq1
    have k0 : Keeps v d q q := fun k _ _ _ => rfl
    exact ((k0.set 1 _).set 2 _).set 3 _
  have z : q.heap.size ≤ q3.heap.size := by subst hq3 hq2 hq1; rw [size_setCell, size_setCell, size_setCell]; exact Nat.le_refl _
  exact ⟨rfl, z, k, h3, fun t ht => (by cases ht), rfl⟩
end
end Go.Proofs.YtpklkijdlnioaaaGreat.Eng
