/- canon, walked by the engine. -/
import Derived.Test.YtpklkijdlnioaaaGreatSw
set_option linter.unusedVariables false
set_option linter.unusedSimpArgs false
set_option maxRecDepth 100000
namespace Go.Proofs.YtpklkijdlnioaaaGreat.Eng
open Go Go.RowKit

theorem indexI_spec (a : Option Addr) (c : Nat) (xs : List Int) (f : Value) (p : Int → Bool) (w : World) (hr : Rw encInt 1 w a xs) (hl : xs.length ≤ 1000000000000000)
    (hf : ∀ x ∈ xs, ∀ w1, Below w.heap.size w w1 → CallG ctx f [.int .i64 x] w1 (fun e w2 => e = .returned (.bool (p x)) ∧ Below w1.heap.size w1 w2)) :
    Calls Tryz.prog 60 #[.slice a xs.length c, f] w fun e w' => e = .returned (.int .i64 (idx p xs)) ∧ Below w.heap.size w w' := by
  refine calls_ret (vc60_calls a xs.length c f w (fun v w' => v = .int .i64 (idx p xs) ∧ Below w.heap.size w w') ?_) (by rintro v w' ⟨rfl, h⟩; exact ⟨rfl, h⟩)
  intro I hI
  have key := climb (α := Int × World) xs.length (fun i x => (∀ j (hj : j < xs.length), j < i → p xs[j] = false) ∧ Below w.heap.size w x.2) (fun i x => I [.int .i64 (i : Int), .int .i64 x.1] x.2) ?_ ?_ 0 (Nat.zero_le _) (0, w)
  · exact key ⟨fun j _ hj => absurd hj (Nat.not_lt_zero j), Below.refl _ _⟩
  · rintro ⟨y, w1⟩ ⟨hb, hB⟩
    exact hI _ _ _ (CondP.no (by simp) ⟨by rw [idx_none fun j hj => hb j hj hj], hB⟩)
  · rintro i hi ih ⟨y, w1⟩ ⟨hb, hB⟩
    obtain ⟨q, hq, _, hcx⟩ := (hr.on hB) i _ (List.getElem?_eq_getElem hi)
    refine hI _ _ _ (CondP.yes (by simp; omega) (NilC.mk q hq ⟨by omega, by omega, xs[i], by have := hcx 0 _ rfl; simpa [add_zero] using this, ?_⟩))
    refine (hf xs[i] (List.getElem_mem hi) w1 hB).mono ?_
    rintro e w2 ⟨rfl, h2⟩
    refine ⟨_, rfl, CondP.mk ?_ ?_⟩
    · intro hp
      exact ⟨by rw [idx_some hi hp fun j hj => hb j (by omega) hj], below_then hB h2⟩
    · intro hp
      refine Ar.ok64 (by omega) (by omega) (ih (y, w2) ⟨?_, below_then hB h2⟩)
      intro j hj hji
      by_cases he : j = i
      · subst he; exact hp
      · exact hb j hj (by omega)
theorem VocIs.has_call {w : World} {v : Nat} {s : SpecV} {T : List Ent} (h : VocIs w v s T) (id : Int) : Calls Tryz.prog 62 #[.pointer (some ⟨v, 0, none⟩), .int .i64 id] w fun e w' => e = .returned (.bool (hasV2 s T id)) ∧ w' = w := by
  obtain ⟨w0, x, tp, bp, mp, d, l, uses, hR⟩ := h
  exact vocHas_spec hR.vblk hR.now id
/-- The first token that isn't there. -/
def badId (s : SpecV) (T : List Ent) (ids : List Int) : Int := idx (fun id => !hasV2 s T id) ids
def readyV (s : SpecV) (T : List Ent) (ids : List Int) : Int × Int := if 4000 < ids.length then (0, 3) else if badId s T ids ≥ 0 then (badId s T ids, 4) else (0, 0)
theorem ready_spec (w : World) (v : Nat) (s : SpecV) (T : List Ent) (hV : VocIs w v s T) (A : Option Addr) (C : Nat) (ids : List Int) (hr : Rw encInt 1 w A ids) :
    Calls Tryz.prog 88 #[.pointer (some ⟨v, 0, none⟩), .slice A ids.length C] w fun e w' => e = .returned (.tuple #[.int .i64 (readyV s T ids).1, .int .i64 (readyV s T ids).2]) ∧ Below w.heap.size w w' := by
  refine calls_ret (vc88_calls (some ⟨v, 0, none⟩) A ids.length C w (fun u w' => u = .tuple #[.int .i64 (readyV s T ids).1, .int .i64 (readyV s T ids).2] ∧ Below w.heap.size w w') ?_) (by rintro v w' ⟨rfl, h⟩; exact ⟨rfl, h⟩)
  intro w1 hw1
  have hb1 : Below w.heap.size w w1 := by subst hw1; exact below_alloc _ _
  have l1 : w1.heap[w.heap.size]? = some (.cells #[.pointer (some ⟨v, 0, none⟩)] 31 (0, 0)) := by subst hw1; exact alloc_new _ _
  have pc : ∀ {w' : World}, w'.heap[w.heap.size]? = some (.cells #[.pointer (some ⟨v, 0, none⟩)] 31 (0, 0)) → w'.cell? (nb w) = some (.pointer (some ⟨v, 0, none⟩)) := fun h => cell_heap h
  refine ⟨_, pc l1, CondP.no rfl (CondP.mk (fun h0 => ?_) fun h0 => ?_)⟩
  · have h0 := of_decide_eq_true h0
    refine ⟨?_, hb1⟩
    rw [readyV, if_pos (by omega)]
  · have h0 := of_decide_eq_false h0
    have hz1 : w.heap.size < w1.heap.size := (Array.getElem?_eq_some_iff.1 l1).1
    refine (indexI_spec A C ids _ (fun id => !hasV2 s T id) w1 (hr.on hb1) (by omega) ?_).mono ?_
    · intro id hid w2 hb2
      refine callG_of (by kernel_rfl) ?_
      refine calls_ret (vc124_calls id (some (nb w)) w2 (fun u w' => u = .bool (!hasV2 s T id) ∧ Below w2.heap.size w2 w') ?_) (by rintro v w' ⟨rfl, h⟩; exact ⟨rfl, h⟩)
      refine NilC.mk _ rfl ⟨_, pc (held_on hb2 l1), ?_⟩
      refine (((hV.on hb1).on hb2).has_call id).mono ?_
      rintro e w3 ⟨rfl, hw⟩
      subst hw
      exact ⟨_, rfl, rfl, Below.refl _ _⟩
    · rintro e w2 ⟨rfl, hb2⟩
      have hb := below_then hb1 hb2
      refine ⟨_, rfl, CondP.mk (fun h1 => ?_) fun h1 => ?_⟩
      · have h1 : badId s T ids ≥ 0 := of_decide_eq_true h1
        refine ⟨?_, hb⟩
        rw [readyV, if_neg (by omega), if_pos h1]
        rfl
      · have h1 : ¬ badId s T ids ≥ 0 := of_decide_eq_false h1
        refine ⟨?_, hb⟩
        rw [readyV, if_neg (by omega), if_neg h1]
theorem ready_nil (w : World) (A : Option Addr) (N C : Nat) :
    Calls Tryz.prog 88 #[.pointer none, .slice A N C] w fun e w' => e = .returned (.tuple #[.int .i64 0, .int .i64 1]) ∧ Below w.heap.size w w' := by
  refine calls_ret (vc88_calls none A N C w (fun u w' => u = .tuple #[.int .i64 0, .int .i64 1] ∧ Below w.heap.size w w') ?_) (by rintro v w' ⟨rfl, h⟩; exact ⟨rfl, h⟩)
  intro w1 hw1
  have hb1 : Below w.heap.size w w1 := by subst hw1; exact below_alloc _ _
  exact ⟨none, by subst hw1; rw [cell_new]; rfl, CondP.yes rfl ⟨rfl, hb1⟩⟩
theorem place_spec (k : Int) (bad : Bool) (w : World) : Calls Tryz.prog 89 #[.int .i64 k, .bool bad] w fun e w' => e = .returned (.int .i64 (if bad then k else -1)) ∧ w' = w := by
  refine calls_ret (vc89_calls k bad w (fun u w' => u = .int .i64 (if bad then k else -1) ∧ w' = w) ?_) (by rintro v w' ⟨rfl, h⟩; exact ⟨rfl, h⟩)
  cases bad
  · exact CondP.yes rfl ⟨rfl, rfl⟩
  · exact CondP.no rfl ⟨rfl, rfl⟩
theorem walkerFirst_spec (w : World) (v : Nat) (s : SpecV) (T : List Ent) (hV : VocIs w v s T) (A : Option Addr) (C : Nat) (ids : List Int) (hr : Rw encInt 1 w A ids) (hA : ids ≠ [] → ∀ p, A = some p → p.block ≠ v) (hl : ids.length ≤ 1000000000000) (hh : ∀ t ∈ ids, (vocOf s T).Has t) :
    Calls Tryz.prog 256 #[.agg #[.pointer (some ⟨v, 0, none⟩)], .slice A ids.length C] w fun e w' => ∃ o, e = .returned (firstV o) ∧ FirstIs (vocOf s T) ids o ∧ VocIs w' v s T ∧ Touch v w w' := by
  refine calls_ret (vc256_calls (some ⟨v, 0, none⟩) A ids.length C w (fun u w' => ∃ o, u = firstV o ∧ FirstIs (vocOf s T) ids o ∧ VocIs w' v s T ∧ Touch v w w') ?_) (by rintro v w' ⟨o, rfl, h⟩; exact ⟨o, rfl, h⟩)
  intro w1 hw1
  have hb1 : Below w.heap.size w w1 := by subst hw1; exact below_alloc _ _
  refine ⟨_, by subst hw1; rw [add_lit, cell_new]; rfl, ?_⟩
  refine (first_spec w1 v s T (hV.on hb1) A C ids (hr.on hb1) hA hl hh).mono ?_
  rintro e w2 ⟨o, rfl, ho, hV2, t2⟩
  have t := (Touch.of_below (v := v) hb1).trans t2
  cases o with
  | none => exact ⟨0, false, rfl, none, rfl, ho, hV2, t⟩
  | some k => exact ⟨(k : Int), true, rfl, some k, rfl, ho, hV2, t⟩
abbrev walkerJ (v : Option Addr) : Value := .iface 88 (.agg #[.pointer v])
abbrev makerJ (v : Option Addr) : Value := .iface 94 (.agg #[.pointer v])
theorem by_nil (w : World) (j : Value) (A : Option Addr) (N C : Nat) :
    Calls Tryz.prog 56 #[.pointer none, j, .slice A N C] w fun e w' => e = .returned (.tuple #[.int .i64 0, .int .i64 1]) ∧ Below w.heap.size w w' := by
  refine calls_ret (vc56_calls none j A N C w (fun u w' => u = .tuple #[.int .i64 0, .int .i64 1] ∧ Below w.heap.size w w') ?_) (by rintro v w' ⟨rfl, h⟩; exact ⟨rfl, h⟩)
  refine (ready_nil w A N C).mono ?_
  rintro e w1 ⟨rfl, hb⟩
  exact ⟨_, _, rfl, CondP.yes rfl ⟨rfl, hb⟩⟩
theorem check_nil (w : World) (A : Option Addr) (N C : Nat) :
    Calls Tryz.prog 18 #[.pointer none, .slice A N C] w fun e w' => e = .returned (.tuple #[.int .i64 0, .int .i64 1]) ∧ Below w.heap.size w w' := by
  refine calls_ret (vc18_calls none A N C w (fun u w' => u = .tuple #[.int .i64 0, .int .i64 1] ∧ Below w.heap.size w w') ?_) (by rintro v w' ⟨rfl, h⟩; exact ⟨rfl, h⟩)
  refine (by_nil w _ A N C).mono ?_
  rintro e w1 ⟨rfl, hb⟩
  exact ⟨_, _, rfl, rfl, hb⟩
theorem again_nil (w : World) (A : Option Addr) (N C : Nat) :
    Calls Tryz.prog 22 #[.pointer none, .slice A N C] w fun e w' => e = .returned (.tuple #[.int .i64 0, .int .i64 1]) ∧ Below w.heap.size w w' := by
  refine calls_ret (vc22_calls none A N C w (fun u w' => u = .tuple #[.int .i64 0, .int .i64 1] ∧ Below w.heap.size w w') ?_) (by rintro v w' ⟨rfl, h⟩; exact ⟨rfl, h⟩)
  refine (by_nil w _ A N C).mono ?_
  rintro e w1 ⟨rfl, hb⟩
  exact ⟨_, _, rfl, rfl, hb⟩
theorem walker_call (v : Addr) (A : Option Addr) (N C : Nat) (w : World) : (callMethod (walkerJ (some v)) "First" #[.slice A N C]).run Tryz.prog w = .ok (.enter 256 #[.agg #[.pointer (some v)], .slice A N C]) w := by kernel_rfl
/-- What a judge's answer comes to. -/
def placeV : Option Nat → Int
  | none => -1
  | some k => (k : Int)
theorem badId_none {s : SpecV} {T : List Ent} {ids : List Int} (h : ¬ badId s T ids ≥ 0) : ∀ t ∈ ids, hasV2 s T t = true := by
  intro t ht
  unfold badId idx at h
  cases hx : ids.findIdx? (fun id => !hasV2 s T id) with
  | some i => rw [hx] at h; exact absurd (show ((i : Nat) : Int) ≥ 0 by omega) h
  | none =>
    have := List.findIdx?_eq_none_iff.1 hx t ht
    simpa using this
theorem check_spec (w : World) (v : Nat) (s : SpecV) (T : List Ent) (hV : VocIs w v s T) (A : Option Addr) (C : Nat) (ids : List Int) (hr : Rw encInt 1 w A ids) (hA : ids ≠ [] → ∀ p, A = some p → p.block ≠ v) :
    Calls Tryz.prog 18 #[.pointer (some ⟨v, 0, none⟩), .slice A ids.length C] w fun e w' => VocIs w' v s T ∧ Touch v w w' ∧ ((readyV s T ids).2 ≠ 0 ∧ e = .returned (.tuple #[.int .i64 (readyV s T ids).1, .int .i64 (readyV s T ids).2]) ∨ ((readyV s T ids).2 = 0 ∧ (∀ t ∈ ids, hasV2 s T t = true) ∧ ∃ o, FirstIs (vocOf s T) ids o ∧ e = .returned (.tuple #[.int .i64 (placeV o), .int .i64 0]))) := by
  have hVI := hV
  have hby : Calls Tryz.prog 56 #[.pointer (some ⟨v, 0, none⟩), walkerJ (some ⟨v, 0, none⟩), .slice A ids.length C] w fun e w' => ∃ (r1 r2 : Int), e = .returned (.tuple #[.int .i64 r1, .int .i64 r2]) ∧ VocIs w' v s T ∧ Touch v w w' ∧ ((readyV s T ids).2 ≠ 0 ∧ r1 = (readyV s T ids).1 ∧ r2 = (readyV s T ids).2 ∨ ((readyV s T ids).2 = 0 ∧ (∀ t ∈ ids, hasV2 s T t = true) ∧ ∃ o, FirstIs (vocOf s T) ids o ∧ r1 = placeV o ∧ r2 = 0)) := by
    refine calls_ret (vc56_calls (some ⟨v, 0, none⟩) (walkerJ (some ⟨v, 0, none⟩)) A ids.length C w (fun u w' => ∃ (r1 r2 : Int), u = .tuple #[.int .i64 r1, .int .i64 r2] ∧ VocIs w' v s T ∧ Touch v w w' ∧ ((readyV s T ids).2 ≠ 0 ∧ r1 = (readyV s T ids).1 ∧ r2 = (readyV s T ids).2 ∨ ((readyV s T ids).2 = 0 ∧ (∀ t ∈ ids, hasV2 s T t = true) ∧ ∃ o, FirstIs (vocOf s T) ids o ∧ r1 = placeV o ∧ r2 = 0))) ?_) (by rintro v w' ⟨r1, r2, rfl, h⟩; exact ⟨r1, r2, rfl, h⟩)
    refine (ready_spec w v s T hV A C ids hr).mono ?_
    rintro e w1 ⟨rfl, hb1⟩
    refine ⟨_, _, rfl, CondP.mk (fun h0 => ?_) fun h0 => ?_⟩
    · have h0 : (readyV s T ids).2 ≠ 0 := by simpa using h0
      exact ⟨_, _, rfl, hV.on hb1, Touch.of_below hb1, .inl ⟨h0, rfl, rfl⟩⟩
    · have h0 : (readyV s T ids).2 = 0 := by simpa using h0
      have hsplit : ids.length ≤ 4000 ∧ ¬ badId s T ids ≥ 0 := by
        unfold readyV at h0
        split at h0
        · cases h0
        · split at h0
          · cases h0
          · exact ⟨by omega, by assumption⟩
      have hall := badId_none hsplit.2
      refine ⟨false, w1, by kernel_rfl, CondP.no rfl ⟨_, _, walker_call ⟨v, 0, none⟩ A ids.length C w1, ?_⟩⟩
      have hhas : ∀ t ∈ ids, (vocOf s T).Has t := by
        obtain ⟨w0, x, tp, bp, mp, d, l, uses, hR⟩ := hVI
        intro t ht
        exact (has_iff hR.now t).1 (hall t ht)
      refine (walkerFirst_spec w1 v s T (hV.on hb1) A C ids (hr.on hb1) hA (by omega) hhas).mono ?_
      rintro e w2 ⟨o, rfl, ho, hV2, t2⟩
      have t := (Touch.of_below (v := v) hb1).trans t2
      cases o with
      | none =>
        refine ⟨0, false, rfl, (place_spec 0 false w2).mono ?_⟩
        rintro e w3 ⟨rfl, hw⟩
        subst hw
        exact ⟨_, rfl, _, _, rfl, hV2, t, .inr ⟨h0, hall, none, ho, rfl, rfl⟩⟩
      | some k =>
        refine ⟨(k : Int), true, rfl, (place_spec (k : Int) true w2).mono ?_⟩
        rintro e w3 ⟨rfl, hw⟩
        subst hw
        exact ⟨_, rfl, _, _, rfl, hV2, t, .inr ⟨h0, hall, some k, ho, rfl, rfl⟩⟩
  have := vc18_calls (some ⟨v, 0, none⟩) A ids.length C w (fun u w' => VocIs w' v s T ∧ Touch v w w' ∧ ((readyV s T ids).2 ≠ 0 ∧ u = .tuple #[.int .i64 (readyV s T ids).1, .int .i64 (readyV s T ids).2] ∨ ((readyV s T ids).2 = 0 ∧ (∀ t ∈ ids, hasV2 s T t = true) ∧ ∃ o, FirstIs (vocOf s T) ids o ∧ u = .tuple #[.int .i64 (placeV o), .int .i64 0]))) (by
    refine hby.mono ?_
    rintro e w1 ⟨r1, r2, rfl, h1, h2, h3⟩
    refine ⟨_, _, rfl, h1, h2, ?_⟩
    rcases h3 with ⟨ha, rfl, rfl⟩ | ⟨ha, hb, o, ho, rfl, rfl⟩
    · exact .inl ⟨ha, rfl⟩
    · exact .inr ⟨ha, hb, o, ho, rfl⟩)
  refine this.mono ?_
  rintro e w' ⟨u, rfl, h1, h2, h3⟩
  refine ⟨h1, h2, ?_⟩
  rcases h3 with ⟨ha, rfl⟩ | ⟨ha, hb, o, ho, rfl⟩
  · exact .inl ⟨ha, rfl⟩
  · exact .inr ⟨ha, hb, o, ho, rfl⟩
/-! ### Of no vocabulary -/
theorem canonNew_nil (w : World) : Calls Tryz.prog 24 #[.pointer none] w fun e w' => e = .returned (.pointer none) ∧ w' = w := by
  refine calls_ret (vc24_calls none w (fun u w' => u = .pointer none ∧ w' = w) ?_) (by rintro v w' ⟨rfl, h⟩; exact ⟨rfl, h⟩)
  exact CondP.yes rfl ⟨rfl, rfl⟩
theorem feed_nil (w : World) (A : Option Addr) (N C : Nat) : Calls Tryz.prog 25 #[.pointer none, .slice A N C] w fun e w' => e = .returned (.tuple #[.int .i64 0, .int .i64 1]) ∧ Below w.heap.size w w' := by
  refine calls_ret (vc25_calls none A N C w (fun u w' => u = .tuple #[.int .i64 0, .int .i64 1] ∧ Below w.heap.size w w') ?_) (by rintro v w' ⟨rfl, h⟩; exact ⟨rfl, h⟩)
  intro w1 hw1
  exact ⟨none, by subst hw1; rw [cell_new]; rfl, CondP.yes rfl ⟨rfl, by subst hw1; exact below_alloc _ _⟩⟩
theorem reset_nil (w : World) : Calls Tryz.prog 28 #[.pointer none] w fun e w' => e = .returned (.tuple #[]) ∧ w' = w := by
  refine calls_ret (vc28_calls none w (fun u w' => u = .tuple #[] ∧ w' = w) ?_) (by rintro v w' ⟨rfl, h⟩; exact ⟨rfl, h⟩)
  exact CondP.no rfl ⟨rfl, rfl⟩
theorem offence_nil (w : World) : Calls Tryz.prog 27 #[.pointer none] w fun e w' => e = .returned (.int .i64 (-1)) ∧ w' = w := by
  refine calls_ret (vc27_calls none w (fun u w' => u = .int .i64 (-1) ∧ w' = w) ?_) (by rintro v w' ⟨rfl, h⟩; exact ⟨rfl, h⟩)
  exact CondP.yes rfl ⟨rfl, rfl⟩
theorem count_nil (w : World) : Calls Tryz.prog 26 #[.pointer none] w fun e w' => e = .returned (.int .i64 0) ∧ w' = w := by
  refine calls_ret (vc26_calls none w (fun u w' => u = .int .i64 0 ∧ w' = w) ?_) (by rintro v w' ⟨rfl, h⟩; exact ⟨rfl, h⟩)
  exact CondP.yes rfl ⟨rfl, rfl⟩
instance (V : Voc) (ids : List Int) : Decidable (V.Canon ids) := inferInstanceAs (Decidable (V.encode (V.itemsAll ids) = ids))
end Go.Proofs.YtpklkijdlnioaaaGreat.Eng
