/- Which tokens are alone, walked by the engine. -/
import Derived.Test.YtpklkijdlnioaaaGreatZhOn
set_option linter.unusedVariables false
set_option linter.unusedSimpArgs false
set_option maxRecDepth 100000
namespace Go.Proofs.YtpklkijdlnioaaaGreat.Eng
open Go Go.RowKit
theorem own_base {w : World} {B B' : Nat} {e : TypeId} {sz n : Nat} {v : Value} {xs : List Value} (h : w.ownsRow B e sz v n xs) (hB : B' ≤ B) : w.ownsRow B' e sz v n xs := by
  refine ⟨h.1, h.2.imp id ?_⟩
  rintro ⟨g, cap, cur, h1, h2, h3⟩
  exact ⟨g, cap, cur, h1, Nat.le_trans hB h2, h3⟩
def aloneV (s : SpecV) (T : List Ent) (id : Int) : Bool := decide (id ∈ s.specials.map (·.1)) || (decide (inTab T id) && aloneT s T id.toNat)
/-- One cell of the vocabulary's block, written. -/
theorem vput {w w0 : World} {v : Nat} {c : Array Value} (h : w.heap[v]? = some (.cells c tVocab (0, 0))) (hb : Below w0.heap.size w0 w) (hv : w0.heap.size ≤ v) (j : Nat) (u : Value) :
    (w.setCell ⟨v, j, none⟩ u).heap[v]? = some (.cells (c.setIfInBounds j u) tVocab (0, 0)) ∧ Below w0.heap.size w0 (w.setCell ⟨v, j, none⟩ u) ∧ Touch v w (w.setCell ⟨v, j, none⟩ u) :=
  ⟨setCell_heap h u, hb.setCell (p := ⟨v, j, none⟩) hv u, ⟨rfl, rfl, rfl, by rw [size_setCell]; exact Nat.le_refl _, fun k _ hk => heap_setCell_ne hk⟩⟩
theorem alone_spec (w : World) (v : Nat) (s : SpecV) (T : List Ent) (h : VocIs w v s T) (id : Int) :
    Calls Tryz.prog 68 #[.pointer (some ⟨v, 0, none⟩), .int .i64 id] w fun e w' => e = .returned (.bool (aloneV s T id)) ∧ VocIs w' v s T ∧ Touch v w w' := by
  obtain ⟨w0, x, tp, bp, mp, d, l, uses, hV⟩ := h
  refine calls_ret (vc68_calls (some ⟨v, 0, none⟩) id w (fun u w' => u = .bool (aloneV s T id) ∧ VocIs w' v s T ∧ Touch v w w') ?_) (by rintro v w' ⟨rfl, h⟩; exact ⟨rfl, h⟩)
  refine CondP.no rfl (NilC.mk _ rfl ?_)
  have e13 : (⟨v, 0, none⟩ : Addr).add 13 = ⟨v, 13, none⟩ := by rw [add_lit, Nat.zero_add]
  have e9 : ((⟨v, 0, none⟩ : Addr).add 9).add 0 = ⟨v, 9, none⟩ := by rw [add_lit, add_lit]
  have at_ : ∀ {w' : World} {c : Array Value}, w'.heap[v]? = some (.cells c tVocab (0, 0)) → ∀ j, w'.cell? ⟨v, j, none⟩ = c[j]? := fun h j => cell_heap h
  have fz : ∀ {w' : World} {c : Array Value}, w'.heap[v]? = some (.cells c tVocab (0, 0)) → ∀ j, w'.frozen? ⟨v, j, none⟩ = false := fun h j => frozen_heap h
  rw [e13]
  refine (atomicAdd_spec ⟨v, 13, none⟩ uses w (at_ hV.blk 13) (fz hV.blk 13)).mono ?_
  rintro e w1 ⟨m, rfl, hw1⟩
  obtain ⟨b1, o1, t1⟩ := vput hV.blk hV.below hV.lt 13 (.int .i64 m)
  rw [← hw1] at b1 o1 t1
  have b1 : w1.heap[v]? = some (.cells (vocCells x tp bp mp d l m) tVocab (0, 0)) := b1
  have hV1 : VocRaw w1 v s T w0 x tp bp mp d l m := ⟨hV.parts, o1, hV.lt, b1, hV.once.imp (fun h => h) fun ⟨p, q, r⟩ => ⟨p, q, t1.own r fun e => by have := (own_lt r _ e).1; omega⟩⟩
  refine ⟨m, rfl, NilC.mk _ rfl ⟨_, by rw [vcell _ v b1]; rfl, ?_⟩⟩
  have hp1 := hV1.now
  refine (markMark_spec w1 mp s.specials hp1.marks hp1.few id).mono ?_
  rintro e w2 ⟨rfl, hw⟩
  subst hw
  have hm : (markOf s.specials id).isSome = true ↔ id ∈ s.specials.map (·.1) := idx_mem
  refine ⟨_, _, rfl, CondP.mk (fun h0 => ?_) fun h0 => ?_⟩
  · refine ⟨?_, ⟨w0, x, tp, bp, mp, d, l, m, hV1⟩, t1⟩
    rw [aloneV, decide_eq_true (hm.1 h0)]
    rfl
  have hnm : id ∉ s.specials.map (·.1) := fun h => by rw [hm.2 h] at h0; cases h0
  refine NilC.mk _ rfl ?_
  rw [e9]
  -- behind the once
  have rest : ∀ (w3 : World) (l3 : Sl), VocRaw w3 v s T w0 x tp bp mp 1 l3 m → Touch v w w3 →
      CondP (decide ((id : Int) ≥ 0))
          (NilC (some ⟨v, 0, none⟩) (fun pa_3 =>
           ∃ lA : Option Addr, ∃ lN : Nat, ∃ lC : Nat, w3.cell? ((pa_3.add 9).add 3) = some (Value.slice lA lN lC) ∧
           CondP (decide ((id : Int) < ((lN : Nat) : Int)))
             (NilC (some ⟨v, 0, none⟩) (fun pa_4 =>
              ∃ lA_5 : Option Addr, ∃ lN_6 : Nat, ∃ lC_7 : Nat, w3.cell? ((pa_4.add 9).add 3) = some (Value.slice lA_5 lN_6 lC_7) ∧
              NilC lA_5 (fun pa_8 =>
              (0 : Int) ≤ id ∧ id < ((lN_6 : Nat) : Int) ∧
              ∃ b : Bool, w3.cell? (pa_8.add ((id : Int).toNat * 1)) = some (Value.bool b) ∧
              (Value.bool b = .bool (aloneV s T id) ∧ VocIs w3 v s T ∧ Touch v w w3))))
             (Value.bool false = .bool (aloneV s T id) ∧ VocIs w3 v s T ∧ Touch v w w3)))
          (Value.bool false = .bool (aloneV s T id) ∧ VocIs w3 v s T ∧ Touch v w w3) := by
    intro w3 l3 hV3 t3
    have hVI : VocIs w3 v s T := ⟨w0, x, tp, bp, mp, 1, l3, m, hV3⟩
    obtain ⟨hln, hown⟩ : l3.n = T.length ∧ w3.ownsRow (v + 1) tBool 1 l3.v l3.n ((aloneL s T).flatMap encB1) := by
      rcases hV3.once with ⟨h, _⟩ | ⟨_, h1, h2⟩
      · cases h
      · exact ⟨h1, h2⟩
    have off : ¬ inTab T id → (Value.bool false = .bool (aloneV s T id) ∧ VocIs w3 v s T ∧ Touch v w w3) := fun hn => ⟨by rw [aloneV, decide_eq_false hnm, decide_eq_false hn]; rfl, hVI, t3⟩
    have c12 : w3.cell? (((⟨v, 0, none⟩ : Addr).add 9).add 3) = some (.slice l3.a l3.n l3.c) := by rw [vcell _ v hV3.blk]; rfl
    refine CondP.mk (fun h1 => ?_) fun h1 => off fun h => ?_
    · have h1 := of_decide_eq_true h1
      refine NilC.mk _ rfl ⟨_, _, _, c12, CondP.mk (fun h2 => ?_) fun h2 => off fun h => ?_⟩
      · have h2 := of_decide_eq_true h2
        have hin : inTab T id := ⟨h1, by omega⟩
        have hlt : id.toNat < T.length := by omega
        obtain ⟨a, ha, hc⟩ := own_read (enc := encB1) (sz := 1) (fun _ => rfl) (by decide) hown (i := id.toNat) (x := aloneT s T id.toNat) (by rw [List.getElem?_eq_getElem (by rw [aloneL_length]; exact hlt), aloneL_get s T hlt])
        have hc0 := hc 0 _ rfl
        rw [add_zero] at hc0
        refine NilC.mk _ rfl ⟨_, _, _, c12, NilC.mk a ha ⟨h1, by omega, _, hc0, ?_, hVI, t3⟩⟩
        rw [aloneV, decide_eq_false hnm, decide_eq_true hin]
        simp
      · have h2 := of_decide_eq_false h2
        have := h.2
        omega
    · have h1 := of_decide_eq_false h1
      have := h.1
      omega
  rcases hV1.once with ⟨rfl, rfl⟩ | ⟨rfl, hln, hown⟩
  · -- for the first time
    obtain ⟨b2, o2, t2⟩ := vput b1 o1 hV.lt 10 (.int .i32 1)
    have hvb : VBlk (w2.setCell ⟨v, 10, none⟩ (.int .i32 1)) v ((vocCells x tp bp mp 0 ⟨none, 0, 0⟩ m).setIfInBounds 10 (.int .i32 1)) tp bp mp := ⟨b2, rfl, rfl, rfl, rfl⟩
    have hz2 : (w2.setCell ⟨v, 10, none⟩ (.int .i32 1)).heap.size = w2.heap.size := size_setCell _ _ _
    have hvl : v < w2.heap.size := (Array.getElem?_eq_some_iff.1 b1).1
    refine (once_do v w2 (fun w' => ∃ l : Sl, w'.heap[v]? = some (.cells (((vocCells x tp bp mp 0 ⟨none, 0, 0⟩ m).setIfInBounds 10 (.int .i32 1)).setIfInBounds 12 l.v) tVocab (0, 0)) ∧ l.n = T.length ∧ w'.ownsRow (w2.setCell ⟨v, 10, none⟩ (.int .i32 1)).heap.size tBool 1 l.v l.n ((aloneL s T).flatMap encB1) ∧ Touch v (w2.setCell ⟨v, 10, none⟩ (.int .i32 1)) w') (find_spec _ w0 v _ tp bp mp hvb s T x hV.parts o2 hV.lt) ?_ (at_ b1 9) (at_ b1 10) (fz b1 9) (fz b1 10)).mono ?_
    · rintro w' ⟨l', hb', _⟩
      exact ⟨at_ hb' 9, fz hb' 9, at_ hb' 10, fz hb' 10⟩
    · rintro e w3 ⟨rfl, wf, ⟨l', hbf, hlf, hof, htf⟩, hw3⟩
      refine ⟨rfl, ?_⟩
      have of : Below w0.heap.size w0 wf := o2.trans (htf.below hV.lt o2.size)
      have hbd : wf.drew.heap[v]? = some (.cells (((vocCells x tp bp mp 0 ⟨none, 0, 0⟩ m).setIfInBounds 10 (.int .i32 1)).setIfInBounds 12 l'.v) tVocab (0, 0)) := hbf
      obtain ⟨b4, o4, t4⟩ := vput hbd of.drew hV.lt 9 (.int .u32 1)
      obtain ⟨b5, o5, t5⟩ := vput b4 o4 hV.lt 10 (.int .i32 0)
      rw [← hw3] at b5 o5 t5
      have tt : Touch v wf w3 := ((Touch.of_below (drew_on wf)).trans t4).trans t5
      have hne : l'.v.ownBlock ≠ some v := fun e => by have := (own_lt hof _ e).1; omega
      refine rest w3 l' ⟨hV.parts, o5, hV.lt, b5, .inr ⟨rfl, hlf, own_base (tt.own hof hne) (by omega)⟩⟩ (((t1.trans t2).trans htf).trans tt)
  · -- it was done
    refine (once_done ⟨v, 9, none⟩ 1 (by decide) _ w2 (at_ b1 9)).mono ?_
    rintro e w3 ⟨rfl, hw⟩
    subst hw
    exact ⟨rfl, rest w3 l hV1 t1⟩
end Go.Proofs.YtpklkijdlnioaaaGreat.Eng
