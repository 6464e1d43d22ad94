/- Vocabularies: what is asked of them, walked by the engine. -/
import Derived.Test.YtpklkijdlnioaaaGreatZhVo
import Derived.Laws.MakeOwn
set_option linter.unusedVariables false
set_option linter.unusedSimpArgs false
set_option maxRecDepth 100000
namespace Go.Proofs.YtpklkijdlnioaaaGreat.Eng
open Go Go.RowKit
/-- A vocabulary's block, whatever its once says. -/
structure VBlk (w : World) (v : Nat) (c : Array Value) (tp bp mp : Nat) : Prop where
  blk : w.heap[v]? = some (.cells c tVocab (0, 0))
  size : c.size = 14
  c6 : c[6]? = some (.pointer (some ⟨tp, 0, none⟩))
  c7 : c[7]? = some (.pointer (some ⟨bp, 0, none⟩))
  c8 : c[8]? = some (.pointer (some ⟨mp, 0, none⟩))
theorem VocRaw.vblk {w : World} {v : Nat} {s : SpecV} {T : List Ent} {w0 : World} {x : SpecW} {tp bp mp : Nat} {d : Int} {l : Sl} {uses : Int} (h : VocRaw w v s T w0 x tp bp mp d l uses) : VBlk w v (vocCells x tp bp mp d l uses) tp bp mp := ⟨h.blk, rfl, rfl, rfl, rfl⟩
theorem VBlk.on {w w' : World} {v : Nat} {c : Array Value} {tp bp mp : Nat} (h : VBlk w v c tp bp mp) (hb : Below w.heap.size w w') : VBlk w' v c tp bp mp := ⟨held_on hb h.blk, h.size, h.c6, h.c7, h.c8⟩
theorem vcell (w : World) (v : Nat) {c : Array Value} (h : w.heap[v]? = some (.cells c tVocab (0, 0))) (a b : Nat) : w.cell? (((⟨v, 0, none⟩ : Addr).add a).add b) = c[a + b]? := by rw [Addr.add_add]; exact ptr_add0 _ _ h _
theorem vocTable_spec {w : World} {v : Nat} {c : Array Value} {tp bp mp : Nat} (h : VBlk w v c tp bp mp) : Calls Tryz.prog 127 #[.pointer (some ⟨v, 0, none⟩)] w fun e w' => e = .returned (.pointer (some ⟨tp, 0, none⟩)) ∧ w' = w := by
  refine calls_ret (vc127_calls (some ⟨v, 0, none⟩) w (fun u w' => u = .pointer (some ⟨tp, 0, none⟩) ∧ w' = w) ?_) (by rintro v w' ⟨rfl, h⟩; exact ⟨rfl, h⟩)
  exact CondP.no rfl (NilC.mk _ rfl ⟨_, by rw [vcell w v h.blk]; exact h.c6, rfl, rfl⟩)
theorem vocBounds_spec {w : World} {v : Nat} {c : Array Value} {tp bp mp : Nat} (h : VBlk w v c tp bp mp) : Calls Tryz.prog 138 #[.pointer (some ⟨v, 0, none⟩)] w fun e w' => e = .returned (.pointer (some ⟨bp, 0, none⟩)) ∧ w' = w := by
  refine calls_ret (vc138_calls (some ⟨v, 0, none⟩) w (fun u w' => u = .pointer (some ⟨bp, 0, none⟩) ∧ w' = w) ?_) (by rintro v w' ⟨rfl, h⟩; exact ⟨rfl, h⟩)
  exact CondP.no rfl (NilC.mk _ rfl ⟨_, by rw [vcell w v h.blk]; exact h.c7, rfl, rfl⟩)
theorem vocMarks_spec {w : World} {v : Nat} {c : Array Value} {tp bp mp : Nat} (h : VBlk w v c tp bp mp) : Calls Tryz.prog 92 #[.pointer (some ⟨v, 0, none⟩)] w fun e w' => e = .returned (.pointer (some ⟨mp, 0, none⟩)) ∧ w' = w := by
  refine calls_ret (vc92_calls (some ⟨v, 0, none⟩) w (fun u w' => u = .pointer (some ⟨mp, 0, none⟩) ∧ w' = w) ?_) (by rintro v w' ⟨rfl, h⟩; exact ⟨rfl, h⟩)
  exact CondP.no rfl (NilC.mk _ rfl ⟨_, by rw [vcell w v h.blk]; exact h.c8, rfl, rfl⟩)
theorem vocSize_spec {w : World} {v : Nat} {c : Array Value} {tp bp mp : Nat} (h : VBlk w v c tp bp mp) {T : List Ent} (hT : TabIs w tp T) : Calls Tryz.prog 94 #[.pointer (some ⟨v, 0, none⟩)] w fun e w' => e = .returned (.int .i64 T.length) ∧ w' = w := by
  refine calls_ret (vc94_calls (some ⟨v, 0, none⟩) w (fun u w' => u = .int .i64 T.length ∧ w' = w) ?_) (by rintro v w' ⟨rfl, h⟩; exact ⟨rfl, h⟩)
  refine (vocTable_spec h).mono ?_
  rintro e w1 ⟨rfl, hw⟩
  subst hw
  refine ⟨_, rfl, (tokLen_spec w1 tp T hT).mono ?_⟩
  rintro e w2 ⟨rfl, hw⟩
  subst hw
  exact ⟨_, rfl, rfl, rfl⟩
theorem VocParts.few {w : World} {s : SpecV} {T : List Ent} {x : SpecW} {tp bp mp : Nat} (h : VocParts w s T x tp bp mp) : s.specials.length ≤ 1000000 := (right_small h.right).2.2.1
/-- Is there a token? -/
def hasV2 (s : SpecV) (T : List Ent) (id : Int) : Bool := decide (id ∈ s.specials.map (·.1) ∨ inTab T id)
theorem infoBool : ∃ i, Tryz.prog.info? tBool = some i ∧ i.zero = some (.bool false) ∧ i.size = 1 ∧ i.bytes = 1 := by
  have h : (Tryz.prog.info? tBool).map (fun i => (i.zero, i.size, i.bytes)) = some (some (.bool false), 1, 1) := by kernel_rfl
  obtain ⟨i, hi, he⟩ := Option.map_eq_some_iff.1 h
  simp only [Prod.mk.injEq] at he
  exact ⟨i, hi, he.1, he.2.1, he.2.2⟩
theorem run_makeBools (w : World) (n : Nat) (hn : n ≤ 1000000) : (Instr.makeSlice 111 (.int .i64 n) (.int .i64 n)).run Tryz.prog w = .ok (.slice (some (nb w)) n n) (w.alloc (.cells (Array.replicate n (.bool false)) tBool)) := by
  obtain ⟨i, hi, hz, hs, hb⟩ := infoBool
  have := Go.run_make (P := Tryz.prog) w 111 tBool i (.bool false) (by kernel_rfl) hi hz .i64 .i64 (n : Int) (n : Int) (by omega) (Int.le_refl _) (by rw [hb]; omega) (by omega)
  rw [this]
  congr 3
  rw [hs]
  apply Array.ext
  · rw [size_madeCells]
    simp
  · intro j h1 h2
    simp only [madeCells, Array.getElem_map, Array.getElem_range, Array.getElem_replicate]
    show (#[Value.bool false] : Array Value)[j % 1]! = _
    rw [Nat.mod_one]
    rfl
theorem aloneL_length (s : SpecV) (T : List Ent) : (aloneL s T).length = T.length := by simp [aloneL]
theorem aloneL_get (s : SpecV) (T : List Ent) {i : Nat} (hi : i < T.length) : (aloneL s T)[i]'(by rw [aloneL_length]; exact hi) = aloneT s T i := by simp [aloneL]
/-- What is found up to a place. -/
def foundL (s : SpecV) (T : List Ent) (i : Nat) : List Bool := (aloneL s T).take i ++ List.replicate (T.length - i) false
theorem foundL_length (s : SpecV) (T : List Ent) (i : Nat) (hi : i ≤ T.length) : (foundL s T i).length = T.length := by
  simp [foundL, aloneL_length]
  omega
theorem foundL_set (s : SpecV) (T : List Ent) (i : Nat) (hi : i < T.length) : (foundL s T i).set i (aloneT s T i) = foundL s T (i + 1) := by
  have hl : ((aloneL s T).take i).length = i := by simp [aloneL_length]; omega
  have ht : (aloneL s T).take (i + 1) = (aloneL s T).take i ++ [aloneT s T i] := by
    rw [List.take_add_one, List.getElem?_eq_getElem (by rw [aloneL_length]; exact hi), aloneL_get s T hi]
    rfl
  unfold foundL
  rw [List.set_append_right _ _ (by omega), hl, Nat.sub_self, ht, show T.length - i = (T.length - (i + 1)) + 1 by omega, List.replicate_succ, List.set_cons_zero]
  simp
theorem find_spec (w w0 : World) (v : Nat) (c : Array Value) (tp bp mp : Nat) (h : VBlk w v c tp bp mp) (s : SpecV) (T : List Ent) (x : SpecW) (hp : VocParts w0 s T x tp bp mp) (h0 : Below w0.heap.size w0 w) (hv : w0.heap.size ≤ v) :
    Calls Tryz.prog 101 #[.pointer (some ⟨v, 0, none⟩)] w fun e w' => e = .returned (.tuple #[]) ∧ ∃ l : Sl, w'.heap[v]? = some (.cells (c.setIfInBounds 12 l.v) tVocab (0, 0)) ∧ l.n = T.length ∧ w'.ownsRow w.heap.size tBool 1 l.v l.n ((aloneL s T).flatMap encB1) ∧ Touch v w w' := by
  refine calls_ret (vc101_calls (some ⟨v, 0, none⟩) w (fun u w' => u = .tuple #[] ∧ ∃ l : Sl, w'.heap[v]? = some (.cells (c.setIfInBounds 12 l.v) tVocab (0, 0)) ∧ l.n = T.length ∧ w'.ownsRow w.heap.size tBool 1 l.v l.n ((aloneL s T).flatMap encB1) ∧ Touch v w w') ?_) (by rintro v w' ⟨rfl, h⟩; exact ⟨rfl, h⟩)
  have hpn := hp.on h0
  refine (vocSize_spec h hpn.tab).mono ?_
  rintro e w1 ⟨rfl, hw⟩
  subst hw
  have hmost := hp.ok.most
  have hvl : v < w1.heap.size := (Array.getElem?_eq_some_iff.1 h.blk).1
  refine ⟨_, rfl, some (nb w1), T.length, T.length, _, run_makeBools w1 T.length (by omega), ?_⟩
  have hb2 := below_alloc w1 (.cells (Array.replicate T.length (.bool false)) tBool)
  have hblk2 := held_on hb2 h.blk
  have hz2 : (w1.alloc (.cells (Array.replicate T.length (Value.bool false)) tBool)).heap.size = w1.heap.size + 1 := alloc_size _ _
  have hown2 : (w1.alloc (.cells (Array.replicate T.length (.bool false)) tBool)).ownsRow w1.heap.size tBool 1 (.slice (some (nb w1)) T.length T.length) T.length ((foundL s T 0).flatMap encB1) := by
    have hf : (foundL s T 0).flatMap encB1 = List.replicate T.length (.bool false) := by
      simp [foundL, encB1, List.flatMap_replicate]
    rw [hf]
    refine ⟨by simp, .inr ⟨w1.heap.size, T.length, _, rfl, Nat.le_refl _, alloc_new _ _, Nat.le_refl _, by unfold maxLen; omega, by simp, by simp⟩⟩
  refine NilC.mk _ rfl ⟨rfl, ⟨_, by rw [vcell _ v hblk2, Array.getElem?_eq_getElem (by rw [h.size]; decide)]⟩, by rw [Addr.add_add]; exact frozen_put hblk2, ?_⟩
  intro w3 hw3
  rw [Addr.add_add] at hw3
  have hblk3 : w3.heap[v]? = some (.cells (c.setIfInBounds 12 (.slice (some (nb w1)) T.length T.length)) tVocab (0, 0)) := by subst hw3; exact heap_put hblk2 _
  have ht3 : Touch v w1 w3 := by
    refine (Touch.of_below hb2).trans ?_
    subst hw3
    exact ⟨rfl, rfl, rfl, by rw [size_setCell]; exact Nat.le_refl _, fun k _ hk => heap_setCell_ne (by rw [add_block]; exact hk)⟩
  have hown3 : w3.ownsRow w1.heap.size tBool 1 (.slice (some (nb w1)) T.length T.length) T.length ((foundL s T 0).flatMap encB1) := by
    subst hw3
    exact own_setCell hown2 _ (by rw [add_block]; intro e; have := Option.some.inj e; simp at this; omega)
  have hz3 : w3.heap.size = w1.heap.size + 1 := by subst hw3; rw [size_setCell]; exact hz2
  have g12 : ∀ {w' : World}, w'.heap[v]? = some (.cells (c.setIfInBounds 12 (.slice (some (nb w1)) T.length T.length)) tVocab (0, 0)) → w'.cell? (((⟨v, 0, none⟩ : Addr).add 9).add 3) = some (.slice (some (nb w1)) T.length T.length) := fun hh => by
    rw [vcell _ v hh, Array.getElem?_setIfInBounds_self_of_lt (by rw [h.size]; decide)]
  have gk : ∀ {w' : World}, w'.heap[v]? = some (.cells (c.setIfInBounds 12 (.slice (some (nb w1)) T.length T.length)) tVocab (0, 0)) → VBlk w' v (c.setIfInBounds 12 (.slice (some (nb w1)) T.length T.length)) tp bp mp := fun hh => ⟨hh, by simp [h.size], by rw [Array.getElem?_setIfInBounds_ne (by decide)]; exact h.c6, by rw [Array.getElem?_setIfInBounds_ne (by decide)]; exact h.c7, by rw [Array.getElem?_setIfInBounds_ne (by decide)]; exact h.c8⟩
  refine NilC.mk _ rfl ⟨_, _, _, g12 hblk3, ?_⟩
  intro I hI
  have key := climb2 (α := World) T.length (fun i w' => w'.heap[v]? = some (.cells (c.setIfInBounds 12 (.slice (some (nb w1)) T.length T.length)) tVocab (0, 0)) ∧ w'.ownsRow w1.heap.size tBool 1 (.slice (some (nb w1)) T.length T.length) T.length ((foundL s T i).flatMap encB1) ∧ Touch v w1 w') (fun i w' => I [.int .i64 (i : Int)] w') w3 ⟨hblk3, hown3, ht3⟩ ?_ ?_
  · exact key
  · rintro i hi ih w4 ⟨hblk4, hown4, ht4⟩
    have hB4 : Below w0.heap.size w0 w4 := h0.trans (ht4.below hv h0.size)
    have hp4 := hp.on hB4
    have hin : inTab T (i : Int) := ⟨by omega, by omega⟩
    refine hI _ _ (CondP.yes (by simp; omega) (NilC.mk _ rfl ⟨_, by rw [vcell _ v hblk4]; exact (gk hblk4).c6, ?_⟩))
    refine (tokBytes_spec w4 tp T hp4.tab (i : Int)).mono ?_
    rintro e w5 ⟨rfl, hw⟩
    subst hw
    rw [if_pos hin]
    have hshort : (bytesOf T (i : Int)).length ≤ 64 := by
      obtain ⟨y, hy, hyb⟩ := bytesOf_at hin
      rw [hyb]
      exact hp.ok.short y (List.mem_of_getElem? hy)
    refine ⟨_, _, rfl, NilC.mk _ rfl ⟨_, by rw [vcell _ v hblk4]; exact (gk hblk4).c6, ?_⟩⟩
    refine (encode_spec w5 tp T hp4.tab hp.ok.sound hp.ok.pos (bytesOf T (i : Int)) (by omega)).mono ?_
    rintro e w6 ⟨A, N, C, rfl, hown6, hN, hB6⟩
    refine ⟨A, N, C, rfl, ?_⟩
    intro w7 hw7
    have hB7 : Below w5.heap.size w5 w7 := by subst hw7; exact hB6.drew
    have hblk7 := held_on hB7 hblk4
    have hown7 := own_on hown4 hB7
    have henc7 : w7.ownsRow w5.heap.size tInt 1 (.slice A N C) N ((encAll T (bytesOf T (i : Int))).flatMap encInt) := by subst hw7; exact own_drew hown6
    have ht7 := ht4.trans (Touch.of_below hB7)
    -- the place is written
    have fin : ∀ (b : Bool) (w8 : World), b = aloneT s T i → Below w7.heap.size w7 w8 →
        NilC (some (nb w1)) (fun pa_20 =>
             (0 : Int) ≤ (i : Int) ∧ (i : Int) < ((T.length : Nat) : Int) ∧
             (Value.bool b).oneCell' = true ∧ (∃ u, w8.cell? (pa_20.add ((i : Int).toNat * 1)) = some u) ∧ w8.frozen? (pa_20.add ((i : Int).toNat * 1)) = false ∧
             ∀ w9 : World, w9 = (w8.setCell (pa_20.add ((i : Int).toNat * 1)) (Value.bool b)) →
             Ar .i64 ((i : Int) + 1) (fun n_21 => I [Value.int .i64 n_21] w9)) := by
      intro b w8 hb hB8
      have hblk8 := held_on hB8 hblk7
      have hown8 := own_on hown7 hB8
      have hget : (foundL s T i)[i]? = some false := by
        unfold foundL
        have hl : ((aloneL s T).take i).length = i := by simp [aloneL_length]; omega
        rw [List.getElem?_append_right (by omega), hl, Nat.sub_self, List.getElem?_replicate, if_pos (by omega)]
      obtain ⟨u, f, k⟩ := own_write (l := ⟨some (nb w1), T.length, T.length⟩) (enc := encB1) (sz := 1) (fun _ => rfl) (by decide) hown8 (foundL_length s T i (by omega)).symm rfl hget (k := 0) (by decide) b (.bool b) rfl
      rw [add_zero] at u f k
      refine NilC.mk _ rfl ⟨by omega, by omega, rfl, u, f, ?_⟩
      intro w9 hw9
      obtain ⟨r9, s9, z9, b9⟩ := k w9 hw9
      refine Ar.ok64 (by omega) (by omega) (ih w9 ⟨?_, ?_, ?_⟩)
      · rw [s9 v (by intro e; have := Option.some.inj e; simp at this; omega)]
        exact hblk8
      · rw [hb, foundL_set s T i hi] at r9
        exact r9
      · have t8 := ht7.trans (Touch.of_below hB8)
        have hbb := b9 w1.heap.size w1 (Nat.le_refl _)
        have ob : (Value.slice (some (nb w1)) T.length T.length).ownBlock = some w1.heap.size := rfl
        refine ⟨?_, ?_, ?_, by rw [z9]; exact t8.size, fun j hj hjv => ?_⟩
        · subst hw9; exact t8.os
        · subst hw9; exact t8.tape
        · subst hw9; exact t8.output
        · rw [s9 j (by rw [show (Sl.v ⟨some (nb w1), T.length, T.length⟩).ownBlock = some w1.heap.size from rfl]; intro e; have := Option.some.inj e; omega), t8.block j hj hjv]
    refine NilC.mk _ rfl ⟨_, _, _, g12 hblk7, CondP.mk (fun h1 => ?_) fun h1 => ?_⟩
    · have h1 : N = 1 := by have : ((N : Nat) : Int) = 1 := by simpa using h1
                            omega
      rw [h1] at hN
      match hx : encAll T (bytesOf T (i : Int)) with
      | [] => rw [hx] at hN; simp at hN
      | y :: z :: t => rw [hx] at hN; simp at hN
      | [y] =>
        rw [hx] at henc7
        obtain ⟨a, ha, hc⟩ := own_read (l := ⟨A, N, C⟩) (enc := encInt) (sz := 1) (fun _ => rfl) (by decide) henc7 (i := 0) (x := y) rfl
        have hc0 := hc 0 _ rfl
        rw [add_zero] at hc0
        refine NilC.mk a ha ⟨Int.le_refl _, by omega, y, hc0, CondP.mk (fun h2 => ?_) fun h2 => ?_⟩
        · have h2 : y = (i : Int) := by simpa using h2
          refine NilC.mk _ rfl ⟨_, by rw [vcell _ v hblk7]; exact (gk hblk7).c7, ?_⟩
          refine (whole_spec w7 bp s.classes s.joins (hp4.on hB7).bound (right_ok hp.right).1 (bytesOf T (i : Int)) (by omega)).mono ?_
          rintro e w8 ⟨rfl, hB8⟩
          refine ⟨_, rfl, ⟨g12 (held_on hB8 hblk7), trivial⟩, fin _ w8 ?_ hB8⟩
          unfold aloneT
          rw [hx, h2]
          simp
        · have h2 : y ≠ (i : Int) := by simpa using h2
          refine fin false w7 ?_ (Below.refl _ _)
          unfold aloneT
          rw [hx]
          simp [h2]
    · have h1 : N ≠ 1 := by intro e; rw [e] at h1; simp at h1
      refine fin false w7 ?_ (Below.refl _ _)
      unfold aloneT
      rw [decide_eq_false (fun e => by rw [e] at hN; simp at hN; exact h1 hN)]
      rfl
  · rintro w4 ⟨hblk4, hown4, ht4⟩
    refine hI _ _ (CondP.no (by simp) ⟨rfl, ⟨some (nb w1), T.length, T.length⟩, hblk4, rfl, ?_, ht4⟩)
    have : foundL s T T.length = aloneL s T := by
      unfold foundL
      rw [Nat.sub_self, List.replicate_zero, List.append_nil, List.take_of_length_le (by rw [aloneL_length]; exact Nat.le_refl _)]
    rw [this] at hown4
    exact hown4
end Go.Proofs.YtpklkijdlnioaaaGreat.Eng
