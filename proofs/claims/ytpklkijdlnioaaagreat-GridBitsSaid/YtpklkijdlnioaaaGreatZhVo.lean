/- Vocabularies: what they are, and how they are made, walked by the engine. -/
import Derived.Test.YtpklkijdlnioaaaGreatZhVb
set_option linter.unusedVariables false
set_option linter.unusedSimpArgs false
set_option maxRecDepth 100000
namespace Go.Proofs.YtpklkijdlnioaaaGreat.Eng
open Go Go.RowKit
abbrev tVocab : TypeId := 164
abbrev tBool : TypeId := 4
/-- Is a token made of its bytes, within one piece? -/
def aloneT (s : SpecV) (T : List Ent) (i : Nat) : Bool := decide (encAll T (bytesOf T (i : Int)) = [(i : Int)]) && wholeB (cutB s.classes s.joins) (bytesOf T (i : Int))
def aloneL (s : SpecV) (T : List Ent) : List Bool := (List.range T.length).map (aloneT s T)
def encB1 (b : Bool) : List Value := [.bool b]
/-- A vocabulary's parts, as they lie below it. -/
structure VocParts (w : World) (s : SpecV) (T : List Ent) (x : SpecW) (tp bp mp : Nat) : Prop where
  spec : SpecAt w x s
  tab : TabIs w tp T
  ok : TOk T
  bound : BdIs w bp s.classes s.joins
  marks : MkIs w mp s.specials
  right : s.right = true
  ids : ∀ y ∈ s.specials, (T.length : Int) ≤ y.1
  nodup : (s.specials.map (·.1)).Nodup
theorem VocParts.on {w w' : World} {s : SpecV} {T : List Ent} {x : SpecW} {tp bp mp : Nat} (h : VocParts w s T x tp bp mp) (hb : Below w.heap.size w w') : VocParts w' s T x tp bp mp :=
  ⟨h.spec.on hb, h.tab.on hb, h.ok, h.bound.on hb, h.marks.on hb, h.right, h.ids, h.nodup⟩
abbrev vocCells (x : SpecW) (tp bp mp : Nat) (d : Int) (l : Sl) (uses : Int) : Array Value := #[.bool x.ranked, x.s1.v, x.s2.v, x.s3.v, x.s4.v, x.s5.v, .pointer (some ⟨tp, 0, none⟩), .pointer (some ⟨bp, 0, none⟩), .pointer (some ⟨mp, 0, none⟩), .int .u32 d, .int .i32 0, .int .u32 0, l.v, .int .i64 uses]
/-- A vocabulary in memory; 'd': whether it was found out which tokens are made of their bytes. -/
structure VocRaw (w : World) (v : Nat) (s : SpecV) (T : List Ent) (w0 : World) (x : SpecW) (tp bp mp : Nat) (d : Int) (l : Sl) (uses : Int) : Prop where
  parts : VocParts w0 s T x tp bp mp
  below : Below w0.heap.size w0 w
  lt : w0.heap.size ≤ v
  blk : w.heap[v]? = some (.cells (vocCells x tp bp mp d l uses) tVocab (0, 0))
  once : (d = 0 ∧ l = ⟨none, 0, 0⟩) ∨ (d = 1 ∧ l.n = T.length ∧ w.ownsRow (v + 1) tBool 1 l.v l.n ((aloneL s T).flatMap encB1))
def VocIs (w : World) (v : Nat) (s : SpecV) (T : List Ent) : Prop := ∃ w0 x tp bp mp d l uses, VocRaw w v s T w0 x tp bp mp d l uses
theorem VocRaw.on {w w' : World} {v : Nat} {s : SpecV} {T : List Ent} {w0 : World} {x : SpecW} {tp bp mp : Nat} {d : Int} {l : Sl} {uses : Int} (h : VocRaw w v s T w0 x tp bp mp d l uses) (hb : Below w.heap.size w w') : VocRaw w' v s T w0 x tp bp mp d l uses :=
  ⟨h.parts, h.below.trans (hb.mono h.below.size), h.lt, held_on hb h.blk, h.once.imp id fun ⟨a, b, c⟩ => ⟨a, b, own_on c hb⟩⟩
theorem VocIs.on {w w' : World} {v : Nat} {s : SpecV} {T : List Ent} (h : VocIs w v s T) (hb : Below w.heap.size w w') : VocIs w' v s T := by
  obtain ⟨w0, x, tp, bp, mp, d, l, uses, h⟩ := h
  exact ⟨w0, x, tp, bp, mp, d, l, uses, h.on hb⟩
theorem VocRaw.now {w : World} {v : Nat} {s : SpecV} {T : List Ent} {w0 : World} {x : SpecW} {tp bp mp : Nat} {d : Int} {l : Sl} {uses : Int} (h : VocRaw w v s T w0 x tp bp mp d l uses) : VocParts w s T x tp bp mp := h.parts.on h.below
/-- All but the vocabulary's own block stays. -/
structure Touch (v : Nat) (w w' : World) : Prop where
  os : w'.os = w.os
  tape : w'.tape = w.tape
  output : w'.output = w.output
  size : w.heap.size ≤ w'.heap.size
  block : ∀ k, k < w.heap.size → k ≠ v → w'.heap[k]? = w.heap[k]?
theorem Touch.of_below {v : Nat} {w w' : World} (h : Below w.heap.size w w') : Touch v w w' := ⟨h.os, h.tape, h.output, h.size, fun k hk _ => h.block k hk⟩
theorem Touch.trans {v : Nat} {a b c : World} (h : Touch v a b) (k : Touch v b c) : Touch v a c :=
  ⟨k.os.trans h.os, k.tape.trans h.tape, k.output.trans h.output, Nat.le_trans h.size k.size, fun i hi hv => (k.block i (Nat.lt_of_lt_of_le hi h.size) hv).trans (h.block i hi hv)⟩
theorem Touch.below {v B : Nat} {a b : World} (h : Touch v a b) (hv : B ≤ v) (hB : B ≤ a.heap.size) : Below B a b := ⟨h.os, h.tape, h.output, h.size, fun k hk => h.block k (by omega) (by omega)⟩
theorem Touch.held {v : Nat} {a b : World} (h : Touch v a b) {k : Nat} (hk : k ≠ v) {o : Obj} (ho : a.heap[k]? = some o) : b.heap[k]? = some o := by
  rw [h.block k (Array.getElem?_eq_some_iff.1 ho).1 hk, ho]
theorem Touch.own {v : Nat} {a b : World} (h : Touch v a b) {B : Nat} {e : TypeId} {sz n : Nat} {u : Value} {xs : List Value} (ho : a.ownsRow B e sz u n xs) (hne : u.ownBlock ≠ some v) : b.ownsRow B e sz u n xs :=
  own_same ho fun k hk => h.block k (own_lt ho k hk).2 fun e => hne (by rw [hk, e])

theorem buildIs_spec (w : World) (cb : Nat) (tp : Nat) (T : List Ent) (hT : TabIs w tp T) (y : Int × Bs) (hcb : cb < w.heap.size) (hc : w.cell? ⟨cb, 0, none⟩ = some (.pointer (some ⟨tp, 0, none⟩))) :
    Calls Tryz.prog 117 #[.agg #[.int .i64 y.1, .string (str y.2)], .pointer (some ⟨cb, 0, none⟩)] w fun e w' => e = .returned (.bool (decide (y.1 < (T.length : Int)))) ∧ Below w.heap.size w w' := by
  refine calls_ret (vc117_calls y.1 (str y.2) (some ⟨cb, 0, none⟩) w (fun v w' => v = .bool (decide (y.1 < (T.length : Int))) ∧ Below w.heap.size w w') ?_) (by rintro v w' ⟨rfl, h⟩; exact ⟨rfl, h⟩)
  intro w1 hw1 w2 hw2
  have hb2 : Below w.heap.size w w2 := by subst hw2; subst hw1; exact (below_alloc _ _).drew
  have hl2 : w2.heap[w.heap.size]? = some (.cells #[.int .i64 y.1, .string (str y.2)] tSp (0, 0)) := by subst hw2; subst hw1; exact alloc_new _ _
  refine ⟨_, ptr_add0 _ _ hl2 0, NilC.mk _ rfl ⟨_, by rw [hb2.cell hcb]; exact hc, ?_⟩⟩
  refine (tokLen_spec w2 tp T (hT.on hb2)).mono ?_
  rintro e w3 ⟨rfl, hw⟩
  subst hw
  exact ⟨_, rfl, ⟨ptr_add0 _ _ hl2 0, trivial⟩, rfl, hb2⟩
def buildV (s : SpecV) : Except (Int × Nat × Int) (List Ent) := match loadT s with
  | .error q => .error (1, q.1, q.2)
  | .ok T => match markErr [] 0 s.specials with
    | some q => .error (2, q.1, q.2)
    | none => match s.specials.findIdx? (fun y => decide (y.1 < (T.length : Int))) with
      | some i => .error (2, i, 4)
      | none => .ok T
def BuildPost (w : World) (s : SpecV) (v : Value) (w' : World) : Prop := Below w.heap.size w w' ∧ match buildV s with
  | .error q => v = .tuple #[.pointer none, .int .i64 q.1, .int .i64 q.2.1, .int .i64 q.2.2] ∧ q.2.2 ≠ 0
  | .ok T => ∃ p, v = .tuple #[.pointer (some ⟨p, 0, none⟩), .int .i64 0, .int .i64 0, .int .i64 0] ∧ VocIs w' p s T ∧ w.heap.size ≤ p
theorem markErr_ne {xs : List (Int × Bs)} : ∀ {ys : List (Int × Bs)} {i : Nat} {q : Nat × Int}, markErr ys i xs = some q → q.2 ≠ 0 := by
  induction xs with
  | nil => intro ys i q h; cases h
  | cons x xs ih =>
    intro ys i q h
    rw [markErr] at h
    split at h
    · exact ih h
    · rename_i hne
      cases h
      exact hne
theorem markErr_nodup {xs : List (Int × Bs)} : ∀ {ys : List (Int × Bs)} {i : Nat}, markErr ys i xs = none → (ys.map (·.1)).Nodup → ((ys ++ xs).map (·.1)).Nodup := by
  induction xs with
  | nil => intro ys i _ h; rw [List.append_nil]; exact h
  | cons x xs ih =>
    intro ys i h hn
    rw [markErr] at h
    split at h
    · rename_i hz
      have := ih h (by
        rw [List.map_append, List.nodup_append]
        refine ⟨hn, by simp, fun a ha b hb => ?_⟩
        simp at hb
        subst hb
        rintro rfl
        unfold markAdd at hz
        split at hz
        · omega
        · split at hz
          · omega
          · split at hz
            · omega
            · rename_i h3
              exact h3 (.inl ha))
      simpa using this
    · cases h
theorem right_ok {s : SpecV} (h : s.right = true) : (∀ c ∈ s.classes, classOk c = true) ∧ (∀ j ∈ s.joins, joinOk j = true) ∧ (∀ t ∈ s.tokens, t.length ≤ 100000) := by
  obtain ⟨_, _, h3, _, h5, h6⟩ := right_parts h
  simp only [allOk, Bool.and_eq_true, List.all_eq_true] at h3 h5 h6
  refine ⟨h5.2, h6.2, fun t ht => ?_⟩
  have := of_decide_eq_true (by simpa [thingOk] using h3.2 t ht : decide _ = true)
  omega
theorem build_spec (w : World) (x : SpecW) (s : SpecV) (h : SpecAt w x s) (hright : s.right = true) :
    Calls Tryz.prog 83 #[x.v] w fun e w' => ∃ v, e = .returned v ∧ BuildPost w s v w' := by
  refine vc83_calls x.ranked x.s1.a x.s1.n x.s1.c x.s2.a x.s2.n x.s2.c x.s3.a x.s3.n x.s3.c x.s4.a x.s4.n x.s4.c x.s5.a x.s5.n x.s5.c w (BuildPost w s) ?_
  intro w1 hw1
  have hs := right_small hright
  obtain ⟨okc, okj, okt⟩ := right_ok hright
  have hb1 : Below w.heap.size w w1 := by subst hw1; exact below_alloc _ _
  have hz1 : w1.heap.size = w.heap.size + 1 := by subst hw1; exact alloc_size _ _
  have p1 : w1.heap[w.heap.size]? = some (.cells x.cells tSpec (0, 0)) := by subst hw1; exact alloc_new _ _
  have h1 := h.on hb1
  refine ⟨_, _, _, _, _, _, _, _, _, _, _, _, _, _, _, _, agg_cells p1, ?_⟩
  refine (load_spec w1 x s h1 hs okt).mono ?_
  rintro e w2 ⟨v, rfl, hb2, hload⟩
  have hb12 := below_then hb1 hb2
  have p2 := held_on hb2 p1
  have hz2 := hb2.size
  have store : ∀ (r0 : Option Addr) (w3 w4 : World), w3 = w2.alloc (.cells #[Value.pointer none] 142) → w4 = w3.setCell (nb w2) (.pointer r0) → w4.heap[w2.heap.size]? = some (.cells #[.pointer r0] 142 (0, 0)) ∧ Below w2.heap.size w2 w4 := by
    intro r0 w3 w4 hw3 hw4
    have a3 : w3.heap[w2.heap.size]? = some (.cells #[Value.pointer none] 142 (0, 0)) := by subst hw3; exact alloc_new _ _
    have b3 : Below w2.heap.size w2 w3 := by subst hw3; exact below_alloc _ _
    have hp := heap_put (j := 0) a3 (.pointer r0)
    have bp := below_put (j := 0) b3 (Nat.le_refl _) (.pointer r0)
    rw [add_zero] at hp bp
    subst hw4
    exact ⟨hp, bp⟩
  have slot : ∀ (w3 : World), w3 = w2.alloc (.cells #[Value.pointer none] 142) → (∃ u, w3.cell? (nb w2) = some u) ∧ w3.frozen? (nb w2) = false := by
    intro w3 hw3
    subst hw3
    have a3 := alloc_new w2 (.cells #[Value.pointer none] 142)
    refine ⟨⟨.pointer none, by rw [cell_new]; rfl⟩, frozen_heap a3⟩
  have fail : ∀ (q : Int × Nat × Int) (w' : World), buildV s = .error q → q.2.2 ≠ 0 → Below w.heap.size w w' → BuildPost w s (.tuple #[.pointer none, .int .i64 q.1, .int .i64 q.2.1, .int .i64 q.2.2]) w' := by
    intro q w' hq hne hb
    refine ⟨hb, ?_⟩
    rw [hq]
    exact ⟨rfl, hne⟩
  cases hl : loadT s with
  | error q =>
    rw [hl] at hload
    obtain ⟨rfl, hq⟩ := hload
    refine ⟨_, _, _, rfl, ?_⟩
    intro w3 hw3
    obtain ⟨u3, f3⟩ := slot w3 hw3
    refine ⟨rfl, u3, f3, ?_⟩
    intro w4 hw4
    obtain ⟨a4, b4⟩ := store none w3 w4 hw3 hw4
    refine CondP.yes (by simpa using hq) ?_
    exact fail (1, q.1, q.2) w4 (by rw [buildV, hl]) hq (below_then hb12 b4)
  | ok T =>
    rw [hl] at hload
    obtain ⟨tp, rfl, hT, hok⟩ := hload
    refine ⟨_, _, _, rfl, ?_⟩
    intro w3 hw3
    obtain ⟨u3, f3⟩ := slot w3 hw3
    refine ⟨rfl, u3, f3, ?_⟩
    intro w4 hw4
    obtain ⟨a4, b4⟩ := store (some ⟨tp, 0, none⟩) w3 w4 hw3 hw4
    have hb14 := below_then hb12 b4
    have hz4 := b4.size
    have p4 := held_on b4 p2
    have hT4 := hT.on b4
    have h4 := h.on hb14
    refine CondP.no rfl ⟨_, _, _, by rw [ptr_add0 _ _ p4]; rfl, ?_⟩
    have hM := markNew_spec w4 x.s3.a x.s3.c s.specials h4.r3 (by have := hs.2.2.1; omega)
    rw [← h.n3] at hM
    refine hM.mono ?_
    rintro e w5 ⟨v, rfl, b5, hmark⟩
    have hb15 := below_then hb14 b5
    have p5 := held_on b5 p4
    cases hm : markErr [] 0 s.specials with
    | some q =>
      rw [hm] at hmark
      subst hmark
      have hne := markErr_ne hm
      refine ⟨_, _, _, rfl, CondP.yes (by simpa using hne) ?_⟩
      exact fail (2, q.1, q.2) w5 (by rw [buildV, hl]; simp only [hm]) hne hb15
    | none =>
      rw [hm] at hmark
      obtain ⟨mp, hv, hMk⟩ := hmark
      subst hv
      refine ⟨_, _, _, rfl, CondP.no rfl ⟨_, _, _, by rw [ptr_add0 _ _ p5]; rfl, ?_⟩⟩
      have hI := indexS_spec x.s3.a x.s3.c s.specials (.func (.func 117) #[] #[.pointer (some (nb w2))]) (fun y => decide (y.1 < (T.length : Int))) w5 (h.on hb15).r3 (by have := hs.2.2.1; omega) (by
        intro y hy w6 hb6
        refine callG_of (by kernel_rfl) ?_
        refine (buildIs_spec w6 w2.heap.size tp T ((hT4.on b5).on hb6) y (by have := b5.size; have := hb6.size; have := (Array.getElem?_eq_some_iff.1 a4).1; omega) ?_)
        have := ptr_add0 _ _ (held_on hb6 (held_on b5 a4)) 0
        rw [add_zero] at this
        exact this)
      rw [← h.n3] at hI
      refine hI.mono ?_
      rintro e w6 ⟨rfl, b6⟩
      have hb16 := below_then hb15 b6
      have p6 := held_on b6 p5
      refine ⟨_, rfl, ?_⟩
      unfold idx
      cases hi : s.specials.findIdx? (fun y => decide (y.1 < (T.length : Int))) with
      | some i =>
        refine CondP.yes (by simp) ?_
        exact fail (2, i, 4) w6 (by rw [buildV, hl]; simp only [hm, hi]) (show (4 : Int) ≠ 0 by decide) hb16
      | none =>
        refine CondP.no (by simp) ?_
        have h6 := h.on hb16
        have hB := boundNew_spec w6 x.s4.a x.s5.a x.s4.c x.s5.c s.classes s.joins h6.r4 h6.r5 hs.2.2.2.1 hs.2.2.2.2 okc okj
        rw [← h.n4, ← h.n5] at hB
        refine ⟨_, _, _, by rw [ptr_add0 _ _ p6]; rfl, _, _, _, by rw [ptr_add0 _ _ p6]; rfl, ?_⟩
        refine hB.mono ?_
        rintro e w7 ⟨bp, rfl, hBd, b7, _⟩
        refine ⟨_, _, rfl, CondP.no rfl ?_⟩
        intro w8 hw8
        have b8 : Below w7.heap.size w7 w8 := by subst hw8; exact drew_on w7
        have b48 : Below w4.heap.size w4 w8 := below_then b5 (below_then b6 (below_then b7 b8))
        have p8 := held_on b48 p4
        have a8 := held_on b48 a4
        have hb18 := below_then hb14 b48
        have ptr8 : ∀ {w' : World}, w'.heap[w2.heap.size]? = some (.cells #[.pointer (some ⟨tp, 0, none⟩)] 142 (0, 0)) → w'.cell? (nb w2) = some (.pointer (some ⟨tp, 0, none⟩)) := fun hh => by
          have := ptr_add0 _ _ hh 0
          rw [add_zero] at this
          exact this
        refine ⟨_, _, _, _, _, _, _, _, _, _, _, _, _, _, _, _, agg_cells p8, _, ptr8 a8, ?_⟩
        refine (copied_spec w8 x s (h.on hb18) hs).mono ?_
        rintro e w9 ⟨x', rfl, hx', b9⟩
        refine ⟨_, _, _, _, _, _, _, _, _, _, _, _, _, _, _, _, rfl, ⟨ptr8 (held_on b9 a8), trivial⟩, ?_⟩
        rintro w10 rfl
        have b10 := below_alloc w9 (.cells (vocCells x' tp bp mp 0 ⟨none, 0, 0⟩ 0) tVocab)
        have b19 := below_then hb18 b9
        refine ⟨below_then b19 b10, ?_⟩
        have hbv : buildV s = .ok T := by rw [buildV, hl]; simp only [hm, hi]
        rw [hbv]
        refine ⟨w9.heap.size, rfl, ⟨w9, x', tp, bp, mp, 0, ⟨none, 0, 0⟩, 0, ⟨⟨hx', ?_, hok, ?_, ?_, hright, ?_, ?_⟩, b10, Nat.le_refl _, alloc_new _ _, .inl ⟨rfl, rfl⟩⟩⟩, b19.size⟩
        · exact (hT4.on b48).on b9
        · exact (hBd.on b8).on b9
        · exact ((((hMk.is).on b6).on b7).on b8).on b9
        · intro y hy
          have := List.findIdx?_eq_none_iff.1 hi y hy
          have := of_decide_eq_false this
          omega
        · have := markErr_nodup (ys := []) hm (by simp)
          simpa using this
def NewVPost (w : World) (s : SpecV) (v : Value) (w' : World) : Prop := Below w.heap.size w w' ∧ if s.right = true then (match buildV s with
  | .error q => v = .tuple #[.pointer none, .int .i64 q.2.1, .int .i64 q.2.2] ∧ q.2.2 ≠ 0
  | .ok T => ∃ p, v = .tuple #[.pointer (some ⟨p, 0, none⟩), .int .i64 0, .int .i64 0] ∧ VocIs w' p s T ∧ w.heap.size ≤ p) else v = .tuple #[.pointer none, .int .i64 0, .int .i64 1]
theorem vocabNew_spec (w : World) (x : SpecW) (s : SpecV) (h : SpecAt w x s) :
    Calls Tryz.prog 53 #[x.v] w fun e w' => ∃ v, e = .returned v ∧ NewVPost w s v w' := by
  refine vc53_calls x.ranked x.s1.a x.s1.n x.s1.c x.s2.a x.s2.n x.s2.c x.s3.a x.s3.n x.s3.c x.s4.a x.s4.n x.s4.c x.s5.a x.s5.n x.s5.c w (NewVPost w s) ?_
  intro w1 hw1
  have hb1 : Below w.heap.size w w1 := by subst hw1; exact below_alloc _ _
  have p1 : w1.heap[w.heap.size]? = some (.cells x.cells tSpec (0, 0)) := by subst hw1; exact alloc_new _ _
  have h1 := h.on hb1
  refine ⟨_, _, _, _, _, _, _, _, _, _, _, _, _, _, _, _, agg_cells p1, ?_⟩
  refine (Right_spec x s w1 h1).mono ?_
  rintro e w2 ⟨rfl, b2⟩
  have hb2 := below_then hb1 b2
  refine ⟨_, rfl, CondP.mk (fun h0 => ?_) fun h0 => ?_⟩
  · have h0 : s.right = false := by simpa using h0
    refine ⟨hb2, ?_⟩
    rw [if_neg (by rw [h0]; simp)]
  · have h0 : s.right = true := by simpa using h0
    have p2 := held_on b2 p1
    refine ⟨_, _, _, _, _, _, _, _, _, _, _, _, _, _, _, _, agg_cells p2, ?_⟩
    refine (build_spec w2 x s (h.on hb2) h0).mono ?_
    rintro e w3 ⟨v, rfl, b3, hp⟩
    have hb3 := below_then hb2 b3
    cases hx : buildV s with
    | error q =>
      rw [hx] at hp
      obtain ⟨rfl, hq⟩ := hp
      refine ⟨_, _, _, _, rfl, hb3, ?_⟩
      rw [if_pos h0, hx]
      exact ⟨rfl, hq⟩
    | ok T =>
      rw [hx] at hp
      obtain ⟨p, rfl, hV, hpl⟩ := hp
      refine ⟨_, _, _, _, rfl, hb3, ?_⟩
      rw [if_pos h0, hx]
      exact ⟨p, rfl, hV, by have := hb2.size; omega⟩
end Go.Proofs.YtpklkijdlnioaaaGreat.Eng
