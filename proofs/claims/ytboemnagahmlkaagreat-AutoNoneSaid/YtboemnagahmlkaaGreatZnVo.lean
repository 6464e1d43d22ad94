/- Vocabularies: what they are, and how they are made, walked by the engine. -/
import Derived.Test.YtboemnagahmlkaaGreatZnCh
import Derived.Laws.MakeOwn
import Derived.Tactics
import Derived.Tactics2
import Derived.Defers
import Derived.Laws.Pointers
import Derived.Laws.LoneSync
import Derived.RegionTactic
import Derived.RegionCalls
import Derived.ChangeAlike
import Derived.Test.YtboemnagahmlkaaGreatZnBd
import Derived.Test.YtboemnagahmlkaaGreatZnTab
set_option linter.unusedVariables false
set_option linter.unusedSimpArgs false
set_option maxRecDepth 100000
namespace Go.Proofs.YtboemnagahmlkaaGreat.Eng
open Go Go.RowKit
abbrev tVocab : TypeId := 199
abbrev tBool : TypeId := 4
/-- Is a token made of its bytes, within one piece? -/
def aloneT (s : SpecV) (T : List Ent) (i : Nat) : Bool := decide (encAll T (bytesOf T (i : Int)) = [(i : Int)]) && wholeB (cutB s.classes s.joins) (bytesOf T (i : Int))
def aloneL (s : SpecV) (T : List Ent) : List Bool := (List.range T.length).map (aloneT s T)
def encB1 (b : Bool) : List Value := [.bool b]
/-- A vocabulary's parts, as they lie below it. -/
structure VocParts (w : World) (s : SpecV) (T : List Ent) (x : SpecW) (tp bp mp : Nat) : Prop where
  spec : SpecAt w x s
  tab : TabIs w tp T
  ok : TOk T
  bound : BdIs w bp s.classes s.joins
  marks : MkIs w mp s.specials
  right : s.right = true
  ids : ∀ y ∈ s.specials, (T.length : Int) ≤ y.1
  nodup : (s.specials.map (·.1)).Nodup
theorem VocParts.on {w w' : World} {s : SpecV} {T : List Ent} {x : SpecW} {tp bp mp : Nat} (h : VocParts w s T x tp bp mp) (hb : Below w.heap.size w w') : VocParts w' s T x tp bp mp :=
  ⟨h.spec.on hb, h.tab.on hb, h.ok, h.bound.on hb, h.marks.on hb, h.right, h.ids, h.nodup⟩
abbrev vocCells (x : SpecW) (tp bp mp : Nat) (d : Int) (l : Sl) (uses : Int) : Array Value := #[.bool x.ranked, x.s1.v, x.s2.v, x.s3.v, x.s4.v, x.s5.v, .pointer (some ⟨tp, 0, none⟩), .pointer (some ⟨bp, 0, none⟩), .pointer (some ⟨mp, 0, none⟩), .int .u32 d, .int .i32 0, .int .u32 0, l.v, .int .i64 uses]
/-- A vocabulary in memory; 'd': whether it was found out which tokens are made of their bytes. -/
structure VocRaw (w : World) (v : Nat) (s : SpecV) (T : List Ent) (w0 : World) (x : SpecW) (tp bp mp : Nat) (d : Int) (l : Sl) (uses : Int) : Prop where
  parts : VocParts w0 s T x tp bp mp
  below : Below w0.heap.size w0 w
  lt : w0.heap.size ≤ v
  blk : w.heap[v]? = some (.cells (vocCells x tp bp mp d l uses) tVocab (0, 0))
  once : (d = 0 ∧ l = ⟨none, 0, 0⟩) ∨ (d = 1 ∧ l.n = T.length ∧ w.ownsRow (v + 1) tBool 1 l.v l.n ((aloneL s T).flatMap encB1))
def VocIs (w : World) (v : Nat) (s : SpecV) (T : List Ent) : Prop := ∃ w0 x tp bp mp d l uses, VocRaw w v s T w0 x tp bp mp d l uses
theorem VocRaw.on {w w' : World} {v : Nat} {s : SpecV} {T : List Ent} {w0 : World} {x : SpecW} {tp bp mp : Nat} {d : Int} {l : Sl} {uses : Int} (h : VocRaw w v s T w0 x tp bp mp d l uses) (hb : Below w.heap.size w w') : VocRaw w' v s T w0 x tp bp mp d l uses :=
  ⟨h.parts, h.below.trans (hb.mono h.below.size), h.lt, held_on hb h.blk, h.once.imp id fun ⟨a, b, c⟩ => ⟨a, b, own_on c hb⟩⟩
theorem VocIs.on {w w' : World} {v : Nat} {s : SpecV} {T : List Ent} (h : VocIs w v s T) (hb : Below w.heap.size w w') : VocIs w' v s T := by
  obtain ⟨w0, x, tp, bp, mp, d, l, uses, h⟩ := h
  exact ⟨w0, x, tp, bp, mp, d, l, uses, h.on hb⟩
theorem VocRaw.now {w : World} {v : Nat} {s : SpecV} {T : List Ent} {w0 : World} {x : SpecW} {tp bp mp : Nat} {d : Int} {l : Sl} {uses : Int} (h : VocRaw w v s T w0 x tp bp mp d l uses) : VocParts w s T x tp bp mp := h.parts.on h.below
/-- All but the vocabulary's own block stays. -/
structure Touch (v : Nat) (w w' : World) : Prop where
  os : w'.os = w.os
  tape : w'.tape = w.tape
  output : w'.output = w.output
  size : w.heap.size ≤ w'.heap.size
  block : ∀ k, k < w.heap.size → k ≠ v → w'.heap[k]? = w.heap[k]?
theorem Touch.of_below {v : Nat} {w w' : World} (h : Below w.heap.size w w') : Touch v w w' := ⟨h.os, h.tape, h.output, h.size, fun k hk _ => h.block k hk⟩
theorem Touch.trans {v : Nat} {a b c : World} (h : Touch v a b) (k : Touch v b c) : Touch v a c :=
  ⟨k.os.trans h.os, k.tape.trans h.tape, k.output.trans h.output, Nat.le_trans h.size k.size, fun i hi hv => (k.block i (Nat.lt_of_lt_of_le hi h.size) hv).trans (h.block i hi hv)⟩
theorem Touch.below {v B : Nat} {a b : World} (h : Touch v a b) (hv : B ≤ v) (hB : B ≤ a.heap.size) : Below B a b := ⟨h.os, h.tape, h.output, h.size, fun k hk => h.block k (by omega) (by omega)⟩
theorem Touch.held {v : Nat} {a b : World} (h : Touch v a b) {k : Nat} (hk : k ≠ v) {o : Obj} (ho : a.heap[k]? = some o) : b.heap[k]? = some o := by
  rw [h.block k (Array.getElem?_eq_some_iff.1 ho).1 hk, ho]
theorem Touch.own {v : Nat} {a b : World} (h : Touch v a b) {B : Nat} {e : TypeId} {sz n : Nat} {u : Value} {xs : List Value} (ho : a.ownsRow B e sz u n xs) (hne : u.ownBlock ≠ some v) : b.ownsRow B e sz u n xs :=
  own_same ho fun k hk => h.block k (own_lt ho k hk).2 fun e => hne (by rw [hk, e])

theorem buildIs_spec (w : World) (cb : Nat) (tp : Nat) (T : List Ent) (hT : TabIs w tp T) (y : Int × Bs) (hcb : cb < w.heap.size) (hc : w.cell? ⟨cb, 0, none⟩ = some (.pointer (some ⟨tp, 0, none⟩))) :
    Calls Tryz.prog 150 #[.agg #[.int .i64 y.1, .string (str y.2)], .pointer (some ⟨cb, 0, none⟩)] w fun e w' => e = .returned (.bool (decide (y.1 < (T.length : Int)))) ∧ Below w.heap.size w w' := by
  refine calls_ret (vc150_calls y.1 (str y.2) (some ⟨cb, 0, none⟩) w (fun v w' => v = .bool (decide (y.1 < (T.length : Int))) ∧ Below w.heap.size w w') ?_) (by rintro v w' ⟨rfl, h⟩; exact ⟨rfl, h⟩)
  intro w1 hw1 w2 hw2
  have hb2 : Below w.heap.size w w2 := by subst hw2; subst hw1; exact (below_alloc _ _).drew
  have hl2 : w2.heap[w.heap.size]? = some (.cells #[.int .i64 y.1, .string (str y.2)] tSp (0, 0)) := by subst hw2; subst hw1; exact alloc_new _ _
  refine ⟨_, ptr_add0 _ _ hl2 0, NilC.mk _ rfl ⟨_, by rw [hb2.cell hcb]; exact hc, ?_⟩⟩
  refine (tokLen_spec w2 tp T (hT.on hb2)).mono ?_
  rintro e w3 ⟨rfl, hw⟩
  subst hw
  exact ⟨_, rfl, ⟨ptr_add0 _ _ hl2 0, trivial⟩, rfl, hb2⟩
def buildV (s : SpecV) : Except (Int × Nat × Int) (List Ent) := match loadT s with
  | .error q => .error (1, q.1, q.2)
  | .ok T => match markErr [] 0 s.specials with
    | some q => .error (2, q.1, q.2)
    | none => match s.specials.findIdx? (fun y => decide (y.1 < (T.length : Int))) with
      | some i => .error (2, i, 4)
      | none => .ok T
def BuildPost (w : World) (s : SpecV) (v : Value) (w' : World) : Prop := Below w.heap.size w w' ∧ match buildV s with
  | .error q => v = .tuple #[.pointer none, .int .i64 q.1, .int .i64 q.2.1, .int .i64 q.2.2] ∧ q.2.2 ≠ 0
  | .ok T => ∃ p, v = .tuple #[.pointer (some ⟨p, 0, none⟩), .int .i64 0, .int .i64 0, .int .i64 0] ∧ VocIs w' p s T ∧ w.heap.size ≤ p
theorem markErr_ne {xs : List (Int × Bs)} : ∀ {ys : List (Int × Bs)} {i : Nat} {q : Nat × Int}, markErr ys i xs = some q → q.2 ≠ 0 := by
  induction xs with
  | nil => intro ys i q h; cases h
  | cons x xs ih =>
    intro ys i q h
    rw [markErr] at h
    split at h
    · exact ih h
    · rename_i hne
      cases h
      exact hne
theorem markErr_nodup {xs : List (Int × Bs)} : ∀ {ys : List (Int × Bs)} {i : Nat}, markErr ys i xs = none → (ys.map (·.1)).Nodup → ((ys ++ xs).map (·.1)).Nodup := by
  induction xs with
  | nil => intro ys i _ h; rw [List.append_nil]; exact h
  | cons x xs ih =>
    intro ys i h hn
    rw [markErr] at h
    split at h
    · rename_i hz
      have := ih h (by
        rw [List.map_append, List.nodup_append]
        refine ⟨hn, by simp, fun a ha b hb => ?_⟩
        simp at hb
        subst hb
        rintro rfl
        unfold markAdd at hz
        split at hz
        · omega
        · split at hz
          · omega
          · split at hz
            · omega
            · rename_i h3
              exact h3 (.inl ha))
      simpa using this
    · cases h
theorem right_ok {s : SpecV} (h : s.right = true) : (∀ c ∈ s.classes, classOk c = true) ∧ (∀ j ∈ s.joins, joinOk j = true) ∧ (∀ t ∈ s.tokens, t.length ≤ 100000) := by
  obtain ⟨_, _, h3, _, h5, h6⟩ := right_parts h
  simp only [allOk, Bool.and_eq_true, List.all_eq_true] at h3 h5 h6
  refine ⟨h5.2, h6.2, fun t ht => ?_⟩
  have := of_decide_eq_true (by simpa [thingOk] using h3.2 t ht : decide _ = true)
  omega
theorem build_spec (w : World) (x : SpecW) (s : SpecV) (h : SpecAt w x s) (hright : s.right = true) :
    Calls Tryz.prog 106 #[x.v] w fun e w' => ∃ v, e = .returned v ∧ BuildPost w s v w' := by
  refine vc106_calls x.ranked x.s1.a x.s1.n x.s1.c x.s2.a x.s2.n x.s2.c x.s3.a x.s3.n x.s3.c x.s4.a x.s4.n x.s4.c x.s5.a x.s5.n x.s5.c w (BuildPost w s) ?_
  intro w1 hw1
  have hs := right_small hright
  obtain ⟨okc, okj, okt⟩ := right_ok hright
  have hb1 : Below w.heap.size w w1 := by subst hw1; exact below_alloc _ _
  have hz1 : w1.heap.size = w.heap.size + 1 := by subst hw1; exact alloc_size _ _
  have p1 : w1.heap[w.heap.size]? = some (.cells x.cells tSpec (0, 0)) := by subst hw1; exact alloc_new _ _
  have h1 := h.on hb1
  refine ⟨_, _, _, _, _, _, _, _, _, _, _, _, _, _, _, _, agg_cells p1, ?_⟩
  refine (load_spec w1 x s h1 hs okt).mono ?_
  rintro e w2 ⟨v, rfl, hb2, hload⟩
  have hb12 := below_then hb1 hb2
  have p2 := held_on hb2 p1
  have hz2 := hb2.size
  have store : ∀ (r0 : Option Addr) (w3 w4 : World), w3 = w2.alloc (.cells #[Value.pointer none] 151) → w4 = w3.setCell (nb w2) (.pointer r0) → w4.heap[w2.heap.size]? = some (.cells #[.pointer r0] 151 (0, 0)) ∧ Below w2.heap.size w2 w4 := by
    intro r0 w3 w4 hw3 hw4
    have a3 : w3.heap[w2.heap.size]? = some (.cells #[Value.pointer none] 151 (0, 0)) := by subst hw3; exact alloc_new _ _
    have b3 : Below w2.heap.size w2 w3 := by subst hw3; exact below_alloc _ _
    have hp := heap_put (j := 0) a3 (.pointer r0)
    have bp := below_put (j := 0) b3 (Nat.le_refl _) (.pointer r0)
    rw [add_zero] at hp bp
    subst hw4
    exact ⟨hp, bp⟩
  have slot : ∀ (w3 : World), w3 = w2.alloc (.cells #[Value.pointer none] 151) → (∃ u, w3.cell? (nb w2) = some u) ∧ w3.frozen? (nb w2) = false := by
    intro w3 hw3
    subst hw3
    have a3 := alloc_new w2 (.cells #[Value.pointer none] 151)
    refine ⟨⟨.pointer none, by rw [cell_new]; rfl⟩, frozen_heap a3⟩
  have fail : ∀ (q : Int × Nat × Int) (w' : World), buildV s = .error q → q.2.2 ≠ 0 → Below w.heap.size w w' → BuildPost w s (.tuple #[.pointer none, .int .i64 q.1, .int .i64 q.2.1, .int .i64 q.2.2]) w' := by
    intro q w' hq hne hb
    refine ⟨hb, ?_⟩
    rw [hq]
    exact ⟨rfl, hne⟩
  cases hl : loadT s with
  | error q =>
    rw [hl] at hload
    obtain ⟨rfl, hq⟩ := hload
    refine ⟨_, _, _, rfl, ?_⟩
    intro w3 hw3
    obtain ⟨u3, f3⟩ := slot w3 hw3
    refine ⟨rfl, u3, f3, ?_⟩
    intro w4 hw4
    obtain ⟨a4, b4⟩ := store none w3 w4 hw3 hw4
    refine CondP.yes (by simpa using hq) ?_
    exact fail (1, q.1, q.2) w4 (by rw [buildV, hl]) hq (below_then hb12 b4)
  | ok T =>
    rw [hl] at hload
    obtain ⟨tp, rfl, hT, hok⟩ := hload
    refine ⟨_, _, _, rfl, ?_⟩
    intro w3 hw3
    obtain ⟨u3, f3⟩ := slot w3 hw3
    refine ⟨rfl, u3, f3, ?_⟩
    intro w4 hw4
    obtain ⟨a4, b4⟩ := store (some ⟨tp, 0, none⟩) w3 w4 hw3 hw4
    have hb14 := below_then hb12 b4
    have hz4 := b4.size
    have p4 := held_on b4 p2
    have hT4 := hT.on b4
    have h4 := h.on hb14
    refine CondP.no rfl ⟨_, _, _, by rw [ptr_add0 _ _ p4]; rfl, ?_⟩
    have hM := markNew_spec w4 x.s3.a x.s3.c s.specials h4.r3 (by have := hs.2.2.1; omega)
    rw [← h.n3] at hM
    refine hM.mono ?_
    rintro e w5 ⟨v, rfl, b5, hmark⟩
    have hb15 := below_then hb14 b5
    have p5 := held_on b5 p4
    cases hm : markErr [] 0 s.specials with
    | some q =>
      rw [hm] at hmark
      subst hmark
      have hne := markErr_ne hm
      refine ⟨_, _, _, rfl, CondP.yes (by simpa using hne) ?_⟩
      exact fail (2, q.1, q.2) w5 (by rw [buildV, hl]; simp only [hm]) hne hb15
    | none =>
      rw [hm] at hmark
      obtain ⟨mp, hv, hMk⟩ := hmark
      subst hv
      refine ⟨_, _, _, rfl, CondP.no rfl ⟨_, _, _, by rw [ptr_add0 _ _ p5]; rfl, ?_⟩⟩
      have hI := indexS_spec x.s3.a x.s3.c s.specials (.func (.func 150) #[] #[.pointer (some (nb w2))]) (fun y => decide (y.1 < (T.length : Int))) w5 (h.on hb15).r3 (by have := hs.2.2.1; omega) (by
        intro y hy w6 hb6
        refine callG_of (by kernel_rfl) ?_
        refine (buildIs_spec w6 w2.heap.size tp T ((hT4.on b5).on hb6) y (by have := b5.size; have := hb6.size; have := (Array.getElem?_eq_some_iff.1 a4).1; omega) ?_)
        have := ptr_add0 _ _ (held_on hb6 (held_on b5 a4)) 0
        rw [add_zero] at this
        exact this)
      rw [← h.n3] at hI
      refine hI.mono ?_
      rintro e w6 ⟨rfl, b6⟩
      have hb16 := below_then hb15 b6
      have p6 := held_on b6 p5
      refine ⟨_, rfl, ?_⟩
      unfold idx
      cases hi : s.specials.findIdx? (fun y => decide (y.1 < (T.length : Int))) with
      | some i =>
        refine CondP.yes (by simp) ?_
        exact fail (2, i, 4) w6 (by rw [buildV, hl]; simp only [hm, hi]) (show (4 : Int) ≠ 0 by decide) hb16
      | none =>
        refine CondP.no (by simp) ?_
        have h6 := h.on hb16
        have hB := boundNew_spec w6 x.s4.a x.s5.a x.s4.c x.s5.c s.classes s.joins h6.r4 h6.r5 hs.2.2.2.1 hs.2.2.2.2 okc okj
        rw [← h.n4, ← h.n5] at hB
        refine ⟨_, _, _, by rw [ptr_add0 _ _ p6]; rfl, _, _, _, by rw [ptr_add0 _ _ p6]; rfl, ?_⟩
        refine hB.mono ?_
        rintro e w7 ⟨bp, rfl, hBd, b7, _⟩
        refine ⟨_, _, rfl, CondP.no rfl ?_⟩
        intro w8 hw8
        have b8 : Below w7.heap.size w7 w8 := by subst hw8; exact drew_on w7
        have b48 : Below w4.heap.size w4 w8 := below_then b5 (below_then b6 (below_then b7 b8))
        have p8 := held_on b48 p4
        have a8 := held_on b48 a4
        have hb18 := below_then hb14 b48
        have ptr8 : ∀ {w' : World}, w'.heap[w2.heap.size]? = some (.cells #[.pointer (some ⟨tp, 0, none⟩)] 151 (0, 0)) → w'.cell? (nb w2) = some (.pointer (some ⟨tp, 0, none⟩)) := fun hh => by
          have := ptr_add0 _ _ hh 0
          rw [add_zero] at this
          exact this
        refine ⟨_, _, _, _, _, _, _, _, _, _, _, _, _, _, _, _, agg_cells p8, _, ptr8 a8, ?_⟩
        refine (copied_spec w8 x s (h.on hb18) hs).mono ?_
        rintro e w9 ⟨x', rfl, hx', b9⟩
        refine ⟨_, _, _, _, _, _, _, _, _, _, _, _, _, _, _, _, rfl, ⟨ptr8 (held_on b9 a8), trivial⟩, ?_⟩
        rintro w10 rfl
        have b10 := below_alloc w9 (.cells (vocCells x' tp bp mp 0 ⟨none, 0, 0⟩ 0) tVocab)
        have b19 := below_then hb18 b9
        refine ⟨below_then b19 b10, ?_⟩
        have hbv : buildV s = .ok T := by rw [buildV, hl]; simp only [hm, hi]
        rw [hbv]
        refine ⟨w9.heap.size, rfl, ⟨w9, x', tp, bp, mp, 0, ⟨none, 0, 0⟩, 0, ⟨⟨hx', ?_, hok, ?_, ?_, hright, ?_, ?_⟩, b10, Nat.le_refl _, alloc_new _ _, .inl ⟨rfl, rfl⟩⟩⟩, b19.size⟩
        · exact (hT4.on b48).on b9
        · exact (hBd.on b8).on b9
        · exact ((((hMk.is).on b6).on b7).on b8).on b9
        · intro y hy
          have := List.findIdx?_eq_none_iff.1 hi y hy
          have := of_decide_eq_false this
          omega
        · have := markErr_nodup (ys := []) hm (by simp)
          simpa using this
def NewVPost (w : World) (s : SpecV) (v : Value) (w' : World) : Prop := Below w.heap.size w w' ∧ if s.right = true then (match buildV s with
  | .error q => v = .tuple #[.pointer none, .int .i64 q.2.1, .int .i64 q.2.2] ∧ q.2.2 ≠ 0
  | .ok T => ∃ p, v = .tuple #[.pointer (some ⟨p, 0, none⟩), .int .i64 0, .int .i64 0] ∧ VocIs w' p s T ∧ w.heap.size ≤ p) else v = .tuple #[.pointer none, .int .i64 0, .int .i64 1]
theorem vocabNew_spec (w : World) (x : SpecW) (s : SpecV) (h : SpecAt w x s) :
    Calls Tryz.prog 64 #[x.v] w fun e w' => ∃ v, e = .returned v ∧ NewVPost w s v w' := by
  refine vc64_calls x.ranked x.s1.a x.s1.n x.s1.c x.s2.a x.s2.n x.s2.c x.s3.a x.s3.n x.s3.c x.s4.a x.s4.n x.s4.c x.s5.a x.s5.n x.s5.c w (NewVPost w s) ?_
  intro w1 hw1
  have hb1 : Below w.heap.size w w1 := by subst hw1; exact below_alloc _ _
  have p1 : w1.heap[w.heap.size]? = some (.cells x.cells tSpec (0, 0)) := by subst hw1; exact alloc_new _ _
  have h1 := h.on hb1
  refine ⟨_, _, _, _, _, _, _, _, _, _, _, _, _, _, _, _, agg_cells p1, ?_⟩
  refine (Right_spec x s w1 h1).mono ?_
  rintro e w2 ⟨rfl, b2⟩
  have hb2 := below_then hb1 b2
  refine ⟨_, rfl, CondP.mk (fun h0 => ?_) fun h0 => ?_⟩
  · have h0 : s.right = false := by simpa using h0
    refine ⟨hb2, ?_⟩
    rw [if_neg (by rw [h0]; simp)]
  · have h0 : s.right = true := by simpa using h0
    have p2 := held_on b2 p1
    refine ⟨_, _, _, _, _, _, _, _, _, _, _, _, _, _, _, _, agg_cells p2, ?_⟩
    refine (build_spec w2 x s (h.on hb2) h0).mono ?_
    rintro e w3 ⟨v, rfl, b3, hp⟩
    have hb3 := below_then hb2 b3
    cases hx : buildV s with
    | error q =>
      rw [hx] at hp
      obtain ⟨rfl, hq⟩ := hp
      refine ⟨_, _, _, _, rfl, hb3, ?_⟩
      rw [if_pos h0, hx]
      exact ⟨rfl, hq⟩
    | ok T =>
      rw [hx] at hp
      obtain ⟨p, rfl, hV, hpl⟩ := hp
      refine ⟨_, _, _, _, rfl, hb3, ?_⟩
      rw [if_pos h0, hx]
      exact ⟨p, rfl, hV, by have := hb2.size; omega⟩
end Go.Proofs.YtboemnagahmlkaaGreat.Eng

/- Vocabularies: what is asked of them, walked by the engine. -/
set_option linter.unusedVariables false
set_option linter.unusedSimpArgs false
set_option maxRecDepth 100000
namespace Go.Proofs.YtboemnagahmlkaaGreat.Eng
open Go Go.RowKit
/-- A vocabulary's block, whatever its once says. -/
structure VBlk (w : World) (v : Nat) (c : Array Value) (tp bp mp : Nat) : Prop where
  blk : w.heap[v]? = some (.cells c tVocab (0, 0))
  size : c.size = 14
  c6 : c[6]? = some (.pointer (some ⟨tp, 0, none⟩))
  c7 : c[7]? = some (.pointer (some ⟨bp, 0, none⟩))
  c8 : c[8]? = some (.pointer (some ⟨mp, 0, none⟩))
theorem VocRaw.vblk {w : World} {v : Nat} {s : SpecV} {T : List Ent} {w0 : World} {x : SpecW} {tp bp mp : Nat} {d : Int} {l : Sl} {uses : Int} (h : VocRaw w v s T w0 x tp bp mp d l uses) : VBlk w v (vocCells x tp bp mp d l uses) tp bp mp := ⟨h.blk, rfl, rfl, rfl, rfl⟩
theorem VBlk.on {w w' : World} {v : Nat} {c : Array Value} {tp bp mp : Nat} (h : VBlk w v c tp bp mp) (hb : Below w.heap.size w w') : VBlk w' v c tp bp mp := ⟨held_on hb h.blk, h.size, h.c6, h.c7, h.c8⟩
theorem vcell (w : World) (v : Nat) {c : Array Value} (h : w.heap[v]? = some (.cells c tVocab (0, 0))) (a b : Nat) : w.cell? (((⟨v, 0, none⟩ : Addr).add a).add b) = c[a + b]? := by rw [Addr.add_add]; exact ptr_add0 _ _ h _
theorem vocTable_spec {w : World} {v : Nat} {c : Array Value} {tp bp mp : Nat} (h : VBlk w v c tp bp mp) : Calls Tryz.prog 94 #[.pointer (some ⟨v, 0, none⟩)] w fun e w' => e = .returned (.pointer (some ⟨tp, 0, none⟩)) ∧ w' = w := by
  refine calls_ret (vc94_calls (some ⟨v, 0, none⟩) w (fun u w' => u = .pointer (some ⟨tp, 0, none⟩) ∧ w' = w) ?_) (by rintro v w' ⟨rfl, h⟩; exact ⟨rfl, h⟩)
  exact CondP.no rfl (NilC.mk _ rfl ⟨_, by rw [vcell w v h.blk]; exact h.c6, rfl, rfl⟩)
theorem vocBounds_spec {w : World} {v : Nat} {c : Array Value} {tp bp mp : Nat} (h : VBlk w v c tp bp mp) : Calls Tryz.prog 190 #[.pointer (some ⟨v, 0, none⟩)] w fun e w' => e = .returned (.pointer (some ⟨bp, 0, none⟩)) ∧ w' = w := by
  refine calls_ret (vc190_calls (some ⟨v, 0, none⟩) w (fun u w' => u = .pointer (some ⟨bp, 0, none⟩) ∧ w' = w) ?_) (by rintro v w' ⟨rfl, h⟩; exact ⟨rfl, h⟩)
  exact CondP.no rfl (NilC.mk _ rfl ⟨_, by rw [vcell w v h.blk]; exact h.c7, rfl, rfl⟩)
theorem vocMarks_spec {w : World} {v : Nat} {c : Array Value} {tp bp mp : Nat} (h : VBlk w v c tp bp mp) : Calls Tryz.prog 126 #[.pointer (some ⟨v, 0, none⟩)] w fun e w' => e = .returned (.pointer (some ⟨mp, 0, none⟩)) ∧ w' = w := by
  refine calls_ret (vc126_calls (some ⟨v, 0, none⟩) w (fun u w' => u = .pointer (some ⟨mp, 0, none⟩) ∧ w' = w) ?_) (by rintro v w' ⟨rfl, h⟩; exact ⟨rfl, h⟩)
  exact CondP.no rfl (NilC.mk _ rfl ⟨_, by rw [vcell w v h.blk]; exact h.c8, rfl, rfl⟩)
theorem vocSize_spec {w : World} {v : Nat} {c : Array Value} {tp bp mp : Nat} (h : VBlk w v c tp bp mp) {T : List Ent} (hT : TabIs w tp T) : Calls Tryz.prog 125 #[.pointer (some ⟨v, 0, none⟩)] w fun e w' => e = .returned (.int .i64 T.length) ∧ w' = w := by
  refine calls_ret (vc125_calls (some ⟨v, 0, none⟩) w (fun u w' => u = .int .i64 T.length ∧ w' = w) ?_) (by rintro v w' ⟨rfl, h⟩; exact ⟨rfl, h⟩)
  refine (vocTable_spec h).mono ?_
  rintro e w1 ⟨rfl, hw⟩
  subst hw
  refine ⟨_, rfl, (tokLen_spec w1 tp T hT).mono ?_⟩
  rintro e w2 ⟨rfl, hw⟩
  subst hw
  exact ⟨_, rfl, rfl, rfl⟩
theorem VocParts.few {w : World} {s : SpecV} {T : List Ent} {x : SpecW} {tp bp mp : Nat} (h : VocParts w s T x tp bp mp) : s.specials.length ≤ 1000000 := (right_small h.right).2.2.1
/-- Is there a token? -/
def hasV2 (s : SpecV) (T : List Ent) (id : Int) : Bool := decide (id ∈ s.specials.map (·.1) ∨ inTab T id)
theorem infoBool : ∃ i, Tryz.prog.info? tBool = some i ∧ i.zero = some (.bool false) ∧ i.size = 1 ∧ i.bytes = 1 := by
  have h : (Tryz.prog.info? tBool).map (fun i => (i.zero, i.size, i.bytes)) = some (some (.bool false), 1, 1) := by kernel_rfl
  obtain ⟨i, hi, he⟩ := Option.map_eq_some_iff.1 h
  simp only [Prod.mk.injEq] at he
  exact ⟨i, hi, he.1, he.2.1, he.2.2⟩
theorem run_makeBools (w : World) (n : Nat) (hn : n ≤ 1000000) : (Instr.makeSlice 72 (.int .i64 n) (.int .i64 n)).run Tryz.prog w = .ok (.slice (some (nb w)) n n) (w.alloc (.cells (Array.replicate n (.bool false)) tBool)) := by
  obtain ⟨i, hi, hz, hs, hb⟩ := infoBool
  have := Go.run_make (P := Tryz.prog) w 72 tBool i (.bool false) (by kernel_rfl) hi hz .i64 .i64 (n : Int) (n : Int) (by omega) (Int.le_refl _) (by rw [hb]; omega) (by omega)
  rw [this]
  congr 3
  rw [hs]
  apply Array.ext
  · rw [size_madeCells]
    simp
  · intro j h1 h2
    simp only [madeCells, Array.getElem_map, Array.getElem_range, Array.getElem_replicate]
    show (#[Value.bool false] : Array Value)[j % 1]! = _
    rw [Nat.mod_one]
    rfl
theorem aloneL_length (s : SpecV) (T : List Ent) : (aloneL s T).length = T.length := by simp [aloneL]
theorem aloneL_get (s : SpecV) (T : List Ent) {i : Nat} (hi : i < T.length) : (aloneL s T)[i]'(by rw [aloneL_length]; exact hi) = aloneT s T i := by simp [aloneL]
/-- What is found up to a place. -/
def foundL (s : SpecV) (T : List Ent) (i : Nat) : List Bool := (aloneL s T).take i ++ List.replicate (T.length - i) false
theorem foundL_length (s : SpecV) (T : List Ent) (i : Nat) (hi : i ≤ T.length) : (foundL s T i).length = T.length := by
  simp [foundL, aloneL_length]
  omega
theorem foundL_set (s : SpecV) (T : List Ent) (i : Nat) (hi : i < T.length) : (foundL s T i).set i (aloneT s T i) = foundL s T (i + 1) := by
  have hl : ((aloneL s T).take i).length = i := by simp [aloneL_length]; omega
  have ht : (aloneL s T).take (i + 1) = (aloneL s T).take i ++ [aloneT s T i] := by
    rw [List.take_add_one, List.getElem?_eq_getElem (by rw [aloneL_length]; exact hi), aloneL_get s T hi]
    rfl
  unfold foundL
  rw [List.set_append_right _ _ (by omega), hl, Nat.sub_self, ht, show T.length - i = (T.length - (i + 1)) + 1 by omega, List.replicate_succ, List.set_cons_zero]
  simp
theorem find_spec (w w0 : World) (v : Nat) (c : Array Value) (tp bp mp : Nat) (h : VBlk w v c tp bp mp) (s : SpecV) (T : List Ent) (x : SpecW) (hp : VocParts w0 s T x tp bp mp) (h0 : Below w0.heap.size w0 w) (hv : w0.heap.size ≤ v) :
    Calls Tryz.prog 134 #[.pointer (some ⟨v, 0, none⟩)] w fun e w' => e = .returned (.tuple #[]) ∧ ∃ l : Sl, w'.heap[v]? = some (.cells (c.setIfInBounds 12 l.v) tVocab (0, 0)) ∧ l.n = T.length ∧ w'.ownsRow w.heap.size tBool 1 l.v l.n ((aloneL s T).flatMap encB1) ∧ Touch v w w' := by
  refine calls_ret (vc134_calls (some ⟨v, 0, none⟩) w (fun u w' => u = .tuple #[] ∧ ∃ l : Sl, w'.heap[v]? = some (.cells (c.setIfInBounds 12 l.v) tVocab (0, 0)) ∧ l.n = T.length ∧ w'.ownsRow w.heap.size tBool 1 l.v l.n ((aloneL s T).flatMap encB1) ∧ Touch v w w') ?_) (by rintro v w' ⟨rfl, h⟩; exact ⟨rfl, h⟩)
  have hpn := hp.on h0
  refine (vocSize_spec h hpn.tab).mono ?_
  rintro e w1 ⟨rfl, hw⟩
  subst hw
  have hmost := hp.ok.most
  have hvl : v < w1.heap.size := (Array.getElem?_eq_some_iff.1 h.blk).1
  refine ⟨_, rfl, some (nb w1), T.length, T.length, _, run_makeBools w1 T.length (by omega), ?_⟩
  have hb2 := below_alloc w1 (.cells (Array.replicate T.length (.bool false)) tBool)
  have hblk2 := held_on hb2 h.blk
  have hz2 : (w1.alloc (.cells (Array.replicate T.length (Value.bool false)) tBool)).heap.size = w1.heap.size + 1 := alloc_size _ _
  have hown2 : (w1.alloc (.cells (Array.replicate T.length (.bool false)) tBool)).ownsRow w1.heap.size tBool 1 (.slice (some (nb w1)) T.length T.length) T.length ((foundL s T 0).flatMap encB1) := by
    have hf : (foundL s T 0).flatMap encB1 = List.replicate T.length (.bool false) := by
      simp [foundL, encB1, List.flatMap_replicate]
    rw [hf]
    refine ⟨by simp, .inr ⟨w1.heap.size, T.length, _, rfl, Nat.le_refl _, alloc_new _ _, Nat.le_refl _, by unfold maxLen; omega, by simp, by simp⟩⟩
  refine NilC.mk _ rfl ⟨rfl, ⟨_, by rw [vcell _ v hblk2, Array.getElem?_eq_getElem (by rw [h.size]; decide)]⟩, by rw [Addr.add_add]; exact frozen_put hblk2, ?_⟩
  intro w3 hw3
  rw [Addr.add_add] at hw3
  have hblk3 : w3.heap[v]? = some (.cells (c.setIfInBounds 12 (.slice (some (nb w1)) T.length T.length)) tVocab (0, 0)) := by subst hw3; exact heap_put hblk2 _
  have ht3 : Touch v w1 w3 := by
    refine (Touch.of_below hb2).trans ?_
    subst hw3
    exact ⟨rfl, rfl, rfl, by rw [size_setCell]; exact Nat.le_refl _, fun k _ hk => heap_setCell_ne (by rw [add_block]; exact hk)⟩
  have hown3 : w3.ownsRow w1.heap.size tBool 1 (.slice (some (nb w1)) T.length T.length) T.length ((foundL s T 0).flatMap encB1) := by
    subst hw3
    exact own_setCell hown2 _ (by rw [add_block]; intro e; have := Option.some.inj e; simp at this; omega)
  have hz3 : w3.heap.size = w1.heap.size + 1 := by subst hw3; rw [size_setCell]; exact hz2
  have g12 : ∀ {w' : World}, w'.heap[v]? = some (.cells (c.setIfInBounds 12 (.slice (some (nb w1)) T.length T.length)) tVocab (0, 0)) → w'.cell? (((⟨v, 0, none⟩ : Addr).add 9).add 3) = some (.slice (some (nb w1)) T.length T.length) := fun hh => by
    rw [vcell _ v hh, Array.getElem?_setIfInBounds_self_of_lt (by rw [h.size]; decide)]
  have gk : ∀ {w' : World}, w'.heap[v]? = some (.cells (c.setIfInBounds 12 (.slice (some (nb w1)) T.length T.length)) tVocab (0, 0)) → VBlk w' v (c.setIfInBounds 12 (.slice (some (nb w1)) T.length T.length)) tp bp mp := fun hh => ⟨hh, by simp [h.size], by rw [Array.getElem?_setIfInBounds_ne (by decide)]; exact h.c6, by rw [Array.getElem?_setIfInBounds_ne (by decide)]; exact h.c7, by rw [Array.getElem?_setIfInBounds_ne (by decide)]; exact h.c8⟩
  refine NilC.mk _ rfl ⟨_, _, _, g12 hblk3, ?_⟩
  intro I hI
  have key := climb2 (α := World) T.length (fun i w' => w'.heap[v]? = some (.cells (c.setIfInBounds 12 (.slice (some (nb w1)) T.length T.length)) tVocab (0, 0)) ∧ w'.ownsRow w1.heap.size tBool 1 (.slice (some (nb w1)) T.length T.length) T.length ((foundL s T i).flatMap encB1) ∧ Touch v w1 w') (fun i w' => I [.int .i64 (i : Int)] w') w3 ⟨hblk3, hown3, ht3⟩ ?_ ?_
  · exact key
  · rintro i hi ih w4 ⟨hblk4, hown4, ht4⟩
    have hB4 : Below w0.heap.size w0 w4 := h0.trans (ht4.below hv h0.size)
    have hp4 := hp.on hB4
    have hin : inTab T (i : Int) := ⟨by omega, by omega⟩
    refine hI _ _ (CondP.yes (by simp; omega) (NilC.mk _ rfl ⟨_, by rw [vcell _ v hblk4]; exact (gk hblk4).c6, ?_⟩))
    refine (tokBytes_spec w4 tp T hp4.tab (i : Int)).mono ?_
    rintro e w5 ⟨rfl, hw⟩
    subst hw
    rw [if_pos hin]
    have hshort : (bytesOf T (i : Int)).length ≤ 64 := by
      obtain ⟨y, hy, hyb⟩ := bytesOf_at hin
      rw [hyb]
      exact hp.ok.short y (List.mem_of_getElem? hy)
    refine ⟨_, _, rfl, NilC.mk _ rfl ⟨_, by rw [vcell _ v hblk4]; exact (gk hblk4).c6, ?_⟩⟩
    refine (encode_spec w5 tp T hp4.tab hp.ok.sound hp.ok.pos (bytesOf T (i : Int)) (by omega)).mono ?_
    rintro e w6 ⟨A, N, C, rfl, hown6, hN, hB6⟩
    refine ⟨A, N, C, rfl, ?_⟩
    intro w7 hw7
    have hB7 : Below w5.heap.size w5 w7 := by subst hw7; exact hB6.drew
    have hblk7 := held_on hB7 hblk4
    have hown7 := own_on hown4 hB7
    have henc7 : w7.ownsRow w5.heap.size tInt 1 (.slice A N C) N ((encAll T (bytesOf T (i : Int))).flatMap encInt) := by subst hw7; exact own_drew hown6
    have ht7 := ht4.trans (Touch.of_below hB7)
    -- the place is written
    have fin : ∀ (b : Bool) (w8 : World), b = aloneT s T i → Below w7.heap.size w7 w8 →
        NilC (some (nb w1)) (fun pa_20 =>
             (0 : Int) ≤ (i : Int) ∧ (i : Int) < ((T.length : Nat) : Int) ∧
             (Value.bool b).oneCell' = true ∧ (∃ u, w8.cell? (pa_20.add ((i : Int).toNat * 1)) = some u) ∧ w8.frozen? (pa_20.add ((i : Int).toNat * 1)) = false ∧
             ∀ w9 : World, w9 = (w8.setCell (pa_20.add ((i : Int).toNat * 1)) (Value.bool b)) →
             Ar .i64 ((i : Int) + 1) (fun n_21 => I [Value.int .i64 n_21] w9)) := by
      intro b w8 hb hB8
      have hblk8 := held_on hB8 hblk7
      have hown8 := own_on hown7 hB8
      have hget : (foundL s T i)[i]? = some false := by
        unfold foundL
        have hl : ((aloneL s T).take i).length = i := by simp [aloneL_length]; omega
        rw [List.getElem?_append_right (by omega), hl, Nat.sub_self, List.getElem?_replicate, if_pos (by omega)]
      obtain ⟨u, f, k⟩ := own_write (l := ⟨some (nb w1), T.length, T.length⟩) (enc := encB1) (sz := 1) (fun _ => rfl) (by decide) hown8 (foundL_length s T i (by omega)).symm rfl hget (k := 0) (by decide) b (.bool b) rfl
      rw [add_zero] at u f k
      refine NilC.mk _ rfl ⟨by omega, by omega, rfl, u, f, ?_⟩
      intro w9 hw9
      obtain ⟨r9, s9, z9, b9⟩ := k w9 hw9
      refine Ar.ok64 (by omega) (by omega) (ih w9 ⟨?_, ?_, ?_⟩)
      · rw [s9 v (by intro e; have := Option.some.inj e; simp at this; omega)]
        exact hblk8
      · rw [hb, foundL_set s T i hi] at r9
        exact r9
      · have t8 := ht7.trans (Touch.of_below hB8)
        have hbb := b9 w1.heap.size w1 (Nat.le_refl _)
        have ob : (Value.slice (some (nb w1)) T.length T.length).ownBlock = some w1.heap.size := rfl
        refine ⟨?_, ?_, ?_, by rw [z9]; exact t8.size, fun j hj hjv => ?_⟩
        · subst hw9; exact t8.os
        · subst hw9; exact t8.tape
        · subst hw9; exact t8.output
        · rw [s9 j (by rw [show (Sl.v ⟨some (nb w1), T.length, T.length⟩).ownBlock = some w1.heap.size from rfl]; intro e; have := Option.some.inj e; omega), t8.block j hj hjv]
    refine NilC.mk _ rfl ⟨_, _, _, g12 hblk7, CondP.mk (fun h1 => ?_) fun h1 => ?_⟩
    · have h1 : N = 1 := by have : ((N : Nat) : Int) = 1 := by simpa using h1
                            omega
      rw [h1] at hN
      match hx : encAll T (bytesOf T (i : Int)) with
      | [] => rw [hx] at hN; simp at hN
      | y :: z :: t => rw [hx] at hN; simp at hN
      | [y] =>
        rw [hx] at henc7
        obtain ⟨a, ha, hc⟩ := own_read (l := ⟨A, N, C⟩) (enc := encInt) (sz := 1) (fun _ => rfl) (by decide) henc7 (i := 0) (x := y) rfl
        have hc0 := hc 0 _ rfl
        rw [add_zero] at hc0
        refine NilC.mk a ha ⟨Int.le_refl _, by omega, y, hc0, CondP.mk (fun h2 => ?_) fun h2 => ?_⟩
        · have h2 : y = (i : Int) := by simpa using h2
          refine NilC.mk _ rfl ⟨_, by rw [vcell _ v hblk7]; exact (gk hblk7).c7, ?_⟩
          refine (whole_spec w7 bp s.classes s.joins (hp4.on hB7).bound (right_ok hp.right).1 (bytesOf T (i : Int)) (by omega)).mono ?_
          rintro e w8 ⟨rfl, hB8⟩
          refine ⟨_, rfl, ⟨g12 (held_on hB8 hblk7), trivial⟩, fin _ w8 ?_ hB8⟩
          unfold aloneT
          rw [hx, h2]
          simp
        · have h2 : y ≠ (i : Int) := by simpa using h2
          refine fin false w7 ?_ (Below.refl _ _)
          unfold aloneT
          rw [hx]
          simp [h2]
    · have h1 : N ≠ 1 := by intro e; rw [e] at h1; simp at h1
      refine fin false w7 ?_ (Below.refl _ _)
      unfold aloneT
      rw [decide_eq_false (fun e => by rw [e] at hN; simp at hN; exact h1 hN)]
      rfl
  · rintro w4 ⟨hblk4, hown4, ht4⟩
    refine hI _ _ (CondP.no (by simp) ⟨rfl, ⟨some (nb w1), T.length, T.length⟩, hblk4, rfl, ?_, ht4⟩)
    have : foundL s T T.length = aloneL s T := by
      unfold foundL
      rw [Nat.sub_self, List.replicate_zero, List.append_nil, List.take_of_length_le (by rw [aloneL_length]; exact Nat.le_refl _)]
    rw [this] at hown4
    exact hown4
end Go.Proofs.YtboemnagahmlkaaGreat.Eng

/- sync/atomic and sync.Once, one goroutine: walked by the kit's tactics. -/
set_option linter.unusedVariables false
set_option linter.unusedSimpArgs false
set_option maxRecDepth 100000
namespace Go.Proofs.YtboemnagahmlkaaGreat.Eng
open Go Go.RowKit
theorem once_disable (w : World) : (callFunc 254 #[]).run Tryz.prog w = .ok (.value (.tuple #[])) w := run_call_mark0 Tryz.func254 (by kernel_rfl) (by kernel_rfl) (by kernel_rfl) .disable (by kernel_rfl) w
theorem once_enable (w : World) : (callFunc 256 #[]).run Tryz.prog w = .ok (.value (.tuple #[])) w := run_call_mark0 Tryz.func256 (by kernel_rfl) (by kernel_rfl) (by kernel_rfl) .enable (by kernel_rfl) w
theorem once_acquire (a : Addr) (w : World) : (callFunc 257 #[.pointer (some a)]).run Tryz.prog w = .ok (.value (.tuple #[])) w := run_call_marked Tryz.func257 (by kernel_rfl) (by kernel_rfl) (by kernel_rfl) .acquire (by kernel_rfl) a w
theorem once_releaseMerge (a : Addr) (w : World) : (callFunc 259 #[.pointer (some a)]).run Tryz.prog w = .ok (.value (.tuple #[])) w := run_call_marked Tryz.func259 (by kernel_rfl) (by kernel_rfl) (by kernel_rfl) .releaseMerge (by kernel_rfl) a w

/-- atomic.Int64's Add. -/
theorem atomicAdd_spec (a : Addr) (n : Int) (w : World) (hc : w.cell? a = some (.int .i64 n)) (hz : w.frozen? a = false) :
    Calls Tryz.prog 132 #[.pointer (some a), .int .i64 1] w fun e w' => ∃ m : Int, e = .returned (.int .i64 m) ∧ w' = w.setCell a (.int .i64 m) := by
  have hadd := run_call_add (P := Tryz.prog) Tryz.func185 (by kernel_rfl) (by kernel_rfl) (by kernel_rfl) .i64 (by kernel_rfl) (y := 1) (s := IntKind.i64.wrap (n + 1)) hc hz (by simp [go_sem])
  go_enter Tryz.func132, Tryz.ntmps132
  go_wp2
  go_ret
  exact ⟨_, rfl, rfl⟩
theorem once_store (a : Addr) (x : Value) (u : FrameMode) (w : World) (hc : w.cell? a = some x) (hz : w.frozen? a = false) :
    CallsD Tryz.prog 220 #[.pointer (some a), .bool true] u w fun e u' w' => u' = u ∧ (e = .returned (.tuple #[]) ∧ w' = w.drew.setCell a (.int .u32 1)) := by
  have hc' : w.drew.cell? a = some x := by go_simp
  have hz' : w.drew.frozen? a = false := by go_simp
  have hst := run_call_store (P := Tryz.prog) Tryz.func246 (by kernel_rfl) (by kernel_rfl) (by kernel_rfl) (by kernel_rfl) (k := .u32) (y := 1) hc' hz'
  go_enter_d Tryz.func220, Tryz.ntmps220
  go_wp2
  go_region_calls
  all_goals (go_end0; exact ⟨rfl, rfl⟩)
theorem once_unlock (a : Addr) (u : FrameMode) (w : World) (hc : w.cell? a = some (.int .i32 1)) (hz : w.frozen? a = false) :
    CallsD Tryz.prog 219 #[.pointer (some a)] u w fun e u' w' => u' = u ∧ (e = .returned (.tuple #[]) ∧ w' = w.setCell a (.int .i32 0)) := by
  have hd := once_disable
  have he := once_enable
  have hr := once_releaseMerge
  have hadd := run_call_add (P := Tryz.prog) Tryz.func260 (by kernel_rfl) (by kernel_rfl) (by kernel_rfl) .i32 (by kernel_rfl) (y := -1) (s := 0) hc hz (by simp [go_sem]; rfl)
  have hcv := run_convert_to_unsafe (P := Tryz.prog) (src := 333) (dst := 337) Tryz.underlying333 Tryz.underlying337 (by kernel_rfl) hc
  go_enter_d Tryz.func219, Tryz.ntmps219
  go_wp2
  go_end0
  go_wp2
  go_end0
  exact ⟨rfl, rfl⟩
theorem once_lock (a : Addr) (w : World) (hc : w.cell? a = some (.int .i32 0)) (hz : w.frozen? a = false) :
    Calls Tryz.prog 218 #[.pointer (some a)] w fun e w' => e = .returned (.tuple #[]) ∧ w' = w.setCell a (.int .i32 1) := by
  have hd := once_disable
  have he := once_enable
  have ha := once_acquire
  have hcas := run_call_cas_hit (P := Tryz.prog) Tryz.func255 (by kernel_rfl) (by kernel_rfl) (by kernel_rfl) .i32 (by kernel_rfl) (y := 1) hc hz
  have hc' : (w.setCell a (.int .i32 1)).cell? a = some (.int .i32 1) := World.cell?_setCell_same w a _ hc
  have hcv := run_convert_to_unsafe (P := Tryz.prog) (src := 333) (dst := 337) Tryz.underlying333 Tryz.underlying337 (by kernel_rfl) hc'
  go_enter Tryz.func218, Tryz.ntmps218
  go_wp2
  first | go_end0 | (simp only [Exit.inBlock, Exit.then]; refine bodyPost_ret (results_none rfl _ _ _) rfl ?_) | refine bodyPost_ret (results_none rfl _ _ _) rfl ?_
  go_wp2
  go_end0
  exact ⟨rfl, rfl⟩
set_option maxHeartbeats 1600000 in
theorem once_slow (v : Nat) (w : World) (K : World → Prop)
    (hfind : Calls Tryz.prog 134 #[.pointer (some ⟨v, 0, none⟩)] (w.setCell ⟨v, 10, none⟩ (.int .i32 1)) fun e w' => e = .returned (.tuple #[]) ∧ K w')
    (hK : ∀ w', K w' → w'.cell? ⟨v, 9, none⟩ = some (.int .u32 0) ∧ w'.frozen? ⟨v, 9, none⟩ = false ∧ w'.cell? ⟨v, 10, none⟩ = some (.int .i32 1) ∧ w'.frozen? ⟨v, 10, none⟩ = false)
    (h0 : w.cell? ⟨v, 9, none⟩ = some (.int .u32 0)) (h1 : w.cell? ⟨v, 10, none⟩ = some (.int .i32 0)) (f0 : w.frozen? ⟨v, 9, none⟩ = false) (f1 : w.frozen? ⟨v, 10, none⟩ = false) :
    Calls Tryz.prog 160 #[.pointer (some ⟨v, 9, none⟩), .func (.func 134) #[.pointer (some ⟨v, 0, none⟩)] #[]] w fun e w' => e = .returned (.tuple #[]) ∧ ∃ w2, K w2 ∧ w' = (w2.drew.setCell ⟨v, 9, none⟩ (.int .u32 1)).setCell ⟨v, 10, none⟩ (.int .i32 0) := by
  have hl := run_call_load (P := Tryz.prog) Tryz.func217 (by kernel_rfl) (by kernel_rfl) (by kernel_rfl) .u32 (by kernel_rfl) (w := w.setCell ⟨v, 10, none⟩ (.int .i32 1)) (a := ⟨v, 9, none⟩) (x := 0) ((World.cell?_setCell_other _ ⟨v, 10, none⟩ ⟨v, 9, none⟩ _ (by simp)).trans h0)
  have hnot : ∀ (x : Bool) (w : World), (Op.unary .not (.bool x)).run Tryz.prog w = .ok (.bool (!x)) w := fun _ _ => rfl
  go_enter_defers Tryz.func160, Tryz.ntmps160
  go_wp2_with (go_at_call 218; refine (once_lock ⟨v, 10, none⟩ _ (by go_simp) (by go_simp)).mono ?_; rintro e w' ⟨rfl, rfl⟩)
  go_wp2_with (first | (go_at_call 134; refine hfind.mono ?_; rintro e w' ⟨rfl, hk⟩) | go_in)
  obtain ⟨k0, k1, k2, k3⟩ := hK _ hk
  refine leaves_cons (f := 220) (args := #[.pointer (some ⟨v, 9, none⟩), .bool true]) (by simp) (by simp [go_sem]) ?_
  refine (once_store ⟨v, 9, none⟩ (.int .u32 0) .returning _ k0 k1).mono ?_
  rintro e u' w'' ⟨rfl, rfl, rfl⟩
  refine leaves_cons (f := 219) (args := #[.pointer (some ⟨v, 10, none⟩)]) (by simp [settle]) (by simp [go_sem]) ?_
  refine (once_unlock ⟨v, 10, none⟩ _ _ ?_ ?_).mono ?_
  · refine (World.cell?_setCell_other _ ⟨v, 9, none⟩ ⟨v, 10, none⟩ _ (by simp)).trans ?_
    rw [World.cell?_drew]
    exact k2
  · simp [k3]
  rintro e u' w'' ⟨rfl, rfl, rfl⟩
  simp [Leaves, settle, results, Tryz.results160]
  exact ⟨_, hk, rfl⟩
set_option maxHeartbeats 1600000 in
theorem once_do (v : Nat) (w : World) (K : World → Prop)
    (hfind : Calls Tryz.prog 134 #[.pointer (some ⟨v, 0, none⟩)] (w.setCell ⟨v, 10, none⟩ (.int .i32 1)) fun e w' => e = .returned (.tuple #[]) ∧ K w')
    (hK : ∀ w', K w' → w'.cell? ⟨v, 9, none⟩ = some (.int .u32 0) ∧ w'.frozen? ⟨v, 9, none⟩ = false ∧ w'.cell? ⟨v, 10, none⟩ = some (.int .i32 1) ∧ w'.frozen? ⟨v, 10, none⟩ = false)
    (h0 : w.cell? ⟨v, 9, none⟩ = some (.int .u32 0)) (h1 : w.cell? ⟨v, 10, none⟩ = some (.int .i32 0)) (f0 : w.frozen? ⟨v, 9, none⟩ = false) (f1 : w.frozen? ⟨v, 10, none⟩ = false) :
    Calls Tryz.prog 113 #[.pointer (some ⟨v, 9, none⟩), .func (.func 134) #[.pointer (some ⟨v, 0, none⟩)] #[]] w fun e w' => e = .returned (.tuple #[]) ∧ ∃ w2, K w2 ∧ w' = (w2.drew.setCell ⟨v, 9, none⟩ (.int .u32 1)).setCell ⟨v, 10, none⟩ (.int .i32 0) := by
  have hl := run_call_load (P := Tryz.prog) Tryz.func217 (by kernel_rfl) (by kernel_rfl) (by kernel_rfl) .u32 (by kernel_rfl) h0
  have hnot : ∀ (x : Bool) (w : World), (Op.unary .not (.bool x)).run Tryz.prog w = .ok (.bool (!x)) w := fun _ _ => rfl
  go_enter Tryz.func113, Tryz.ntmps113
  go_wp2_with (first | (go_at_call 160; refine (once_slow v w K hfind hK h0 h1 f0 f1).mono ?_; rintro e w' ⟨rfl, hk⟩) | (go_at_call 159; go_in))
  go_end0
  exact ⟨rfl, hk⟩
theorem once_done (a : Addr) (d : Int) (hd : ¬ d = 0) (fv : Value) (w : World) (h0 : w.cell? a = some (.int .u32 d)) :
    Calls Tryz.prog 113 #[.pointer (some a), fv] w fun e w' => e = .returned (.tuple #[]) ∧ w' = w := by
  have hl := run_call_load (P := Tryz.prog) Tryz.func217 (by kernel_rfl) (by kernel_rfl) (by kernel_rfl) .u32 (by kernel_rfl) h0
  have hnot : ∀ (x : Bool) (w : World), (Op.unary .not (.bool x)).run Tryz.prog w = .ok (.bool (!x)) w := fun _ _ => rfl
  have hd' : (d != 0) = true := by simp [hd]
  go_enter Tryz.func113, Tryz.ntmps113
  go_wp2
  go_end0
  exact ⟨rfl, rfl⟩
end Go.Proofs.YtboemnagahmlkaaGreat.Eng

/- Which tokens are alone, walked by the engine. -/
set_option linter.unusedVariables false
set_option linter.unusedSimpArgs false
set_option maxRecDepth 100000
namespace Go.Proofs.YtboemnagahmlkaaGreat.Eng
open Go Go.RowKit
theorem own_base {w : World} {B B' : Nat} {e : TypeId} {sz n : Nat} {v : Value} {xs : List Value} (h : w.ownsRow B e sz v n xs) (hB : B' ≤ B) : w.ownsRow B' e sz v n xs := by
  refine ⟨h.1, h.2.imp id ?_⟩
  rintro ⟨g, cap, cur, h1, h2, h3⟩
  exact ⟨g, cap, cur, h1, Nat.le_trans hB h2, h3⟩
def aloneV (s : SpecV) (T : List Ent) (id : Int) : Bool := decide (id ∈ s.specials.map (·.1)) || (decide (inTab T id) && aloneT s T id.toNat)
/-- One cell of the vocabulary's block, written. -/
theorem vput {w w0 : World} {v : Nat} {c : Array Value} (h : w.heap[v]? = some (.cells c tVocab (0, 0))) (hb : Below w0.heap.size w0 w) (hv : w0.heap.size ≤ v) (j : Nat) (u : Value) :
    (w.setCell ⟨v, j, none⟩ u).heap[v]? = some (.cells (c.setIfInBounds j u) tVocab (0, 0)) ∧ Below w0.heap.size w0 (w.setCell ⟨v, j, none⟩ u) ∧ Touch v w (w.setCell ⟨v, j, none⟩ u) :=
  ⟨setCell_heap h u, hb.setCell (p := ⟨v, j, none⟩) hv u, ⟨rfl, rfl, rfl, by rw [size_setCell]; exact Nat.le_refl _, fun k _ hk => heap_setCell_ne hk⟩⟩
theorem alone_spec (w : World) (v : Nat) (s : SpecV) (T : List Ent) (h : VocIs w v s T) (id : Int) :
    Calls Tryz.prog 99 #[.pointer (some ⟨v, 0, none⟩), .int .i64 id] w fun e w' => e = .returned (.bool (aloneV s T id)) ∧ VocIs w' v s T ∧ Touch v w w' := by
  obtain ⟨w0, x, tp, bp, mp, d, l, uses, hV⟩ := h
  refine calls_ret (vc99_calls (some ⟨v, 0, none⟩) id w (fun u w' => u = .bool (aloneV s T id) ∧ VocIs w' v s T ∧ Touch v w w') ?_) (by rintro v w' ⟨rfl, h⟩; exact ⟨rfl, h⟩)
  refine CondP.no rfl (NilC.mk _ rfl ?_)
  have e13 : (⟨v, 0, none⟩ : Addr).add 13 = ⟨v, 13, none⟩ := by rw [add_lit, Nat.zero_add]
  have e9 : ((⟨v, 0, none⟩ : Addr).add 9).add 0 = ⟨v, 9, none⟩ := by rw [add_lit, add_lit]
  have at_ : ∀ {w' : World} {c : Array Value}, w'.heap[v]? = some (.cells c tVocab (0, 0)) → ∀ j, w'.cell? ⟨v, j, none⟩ = c[j]? := fun h j => cell_heap h
  have fz : ∀ {w' : World} {c : Array Value}, w'.heap[v]? = some (.cells c tVocab (0, 0)) → ∀ j, w'.frozen? ⟨v, j, none⟩ = false := fun h j => frozen_heap h
  rw [e13]
  refine (atomicAdd_spec ⟨v, 13, none⟩ uses w (at_ hV.blk 13) (fz hV.blk 13)).mono ?_
  rintro e w1 ⟨m, rfl, hw1⟩
  obtain ⟨b1, o1, t1⟩ := vput hV.blk hV.below hV.lt 13 (.int .i64 m)
  rw [← hw1] at b1 o1 t1
  have b1 : w1.heap[v]? = some (.cells (vocCells x tp bp mp d l m) tVocab (0, 0)) := b1
  have hV1 : VocRaw w1 v s T w0 x tp bp mp d l m := ⟨hV.parts, o1, hV.lt, b1, hV.once.imp (fun h => h) fun ⟨p, q, r⟩ => ⟨p, q, t1.own r fun e => by have := (own_lt r _ e).1; omega⟩⟩
  refine ⟨m, rfl, NilC.mk _ rfl ⟨_, by rw [vcell _ v b1]; rfl, ?_⟩⟩
  have hp1 := hV1.now
  refine (markMark_spec w1 mp s.specials hp1.marks hp1.few id).mono ?_
  rintro e w2 ⟨rfl, hw⟩
  subst hw
  have hm : (markOf s.specials id).isSome = true ↔ id ∈ s.specials.map (·.1) := idx_mem
  refine ⟨_, _, rfl, CondP.mk (fun h0 => ?_) fun h0 => ?_⟩
  · refine ⟨?_, ⟨w0, x, tp, bp, mp, d, l, m, hV1⟩, t1⟩
    rw [aloneV, decide_eq_true (hm.1 h0)]
    rfl
  have hnm : id ∉ s.specials.map (·.1) := fun h => by rw [hm.2 h] at h0; cases h0
  refine NilC.mk _ rfl ?_
  rw [e9]
  -- behind the once
  have rest : ∀ (w3 : World) (l3 : Sl), VocRaw w3 v s T w0 x tp bp mp 1 l3 m → Touch v w w3 →
      CondP (decide ((id : Int) ≥ 0))
          (NilC (some ⟨v, 0, none⟩) (fun pa_3 =>
           ∃ lA : Option Addr, ∃ lN : Nat, ∃ lC : Nat, w3.cell? ((pa_3.add 9).add 3) = some (Value.slice lA lN lC) ∧
           CondP (decide ((id : Int) < ((lN : Nat) : Int)))
             (NilC (some ⟨v, 0, none⟩) (fun pa_4 =>
              ∃ lA_5 : Option Addr, ∃ lN_6 : Nat, ∃ lC_7 : Nat, w3.cell? ((pa_4.add 9).add 3) = some (Value.slice lA_5 lN_6 lC_7) ∧
              NilC lA_5 (fun pa_8 =>
              (0 : Int) ≤ id ∧ id < ((lN_6 : Nat) : Int) ∧
              ∃ b : Bool, w3.cell? (pa_8.add ((id : Int).toNat * 1)) = some (Value.bool b) ∧
              (Value.bool b = .bool (aloneV s T id) ∧ VocIs w3 v s T ∧ Touch v w w3))))
             (Value.bool false = .bool (aloneV s T id) ∧ VocIs w3 v s T ∧ Touch v w w3)))
          (Value.bool false = .bool (aloneV s T id) ∧ VocIs w3 v s T ∧ Touch v w w3) := by
    intro w3 l3 hV3 t3
    have hVI : VocIs w3 v s T := ⟨w0, x, tp, bp, mp, 1, l3, m, hV3⟩
    obtain ⟨hln, hown⟩ : l3.n = T.length ∧ w3.ownsRow (v + 1) tBool 1 l3.v l3.n ((aloneL s T).flatMap encB1) := by
      rcases hV3.once with ⟨h, _⟩ | ⟨_, h1, h2⟩
      · cases h
      · exact ⟨h1, h2⟩
    have off : ¬ inTab T id → (Value.bool false = .bool (aloneV s T id) ∧ VocIs w3 v s T ∧ Touch v w w3) := fun hn => ⟨by rw [aloneV, decide_eq_false hnm, decide_eq_false hn]; rfl, hVI, t3⟩
    have c12 : w3.cell? (((⟨v, 0, none⟩ : Addr).add 9).add 3) = some (.slice l3.a l3.n l3.c) := by rw [vcell _ v hV3.blk]; rfl
    refine CondP.mk (fun h1 => ?_) fun h1 => off fun h => ?_
    · have h1 := of_decide_eq_true h1
      refine NilC.mk _ rfl ⟨_, _, _, c12, CondP.mk (fun h2 => ?_) fun h2 => off fun h => ?_⟩
      · have h2 := of_decide_eq_true h2
        have hin : inTab T id := ⟨h1, by omega⟩
        have hlt : id.toNat < T.length := by omega
        obtain ⟨a, ha, hc⟩ := own_read (enc := encB1) (sz := 1) (fun _ => rfl) (by decide) hown (i := id.toNat) (x := aloneT s T id.toNat) (by rw [List.getElem?_eq_getElem (by rw [aloneL_length]; exact hlt), aloneL_get s T hlt])
        have hc0 := hc 0 _ rfl
        rw [add_zero] at hc0
        refine NilC.mk _ rfl ⟨_, _, _, c12, NilC.mk a ha ⟨h1, by omega, _, hc0, ?_, hVI, t3⟩⟩
        rw [aloneV, decide_eq_false hnm, decide_eq_true hin]
        simp
      · have h2 := of_decide_eq_false h2
        have := h.2
        omega
    · have h1 := of_decide_eq_false h1
      have := h.1
      omega
  rcases hV1.once with ⟨rfl, rfl⟩ | ⟨rfl, hln, hown⟩
  · -- for the first time
    obtain ⟨b2, o2, t2⟩ := vput b1 o1 hV.lt 10 (.int .i32 1)
    have hvb : VBlk (w2.setCell ⟨v, 10, none⟩ (.int .i32 1)) v ((vocCells x tp bp mp 0 ⟨none, 0, 0⟩ m).setIfInBounds 10 (.int .i32 1)) tp bp mp := ⟨b2, rfl, rfl, rfl, rfl⟩
    have hz2 : (w2.setCell ⟨v, 10, none⟩ (.int .i32 1)).heap.size = w2.heap.size := size_setCell _ _ _
    have hvl : v < w2.heap.size := (Array.getElem?_eq_some_iff.1 b1).1
    refine (once_do v w2 (fun w' => ∃ l : Sl, w'.heap[v]? = some (.cells (((vocCells x tp bp mp 0 ⟨none, 0, 0⟩ m).setIfInBounds 10 (.int .i32 1)).setIfInBounds 12 l.v) tVocab (0, 0)) ∧ l.n = T.length ∧ w'.ownsRow (w2.setCell ⟨v, 10, none⟩ (.int .i32 1)).heap.size tBool 1 l.v l.n ((aloneL s T).flatMap encB1) ∧ Touch v (w2.setCell ⟨v, 10, none⟩ (.int .i32 1)) w') (find_spec _ w0 v _ tp bp mp hvb s T x hV.parts o2 hV.lt) ?_ (at_ b1 9) (at_ b1 10) (fz b1 9) (fz b1 10)).mono ?_
    · rintro w' ⟨l', hb', _⟩
      exact ⟨at_ hb' 9, fz hb' 9, at_ hb' 10, fz hb' 10⟩
    · rintro e w3 ⟨rfl, wf, ⟨l', hbf, hlf, hof, htf⟩, hw3⟩
      refine ⟨rfl, ?_⟩
      have of : Below w0.heap.size w0 wf := o2.trans (htf.below hV.lt o2.size)
      have hbd : wf.drew.heap[v]? = some (.cells (((vocCells x tp bp mp 0 ⟨none, 0, 0⟩ m).setIfInBounds 10 (.int .i32 1)).setIfInBounds 12 l'.v) tVocab (0, 0)) := hbf
      obtain ⟨b4, o4, t4⟩ := vput hbd of.drew hV.lt 9 (.int .u32 1)
      obtain ⟨b5, o5, t5⟩ := vput b4 o4 hV.lt 10 (.int .i32 0)
      rw [← hw3] at b5 o5 t5
      have tt : Touch v wf w3 := ((Touch.of_below (drew_on wf)).trans t4).trans t5
      have hne : l'.v.ownBlock ≠ some v := fun e => by have := (own_lt hof _ e).1; omega
      refine rest w3 l' ⟨hV.parts, o5, hV.lt, b5, .inr ⟨rfl, hlf, own_base (tt.own hof hne) (by omega)⟩⟩ (((t1.trans t2).trans htf).trans tt)
  · -- it was done
    refine (once_done ⟨v, 9, none⟩ 1 (by decide) _ w2 (at_ b1 9)).mono ?_
    rintro e w3 ⟨rfl, hw⟩
    subst hw
    exact ⟨rfl, rest w3 l hV1 t1⟩
end Go.Proofs.YtboemnagahmlkaaGreat.Eng

/- Two tokens side by side: the walk along their spines, walked by the engine. -/
set_option linter.unusedVariables false
set_option linter.unusedSimpArgs false
set_option maxRecDepth 100000
namespace Go.Proofs.YtboemnagahmlkaaGreat.Eng
open Go Go.RowKit
abbrev tWalk : TypeId := 332
def WkIs (w : World) (p tp : Nat) (a b limit steps : Int) : Prop := w.heap[p]? = some (.cells #[.int .i64 a, .int .i64 b, .pointer (some ⟨tp, 0, none⟩), .int .i64 limit, .int .i64 steps] tWalk (0, 0))
theorem WkIs.on {w w' : World} {p tp : Nat} {a b limit steps : Int} (h : WkIs w p tp a b limit steps) (hb : Below w.heap.size w w') : WkIs w' p tp a b limit steps := held_on hb h
/-- Has a token parents? -/
def splits (T : List Ent) (a : Int) : Bool := decide (inTab T a ∧ parentsOf T a ≠ (-1, -1))

theorem left_spec (w : World) (B p tp : Nat) (T : List Ent) (a b limit steps : Int) (hT : TabIs w tp T) (h : WkIs w p tp a b limit steps) (hB : B ≤ p) (hs : 0 ≤ steps ∧ steps ≤ 1000000) (hab : -1000000 ≤ b ∧ b ≤ 1000000) :
    Calls Tryz.prog 268 #[.pointer (some ⟨p, 0, none⟩)] w fun e w' => e = .returned (.bool (splits T a)) ∧ (if splits T a = true then WkIs w' p tp (parentsOf T a).2 b a (steps + 1) else WkIs w' p tp a b limit steps) ∧ Touch p w w' := by
  refine calls_ret (vc268_calls (some ⟨p, 0, none⟩) w (fun v w' => v = .bool (splits T a) ∧ (if splits T a = true then WkIs w' p tp (parentsOf T a).2 b a (steps + 1) else WkIs w' p tp a b limit steps) ∧ Touch p w w') ?_) (by rintro v w' ⟨rfl, h⟩; exact ⟨rfl, h⟩)
  intro w1 hw1
  have hb1 : Below w.heap.size w w1 := by subst hw1; exact drew_on w
  have h1 := h.on hb1
  have hpl : p < w.heap.size := (Array.getElem?_eq_some_iff.1 h).1
  -- behind the parents: they lie in a block of their own
  have rest : ∀ (x y : Int) (r1 : Bool) (loc : Nat) (wq : World), r1 = splits T a → (r1 = true → y = (parentsOf T a).2) → loc ≠ p → WkIs wq p tp a b limit steps → wq.heap[loc]? = some (.cells #[.int .i64 x, .int .i64 y] tMg (0, 0)) → Touch p w wq →
      ∀ J : List Value → World → Prop, (∀ w5 : World, (Value.bool r1 = .bool (splits T a) ∧ (if splits T a = true then WkIs w5 p tp (parentsOf T a).2 b a (steps + 1) else WkIs w5 p tp a b limit steps) ∧ Touch p w w5) → J [] w5) →
      CondP r1
       (∀ w6 : World, w6 = wq.drew →
        NilC (some ⟨p, 0, none⟩) (fun pa_3 =>
        ∃ n_4 : Int, w6.cell? (((pa_3.add 0).add 0).add 0) = some (Value.int .i64 n_4) ∧
        
        ∃ n_6 : Int, w6.cell? ((⟨loc, 0, none⟩ : Addr).add 1) = some (Value.int .i64 n_6) ∧
        NilC (some ⟨p, 0, none⟩) (fun pa_6 =>
        (Value.int .i64 n_4).oneCell' = true ∧ (∃ u, w6.cell? (pa_6.add 3) = some u) ∧ w6.frozen? (pa_6.add 3) = false ∧
        ∀ w7 : World, w7 = (w6.setCell (pa_6.add 3) (Value.int .i64 n_4)) →
        (w7.cell? ((⟨loc, 0, none⟩ : Addr).add 1) = some (Value.int .i64 n_6) ∧ True) ∧
        NilC (some ⟨p, 0, none⟩) (fun pa_7 =>
        (Value.int .i64 n_6).oneCell' = true ∧ (∃ u, w7.cell? (((pa_7.add 0).add 0).add 0) = some u) ∧ w7.frozen? (((pa_7.add 0).add 0).add 0) = false ∧
        ∀ w8 : World, w8 = (w7.setCell (((pa_7.add 0).add 0).add 0) (Value.int .i64 n_6)) →
        NilC (some ⟨p, 0, none⟩) (fun pa_8 =>
        ∃ n_9 : Int, w8.cell? (pa_8.add 4) = some (Value.int .i64 n_9) ∧
        Ar .i64 ((n_9 : Int) + 1) (fun n_10 =>
        NilC (some ⟨p, 0, none⟩) (fun pa_11 =>
        (Value.int .i64 n_10).oneCell' = true ∧ (∃ u, w8.cell? (pa_11.add 4) = some u) ∧ w8.frozen? (pa_11.add 4) = false ∧
        ∀ w9 : World, w9 = (w8.setCell (pa_11.add 4) (Value.int .i64 n_10)) →
        J [] w9)))))))
       (J [] wq) := by
    intro x y r1 loc wq hr hy hloc hwq hlq htq J hJ
    refine CondP.mk (fun h0 => ?_) fun h0 => ?_
    · intro w6 hw6
      have h6 : WkIs w6 p tp a b limit steps := by subst hw6; exact hwq
      have l6 : w6.heap[loc]? = some (.cells #[.int .i64 x, .int .i64 y] tMg (0, 0)) := by subst hw6; exact hlq
      have t6 : Touch p w w6 := by subst hw6; exact htq.trans (Touch.of_below (drew_on _))
      have c6 : ∀ j, w6.cell? ⟨p, j, none⟩ = _ := fun j => cell_heap h6
      simp only [add_lit, Nat.zero_add, Nat.add_zero]
      refine NilC.mk _ rfl ⟨a, c6 0, ⟨y, cell_heap l6, NilC.mk _ rfl ⟨rfl, ⟨_, c6 3⟩, frozen_heap h6, ?_⟩⟩⟩
      intro w7 hw7
      have h7 : WkIs w7 p tp a b a steps := by subst hw7; exact setCell_heap h6 _
      have s7 : ∀ k, k ≠ p → w7.heap[k]? = w6.heap[k]? := fun k hk => by subst hw7; exact heap_setCell_ne hk
      have t7 : Touch p w w7 := t6.trans (by subst hw7; exact ⟨rfl, rfl, rfl, by rw [size_setCell]; exact Nat.le_refl _, fun k _ hk => heap_setCell_ne hk⟩)
      have c7 : ∀ j, w7.cell? ⟨p, j, none⟩ = _ := fun j => cell_heap h7
      refine ⟨⟨cell_heap (by rw [s7 loc hloc]; exact l6), trivial⟩, NilC.mk _ rfl ⟨rfl, ⟨_, c7 0⟩, frozen_heap h7, ?_⟩⟩
      intro w8 hw8
      have h8 : WkIs w8 p tp y b a steps := by subst hw8; exact setCell_heap h7 _
      have t8 : Touch p w w8 := t7.trans (by subst hw8; exact ⟨rfl, rfl, rfl, by rw [size_setCell]; exact Nat.le_refl _, fun k _ hk => heap_setCell_ne hk⟩)
      have c8 : ∀ j, w8.cell? ⟨p, j, none⟩ = _ := fun j => cell_heap h8
      refine NilC.mk _ rfl ⟨steps, c8 4, Ar.ok64 (by omega) (by omega) (NilC.mk _ rfl ⟨rfl, ⟨_, c8 4⟩, frozen_heap h8, ?_⟩)⟩
      intro w9 hw9
      have h9 : WkIs w9 p tp y b a (steps + 1) := by subst hw9; exact setCell_heap h8 _
      have t9 : Touch p w w9 := t8.trans (by subst hw9; exact ⟨rfl, rfl, rfl, by rw [size_setCell]; exact Nat.le_refl _, fun k _ hk => heap_setCell_ne hk⟩)
      refine hJ w9 ⟨by rw [hr], ?_, t9⟩
      rw [if_pos (by rw [← hr]; exact h0), ← hy h0]
      exact h9
    · refine hJ wq ⟨by rw [hr], ?_, htq⟩
      rw [if_neg (by rw [← hr, h0]; simp)]
      exact hwq
  have c1 : ∀ j, w1.cell? ⟨p, j, none⟩ = _ := fun j => cell_heap h1
  have hpar : ∃ (x y : Int), parV T a = .tuple #[.agg #[.int .i64 x, .int .i64 y], .bool (splits T a)] ∧ (splits T a = true → y = (parentsOf T a).2) := by
    unfold parV splits
    by_cases hc : inTab T a ∧ parentsOf T a ≠ (-1, -1)
    · rw [if_pos hc, decide_eq_true hc]
      exact ⟨_, _, rfl, fun _ => rfl⟩
    · rw [if_neg hc, decide_eq_false hc]
      exact ⟨0, 0, rfl, fun h => by cases h⟩
  obtain ⟨x, y, hxy, hxy2⟩ := hpar
  refine NilC.mk _ rfl ⟨some ⟨tp, 0, none⟩, by simp only [add_lit, Nat.zero_add]; exact c1 2, NilC.mk _ rfl ⟨a, by simp only [add_lit, Nat.zero_add, Nat.add_zero]; exact c1 0, ?_, ?_⟩⟩
  · refine (tokParents_spec w1 tp T (hT.on hb1) a).mono ?_
    rintro e w2 ⟨rfl, hb2⟩
    rw [hxy]
    refine ⟨x, y, _, rfl, ?_⟩
    intro w3 hw3
    refine storeP_new [.int .i64 0, .int .i64 0] [.int .i64 x, .int .i64 y] rfl (ones_pair _ _) w3 hw3 ?_
    intro w4 h4 hz4 hB4
    have hb14 := below_then hb1 (below_then hb2 hB4)
    have hz2 := (below_then hb1 hb2).size
    intro J hJ
    exact rest x y _ w2.heap.size w4 rfl hxy2 (by omega) (h1.on (below_then hb2 hB4)) h4 (Touch.of_below hb14) J hJ
  · intro w10 hw10
    have hb10 : Below w1.heap.size w1 w10 := by subst hw10; exact below_alloc _ _
    have h10 := h1.on hb10
    have l10 : w10.heap[w1.heap.size]? = some (.cells #[Value.int .i64 0, Value.int .i64 0] tMg (0, 0)) := by subst hw10; exact alloc_new _ _
    have c10 : ∀ j, w10.cell? ⟨p, j, none⟩ = _ := fun j => cell_heap h10
    refine ⟨⟨by simp only [add_lit, Nat.zero_add, Nat.add_zero]; exact c10 0, trivial⟩, ⟨by simp only [add_lit, Nat.zero_add]; exact c10 2, trivial⟩, ?_⟩
    refine (tokParents_spec w10 tp T ((hT.on hb1).on hb10) a).mono ?_
    rintro e w11 ⟨rfl, hb11⟩
    rw [hxy]
    refine ⟨x, y, _, rfl, ?_⟩
    have hz1 := hb1.size
    refine storeP_cells (held_on hb11 l10) [.int .i64 x, .int .i64 y] rfl (ones_pair _ _) ?_
    intro w12 h12 hs12 hz12 hB12
    have h12' : WkIs w12 p tp a b limit steps := by
      unfold WkIs
      rw [hs12 p (by omega)]
      exact h10.on hb11
    have hb112 : Below w1.heap.size w1 w12 := hB12 _ _ (Nat.le_refl _) (below_then hb10 hb11)
    intro J hJ
    exact rest x y _ w1.heap.size w12 rfl hxy2 (by omega) h12' h12 (Touch.of_below (below_then hb1 hb112)) J hJ

theorem right_spec (w : World) (B p tp : Nat) (T : List Ent) (a b limit steps : Int) (hT : TabIs w tp T) (h : WkIs w p tp a b limit steps) (hB : B ≤ p) (hs : 0 ≤ steps ∧ steps ≤ 1000000) (hab : -1000000 ≤ b ∧ b ≤ 1000000) :
    Calls Tryz.prog 269 #[.pointer (some ⟨p, 0, none⟩)] w fun e w' => e = .returned (.bool (splits T b)) ∧ (if splits T b = true then WkIs w' p tp a (parentsOf T b).1 (b + 1) (steps + 1) else WkIs w' p tp a b limit steps) ∧ Touch p w w' := by
  refine calls_ret (vc269_calls (some ⟨p, 0, none⟩) w (fun v w' => v = .bool (splits T b) ∧ (if splits T b = true then WkIs w' p tp a (parentsOf T b).1 (b + 1) (steps + 1) else WkIs w' p tp a b limit steps) ∧ Touch p w w') ?_) (by rintro v w' ⟨rfl, h⟩; exact ⟨rfl, h⟩)
  intro w1 hw1
  have hb1 : Below w.heap.size w w1 := by subst hw1; exact drew_on w
  have h1 := h.on hb1
  have hpl : p < w.heap.size := (Array.getElem?_eq_some_iff.1 h).1
  -- behind the parents: they lie in a block of their own
  have rest : ∀ (x y : Int) (r1 : Bool) (loc : Nat) (wq : World), r1 = splits T b → (r1 = true → x = (parentsOf T b).1) → loc ≠ p → WkIs wq p tp a b limit steps → wq.heap[loc]? = some (.cells #[.int .i64 x, .int .i64 y] tMg (0, 0)) → Touch p w wq →
      ∀ J : List Value → World → Prop, (∀ w5 : World, (Value.bool r1 = .bool (splits T b) ∧ (if splits T b = true then WkIs w5 p tp a (parentsOf T b).1 (b + 1) (steps + 1) else WkIs w5 p tp a b limit steps) ∧ Touch p w w5) → J [] w5) →
      CondP r1
       (∀ w6 : World, w6 = wq.drew →
        NilC (some ⟨p, 0, none⟩) (fun pa_3 =>
        ∃ n_4 : Int, w6.cell? (((pa_3.add 0).add 0).add 1) = some (Value.int .i64 n_4) ∧
        Ar .i64 ((n_4 : Int) + 1) (fun n_5 =>
        ∃ n_6 : Int, w6.cell? ((⟨loc, 0, none⟩ : Addr).add 0) = some (Value.int .i64 n_6) ∧
        NilC (some ⟨p, 0, none⟩) (fun pa_6 =>
        (Value.int .i64 n_5).oneCell' = true ∧ (∃ u, w6.cell? (pa_6.add 3) = some u) ∧ w6.frozen? (pa_6.add 3) = false ∧
        ∀ w7 : World, w7 = (w6.setCell (pa_6.add 3) (Value.int .i64 n_5)) →
        (w7.cell? ((⟨loc, 0, none⟩ : Addr).add 0) = some (Value.int .i64 n_6) ∧ True) ∧
        NilC (some ⟨p, 0, none⟩) (fun pa_7 =>
        (Value.int .i64 n_6).oneCell' = true ∧ (∃ u, w7.cell? (((pa_7.add 0).add 0).add 1) = some u) ∧ w7.frozen? (((pa_7.add 0).add 0).add 1) = false ∧
        ∀ w8 : World, w8 = (w7.setCell (((pa_7.add 0).add 0).add 1) (Value.int .i64 n_6)) →
        NilC (some ⟨p, 0, none⟩) (fun pa_8 =>
        ∃ n_9 : Int, w8.cell? (pa_8.add 4) = some (Value.int .i64 n_9) ∧
        Ar .i64 ((n_9 : Int) + 1) (fun n_10 =>
        NilC (some ⟨p, 0, none⟩) (fun pa_11 =>
        (Value.int .i64 n_10).oneCell' = true ∧ (∃ u, w8.cell? (pa_11.add 4) = some u) ∧ w8.frozen? (pa_11.add 4) = false ∧
        ∀ w9 : World, w9 = (w8.setCell (pa_11.add 4) (Value.int .i64 n_10)) →
        J [] w9))))))))
       (J [] wq) := by
    intro x y r1 loc wq hr hy hloc hwq hlq htq J hJ
    refine CondP.mk (fun h0 => ?_) fun h0 => ?_
    · intro w6 hw6
      have h6 : WkIs w6 p tp a b limit steps := by subst hw6; exact hwq
      have l6 : w6.heap[loc]? = some (.cells #[.int .i64 x, .int .i64 y] tMg (0, 0)) := by subst hw6; exact hlq
      have t6 : Touch p w w6 := by subst hw6; exact htq.trans (Touch.of_below (drew_on _))
      have c6 : ∀ j, w6.cell? ⟨p, j, none⟩ = _ := fun j => cell_heap h6
      simp only [add_lit, Nat.zero_add, Nat.add_zero]
      refine NilC.mk _ rfl ⟨b, c6 1, Ar.ok64 (by omega) (by omega) ⟨x, cell_heap l6, NilC.mk _ rfl ⟨rfl, ⟨_, c6 3⟩, frozen_heap h6, ?_⟩⟩⟩
      intro w7 hw7
      have h7 : WkIs w7 p tp a b (b + 1) steps := by subst hw7; exact setCell_heap h6 _
      have s7 : ∀ k, k ≠ p → w7.heap[k]? = w6.heap[k]? := fun k hk => by subst hw7; exact heap_setCell_ne hk
      have t7 : Touch p w w7 := t6.trans (by subst hw7; exact ⟨rfl, rfl, rfl, by rw [size_setCell]; exact Nat.le_refl _, fun k _ hk => heap_setCell_ne hk⟩)
      have c7 : ∀ j, w7.cell? ⟨p, j, none⟩ = _ := fun j => cell_heap h7
      refine ⟨⟨cell_heap (by rw [s7 loc hloc]; exact l6), trivial⟩, NilC.mk _ rfl ⟨rfl, ⟨_, c7 1⟩, frozen_heap h7, ?_⟩⟩
      intro w8 hw8
      have h8 : WkIs w8 p tp a x (b + 1) steps := by subst hw8; exact setCell_heap h7 _
      have t8 : Touch p w w8 := t7.trans (by subst hw8; exact ⟨rfl, rfl, rfl, by rw [size_setCell]; exact Nat.le_refl _, fun k _ hk => heap_setCell_ne hk⟩)
      have c8 : ∀ j, w8.cell? ⟨p, j, none⟩ = _ := fun j => cell_heap h8
      refine NilC.mk _ rfl ⟨steps, c8 4, Ar.ok64 (by omega) (by omega) (NilC.mk _ rfl ⟨rfl, ⟨_, c8 4⟩, frozen_heap h8, ?_⟩)⟩
      intro w9 hw9
      have h9 : WkIs w9 p tp a x (b + 1) (steps + 1) := by subst hw9; exact setCell_heap h8 _
      have t9 : Touch p w w9 := t8.trans (by subst hw9; exact ⟨rfl, rfl, rfl, by rw [size_setCell]; exact Nat.le_refl _, fun k _ hk => heap_setCell_ne hk⟩)
      refine hJ w9 ⟨by rw [hr], ?_, t9⟩
      rw [if_pos (by rw [← hr]; exact h0), ← hy h0]
      exact h9
    · refine hJ wq ⟨by rw [hr], ?_, htq⟩
      rw [if_neg (by rw [← hr, h0]; simp)]
      exact hwq
  have c1 : ∀ j, w1.cell? ⟨p, j, none⟩ = _ := fun j => cell_heap h1
  have hpar : ∃ (x y : Int), parV T b = .tuple #[.agg #[.int .i64 x, .int .i64 y], .bool (splits T b)] ∧ (splits T b = true → x = (parentsOf T b).1) := by
    unfold parV splits
    by_cases hc : inTab T b ∧ parentsOf T b ≠ (-1, -1)
    · rw [if_pos hc, decide_eq_true hc]
      exact ⟨_, _, rfl, fun _ => rfl⟩
    · rw [if_neg hc, decide_eq_false hc]
      exact ⟨0, 0, rfl, fun h => by cases h⟩
  obtain ⟨x, y, hxy, hxy2⟩ := hpar
  refine NilC.mk _ rfl ⟨some ⟨tp, 0, none⟩, by simp only [add_lit, Nat.zero_add]; exact c1 2, NilC.mk _ rfl ⟨b, by simp only [add_lit, Nat.zero_add, Nat.add_zero]; exact c1 1, ?_, ?_⟩⟩
  · refine (tokParents_spec w1 tp T (hT.on hb1) b).mono ?_
    rintro e w2 ⟨rfl, hb2⟩
    rw [hxy]
    refine ⟨x, y, _, rfl, ?_⟩
    intro w3 hw3
    refine storeP_new [.int .i64 0, .int .i64 0] [.int .i64 x, .int .i64 y] rfl (ones_pair _ _) w3 hw3 ?_
    intro w4 h4 hz4 hB4
    have hb14 := below_then hb1 (below_then hb2 hB4)
    have hz2 := (below_then hb1 hb2).size
    intro J hJ
    exact rest x y _ w2.heap.size w4 rfl hxy2 (by omega) (h1.on (below_then hb2 hB4)) h4 (Touch.of_below hb14) J hJ
  · intro w10 hw10
    have hb10 : Below w1.heap.size w1 w10 := by subst hw10; exact below_alloc _ _
    have h10 := h1.on hb10
    have l10 : w10.heap[w1.heap.size]? = some (.cells #[Value.int .i64 0, Value.int .i64 0] tMg (0, 0)) := by subst hw10; exact alloc_new _ _
    have c10 : ∀ j, w10.cell? ⟨p, j, none⟩ = _ := fun j => cell_heap h10
    refine ⟨⟨by simp only [add_lit, Nat.zero_add, Nat.add_zero]; exact c10 1, trivial⟩, ⟨by simp only [add_lit, Nat.zero_add]; exact c10 2, trivial⟩, ?_⟩
    refine (tokParents_spec w10 tp T ((hT.on hb1).on hb10) b).mono ?_
    rintro e w11 ⟨rfl, hb11⟩
    rw [hxy]
    refine ⟨x, y, _, rfl, ?_⟩
    have hz1 := hb1.size
    refine storeP_cells (held_on hb11 l10) [.int .i64 x, .int .i64 y] rfl (ones_pair _ _) ?_
    intro w12 h12 hs12 hz12 hB12
    have h12' : WkIs w12 p tp a b limit steps := by
      unfold WkIs
      rw [hs12 p (by omega)]
      exact h10.on hb11
    have hb112 : Below w1.heap.size w1 w12 := hB12 _ _ (Nat.le_refl _) (below_then hb10 hb11)
    intro J hJ
    exact rest x y _ w1.heap.size w12 rfl hxy2 (by omega) h12' h12 (Touch.of_below (below_then hb1 hb112)) J hJ
end Go.Proofs.YtboemnagahmlkaaGreat.Eng

/- A vocabulary in memory is one of the plain laws'. -/
set_option linter.unusedVariables false
set_option linter.unusedSimpArgs false
set_option maxRecDepth 100000
namespace Go.Proofs.YtboemnagahmlkaaGreat.Eng
open Go Go.RowKit
def exT (T : List Ent) (t : Int) : List Int := ints (bytesOf T t)
theorem merges_length {T : List Ent} (h : TOk T) : (mergesOf T).length + 256 = T.length := by
  have := h.len
  simp [mergesOf]
  omega
theorem low_get {T : List Ent} (h : TOk T) {i : Nat} (hi : i < 256) : T[i]? = some (byteEnt i) := by
  have h1 : (T.take 256)[i]? = T[i]? := List.getElem?_take_of_lt hi
  rw [← h1, h.low]
  simp [begins, hi]
theorem bytes_low {T : List Ent} (h : TOk T) {i : Nat} (hi : i < 256) : bytesOf T (i : Int) = [UInt8.ofNat i] := by
  simp [bytesOf, low_get h hi, byteEnt]
theorem high_get {T : List Ent} (h : TOk T) {k : Nat} {m : Int × Int} (hm : (mergesOf T)[k]? = some m) : ∃ e, T[256 + k]? = some e ∧ e.2 = m := by
  simp only [mergesOf, List.getElem?_map, List.getElem?_drop] at hm
  obtain ⟨e, he, rfl⟩ := Option.map_eq_some_iff.1 hm
  exact ⟨e, he, rfl⟩
theorem bytes_high {T : List Ent} (h : TOk T) {k : Nat} {m : Int × Int} (hm : (mergesOf T)[k]? = some m) : bytesOf T ((256 : Int) + (k : Nat)) = bytesOf T m.1 ++ bytesOf T m.2 := by
  obtain ⟨e, he, rfl⟩ := high_get h hm
  obtain ⟨_, _, hs⟩ := h.step (256 + k) e he (by omega)
  rw [← hs]
  unfold bytesOf
  rw [show ((256 : Int) + (k : Nat)).toNat = 256 + k by omega, he]
  rfl
theorem bytes_ne {T : List Ent} (h : TOk T) : ∀ (n i : Nat), i ≤ n → i < T.length → bytesOf T (i : Int) ≠ [] := by
  intro n
  induction n with
  | zero =>
    intro i hi hl
    rw [bytes_low h (by omega)]
    simp
  | succ n ih =>
    intro i hi hl
    by_cases h256 : i < 256
    · rw [bytes_low h h256]
      simp
    · obtain ⟨h1, h2, h3⟩ := h.step i _ (List.getElem?_eq_getElem hl) (by omega)
      have : bytesOf T (i : Int) = T[i].1 := by simp [bytesOf, hl]
      rw [this, h3]
      have := ih T[i].2.1.toNat (by omega) (by omega)
      rw [show ((T[i].2.1.toNat : Nat) : Int) = T[i].2.1 by omega] at this
      simp [this]
theorem ints_append (a b : Bs) : ints (a ++ b) = ints a ++ ints b := by simp [ints]
theorem good_of {T : List Ent} (h : TOk T) : GoodV (mergesOf T) (exT T) := by
  have ml := merges_length h
  refine ⟨⟨fun t h0 h1 => ?_, fun k m hm => ?_, h.sound, fun k m hm => ?_⟩, fun i m hm => ⟨(merges_at h hm).1.1, (merges_at h hm).2.1⟩⟩
  · obtain ⟨i, rfl⟩ : ∃ i : Nat, t = i := ⟨t.toNat, by omega⟩
    have hi : i < 256 := by omega
    unfold exT
    rw [bytes_low h hi]
    simp [ints]
    omega
  · unfold exT
    rw [bytes_high h hm, ints_append]
  · obtain ⟨h1, h2⟩ := merges_at h hm
    have hk := (List.getElem?_eq_some_iff.1 hm).1
    have n1 := bytes_ne h m.1.toNat m.1.toNat (Nat.le_refl _) (by omega)
    have n2 := bytes_ne h m.2.toNat m.2.toNat (Nat.le_refl _) (by omega)
    rw [show ((m.1.toNat : Nat) : Int) = m.1 by omega] at n1
    rw [show ((m.2.toNat : Nat) : Int) = m.2 by omega] at n2
    exact ⟨by simpa [exT, ints] using n1, by simpa [exT, ints] using n2⟩
def vocOf (s : SpecV) (T : List Ent) : Voc := ⟨mergesOf T, exT T, cutB s.classes s.joins, s.specials.map (·.1)⟩
theorem voc_ok {w : World} {s : SpecV} {T : List Ent} {x : SpecW} {tp bp mp : Nat} (h : VocParts w s T x tp bp mp) : (vocOf s T).Ok := by
  have ml := merges_length h.ok
  refine ⟨good_of h.ok, h.nodup, fun t ht => ?_⟩
  obtain ⟨y, hy, rfl⟩ := List.mem_map.1 ht
  have := h.ids y hy
  show 256 + ((mergesOf T).length : Int) ≤ y.1
  omega
theorem tok_iff {T : List Ent} (h : TOk T) (t : Int) : inTab T t ↔ Tok (mergesOf T) t := by
  have ml := merges_length h
  unfold inTab Tok
  omega
theorem encAll_after {T : List Ent} (h : TOk T) (s : Bs) : encAll T s = after (mergesOf T) (mergesOf T).length (ints s) := by
  have ml := merges_length h
  unfold encAll encB after
  rw [show ((T.length : Int) - 256).toNat = (mergesOf T).length by omega]
theorem uncut_iff {cut : Int → Int → Bool} : ∀ l : List Int, Uncut cut l ↔ ∀ (j : Nat) (x y : Int), l[j]? = some x → l[j + 1]? = some y → cut x y = false
  | [] => by simp [Uncut]
  | [x] => by simp [Uncut]
  | x :: y :: r => by
    simp only [Uncut, uncut_iff (y :: r)]
    constructor
    · rintro ⟨h1, h2⟩ j a b ha hb
      cases j with
      | zero =>
        simp at ha hb
        rw [← ha, ← hb]
        exact h1
      | succ j => exact h2 j a b (by simpa using ha) (by simpa using hb)
    · intro h
      exact ⟨h 0 x y rfl rfl, fun j a b ha hb => h (j + 1) a b (by simpa using ha) (by simpa using hb)⟩
theorem chop_one_iff {cut : Int → Int → Bool} {l : List Int} (hl : l ≠ []) : (chop cut l).length ≤ 1 ↔ Uncut cut l := by
  constructor
  · intro h
    obtain ⟨h1, h2⟩ := chop_is (cut := cut) l
    match hc : chop cut l with
    | [] => rw [hc] at h2; exact absurd h2.symm hl
    | [p] =>
      rw [hc] at h1 h2
      simp at h2
      subst h2
      exact h1.2
    | p :: q :: r => rw [hc] at h; simp at h
  · intro h
    have := chop_unique (cut := cut) [l] ⟨hl, h⟩
    simp at this
    rw [this]
    simp
theorem uncut_congr {c c' : Int → Int → Bool} {l : List Int} (h : ∀ x ∈ l, ∀ y ∈ l, c x y = c' x y) : Uncut c l ↔ Uncut c' l := by
  rw [uncut_iff, uncut_iff]
  constructor
  · intro k j x y hx hy
    rw [← h x (List.mem_of_getElem? hx) y (List.mem_of_getElem? hy)]
    exact k j x y hx hy
  · intro k j x y hx hy
    rw [h x (List.mem_of_getElem? hx) y (List.mem_of_getElem? hy)]
    exact k j x y hx hy
theorem whole_uncut (cut : Int → Int → Bool) (b : Bs) : wholeB cut b = true ↔ Uncut cut (ints b) := by
  unfold wholeB
  rw [decide_eq_true_eq, uncut_iff]
  have hget : ∀ j : Nat, (ints b)[j]? = (b[j]?).map fun z : UInt8 => (z.toNat : Int) := fun j => by simp [ints]
  constructor
  · intro h j x y hx hy
    rw [hget] at hx hy
    obtain ⟨u, hu, rfl⟩ := Option.map_eq_some_iff.1 hx
    obtain ⟨v, hv, rfl⟩ := Option.map_eq_some_iff.1 hy
    have hl := (List.getElem?_eq_some_iff.1 hv).1
    have := h (j + 1) hl
    unfold cutPos at this
    rw [if_neg (by omega), Nat.add_sub_cancel, hu, hv] at this
    simpa using this
  · intro h j hj
    unfold cutPos
    rw [if_neg (by omega)]
    cases j with
    | zero => split <;> simp
    | succ j =>
      rw [Nat.add_sub_cancel, List.getElem?_eq_getElem hj, List.getElem?_eq_getElem (show j < b.length by omega)]
      have := h j (b[j].toNat) (b[j + 1].toNat) (by rw [hget, List.getElem?_eq_getElem (show j < b.length by omega)]; rfl) (by rw [hget, List.getElem?_eq_getElem hj]; rfl)
      simp [this]
theorem ints_byte (b : Bs) : ∀ x ∈ ints b, 0 ≤ x ∧ x < 256 := by
  intro x hx
  obtain ⟨y, _, rfl⟩ := List.mem_map.1 hx
  have := y.toNat_lt
  omega
theorem cut_byte (V : Voc) {x y : Int} (hx : 0 ≤ x) (hy : 0 ≤ y) : V.cut x y = V.cutB x y := by
  unfold Voc.cut
  rw [decide_eq_false (by omega), decide_eq_false (by omega)]
  rfl
theorem aloneT_iff {w : World} {s : SpecV} {T : List Ent} {x : SpecW} {tp bp mp : Nat} (h : VocParts w s T x tp bp mp) {i : Nat} (hi : inTab T (i : Int)) : aloneT s T i = true ↔ (vocOf s T).Canon [(i : Int)] := by
  have hT := (tok_iff h.ok _).1 hi
  have hok := voc_ok h
  rw [Voc.alone_iff hok (V := vocOf s T) hT]
  have hne : exT T (i : Int) ≠ [] := (hok.good.bytes hT).2
  have hch : (chop (vocOf s T).cut ((vocOf s T).ex (i : Int))).length ≤ 1 ↔ wholeB (cutB s.classes s.joins) (bytesOf T (i : Int)) = true := by
    show (chop (vocOf s T).cut (exT T (i : Int))).length ≤ 1 ↔ _
    rw [chop_one_iff hne, whole_uncut]
    exact uncut_congr fun x hx y hy => cut_byte _ (ints_byte _ x hx).1 (ints_byte _ y hy).1
  rw [hch]
  unfold aloneT AloneT
  rw [Bool.and_eq_true, decide_eq_true_eq, encAll_after h.ok]
  exact Iff.rfl
theorem has_iff {w : World} {s : SpecV} {T : List Ent} {x : SpecW} {tp bp mp : Nat} (h : VocParts w s T x tp bp mp) (t : Int) : hasV2 s T t = true ↔ (vocOf s T).Has t := by
  unfold hasV2 Voc.Has
  rw [decide_eq_true_eq, tok_iff h.ok]
  exact Or.comm
theorem aloneV_iff {w : World} {s : SpecV} {T : List Ent} {x : SpecW} {tp bp mp : Nat} (h : VocParts w s T x tp bp mp) {t : Int} (ht : (vocOf s T).Has t) : aloneV s T t = true ↔ (vocOf s T).Canon [t] := by
  have hok := voc_ok h
  unfold aloneV
  rcases ht with ht | ht
  · have hin := (tok_iff h.ok t).2 ht
    have hn : t ∉ s.specials.map (·.1) := fun hm => by
      have h1 : 256 + ((mergesOf T).length : Int) ≤ t := hok.above t hm
      have h2 : t < 256 + (((mergesOf T).length : Nat) : Int) := ht.2
      omega
    rw [decide_eq_false hn, decide_eq_true hin]
    have := aloneT_iff h (i := t.toNat) (by rw [show ((t.toNat : Nat) : Int) = t by have := hin.1; omega]; exact hin)
    rw [show ((t.toNat : Nat) : Int) = t by have := hin.1; omega] at this
    simpa using this
  · have hm : t ∈ s.specials.map (·.1) := ht
    rw [decide_eq_true hm]
    simp only [Bool.true_or, true_iff]
    exact Voc.alone_special hok ht
/-- Parents are those of a merge. -/
theorem splits_iff {T : List Ent} (h : TOk T) {a : Int} (ha : inTab T a) : splits T a = true ↔ 256 ≤ a := by
  unfold splits
  rw [decide_eq_true_eq]
  have hlt : a.toNat < T.length := by have := ha.1; have := ha.2; omega
  constructor
  · rintro ⟨_, h2⟩
    rcases Int.lt_or_le a 256 with h' | h'
    · exfalso
      apply h2
      have hl : a.toNat < 256 := by have := ha.1; omega
      simp [parentsOf, low_get h hl, byteEnt]
    · exact h'
  · intro h256
    refine ⟨ha, fun e => ?_⟩
    obtain ⟨h1, _, _⟩ := h.step a.toNat _ (List.getElem?_eq_getElem hlt) (by omega)
    simp only [parentsOf, List.getElem?_eq_getElem hlt, Option.map_some, Option.getD_some] at e
    rw [e] at h1
    simp at h1
theorem parents_merge {T : List Ent} (h : TOk T) {a : Int} (ha : inTab T a) (h256 : 256 ≤ a) : ∃ j : Nat, a = 256 + (j : Int) ∧ (mergesOf T)[j]? = some (parentsOf T a) := by
  have hlt : a.toNat < T.length := by have := ha.1; have := ha.2; omega
  refine ⟨a.toNat - 256, by omega, ?_⟩
  simp only [mergesOf, List.getElem?_map, List.getElem?_drop]
  rw [show 256 + (a.toNat - 256) = a.toNat by omega, List.getElem?_eq_getElem hlt]
  simp [parentsOf, hlt]
end Go.Proofs.YtboemnagahmlkaaGreat.Eng

/- The walk along spines tells whether two may stand side by side. -/
set_option linter.unusedVariables false
set_option linter.unusedSimpArgs false
set_option maxRecDepth 100000
namespace Go.Proofs.YtboemnagahmlkaaGreat.Eng
open Go Go.RowKit
def blockedB (T : List Ent) (a b limit : Int) : Bool := match (mergesOf T).idxOf? (a, b) with
  | some i => decide (((256 + i : Nat) : Int) < limit)
  | none => false
theorem blocked_spec (w : World) (p tp : Nat) (T : List Ent) (a b limit steps : Int) (hT : TabIs w tp T) (h : WkIs w p tp a b limit steps) :
    Calls Tryz.prog 252 #[.pointer (some ⟨p, 0, none⟩)] w fun e w' => e = .returned (.bool (blockedB T a b limit)) ∧ Below w.heap.size w w' := by
  refine calls_ret (vc252_calls (some ⟨p, 0, none⟩) w (fun v w' => v = .bool (blockedB T a b limit) ∧ Below w.heap.size w w') ?_) (by rintro v w' ⟨rfl, h⟩; exact ⟨rfl, h⟩)
  intro w1 hw1
  have hb1 : Below w.heap.size w w1 := by subst hw1; exact drew_on w
  have h1 := h.on hb1
  have c1 : ∀ j, w1.cell? ⟨p, j, none⟩ = _ := fun j => cell_heap h1
  refine NilC.mk _ rfl ⟨_, by simp only [add_lit, Nat.zero_add]; exact c1 2, NilC.mk _ rfl ⟨a, by simp only [add_lit, Nat.zero_add, Nat.add_zero]; exact c1 0, NilC.mk _ rfl ⟨b, by simp only [add_lit, Nat.zero_add, Nat.add_zero]; exact c1 1, ?_⟩⟩⟩
  refine (tokPair_spec w1 tp T (hT.on hb1) a b).mono ?_
  rintro e w2 ⟨rfl, hb2⟩
  have c2 : ∀ j, w2.cell? ⟨p, j, none⟩ = _ := fun j => cell_heap (h1.on hb2)
  have hb := below_then hb1 hb2
  unfold blockedB
  cases hx : (mergesOf T).idxOf? (a, b) with
  | none => exact ⟨_, _, rfl, CondP.no rfl ⟨rfl, hb⟩⟩
  | some i => exact ⟨_, _, rfl, CondP.yes rfl (NilC.mk _ rfl ⟨limit, by simp only [add_lit, Nat.zero_add]; exact c2 3, rfl, hb⟩)⟩
theorem apart_spec (w : World) (B p tp : Nat) (T : List Ent) (a b limit steps : Int) (hT : TabIs w tp T) (hok : TOk T) (ht : ∀ w', Touch p w w' → TabIs w' tp T) (h : WkIs w p tp a b limit steps) (hB : B ≤ p) (hs : 0 ≤ steps ∧ steps ≤ 1000000) (ha : inTab T a) (hb : inTab T b) :
    Calls Tryz.prog 253 #[.pointer (some ⟨p, 0, none⟩)] w fun e w' => ∃ r : Bool, e = .returned (.bool r) ∧ Touch p w w' ∧ ((r = true ∧ b < a ∧ 256 ≤ a ∧ WkIs w' p tp (parentsOf T a).2 b a (steps + 1)) ∨ (r = true ∧ a ≤ b ∧ 256 ≤ b ∧ WkIs w' p tp a (parentsOf T b).1 (b + 1) (steps + 1)) ∨ (r = false ∧ a < 256 ∧ b < 256 ∧ WkIs w' p tp a b limit steps)) := by
  refine calls_ret (vc253_calls (some ⟨p, 0, none⟩) w (fun v w' => ∃ r : Bool, v = .bool r ∧ Touch p w w' ∧ ((r = true ∧ b < a ∧ 256 ≤ a ∧ WkIs w' p tp (parentsOf T a).2 b a (steps + 1)) ∨ (r = true ∧ a ≤ b ∧ 256 ≤ b ∧ WkIs w' p tp a (parentsOf T b).1 (b + 1) (steps + 1)) ∨ (r = false ∧ a < 256 ∧ b < 256 ∧ WkIs w' p tp a b limit steps))) ?_) (by rintro v w' ⟨r, rfl, h⟩; exact ⟨r, rfl, h⟩)
  intro w1 hw1
  have hb1 : Below w.heap.size w w1 := by subst hw1; exact drew_on w
  have h1 := h.on hb1
  have t1 : Touch p w w1 := Touch.of_below hb1
  have c1 : ∀ j, w1.cell? ⟨p, j, none⟩ = _ := fun j => cell_heap h1
  have hmost := hok.most
  have a0 := ha.1
  have a1 := ha.2
  have b0 := hb.1
  have b1 := hb.2
  have sa := splits_iff hok ha
  have sb := splits_iff hok hb
  refine NilC.mk _ rfl ⟨a, by simp only [add_lit, Nat.zero_add, Nat.add_zero]; exact c1 0, NilC.mk _ rfl ⟨b, by simp only [add_lit, Nat.zero_add, Nat.add_zero]; exact c1 1, CondP.mk (fun h0 => ?_) fun h0 => ?_⟩⟩
  · have h0 := of_decide_eq_true h0
    refine (left_spec w1 B p tp T a b limit steps (ht w1 t1) h1 hB hs (by omega)).mono ?_
    rintro e w2 ⟨rfl, hw2, t2⟩
    have t12 := t1.trans t2
    refine ⟨_, rfl, CondP.mk (fun h2 => ?_) fun h2 => ?_⟩
    · rw [if_pos h2] at hw2
      exact ⟨true, rfl, t12, .inl ⟨rfl, by omega, sa.1 h2, hw2⟩⟩
    · rw [if_neg (by rw [h2]; simp)] at hw2
      have ha256 : ¬ 256 ≤ a := fun hh => by rw [sa.2 hh] at h2; cases h2
      refine (right_spec w2 B p tp T a b limit steps (ht w2 t12) hw2 hB hs (by omega)).mono ?_
      rintro e w3 ⟨rfl, hw3, t3⟩
      have hsb : splits T b = false := by
        cases hx : splits T b with
        | false => rfl
        | true => have := sb.1 hx; omega
      rw [hsb] at hw3
      rw [if_neg (by simp)] at hw3
      exact ⟨_, rfl, false, by rw [hsb], t12.trans t3, .inr (.inr ⟨rfl, by omega, by omega, hw3⟩)⟩
  · have h0 := of_decide_eq_false h0
    refine (right_spec w1 B p tp T a b limit steps (ht w1 t1) h1 hB hs (by omega)).mono ?_
    rintro e w2 ⟨rfl, hw2, t2⟩
    have t12 := t1.trans t2
    refine ⟨_, rfl, CondP.mk (fun h2 => ?_) fun h2 => ?_⟩
    · rw [if_pos h2] at hw2
      exact ⟨true, rfl, t12, .inr (.inl ⟨rfl, by omega, sb.1 h2, hw2⟩)⟩
    · rw [if_neg (by rw [h2]; simp)] at hw2
      have hb256 : ¬ 256 ≤ b := fun hh => by rw [sb.2 hh] at h2; cases h2
      refine (left_spec w2 B p tp T a b limit steps (ht w2 t12) hw2 hB hs (by omega)).mono ?_
      rintro e w3 ⟨rfl, hw3, t3⟩
      have hsa : splits T a = false := by
        cases hx : splits T a with
        | false => rfl
        | true => have := sa.1 hx; omega
      rw [hsa] at hw3
      rw [if_neg (by simp)] at hw3
      exact ⟨_, rfl, false, by rw [hsa], t12.trans t3, .inr (.inr ⟨rfl, by omega, by omega, hw3⟩)⟩
theorem free_spec (w : World) (B p tp : Nat) (T : List Ent) (a b limit : Int) (hok : TOk T) (ht : ∀ w', Touch p w w' → TabIs w' tp T) (h : WkIs w p tp a b limit 0) (hB : B ≤ p) (ha : inTab T a) (hb : inTab T b) (aa : AloneT (mergesOf T) (exT T) a) (ab : AloneT (mergesOf T) (exT T) b) (la : a ≤ limit) (lb : b + 1 ≤ limit) :
    Calls Tryz.prog 234 #[.pointer (some ⟨p, 0, none⟩)] w fun e w' => ∃ r : Bool, e = .returned (.bool r) ∧ (r = true ↔ FreeTo (mergesOf T) (exT T) a b limit) ∧ Touch p w w' := by
  refine calls_ret (vc234_calls (some ⟨p, 0, none⟩) w (fun v w' => ∃ r : Bool, v = .bool r ∧ (r = true ↔ FreeTo (mergesOf T) (exT T) a b limit) ∧ Touch p w w') ?_) (by rintro v w' ⟨r, rfl, h⟩; exact ⟨r, rfl, h⟩)
  intro I hI
  have hG := good_of hok
  have hmost := hok.most
  have ml := merges_length hok
  have key : ∀ (n : Nat) (a' b' limit' steps : Int) (w1 : World), a'.toNat + b'.toNat ≤ n → WkIs w1 p tp a' b' limit' steps → Touch p w w1 → inTab T a' → inTab T b' → AloneT (mergesOf T) (exT T) a' → AloneT (mergesOf T) (exT T) b' → a' ≤ limit' → b' + 1 ≤ limit' → 0 ≤ steps → steps + a' + b' ≤ 10000 → (FreeTo (mergesOf T) (exT T) a' b' limit' ↔ FreeTo (mergesOf T) (exT T) a b limit) → ∀ y2 : Bool, I [.bool y2] w1 := by
    intro n
    induction n using Nat.strongRecOn with
    | ind n ih =>
      intro a' b' limit' steps w1 hn h1 t1 ha' hb' aa' ab' la' lb' hs0 hs1 hF y2
      have Ta := (tok_iff hok a').1 ha'
      have Tb := (tok_iff hok b').1 hb'
      refine hI y2 w1 ?_
      refine (blocked_spec w1 p tp T a' b' limit' steps (ht w1 t1) h1).mono ?_
      rintro e w2 ⟨rfl, hb2⟩
      have h2 := h1.on hb2
      have t2 := t1.trans (Touch.of_below hb2)
      refine ⟨_, rfl, CondP.mk (fun h0 => ?_) fun h0 => ?_⟩
      · have h0 : blockedB T a' b' limit' = false := by simpa using h0
        have hno : ∀ i : Nat, (mergesOf T)[i]? = some (a', b') → limit' ≤ 256 + (i : Int) := by
          intro i hi
          unfold blockedB at h0
          cases hx : (mergesOf T).idxOf? (a', b') with
          | none => exact absurd (List.mem_of_getElem? hi) (List.idxOf?_eq_none_iff.1 hx)
          | some j =>
            rw [hx] at h0
            have h0 := of_decide_eq_false h0
            obtain ⟨hj, he, hmin⟩ := List.findIdx?_eq_some_iff_getElem.1 hx
            have hij : j ≤ i := by
              rcases Nat.lt_or_ge i j with hlt | hge
              · exfalso
                have := hmin i hlt
                have hil := (List.getElem?_eq_some_iff.1 hi)
                apply this
                rw [hil.2]
                simp
              · exact hge
            omega
        refine (apart_spec w2 B p tp T a' b' limit' steps (ht w2 t2) hok (fun w' tt => ht w' (t2.trans tt)) h2 hB ⟨hs0, by have := ha'.1; have := hb'.1; omega⟩ ha' hb').mono ?_
        rintro e w3 ⟨r, rfl, t3, hcase⟩
        have t13 := t2.trans t3
        refine ⟨r, rfl, ?_⟩
        rcases hcase with ⟨rfl, hba, h256, hw3⟩ | ⟨rfl, hab, h256, hw3⟩ | ⟨rfl, h1a, h1b, hw3⟩
        · obtain ⟨j, rfl, hm⟩ := parents_merge hok ha' h256
          have hlt := merges_at hok hm
          obtain ⟨q1, _, _, _⟩ := alone_parts hG hm aa'
          have hj := (List.getElem?_eq_some_iff.1 hm).1
          have hp := hb'.1
          refine CondP.no rfl (ih _ ?_ (parentsOf T (256 + (j : Int))).2 b' (256 + (j : Int)) (steps + 1) w3 (Nat.le_refl _) hw3 t13 ⟨hlt.2.1, by omega⟩ hb' ?_ ab' (by omega) (by omega) (by omega) (by omega) ?_ y2)
          · omega
          · exact (alone_parts hG hm aa').2.2.2
          · rw [← hF]
            exact (free_left hG hm Tb aa' ab' hba la' hno).symm
        · obtain ⟨j, rfl, hm⟩ := parents_merge hok hb' h256
          have hlt := merges_at hok hm
          have hj := (List.getElem?_eq_some_iff.1 hm).1
          have hp := ha'.1
          refine CondP.no rfl (ih _ ?_ a' (parentsOf T (256 + (j : Int))).1 (256 + (j : Int) + 1) (steps + 1) w3 (Nat.le_refl _) hw3 t13 ha' ⟨hlt.1.1, by omega⟩ aa' ?_ (by omega) (by omega) (by omega) (by omega) ?_ y2)
          · omega
          · exact (alone_parts hG hm ab').2.2.1
          · rw [← hF]
            exact (free_right hG hm Ta aa' ab' hab (by omega) hno).symm
        · refine CondP.yes rfl ⟨true, rfl, ?_, t13⟩
          rw [← hF]
          exact ⟨fun _ => free_bytes hG Ta Tb aa' ab' h1a h1b hno, fun _ => rfl⟩
      · have h0 : blockedB T a' b' limit' = true := by simpa using h0
        refine ⟨false, rfl, ?_, t2⟩
        rw [← hF]
        refine ⟨(fun h => by cases h), fun hfree => ?_⟩
        unfold blockedB at h0
        cases hx : (mergesOf T).idxOf? (a', b') with
        | none => rw [hx] at h0; cases h0
        | some j =>
          rw [hx] at h0
          have h0 := of_decide_eq_true h0
          obtain ⟨hj, he, _⟩ := List.findIdx?_eq_some_iff_getElem.1 hx
          exact absurd hfree (free_blocked hG Ta Tb aa' ab' (i := j) (by rw [List.getElem?_eq_getElem hj]; congr 1; simpa using he) (by omega))
  exact key _ a b limit 0 w (Nat.le_refl _) h (Touch.of_below (Below.refl _ _)) ha hb aa ab la lb (Int.le_refl _) (by have := ha.2; have := hb.2; omega) Iff.rfl false

theorem spineHas_spec (w : World) (tp : Nat) (T : List Ent) (hT : TabIs w tp T) (a b : Int) : Calls Tryz.prog 232 #[.pointer (some ⟨tp, 0, none⟩), .int .i64 a, .int .i64 b] w fun e w' => e = .returned (.bool (decide (inTab T a ∧ inTab T b))) ∧ w' = w := by
  refine calls_ret (vc232_calls (some ⟨tp, 0, none⟩) a b w (fun v w' => v = .bool (decide (inTab T a ∧ inTab T b)) ∧ w' = w) ?_) (by rintro v w' ⟨rfl, h⟩; exact ⟨rfl, h⟩)
  have off : ¬ (inTab T a ∧ inTab T b) → (Value.bool false = .bool (decide (inTab T a ∧ inTab T b)) ∧ w = w) := fun h => ⟨by rw [decide_eq_false h], rfl⟩
  refine CondP.mk (fun h0 => ?_) fun h0 => off fun h => ?_
  · have h0 := of_decide_eq_true h0
    refine (tokLen_spec w tp T hT).mono ?_
    rintro e w1 ⟨rfl, hw⟩
    subst hw
    refine ⟨_, rfl, CondP.mk (fun h1 => ?_) fun h1 => off fun h => ?_⟩
    · have h1 := of_decide_eq_true h1
      refine CondP.mk (fun h2 => ?_) fun h2 => off fun h => ?_
      · have h2 := of_decide_eq_true h2
        refine (tokLen_spec w1 tp T hT).mono ?_
        rintro e w2 ⟨rfl, hw⟩
        subst hw
        refine ⟨_, rfl, ?_, rfl⟩
        congr 1
        exact decide_eq_decide.2 ⟨fun h => ⟨⟨h0, h1⟩, h2, h⟩, fun h => h.2.2⟩
      · exact of_decide_eq_false h2 h.2.1
    · exact of_decide_eq_false h1 h.1.2
  · exact of_decide_eq_false h0 h.1.1
theorem walk_spec (w : World) (tp : Nat) (T : List Ent) (hT : TabIs w tp T) (hok : TOk T) (a b limit : Int) (ha : inTab T a) (hb : inTab T b) (aa : AloneT (mergesOf T) (exT T) a) (ab : AloneT (mergesOf T) (exT T) b) (la : a ≤ limit) (lb : b + 1 ≤ limit) :
    Calls Tryz.prog 192 #[.pointer (some ⟨tp, 0, none⟩), .int .i64 a, .int .i64 b, .int .i64 limit] w fun e w' => ∃ r : Bool, e = .returned (.bool r) ∧ (r = true ↔ FreeTo (mergesOf T) (exT T) a b limit) ∧ Below w.heap.size w w' := by
  refine calls_ret (vc192_calls (some ⟨tp, 0, none⟩) a b limit w (fun v w' => ∃ r : Bool, v = .bool r ∧ (r = true ↔ FreeTo (mergesOf T) (exT T) a b limit) ∧ Below w.heap.size w w') ?_) (by rintro v w' ⟨r, rfl, h⟩; exact ⟨r, rfl, h⟩)
  refine (spineHas_spec w tp T hT a b).mono ?_
  rintro e w1 ⟨rfl, hw⟩
  subst hw
  refine ⟨_, rfl, CondP.yes (decide_eq_true ⟨ha, hb⟩) ?_⟩
  have hbegin : Calls Tryz.prog 233 #[.pointer (some ⟨tp, 0, none⟩), .int .i64 a, .int .i64 b, .int .i64 limit] w1 fun e w' => e = .returned (.pointer (some (nb w1))) ∧ w' = w1.alloc (.cells #[Value.int .i64 a, Value.int .i64 b, Value.pointer (some ⟨tp, 0, none⟩), Value.int .i64 limit, Value.int .i64 0] tWalk) := by
    refine calls_ret (vc233_calls (some ⟨tp, 0, none⟩) a b limit w1 (fun v w' => v = .pointer (some (nb w1)) ∧ w' = w1.alloc (.cells #[Value.int .i64 a, Value.int .i64 b, Value.pointer (some ⟨tp, 0, none⟩), Value.int .i64 limit, Value.int .i64 0] tWalk)) ?_) (by rintro v w' ⟨rfl, h⟩; exact ⟨rfl, h⟩)
    rintro w2 rfl
    exact ⟨rfl, rfl⟩
  refine hbegin.mono ?_
  rintro e w2 ⟨rfl, hw2⟩
  have hb2 : Below w1.heap.size w1 w2 := by subst hw2; exact below_alloc _ _
  have h2 : WkIs w2 w1.heap.size tp a b limit 0 := by subst hw2; exact alloc_new _ _
  refine ⟨_, rfl, ?_⟩
  refine (free_spec w2 w1.heap.size w1.heap.size tp T a b limit hok (fun w' t => hT.on (hb2.trans (t.below (Nat.le_refl _) hb2.size))) h2 (Nat.le_refl _) ha hb aa ab la lb).mono ?_
  rintro e w3 ⟨r, rfl, hr, t3⟩
  exact ⟨r, rfl, r, rfl, hr, hb2.trans (t3.below (Nat.le_refl _) hb2.size)⟩
theorem special_spec {w : World} {v : Nat} {c : Array Value} {tp bp mp : Nat} (h : VBlk w v c tp bp mp) {s : SpecV} {T : List Ent} {x : SpecW} (hp : VocParts w s T x tp bp mp) (id : Int) : Calls Tryz.prog 189 #[.pointer (some ⟨v, 0, none⟩), .int .i64 id] w fun e w' => ∃ r : Bool, e = .returned (.bool r) ∧ (r = true ↔ id ∈ s.specials.map (·.1)) ∧ w' = w := by
  refine calls_ret (vc189_calls (some ⟨v, 0, none⟩) id w (fun u w' => ∃ r : Bool, u = .bool r ∧ (r = true ↔ id ∈ s.specials.map (·.1)) ∧ w' = w) ?_) (by rintro v w' ⟨r, rfl, h⟩; exact ⟨r, rfl, h⟩)
  refine (vocMarks_spec h).mono ?_
  rintro e w1 ⟨rfl, hw⟩
  subst hw
  refine ⟨_, rfl, (markMark_spec w1 mp s.specials hp.marks hp.few id).mono ?_⟩
  rintro e w2 ⟨rfl, hw⟩
  subst hw
  exact ⟨_, _, rfl, _, rfl, idx_mem, rfl⟩
theorem last_ints (b : Bs) : (ints b).getLast? = b.getLast?.map fun z : UInt8 => (z.toNat : Int) := by simp [ints]
theorem head_ints (b : Bs) : (ints b).head? = b.head?.map fun z : UInt8 => (z.toNat : Int) := by simp [ints]
theorem beside_spec {w : World} {v : Nat} {c : Array Value} {tp bp mp : Nat} (h : VBlk w v c tp bp mp) {s : SpecV} {T : List Ent} {x : SpecW} (hp : VocParts w s T x tp bp mp) (a b : Int) (ha : (vocOf s T).Has a) (hb : (vocOf s T).Has b) (ca : (vocOf s T).Canon [a]) (cb : (vocOf s T).Canon [b]) :
    Calls Tryz.prog 135 #[.pointer (some ⟨v, 0, none⟩), .int .i64 a, .int .i64 b] w fun e w' => ∃ r : Bool, e = .returned (.bool r) ∧ (r = true ↔ (vocOf s T).Pair a b) ∧ Below w.heap.size w w' := by
  have hok := voc_ok hp
  refine calls_ret (vc135_calls (some ⟨v, 0, none⟩) a b w (fun u w' => ∃ r : Bool, u = .bool r ∧ (r = true ↔ (vocOf s T).Pair a b) ∧ Below w.heap.size w w') ?_) (by rintro v w' ⟨r, rfl, h⟩; exact ⟨r, rfl, h⟩)
  have mark_cut : ∀ t : Int, t ∈ s.specials.map (·.1) → ∃ z : Int, (vocOf s T).items t = [z] ∧ z < 0 := by
    intro t ht
    obtain ⟨i, hi, _⟩ := Voc.place_some (V := vocOf s T) ht
    refine ⟨-1 - (i : Int), ?_, by omega⟩
    unfold Voc.items
    rw [hi]
  refine (special_spec h hp a).mono ?_
  rintro e w1 ⟨r1, rfl, hr1, hw⟩
  subst hw
  refine ⟨_, rfl, CondP.mk (fun h0 => ?_) fun h0 => ?_⟩
  · refine ⟨true, rfl, ⟨fun _ => ?_, fun _ => rfl⟩, Below.refl _ _⟩
    obtain ⟨z, hz, hneg⟩ := mark_cut a (hr1.1 h0)
    obtain ⟨y, hy⟩ : ∃ y, ((vocOf s T).items b).head? = some y := by
      cases hx : (vocOf s T).items b with
      | nil => exact absurd hx (Voc.items_ne hok hb)
      | cons y t => exact ⟨y, rfl⟩
    exact .inl ⟨z, y, by rw [hz]; rfl, hy, by unfold Voc.cut; rw [decide_eq_true hneg]; rfl⟩
  have na : a ∉ s.specials.map (·.1) := fun hm => by rw [hr1.2 hm] at h0; cases h0
  refine (special_spec h hp b).mono ?_
  rintro e w2 ⟨r2, rfl, hr2, hw⟩
  subst hw
  refine ⟨_, rfl, CondP.mk (fun h1 => ?_) fun h1 => ?_⟩
  · refine ⟨true, rfl, ⟨fun _ => ?_, fun _ => rfl⟩, Below.refl _ _⟩
    obtain ⟨z, hz, hneg⟩ := mark_cut b (hr2.1 h1)
    obtain ⟨y, hy⟩ : ∃ y, ((vocOf s T).items a).getLast? = some y := by
      cases hx : ((vocOf s T).items a).getLast? with
      | none => exact absurd (List.getLast?_eq_none_iff.1 hx) (Voc.items_ne hok ha)
      | some y => exact ⟨y, rfl⟩
    exact .inl ⟨y, z, hy, by rw [hz]; rfl, by unfold Voc.cut; rw [decide_eq_true hneg]; simp⟩
  have nb' : b ∉ s.specials.map (·.1) := fun hm => by rw [hr2.2 hm] at h1; cases h1
  have Ta : Tok (mergesOf T) a := ha.resolve_right na
  have Tb : Tok (mergesOf T) b := hb.resolve_right nb'
  have ia := (tok_iff hp.ok a).2 Ta
  have ib := (tok_iff hp.ok b).2 Tb
  have short : ∀ t, inTab T t → (bytesOf T t).length ≤ 64 := by
    intro t ht
    obtain ⟨y, hy, hyb⟩ := bytesOf_at ht
    rw [hyb]
    exact hp.ok.short y (List.mem_of_getElem? hy)
  refine (vocTable_spec h).mono ?_
  rintro e w3 ⟨rfl, hw⟩
  subst hw
  refine ⟨_, rfl, (tokBytes_spec w3 tp T hp.tab a).mono ?_⟩
  rintro e w4 ⟨rfl, hw⟩
  subst hw
  rw [if_pos ia]
  refine ⟨_, _, rfl, (vocTable_spec h).mono ?_⟩
  rintro e w5 ⟨rfl, hw⟩
  subst hw
  refine ⟨_, rfl, (tokBytes_spec w5 tp T hp.tab b).mono ?_⟩
  rintro e w6 ⟨rfl, hw⟩
  subst hw
  rw [if_pos ib]
  refine ⟨_, _, rfl, (vocBounds_spec h).mono ?_⟩
  rintro e w7 ⟨rfl, hw⟩
  subst hw
  refine ⟨_, rfl, (between_spec w7 bp s.classes s.joins hp.bound (right_ok hp.right).1 (bytesOf T a) (bytesOf T b) (by have := short a ia; omega)).mono ?_⟩
  rintro e w8 ⟨rfl, hb8⟩
  -- what the pair is
  have hpair : (vocOf s T).Pair a b ↔ betweenB (cutB s.classes s.joins) (bytesOf T a) (bytesOf T b) = true ∨ (vocOf s T).Free a b := by
    unfold Voc.Pair
    rw [Voc.items_tok hok (V := vocOf s T) Ta, Voc.items_tok hok (V := vocOf s T) Tb]
    show (∃ x y, (ints (bytesOf T a)).getLast? = some x ∧ (ints (bytesOf T b)).head? = some y ∧ (vocOf s T).cut x y = true) ∨ _ ↔ _
    rw [last_ints, head_ints]
    unfold betweenB
    cases h1 : (bytesOf T a).getLast? with
    | none =>
      simp only [Option.map_none]
      constructor
      · rintro (⟨x, y, hx, _⟩ | h)
        · cases hx
        · exact .inr h.2.2
      · rintro (h | h)
        · cases h
        · exact .inr ⟨Ta, Tb, h⟩
    | some z1 =>
      cases h2 : (bytesOf T b).head? with
      | none =>
        simp only [Option.map_none]
        constructor
        · rintro (⟨x, y, _, hy, _⟩ | h)
          · cases hy
          · exact .inr h.2.2
        · rintro (h | h)
          · cases h
          · exact .inr ⟨Ta, Tb, h⟩
      | some z2 =>
        simp only [Option.map_some]
        constructor
        · rintro (⟨x, y, hx, hy, hc⟩ | h)
          · cases hx
            cases hy
            rw [cut_byte _ (by omega) (by omega)] at hc
            exact .inl hc
          · exact .inr h.2.2
        · rintro (h | h)
          · exact .inl ⟨_, _, rfl, rfl, by rw [cut_byte _ (by omega) (by omega)]; exact h⟩
          · exact .inr ⟨Ta, Tb, h⟩
  refine ⟨_, rfl, CondP.mk (fun h2 => ?_) fun h2 => ?_⟩
  · exact ⟨true, rfl, ⟨fun _ => hpair.2 (.inl h2), fun _ => rfl⟩, hb8⟩
  · refine (vocTable_spec (h.on hb8)).mono ?_
    rintro e w9 ⟨rfl, hw⟩
    subst hw
    have hmost := hp.ok.most
    have ml := merges_length hp.ok
    have a1 := ia.2
    have b1 := ib.2
    refine ⟨_, rfl, (walk_spec w9 tp T (hp.tab.on hb8) hp.ok a b 9223372036854775807 ia ib ((Voc.alone_iff hok (V := vocOf s T) Ta).1 ca).1 ((Voc.alone_iff hok (V := vocOf s T) Tb).1 cb).1 (by omega) (by omega)).mono ?_⟩
    rintro e w10 ⟨r, rfl, hr, hb10⟩
    refine ⟨_, rfl, r, rfl, ?_, below_then hb8 hb10⟩
    rw [hr, hpair, h2]
    constructor
    · intro hf
      exact .inr fun k hk hc => hf k hk (by change k < (mergesOf T).length at hk; omega) hc
    · rintro (h | h)
      · cases h
      · exact fun k hk _ hc => h k hk hc
end Go.Proofs.YtboemnagahmlkaaGreat.Eng

/- canon, walked by the engine. -/
set_option linter.unusedVariables false
set_option linter.unusedSimpArgs false
set_option maxRecDepth 100000
namespace Go.Proofs.YtboemnagahmlkaaGreat.Eng
open Go Go.RowKit
/-! ### Of no vocabulary -/
instance (V : Voc) (ids : List Int) : Decidable (V.Canon ids) := inferInstanceAs (Decidable (V.encode (V.itemsAll ids) = ids))
end Go.Proofs.YtboemnagahmlkaaGreat.Eng

/- What these functions owe, printed by a program of this repo out of the translation. -/
set_option linter.unusedVariables false
set_option maxRecDepth 100000
namespace Go.Proofs.YtboemnagahmlkaaGreat.Eng
open Go Go.Value
end Go.Proofs.YtboemnagahmlkaaGreat.Eng
