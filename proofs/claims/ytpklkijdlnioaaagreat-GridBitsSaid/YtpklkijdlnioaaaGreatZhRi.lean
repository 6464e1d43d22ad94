/- Whether tokens are canonical, and the reference's vocabulary made of a spec, walked by the engine. -/
import Derived.Test.YtpklkijdlnioaaaGreatZhRh
set_option linter.unusedVariables false
set_option linter.unusedSimpArgs false
set_option maxRecDepth 100000
namespace Go.Proofs.YtpklkijdlnioaaaGreat.Eng
open Go Go.RowKit
theorem encode_len {s : SpecV} {T : List Ent} {Z : List Int} : ((vocOf s T).encode Z).length ≤ Z.length := by
  have h := flat_len (f := (vocOf s T).encP) (fun p => by
    cases p with
    | nil => exact Nat.le_refl _
    | cons x r =>
      unfold Voc.encP
      dsimp only
      split
      · simp
      · exact after_len _ _ _ (Nat.le_refl _)) (chop (vocOf s T).cut Z)
  rwa [(chop_is Z).2] at h
theorem refCanon_spec (w : World) (x : RvW) (s : SpecV) (T : List Ent) (h : RvAt w x s T) (A : Option Addr) (C : Nat) (ids : List Int) (hr : Rw encInt 1 w A ids) (hl : ids.length ≤ 10000) (hh : ∀ t ∈ ids, (vocOf s T).Has t) : Calls Tryz.prog 20 #[x.v, .slice A ids.length C] w fun e w' => e = .returned (.bool (decide ((vocOf s T).Canon ids))) ∧ Below w.heap.size w w' := by
  refine calls_ret (vc20_calls x.t.b.a x.t.b.n x.t.b.c x.t.m.a x.t.m.n x.t.m.c x.b.b.a x.b.b.n x.b.b.c x.b.m.a x.b.m.n x.b.m.c x.sp.a x.sp.n x.sp.c A ids.length C w (fun u w' => u = .bool (decide ((vocOf s T).Canon ids)) ∧ Below w.heap.size w w') ?_) (by rintro v w' ⟨rfl, h⟩; exact ⟨rfl, h⟩)
  intro w1 hw1 w2 hw2
  have hb1 : Below w.heap.size w w1 := by subst hw1; exact below_alloc _ _
  have b2 : Below w1.heap.size w1 w2 := by subst hw2; exact drew_on w1
  have hb2 := below_then hb1 b2
  have l2 : w2.heap[w.heap.size]? = some (.cells x.cells tRv (0, 0)) := held_on b2 (by subst hw1; exact alloc_new _ _)
  refine ⟨_, _, _, _, _, _, _, _, _, _, _, _, _, _, _, agg5 l2, _, _, _, _, _, _, _, _, _, _, _, _, _, _, _, agg5 l2, ?_⟩
  refine (refItems_spec w2 x s T (h.on hb2) A C ids (hr.on hb2) (by omega) hh).mono ?_
  rintro e w3 ⟨⟨a, n, c⟩, rfl, hi, b3⟩
  have hb3 := below_then hb2 b3
  have hn := hi.n
  change n = _ at hn
  subst hn
  have hlen := itemsAll_len (s := s) h.ok ids
  refine ⟨_, _, _, rfl, agg5 (held_on b3 l2), ?_⟩
  refine (refVEncode_spec w3 x s T (h.on hb3) a c _ hi.r (by omega) (Voc.itemsAll_ok h.vok hh)).mono ?_
  rintro e w4 ⟨l, rfl, he, b4, _⟩
  have hb4 := below_then hb3 b4
  have hel := encode_len (s := s) (T := T) (Z := (vocOf s T).itemsAll ids)
  have hln := he.n
  have hlr := he.r
  refine ⟨l.a, l.n, l.c, rfl, ?_⟩
  have hcan : (vocOf s T).Canon ids ↔ (vocOf s T).encode ((vocOf s T).itemsAll ids) = ids := Iff.rfl
  generalize (vocOf s T).encode ((vocOf s T).itemsAll ids) = E at hln hlr hel hcan
  refine CondP.mk (fun h0 => ⟨?_, hb4⟩) fun h0 => ?_
  · have h0 : ¬ (l.n : Int) = (ids.length : Int) := by simpa using h0
    rw [decide_eq_false fun hc => h0 (by have := hcan.1 hc; rw [hln, this])]
  · have h0 : (l.n : Int) = (ids.length : Int) := by simpa using h0
    intro I hI
    have key := climb2 (α := Bool × World) E.length (fun i y => (∀ j (h1 : j < E.length) (h2 : j < ids.length), j < i → E[j] = ids[j]) ∧ Below w4.heap.size w4 y.2) (fun i y => I [.int .i64 (i : Int), .bool y.1] y.2) (false, w4) ⟨fun j _ _ hj => absurd hj (Nat.not_lt_zero j), Below.refl _ _⟩ ?_ ?_
    · exact key
    · rintro i hi2 ih ⟨y, q⟩ ⟨hinv, hB⟩
      change Below w4.heap.size w4 q at hB
      have hi3 : i < ids.length := by omega
      refine hI _ y q (CondP.yes (by simp; omega) ?_)
      intro w6 hw6
      have b6 : Below q.heap.size q w6 := by subst hw6; exact drew_on q
      have hB6 := below_then hB b6
      have hw6' := below_then hb4 hB6
      obtain ⟨p, hp, c0⟩ := cell_rw (hlr.on hB6) hi2 rfl
      obtain ⟨p', hp', c0'⟩ := cell_rw (hr.on hw6') hi3 rfl
      refine NilC.mk p hp ⟨by omega, by omega, _, c0, NilC.mk p' hp' ⟨by omega, by omega, _, c0', CondP.mk (fun hne => ⟨?_, hw6'⟩) fun hne => Ar.nat (i + 1) rfl (by omega) (ih (y, w6) ⟨fun j h1 h2 hj => ?_, hB6⟩)⟩⟩
      · have hne : ¬ E[i] = ids[i] := by simpa using hne
        rw [decide_eq_false fun hc => ?_]
        have e := hcan.1 hc
        subst e
        exact hne rfl
      · by_cases e : j = i
        · subst e
          simpa using hne
        · exact hinv j h1 h2 (by omega)
    · rintro ⟨y, q⟩ ⟨hinv, hB⟩
      refine hI _ y q (CondP.no (by simp; omega) ⟨?_, below_then hb4 hB⟩)
      rw [decide_eq_true (hcan.2 (List.ext_getElem (by omega) fun j h1 h2 => hinv j h1 h2 h1))]
abbrev slRv (x : RvW) : List Value := [x.t.b.v, x.t.m.v, x.b.b.v, x.b.m.v, x.sp.v]
theorem ones_rv (x : RvW) : ∀ v ∈ slRv x, v.oneCell' = true := by
  intro v hv
  simp only [slRv, List.mem_cons, List.not_mem_nil, or_false] at hv
  rcases hv with rfl | rfl | rfl | rfl | rfl <;> rfl
theorem soft_rv (x : RvW) : ∀ v ∈ x.cells, ¬ Solid v := by
  intro v hv
  simp only [List.mem_toArray, List.mem_cons, List.not_mem_nil, or_false] at hv
  rcases hv with rfl | rfl | rfl | rfl | rfl <;> (rintro (⟨k, n, h⟩ | ⟨s, h⟩) <;> cases h)
theorem BtAt.past {w w' : World} {x : RtW} {cls : List (Int × Int × Int)} {js : List (Int × Int)} {b : Nat} {c : Array Value} {T : TypeId} {fz : Nat × Nat} (h : BtAt w x cls js) (hb : w.heap[b]? = some (.cells c T fz)) (hc : ∀ v ∈ c, ¬ Solid v) (hne : ∀ j, j < w.heap.size → j ≠ b → w'.heap[j]? = w.heap[j]?) (hs : w.heap.size ≤ w'.heap.size) : BtAt w' x cls js :=
  ⟨h.n1, h.r1.past (fun y => ⟨_, rfl, solid_int _ _⟩) hb hc hne hs, h.n2, h.r2.past (fun y => ⟨_, rfl, solid_int _ _⟩) hb hc hne hs⟩
theorem RvAt.past {w w' : World} {x : RvW} {s : SpecV} {T : List Ent} {b : Nat} {c : Array Value} {ty : TypeId} {fz : Nat × Nat} (h : RvAt w x s T) (hb : w.heap[b]? = some (.cells c ty fz)) (hc : ∀ v ∈ c, ¬ Solid v) (hne : ∀ j, j < w.heap.size → j ≠ b → w'.heap[j]? = w.heap[j]?) (hs : w.heap.size ≤ w'.heap.size) : RvAt w' x s T :=
  ⟨⟨h.t.n1, h.t.r1.past (fun y => ⟨_, rfl, .inr ⟨_, rfl⟩⟩) hb hc hne hs, h.t.k1, h.t.n2, h.t.r2.past (fun y => ⟨_, rfl, solid_int _ _⟩) hb hc hne hs, h.t.k2⟩, h.b.past hb hc hne hs, h.sn, h.sr.past (fun y => ⟨_, rfl, solid_int _ _⟩) hb hc hne hs, h.ok, h.right, h.ids, h.nodup⟩
abbrev rv0 : RvW := ⟨⟨sl0, sl0⟩, ⟨sl0, sl0⟩, sl0⟩
theorem build_parts {s : SpecV} {T : List Ent} (h : buildV s = .ok T) (hr : s.ranked = false) : tokNew begins 0 s.merges = .ok T ∧ markErr [] 0 s.specials = none ∧ (∀ y ∈ s.specials, (T.length : Int) ≤ y.1) := by
  unfold buildV loadT at h
  rw [hr] at h
  simp only [Bool.false_eq_true, if_false] at h
  cases ht : tokNew begins 0 s.merges with
  | error q => rw [ht] at h; cases h
  | ok T' =>
    rw [ht] at h
    dsimp only at h
    cases hm : markErr [] 0 s.specials with
    | some q => rw [hm] at h; cases h
    | none =>
      rw [hm] at h
      dsimp only at h
      cases hf : s.specials.findIdx? (fun y => decide (y.1 < (T'.length : Int))) with
      | some i => rw [hf] at h; cases h
      | none =>
        rw [hf] at h
        cases h
        refine ⟨rfl, rfl, fun y hy => ?_⟩
        have := List.findIdx?_eq_none_iff.1 hf y hy
        simpa using this
theorem refVNew_spec (w : World) (x : SpecW) (s : SpecV) (h : SpecAt w x s) (hr : s.ranked = false) (hright : s.right = true) (T : List Ent) (hT : buildV s = .ok T) :
    Calls Tryz.prog 87 #[x.v] w fun e w' => ∃ y : RvW, e = .returned (.tuple #[y.v, .int .i64 0, .int .i64 0, .int .i64 0]) ∧ RvAt w' y s T ∧ Below w.heap.size w w' ∧ Fresh w.heap.size y.t ∧ y.b = ⟨x.s4, x.s5⟩ ∧ y.sp = x.s3 := by
  obtain ⟨hT1, hT2, hT3⟩ := build_parts hT hr
  have hsm := right_small hright
  have hnd : (s.specials.map (·.1)).Nodup := by simpa using markErr_nodup hT2 (by simp)
  refine calls_ret (vc87_calls x.ranked x.s1.a x.s1.n x.s1.c x.s2.a x.s2.n x.s2.c x.s3.a x.s3.n x.s3.c x.s4.a x.s4.n x.s4.c x.s5.a x.s5.n x.s5.c w (fun u w' => ∃ y : RvW, u = .tuple #[y.v, .int .i64 0, .int .i64 0, .int .i64 0] ∧ RvAt w' y s T ∧ Below w.heap.size w w' ∧ Fresh w.heap.size y.t ∧ y.b = ⟨x.s4, x.s5⟩ ∧ y.sp = x.s3) ?_) (by rintro v w' ⟨y, rfl, h⟩; exact ⟨y, rfl, h⟩)
  intro w1 hw1 w2 hw2
  have hb1 : Below w.heap.size w w1 := by subst hw1; exact below_alloc _ _
  have b2 : Below w1.heap.size w1 w2 := by subst hw2; exact below_alloc _ _
  have hb2 := below_then hb1 b2
  have p2 : w2.heap[w.heap.size]? = some (.cells x.cells tSpec (0, 0)) := held_on b2 (by subst hw1; exact alloc_new _ _)
  have z2 : w2.heap[w1.heap.size]? = some (.cells rv0.cells tRv (0, 0)) := by subst hw2; exact alloc_new _ _
  refine ⟨_, _, _, _, _, _, _, _, _, _, _, _, _, _, _, _, agg_cells p2, ?_⟩
  refine (refLoad_spec w2 x s (h.on hb2) hr hsm.1).mono ?_
  rintro e w3 ⟨u, rfl, t, n, e, rfl, b3, hp⟩
  rw [hT1] at hp
  obtain ⟨rfl, rfl, ht, htok, hfr⟩ := hp
  refine ⟨_, _, _, _, _, _, _, _, rfl, ?_⟩
  intro w4 hw4
  refine storeP_new [sl0.v, sl0.v] [t.b.v, t.m.v] rfl (ones_slices _ _) w4 hw4 ?_
  intro w5 h5 hz5 b5
  have b35 := below_then b3 b5
  have hb5 := below_then hb2 b35
  have p5 := held_on b35 p2
  have z5 := held_on b35 z2
  refine CondP.no rfl ⟨_, _, _, ptr_add0 _ _ p5 3, ?_⟩
  have hn3 := h.n3
  have hS := (h.on hb5).r3
  obtain ⟨⟨a3, n3, c3⟩, hx3⟩ : ∃ y : Sl, y = x.s3 := ⟨_, rfl⟩
  have e3 : n3 = s.specials.length := by rw [← hx3] at hn3; exact hn3
  have hS' : Rw encSpecial 2 w5 a3 s.specials := by rw [← hx3] at hS; exact hS
  rw [show x.s3.a = a3 by rw [← hx3], show x.s3.n = s.specials.length from hn3, show x.s3.c = c3 by rw [← hx3]]
  refine (refCheck_spec w5 a3 c3 s.specials hS' hsm.2.2.1).mono ?_
  rintro e w7 ⟨rfl, b7⟩
  have hck : checkV s.specials = .tuple #[.int .i64 (s.specials.length : Int), .int .i64 0] := by rw [checkV, hT2]
  refine ⟨_, _, by rw [hck], CondP.no rfl ?_⟩
  have hb7 := below_then hb5 b7
  intro I hI
  have key := climb2 (α := Int × Int × Int × World) s.specials.length (fun i y => Below w7.heap.size w7 y.2.2.2) (fun i y => I [.int .i64 (i : Int), .int .i64 y.1, .int .i64 y.2.1, .int .i64 y.2.2.1] y.2.2.2) (0, 0, 0, w7) (Below.refl _ _) ?_ ?_
  · exact key
  · rintro i hi ih ⟨y5, y4, y3, q⟩ hB
    change Below w7.heap.size w7 q at hB
    have pq := held_on hB (held_on b7 p5)
    have hfew := hsm.2.2.1
    refine hI _ y5 y4 y3 q ⟨_, _, _, ptr_add0 _ _ pq 3, CondP.yes (by simp; omega) ?_⟩
    intro w10 hw10
    have b10 : Below q.heap.size q w10 := by subst hw10; exact drew_on q
    have hB10 := below_then hB b10
    obtain ⟨p, hp, _, hc⟩ := ((h.on (below_then hb7 hB10)).r3) i _ (List.getElem?_eq_getElem hi)
    refine ⟨_, _, _, ptr_add0 _ _ (held_on b10 pq) 3, NilC.mk p hp ⟨by omega, by omega, _, hc 0 _ rfl, _, _, _, ptr_add0 _ _ (held_on hB10 (held_on b7 h5)) 0, CondP.no ?_ (Ar.nat (i + 1) rfl (by omega) (ih (y5, y4, y3, w10) hB10))⟩⟩
    have := hT3 _ (List.getElem_mem hi)
    have := ht.n1
    exact decide_eq_false (by omega)
  · rintro ⟨y5, y4, y3, q⟩ hB
    change Below w7.heap.size w7 q at hB
    have pq := held_on hB (held_on b7 p5)
    have zq := held_on hB (held_on b7 z5)
    have tq := held_on hB (held_on b7 h5)
    have hbq := below_then hb7 hB
    have hq := h.on hbq
    refine hI _ y5 y4 y3 q ⟨_, _, _, ptr_add0 _ _ pq 3, CondP.no (by simp; omega) ⟨_, _, _, _, _, _, agg2 tq, _, _, _, ptr_add0 _ _ pq 4, _, _, _, ptr_add0 _ _ pq 5, _, _, _, ptr_add0 _ _ pq 3, ?_⟩⟩
    refine storeP_cells zq (slRv ⟨t, ⟨x.s4, x.s5⟩, x.s3⟩) rfl (ones_rv ⟨t, ⟨x.s4, x.s5⟩, x.s3⟩) ?_
    intro w12 h12 hs12 hz12 hB12
    have hv : RvAt q ⟨t, ⟨x.s4, x.s5⟩, x.s3⟩ s T := ⟨((ht.on b5).on b7).on hB, ⟨hq.n4, hq.r4, hq.n5, hq.r5⟩, hq.n3, hq.r3, htok, hright, hT3, hnd⟩
    exact ⟨_, _, _, _, _, _, _, _, _, _, _, _, _, _, _, agg5 (x := ⟨t, ⟨x.s4, x.s5⟩, x.s3⟩) h12, ⟨t, ⟨x.s4, x.s5⟩, x.s3⟩, rfl, hv.past zq (soft_rv rv0) (fun j _ hj => hs12 j hj) (Nat.le_of_eq hz12.symm), hB12 _ _ hb1.size hbq, hfr.mono hb2.size, rfl, rfl⟩
theorem refOf_spec (w : World) (x : SpecW) (s : SpecV) (h : SpecAt w x s) (hr : s.ranked = false) (hright : s.right = true) (T : List Ent) (hT : buildV s = .ok T) :
    Calls Tryz.prog 55 #[x.v] w fun e w' => ∃ y : RvW, e = .returned y.v ∧ RvAt w' y s T ∧ Below w.heap.size w w' ∧ Fresh w.heap.size y.t ∧ y.b = ⟨x.s4, x.s5⟩ ∧ y.sp = x.s3 := by
  refine calls_ret (vc55_calls x.ranked x.s1.a x.s1.n x.s1.c x.s2.a x.s2.n x.s2.c x.s3.a x.s3.n x.s3.c x.s4.a x.s4.n x.s4.c x.s5.a x.s5.n x.s5.c w (fun u w' => ∃ y : RvW, u = y.v ∧ RvAt w' y s T ∧ Below w.heap.size w w' ∧ Fresh w.heap.size y.t ∧ y.b = ⟨x.s4, x.s5⟩ ∧ y.sp = x.s3) ?_) (by rintro v w' ⟨y, rfl, h⟩; exact ⟨y, rfl, h⟩)
  intro w1 hw1 w2 hw2
  have hb1 : Below w.heap.size w w1 := by subst hw1; exact below_alloc _ _
  have b2 : Below w1.heap.size w1 w2 := by subst hw2; exact below_alloc _ _
  have hb2 := below_then hb1 b2
  have p2 : w2.heap[w.heap.size]? = some (.cells x.cells tSpec (0, 0)) := held_on b2 (by subst hw1; exact alloc_new _ _)
  have z2 : w2.heap[w1.heap.size]? = some (.cells rv0.cells tRv (0, 0)) := by subst hw2; exact alloc_new _ _
  refine ⟨_, _, _, _, _, _, _, _, _, _, _, _, _, _, _, _, agg_cells p2, ?_⟩
  refine (refVNew_spec w2 x s (h.on hb2) hr hright T hT).mono ?_
  rintro e w3 ⟨y, rfl, hy, b3, f3, e1, e2⟩
  refine ⟨_, _, _, _, _, _, _, _, _, _, _, _, _, _, _, _, _, _, rfl, ?_⟩
  intro w4 hw4
  refine storeP_new (slRv rv0) (slRv y) rfl (ones_rv y) w4 hw4 ?_
  intro w5 h5 hz5 b5
  have b35 := below_then b3 b5
  have z5 := held_on b35 z2
  refine ⟨_, _, _, _, _, _, _, _, _, _, _, _, _, _, _, agg5 (x := y) h5, ?_⟩
  refine storeP_cells z5 (slRv y) rfl (ones_rv y) ?_
  intro w6 h6 hs6 hz6 hB6
  exact ⟨_, _, _, _, _, _, _, _, _, _, _, _, _, _, _, agg5 (x := y) h6, y, rfl, (hy.on b5).past z5 (soft_rv rv0) (fun j _ hj => hs6 j hj) (Nat.le_of_eq hz6.symm), hB6 _ _ hb1.size (below_then hb2 b35), f3.mono hb2.size, e1, e2⟩
end Go.Proofs.YtpklkijdlnioaaaGreat.Eng
