/- The detector walked: tokens that are fed in portions. -/
import Derived.Test.YtpklkijdlnioaaaGreatRk
import Derived.Test.YtpklkijdlnioaaaGreatNn
set_option linter.unusedVariables false
set_option linter.unusedSimpArgs false
set_option maxRecDepth 100000
namespace Go.Proofs.YtpklkijdlnioaaaGreat.Eng
open Go Go.RowKit

/-! ### What stands behind the last token -/
theorem Voc.canon_tail {V : Voc} (h : V.Ok) {init : List Int} {l : Int} (hI : ∀ x ∈ init ++ [l], V.Has x) (hc : V.Canon (init ++ [l])) : ∀ (n : Nat) (P : List Int), P.length = n → (∀ x ∈ P, V.Has x) → (V.Canon (init ++ [l] ++ P) ↔ V.Canon ([l] ++ P))
  | 0, P, hP, _ => by
    have : P = [] := List.eq_nil_of_length_eq_zero hP
    subst this
    rw [List.append_nil, List.append_nil]
    exact ⟨fun _ => (Voc.canon_append h hI hc).2, fun _ => hc⟩
  | n + 1, P, hP, hh => by
    rcases List.eq_nil_or_concat P with e | ⟨Q, t, e⟩
    · subst e
      cases hP
    · rw [List.concat_eq_append] at e
      subst e
      rw [List.length_append, List.length_singleton] at hP
      have hQ : ∀ x ∈ Q, V.Has x := fun x hx => hh x (by simp [hx])
      have ih := Voc.canon_tail h hI hc n Q (by omega) hQ
      have hT : V.Has t := hh t (by simp)
      have hl : V.Has l := hI l (by simp)
      obtain ⟨m, i1, i2, e1, e2⟩ : ∃ m i1 i2, init ++ [l] ++ Q = i1 ++ [m] ∧ [l] ++ Q = i2 ++ [m] := by
        rcases List.eq_nil_or_concat Q with e | ⟨R, m, e⟩
        · subst e
          exact ⟨l, init, [], by simp, rfl⟩
        · rw [List.concat_eq_append] at e
          subst e
          exact ⟨m, init ++ [l] ++ R, [l] ++ R, by simp, by simp⟩
      have h1 : ∀ x ∈ init ++ [l] ++ Q, V.Has x := by
        intro x hx
        rcases List.mem_append.1 hx with hx | hx
        · exact hI x hx
        · exact hQ x hx
      have h2 : ∀ x ∈ [l] ++ Q, V.Has x := by
        intro x hx
        rcases List.mem_append.1 hx with hx | hx
        · rw [List.mem_singleton.1 hx]; exact hl
        · exact hQ x hx
      have h3 : ∀ x ∈ init ++ [l] ++ Q ++ [t], V.Has x := by
        intro x hx
        rcases List.mem_append.1 hx with hx | hx
        · exact h1 x hx
        · rw [List.mem_singleton.1 hx]; exact hT
      have h4 : ∀ x ∈ [l] ++ Q ++ [t], V.Has x := by
        intro x hx
        rcases List.mem_append.1 hx with hx | hx
        · exact h2 x hx
        · rw [List.mem_singleton.1 hx]; exact hT
      rw [← List.append_assoc, ← List.append_assoc]
      by_cases hZ : V.Canon (init ++ [l] ++ Q)
      · have hZ2 := ih.1 hZ
        rw [e1] at hZ h1 ⊢
        rw [e2] at hZ2 h2 ⊢
        rw [Voc.canon_more h h1 hZ hT, Voc.canon_more h h2 hZ2 hT]
      · exact ⟨fun e => absurd (Voc.canon_append h h3 e).1 hZ, fun e => absurd (ih.2 (Voc.canon_append h h4 e).1) hZ⟩
def lastOf (all : List Int) : List Int := all.drop (all.length - 1)
theorem lastOf_cases (all : List Int) : (all = [] ∧ lastOf all = []) ∨ ∃ init l, all = init ++ [l] ∧ lastOf all = [l] := by
  rcases List.eq_nil_or_concat all with e | ⟨i, l, e⟩
  · exact .inl ⟨e, by rw [e]; rfl⟩
  · rw [List.concat_eq_append] at e
    refine .inr ⟨i, l, e, ?_⟩
    rw [lastOf, e, List.length_append, List.length_singleton, Nat.add_sub_cancel, List.drop_left]
theorem first_tail {V : Voc} (h : V.Ok) {all ids : List Int} (hc : V.Canon all) (hA : ∀ x ∈ all, V.Has x) (hh : ∀ x ∈ ids, V.Has x) {o : Option Nat} (ho : FirstIs V (lastOf all ++ ids) o) : FirstIs V (all ++ ids) (o.map (· + (all.length - (lastOf all).length))) := by
  rcases lastOf_cases all with ⟨rfl, e⟩ | ⟨init, l, rfl, e⟩
  · rw [e] at ho ⊢
    cases o with
    | none => exact ho
    | some k => exact ho
  · rw [e] at ho ⊢
    have tail := fun P hP => Voc.canon_tail h hA hc P.length P rfl hP
    cases o with
    | none => exact (tail ids hh).2 ho
    | some k =>
      obtain ⟨h1, h2, h3⟩ := ho
      obtain ⟨j, rfl⟩ : ∃ j, k = j + 1 := by
        cases k with
        | zero => exact absurd (Voc.canon_append h hA hc).2 h3
        | succ j => exact ⟨j, rfl⟩
      have hl : (init ++ [l]).length = init.length + 1 := by simp
      have tk : ∀ n, (init ++ [l] ++ ids).take (n + (init.length + 1)) = init ++ [l] ++ ids.take n := by
        intro n
        rw [List.take_append, hl, List.take_of_length_le (by rw [hl]; omega), show n + (init.length + 1) - (init.length + 1) = n by omega]
      have tk2 : ∀ n, ([l] ++ ids).take (n + 1) = [l] ++ ids.take n := fun n => rfl
      have sub : ∀ n x, x ∈ ids.take n → V.Has x := fun n x hx => hh x (List.mem_of_mem_take hx)
      rw [tk2] at h2 h3
      show j + 1 + ((init ++ [l]).length - 1) < _ ∧ V.Canon (List.take (j + 1 + ((init ++ [l]).length - 1)) _) ∧ ¬ V.Canon (List.take (j + 1 + ((init ++ [l]).length - 1) + 1) _)
      rw [hl, show j + 1 + (init.length + 1 - 1) = j + (init.length + 1) by omega, show j + (init.length + 1) + 1 = j + 1 + (init.length + 1) by omega, tk, tk]
      refine ⟨?_, (tail _ (sub j)).2 h2, fun e => h3 ((tail _ (sub (j + 1))).1 e)⟩
      rw [List.length_append] at h1 ⊢
      rw [hl]
      simp at h1
      omega
theorem first_more {V : Voc} {all ids : List Int} {k : Nat} (h : FirstIs V all (some k)) : FirstIs V (all ++ ids) (some k) := by
  obtain ⟨h1, h2, h3⟩ := h
  refine ⟨by rw [List.length_append]; omega, ?_, ?_⟩
  · rw [List.take_append_of_le_length (by omega)]
    exact h2
  · rw [List.take_append_of_le_length (by omega)]
    exact h3
theorem first_unique {V : Voc} (hV : V.Ok) {ids : List Int} (hh : ∀ t ∈ ids, V.Has t) {o o' : Option Nat} (h : FirstIs V ids o) (h' : FirstIs V ids o') : o = o' := by
  have down : ∀ {n m : Nat}, n ≤ m → V.Canon (ids.take m) → V.Canon (ids.take n) := by
    intro n m hnm hc
    have : ids.take m = ids.take n ++ (ids.take m).drop n := by
      conv => lhs; rw [← List.take_append_drop n (ids.take m)]
      rw [List.take_take, Nat.min_eq_left hnm]
    rw [this] at hc
    exact (Voc.canon_append hV (fun t ht => hh t (by rw [← this] at ht; exact List.mem_of_mem_take ht)) hc).1
  have whole : V.Canon ids → ∀ n, V.Canon (ids.take n) := by
    intro hc n
    by_cases hn : n ≤ ids.length
    · exact down hn (by rw [List.take_length]; exact hc)
    · rw [List.take_of_length_le (by omega)]
      exact hc
  cases o with
  | none =>
    cases o' with
    | none => rfl
    | some k => exact absurd (whole h _) h'.2.2
  | some k =>
    cases o' with
    | none => exact absurd (whole h' _) h.2.2
    | some k' =>
      obtain ⟨_, h1, h2⟩ := h
      obtain ⟨_, h3, h4⟩ := h'
      congr 1
      rcases Nat.lt_trichotomy k k' with e | e | e
      · exact absurd (down (by omega) h3) h2
      · exact e
      · exact absurd (down (by omega) h1) h4

/-! ### The detector in memory -/
abbrev tDet : TypeId := 96
theorem Touch.set {v d j : Nat} {a b : World} (t : Touch v a b) (hd : a.heap.size ≤ d) (u : Value) : Touch v a (b.setCell ((⟨d, 0, none⟩ : Addr).add j) u) :=
  ⟨t.os, t.tape, t.output, by rw [size_setCell]; exact t.size, fun k hk hv => by rw [heap_setCell_ne (by rw [add_block]; show k ≠ d; omega)]; exact t.block k hk hv⟩
theorem VocIs.set {w : World} {v d j : Nat} {s : SpecV} {T : List Ent} (h : VocIs w v s T) {c : Array Value} {e : TypeId} (hd : w.heap[d]? = some (.cells c e (0, 0))) (he : tBool ≠ e) (hv : v < d) (u : Value) : VocIs (w.setCell ((⟨d, 0, none⟩ : Addr).add j) u) v s T := by
  obtain ⟨w0, x, tp, bp, mp, q, l, uses, hR⟩ := h
  have hlt := hR.lt
  refine ⟨w0, x, tp, bp, mp, q, l, uses, hR.parts, below_put hR.below (by omega) u, hlt, by rw [heap_setCell_ne (by rw [add_block]; show v ≠ d; omega)]; exact hR.blk, ?_⟩
  rcases hR.once with h | ⟨h1, h2, h3⟩
  · exact .inl h
  · exact .inr ⟨h1, h2, own_setCell h3 u (by rw [add_block]; exact row_ne_blk h3 hd he)⟩
structure DetRaw (w0 q : World) (d v : Nat) (s : SpecV) (T : List Ent) (last : Sl) (lst : List Int) (cnt off : Int) : Prop where
  voc : VocIs q v s T
  t : Touch v w0 q
  ld : w0.heap.size ≤ d
  lv : v < w0.heap.size
  blk : q.heap[d]? = some (.cells #[.pointer (some ⟨v, 0, none⟩), last.v, .int .i64 cnt, .int .i64 off] tDet (0, 0))
  own : q.ownsRow w0.heap.size tInt 1 last.v last.n (lst.flatMap encInt)
variable {w0 q q' : World} {d v : Nat} {s : SpecV} {T : List Ent} {last : Sl} {lst : List Int} {cnt off : Int}
theorem DetRaw.on (h : DetRaw w0 q d v s T last lst cnt off) (hb : Below q.heap.size q q') : DetRaw w0 q' d v s T last lst cnt off :=
  ⟨h.voc.on hb, h.t.trans (Touch.of_below hb), h.ld, h.lv, held_on hb h.blk, own_on h.own hb⟩
theorem VocIs.blk_row {q : World} {v : Nat} {s : SpecV} {T : List Ent} (h : VocIs q v s T) {B : Nat} {e : TypeId} {sz n : Nat} {u : Value} {xs : List Value} (ho : q.ownsRow B e sz u n xs) (he : e ≠ tVocab) : u.ownBlock ≠ some v := by
  obtain ⟨w0, x, tp, bp, mp, d, l, uses, hR⟩ := h
  exact row_ne_blk ho hR.blk he
theorem DetRaw.touch (h : DetRaw w0 q d v s T last lst cnt off) (t : Touch v q q') (hV : VocIs q' v s T) : DetRaw w0 q' d v s T last lst cnt off :=
  ⟨hV, h.t.trans t, h.ld, h.lv, t.held (by have := h.ld; have := h.lv; omega) h.blk, t.own h.own (h.voc.blk_row h.own (by decide))⟩
theorem DetRaw.off_d (h : DetRaw w0 q d v s T last lst cnt off) : last.v.ownBlock ≠ some d := row_ne_blk h.own h.blk (by decide)
theorem DetRaw.set_off (h : DetRaw w0 q d v s T last lst cnt off) (n : Int) : DetRaw w0 (q.setCell ((⟨d, 0, none⟩ : Addr).add 3) (.int .i64 n)) d v s T last lst cnt n :=
  ⟨h.voc.set h.blk (by decide) (by have := h.ld; have := h.lv; omega) _, h.t.set h.ld _, h.ld, h.lv, heap_put h.blk _, own_setCell h.own _ (by rw [add_block]; exact h.off_d)⟩
theorem DetRaw.set_cnt (h : DetRaw w0 q d v s T last lst cnt off) (n : Int) : DetRaw w0 (q.setCell ((⟨d, 0, none⟩ : Addr).add 2) (.int .i64 n)) d v s T last lst n off :=
  ⟨h.voc.set h.blk (by decide) (by have := h.ld; have := h.lv; omega) _, h.t.set h.ld _, h.ld, h.lv, heap_put h.blk _, own_setCell h.own _ (by rw [add_block]; exact h.off_d)⟩
theorem DetRaw.set_last (h : DetRaw w0 q d v s T last lst cnt off) {l2 : Sl} {m : List Int} (ho : q.ownsRow w0.heap.size tInt 1 l2.v l2.n (m.flatMap encInt)) : DetRaw w0 (q.setCell ((⟨d, 0, none⟩ : Addr).add 1) l2.v) d v s T l2 m cnt off :=
  ⟨h.voc.set h.blk (by decide) (by have := h.ld; have := h.lv; omega) _, h.t.set h.ld _, h.ld, h.lv, heap_put h.blk _, own_setCell ho _ (by rw [add_block]; exact row_ne_blk ho h.blk (by decide))⟩
/-- Whatever else there is stays. -/
def Keeps (v d : Nat) (q q' : World) : Prop := ∀ k, k < q.heap.size → k ≠ v → k ≠ d → q'.heap[k]? = q.heap[k]?
theorem Keeps.of_below (h : Below q.heap.size q q') : Keeps v d q q' := fun k hk _ _ => h.block k hk
theorem Keeps.of_touch (h : Touch v q q') : Keeps v d q q' := fun k hk hv _ => h.block k hk hv
theorem Keeps.trans {a b c : World} (h : Keeps v d a b) (hs : a.heap.size ≤ b.heap.size) (k : Keeps v d b c) : Keeps v d a c := fun i hi hv hd => (k i (Nat.lt_of_lt_of_le hi hs) hv hd).trans (h i hi hv hd)
theorem Keeps.set (h : Keeps v d q q') (j : Nat) (u : Value) : Keeps v d q (q'.setCell ((⟨d, 0, none⟩ : Addr).add j) u) := fun i hi hv hd => by rw [heap_setCell_ne (by rw [add_block]; exact hd)]; exact h i hi hv hd
theorem look_spec (h : DetRaw w0 q d v s T last lst cnt (-1)) (hcl : (lst.length : Int) ≤ cnt) (hcb : cnt ≤ 1000000) (hll : lst.length ≤ 1) (hlh : ∀ t ∈ lst, (vocOf s T).Has t) (A : Option Addr) (C : Nat) (ids : List Int) (hr : Rw encInt 1 w0 A ids) (hA : ids ≠ [] → ∀ p, A = some p → p.block ≠ v) (hk : SlOk ⟨A, ids.length, C⟩) (hl : ids.length ≤ 1000) (hh : ∀ t ∈ ids, (vocOf s T).Has t) :
    Calls Tryz.prog 63 #[.pointer (some ⟨d, 0, none⟩), .slice A ids.length C] q fun e q' => e = .returned (.tuple #[]) ∧ q.heap.size ≤ q'.heap.size ∧ Keeps v d q q' ∧ ∃ o, FirstIs (vocOf s T) (lst ++ ids) o ∧ DetRaw w0 q' d v s T last lst cnt (placeV (o.map (· + (cnt.toNat - lst.length)))) := by
  refine calls_ret (vc63_calls (some ⟨d, 0, none⟩) A ids.length C q (fun u q' => u = .tuple #[] ∧ q.heap.size ≤ q'.heap.size ∧ Keeps v d q q' ∧ ∃ o, FirstIs (vocOf s T) (lst ++ ids) o ∧ DetRaw w0 q' d v s T last lst cnt (placeV (o.map (· + (cnt.toNat - lst.length))))) ?_) (by rintro v w' ⟨rfl, h⟩; exact ⟨rfl, h⟩)
  have hls := LsAt.of_own elInt h.own
  have hln := hls.n
  obtain ⟨la, ln, lc⟩ := last
  change ln = lst.length at hln
  subst hln
  refine NilC.mk _ rfl ⟨_, _, _, ptr_add0 _ _ h.blk 1, ?_⟩
  refine (cloneI_spec q la lc lst hls.r (by omega)).mono ?_
  rintro e q1 ⟨s1, rfl, hs1, ho1, b1⟩
  have h1 := h.on b1
  have hids : ∀ {z : World}, Touch v w0 z → LsAt encInt 1 z ⟨A, ids.length, C⟩ ids := fun t => ⟨rfl, hr.touch t hA, hk⟩
  obtain ⟨r, q2, g1, g2, g3, g4, _⟩ := elInt.spread ho1 (hids h1.t) b1.size (by omega) (by show ids.length ≤ _; omega) (by decide)
  have b2 := g4 q b1
  have h2 := h.on b2
  have hr2 := LsAt.of_own elInt g3
  have hrn := hr2.n
  have hd := h.ld
  have hv := h.lv
  have hz := h.t.size
  refine ⟨_, _, _, rfl, r.a, r.n, r.c, q2, g2, NilC.mk _ rfl ⟨_, ptr_add0 _ _ h2.blk 0, ?_⟩⟩
  obtain ⟨ra, rn, rc⟩ := r
  change rn = _ at hrn
  subst hrn
  have hh2 : ∀ t ∈ lst ++ ids, (vocOf s T).Has t := fun t ht => (List.mem_append.1 ht).elim (hlh t) (hh t)
  refine (first_spec q2 v s T h2.voc ra rc (lst ++ ids) hr2.r (fun _ p hp => by have := own_fresh g3 p hp; omega) (by rw [List.length_append]; omega) hh2).mono ?_
  rintro e q3 ⟨o, rfl, ho, hV3, t3⟩
  have h3 := h2.touch t3 hV3
  have k3 : Keeps v d q q3 := (Keeps.of_below b2).trans b2.size (Keeps.of_touch t3)
  have z3 : q.heap.size ≤ q3.heap.size := Nat.le_trans b2.size t3.size
  cases o with
  | none => exact ⟨0, false, rfl, CondP.no rfl ⟨rfl, z3, k3, none, ho, h3⟩⟩
  | some k =>
    refine ⟨(k : Int), true, rfl, CondP.yes rfl ?_⟩
    intro q4 hq4
    have b4 : Below q3.heap.size q3 q4 := by subst hq4; exact drew_on q3
    have h4 := h3.on b4
    have hkl : k ≤ 1001 := by have := ho.1; rw [List.length_append] at this; omega
    refine NilC.mk _ rfl ⟨_, ptr_add0 _ _ h4.blk 2, NilC.mk _ rfl ⟨_, _, _, ptr_add0 _ _ h4.blk 1, Ar.ok64 (by show _ ≤ cnt - (lst.length : Int); omega) (by show cnt - (lst.length : Int) ≤ _; omega) (Ar.ok64 (by show _ ≤ cnt - (lst.length : Int) + (k : Int); omega) (by show cnt - (lst.length : Int) + (k : Int) ≤ _; omega) (NilC.mk _ rfl ⟨rfl, ⟨_, ptr_add0 _ _ h4.blk 3⟩, frozen_put h4.blk, ?_⟩))⟩⟩
    intro q5 hq5
    subst hq5
    refine ⟨rfl, by rw [size_setCell]; exact Nat.le_trans z3 b4.size, (k3.trans z3 (Keeps.of_below b4)).set 3 _, some k, ho, ?_⟩
    have e : placeV ((some k).map (· + (cnt.toNat - lst.length))) = cnt - (lst.length : Int) + (k : Int) := by
      show ((k + (cnt.toNat - lst.length) : Nat) : Int) = _
      omega
    rw [e]
    exact h4.set_off _
structure DetAt (w0 q : World) (d v : Nat) (s : SpecV) (T : List Ent) (all : List Int) (o : Option Nat) (last : Sl) : Prop where
  raw : DetRaw w0 q d v s T last (lastOf all) all.length (placeV o)
  has : ∀ t ∈ all, (vocOf s T).Has t
  first : FirstIs (vocOf s T) all o
theorem DetAt.on {all : List Int} {o : Option Nat} (h : DetAt w0 q d v s T all o last) (hb : Below q.heap.size q q') : DetAt w0 q' d v s T all o last := ⟨h.raw.on hb, h.has, h.first⟩
theorem DetAt.t {all : List Int} {o : Option Nat} (h : DetAt w0 q d v s T all o last) : Touch v w0 q := h.raw.t
theorem lastOf_append (all : List Int) {ids : List Int} (h : ids ≠ []) : lastOf (all ++ ids) = ids.drop (ids.length - 1) := by
  have : 0 < ids.length := List.length_pos_iff.2 h
  rw [lastOf, List.length_append, List.drop_append, List.drop_eq_nil_of_le (by omega), show all.length + ids.length - 1 - all.length = ids.length - 1 by omega]
  rfl
theorem lastOf_sub {all : List Int} {t : Int} (h : t ∈ lastOf all) : t ∈ all := List.mem_of_mem_drop h
theorem lastOf_len (all : List Int) : (lastOf all).length ≤ 1 ∧ (lastOf all).length ≤ all.length := by
  rw [lastOf, List.length_drop]
  omega
def FeedR (w0 : World) (q : World) (d v : Nat) (s : SpecV) (T : List Ent) (all : List Int) (o : Option Nat) (last : Sl) (ids : List Int) (u : Value) (q' : World) : Prop :=
  q.heap.size ≤ q'.heap.size ∧ Keeps v d q q' ∧ ∃ last' : Sl, (last' = last ∨ ∀ k, last'.v.ownBlock = some k → q.heap.size ≤ k) ∧ ((badId s T ids ≥ 0 ∧ u = .tuple #[.int .i64 (badId s T ids), .int .i64 4] ∧ DetAt w0 q' d v s T all o last') ∨ (¬ badId s T ids ≥ 0 ∧ ∃ o', u = .tuple #[.int .i64 (placeV o'), .int .i64 0] ∧ DetAt w0 q' d v s T (all ++ ids) o' last'))
theorem feed_spec {all : List Int} {o : Option Nat} (h : DetAt w0 q d v s T all o last) (hVok : (vocOf s T).Ok) (hTok : TOk T) (hf : all.length ≤ 100000) (A : Option Addr) (C : Nat) (ids : List Int) (hr : Rw encInt 1 w0 A ids) (hA : ids ≠ [] → ∀ p, A = some p → p.block ≠ v) (hk : SlOk ⟨A, ids.length, C⟩) (hC : ids.length ≤ C) (hl : ids.length ≤ 1000) :
    Calls Tryz.prog 25 #[.pointer (some ⟨d, 0, none⟩), .slice A ids.length C] q fun e q' => ∃ u, e = .returned u ∧ FeedR w0 q d v s T all o last ids u q' := by
  refine vc25_calls (some ⟨d, 0, none⟩) A ids.length C q (FeedR w0 q d v s T all o last ids) ?_
  intro w1 hw1
  have b1 : Below q.heap.size q w1 := by subst hw1; exact below_alloc _ _
  have l1 : w1.heap[q.heap.size]? = some (.cells #[.pointer (some ⟨d, 0, none⟩)] 52 (0, 0)) := by subst hw1; exact alloc_new _ _
  have h1 := h.on b1
  obtain ⟨hraw, hhas, hfirst⟩ := h1
  have hlq : d < q.heap.size := (Array.getElem?_eq_some_iff.1 h.raw.blk).1
  have hd := hraw.ld
  have hv := hraw.lv
  have cellL : ∀ {z : World}, z.heap[q.heap.size]? = some (.cells #[.pointer (some ⟨d, 0, none⟩)] 52 (0, 0)) → z.cell? (nb q) = some (.pointer (some ⟨d, 0, none⟩)) := fun hz => cell_heap hz
  refine ⟨_, cellL l1, CondP.no rfl ⟨_, cellL l1, NilC.mk _ rfl ⟨_, ptr_add0 _ _ hraw.blk 2, Ar.ok64 (by omega) (by omega) (CondP.no (decide_eq_false (by omega)) ?_)⟩⟩⟩
  refine (indexI_spec A C ids _ (fun id => !hasV2 s T id) w1 (hr.touch hraw.t hA) (by omega) ?_).mono ?_
  · intro id hid w2 hb2
    refine callG_of (by kernel_rfl) ?_
    refine calls_ret (vc61_calls id (some (nb q)) w2 (fun u w' => u = .bool (!hasV2 s T id) ∧ Below w2.heap.size w2 w') ?_) (by rintro v w' ⟨rfl, h⟩; exact ⟨rfl, h⟩)
    refine NilC.mk _ rfl ⟨_, cellL (held_on hb2 l1), NilC.mk _ rfl ⟨_, ptr_add0 _ _ (hraw.on hb2).blk 0, ?_⟩⟩
    refine ((hraw.on hb2).voc.has_call id).mono ?_
    rintro e w3 ⟨rfl, hw⟩
    subst hw
    exact ⟨_, rfl, rfl, Below.refl _ _⟩
  rintro e w2 ⟨rfl, b2⟩
  have hr2 := hraw.on b2
  have b12 := below_then b1 b2
  have l2 := held_on b2 l1
  refine ⟨_, rfl, CondP.mk (fun hbad => ⟨b12.size, Keeps.of_below b12, last, .inl rfl, .inl ⟨of_decide_eq_true hbad, rfl, hr2, hhas, hfirst⟩⟩) fun hbad => ?_⟩
  have hbad := of_decide_eq_false hbad
  have hids := badId_none hbad
  have hidsH : ∀ t ∈ ids, (vocOf s T).Has t := by
    intro t ht
    have := hids t ht
    unfold hasV2 at this
    rw [decide_eq_true_eq, tok_iff hTok] at this
    exact Or.comm.1 this
  intro J4 hJ4
  have hll := lastOf_len all
  have rest : ∀ (z : World) (o' : Option Nat), DetRaw w0 z d v s T last (lastOf all) all.length (placeV o') → FirstIs (vocOf s T) (all ++ ids) o' → z.heap[q.heap.size]? = some (.cells #[.pointer (some ⟨d, 0, none⟩)] 52 (0, 0)) → q.heap.size ≤ z.heap.size → Keeps v d q z → J4 [] z := by
    intro z o' hz hfz lz sz kz
    refine hJ4 z ⟨_, cellL lz, NilC.mk _ rfl ⟨_, ptr_add0 _ _ hz.blk 2, Ar.nat (all.length + ids.length) (by omega) (by omega) (NilC.mk _ rfl ⟨rfl, ⟨_, ptr_add0 _ _ hz.blk 2⟩, frozen_put hz.blk, ?_⟩)⟩⟩
    intro w4 hw4
    have h4 : DetRaw w0 w4 d v s T last (lastOf all) ((all.length + ids.length : Nat) : Int) (placeV o') := by subst hw4; exact hz.set_cnt _
    have k4 : Keeps v d q w4 := by subst hw4; exact kz.set 2 _
    have s4 : q.heap.size ≤ w4.heap.size := by subst hw4; rw [size_setCell]; exact sz
    have l4 : w4.heap[q.heap.size]? = some (.cells #[.pointer (some ⟨d, 0, none⟩)] 52 (0, 0)) := by
      subst hw4
      rw [heap_setCell_ne (by rw [add_block]; show q.heap.size ≠ d; omega)]
      exact lz
    intro J10 hJ10
    have hlen : (((all ++ ids).length : Nat) : Int) = ((all.length + ids.length : Nat) : Int) := by rw [List.length_append]
    have hallH : ∀ t ∈ all ++ ids, (vocOf s T).Has t := fun t ht => (List.mem_append.1 ht).elim (hhas t) (hidsH t)
    refine CondP.mk (fun h0 => ?_) fun h0 => ?_
    · have h0 := of_decide_eq_true h0
      have hne : ids ≠ [] := by rintro rfl; simp at h0
      intro w6 hw6
      have b6 : Below w4.heap.size w4 w6 := by subst hw6; exact drew_on w4
      have h6 := h4.on b6
      have e1 : ids.length - (ids.length - 1) = (ids.drop (ids.length - 1)).length := by rw [List.length_drop]
      refine ⟨_, cellL (held_on b6 l4), Ar.nat (ids.length - 1) (by omega) (by omega) ⟨by omega, by omega, trivial, trivial, trivial, ?_⟩⟩
      have hcl : Calls Tryz.prog 64 #[.slice (slBase A (ids.length - 1) C 1) (ids.length - (ids.length - 1)) (C - (ids.length - 1))] w6 fun e w' => ∃ s : Sl, e = .returned s.v ∧ s.n = (ids.drop (ids.length - 1)).length ∧ w'.ownsRow w6.heap.size tInt 1 s.v s.n ((ids.drop (ids.length - 1)).flatMap encInt) ∧ Below w6.heap.size w6 w' := by
        rw [e1]
        exact cloneI_spec w6 _ _ _ ((hr.touch h6.t hA).cut (ids.length - 1) C hC) (by rw [List.length_drop]; omega)
      refine hcl.mono ?_
      rintro e w7 ⟨l2, rfl, _, ho, b7⟩
      have h7 := h6.on b7
      have b47 := below_then b6 b7
      have hz6 := h6.t.size
      refine ⟨_, _, _, rfl, ⟨cellL (held_on b47 l4), trivial⟩, NilC.mk _ rfl ⟨rfl, ⟨_, ptr_add0 _ _ h7.blk 1⟩, frozen_put h7.blk, ?_⟩⟩
      intro w8 hw8
      subst hw8
      have h8 := h7.set_last (own_base ho hz6)
      refine hJ10 _ ⟨_, cellL (by rw [heap_setCell_ne (by rw [add_block]; show q.heap.size ≠ d; omega)]; exact held_on b47 l4), NilC.mk _ rfl ⟨_, ptr_add0 _ _ h8.blk 3, by rw [size_setCell]; exact Nat.le_trans s4 b47.size, (k4.trans s4 (Keeps.of_below b47)).set 1 _, l2, .inr fun k hk => Nat.le_trans (Nat.le_trans s4 b6.size) (own_lt ho k hk).1, .inr ⟨hbad, o', rfl, ?_, hallH, hfz⟩⟩⟩
      rw [lastOf_append all hne, hlen]
      exact h8
    · have h0 := of_decide_eq_false h0
      have he : ids = [] := List.eq_nil_of_length_eq_zero (by omega)
      refine hJ10 _ ⟨_, cellL l4, NilC.mk _ rfl ⟨_, ptr_add0 _ _ h4.blk 3, s4, k4, last, .inl rfl, .inr ⟨hbad, o', rfl, ?_, hallH, hfz⟩⟩⟩
      rw [hlen]
      have e2 : lastOf (all ++ ids) = lastOf all := by rw [he, List.append_nil]
      rw [e2]
      exact h4
  refine ⟨_, cellL l2, NilC.mk _ rfl ⟨_, ptr_add0 _ _ hr2.blk 3, CondP.mk (fun hm => ⟨_, cellL l2, ?_⟩) fun hm => ?_⟩⟩
  · have ho : o = none := by
      cases o with
      | none => rfl
      | some k =>
        have hm : placeV (some k) = -1 := by simpa using hm
        have : (k : Int) = -1 := hm
        omega
    subst ho
    refine (look_spec hr2 (by omega) (by omega) hll.1 (fun t ht => hhas t (lastOf_sub ht)) A C ids hr hA hk hl hidsH).mono ?_
    rintro e w9 ⟨rfl, s9, k9, o', ho', h9⟩
    have b12s := b12.size
    have hlt2 := (Array.getElem?_eq_some_iff.1 l2).1
    refine ⟨rfl, rest w9 _ h9 (first_tail hVok hfirst hhas hidsH ho') ?_ (Nat.le_trans b12s s9) ((Keeps.of_below b12).trans b12s k9)⟩
    rw [k9 _ hlt2 (by omega) (by omega)]
    exact l2
  · cases o with
    | none => simp [placeV] at hm
    | some k => exact rest w2 (some k) hr2 (first_more hfirst) l2 b12.size (Keeps.of_below b12)
end Go.Proofs.YtpklkijdlnioaaaGreat.Eng
