/- The reference's bounds and marks, walked by the engine. -/
import Derived.Test.YtpklkijdlnioaaaGreatZhRb
set_option linter.unusedVariables false
set_option linter.unusedSimpArgs false
set_option maxRecDepth 100000
namespace Go.Proofs.YtpklkijdlnioaaaGreat.Eng
open Go Go.RowKit
theorem refLoad_spec (w : World) (x : SpecW) (s : SpecV) (h : SpecAt w x s) (hr : s.ranked = false) (hl : s.merges.length ≤ 1000000) : Calls Tryz.prog 123 #[x.v] w fun e w' => ∃ u, e = .returned u ∧ RNewR w s.merges u w' := by
  refine vc123_calls x.ranked x.s1.a x.s1.n x.s1.c x.s2.a x.s2.n x.s2.c x.s3.a x.s3.n x.s3.c x.s4.a x.s4.n x.s4.c x.s5.a x.s5.n x.s5.c w (RNewR w s.merges) ?_
  intro w1 hw1 w2 hw2
  have hb1 : Below w.heap.size w w1 := by subst hw1; exact below_alloc _ _
  have b2 : Below w1.heap.size w1 w2 := by subst hw2; exact below_alloc _ _
  have hb2 := below_then hb1 b2
  have p1 : w1.heap[w.heap.size]? = some (.cells x.cells tSpec (0, 0)) := by subst hw1; exact alloc_new _ _
  have p2 := held_on b2 p1
  have l2 : w2.heap[w1.heap.size]? = some (.cells #[sl0.v, sl0.v] tRt (0, 0)) := by subst hw2; exact alloc_new _ _
  refine ⟨_, ptr_add0 _ _ p2 0, CondP.no (by rw [h.ranked, hr]) ⟨_, _, _, ptr_add0 _ _ p2 1, ?_⟩⟩
  have hn := h.n1
  obtain ⟨⟨a, n, c⟩, hx⟩ : ∃ y : Sl, y = x.s1 := ⟨_, rfl⟩
  rw [← hx] at hn ⊢
  change n = s.merges.length at hn
  subst hn
  have hr2 : Rw encPair 2 w2 a s.merges := by have := (h.on hb2).r1; rw [← hx] at this; exact this
  refine (refNew_spec w2 a c s.merges hr2 hl).mono ?_
  rintro e w5 ⟨u, rfl, y, n, e, rfl, b5, hp⟩
  refine ⟨_, _, _, _, _, _, n, e, rfl, ?_⟩
  have l5 := held_on b5 l2
  refine storeP_cells l5 [y.b.v, y.m.v] rfl (ones_slices _ _) ?_
  intro w6 h6 hs6 hz6 hB6
  have hbb := below_then hb2 b5
  refine ⟨_, _, _, _, _, _, agg2 h6, y, n, e, rfl, hB6 _ _ hb1.size hbb, ?_⟩
  cases hx : tokNew begins 0 s.merges with
  | error q => rw [hx] at hp; exact hp
  | ok es => rw [hx] at hp; exact ⟨hp.1, hp.2.1, hp.2.2.1.past l5 (fun j _ hj => hs6 j hj) (Nat.le_of_eq hz6.symm), hp.2.2.2.1, hp.2.2.2.2.mono hb2.size⟩

/-! ### Bounds -/
/-- The reference's bounds: two slices. -/
structure BtAt (w : World) (x : RtW) (cls : List (Int × Int × Int)) (js : List (Int × Int)) : Prop where
  n1 : x.b.n = cls.length
  r1 : Rw encClass 3 w x.b.a cls
  n2 : x.m.n = js.length
  r2 : Rw encPair 2 w x.m.a js
theorem BtAt.on {w w' : World} {x : RtW} {cls : List (Int × Int × Int)} {js : List (Int × Int)} (h : BtAt w x cls js) (hb : Below w.heap.size w w') : BtAt w' x cls js := ⟨h.n1, h.r1.on hb, h.n2, h.r2.on hb⟩
abbrev tBt : TypeId := 37
theorem refClass_spec (w : World) (x : RtW) (cls : List (Int × Int × Int)) (js : List (Int × Int)) (h : BtAt w x cls js) (hl : cls.length ≤ 1000000) (b : Int) (hb : 0 ≤ b ∧ b < 256) : Calls Tryz.prog 125 #[x.v, .int .u8 b] w fun e w' => e = .returned (.int .i64 (clsAt cls b)) ∧ Below w.heap.size w w' := by
  refine calls_ret (vc125_calls x.b.a x.b.n x.b.c x.m.a x.m.n x.m.c b w (fun u w' => u = .int .i64 (clsAt cls b) ∧ Below w.heap.size w w') ?_) (by rintro v w' ⟨rfl, h⟩; exact ⟨rfl, h⟩)
  intro w1 hw1
  have hb1 : Below w.heap.size w w1 := by subst hw1; exact below_alloc _ _
  have l1 : w1.heap[w.heap.size]? = some (.cells #[x.b.v, x.m.v] tBt (0, 0)) := by subst hw1; exact alloc_new _ _
  have hn := h.n1
  have hwr : IntKind.wrap .i64 b = b := wrap_in (by show (-9223372036854775808 : Int) ≤ _; omega) (by show _ ≤ (9223372036854775807 : Int); omega)
  refine ⟨_, _, _, ptr_add0 _ _ l1 0, Ar.ok64 (by omega) (by omega) ?_⟩
  intro I hI
  have key := climb2 (α := Int) cls.length (fun j _ => clsAt (cls.take (cls.length - j)) b = clsAt cls b) (fun j y => I [.int .i64 ((x.b.n : Int) - 1 - (j : Int)), .int .i64 y] w1) 0 (by simp) ?_ ?_
  · rw [show (x.b.n : Int) - 1 = (x.b.n : Int) - 1 - ((0 : Nat) : Int) by omega]
    exact key
  · rintro j hj ih y hinv
    have hi : cls.length - 1 - j < cls.length := by omega
    obtain ⟨q, hq, _, hc⟩ := (h.r1.on hb1) (cls.length - 1 - j) _ (List.getElem?_eq_getElem hi)
    have htake : cls.take (cls.length - j) = cls.take (cls.length - (j + 1)) ++ [cls[cls.length - 1 - j]] := by
      rw [show cls.length - j = cls.length - 1 - j + 1 by omega, show cls.length - (j + 1) = cls.length - 1 - j by omega, List.take_add_one, List.getElem?_eq_getElem hi]
      rfl
    rw [htake, clsAt_snoc] at hinv
    have e : (x.b.n : Int) - 1 - (j : Int) = ((cls.length - 1 - j : Nat) : Int) := by omega
    have next : clsAt (cls.take (cls.length - (j + 1))) b = clsAt cls b → Ar .i64 (((cls.length - 1 - j : Nat) : Int) - 1) (fun n => I [.int .i64 n, .int .i64 y] w1) := by
      intro hn'
      have := ih y hn'
      rw [show (x.b.n : Int) - 1 - ((j + 1 : Nat) : Int) = ((cls.length - 1 - j : Nat) : Int) - 1 by omega] at this
      exact Ar.ok64 (by omega) (by omega) this
    rw [e]
    refine hI _ _ _ (CondP.yes (by simp) ⟨_, _, _, ptr_add0 _ _ l1 0, NilC.mk q hq ⟨by omega, by omega, _, hc 0 _ rfl, ?_⟩⟩)
    rw [hwr]
    refine CondP.mk (fun h0 => ⟨_, _, _, ptr_add0 _ _ l1 0, NilC.mk q hq ⟨by omega, by omega, _, hc 1 _ rfl, CondP.mk (fun h1 => ⟨_, _, _, ptr_add0 _ _ l1 0, NilC.mk q hq ⟨by omega, by omega, _, hc 2 _ rfl, ?_, hb1⟩⟩) fun h1 => next ?_⟩⟩) fun h0 => next ?_
    · have h0 := of_decide_eq_true h0
      have h1 := of_decide_eq_true h1
      rw [if_pos ⟨h0, h1⟩] at hinv
      rw [← hinv]
    · have h1 := of_decide_eq_false h1
      rwa [if_neg fun e => h1 e.2] at hinv
    · have h0 := of_decide_eq_false h0
      rwa [if_neg fun e => h0 e.1] at hinv
  · rintro y hinv
    refine hI _ _ _ (CondP.no (by simp; omega) ⟨?_, hb1⟩)
    rw [Nat.sub_self, List.take_zero] at hinv
    rw [← hinv]
    rfl
theorem refCuts_spec (w : World) (x : RtW) (cls : List (Int × Int × Int)) (js : List (Int × Int)) (h : BtAt w x cls js) (hl : cls.length ≤ 1000000) (hj : js.length ≤ 1000000) (a b : Int) (ha : 0 ≤ a ∧ a < 256) (hb : 0 ≤ b ∧ b < 256) : Calls Tryz.prog 90 #[x.v, .int .u8 a, .int .u8 b] w fun e w' => e = .returned (.bool (cutB cls js a b)) ∧ Below w.heap.size w w' := by
  refine calls_ret (vc90_calls x.b.a x.b.n x.b.c x.m.a x.m.n x.m.c a b w (fun u w' => u = .bool (cutB cls js a b) ∧ Below w.heap.size w w') ?_) (by rintro v w' ⟨rfl, h⟩; exact ⟨rfl, h⟩)
  intro w1 hw1 w2 hw2
  have hb1 : Below w.heap.size w w1 := by subst hw1; exact below_alloc _ _
  have b2 : Below w1.heap.size w1 w2 := by subst hw2; exact drew_on w1
  have hb2 := below_then hb1 b2
  have l1 : w1.heap[w.heap.size]? = some (.cells #[x.b.v, x.m.v] tBt (0, 0)) := by subst hw1; exact alloc_new _ _
  have l2 := held_on b2 l1
  have hn := h.n2
  refine ⟨_, _, _, _, _, _, agg2 l2, _, _, _, _, _, _, agg2 l2, ?_⟩
  refine (refClass_spec w2 x cls js (h.on hb2) hl a ha).mono ?_
  rintro e w3 ⟨rfl, b3⟩
  refine ⟨_, rfl, agg2 (held_on b3 l2), ?_⟩
  have hb3 := below_then hb2 b3
  refine (refClass_spec w3 x cls js (h.on hb3) hl b hb).mono ?_
  rintro e w4 ⟨rfl, b4⟩
  refine ⟨_, rfl, ?_⟩
  have hb4 := below_then hb3 b4
  have l4 := held_on b4 (held_on b3 l2)
  intro I hI
  have key := climb2 (α := Bool) js.length (fun i _ => (clsAt cls a, clsAt cls b) ∉ js.take i) (fun i y => I [.int .i64 (i : Int), .bool y] w4) false (by simp) ?_ ?_
  · exact key
  · rintro i hi ih y hinv
    obtain ⟨q, hq, _, hc⟩ := (h.r2.on hb4) i _ (List.getElem?_eq_getElem hi)
    have next : js[i] ≠ (clsAt cls a, clsAt cls b) → Ar .i64 ((i : Int) + 1) (fun n => I [.int .i64 n, .bool y] w4) := by
      intro hne
      refine Ar.nat (i + 1) rfl (by omega) (ih y ?_)
      rw [List.take_add_one, List.getElem?_eq_getElem hi]
      intro hm
      rcases List.mem_append.1 hm with hm | hm
      · exact hinv hm
      · have hm : (clsAt cls a, clsAt cls b) = js[i] := by simpa using hm
        exact hne hm.symm
    refine hI _ _ _ ⟨_, _, _, ptr_add0 _ _ l4 1, CondP.yes (by simp; omega) ⟨_, _, _, ptr_add0 _ _ l4 1, NilC.mk q hq ⟨by omega, by omega, _, hc 0 _ rfl, CondP.mk (fun h0 => ⟨_, _, _, ptr_add0 _ _ l4 1, NilC.mk q hq ⟨by omega, by omega, _, hc 1 _ rfl, CondP.mk (fun h1 => ⟨?_, hb4⟩) fun h1 => next ?_⟩⟩) fun h0 => next ?_⟩⟩⟩
    · have h0 : js[i].1 = clsAt cls a := by simpa using h0
      have h1 : js[i].2 = clsAt cls b := by simpa using h1
      have : (clsAt cls a, clsAt cls b) ∈ js := by rw [← h0, ← h1]; exact List.getElem_mem hi
      rw [cutB, decide_eq_false fun e => e.2 this]
    · intro e
      rw [e] at h1
      simp at h1
    · intro e
      rw [e] at h0
      simp at h0
  · rintro y hinv
    refine hI _ _ _ ⟨_, _, _, ptr_add0 _ _ l4 1, CondP.no (by simp; omega) ⟨?_, hb4⟩⟩
    rw [List.take_length] at hinv
    rw [cutB]
    by_cases e : clsAt cls a = clsAt cls b <;> simp [e, hinv]
theorem allTake {α : Type} {p : α → Bool} {l : List α} {i : Nat} (hi : i < l.length) (h : (l.take i).all p = true) (hp : p l[i] = true) : (l.take (i + 1)).all p = true := by
  rw [List.take_add_one, List.getElem?_eq_getElem hi, List.all_append, h]
  simpa using hp
theorem all_not {α : Type} {p : α → Bool} {l : List α} {i : Nat} (hi : i < l.length) (hp : p l[i] = false) : l.all p = false := by
  rw [List.all_eq_false]
  exact ⟨_, List.getElem_mem hi, by simp [hp]⟩
theorem refRight_spec (w : World) (x : RtW) (cls : List (Int × Int × Int)) (js : List (Int × Int)) (h : BtAt w x cls js) (hl : cls.length ≤ 1000000) (hj : js.length ≤ 1000000) : Calls Tryz.prog 85 #[x.v] w fun e w' => e = .returned (.bool (cls.all classOk && js.all joinOk)) ∧ Below w.heap.size w w' := by
  refine calls_ret (vc85_calls x.b.a x.b.n x.b.c x.m.a x.m.n x.m.c w (fun u w' => u = .bool (cls.all classOk && js.all joinOk) ∧ Below w.heap.size w w') ?_) (by rintro v w' ⟨rfl, h⟩; exact ⟨rfl, h⟩)
  intro w1 hw1
  have hb1 : Below w.heap.size w w1 := by subst hw1; exact below_alloc _ _
  have l1 : w1.heap[w.heap.size]? = some (.cells #[x.b.v, x.m.v] tBt (0, 0)) := by subst hw1; exact alloc_new _ _
  have hn1 := h.n1
  have hn2 := h.n2
  intro I hI
  have key := climb2 (α := Bool × World) cls.length (fun i y => (cls.take i).all classOk = true ∧ Below w1.heap.size w1 y.2) (fun i y => I [.int .i64 (i : Int), .bool y.1] y.2) (false, w1) ⟨by simp, Below.refl _ _⟩ ?_ ?_
  · exact key
  · rintro i hi ih ⟨y, q⟩ ⟨hall, hB⟩
    change Below w1.heap.size w1 q at hB
    have lq := held_on hB l1
    obtain ⟨p, hp, _, hc⟩ := ((h.on hb1).on hB).r1 i _ (List.getElem?_eq_getElem hi)
    have c0 := hc 0 _ rfl
    rw [add_zero] at c0
    refine hI _ y q ⟨_, _, _, ptr_add0 _ _ lq 0, CondP.yes (by simp; omega) ⟨_, _, _, ptr_add0 _ _ lq 0, NilC.mk p hp ⟨by omega, by omega, _, _, _, ⟨c0, hc 1 _ rfl, hc 2 _ rfl, trivial⟩, ?_⟩⟩⟩
    intro w3 hw3
    refine storeP_new [.int .i64 0, .int .i64 0, .int .i64 0] [.int .i64 cls[i].1, .int .i64 cls[i].2.1, .int .i64 cls[i].2.2] rfl (ones_class _ _ _) w3 hw3 ?_
    intro w4 h4 hz4 b4
    have hBw := below_then hb1 (below_then hB b4)
    have no : classOk cls[i] = false → Value.bool false = Value.bool (cls.all classOk && js.all joinOk) ∧ Below w.heap.size w w4 := by
      intro e
      rw [all_not hi e]
      exact ⟨rfl, hBw⟩
    refine ⟨_, ptr_add0 _ _ h4 0, CondP.mk (fun e => no ?_) fun e1 => ⟨_, ptr_add0 _ _ h4 1, _, ptr_add0 _ _ h4 0, CondP.mk (fun e => no ?_) fun e2 => ⟨_, ptr_add0 _ _ h4 1, CondP.mk (fun e => no ?_) fun e3 => ⟨_, ptr_add0 _ _ h4 2, CondP.mk (fun e => no ?_) fun e4 => ⟨_, ptr_add0 _ _ h4 2, CondP.mk (fun e => no ?_) fun e5 => Ar.nat (i + 1) rfl (by omega) (ih (y, w4) ⟨allTake hi hall ?_, below_then hB b4⟩)⟩⟩⟩⟩⟩
    · have e := of_decide_eq_true e; exact decide_eq_false (by omega)
    · have e := of_decide_eq_true e; exact decide_eq_false (by omega)
    · have e := of_decide_eq_true e; exact decide_eq_false (by omega)
    · have e := of_decide_eq_true e; exact decide_eq_false (by omega)
    · have e := of_decide_eq_true e; exact decide_eq_false (by omega)
    · have e1 := of_decide_eq_false e1
      have e2 := of_decide_eq_false e2
      have e3 := of_decide_eq_false e3
      have e4 := of_decide_eq_false e4
      have e5 := of_decide_eq_false e5
      exact decide_eq_true (by omega)
  · rintro ⟨y, q⟩ ⟨hall, hB⟩
    change Below w1.heap.size w1 q at hB
    rw [List.take_length] at hall
    refine hI _ y q ⟨_, _, _, ptr_add0 _ _ (held_on hB l1) 0, CondP.no (by simp; omega) ?_⟩
    intro I2 hI2
    have key2 := climb2 (α := Bool × World) js.length (fun i y => (js.take i).all joinOk = true ∧ Below w1.heap.size w1 y.2) (fun i y => I2 [.int .i64 (i : Int), .bool y.1] y.2) (y, q) ⟨by simp, hB⟩ ?_ ?_
    · exact key2
    · rintro i hi ih ⟨y, q⟩ ⟨hall2, hB⟩
      change Below w1.heap.size w1 q at hB
      have lq := held_on hB l1
      obtain ⟨p, hp, _, hc⟩ := ((h.on hb1).on hB).r2 i _ (List.getElem?_eq_getElem hi)
      have c0 := hc 0 _ rfl
      rw [add_zero] at c0
      refine hI2 _ y q ⟨_, _, _, ptr_add0 _ _ lq 1, CondP.yes (by simp; omega) ⟨_, _, _, ptr_add0 _ _ lq 1, NilC.mk p hp ⟨by omega, by omega, _, _, ⟨c0, hc 1 _ rfl, trivial⟩, ?_⟩⟩⟩
      intro w3 hw3
      refine storeP_new [.int .i64 0, .int .i64 0] [.int .i64 js[i].1, .int .i64 js[i].2] rfl (ones_pair _ _) w3 hw3 ?_
      intro w4 h4 hz4 b4
      have hBw := below_then hb1 (below_then hB b4)
      have no : joinOk js[i] = false → Value.bool false = Value.bool (cls.all classOk && js.all joinOk) ∧ Below w.heap.size w w4 := by
        intro e
        rw [all_not hi e, Bool.and_false]
        exact ⟨rfl, hBw⟩
      refine ⟨_, ptr_add0 _ _ h4 0, CondP.mk (fun e => no ?_) fun e1 => ⟨_, ptr_add0 _ _ h4 0, CondP.mk (fun e => no ?_) fun e2 => ⟨_, ptr_add0 _ _ h4 1, CondP.mk (fun e => no ?_) fun e3 => ⟨_, ptr_add0 _ _ h4 1, CondP.mk (fun e => no ?_) fun e4 => Ar.nat (i + 1) rfl (by omega) (ih (y, w4) ⟨allTake hi hall2 ?_, below_then hB b4⟩)⟩⟩⟩⟩
      · have e := of_decide_eq_true e; exact decide_eq_false (by omega)
      · have e := of_decide_eq_true e; exact decide_eq_false (by omega)
      · have e := of_decide_eq_true e; exact decide_eq_false (by omega)
      · have e := of_decide_eq_true e; exact decide_eq_false (by omega)
      · have e1 := of_decide_eq_false e1
        have e2 := of_decide_eq_false e2
        have e3 := of_decide_eq_false e3
        have e4 := of_decide_eq_false e4
        exact decide_eq_true (by omega)
    · rintro ⟨y, q⟩ ⟨hall2, hB⟩
      change Below w1.heap.size w1 q at hB
      rw [List.take_length] at hall2
      refine hI2 _ y q ⟨_, _, _, ptr_add0 _ _ (held_on hB l1) 1, CondP.no (by simp; omega) ⟨?_, below_then hb1 hB⟩⟩
      rw [hall, hall2]
      rfl

/-! ### Marks -/
def checkV (xs : List (Int × Bs)) : Value := match markErr [] 0 xs with
  | none => .tuple #[.int .i64 (xs.length : Int), .int .i64 0]
  | some q => .tuple #[.int .i64 (q.1 : Int), .int .i64 q.2]
theorem refCheck_spec (w : World) (A : Option Addr) (C : Nat) (xs : List (Int × Bs)) (hr : Rw encSpecial 2 w A xs) (hl : xs.length ≤ 1000000) : Calls Tryz.prog 86 #[.slice A xs.length C] w fun e w' => e = .returned (checkV xs) ∧ Below w.heap.size w w' := by
  refine calls_ret (vc86_calls A xs.length C w (fun u w' => u = checkV xs ∧ Below w.heap.size w w') ?_) (by rintro v w' ⟨rfl, h⟩; exact ⟨rfl, h⟩)
  intro I hI
  have key := climb2 (α := Int × Int × World) xs.length (fun i y => markErr [] 0 xs = markErr (xs.take i) i (xs.drop i) ∧ Below w.heap.size w y.2.2) (fun i y => I [.int .i64 (i : Int), .int .i64 y.1, .int .i64 y.2.1] y.2.2) (0, 0, w) ⟨by simp, Below.refl _ _⟩ ?_ ?_
  · exact key
  · rintro i hi ih ⟨y3, y2, q⟩ ⟨heq, hB⟩
    change Below w.heap.size w q at hB
    obtain ⟨p, hp, _, hc⟩ := (hr.on hB) i _ (List.getElem?_eq_getElem hi)
    have hlen : (xs.take i).length = i := by rw [List.length_take]; omega
    rw [List.drop_eq_getElem_cons hi, markErr] at heq
    have out : ∀ (n : Int) (v : World), n ≠ 0 → markAdd (xs.take i) xs[i] = n → Below w.heap.size w v → Value.tuple #[.int .i64 (i : Int), .int .i64 n] = checkV xs ∧ Below w.heap.size w v := by
      intro n v hn e hv
      refine ⟨?_, hv⟩
      rw [if_neg (by rw [e]; exact hn), e] at heq
      rw [checkV, heq]
    have one : specialOk xs[i] = false → markAdd (xs.take i) xs[i] = 1 := fun e => by rw [markAdd, if_pos e]
    refine hI _ y3 y2 q (CondP.yes (by simp; omega) (NilC.mk p hp ⟨by omega, by omega, _, hc 0 _ rfl, CondP.mk (fun e => out 1 q (by decide) (one ?_) hB) fun e1 => (NilC.mk p hp ⟨by omega, by omega, _, hc 0 _ rfl, CondP.mk (fun e => out 1 q (by decide) (one ?_) hB) fun e2 => (NilC.mk p hp ⟨by omega, by omega, _, hc 1 _ rfl, CondP.mk (fun e => out 1 q (by decide) (one ?_) hB) fun e3 => (NilC.mk p hp ⟨by omega, by omega, _, hc 1 _ rfl, CondP.mk (fun e => out 1 q (by decide) (one ?_) hB) fun e4 => ?_⟩)⟩)⟩)⟩))
    · have e := of_decide_eq_true e; exact decide_eq_false (by omega)
    · have e := of_decide_eq_true e; exact decide_eq_false (by omega)
    · have e := of_decide_eq_true e; rw [str_size] at e; exact decide_eq_false (by omega)
    · have e := of_decide_eq_true e; rw [str_size] at e; exact decide_eq_false (by omega)
    have hok : ¬ specialOk xs[i] = false := by
      have e1 := of_decide_eq_false e1
      have e2 := of_decide_eq_false e2
      have e3 := of_decide_eq_false e3
      have e4 := of_decide_eq_false e4
      rw [str_size] at e3 e4
      rw [specialOk, decide_eq_true (by omega)]
      simp
    refine CondP.mk (fun e => out 3 q (by decide) ?_ hB) fun e => ?_
    · have e := of_decide_eq_true e
      rw [markAdd, if_neg hok, hlen, if_pos (by omega)]
    have e := of_decide_eq_false e
    have h32 : ¬ 32 ≤ (xs.take i).length := by rw [hlen]; omega
    intro I7 hI7
    have key7 := climb2 (α := Int × Int × World) i (fun k y => (xs[i].1 ∉ (xs.take k).map (·.1) ∧ xs[i].2 ∉ (xs.take k).map (·.2)) ∧ Below w.heap.size w y.2.2) (fun k y => I7 [.int .i64 (k : Int), .int .i64 y.1, .int .i64 y.2.1] y.2.2) (y3, y2, q) ⟨by simp, hB⟩ ?_ ?_
    · exact key7
    · rintro k hk ih7 ⟨z3, z2, v⟩ ⟨hno, hBv⟩
      change Below w.heap.size w v at hBv
      refine hI7 _ z3 z2 v (CondP.yes (by simp; omega) ?_)
      intro v3 hv3
      have b3 : Below v.heap.size v v3 := by subst hv3; exact drew_on v
      have hB3 : Below w.heap.size w v3 := hBv.trans (b3.mono hBv.size)
      have hkl : k < xs.length := by omega
      obtain ⟨p', hp', _, hc'⟩ := (hr.on hB3) i _ (List.getElem?_eq_getElem hi)
      obtain ⟨pk, hpk, _, hck⟩ := (hr.on hB3) k _ (List.getElem?_eq_getElem hkl)
      have mem : xs[k] ∈ xs.take i := List.mem_take_iff_getElem.2 ⟨k, by omega, rfl⟩
      refine NilC.mk pk hpk ⟨by omega, by omega, _, hck 0 _ rfl, NilC.mk p' hp' ⟨by omega, by omega, _, hc' 0 _ rfl, CondP.mk (fun h0 => out 10 v3 (by decide) ?_ hB3) fun h0 => NilC.mk pk hpk ⟨by omega, by omega, _, hck 1 _ rfl, NilC.mk p' hp' ⟨by omega, by omega, _, hc' 1 _ rfl, CondP.mk (fun h1 => out 10 v3 (by decide) ?_ hB3) fun h1 => Ar.nat (k + 1) rfl (by omega) (ih7 (z3, z2, v3) ⟨?_, hB3⟩)⟩⟩⟩⟩
      · have h0 : xs[k].1 = xs[i].1 := by simpa using h0
        rw [markAdd, if_neg hok, if_neg h32, if_pos (.inl (by rw [← h0]; exact List.mem_map_of_mem mem))]
      · rw [str_toList, str_toList] at h1
        have h1 : xs[k].2 = xs[i].2 := by simpa using h1
        rw [markAdd, if_neg hok, if_neg h32, if_pos (.inr (by rw [← h1]; exact List.mem_map_of_mem mem))]
      · rw [str_toList, str_toList] at h1
        have h0 : ¬ xs[k].1 = xs[i].1 := by simpa using h0
        have h1 : ¬ xs[k].2 = xs[i].2 := by simpa using h1
        rw [List.take_add_one, List.getElem?_eq_getElem hkl]
        simp only [Option.toList_some, List.map_append, List.map_cons, List.map_nil, List.mem_append, List.mem_singleton, not_or]
        exact ⟨⟨hno.1, fun e => h0 e.symm⟩, hno.2, fun e => h1 e.symm⟩
    · rintro ⟨z3, z2, v⟩ ⟨hno, hBv⟩
      change Below w.heap.size w v at hBv
      have hadd : markAdd (xs.take i) xs[i] = 0 := by rw [markAdd, if_neg hok, if_neg h32, if_neg (not_or.2 hno)]
      refine hI7 _ z3 z2 v (CondP.no (by simp) (Ar.nat (i + 1) rfl (by omega) (ih (z3, z2, v) ⟨?_, hBv⟩)))
      rw [heq, if_pos hadd, List.take_add_one, List.getElem?_eq_getElem hi]
      rfl
  · rintro ⟨y3, y2, q⟩ ⟨heq, hB⟩
    refine hI _ y3 y2 q (CondP.no (by simp) ⟨?_, hB⟩)
    rw [List.drop_length, markErr] at heq
    rw [checkV, heq]
def greatX (xs : List (Int × Bs)) : Bool := xs.any (fun x => decide (100 < x.2.length)) || decide (40 < xs.length)
theorem refGreat9_spec (w : World) (A : Option Addr) (C : Nat) (xs : List (Int × Bs)) (hr : Rw encSpecial 2 w A xs) (hl : xs.length ≤ 9223372036854775807) : Calls Tryz.prog 81 #[.slice A xs.length C] w fun e w' => e = .returned (.bool (greatX xs)) ∧ w' = w := by
  refine calls_ret (vc81_calls A xs.length C w (fun u w' => u = .bool (greatX xs) ∧ w' = w) ?_) (by rintro v w' ⟨rfl, h⟩; exact ⟨rfl, h⟩)
  intro I hI
  have key := climb2 (α := Bool) xs.length (fun i _ => (xs.take i).any (fun x => decide (100 < x.2.length)) = false) (fun i y => I [.int .i64 (i : Int), .bool y] w) false (by simp) ?_ ?_
  · exact key
  · rintro i hi ih y hinv
    obtain ⟨p, hp, _, hc⟩ := hr i _ (List.getElem?_eq_getElem hi)
    refine hI _ y w (CondP.yes (by simp; omega) (NilC.mk p hp ⟨by omega, by omega, _, hc 1 _ rfl, CondP.mk (fun e => ⟨?_, rfl⟩) fun e => Ar.nat (i + 1) rfl (by omega) (ih y ?_)⟩))
    · have e := of_decide_eq_true e
      rw [str_size] at e
      have : xs.any (fun x => decide (100 < x.2.length)) = true := List.any_eq_true.2 ⟨_, List.getElem_mem hi, decide_eq_true (by omega)⟩
      rw [greatX, this]
      rfl
    · have e := of_decide_eq_false e
      rw [str_size] at e
      rw [List.take_add_one, List.getElem?_eq_getElem hi, List.any_append, hinv]
      simp
      omega
  · rintro y hinv
    rw [List.take_length] at hinv
    refine hI _ y w (CondP.no (by simp) ⟨?_, rfl⟩)
    rw [greatX, hinv, Bool.false_or]
    congr 1
    exact decide_eq_decide.2 (by omega)
theorem refGreat_spec (w : World) (A1 : Option Addr) (N1 C1 : Nat) (A2 : Option Addr) (N2 C2 : Nat) (A3 : Option Addr) (N3 C3 : Nat) (A : Option Addr) (C : Nat) (xs : List (Int × Bs)) (hr : Rw encSpecial 2 w A xs) (hl : xs.length ≤ 9223372036854775807) : Calls Tryz.prog 52 #[.slice A1 N1 C1, .slice A2 N2 C2, .slice A3 N3 C3, .slice A xs.length C] w fun e w' => e = .returned (.bool (decide (60 < N1 ∨ 20 < N2 ∨ 20 < N3) || greatX xs)) ∧ w' = w := by
  refine calls_ret (vc52_calls A1 N1 C1 A2 N2 C2 A3 N3 C3 A xs.length C w (fun u w' => u = .bool (decide (60 < N1 ∨ 20 < N2 ∨ 20 < N3) || greatX xs) ∧ w' = w) ?_) (by rintro v w' ⟨rfl, h⟩; exact ⟨rfl, h⟩)
  refine CondP.mk (fun h1 => ⟨?_, rfl⟩) fun h1 => CondP.mk (fun h2 => ⟨?_, rfl⟩) fun h2 => CondP.mk (fun h3 => ⟨?_, rfl⟩) fun h3 => ?_
  · have := of_decide_eq_true h1
    rw [decide_eq_true (by omega)]
    rfl
  · have := of_decide_eq_true h2
    rw [decide_eq_true (by omega)]
    rfl
  · have := of_decide_eq_true h3
    rw [decide_eq_true (by omega)]
    rfl
  · have h1 := of_decide_eq_false h1
    have h2 := of_decide_eq_false h2
    have h3 := of_decide_eq_false h3
    refine (refGreat9_spec w A C xs hr hl).mono ?_
    rintro e w' ⟨rfl, hw⟩
    subst hw
    refine ⟨_, rfl, ?_, rfl⟩
    rw [decide_eq_false (by omega), Bool.false_or]
end Go.Proofs.YtpklkijdlnioaaaGreat.Eng
