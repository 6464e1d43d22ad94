/- CanonNever walked: no tokens that begin with those up to the first offence are canonical. -/
import Derived.Test.YtpklkijdlnioaaaGreatRk
import Derived.Test.YtpklkijdlnioaaaGreatNn
set_option linter.unusedVariables false
set_option linter.unusedSimpArgs false
set_option maxRecDepth 100000
namespace Go.Proofs.YtpklkijdlnioaaaGreat.Eng
open Go Go.RowKit

theorem refCanonN_spec (w : World) (x : RvW) (s : SpecV) (T : List Ent) (h : RvAt w x s T) (A : Option Addr) (N C : Nat) (ids : List Int) (hN : N = ids.length) (hr : Rw encInt 1 w A ids) (hl : ids.length ≤ 10000) (hh : ∀ t ∈ ids, (vocOf s T).Has t) : Calls Tryz.prog 20 #[x.v, .slice A N C] w fun e w' => e = .returned (.bool (decide ((vocOf s T).Canon ids))) ∧ Below w.heap.size w w' := by
  subst hN
  exact refCanon_spec w x s T h A C ids hr hl hh
theorem badId_neg {s : SpecV} {T : List Ent} {ids : List Int} (h : ¬ badId s T ids ≥ 0) (hok : TOk T) : ∀ t ∈ ids, (vocOf s T).Has t := by
  intro t ht
  have := badId_none h t ht
  unfold hasV2 at this
  rw [decide_eq_true_eq, tok_iff hok] at this
  exact Or.comm.1 this
theorem has_of2 {s : SpecV} {T : List Ent} {ids : List Int} (h : ∀ t ∈ ids, hasV2 s T t = true) (hok : TOk T) : ∀ t ∈ ids, (vocOf s T).Has t := by
  intro t ht
  have := h t ht
  unfold hasV2 at this
  rw [decide_eq_true_eq, tok_iff hok] at this
  exact Or.comm.1 this
/-- A list's beginning, as a slice of it. -/
theorem LsAt.begin {α : Type} {enc : α → List Value} {sz : Nat} {w : World} {A : Option Addr} {C : Nat} {xs : List α} (hr : Rw enc sz w A xs) (hC : xs.length ≤ C) (k : Nat) (hk : k ≤ xs.length) (hA : A = none → C = 0) : LsAt enc sz w ⟨slBase A 0 C sz, k - 0, C - 0⟩ (xs.take k) := by
  refine ⟨by rw [List.length_take, Nat.min_eq_left hk]; exact Nat.sub_zero k, ?_, ?_⟩
  · have := (hr.cut 0 C hC).take k
    rwa [List.drop_zero] at this
  · cases A with
    | none =>
      have := hA rfl
      subst this
      have : k = 0 := by omega
      subst this
      exact .inl rfl
    | some p =>
      refine .inr ?_
      show ∃ a, slBase (some p) 0 C sz = some a
      unfold slBase
      split
      · exact ⟨_, rfl⟩
      · exact ⟨_, rfl⟩
theorem CanonNever_spec (w : World) (y : CsW) (ls : List Int) (cs : List (Int × Int × Int)) (js : List (Int × Int)) (xs : List (Int × Bs)) (h : CsAt w y ls cs js xs) (A : Option Addr) (C : Nat) (ids : List Int) (hr : Rw encInt 1 w A ids) (hC : ids.length ≤ C) (hA : A = none → C = 0) (A2 : Option Addr) (C2 : Nat) (more : List Int) (hr2 : Rw encInt 1 w A2 more) (hk2 : SlOk ⟨A2, more.length, C2⟩) :
    Calls Tryz.prog 3 #[y.v, .slice A ids.length C, .slice A2 more.length C2] w fun e w' => e = .returned (.bool true) ∧ Below w.heap.size w w' := by
  refine calls_ret (vc3_calls y.l.a y.l.n y.l.c y.c.a y.c.n y.c.c y.j.a y.j.n y.j.c y.x.a y.x.n y.x.c A ids.length C A2 more.length C2 w (fun u w' => u = .bool true ∧ Below w.heap.size w w') ?_) (by rintro v w' ⟨rfl, h⟩; exact ⟨rfl, h⟩)
  intro w1 hw1
  have hb1 : Below w.heap.size w w1 := by subst hw1; exact below_alloc _ _
  have l1 : w1.heap[w.heap.size]? = some (.cells y.cells tCs (0, 0)) := by subst hw1; exact alloc_new _ _
  refine ⟨_, _, _, _, _, _, _, _, _, _, _, _, agg4 l1, ?_⟩
  refine (lawGreat_spec w1 y ls cs js xs (h.on hb1)).mono ?_
  rintro e w2 ⟨n, rfl, b2⟩
  have hb2 := below_then hb1 b2
  have aw : ∀ {q : World}, Below w.heap.size w q → Calls Tryz.prog 16 #[] q fun e w' => ∃ b : Bool, e = .returned (.bool b) ∧ (Value.bool b = Value.bool true ∧ Below w.heap.size w w') := by
    intro q hq
    refine (awake18_spec q).mono ?_
    rintro e w3 ⟨rfl, b3⟩
    exact ⟨true, rfl, rfl, below_then hq b3⟩
  refine ⟨n, rfl, CondP.mk (fun _ => aw hb2) fun _ => CondP.mk (fun _ => aw hb2) fun h40 => CondP.mk (fun _ => aw hb2) fun h20 => ?_⟩
  have h40 := of_decide_eq_false h40
  have h20 := of_decide_eq_false h20
  refine (awake18_spec w2).mono ?_
  rintro e w6 ⟨rfl, b6⟩
  have hb6 := below_then hb2 b6
  refine ⟨_, rfl, CondP.no rfl ⟨_, _, _, _, _, _, _, _, _, _, _, _, agg4 (held_on b6 (held_on b2 l1)), ?_⟩⟩
  refine (lawOf_spec w6 y ls cs js xs (h.on hb6)).mono ?_
  rintro e w8 ⟨u, rfl, v, r, s, T, rfl, hB, hv, b8⟩
  have hb8 := below_then hb6 b8
  refine ⟨_, _, _, _, _, _, _, _, _, _, _, _, _, _, _, _, rfl, ?_⟩
  intro w9 hw9
  refine storeP_new (slRv rv0) (slRv r) rfl (ones_rv r) w9 hw9 ?_
  intro w10 h10 hz10 b10
  have hB10 := hB.on b10
  have hb10 := below_then hb8 b10
  have hvl := hB.voc.lt
  have hz1 := hb6.size
  refine CondP.no rfl ?_
  refine (check_spec w10 v s T hB10.voc A C ids (hr.on hb10) (hr.far (by omega))).mono ?_
  rintro e w11 ⟨hV11, t11, hcase⟩
  have hb11 : Below w.heap.size w w11 := hb10.trans (t11.below (by omega) hb10.size)
  have hB11 := hB10.touch t11 hV11
  have h11 := t11.held (by omega) h10
  rcases hcase with ⟨hne, rfl⟩ | ⟨_, hall, o, ho, rfl⟩
  · exact ⟨_, _, rfl, CondP.yes (by simpa using hne) ⟨rfl, hb11⟩⟩
  refine ⟨_, _, rfl, CondP.no rfl ?_⟩
  cases o with
  | none => exact CondP.yes rfl ⟨rfl, hb11⟩
  | some k =>
    obtain ⟨hk, ho1, ho2⟩ := ho
    have hok := hB11.now.ok
    have hids := has_of2 hall hok
    refine CondP.no (decide_eq_false (by show ¬ ((k : Nat) : Int) < 0; omega)) ⟨_, _, _, _, _, _, _, _, _, _, _, _, _, _, _, agg5 (x := r) h11, ?_⟩
    refine (refBad_spec w11 r s T hB11.now A2 C2 more (hr2.on hb11) (by omega)).mono ?_
    rintro e w12 ⟨rfl, b12⟩
    have hb12 := below_then hb11 b12
    have hB12 := hB11.on b12
    refine ⟨_, rfl, CondP.mk (fun _ => ⟨rfl, hb12⟩) fun hbad => Ar.nat (k + 1) rfl (by omega) ⟨by omega, by omega, by omega, trivial, trivial, ?_⟩⟩
    have hmore := badId_neg (of_decide_eq_false hbad) hok
    have hl1 := LsAt.begin (hr.on hb12) hC (k + 1) hk hA
    obtain ⟨f, w13, g1, g2, g3, g4, _⟩ := elInt.spread (own_none w12 w12.heap.size tInt 1 encInt) hl1 (Nat.le_refl _) (Nat.zero_le _) (by show k + 1 - 0 ≤ _; omega) (by decide)
    have b13 := g4 w12 (Below.refl _ _)
    have hl2 : LsAt encInt 1 w13 ⟨A2, more.length, C2⟩ more := ⟨rfl, hr2.on (below_then hb12 b13), hk2⟩
    obtain ⟨f2, w14, g5, g6, g7, g8, _⟩ := elInt.spread g3 hl2 b13.size (by rw [g1]; show 0 + (k + 1 - 0) ≤ _; omega) (by show more.length ≤ _; omega) (by decide)
    have b14 := g8 w12 b13
    refine ⟨f.a, f.n, f.c, w13, g2, f2.a, f2.n, f2.c, w14, g6, ?_⟩
    intro w15 hw15
    have b15 : Below w14.heap.size w14 w15 := by subst hw15; exact drew_on w14
    have b1215 : Below w12.heap.size w12 w15 := b14.trans (b15.mono b14.size)
    have hb15 := below_then hb12 b1215
    have hB15 := hB12.on b1215
    have h15 := held_on b1215 (held_on b12 h11)
    refine ⟨_, _, _, _, _, _, _, _, _, _, _, _, _, _, _, agg5 (x := r) h15, by omega, by show (0 : Int) ≤ ((k : Nat) : Int); omega, by show ((k : Nat) : Int) ≤ _; omega, trivial, trivial, ?_⟩
    have hl3 := LsAt.begin (hr.on hb15) hC k (by omega) hA
    refine (refCanonN_spec w15 r s T hB15.now _ _ _ (ids.take k) hl3.n hl3.r (by rw [List.length_take]; omega) (fun t ht => hids t (List.mem_of_mem_take ht))).mono ?_
    rintro e w16 ⟨rfl, b16⟩
    have hb16 := below_then hb15 b16
    have hB16 := hB15.on b16
    refine ⟨_, rfl, CondP.yes (decide_eq_true ho1) ⟨_, _, _, _, _, _, _, _, _, _, _, _, _, _, _, agg5 (x := r) (held_on b16 h15), ?_⟩⟩
    have hl4 := (LsAt.of_own elInt (own_on (own_on g7 b15) b16))
    rw [List.nil_append] at hl4
    have hh4 : ∀ t ∈ ids.take (k + 1) ++ more, (vocOf s T).Has t := by
      intro t ht
      rcases List.mem_append.1 ht with ht | ht
      · exact hids t (List.mem_of_mem_take ht)
      · exact hmore t ht
    refine (refCanonN_spec w16 r s T hB16.now f2.a f2.n f2.c (ids.take (k + 1) ++ more) hl4.n hl4.r (by rw [List.length_append, List.length_take]; omega) hh4).mono ?_
    rintro e w17 ⟨rfl, b17⟩
    refine ⟨_, rfl, ?_, below_then hb16 b17⟩
    rw [decide_eq_false fun hc => ho2 (Voc.canon_append hB16.now.vok hh4 hc).1]
    rfl
end Go.Proofs.YtpklkijdlnioaaaGreat.Eng
