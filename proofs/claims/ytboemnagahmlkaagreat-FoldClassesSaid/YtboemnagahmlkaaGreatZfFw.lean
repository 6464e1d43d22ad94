/- A grid and its fold; the classes go by what is alike. -/
import Derived.Test.YtboemnagahmlkaaGreatZfFv
set_option linter.unusedVariables false
set_option linter.unusedSimpArgs false
set_option maxRecDepth 100000
namespace Go.Proofs.YtboemnagahmlkaaGreat.Eng
open Go Go.RowKit
/-- A grid and its fold, of some tokens; what is known of the tokens. -/
structure BothF (w : World) (g f : Nat) (s : SpecV) (T : List Ent) : Prop where
  grid : GrIs w g s T
  fold : FoldIs w f g s T
  n : gN s T ≤ 1006
  pos : 0 < gN s T
  rise : RiseG s T
  ok : TOk T
  vok : (vocOf s T).Ok
theorem BothF.on {w w' : World} {g f : Nat} {s : SpecV} {T : List Ent} (h : BothF w g f s T) (hb : Below w.heap.size w w') : BothF w' g f s T := ⟨h.grid.on hb, h.fold.on hb, h.n, h.pos, h.rise, h.ok, h.vok⟩
theorem both_spec2 (w : World) (y : CsW) (ls : List Int) (cs : List (Int × Int × Int)) (js : List (Int × Int)) (xs : List (Int × Bs)) (h : CsAt w y ls cs js xs) :
    Calls Tryz.prog 23 #[y.v] w fun e w' => ∃ g f s T, s = someV ls cs js xs ∧ buildV s = .ok T ∧ e = .returned (.tuple #[.pointer (some ⟨g, 0, none⟩), .pointer (some ⟨f, 0, none⟩)]) ∧ BothF w' g f s T ∧ Below w.heap.size w w' := by
  refine calls_ret (vc23_calls y.l.a y.l.n y.l.c y.c.a y.c.n y.c.c y.j.a y.j.n y.j.c y.x.a y.x.n y.x.c w (fun u w' => ∃ g f s T, s = someV ls cs js xs ∧ buildV s = .ok T ∧ u = .tuple #[.pointer (some ⟨g, 0, none⟩), .pointer (some ⟨f, 0, none⟩)] ∧ BothF w' g f s T ∧ Below w.heap.size w w') ?_) (by rintro v w' ⟨g, f, s, T, es, eT, rfl, h⟩; exact ⟨g, f, s, T, es, eT, rfl, h⟩)
  intro w1 hw1
  have hb1 : Below w.heap.size w w1 := by subst hw1; exact below_alloc _ _
  have l1 : w1.heap[w.heap.size]? = some (.cells y.cells tCs (0, 0)) := by subst hw1; exact alloc_new _ _
  refine ⟨_, _, _, _, _, _, _, _, _, _, _, _, agg4 l1, ?_⟩
  refine (lawOf_spec2 w1 y ls cs js xs (h.on hb1)).mono ?_
  rintro e w7 ⟨u, rfl, v, r, s, T, rfl, hB7, hv, b7, hs0, hT0⟩
  have hb7 := below_then hb1 b7
  refine ⟨_, _, _, _, _, _, _, _, _, _, _, _, _, _, _, _, rfl, ?_⟩
  intro w8 hw8
  refine storeP_new (slRv rv0) (slRv r) rfl (ones_rv r) w8 hw8 ?_
  intro w0 h0 hz0 b0
  have hB := hB7.on b0
  have hb0 := below_then hb7 b0
  have hz1 := hb1.size
  obtain ⟨hl, hsq⟩ := gids_few hB
  refine (gridNew_spec w0 v s T hB.voc hB.asc 1048576).mono ?_
  rintro e w10 ⟨u, rfl, hV10, t10, hu⟩
  rw [if_neg (by omega)] at hu
  obtain ⟨g, rfl, hG, hg⟩ := hu
  have hb10 : Below w.heap.size w w10 := hb0.trans (t10.below (by omega) hb0.size)
  have hgl : g < w10.heap.size := by
    obtain ⟨ids, rows, alone, mb, rs, hR⟩ := hG
    exact (Array.getElem?_eq_some_iff.1 hR.blk).1
  have hrise : RiseG s T := gids_rising hB.asc (by
    obtain ⟨w0', x, tp, bp, mp, d, l, uses, hR⟩ := hB.voc
    exact hR.now.ids)
  have hn : gN s T ≤ 1006 := hl
  refine ⟨_, _, rfl, CondP.no rfl ((foldNew_spec w10 g s T hG (by omega) hrise hgl).mono ?_)⟩
  rintro e w11 ⟨f, rfl, hF, b11⟩
  have hok := hB.now.ok
  refine ⟨_, rfl, g, f, s, T, hs0, hT0, rfl, ⟨hG.on b11, hF, hn, ?_, hrise, hok, hB.now.vok⟩, below_then hb10 b11⟩
  have := hok.len
  unfold gN
  rw [gids_length]
  omega
theorem both_spec (w : World) (y : CsW) (ls : List Int) (cs : List (Int × Int × Int)) (js : List (Int × Int)) (xs : List (Int × Bs)) (h : CsAt w y ls cs js xs) :
    Calls Tryz.prog 23 #[y.v] w fun e w' => ∃ g f s T, e = .returned (.tuple #[.pointer (some ⟨g, 0, none⟩), .pointer (some ⟨f, 0, none⟩)]) ∧ BothF w' g f s T ∧ Below w.heap.size w w' :=
  (both_spec2 w y ls cs js xs h).mono fun _ _ ⟨g, f, s, T, _, _, h⟩ => ⟨g, f, s, T, h⟩
theorem rowF_len {s : SpecV} {T : List Ent} (h : gN s T ≤ 1006) : (rowF s T).length ≤ 1006 ∧ (colF s T).length ≤ 1006 := ⟨Nat.le_trans (firsts_few _ _) h, Nat.le_trans (firsts_few _ _) h⟩
theorem wordAt_iff {n : Nat} {p q : Nat → Bool} : (∀ k, k < (n + 63) / 64 → wordAt n p k = wordAt n q k) ↔ ∀ i, i < n → p i = q i := by
  constructor
  · intro h i hi
    rw [← wordAt_test n p hi, ← wordAt_test n q hi, h _ (by omega)]
  · intro h k hk
    unfold wordAt
    apply bitsN_congr
    intro m hm
    by_cases e : 64 * k + m < n
    · rw [h _ e]
    · simp [e]
set_option maxHeartbeats 4000000 in
theorem FoldClasses_spec (w : World) (y : CsW) (ls : List Int) (cs : List (Int × Int × Int)) (js : List (Int × Int)) (xs : List (Int × Bs)) (h : CsAt w y ls cs js xs) (A : Option Addr) (C : Nat) (ids : List Int) (hr : Rw encInt 1 w A ids) (hC : ids.length ≤ C) :
    Calls Tryz.prog 4 #[y.v, .slice A ids.length C] w fun e w' => e = .returned (.bool true) ∧ Below w.heap.size w w' := by
  refine calls_ret (vc4_calls y.l.a y.l.n y.l.c y.c.a y.c.n y.c.c y.j.a y.j.n y.j.c y.x.a y.x.n y.x.c A ids.length C w (fun u w' => u = .bool true ∧ Below w.heap.size w w') ?_) (by rintro v w' ⟨rfl, h⟩; exact ⟨rfl, h⟩)
  intro w1 hw1
  have hb1 : Below w.heap.size w w1 := by subst hw1; exact below_alloc _ _
  have l1 : w1.heap[w.heap.size]? = some (.cells y.cells tCs (0, 0)) := by subst hw1; exact alloc_new _ _
  refine ⟨_, _, _, _, _, _, _, _, _, _, _, _, agg4 l1, ?_⟩
  refine (lawGreat_spec w1 y ls cs js xs (h.on hb1)).mono ?_
  rintro e w2 ⟨n, rfl, b2⟩
  have hb2 := below_then hb1 b2
  have aw : ∀ {q : World}, Below w.heap.size w q → Calls Tryz.prog 22 #[] q fun e w' => ∃ b : Bool, e = .returned (.bool b) ∧ (Value.bool b = Value.bool true ∧ Below w.heap.size w w') := by
    intro q hq
    refine (awake16_spec q).mono ?_
    rintro e w3 ⟨rfl, b3⟩
    exact ⟨true, rfl, rfl, below_then hq b3⟩
  refine ⟨n, rfl, CondP.mk (fun _ => aw hb2) fun _ => CondP.mk (fun _ => aw hb2) fun h12 => ?_⟩
  have h12 := of_decide_eq_false h12
  refine (awake16_spec w2).mono ?_
  rintro e w6 ⟨rfl, b6⟩
  have hb6 := below_then hb2 b6
  refine ⟨_, rfl, CondP.no rfl ⟨_, _, _, _, _, _, _, _, _, _, _, _, agg4 (held_on b6 (held_on b2 l1)), ?_⟩⟩
  refine (both_spec w6 y ls cs js xs (h.on hb6)).mono ?_
  rintro e w7 ⟨g, f, s, T, rfl, hB, b7⟩
  have hb7 := below_then hb6 b7
  have hn := hB.n
  obtain ⟨hrl, hcl⟩ := rowF_len hn
  have hn2 : (gids s T).length ≤ 1032 := by unfold gN at hn; omega
  refine ⟨_, _, rfl, CondP.no rfl (CondP.no rfl ?_)⟩
  intro I hI
  have key := climb2 (α := World) (gN s T) (fun i q => q = w7) (fun i q => ∀ y4, I [.int .i64 (i : Int), .int .i64 (((firsts (colK s T) i).length : Nat) : Int), .int .i64 (((firsts (rowK s T) i).length : Nat) : Int), .bool y4] q) w7 rfl ?_ ?_
  · exact key _
  · rintro i hi ih q rfl y4
    refine hI _ _ _ _ _ ((gSize_spec q g s T hB.grid).mono ?_)
    rintro e q1 ⟨rfl, rfl⟩
    refine ⟨_, rfl, CondP.yes (decide_eq_true (by unfold gN at hi; omega)) ((gId_at q1 g s T hB.grid i hi).mono ?_)⟩
    rintro e q2 ⟨rfl, rfl⟩
    refine ⟨_, _, rfl, (fRow_spec q2 f g s T hB.fold _).mono ?_⟩
    rintro e q3 ⟨rfl, rfl⟩
    rw [plc_at hB.rise hi]
    refine ⟨_, _, rfl, (fCol_spec q3 f g s T hB.fold _).mono ?_⟩
    rintro e q4 ⟨rfl, rfl⟩
    rw [plc_at hB.rise hi]
    obtain ⟨c1, c2⟩ := cls_next (k := rowK s T) i
    obtain ⟨d1, d2⟩ := cls_next (k := colK s T) i
    have f1 := firsts_few (rowK s T) i
    have f2 := firsts_few (colK s T) i
    refine ⟨_, _, rfl, CondP.no rfl (CondP.no rfl (CondP.no (decide_eq_false (by omega)) (CondP.no (decide_eq_false (by omega)) (Ar.nat (clsOf (rowK s T) i + 1) rfl (by omega) ⟨_, _, run_max2 _ _ _ _ _, Ar.nat (clsOf (colK s T) i + 1) rfl (by omega) ⟨_, _, run_max2 _ _ _ _ _, Ar.nat (i + 1) rfl (by omega) ?_⟩⟩))))⟩
    have e1 : (if ((clsOf (rowK s T) i + 1 : Nat) : Int) > ((firsts (rowK s T) i).length : Int) then ((clsOf (rowK s T) i + 1 : Nat) : Int) else ((firsts (rowK s T) i).length : Int)) = (((firsts (rowK s T) (i + 1)).length : Nat) : Int) := by
      rw [c2]; split <;> omega
    have e2 : (if ((clsOf (colK s T) i + 1 : Nat) : Int) > ((firsts (colK s T) i).length : Int) then ((clsOf (colK s T) i + 1 : Nat) : Int) else ((firsts (colK s T) i).length : Int)) = (((firsts (colK s T) (i + 1)).length : Nat) : Int) := by
      rw [d2]; split <;> omega
    rw [e1, e2]
    exact ih _ rfl _
  · rintro q rfl y4
    refine hI _ _ _ _ _ ((gSize_spec q g s T hB.grid).mono ?_)
    rintro e q1 ⟨rfl, rfl⟩
    refine ⟨_, rfl, CondP.no (decide_eq_false (by unfold gN; omega)) ((fRows_spec q1 f g s T hB.fold).mono ?_)⟩
    rintro e q2 ⟨rfl, rfl⟩
    refine ⟨_, rfl, CondP.no (by simp [rowF]) ((fCols_spec q2 f g s T hB.fold).mono ?_)⟩
    rintro e q3 ⟨rfl, rfl⟩
    refine ⟨_, rfl, CondP.no (by simp [colF]) ((fBits_spec q3 f g s T hB.fold (by omega)).mono ?_)⟩
    rintro e q4 ⟨rfl, rfl⟩
    have h3 : (rowF s T).length * (colF s T).length ≤ 1006 * 1006 := Nat.mul_le_mul hrl hcl
    refine ⟨_, rfl, Ar.nat ((rowF s T).length * (colF s T).length) (by simp [rowF, colF]) (by omega) (CondP.no (by simp) ?_)⟩
    intro I3 hI3
    have key3 := climb2 (α := World) ids.length (fun i z => Below q4.heap.size q4 z) (fun i z => ∀ y4, I3 [.int .i64 (i : Int), .bool y4] z) q4 (Below.refl _ _) ?_ ?_
    · exact key3 _
    · rintro i hi ih z hz y5
      refine hI3 _ _ _ (CondP.yes (decide_eq_true (by omega)) ?_)
      intro I4 hI4
      have key4 := climb2 (α := World) i (fun j z => Below q4.heap.size q4 z) (fun j z => ∀ y4, I4 [.int .i64 (j : Int), .bool y4] z) z hz ?_ ?_
      · exact key4 _
      · rintro j hj ih2 z1 hz1 y6
        refine hI4 _ _ _ (CondP.yes (decide_eq_true (by omega)) ?_)
        intro J hJ
        have hJ' : ∀ y6 z, Below q4.heap.size q4 z → J [.bool y6] z := fun y6 z hz => hJ _ _ (Ar.nat (j + 1) rfl (by omega) (ih2 z hz _))
        intro z2 hz2
        have hz2' := below_then hz1 (show Below z1.heap.size z1 z2 by subst hz2; exact drew_on z1)
        have hr2 := hr.on (below_then hb7 hz2')
        obtain ⟨p1, hp1, c1⟩ := cell_rw hr2 hi rfl
        obtain ⟨p2, hp2, c2⟩ := cell_rw hr2 (show j < ids.length by omega) rfl
        have hB2 := hB.on hz2'
        refine NilC.mk p1 hp1 ⟨by omega, by omega, _, c1, NilC.mk p2 hp2 ⟨by omega, by omega, _, c2, (fRow_spec z2 f g s T hB2.fold _).mono ?_⟩⟩
        rintro e z3 ⟨rfl, rfl⟩
        have next : ∀ (o1 o2 : Option Nat), plc s T ids[i] = o1 → plc s T ids[j] = o2 → (o1 = none ∨ o2 = none ∨ ∃ a b, o1 = some a ∧ o2 = some b) := by
          intro o1 o2 _ _
          cases o1 with
          | none => exact .inl rfl
          | some a => cases o2 with
            | none => exact .inr (.inl rfl)
            | some b => exact .inr (.inr ⟨a, b, rfl, rfl⟩)
        have clv : ∀ (k : Nat → Bs) (o : Option Nat), ∃ (r : Int) (b : Bool), clV k o = .tuple #[.int .i64 r, .bool b] ∧ b = o.isSome ∧ ∀ a, o = some a → r = ((clsOf k a : Nat) : Int) := by
          intro k o
          cases o with
          | none => exact ⟨0, false, rfl, rfl, fun a h => by cases h⟩
          | some a => exact ⟨_, true, rfl, rfl, fun a' h => by cases h; rfl⟩
        obtain ⟨r1, x1, er1, ex1, hr1⟩ := clv (rowK s T) (plc s T ids[i])
        obtain ⟨r2, x2, er2, ex2, hr2'⟩ := clv (rowK s T) (plc s T ids[j])
        obtain ⟨k1, x3, ek1, _, hk1⟩ := clv (colK s T) (plc s T ids[i])
        obtain ⟨k2, x4, ek2, _, hk2⟩ := clv (colK s T) (plc s T ids[j])
        refine ⟨r1, x1, by rw [er1], (fRow_spec z3 f g s T hB2.fold _).mono ?_⟩
        rintro e z4 ⟨rfl, rfl⟩
        refine ⟨r2, x2, by rw [er2], (fCol_spec z4 f g s T hB2.fold _).mono ?_⟩
        rintro e z5 ⟨rfl, rfl⟩
        refine ⟨k1, x3, by rw [ek1], (fCol_spec z5 f g s T hB2.fold _).mono ?_⟩
        rintro e z6 ⟨rfl, rfl⟩
        refine ⟨k2, x4, by rw [ek2], CondP.mk (fun _ => hJ' _ _ hz2') fun hx1 => CondP.mk (fun _ => hJ' _ _ hz2') fun hx2 => ?_⟩
        obtain ⟨a, ha⟩ := Option.isSome_iff_exists.1 (show (plc s T ids[i]).isSome = true by rw [← ex1]; simpa using hx1)
        obtain ⟨b, hb⟩ := Option.isSome_iff_exists.1 (show (plc s T ids[j]).isSome = true by rw [← ex2]; simpa using hx2)
        obtain ⟨ha1, ha2, ha3⟩ := plc_some ha
        obtain ⟨hb1', hb2', hb3'⟩ := plc_some hb
        have ha1 : a < gN s T := ha1
        have hb1' : b < gN s T := hb1'
        rw [hr1 a ha, hr2' b hb, hk1 a ha, hk2 b hb]
        refine (gRow_spec z6 g s T hB2.grid hn2 _).mono ?_
        rintro e z7 ⟨b7', hrow⟩
        rcases hrow with ⟨hno, _⟩ | ⟨a', l, ha', rfl, ho⟩
        · rw [ha] at hno; cases hno
        rw [ha] at ha'
        cases ha'
        have hz7 := below_then hz2' b7'
        have hB7 := hB.on hz7
        refine ⟨l.a, l.n, l.c, rfl, (gRow_spec z7 g s T hB7.grid hn2 _).mono ?_⟩
        rintro e z8 ⟨b8', hrow2⟩
        rcases hrow2 with ⟨hno, _⟩ | ⟨b', l', hb', rfl, ho'⟩
        · rw [hb] at hno; cases hno
        rw [hb] at hb'
        cases hb'
        have hz8 := below_then hz7 b8'
        have o1 := LsAt.of_own elU64 (own_on ho b8')
        have o2 := LsAt.of_own elU64 ho'
        have hn1 := o1.n
        have hn2' := o2.n
        rw [wordsOf_length] at hn1 hn2'
        refine ⟨l'.a, l'.n, l'.c, rfl, ?_⟩
        intro I5 hI5
        have key5 := climb2 (α := Bool × World) l.n (fun m y => (y.1 = true ↔ ∀ k, k < m → wordAt (gids s T).length (relB s T a) k = wordAt (gids s T).length (relB s T b) k) ∧ Below z8.heap.size z8 y.2) (fun m y => I5 [.int .i64 (m : Int), .bool y.1] y.2) (true, z8) ⟨⟨fun _ k hk => absurd hk (Nat.not_lt_zero k), fun _ => rfl⟩, Below.refl _ _⟩ ?_ ?_
        · exact key5
        · rintro m hm ih5 ⟨sm, q5⟩ ⟨hsm, hq5⟩
          change sm = true ↔ _ at hsm
          change Below z8.heap.size z8 q5 at hq5
          refine hI5 _ _ _ (CondP.yes (decide_eq_true (by omega)) ?_)
          intro q6 hq6
          have hq6' := below_then hq5 (show Below q5.heap.size q5 q6 by subst hq6; exact drew_on q5)
          refine CondP.mk (fun hs => ?_) fun hs => ?_
          · obtain ⟨u1, hu1, _, hc1⟩ := (o1.on hq6').r _ _ (wordsOf_get (gids s T).length (relB s T a) (show m < _ by omega))
            have d1 := hc1 0 _ rfl
            rw [add_zero] at d1
            obtain ⟨u2, hu2, _, hc2⟩ := (o2.on hq6').r _ _ (wordsOf_get (gids s T).length (relB s T b) (show m < _ by omega))
            have d2 := hc2 0 _ rfl
            rw [add_zero] at d2
            refine NilC.mk u1 hu1 ⟨by omega, by omega, _, d1, NilC.mk u2 hu2 ⟨by omega, by omega, _, d2, Ar.nat (m + 1) rfl (by omega) (ih5 (_, q6) ⟨?_, hq6'⟩)⟩⟩
            show (((wordAt (gids s T).length (relB s T a) m : Nat) : Int) == ((wordAt (gids s T).length (relB s T b) m : Nat) : Int)) = true ↔ _
            rw [beq_iff_eq]
            have hs' := hsm.1 hs
            constructor
            · intro e k hk
              by_cases ek : k = m
              · subst ek; exact Int.ofNat.inj e
              · exact hs' k (by omega)
            · intro e
              rw [e m (by omega)]
          · refine Ar.nat (m + 1) rfl (by omega) (ih5 (false, q6) ⟨?_, hq6'⟩)
            show false = true ↔ _
            refine ⟨fun e => (by cases e), fun e => ?_⟩
            exact absurd ((hsm.2 fun k hk => e k (by omega)).symm.trans hs) (by decide)
        · rintro ⟨sm, q5⟩ ⟨hsm, hq5⟩
          change sm = true ↔ _ at hsm
          change Below z8.heap.size z8 q5 at hq5
          have hz5 := below_then hz8 hq5
          have hB5 := hB.on hz5
          refine hI5 _ _ _ (CondP.no (decide_eq_false (by omega)) ((gAlone_spec q5 g s T hB5.grid hn2 _).mono ?_))
          rintro e q6 ⟨rfl, rfl⟩
          refine ⟨_, rfl, (gAlone_spec q6 g s T hB5.grid hn2 _).mono ?_⟩
          rintro e q7 ⟨rfl, rfl⟩
          refine ⟨_, rfl, ?_⟩
          rw [← ha2, ← hb2', gAl_at ha1, gAl_at hb1']
          intro I6 hI6
          have key6 := climb2 (α := Bool × World) (gN s T) (fun m y => (y.1 = true ↔ alB s T a = alB s T b ∧ ∀ k, k < m → relB s T k a = relB s T k b) ∧ y.2 = q7) (fun m y => I6 [.int .i64 (m : Int), .bool y.1] y.2) (alB s T a == alB s T b, q7) ⟨⟨fun e => ⟨by simpa using e, fun k hk => absurd hk (Nat.not_lt_zero k)⟩, fun e => by simpa using e.1⟩, rfl⟩ ?_ ?_
          · exact key6
          · rintro m hm ih6 ⟨al, q8⟩ ⟨hal, hq8⟩
            change al = true ↔ _ at hal
            change q8 = q7 at hq8
            subst hq8
            refine hI6 _ _ _ ((gSize_spec q8 g s T hB5.grid).mono ?_)
            rintro e q9 ⟨rfl, rfl⟩
            refine ⟨_, rfl, CondP.yes (decide_eq_true (by unfold gN at hm; omega)) ((gId_at q9 g s T hB5.grid m hm).mono ?_)⟩
            rintro e q10 ⟨rfl, rfl⟩
            refine ⟨_, _, rfl, CondP.mk (fun hs => ?_) fun hs => ?_⟩
            · refine (gHas_spec q10 g s T hB5.grid hn2 _ _).mono ?_
              rintro e q11 ⟨rfl, rfl⟩
              refine ⟨_, rfl, (gHas_spec q11 g s T hB5.grid hn2 _ _).mono ?_⟩
              rintro e q12 ⟨rfl, rfl⟩
              rw [gHas_at hm ha1, gHas_at hm hb1']
              refine ⟨_, rfl, Ar.nat (m + 1) rfl (by omega) (ih6 (_, q12) ⟨?_, rfl⟩)⟩
              show (relB s T m a == relB s T m b) = true ↔ _
              rw [beq_iff_eq]
              have hs' := hal.1 hs
              constructor
              · intro e
                refine ⟨hs'.1, fun k hk => ?_⟩
                by_cases ek : k = m
                · subst ek; exact e
                · exact hs'.2 k (by omega)
              · intro e
                exact e.2 m (by omega)
            · refine Ar.nat (m + 1) rfl (by omega) (ih6 (false, q10) ⟨?_, rfl⟩)
              show false = true ↔ _
              refine ⟨fun e => (by cases e), fun e => ?_⟩
              exact absurd ((hal.2 ⟨e.1, fun k hk => e.2 k (by omega)⟩).symm.trans hs) (by decide)
          · rintro ⟨al, q8⟩ ⟨hal, hq8⟩
            change al = true ↔ _ at hal
            change q8 = q7 at hq8
            subst hq8
            refine hI6 _ _ _ ((gSize_spec q8 g s T hB5.grid).mono ?_)
            rintro e q9 ⟨rfl, rfl⟩
            have same : sm = (((clsOf (rowK s T) a : Nat) : Int) == ((clsOf (rowK s T) b : Nat) : Int)) := by
              rw [Bool.eq_iff_iff, beq_iff_eq, hsm, hn1, wordAt_iff, Int.natCast_inj, cls_iff (k := rowK s T) ha1 hb1', row_eq]
              rfl
            have alike : al = (((clsOf (colK s T) a : Nat) : Int) == ((clsOf (colK s T) b : Nat) : Int)) := by
              rw [Bool.eq_iff_iff, beq_iff_eq, hal, Int.natCast_inj, cls_iff (k := colK s T) ha1 hb1', col_all ha1 hb1']
            refine ⟨_, rfl, CondP.no (decide_eq_false (by unfold gN; omega)) (CondP.no ?_ (CondP.no ?_ (hJ' _ _ hz5)))⟩
            · show (!(sm == _)) = false
              rw [← same]
              simp
            · show (!(al == _)) = false
              rw [← alike]
              simp
      · rintro z1 hz1 y6
        exact hI4 _ _ _ (CondP.no (decide_eq_false (by omega)) (Ar.nat (i + 1) rfl (by omega) (ih z1 hz1 _)))
    · rintro z hz y5
      exact hI3 _ _ _ (CondP.no (decide_eq_false (by omega)) ⟨rfl, below_then hb7 hz⟩)
end Go.Proofs.YtboemnagahmlkaaGreat.Eng
