/- The grid's bits are what making anew tells. -/
import Derived.Test.YtpklkijdlnioaaaGreatZhGk
set_option linter.unusedVariables false
set_option linter.unusedSimpArgs false
set_option maxRecDepth 100000
namespace Go.Proofs.YtpklkijdlnioaaaGreat.Eng
open Go Go.RowKit
theorem may15_spec (w : World) (x : RvW) (s : SpecV) (T : List Ent) (h : RvAt w x s T) (a b : Int) (ha : (vocOf s T).Has a) (hb : (vocOf s T).Has b) :
    Calls Tryz.prog 40 #[x.v, .int .i64 a, .int .i64 b] w fun e w' => e = .returned (.bool (decide ((vocOf s T).Canon [a, b]))) ∧ Below w.heap.size w w' := by
  refine calls_ret (vc40_calls x.t.b.a x.t.b.n x.t.b.c x.t.m.a x.t.m.n x.t.m.c x.b.b.a x.b.b.n x.b.b.c x.b.m.a x.b.m.n x.b.m.c x.sp.a x.sp.n x.sp.c a b w (fun u w' => u = .bool (decide ((vocOf s T).Canon [a, b])) ∧ Below w.heap.size w w') ?_) (by rintro v w' ⟨rfl, h⟩; exact ⟨rfl, h⟩)
  intro w1 hw1
  have b1 : Below w.heap.size w w1 := by subst hw1; exact below_alloc _ _
  have l1 : w1.heap[w.heap.size]? = some (.cells x.cells tRv (0, 0)) := by subst hw1; exact alloc_new _ _
  refine ⟨_, _, _, _, _, _, _, _, _, _, _, _, _, _, _, agg5 (x := x) l1, ?_⟩
  intro w2 hw2
  have b2 : Below w1.heap.size w1 w2 := by subst hw2; exact below_alloc _ _
  have hb2 := below_then b1 b2
  refine (refCanon_spec w2 x s T (h.on hb2) (some (nb w1)) 2 [a, b] (intsAt w1 w2 [a, b] _ rfl hw2) (show 2 ≤ 10000 by decide) (by
    intro t ht
    simp only [List.mem_cons, List.not_mem_nil, or_false] at ht
    rcases ht with rfl | rfl
    · exact ha
    · exact hb)).mono ?_
  rintro e w3 ⟨rfl, b3⟩
  exact ⟨_, rfl, rfl, below_then hb2 b3⟩
theorem gHas_can {s : SpecV} {T : List Ent} {a b : Int} (ha : hasV2 s T a = true) (hb : hasV2 s T b = true) : gHas s T a b = decide ((vocOf s T).Canon [a, b]) := by
  unfold gHas
  rw [ha, hb, Bool.true_and, Bool.true_and]
theorem plc_of {s : SpecV} {T : List Ent} {a : Int} (h : hasV2 s T a = true) : ∃ k, plc s T a = some k := Option.isSome_iff_exists.1 (by rw [plc_has]; exact h)
set_option maxHeartbeats 4000000 in
theorem GridBits_spec (w : World) (y : CsW) (ls : List Int) (cs : List (Int × Int × Int)) (js : List (Int × Int)) (xs : List (Int × Bs)) (h : CsAt w y ls cs js xs) (A : Option Addr) (C : Nat) (ids : List Int) (hr : Rw encInt 1 w A ids) (hC : ids.length ≤ C) (most : Int) :
    Calls Tryz.prog 10 #[y.v, .slice A ids.length C, .int .i64 most] w fun e w' => e = .returned (.bool true) ∧ Below w.heap.size w w' := by
  refine calls_ret (vc10_calls y.l.a y.l.n y.l.c y.c.a y.c.n y.c.c y.j.a y.j.n y.j.c y.x.a y.x.n y.x.c A ids.length C most w (fun u w' => u = .bool true ∧ Below w.heap.size w w') ?_) (by rintro v w' ⟨rfl, h⟩; exact ⟨rfl, h⟩)
  intro w1 hw1
  have hb1 : Below w.heap.size w w1 := by subst hw1; exact below_alloc _ _
  have l1 : w1.heap[w.heap.size]? = some (.cells y.cells tCs (0, 0)) := by subst hw1; exact alloc_new _ _
  refine ⟨_, _, _, _, _, _, _, _, _, _, _, _, agg4 l1, ?_⟩
  refine (lawGreat_spec w1 y ls cs js xs (h.on hb1)).mono ?_
  rintro e w2 ⟨n, rfl, b2⟩
  have hb2 := below_then hb1 b2
  have aw : ∀ {q : World}, Below w.heap.size w q → Calls Tryz.prog 29 #[] q fun e w' => ∃ b : Bool, e = .returned (.bool b) ∧ (Value.bool b = Value.bool true ∧ Below w.heap.size w w') := by
    intro q hq
    refine (awake15_spec q).mono ?_
    rintro e w3 ⟨rfl, b3⟩
    exact ⟨true, rfl, rfl, below_then hq b3⟩
  refine ⟨n, rfl, CondP.mk (fun _ => aw hb2) fun _ => CondP.mk (fun _ => aw hb2) fun h12 => ?_⟩
  have h12 := of_decide_eq_false h12
  refine (awake15_spec w2).mono ?_
  rintro e w6 ⟨rfl, b6⟩
  have hb6 := below_then hb2 b6
  refine ⟨_, rfl, CondP.no rfl ⟨_, _, _, _, _, _, _, _, _, _, _, _, agg4 (held_on b6 (held_on b2 l1)), ?_⟩⟩
  refine (lawOf_spec w6 y ls cs js xs (h.on hb6)).mono ?_
  rintro e w7 ⟨u, rfl, v, r, s, T, rfl, hB7, hv, b7⟩
  have hb7 := below_then hb6 b7
  refine ⟨_, _, _, _, _, _, _, _, _, _, _, _, _, _, _, _, rfl, ?_⟩
  intro w8 hw8
  refine storeP_new (slRv rv0) (slRv r) rfl (ones_rv r) w8 hw8 ?_
  intro w0 h0 hz0 b0
  have hB := hB7.on b0
  have hb0 := below_then hb7 b0
  have hvl := hB7.voc.lt
  have hz1 := hb6.size
  obtain ⟨hl, hsq⟩ := gids_few hB
  have hn : (gids s T).length ≤ 1032 := by omega
  have hgl := gids_length s T
  have hn1 := hB.now.t.n1
  have hn2 := hB.now.sn
  have hok := hB.now.ok
  refine CondP.no rfl ⟨r.t.b.a, r.t.b.n, r.t.b.c, by rw [add_zero, ptr_add0 _ _ h0 0]; rfl, r.sp.a, r.sp.n, r.sp.c, ptr_add0 _ _ h0 4, Ar.nat (gids s T).length (by rw [hgl, hn1, hn2]; simp) (by omega) ?_⟩
  refine (gridNew_spec w0 v s T hB.voc hB.asc most).mono ?_
  rintro e w9 ⟨u, rfl, hV9, t9, hu⟩
  have hB9 := hB.touch t9 hV9
  have hb9 : Below w.heap.size w w9 := hb0.trans (t9.below (by omega) hb0.size)
  have h9 := t9.held (by omega) h0
  have lt0 := hB.voc.lt
  obtain ⟨sq, hsqe⟩ : ∃ sq : Nat, sq = (gids s T).length * (gids s T).length := ⟨_, rfl⟩
  rw [← hsqe] at hu hsq
  obtain ⟨g0, e0, rfl, he0⟩ : ∃ (g0 : Option Addr) (e0 : Int), u = .tuple #[.pointer g0, .int .i64 e0] ∧ ((e0 = 5 ∧ (sq : Int) > most) ∨ (e0 = 0 ∧ ¬ (sq : Int) > most)) := by
    split at hu
    · next hh => exact ⟨_, _, hu, .inl ⟨rfl, hh⟩⟩
    · next hh =>
      obtain ⟨g, hg, _⟩ := hu
      exact ⟨_, _, hg, .inr ⟨rfl, hh⟩⟩
  clear hu
  refine ⟨_, _, rfl, Ar.nat sq (by rw [hsqe]; simp) (by omega) ?_⟩
  refine (gridNew_spec w9 v s T hV9 hB.asc sq).mono ?_
  rintro e w10 ⟨u, rfl, hV10, t10, hu⟩
  rw [← hsqe, if_neg (by omega)] at hu
  obtain ⟨g, rfl, hG, hg⟩ := hu
  have hB10 := hB9.touch t10 hV10
  have hb10 : Below w.heap.size w w10 := hb9.trans (t10.below (by omega) hb9.size)
  have h10 := t10.held (by omega) h9
  have hlt10 := (Array.getElem?_eq_some_iff.1 h10).1
  refine ⟨_, _, rfl, Ar.nat sq (by rw [hsqe]; simp) (by omega) (CondP.no ?_ ?_)⟩
  · rcases he0 with ⟨rfl, hh⟩ | ⟨rfl, hh⟩
    · rw [decide_eq_false (by omega)]; rfl
    · rw [decide_eq_true (by omega)]; rfl
  refine CondP.mk (fun hne => CondP.no ?_ ?_) fun _ => ?_
  · rcases he0 with ⟨rfl, hh⟩ | ⟨rfl, hh⟩
    · rfl
    · cases hne
  all_goals
    refine CondP.no rfl ((gSize_spec w10 g s T hG).mono ?_)
    rintro e w12 ⟨rfl, rfl⟩
    refine ⟨_, rfl, CondP.no (by simp) ?_⟩
    intro I hI
    have key := climb2 (α := World) ids.length (fun i q => Below w12.heap.size w12 q) (fun i q => ∀ y6, I [.int .i64 (i : Int), .bool y6] q) w12 (Below.refl _ _) ?_ ?_
    · exact key _
    · rintro i hi ih q hq y6
      refine hI _ _ _ (CondP.yes (decide_eq_true (by omega)) ?_)
      intro J hJ
      have hJ' : ∀ y6 q, Below w12.heap.size w12 q → J [.bool y6] q := fun y6 q hq => hJ _ _ (Ar.nat (i + 1) rfl (by omega) (ih q hq _))
      have hrq := hr.on (hb10.trans (hq.mono hb10.size))
      obtain ⟨p, hp, c0⟩ := cell_rw hrq hi rfl
      have hGq := hG.on hq
      refine NilC.mk p hp ⟨by omega, by omega, _, c0, (gPlace_spec q g s T hGq _).mono ?_⟩
      rintro e q2 ⟨rfl, rfl⟩
      refine ⟨_, _, rfl, _, _, _, _, _, _, _, _, _, _, _, _, _, _, _, agg5 (x := r) (held_on hq h10), ?_⟩
      refine (refVHas_spec q2 r s T (hB10.now.on hq) _).mono ?_
      rintro e q3 ⟨rfl, b3⟩
      have hq3 := below_then hq b3
      have hG3 := hG.on hq3
      refine ⟨_, rfl, CondP.no (by rw [plc_has]; cases hasV2 s T ids[i] <;> rfl) (CondP.mk (fun hno => ?_) fun hyes => ?_)⟩
      · have hno' : hasV2 s T ids[i] = false := by rw [← plc_has]; simpa using hno
        have hpn : plc s T ids[i] = none := by
          cases hp : plc s T ids[i] with
          | none => rfl
          | some k => rw [hp] at hno; cases hno
        refine (gAlone_spec q3 g s T hG3 hn _).mono ?_
        rintro e q4 ⟨rfl, rfl⟩
        refine ⟨_, rfl, CondP.no (by unfold gAl; rw [hno', Bool.false_and]) ((gRow_spec q4 g s T hG3 hn _).mono ?_)⟩
        rintro e q5 ⟨b5, hrow⟩
        rcases hrow with ⟨_, rfl⟩ | ⟨k, l, hk, _⟩
        · have hq5 := below_then hq3 b5
          have hG5 := hG.on hq5
          refine ⟨_, _, _, rfl, CondP.no rfl ((gCount_spec q5 g s T hG5 hn _).mono ?_)⟩
          rintro e q6 ⟨rfl, rfl⟩
          refine ⟨_, rfl, CondP.no (by unfold gCnt; rw [hpn]; rfl) ((gHas_spec q6 g s T hG5 hn _ _).mono ?_)⟩
          rintro e q7 ⟨rfl, rfl⟩
          refine ⟨_, rfl, CondP.no (by unfold gHas; rw [hno', Bool.false_and, Bool.false_and]) ((gHas_spec q7 g s T hG5 hn _ _).mono ?_)⟩
          rintro e q8 ⟨rfl, rfl⟩
          exact ⟨_, rfl, CondP.no (by unfold gHas; rw [hno', Bool.and_false, Bool.false_and]) (hJ' _ _ hq5)⟩
        · rw [hpn] at hk
          cases hk
      · have hyes' : hasV2 s T ids[i] = true := by rw [← plc_has]; simpa using hyes
        have hHas := (has_iff2 hok _).1 hyes'
        obtain ⟨k, hk⟩ := plc_of hyes'
        obtain ⟨hk1, hk2, _⟩ := plc_some hk
        rw [hk]
        refine (gId_spec q3 g s T hG3 _).mono ?_
        rintro e q4 ⟨rfl, rfl⟩
        have hid : (if 0 ≤ (((some k).getD 0 : Nat) : Int) ∧ (((some k).getD 0 : Nat) : Int) < ((gids s T).length : Int) then Value.tuple #[.int .i64 ((gids s T).getD (((some k).getD 0 : Nat) : Int).toNat 0), .bool true] else Value.tuple #[.int .i64 0, .bool false]) = .tuple #[.int .i64 ids[i], .bool true] := by
          rw [if_pos ⟨by omega, by show ((k : Nat) : Int) < _; omega⟩]
          show Value.tuple #[.int .i64 ((gids s T).getD k 0), .bool true] = _
          rw [hk2]
        rw [hid]
        refine ⟨_, _, rfl, ?_⟩
        intro q5 hq5
        have b5 : Below q4.heap.size q4 q5 := by subst hq5; exact drew_on q4
        have hq5' := below_then hq3 b5
        have hG5 := hG.on hq5'
        have h5 := held_on hq5' h10
        refine CondP.no (by simp) (CondP.no rfl ⟨_, _, _, _, _, _, _, _, _, _, _, _, _, _, _, agg5 (x := r) h5, ?_, ?_⟩)
        case' refine_1 =>
          refine (gAlone_spec q5 g s T hG5 hn _).mono ?_
          rintro e q6 ⟨rfl, rfl⟩
          refine ⟨_, rfl, agg5 (x := r) h5, ?_⟩
          intro q7 hq7
          have b7' : Below q6.heap.size q6 q7 := by subst hq7; exact below_alloc _ _
          have hq7' := below_then hq5' b7'
          refine ⟨agg5 (x := r) (held_on hq7' h10), ?_⟩
          refine (refCanon_spec q7 r s T (hB10.now.on hq7') (some (nb q6)) 1 [ids[i]] (intsAt q6 q7 [ids[i]] _ rfl hq7) (show 1 ≤ 10000 by decide) (by intro t ht; rw [List.mem_singleton.1 ht]; exact hHas)).mono ?_
          rintro e q8 ⟨rfl, b8⟩
          have hq8 := below_then hq7' b8
        case' refine_2 =>
          intro q6 hq6
          have b6' : Below q5.heap.size q5 q6 := by subst hq6; exact below_alloc _ _
          have hq6' := below_then hq5' b6'
          refine ⟨agg5 (x := r) (held_on hq6' h10), ?_⟩
          refine (gAlone_spec q6 g s T (hG.on hq6') hn _).mono ?_
          rintro e q7 ⟨rfl, rfl⟩
          refine ⟨_, rfl, agg5 (x := r) (held_on hq6' h10), ?_⟩
          refine (refCanon_spec q7 r s T (hB10.now.on hq6') (some (nb q5)) 1 [ids[i]] (intsAt q5 q7 [ids[i]] _ rfl hq6) (show 1 ≤ 10000 by decide) (by intro t ht; rw [List.mem_singleton.1 ht]; exact hHas)).mono ?_
          rintro e q8 ⟨rfl, b8⟩
          have hq8 := below_then hq6' b8
        all_goals
          have hG8 := hG.on hq8
          refine ⟨_, rfl, CondP.no (by unfold gAl; rw [hyes', Bool.true_and]; simp) (Ar.nat ((gids s T).length + 63) (by simp) (by omega) ⟨by decide, ?_⟩)⟩
          refine (gRow_spec q8 g s T hG8 hn _).mono ?_
          rintro e q9 ⟨b9', hrow⟩
          have hq9 := below_then hq8 b9'
          rcases hrow with ⟨hk', _⟩ | ⟨k', l, hk', rfl, ho⟩
          · rw [hk] at hk'; cases hk'
          have hll := (LsAt.of_own elU64 ho).n
          rw [wordsOf_length] at hll
          refine ⟨_, _, _, rfl, CondP.no (by rw [div64 _ (by omega), hll]; simp) ?_⟩
          intro I2 hI2
          have key2 := climb2 (α := World) ids.length (fun j z => Below w12.heap.size w12 z) (fun j z => ∀ y7, I2 [.int .i64 (j : Int), .bool y7] z) q9 hq9 ?_ ?_
          · exact key2 _
          · rintro j hj ih2 z hz y7
            have hrz := hr.on (hb10.trans (hz.mono hb10.size))
            obtain ⟨p2, hp2, c2⟩ := cell_rw hrz hj rfl
            have hGz := hG.on hz
            refine hI2 _ _ _ (CondP.yes (decide_eq_true (by omega)) (NilC.mk p2 hp2 ⟨by omega, by omega, _, c2, (gPlace_spec z g s T hGz _).mono ?_⟩))
            rintro e z2 ⟨rfl, rfl⟩
            refine ⟨_, _, rfl, ?_⟩
            intro z3 hz3
            have bz3 : Below z2.heap.size z2 z3 := by subst hz3; exact drew_on z2
            have hz3' := below_then hz bz3
            have hGz3 := hG.on hz3'
            refine CondP.mk (fun hth => ?_) fun _ => Ar.nat (j + 1) rfl (by omega) (ih2 z3 hz3' _)
            have hth' : hasV2 s T ids[j] = true := by rw [← plc_has]; exact hth
            have hHasj := (has_iff2 hok _).1 hth'
            obtain ⟨m, hm⟩ := plc_of hth'
            obtain ⟨hm1, hm2, _⟩ := plc_some hm
            refine ⟨_, _, _, _, _, _, _, _, _, _, _, _, _, _, _, agg5 (x := r) (held_on hz3' h10), (gHas_spec z3 g s T hGz3 hn _ _).mono ?_⟩
            rintro e z4 ⟨rfl, rfl⟩
            refine ⟨_, rfl, agg5 (x := r) (held_on hz3' h10), (may15_spec z4 r s T (hB10.now.on hz3') _ _ hHas hHasj).mono ?_⟩
            rintro e z5 ⟨rfl, bz5⟩
            have hz5 := below_then hz3' bz5
            have hG5' := hG.on hz5
            refine ⟨_, rfl, CondP.no (by rw [gHas_can hyes' hth']; simp) ⟨by decide, by decide, (gHas_spec z5 g s T hG5' hn _ _).mono ?_⟩⟩
            rintro e z6 ⟨rfl, rfl⟩
            refine ⟨_, rfl, (gRow_spec z6 g s T hG5' hn _).mono ?_⟩
            rintro e z7 ⟨bz7, hrow2⟩
            have hz7 := below_then hz5 bz7
            rcases hrow2 with ⟨hk2', _⟩ | ⟨k2, l2, hk2', rfl, ho2⟩
            · rw [hk] at hk2'; cases hk2'
            rw [hk] at hk2'
            cases hk2'
            have hls2 := LsAt.of_own elU64 ho2
            have hl2 := hls2.n
            rw [wordsOf_length] at hl2
            have hw : m / 64 < ((gids s T).length + 63) / 64 := by omega
            obtain ⟨a2, ha2, _, hc2⟩ := hls2.r _ _ (wordsOf_get (gids s T).length (relB s T k) hw)
            have c3 := hc2 0 _ rfl
            rw [add_zero] at c3
            rw [hm]
            show ∃ lA lN lC, _ ∧ _
            refine ⟨_, _, _, rfl, NilC.mk a2 ha2 ?_⟩
            have em : (((some m).getD 0 : Nat) : Int) = ((m : Nat) : Int) := rfl
            rw [em, div64 m (by omega), wrap_u64 m (by omega), mod64]
            refine ⟨by omega, by omega, _, c3, by omega, CondP.no ?_ (Ar.nat (j + 1) rfl (by omega) (ih2 z7 hz7 _))⟩
            rw [has_bit _ _ (wordAt_lt _ _ _) (Nat.mod_lt _ (by decide)), wordAt_test _ _ hm1, gHas_can hyes' hth']
            unfold relB
            rw [hk2, hm2]
            simp
          · rintro z hz y7
            exact hI2 _ _ _ (CondP.no (decide_eq_false (by omega)) (hJ' _ _ hz))
    · rintro q hq y6
      exact hI _ _ _ (CondP.no (decide_eq_false (by omega)) ⟨rfl, hb10.trans (hq.mono hb10.size)⟩)
end Go.Proofs.YtpklkijdlnioaaaGreat.Eng
