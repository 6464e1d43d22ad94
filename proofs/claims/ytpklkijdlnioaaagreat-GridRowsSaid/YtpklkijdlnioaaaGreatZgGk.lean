/- The grid's rows tell what its questions tell. -/
import Derived.Test.YtpklkijdlnioaaaGreatZgGi
set_option linter.unusedVariables false
set_option linter.unusedSimpArgs false
set_option maxRecDepth 100000
namespace Go.Proofs.YtpklkijdlnioaaaGreat.Eng
open Go Go.RowKit
theorem rel_has {s : SpecV} {T : List Ent} {id : Int} {k : Nat} (hk : plc s T id = some k) {i : Nat} (hi : i < (gids s T).length) (h : relB s T k i = true) : gHas s T id ((gids s T).getD i 0) = true := by
  obtain ⟨_, h2, h3⟩ := plc_some hk
  have hi2 : hasV2 s T ((gids s T).getD i 0) = true := (gids_has s T _).1 (by rw [getD_of hi]; exact List.getElem_mem hi)
  unfold gHas
  rw [h3, hi2, Bool.true_and, Bool.true_and, ← h2]
  exact h
theorem GridRows_spec (w : World) (y : CsW) (ls : List Int) (cs : List (Int × Int × Int)) (js : List (Int × Int)) (xs : List (Int × Bs)) (h : CsAt w y ls cs js xs) (id : Int) :
    Calls Tryz.prog 9 #[y.v, .int .i64 id] w fun e w' => e = .returned (.bool true) ∧ Below w.heap.size w w' := by
  refine calls_ret (vc9_calls y.l.a y.l.n y.l.c y.c.a y.c.n y.c.c y.j.a y.j.n y.j.c y.x.a y.x.n y.x.c id w (fun u w' => u = .bool true ∧ Below w.heap.size w w') ?_) (by rintro v w' ⟨rfl, h⟩; exact ⟨rfl, h⟩)
  intro w1 hw1
  have hb1 : Below w.heap.size w w1 := by subst hw1; exact below_alloc _ _
  have l1 : w1.heap[w.heap.size]? = some (.cells y.cells tCs (0, 0)) := by subst hw1; exact alloc_new _ _
  refine ⟨_, _, _, _, _, _, _, _, _, _, _, _, agg4 l1, ?_⟩
  refine (lawGreat_spec w1 y ls cs js xs (h.on hb1)).mono ?_
  rintro e w2 ⟨n, rfl, b2⟩
  have hb2 := below_then hb1 b2
  refine ⟨n, rfl, CondP.mk (fun _ => ?_) fun _ => ?_⟩
  · refine (awake15_spec w2).mono ?_
    rintro e w3 ⟨rfl, b3⟩
    exact ⟨true, rfl, rfl, below_then hb2 b3⟩
  refine (awake15_spec w2).mono ?_
  rintro e w6 ⟨rfl, b6⟩
  have hb6 := below_then hb2 b6
  refine ⟨_, rfl, CondP.no rfl ⟨_, _, _, _, _, _, _, _, _, _, _, _, agg4 (held_on b6 (held_on b2 l1)), ?_⟩⟩
  refine (lawOf_spec w6 y ls cs js xs (h.on hb6)).mono ?_
  rintro e w7 ⟨u, rfl, v, r, s, T, rfl, hB7, hv, b7⟩
  have hb7 := below_then hb6 b7
  refine ⟨_, _, _, _, _, _, _, _, _, _, _, _, _, _, _, _, rfl, ?_⟩
  intro w8 hw8
  refine storeP_new (slRv rv0) (slRv r) rfl (ones_rv r) w8 hw8 ?_
  intro w0 h0 hz0 b0
  have hB := hB7.on b0
  have hb0 := below_then hb7 b0
  have hvl := hB7.voc.lt
  have hz1 := hb6.size
  obtain ⟨hl, hsq⟩ := gids_few hB
  have hpos : 0 < (gids s T).length := by
    have := hB.now.ok.len
    rw [gids_length]
    omega
  have hrise := rising_of (gids_rising hB.asc (by
    obtain ⟨w0', x, tp, bp, mp, d, l, uses, hR⟩ := hB.voc
    exact hR.now.ids))
  refine CondP.no rfl ((gridNew_spec w0 v s T hB.voc hB.asc 1048576).mono ?_)
  rintro e w10 ⟨u, rfl, hV10, t10, hu⟩
  rw [if_neg (by omega)] at hu
  obtain ⟨g, rfl, hG, hg⟩ := hu
  have hb10 : Below w.heap.size w w10 := hb0.trans (t10.below (by omega) hb0.size)
  have hn : (gids s T).length ≤ 1032 := by omega
  refine ⟨_, _, rfl, CondP.no rfl ((gRow_spec w10 g s T hG hn id).mono ?_)⟩
  rintro e w11 ⟨b11, hrow⟩
  have hb11 := below_then hb10 b11
  have hG11 := hG.on b11
  have uni : ∃ l : Sl, e = .returned l.v ∧ ∃ q : Nat → Bool, (∀ k, k < l.n → ∃ (p : Addr) (x : Nat), l.a = some p ∧ w11.cell? (p.add (k * 1)) = some (.int .u64 (x : Int)) ∧ x < 2 ^ 64 ∧ ∀ m, m < 64 → x.testBit m = q (64 * k + m)) ∧ (∀ i, q i = true → i < (gids s T).length ∧ gHas s T id ((gids s T).getD i 0) = true) ∧ cntP q (64 * l.n) = gCnt s T id ∧ l.n ≤ 17 := by
    rcases hrow with ⟨hnone, rfl⟩ | ⟨k, l, hsome, rfl, ho⟩
    · refine ⟨sl0, rfl, fun _ => false, fun k hk => absurd hk (Nat.not_lt_zero k), fun i hi => (by cases hi), ?_, Nat.zero_le _⟩
      unfold gCnt
      rw [hnone]
      rfl
    · have hls := LsAt.of_own elU64 ho
      have hln := hls.n
      rw [wordsOf_length] at hln
      refine ⟨l, rfl, fun i => decide (i < (gids s T).length) && relB s T k i, fun j hj => ?_, fun i hi => ?_, ?_, by omega⟩
      · obtain ⟨p, hp, _, hc⟩ := hls.r _ _ (wordsOf_get (gids s T).length (relB s T k) (show j < _ by omega))
        have c0 := hc 0 _ rfl
        rw [add_zero] at c0
        refine ⟨p, _, hp, c0, wordAt_lt _ _ _, fun m hm => ?_⟩
        rw [wordAt, bitsN_test, decide_eq_true hm, Bool.true_and]
      · rw [Bool.and_eq_true, decide_eq_true_iff] at hi
        exact ⟨hi.1, rel_has hsome hi.1 hi.2⟩
      · rw [hln, words_all]
        unfold gCnt
        rw [hsome]
  obtain ⟨l, rfl, q, hcell, hq, hcnt, hln⟩ := uni
  refine ⟨l.a, l.n, l.c, rfl, ?_⟩
  intro I hI
  have key := climb2 (α := World) (64 * l.n) (fun i z => z = w11) (fun i z => ∀ y4, I [.int .i64 (i : Int), .int .i64 ((cntP q i : Nat) : Int), .bool y4] z) w11 rfl ?_ ?_
  · exact key _
  · rintro i hi ih z rfl y4
    refine hI _ _ _ _ (Ar.nat (l.n * 64) (by simp) (by omega) (CondP.yes (decide_eq_true (by omega)) ?_))
    intro J hJ
    have hJ' : ∀ (m : Nat) (y4 : Bool), m = cntP q (i + 1) → J [.int .i64 (m : Int), .bool y4] z := fun m y4 hm => hJ _ _ _ (Ar.nat (i + 1) rfl (by omega) (by subst hm; exact ih _ rfl _))
    obtain ⟨p, x, hp, hc, hx, hb⟩ := hcell (i / 64) (by omega)
    rw [div64 i (by omega), wrap_u64 i (by omega), mod64]
    refine ⟨by decide, NilC.mk p hp ⟨by omega, by omega, _, hc, by decide, by omega, ?_⟩⟩
    rw [has_bit x _ hx (Nat.mod_lt _ (by decide)), hb _ (Nat.mod_lt _ (by decide)), show 64 * (i / 64) + i % 64 = i by omega]
    refine CondP.mk (fun h1 => ?_) fun h1 => hJ' _ _ (by rw [cntP, h1]; simp)
    obtain ⟨hin, hhas⟩ := hq i h1
    refine (gId_spec z g s T hG11 i).mono ?_
    rintro e z2 ⟨rfl, rfl⟩
    rw [if_pos ⟨by omega, by omega⟩]
    refine ⟨_, _, rfl, CondP.no rfl ((gHas_spec z2 g s T hG11 hn id _).mono ?_)⟩
    rintro e z3 ⟨rfl, rfl⟩
    have := cntP_le q i
    refine ⟨_, rfl, CondP.no (by
      have e : ((i : Nat) : Int).toNat = i := rfl
      rw [e, hhas]
      rfl) (Ar.nat (cntP q i + 1) rfl (by omega) (hJ' _ _ (by rw [cntP, h1]; simp)))⟩
  · rintro z rfl y4
    refine hI _ _ _ _ (Ar.nat (l.n * 64) (by simp) (by omega) (CondP.no (decide_eq_false (by omega)) ?_))
    rw [hcnt]
    intro I2 hI2
    have key2 := climb2 (α := World) ((gids s T).length - 1) (fun i z2 => z2 = z) (fun i z2 => ∀ y4, I2 [.int .i64 ((i + 1 : Nat) : Int), .bool y4] z2) z rfl ?_ ?_
    · exact key2 _
    · rintro i hi ih z2 rfl y4
      refine hI2 _ _ _ ((gSize_spec z2 g s T hG11).mono ?_)
      rintro e z3 ⟨rfl, rfl⟩
      refine ⟨_, rfl, CondP.yes (decide_eq_true (by omega)) (Ar.nat i (by omega) (by omega) ((gId_spec z3 g s T hG11 i).mono ?_))⟩
      rintro e z4 ⟨rfl, rfl⟩
      rw [if_pos ⟨by omega, by omega⟩]
      refine ⟨_, _, rfl, (gId_spec z4 g s T hG11 ((i + 1 : Nat) : Int)).mono ?_⟩
      rintro e z5 ⟨rfl, rfl⟩
      rw [if_pos ⟨by omega, by omega⟩]
      refine ⟨_, _, rfl, CondP.no (decide_eq_false ?_) (Ar.nat (i + 1 + 1) rfl (by omega) (ih _ rfl _))⟩
      have := hrise i (i + 1) (by omega) (by omega) (by omega)
      have e1 : ((i : Nat) : Int).toNat = i := rfl
      have e2 : ((i + 1 : Nat) : Int).toNat = i + 1 := rfl
      rw [e1, e2, getD_of (show i < (gids s T).length by omega), getD_of (show i + 1 < (gids s T).length by omega)]
      omega
    · rintro z2 rfl y4
      refine hI2 _ _ _ ((gSize_spec z2 g s T hG11).mono ?_)
      rintro e z3 ⟨rfl, rfl⟩
      refine ⟨_, rfl, CondP.no (decide_eq_false (by omega)) ((gRow_spec z3 g s T hG11 hn id).mono ?_)⟩
      rintro e w12 ⟨b12, hrow2⟩
      have uni2 : ∃ (l2 : Sl) (ws : List Int), e = .returned l2.v ∧ w12.ownsRow z3.heap.size tU64 1 l2.v l2.n (ws.flatMap encU64) ∧ ws.length ≤ 1000 := by
        rcases hrow2 with ⟨_, rfl⟩ | ⟨k, l2, _, rfl, ho⟩
        · exact ⟨sl0, [], rfl, own_none _ _ _ _ encU64, by decide⟩
        · exact ⟨l2, _, rfl, ho, by rw [wordsOf_length]; omega⟩
      obtain ⟨l2, ws, rfl, ho2, hws⟩ := uni2
      have hl2 := (LsAt.of_own elU64 ho2).n
      refine ⟨l2.a, l2.n, l2.c, rfl, ?_⟩
      intro I3 hI3
      have key3 := climb2 (α := World) l2.n (fun i a => ∃ ws : List Int, a.ownsRow z3.heap.size tU64 1 l2.v l2.n (ws.flatMap encU64) ∧ Below z3.heap.size z3 a) (fun i a => I3 [.int .i64 (i : Int)] a) w12 ⟨ws, ho2, b12⟩ ?_ ?_
      · exact key3
      · rintro i hi ih a ⟨ws', ho, hB'⟩
        have hls := LsAt.of_own elU64 ho
        have hlw := hls.n
        obtain ⟨p, hp, _⟩ := cell_rw hls.r (show i < ws'.length by omega) rfl
        refine hI3 _ _ (CondP.yes (decide_eq_true (by omega)) (NilC.mk p hp ⟨by omega, by omega, ?_⟩))
        refine store_one (own_set (enc := encU64) (fun _ => rfl) (by decide) (fun y u hu => by rw [List.mem_singleton.1 hu]; rfl) ho hlw hp i (by omega) (0 : Int) ?_)
        intro a2 ho' _ _ hB2
        exact Ar.nat (i + 1) rfl (by omega) (ih a2 ⟨_, ho', hB2 _ _ (Nat.le_refl _) hB'⟩)
      · rintro a ⟨ws', ho, hB'⟩
        refine hI3 _ _ (CondP.no (decide_eq_false (by omega)) ((gCount_spec a g s T (hG11.on hB') hn id).mono ?_))
        rintro e a2 ⟨rfl, rfl⟩
        exact ⟨_, rfl, by simp, below_then hb11 hB'⟩
end Go.Proofs.YtpklkijdlnioaaaGreat.Eng
