/- The grid's answers, walked by the engine. -/
import Derived.Test.YtpklkijdlnioaaaGreatZhGg
import Derived.Test.YtpklkijdlnioaaaGreatZhPo
set_option linter.unusedVariables false
set_option linter.unusedSimpArgs false
set_option maxRecDepth 100000
namespace Go.Proofs.YtpklkijdlnioaaaGreat.Eng
open Go Go.RowKit
/-! ### Bits, counted -/
theorem sh_k (x k : Nat) (hk : k ≤ 64) : Int.fdiv (x : Int) (2 ^ (min (k : Int).toNat (IntKind.bits .u64))) = ((x / 2 ^ k : Nat) : Int) := by
  show Int.fdiv (x : Int) (2 ^ (min k 64)) = _
  rw [Nat.min_eq_left hk, Int.fdiv_eq_ediv_of_nonneg _ (Int.pow_nonneg (by decide))]
  simp
theorem and_m (x m : Nat) (hx : x < 2 ^ 64) (hm : m < 2 ^ 64) : IntKind.wrap .u64 ((BitVec.ofInt (IntKind.bits .u64) (x : Int) &&& BitVec.ofInt (IntKind.bits .u64) (m : Int)).toNat : Int) = ((x &&& m : Nat) : Int) := by
  show IntKind.wrap .u64 ((BitVec.ofInt 64 (x : Int) &&& BitVec.ofInt 64 (m : Int)).toNat : Int) = _
  rw [BitVec.toNat_and, ofInt_nat _ hx, ofInt_nat _ hm]
  exact wrap_u64 _ (Nat.lt_of_le_of_lt Nat.and_le_left hx)
theorem ones_spec (w : World) (x : Nat) (hx : x < 2 ^ 64) : Calls Tryz.prog 103 #[.int .u64 (x : Int)] w fun e w' => e = .returned (.int .i64 ((cnt 64 x : Nat) : Int)) ∧ w' = w := by
  refine calls_ret (vc103_calls x w (fun u w' => u = .int .i64 ((cnt 64 x : Nat) : Int) ∧ w' = w) ?_) (by rintro v w' ⟨rfl, h⟩; exact ⟨rfl, h⟩)
  unfold vc103 Ar
  obtain ⟨h1, h2, h3, h4, h5, h6, h7⟩ := swar x hx
  have big : (18446744073709551616 : Nat) = 2 ^ 64 := by decide
  rw [big] at h1 h2 h3 h4 h5
  have a1 : Int.fdiv (x : Int) (2 ^ (min (1 : Int).toNat (IntKind.bits .u64))) = ((x / 2 : Nat) : Int) := sh_k x 1 (by decide)
  have a2 : IntKind.wrap .u64 ((BitVec.ofInt (IntKind.bits .u64) ((x / 2 : Nat) : Int) &&& BitVec.ofInt (IntKind.bits .u64) 6148914691236517205).toNat : Int) = ((x / 2 &&& 6148914691236517205 : Nat) : Int) := and_m (x / 2) 6148914691236517205 (by omega) (by decide)
  have a3 : IntKind.wrap .u64 ((BitVec.ofInt (IntKind.bits .u64) (x : Int) &&& BitVec.ofInt (IntKind.bits .u64) 6148914691236517205).toNat : Int) = ((x &&& 6148914691236517205 : Nat) : Int) := and_m x 6148914691236517205 hx (by decide)
  have a4 : IntKind.wrap .u64 (((x / 2 &&& 6148914691236517205 : Nat) : Int) + ((x &&& 6148914691236517205 : Nat) : Int)) = ((s1 x : Nat) : Int) := wrap_u64 (s1 x) h1
  refine ⟨by decide, ?_⟩
  rw [a1, a2, a3, a4]
  generalize s1 x = y at *
  have b1 : Int.fdiv (y : Int) (2 ^ (min (2 : Int).toNat (IntKind.bits .u64))) = ((y / 4 : Nat) : Int) := sh_k y 2 (by decide)
  have b2 : IntKind.wrap .u64 ((BitVec.ofInt (IntKind.bits .u64) ((y / 4 : Nat) : Int) &&& BitVec.ofInt (IntKind.bits .u64) 3689348814741910323).toNat : Int) = ((y / 4 &&& 3689348814741910323 : Nat) : Int) := and_m (y / 4) 3689348814741910323 (by omega) (by decide)
  have b3 : IntKind.wrap .u64 ((BitVec.ofInt (IntKind.bits .u64) (y : Int) &&& BitVec.ofInt (IntKind.bits .u64) 3689348814741910323).toNat : Int) = ((y &&& 3689348814741910323 : Nat) : Int) := and_m y 3689348814741910323 h1 (by decide)
  have b4 : IntKind.wrap .u64 (((y / 4 &&& 3689348814741910323 : Nat) : Int) + ((y &&& 3689348814741910323 : Nat) : Int)) = ((s2 y : Nat) : Int) := wrap_u64 (s2 y) h2
  refine ⟨by decide, ?_⟩
  rw [b1, b2, b3, b4]
  generalize s2 y = z at *
  have c1 : Int.fdiv (z : Int) (2 ^ (min (4 : Int).toNat (IntKind.bits .u64))) = ((z / 16 : Nat) : Int) := sh_k z 4 (by decide)
  have c2 : IntKind.wrap .u64 (((z / 16 : Nat) : Int) + (z : Int)) = ((s3 z : Nat) : Int) := wrap_u64 (s3 z) h3
  refine ⟨by decide, ?_⟩
  rw [c1, c2]
  generalize s3 z = u at *
  have d1 : IntKind.wrap .u64 ((BitVec.ofInt (IntKind.bits .u64) (u : Int) &&& BitVec.ofInt (IntKind.bits .u64) 1085102592571150095).toNat : Int) = ((u &&& 1085102592571150095 : Nat) : Int) := and_m u 1085102592571150095 h3 (by decide)
  have d2 : Int.fdiv ((u &&& 1085102592571150095 : Nat) : Int) (2 ^ (min (8 : Int).toNat (IntKind.bits .u64))) = (((u &&& 1085102592571150095) / 256 : Nat) : Int) := sh_k (u &&& 1085102592571150095) 8 (by decide)
  have d3 : IntKind.wrap .u64 (((u &&& 1085102592571150095 : Nat) : Int) + (((u &&& 1085102592571150095) / 256 : Nat) : Int)) = ((s4 u : Nat) : Int) := wrap_u64 (s4 u) h4
  refine ⟨by decide, ?_⟩
  rw [d1, d2, d3]
  generalize s4 u = t at *
  have e1 : Int.fdiv (t : Int) (2 ^ (min (16 : Int).toNat (IntKind.bits .u64))) = ((t / 65536 : Nat) : Int) := sh_k t 16 (by decide)
  have e2 : IntKind.wrap .u64 ((t : Int) + ((t / 65536 : Nat) : Int)) = ((s5 t : Nat) : Int) := wrap_u64 (s5 t) h5
  refine ⟨by decide, ?_⟩
  rw [e1, e2]
  generalize s5 t = r at *
  have f1 : Int.fdiv (r : Int) (2 ^ (min (32 : Int).toNat (IntKind.bits .u64))) = ((r / 4294967296 : Nat) : Int) := sh_k r 32 (by decide)
  have f2 : IntKind.wrap .u64 ((r : Int) + ((r / 4294967296 : Nat) : Int)) = ((s6 r : Nat) : Int) := wrap_u64 (s6 r) (by omega)
  refine ⟨by decide, ?_, rfl⟩
  rw [f1, f2]
  generalize s6 r = q at *
  have g1 : IntKind.wrap .i64 (q : Int) = (q : Int) := wrap_in (by show (-9223372036854775808 : Int) ≤ _; omega) (by show _ ≤ (9223372036854775807 : Int); omega)
  rw [g1]
  have g2 : ((BitVec.ofInt (IntKind.bits .i64) (q : Int) &&& BitVec.ofInt (IntKind.bits .i64) 127).toNat) = cnt 64 x := by
    show ((BitVec.ofInt 64 (q : Int) &&& BitVec.ofInt 64 ((127 : Nat) : Int)).toNat) = _
    rw [BitVec.toNat_and, ofInt_nat _ (by omega), ofInt_nat _ (by decide), ← h7]
    exact Nat.and_two_pow_sub_one_eq_mod q 7
  rw [g2]
  have := cntP_le x.testBit 64
  rw [← cnt_bits] at this
  exact congrArg _ (wrap_in (by show (-9223372036854775808 : Int) ≤ _; omega) (by show _ ≤ (9223372036854775807 : Int); omega))
theorem rowCount_spec (w : World) (A : Option Addr) (C n : Nat) (p : Nat → Bool) (hr : Rw encU64 1 w A (wordsOf n p)) (hn : n ≤ 100000) :
    Calls Tryz.prog 73 #[.slice A (wordsOf n p).length C] w fun e w' => e = .returned (.int .i64 ((cntP p n : Nat) : Int)) ∧ w' = w := by
  refine calls_ret (vc73_calls A (wordsOf n p).length C w (fun u w' => u = .int .i64 ((cntP p n : Nat) : Int) ∧ w' = w) ?_) (by rintro v w' ⟨rfl, h⟩; exact ⟨rfl, h⟩)
  intro I hI
  have hm := wordsOf_length n p
  have key := climb2 (α := World) (wordsOf n p).length (fun i q => q = w) (fun i q => I [.int .i64 (i : Int), .int .i64 ((cntP (fun i => decide (i < n) && p i) (64 * i) : Nat) : Int)] q) w rfl ?_ ?_
  · exact key
  · rintro i hi ih q rfl
    have hk : i < (n + 63) / 64 := by omega
    obtain ⟨a, ha, _, hc⟩ := hr _ _ (wordsOf_get n p hk)
    have c0 := hc 0 _ rfl
    rw [add_zero] at c0
    refine hI _ _ _ (CondP.yes (by simp; omega) (NilC.mk a ha ⟨by omega, by omega, _, c0, ?_⟩))
    refine (ones_spec q _ (wordAt_lt n p i)).mono ?_
    rintro e w2 ⟨rfl, rfl⟩
    have := words_cnt n p i
    have hle := cntP_le (fun i => decide (i < n) && p i) (64 * (i + 1))
    refine ⟨_, rfl, Ar.nat (cntP (fun i => decide (i < n) && p i) (64 * (i + 1))) (by rw [this]; omega) (by omega) (Ar.nat (i + 1) rfl (by omega) (ih _ rfl))⟩
  · rintro q rfl
    refine hI _ _ _ (CondP.no (by simp) ⟨?_, rfl⟩)
    rw [hm, words_all]

/-! ### Places -/
abbrev GrIs (w : World) (g : Nat) (s : SpecV) (T : List Ent) : Prop := GridIs w g (gids s T) (alB s T) (relB s T)
def plc (s : SpecV) (T : List Ent) (id : Int) : Option Nat := (gids s T).idxOf? id
theorem idxOf_some {l : List Int} {a : Int} {i : Nat} (h : l.idxOf? a = some i) : ∃ h : i < l.length, l[i] = a := by
  have := List.findIdx?_eq_some_iff_getElem.1 h
  obtain ⟨h1, h2, _⟩ := this
  exact ⟨h1, by simpa using h2⟩
theorem plc_some {s : SpecV} {T : List Ent} {id : Int} {i : Nat} (h : plc s T id = some i) : i < (gids s T).length ∧ (gids s T).getD i 0 = id ∧ hasV2 s T id = true := by
  obtain ⟨h1, h2⟩ := idxOf_some h
  exact ⟨h1, by rw [getD_of h1]; exact h2, (gids_has s T id).1 (by rw [← h2]; exact List.getElem_mem h1)⟩
theorem plc_none {s : SpecV} {T : List Ent} {id : Int} (h : plc s T id = none) : hasV2 s T id = false := by
  have h1 := List.idxOf?_eq_none_iff.1 h
  cases hh : hasV2 s T id with
  | false => rfl
  | true => exact absurd ((gids_has s T id).2 hh) h1
theorem plc_has {s : SpecV} {T : List Ent} (id : Int) : (plc s T id).isSome = hasV2 s T id := by
  cases h : plc s T id with
  | none => exact (plc_none h).symm
  | some i => exact (plc_some h).2.2.symm
def gAl (s : SpecV) (T : List Ent) (id : Int) : Bool := hasV2 s T id && decide ((vocOf s T).Canon [id])
def gHas (s : SpecV) (T : List Ent) (a b : Int) : Bool := hasV2 s T a && hasV2 s T b && decide ((vocOf s T).Canon [a, b])
theorem infoI : (Tryz.prog.info? tInt).map (·.zero) = some (some (.int .i64 0)) := by kernel_rfl
theorem gPlace_spec (w : World) (g : Nat) (s : SpecV) (T : List Ent) (h : GrIs w g s T) (id : Int) :
    Calls Tryz.prog 37 #[.pointer (some ⟨g, 0, none⟩), .int .i64 id] w fun e w' => e = .returned (.tuple #[.int .i64 (((plc s T id).getD 0 : Nat) : Int), .bool (plc s T id).isSome]) ∧ w' = w := by
  refine calls_ret (vc37_calls (some ⟨g, 0, none⟩) id w (fun u w' => u = .tuple #[.int .i64 (((plc s T id).getD 0 : Nat) : Int), .bool (plc s T id).isSome] ∧ w' = w) ?_) (by rintro v w' ⟨rfl, h⟩; exact ⟨rfl, h⟩)
  obtain ⟨ids, rows, alone, mb, rs, hR⟩ := h
  refine CondP.no rfl (NilC.mk _ rfl ⟨some mb, by rw [cell_put hR.blk]; rfl, ?_⟩)
  have hl := run_look keysI undMapI infoI hR.map id
  rw [look_gmap] at hl
  have e : ((((gids s T).idxOf? id).map fun i : Nat => Value.int .i64 (i : Int)).getD (.int .i64 0)) = .int .i64 (((plc s T id).getD 0 : Nat) : Int) := by
    show _ = Value.int .i64 ((((gids s T).idxOf? id).getD 0 : Nat) : Int)
    cases (gids s T).idxOf? id <;> rfl
  rw [e, Option.isSome_map] at hl
  exact ⟨_, _, w, hl, rfl, rfl⟩
theorem gAlone_spec (w : World) (g : Nat) (s : SpecV) (T : List Ent) (h : GrIs w g s T) (hn : (gids s T).length ≤ 1032) (id : Int) :
    Calls Tryz.prog 39 #[.pointer (some ⟨g, 0, none⟩), .int .i64 id] w fun e w' => e = .returned (.bool (gAl s T id)) ∧ w' = w := by
  refine calls_ret (vc39_calls (some ⟨g, 0, none⟩) id w (fun u w' => u = .bool (gAl s T id) ∧ w' = w) ?_) (by rintro v w' ⟨rfl, h⟩; exact ⟨rfl, h⟩)
  refine (gPlace_spec w g s T h id).mono ?_
  rintro e w1 ⟨rfl, rfl⟩
  obtain ⟨ids, rows, alone, mb, rs, hR⟩ := h
  refine ⟨_, _, rfl, CondP.mk (fun h1 => ?_) fun h1 => ⟨?_, rfl⟩⟩
  · obtain ⟨i, hi⟩ := Option.isSome_iff_exists.1 h1
    obtain ⟨hi1, hi2, hi3⟩ := plc_some hi
    have al1 := LsAt.of_own elU64 hR.oal
    refine NilC.mk _ rfl ⟨alone.a, alone.n, alone.c, by rw [cell_put hR.blk]; rfl, ?_⟩
    rw [hi]
    refine (rowHas_spec w1 alone.a alone.n alone.c _ (alB s T) al1.r al1.n (by omega) i hi1).mono ?_
    rintro e w2 ⟨rfl, rfl⟩
    refine ⟨_, rfl, ?_, rfl⟩
    unfold gAl alB
    rw [hi2, hi3, Bool.true_and]
  · rw [plc_has] at h1
    unfold gAl
    rw [h1, Bool.false_and]
theorem row_get {s : SpecV} {T : List Ent} {w : World} {g : Nat} {ids rows alone : Sl} {mb : Nat} {rs : List Sl} (hR : GridR w g (gids s T) (alB s T) (relB s T) ids rows alone mb rs (gids s T).length) (i : Nat) (hi : i < (gids s T).length) : ∃ (p : Addr) (r : Sl), rows.a = some p ∧ i < rows.n ∧ w.cell? (p.add (i * 1)) = some (.slice r.a r.n r.c) ∧ LsAt encU64 1 w r (wordsOf (gids s T).length (relB s T i)) := by
  have hls := LsAt.of_own elRow hR.orows
  have hl := hR.rl
  have hi2 : i < rs.length := by omega
  obtain ⟨p, hp, c0⟩ := cell_rw hls.r hi2 (v := rs[i].v) rfl
  exact ⟨p, rs[i], hp, by rw [hls.n]; exact hi2, c0, LsAt.of_own elU64 (hR.each i _ (List.getElem?_eq_getElem hi2))⟩
theorem gHas_spec (w : World) (g : Nat) (s : SpecV) (T : List Ent) (h : GrIs w g s T) (hn : (gids s T).length ≤ 1032) (a b : Int) :
    Calls Tryz.prog 34 #[.pointer (some ⟨g, 0, none⟩), .int .i64 a, .int .i64 b] w fun e w' => e = .returned (.bool (gHas s T a b)) ∧ w' = w := by
  refine calls_ret (vc34_calls (some ⟨g, 0, none⟩) a b w (fun u w' => u = .bool (gHas s T a b) ∧ w' = w) ?_) (by rintro v w' ⟨rfl, h⟩; exact ⟨rfl, h⟩)
  refine (gPlace_spec w g s T h a).mono ?_
  rintro e w1 ⟨rfl, rfl⟩
  refine ⟨_, _, rfl, (gPlace_spec w1 g s T h b).mono ?_⟩
  rintro e w2 ⟨rfl, rfl⟩
  obtain ⟨ids, rows, alone, mb, rs, hR⟩ := h
  refine ⟨_, _, rfl, CondP.mk (fun h1 => CondP.mk (fun h2 => ?_) fun h2 => ⟨?_, rfl⟩) fun h1 => ⟨?_, rfl⟩⟩
  · obtain ⟨i, hi⟩ := Option.isSome_iff_exists.1 h1
    obtain ⟨hi1, hi2, hi3⟩ := plc_some hi
    obtain ⟨j, hj⟩ := Option.isSome_iff_exists.1 h2
    obtain ⟨hj1, hj2, hj3⟩ := plc_some hj
    obtain ⟨p, r, hp, hin, hc, hls⟩ := row_get hR i hi1
    rw [hi, hj]
    refine NilC.mk _ rfl ⟨rows.a, rows.n, rows.c, by rw [cell_put hR.blk]; rfl, NilC.mk p hp ⟨by omega, by show ((i : Nat) : Int) < _; omega, r.a, r.n, r.c, hc, ?_⟩⟩
    refine (rowHas_spec w2 r.a r.n r.c _ (relB s T i) hls.r hls.n (by omega) j hj1).mono ?_
    rintro e w2 ⟨rfl, rfl⟩
    refine ⟨_, rfl, ?_, rfl⟩
    unfold gHas relB
    rw [hi2, hi3, hj2, hj3, Bool.true_and, Bool.true_and]
  · rw [plc_has] at h2
    unfold gHas
    rw [h2, Bool.and_false, Bool.false_and]
  · rw [plc_has] at h1
    unfold gHas
    rw [h1, Bool.false_and, Bool.false_and]
theorem gSize_spec (w : World) (g : Nat) (s : SpecV) (T : List Ent) (h : GrIs w g s T) :
    Calls Tryz.prog 35 #[.pointer (some ⟨g, 0, none⟩)] w fun e w' => e = .returned (.int .i64 (((gids s T).length : Nat) : Int)) ∧ w' = w := by
  refine calls_ret (vc35_calls (some ⟨g, 0, none⟩) w (fun u w' => u = .int .i64 (((gids s T).length : Nat) : Int) ∧ w' = w) ?_) (by rintro v w' ⟨rfl, h⟩; exact ⟨rfl, h⟩)
  obtain ⟨ids, rows, alone, mb, rs, hR⟩ := h
  refine CondP.no rfl (NilC.mk _ rfl ⟨ids.a, ids.n, ids.c, by rw [cell_put hR.blk]; rfl, ?_, rfl⟩)
  rw [(LsAt.of_own elInt hR.oi).n]
theorem gId_spec (w : World) (g : Nat) (s : SpecV) (T : List Ent) (h : GrIs w g s T) (place : Int) :
    Calls Tryz.prog 33 #[.pointer (some ⟨g, 0, none⟩), .int .i64 place] w fun e w' => e = .returned (if 0 ≤ place ∧ place < ((gids s T).length : Int) then .tuple #[.int .i64 ((gids s T).getD place.toNat 0), .bool true] else .tuple #[.int .i64 0, .bool false]) ∧ w' = w := by
  refine calls_ret (vc33_calls (some ⟨g, 0, none⟩) place w (fun u w' => u = (if 0 ≤ place ∧ place < ((gids s T).length : Int) then .tuple #[.int .i64 ((gids s T).getD place.toNat 0), .bool true] else .tuple #[.int .i64 0, .bool false]) ∧ w' = w) ?_) (by rintro v w' ⟨rfl, h⟩; exact ⟨rfl, h⟩)
  refine CondP.mk (fun h1 => ⟨?_, rfl⟩) fun h1 => ?_
  · rw [if_neg (by have := of_decide_eq_true h1; omega)]
  have h1 := of_decide_eq_false h1
  refine (gSize_spec w g s T h).mono ?_
  rintro e w1 ⟨rfl, rfl⟩
  refine ⟨_, rfl, CondP.mk (fun h2 => ⟨?_, rfl⟩) fun h2 => ?_⟩
  · rw [if_neg (by have := of_decide_eq_true h2; omega)]
  have h2 := of_decide_eq_false h2
  obtain ⟨ids, rows, alone, mb, rs, hR⟩ := h
  obtain ⟨i, rfl⟩ : ∃ i : Nat, place = i := ⟨place.toNat, by omega⟩
  have hi : i < (gids s T).length := by omega
  have hls := LsAt.of_own elInt hR.oi
  obtain ⟨p, hp, c0⟩ := cell_rw hls.r hi rfl
  have := hls.n
  refine NilC.mk _ rfl ⟨ids.a, ids.n, ids.c, by rw [cell_put hR.blk]; rfl, NilC.mk p hp ⟨by omega, by omega, _, c0, ?_, rfl⟩⟩
  rw [if_pos ⟨by omega, by omega⟩]
  show _ = Value.tuple #[.int .i64 ((gids s T).getD i 0), .bool true]
  rw [getD_of hi]
def gCnt (s : SpecV) (T : List Ent) (id : Int) : Nat := match plc s T id with
  | none => 0
  | some i => cntP (relB s T i) (gids s T).length
theorem gCount_spec (w : World) (g : Nat) (s : SpecV) (T : List Ent) (h : GrIs w g s T) (hn : (gids s T).length ≤ 1032) (id : Int) :
    Calls Tryz.prog 36 #[.pointer (some ⟨g, 0, none⟩), .int .i64 id] w fun e w' => e = .returned (.int .i64 ((gCnt s T id : Nat) : Int)) ∧ w' = w := by
  refine calls_ret (vc36_calls (some ⟨g, 0, none⟩) id w (fun u w' => u = .int .i64 ((gCnt s T id : Nat) : Int) ∧ w' = w) ?_) (by rintro v w' ⟨rfl, h⟩; exact ⟨rfl, h⟩)
  refine (gPlace_spec w g s T h id).mono ?_
  rintro e w1 ⟨rfl, rfl⟩
  obtain ⟨ids, rows, alone, mb, rs, hR⟩ := h
  refine ⟨_, _, rfl, CondP.mk (fun h1 => ⟨?_, rfl⟩) fun h1 => ?_⟩
  · unfold gCnt
    cases hp : plc s T id with
    | none => rfl
    | some i => rw [hp] at h1; cases h1
  · obtain ⟨i, hi⟩ := Option.isSome_iff_exists.1 (by simpa using h1)
    obtain ⟨hi1, hi2, hi3⟩ := plc_some hi
    obtain ⟨p, r, hp, hin, hc, hls⟩ := row_get hR i hi1
    unfold gCnt
    rw [hi]
    refine NilC.mk _ rfl ⟨rows.a, rows.n, rows.c, by rw [cell_put hR.blk]; rfl, NilC.mk p hp ⟨by omega, by show ((i : Nat) : Int) < _; omega, r.a, r.n, r.c, hc, ?_⟩⟩
    rw [hls.n]
    refine (rowCount_spec w1 r.a r.c _ (relB s T i) hls.r (by omega)).mono ?_
    rintro e w2 ⟨rfl, rfl⟩
    exact ⟨_, rfl, rfl, rfl⟩
theorem cloneR_spec (w : World) (a : Option Addr) (c : Nat) (xs : List Int) (hr : Rw encU64 1 w a xs) (hl : xs.length ≤ 1000000000) :
    Calls Tryz.prog 72 #[.slice a xs.length c] w fun e w' => ∃ s : Sl, e = .returned s.v ∧ s.n = xs.length ∧ w'.ownsRow w.heap.size tU64 1 s.v s.n (xs.flatMap encU64) ∧ Below w.heap.size w w' := by
  refine calls_ret (vc72_calls a xs.length c w (fun v w' => ∃ s : Sl, v = s.v ∧ s.n = xs.length ∧ w'.ownsRow w.heap.size tU64 1 s.v s.n (xs.flatMap encU64) ∧ Below w.heap.size w w') ?_) (by rintro v w' ⟨s, rfl, h⟩; exact ⟨s, rfl, h⟩)
  refine CondP.mk (fun h0 => ?_) fun h0 => ?_
  · have hx : xs = [] := by
      cases xs with
      | nil => rfl
      | cons x t =>
        obtain ⟨p, hp, _⟩ := hr 0 x rfl
        rw [hp] at h0
        cases h0
    subst hx
    exact ⟨⟨none, 0, 0⟩, rfl, rfl, own_nil _ _ _ _, Below.refl _ _⟩
  · obtain ⟨p, rfl⟩ : ∃ p, a = some p := by
      cases a with
      | none => cases h0
      | some p => exact ⟨p, rfl⟩
    intro w1 hw1
    obtain ⟨A, C, w2, h2, h3, h4⟩ := copy_row (enc := encU64) (sz := 1) (fun _ => rfl) (by decide) (fun x u hu => by rw [List.mem_singleton.1 hu]; rfl) tRow tU64 undRow infoU64 rfl w ⟨some p, xs.length, c⟩ xs (.inr ⟨p, rfl⟩) hr rfl (by simp only; omega) (by simp only; omega) w1 hw1
    exact ⟨A, xs.length, C, w2, h2, ⟨A, xs.length, C⟩, rfl, rfl, h3, h4⟩
theorem gRow_spec (w : World) (g : Nat) (s : SpecV) (T : List Ent) (h : GrIs w g s T) (hn : (gids s T).length ≤ 1032) (id : Int) :
    Calls Tryz.prog 32 #[.pointer (some ⟨g, 0, none⟩), .int .i64 id] w fun e w' => Below w.heap.size w w' ∧ ((plc s T id = none ∧ e = .returned (.slice none 0 0)) ∨ ∃ i l, plc s T id = some i ∧ e = .returned (Sl.v l) ∧ w'.ownsRow w.heap.size tU64 1 l.v l.n ((wordsOf (gids s T).length (relB s T i)).flatMap encU64)) := by
  refine calls_ret (vc32_calls (some ⟨g, 0, none⟩) id w (fun u w' => Below w.heap.size w w' ∧ ((plc s T id = none ∧ u = .slice none 0 0) ∨ ∃ i l, plc s T id = some i ∧ u = Sl.v l ∧ w'.ownsRow w.heap.size tU64 1 l.v l.n ((wordsOf (gids s T).length (relB s T i)).flatMap encU64))) ?_) (by rintro v w' ⟨h1, ⟨h2, rfl⟩ | ⟨i, l, h2, rfl, h3⟩⟩; exact ⟨h1, .inl ⟨h2, rfl⟩⟩; exact ⟨h1, .inr ⟨i, l, h2, rfl, h3⟩⟩)
  refine (gPlace_spec w g s T h id).mono ?_
  rintro e w1 ⟨rfl, rfl⟩
  obtain ⟨ids, rows, alone, mb, rs, hR⟩ := h
  refine ⟨_, _, rfl, CondP.mk (fun h1 => ⟨Below.refl _ _, .inl ⟨?_, rfl⟩⟩) fun h1 => ?_⟩
  · cases hp : plc s T id with
    | none => rfl
    | some i => rw [hp] at h1; cases h1
  · obtain ⟨i, hi⟩ := Option.isSome_iff_exists.1 (by simpa using h1)
    obtain ⟨hi1, hi2, hi3⟩ := plc_some hi
    obtain ⟨p, r, hp, hin, hc, hls⟩ := row_get hR i hi1
    rw [hi]
    refine NilC.mk _ rfl ⟨rows.a, rows.n, rows.c, by rw [cell_put hR.blk]; rfl, NilC.mk p hp ⟨by omega, by show ((i : Nat) : Int) < _; omega, r.a, r.n, r.c, hc, ?_⟩⟩
    rw [hls.n]
    refine (cloneR_spec w1 r.a r.c _ hls.r (by rw [wordsOf_length]; omega)).mono ?_
    rintro e w2 ⟨l, rfl, hl, ho, b2⟩
    exact ⟨l.a, l.n, l.c, rfl, b2, .inr ⟨i, l, rfl, rfl, ho⟩⟩
end Go.Proofs.YtpklkijdlnioaaaGreat.Eng
