/- Rows of bits, and all tokens' numbers, walked by the engine. -/
import Derived.Test.YtpklkijdlnioaaaGreatZhSo
import Derived.Test.YtpklkijdlnioaaaGreatZhWd
set_option linter.unusedVariables false
set_option linter.unusedSimpArgs false
set_option maxRecDepth 100000
namespace Go.Proofs.YtpklkijdlnioaaaGreat.Eng
open Go Go.RowKit
abbrev tU64 : TypeId := 64
abbrev tRow : TypeId := 102
theorem undRow : Tryz.prog.underlying tRow = some (.slice tU64) := by kernel_rfl
theorem infoU64 : (Tryz.prog.info? tU64).map (fun i => (i.zero, i.size, i.bytes)) = some (some (.int .u64 0), 1, 8) := by kernel_rfl
def encU64 (n : Int) : List Value := [.int .u64 n]
theorem elU64 : ElT encU64 1 tRow tU64 8 := ⟨fun _ => rfl, by decide, fun x u hu => by rw [List.mem_singleton.1 hu]; rfl, undRow, _, infoU64, rfl⟩
theorem run_makeWords (w : World) (n : Nat) (hn : n ≤ 1000000) : (Instr.makeSlice tRow (.int .i64 n) (.int .i64 n)).run Tryz.prog w = .ok (.slice (some (nb w)) n n) (w.alloc (.cells (Array.replicate n (.int .u64 0)) tU64)) := by
  obtain ⟨i, hi, hz, hs, hb⟩ := info_parts infoU64
  have := Go.run_make (P := Tryz.prog) w tRow tU64 i (.int .u64 0) undRow hi hz .i64 .i64 (n : Int) (n : Int) (by omega) (Int.le_refl _) (by rw [hb]; omega) (by omega)
  rw [this]
  congr 3
  rw [hs]
  apply Array.ext
  · rw [size_madeCells]
    simp
  · intro j h1 h2
    simp only [madeCells, Array.getElem_map, Array.getElem_range, Array.getElem_replicate]
    show (#[Value.int .u64 0] : Array Value)[j % 1]! = _
    rw [Nat.mod_one]
    rfl
theorem own_made {w : World} {n : Nat} {e : TypeId} (xs : List Value) (hx : xs.length = n) (hn : n ≤ 1000000) {B : Nat} (hB : B ≤ w.heap.size) : (w.alloc (.cells xs.toArray e)).ownsRow B e 1 (.slice (some (nb w)) n n) n xs := by
  refine ⟨by rw [hx, Nat.mul_one], .inr ⟨w.heap.size, n, xs.toArray, rfl, hB, alloc_new _ _, Nat.le_refl _, by unfold maxLen; omega, by rw [List.size_toArray, hx, Nat.mul_one], ?_⟩⟩
  rw [← hx, Nat.mul_one]
  exact List.take_length
/-! ### One bit -/
theorem div64 (i : Nat) (hi : i ≤ 1000000) : IntKind.wrap .i64 (Int.tdiv (i : Int) 64) = ((i / 64 : Nat) : Int) := by
  have : Int.tdiv (i : Int) 64 = ((i / 64 : Nat) : Int) := rfl
  rw [this]
  exact wrap_in (by show (-9223372036854775808 : Int) ≤ _; omega) (by show _ ≤ (9223372036854775807 : Int); omega)
theorem mod64 (i : Nat) : Int.tmod (i : Int) 64 = ((i % 64 : Nat) : Int) := rfl
theorem ofInt_nat (x : Nat) (hx : x < 2 ^ 64) : (BitVec.ofInt 64 (x : Int)).toNat = x := by
  rw [BitVec.ofInt_natCast, BitVec.toNat_ofNat, Nat.mod_eq_of_lt hx]
theorem wrap_u64 (x : Nat) (hx : x < 2 ^ 64) : IntKind.wrap .u64 (x : Int) = (x : Int) := wrap_in (by show (0 : Int) ≤ _; omega) (by show _ ≤ (18446744073709551615 : Int); omega)
theorem has_bit (x m : Nat) (hx : x < 2 ^ 64) (hm : m < 64) : ((IntKind.wrap .u64 ((BitVec.ofInt (IntKind.bits .u64) (Int.fdiv (x : Int) (2 ^ (min ((m : Nat) : Int).toNat (IntKind.bits .u64)))) &&& BitVec.ofInt (IntKind.bits .u64) 1).toNat : Int) : Int) == 1) = x.testBit m := by
  show ((IntKind.wrap .u64 ((BitVec.ofInt 64 (Int.fdiv (x : Int) (2 ^ (min m 64))) &&& BitVec.ofInt 64 1).toNat : Int) : Int) == 1) = _
  have h1 : Int.fdiv (x : Int) (2 ^ (min m 64)) = ((x / 2 ^ m : Nat) : Int) := by
    rw [Nat.min_eq_left (by omega), Int.fdiv_eq_ediv_of_nonneg _ (Int.pow_nonneg (by decide))]
    simp
  have hd : x / 2 ^ m < 2 ^ 64 := Nat.lt_of_le_of_lt (Nat.div_le_self _ _) hx
  rw [h1, BitVec.toNat_and, ofInt_nat _ hd]
  have h2 : (BitVec.ofInt 64 1).toNat = 1 := by decide
  rw [h2, Nat.and_one_is_mod, wrap_u64 _ (by omega), Nat.testBit_eq_decide_div_mod_eq]
  by_cases e : x / 2 ^ m % 2 = 1
  · rw [e]; simp
  · have : x / 2 ^ m % 2 = 0 := by omega
    rw [this]; simp
theorem set_bit (x m : Nat) (hx : x < 2 ^ 64) (hm : m < 64) : IntKind.wrap .u64 ((BitVec.ofInt (IntKind.bits .u64) (x : Int) ||| BitVec.ofInt (IntKind.bits .u64) (IntKind.wrap .u64 ((1 : Int) * 2 ^ (min ((m : Nat) : Int).toNat (IntKind.bits .u64))))).toNat : Int) = ((x ||| 2 ^ m : Nat) : Int) := by
  show IntKind.wrap .u64 ((BitVec.ofInt 64 (x : Int) ||| BitVec.ofInt 64 (IntKind.wrap .u64 ((1 : Int) * 2 ^ (min m 64)))).toNat : Int) = _
  have hp : 2 ^ m < 2 ^ 64 := Nat.pow_lt_pow_right (by decide) hm
  have h1 : (1 : Int) * 2 ^ (min m 64) = ((2 ^ m : Nat) : Int) := by
    rw [Nat.min_eq_left (by omega), Int.one_mul]
    simp
  rw [h1, wrap_u64 _ hp, BitVec.toNat_or, ofInt_nat _ hx, ofInt_nat _ hp]
  exact wrap_u64 _ (Nat.or_lt_two_pow hx hp)
theorem rowHas_spec (w : World) (A : Option Addr) (N C n : Nat) (p : Nat → Bool) (hr : Rw encU64 1 w A (wordsOf n p)) (hN : N = (wordsOf n p).length) (hn : n ≤ 100000) (i : Nat) (hi : i < n) :
    Calls Tryz.prog 70 #[.slice A N C, .int .i64 (i : Int)] w fun e w' => e = .returned (.bool (p i)) ∧ w' = w := by
  refine calls_ret (vc70_calls A N C i w (fun u w' => u = .bool (p i) ∧ w' = w) ?_) (by rintro v w' ⟨rfl, h⟩; exact ⟨rfl, h⟩)
  unfold vc70
  rw [div64 i (by omega), mod64]
  rw [wordsOf_length] at hN
  have hk : i / 64 < (n + 63) / 64 := by omega
  obtain ⟨q, hq, _, hc⟩ := hr _ _ (wordsOf_get n p hk)
  have c0 := hc 0 _ rfl
  rw [add_zero] at c0
  refine ⟨by decide, NilC.mk q hq ⟨by omega, by omega, _, c0, by decide, by omega, ?_, rfl⟩⟩
  rw [has_bit _ _ (wordAt_lt _ _ _) (Nat.mod_lt _ (by decide)), wordAt_test n p hi]
theorem rowSet_spec (w : World) (B : Nat) (l : Sl) (ws : List Int) (h : w.ownsRow B tU64 1 l.v l.n (ws.flatMap encU64)) (i x : Nat) (hi : i ≤ 1000000) (hk : i / 64 < ws.length) (hx : ws[i / 64] = (x : Int)) (hlt : x < 2 ^ 64) :
    Calls Tryz.prog 98 #[.slice l.a l.n l.c, .int .i64 (i : Int)] w fun e w' => e = .returned (.tuple #[]) ∧ w'.ownsRow B tU64 1 l.v l.n ((ws.set (i / 64) ((x ||| 2 ^ (i % 64) : Nat) : Int)).flatMap encU64) ∧ (∀ j, l.v.ownBlock ≠ some j → w'.heap[j]? = w.heap[j]?) ∧ w'.heap.size = w.heap.size ∧ Below B w w' := by
  refine calls_ret (vc98_calls l.a l.n l.c i w (fun u w' => u = .tuple #[] ∧ w'.ownsRow B tU64 1 l.v l.n ((ws.set (i / 64) ((x ||| 2 ^ (i % 64) : Nat) : Int)).flatMap encU64) ∧ (∀ j, l.v.ownBlock ≠ some j → w'.heap[j]? = w.heap[j]?) ∧ w'.heap.size = w.heap.size ∧ Below B w w') ?_) (by rintro v w' ⟨rfl, h⟩; exact ⟨rfl, h⟩)
  rintro w1 rfl
  have h1 : w.drew.ownsRow B tU64 1 l.v l.n (ws.flatMap encU64) := own_drew h
  have hls := LsAt.of_own elU64 h1
  have hn := hls.n
  rw [div64 i hi, mod64]
  obtain ⟨q, hq, c0⟩ := cell_rw hls.r hk rfl
  rw [hx] at c0
  refine ⟨by decide, NilC.mk q hq ⟨by omega, by omega, _, c0, by decide, by omega, NilC.mk q hq ⟨by omega, by omega, ?_⟩⟩⟩
  rw [set_bit x _ hlt (Nat.mod_lt _ (by decide))]
  refine store_one (own_set (enc := encU64) (fun _ => rfl) (by decide) (fun y u hu => by rw [List.mem_singleton.1 hu]; rfl) h1 hn hq (i / 64) hk _ ?_)
  intro w' h' hs hz hB
  exact ⟨rfl, h', hs, hz, hB _ _ (Nat.le_refl _) ((Below.refl _ _).drew)⟩
theorem VocIs.off {w w' : World} {v : Nat} {s : SpecV} {T : List Ent} (h : VocIs w v s T) {B : Nat} (hb : Below B w w') (hv : v < B) {B' sz n : Nat} {e : TypeId} {u : Value} {xs : List Value} (ho : w.ownsRow B' e sz u n xs) (he : tBool ≠ e) (hk : ∀ k, u.ownBlock ≠ some k → w'.heap[k]? = w.heap[k]?) : VocIs w' v s T := by
  obtain ⟨w0, x, tp, bp, mp, d, l, uses, hR⟩ := h
  have hlt := hR.lt
  refine ⟨w0, x, tp, bp, mp, d, l, uses, hR.parts, hR.below.trans (hb.mono (by omega)), hlt, by rw [hb.block v hv]; exact hR.blk, ?_⟩
  rcases hR.once with h | ⟨h1, h2, h3⟩
  · exact .inl h
  · exact .inr ⟨h1, h2, own_same h3 fun k hk3 => hk k (row_ne_row h3 ho he k hk3)⟩
theorem VocIs.own_touch {w w' : World} {v : Nat} {s : SpecV} {T : List Ent} (h : VocIs w v s T) (t : Touch v w w') {B sz n : Nat} {e : TypeId} {u : Value} {xs : List Value} (ho : w.ownsRow B e sz u n xs) (he : e ≠ tVocab) : w'.ownsRow B e sz u n xs := by
  obtain ⟨w0, x, tp, bp, mp, d, l, uses, hR⟩ := h
  exact t.own ho (row_ne_blk ho hR.blk he)
theorem Touch.then_off {v B : Nat} {a b c : World} (t : Touch v a b) (hb : Below B b c) (hB : a.heap.size ≤ B) : Touch v a c :=
  ⟨hb.os.trans t.os, hb.tape.trans t.tape, hb.output.trans t.output, Nat.le_trans t.size hb.size, fun k hk hv => (hb.block k (Nat.lt_of_lt_of_le hk hB)).trans (t.block k hk hv)⟩
/-- A row of the bits that a function tells. -/
theorem fill_spec (w : World) (n : Nat) (is : Value) (p : Nat → Bool) (v : Nat) (s : SpecV) (T : List Ent) (hV : VocIs w v s T) (hn : n ≤ 100000)
    (his : ∀ i, i < n → ∀ w1, VocIs w1 v s T → Touch v w w1 → CallG ctx is [.int .i64 (i : Int)] w1 (fun e w2 => e = .returned (.bool (p i)) ∧ VocIs w2 v s T ∧ Touch v w1 w2)) :
    Calls Tryz.prog 66 #[.int .i64 (n : Int), is] w fun e w' => ∃ l : Sl, e = .returned l.v ∧ w'.ownsRow w.heap.size tU64 1 l.v l.n ((wordsOf n p).flatMap encU64) ∧ VocIs w' v s T ∧ Touch v w w' := by
  refine calls_ret (vc66_calls n is w (fun u w' => ∃ l : Sl, u = l.v ∧ w'.ownsRow w.heap.size tU64 1 l.v l.n ((wordsOf n p).flatMap encU64) ∧ VocIs w' v s T ∧ Touch v w w') ?_) (by rintro v w' ⟨l, rfl, h⟩; exact ⟨l, rfl, h⟩)
  have hvl := hV.lt
  refine Ar.nat (n + 64) (by omega) (by omega) (Ar.nat (n + 63) (by omega) (by omega) ⟨by decide, ?_⟩)
  rw [div64 (n + 63) (by omega)]
  obtain ⟨m, hm⟩ : ∃ m, m = (n + 63) / 64 := ⟨_, rfl⟩
  rw [← hm]
  refine ⟨_, _, _, _, run_makeWords w m (by omega), ?_⟩
  have ho : (w.alloc (.cells (Array.replicate m (.int .u64 0)) tU64)).ownsRow w.heap.size tU64 1 (.slice (some (nb w)) m m) m ((wordsOf n (fun j => p j && decide (j < 0))).flatMap encU64) := by
    have := own_made (w := w) (e := tU64) (n := m) (List.replicate m (Value.int .u64 0)) (by simp) (by omega) (Nat.le_refl w.heap.size)
    rw [wordsOf_none, ← hm]
    have e : (List.replicate m (0 : Int)).flatMap encU64 = List.replicate m (Value.int .u64 0) := by
      clear this hm
      induction m with
      | zero => rfl
      | succ m ih => rw [List.replicate_succ, List.flatMap_cons, ih, List.replicate_succ]; rfl
    rw [e]
    simpa using this
  have b1 := below_alloc w (.cells (Array.replicate m (.int .u64 0)) tU64)
  intro I hI
  have key := climb2 (α := World) n (fun i q => q.ownsRow w.heap.size tU64 1 (.slice (some (nb w)) m m) m ((wordsOf n (fun j => p j && decide (j < i))).flatMap encU64) ∧ VocIs q v s T ∧ Touch v w q) (fun i q => I [.int .i64 (i : Int)] q) _ ⟨ho, hV.on b1, Touch.of_below b1⟩ ?_ ?_
  · exact key
  · rintro i hi ih q ⟨hown, hVq, tq⟩
    refine hI _ _ (CondP.yes (by simp; omega) ?_)
    intro J hJ
    have hJ' : ∀ q', (q'.ownsRow w.heap.size tU64 1 (.slice (some (nb w)) m m) m ((wordsOf n (fun j => p j && decide (j < i + 1))).flatMap encU64) ∧ VocIs q' v s T ∧ Touch v w q') → J [] q' := fun q' h => hJ _ (Ar.nat (i + 1) rfl (by omega) (ih q' h))
    refine (his i hi q hVq tq).mono ?_
    rintro e w4 ⟨rfl, hV4, t4⟩
    have ho4 := hVq.own_touch t4 hown (by decide)
    have tw4 := tq.trans t4
    refine ⟨_, rfl, CondP.mk (fun hp => ?_) fun hp => hJ' w4 ⟨by rw [wordsOf_less n p hp]; exact ho4, hV4, tw4⟩⟩
    have hk : i / 64 < (wordsOf n (fun j => p j && decide (j < i))).length := by rw [wordsOf_length]; omega
    refine (rowSet_spec w4 w.heap.size ⟨some (nb w), m, m⟩ _ ho4 i (wordAt n (fun j => p j && decide (j < i)) (i / 64)) (by omega) hk (by simp [wordsOf]) (wordAt_lt _ _ _)).mono ?_
    rintro e w5 ⟨rfl, ho5, hs5, hz5, b5⟩
    refine ⟨rfl, hJ' w5 ⟨?_, hV4.off b5 hvl ho4 (by decide) hs5, tw4.then_off b5 (Nat.le_refl _)⟩⟩
    rw [wordsOf_more n p hi hp]
    exact ho5
  · rintro q ⟨hown, hVq, tq⟩
    rw [wordsOf_all] at hown
    exact hI _ _ (CondP.no (by simp) ⟨⟨some (nb w), m, m⟩, rfl, hown, hVq, tq⟩)

/-! ### All tokens' numbers -/
def gids (s : SpecV) (T : List Ent) : List Int := (List.range T.length).map (fun i : Nat => (i : Int)) ++ s.specials.map (·.1)
theorem gids_length (s : SpecV) (T : List Ent) : (gids s T).length = T.length + s.specials.length := by simp [gids]
theorem rising_of {l : List Int} (h : l.Pairwise (· < ·)) : Rising l := fun i j hi hj hij => List.pairwise_iff_getElem.1 h i j hi hj hij
theorem gids_rising {s : SpecV} {T : List Ent} (hasc : (s.specials.map (·.1)).Pairwise (· < ·)) (hids : ∀ y ∈ s.specials, (T.length : Int) ≤ y.1) : (gids s T).Pairwise (· < ·) := by
  rw [gids, List.pairwise_append]
  refine ⟨?_, hasc, ?_⟩
  · rw [List.pairwise_map]
    exact List.pairwise_lt_range.imp (by intro a b h; omega)
  · intro a ha b hb
    obtain ⟨i, hi, rfl⟩ := List.mem_map.1 ha
    obtain ⟨y, hy, rfl⟩ := List.mem_map.1 hb
    have := hids y hy
    have := List.mem_range.1 hi
    omega
theorem gids_has (s : SpecV) (T : List Ent) (t : Int) : t ∈ gids s T ↔ hasV2 s T t = true := by
  unfold gids hasV2
  rw [List.mem_append, decide_eq_true_eq, Or.comm]
  refine or_congr Iff.rfl ?_
  rw [List.mem_map]
  constructor
  · rintro ⟨i, hi, rfl⟩
    have := List.mem_range.1 hi
    exact ⟨by omega, by omega⟩
  · rintro ⟨h1, h2⟩
    exact ⟨t.toNat, List.mem_range.2 (by omega), by omega⟩
theorem markAll_spec (w : World) (p : Nat) (xs : List (Int × Bs)) (h : MkIs w p xs) (hl : xs.length ≤ 1000000) : Calls Tryz.prog 96 #[.pointer (some ⟨p, 0, none⟩)] w fun e w' => ∃ l : Sl, e = .returned l.v ∧ l.n = xs.length ∧ w'.ownsRow w.heap.size tSp 2 l.v l.n (xs.flatMap encSpecial) ∧ Below w.heap.size w w' := by
  refine calls_ret (vc96_calls (some ⟨p, 0, none⟩) w (fun u w' => ∃ l : Sl, u = l.v ∧ l.n = xs.length ∧ w'.ownsRow w.heap.size tSp 2 l.v l.n (xs.flatMap encSpecial) ∧ Below w.heap.size w w') ?_) (by rintro v w' ⟨l, rfl, h⟩; exact ⟨l, rfl, h⟩)
  obtain ⟨l, mi, mt, c, h1, h2, h3, h4, _, _⟩ := h
  obtain ⟨la, ln, lc⟩ := l
  change ln = xs.length at h3
  subst h3
  refine CondP.no rfl (NilC.mk _ rfl ⟨la, _, lc, by rw [ptr_add0 _ _ h1]; exact h2.c0, ?_⟩)
  refine (cloneS_spec w la lc xs h4 (by omega)).mono ?_
  rintro e w1 ⟨l, rfl, hn, ho, hb⟩
  exact ⟨_, _, _, rfl, l, rfl, hn, ho, hb⟩
theorem vocIds_spec (w : World) (v : Nat) (s : SpecV) (T : List Ent) (hV : VocIs w v s T) (hasc : (s.specials.map (·.1)).Pairwise (· < ·)) :
    Calls Tryz.prog 65 #[.pointer (some ⟨v, 0, none⟩)] w fun e w' => ∃ l : Sl, e = .returned l.v ∧ w'.ownsRow w.heap.size tInt 1 l.v l.n ((gids s T).flatMap encInt) ∧ Below w.heap.size w w' := by
  refine calls_ret (vc65_calls (some ⟨v, 0, none⟩) w (fun u w' => ∃ l : Sl, u = l.v ∧ w'.ownsRow w.heap.size tInt 1 l.v l.n ((gids s T).flatMap encInt) ∧ Below w.heap.size w w') ?_) (by rintro v w' ⟨l, rfl, h⟩; exact ⟨l, rfl, h⟩)
  obtain ⟨w0, x, tp, bp, mp, d, l, uses, hR⟩ := hV
  have hP := hR.now
  have hmost := hP.ok.most
  have hlen := hP.ok.len
  have hfew := (right_small hP.right).2.2.1
  have hmx : s.specials.length ≤ 32 := by
    have := (right_parts hP.right).2.2.2.1
    exact allOk_len this
  refine (vocSize_spec hR.vblk hP.tab).mono ?_
  rintro e w1 ⟨rfl, hw⟩
  subst hw
  refine ⟨_, rfl, ?_⟩
  intro I hI
  have key := climb2 (α := Sl × World) T.length (fun i y => y.2.ownsRow w1.heap.size tInt 1 y.1.v y.1.n (((List.range i).map (fun i : Nat => (i : Int))).flatMap encInt) ∧ y.1.n = i ∧ Below w1.heap.size w1 y.2) (fun i y => I [.int .i64 (i : Int), y.1.v] y.2) (sl0, w1) ⟨own_none _ _ _ _ encInt, rfl, Below.refl _ _⟩ ?_ ?_
  · exact key
  · rintro i hi ih ⟨f, q⟩ ⟨hown, hn, hB⟩
    change q.ownsRow w1.heap.size tInt 1 f.v f.n _ at hown
    change f.n = i at hn
    change Below w1.heap.size w1 q at hB
    refine hI _ f.a f.n f.c q (CondP.yes (by simp; omega) ?_)
    intro w3 hw3
    obtain ⟨f', w4, g1, g2, g3, g4, _⟩ := elInt.push hown (i : Int) hw3 rfl hB.size (by omega) (by decide)
    refine ⟨f'.a, f'.n, f'.c, w4, g2, Ar.nat (i + 1) rfl (by omega) (ih (f', w4) ⟨?_, by show f'.n = i + 1; omega, g4 _ hB⟩)⟩
    rw [List.range_succ, List.map_append]
    exact g3
  · rintro ⟨f, q⟩ ⟨hown, hn, hB⟩
    change q.ownsRow w1.heap.size tInt 1 f.v f.n _ at hown
    change f.n = T.length at hn
    change Below w1.heap.size w1 q at hB
    refine hI _ f.a f.n f.c q (CondP.no (by simp) ?_)
    refine (vocMarks_spec (hR.vblk.on hB)).mono ?_
    rintro e w5 ⟨rfl, hw⟩
    subst hw
    refine ⟨_, rfl, ?_⟩
    refine (markAll_spec w5 mp s.specials (hP.on hB).marks hfew).mono ?_
    rintro e w6 ⟨a, rfl, han, hao, b6⟩
    refine ⟨a.a, a.n, a.c, rfl, ?_⟩
    have hB6 := below_then hB b6
    intro I2 hI2
    have key2 := climb2 (α := Sl × World) s.specials.length (fun i y => y.2.ownsRow w1.heap.size tInt 1 y.1.v y.1.n (((List.range T.length).map (fun i : Nat => (i : Int)) ++ (s.specials.take i).map (·.1)).flatMap encInt) ∧ y.1.n = T.length + i ∧ y.2.ownsRow w1.heap.size tSp 2 a.v a.n (s.specials.flatMap encSpecial) ∧ Below w1.heap.size w1 y.2) (fun i y => I2 [.int .i64 (i : Int), y.1.v] y.2) (f, w6) ⟨by simpa using own_on hown b6, by show f.n = T.length + 0; omega, own_base hao hB.size, hB6⟩ ?_ ?_
    · exact key2
    · rintro i hi ih ⟨g, z⟩ ⟨hg, hgn, hza, hBz⟩
      change z.ownsRow w1.heap.size tInt 1 g.v g.n _ at hg
      change g.n = T.length + i at hgn
      change z.ownsRow w1.heap.size tSp 2 a.v a.n _ at hza
      change Below w1.heap.size w1 z at hBz
      obtain ⟨p, hp, _, hc⟩ := (LsAt.of_own elSpecial hza).r i _ (List.getElem?_eq_getElem hi)
      have c0 := hc 0 _ rfl
      rw [add_zero] at c0
      refine hI2 _ g.a g.n g.c z (CondP.yes (by simp; omega) (NilC.mk p hp ⟨by omega, by omega, _, _, ⟨c0, hc 1 _ rfl, trivial⟩, ?_⟩))
      intro w8 hw8
      refine storeP_new [.int .i64 0, .string ⟨#[]⟩] [.int .i64 s.specials[i].1, .string (str s.specials[i].2)] rfl (ones_special _ _) w8 hw8 ?_
      intro w9 h9 hz9 b9
      refine ⟨_, ptr_add0 _ _ h9 0, ?_⟩
      intro w10 hw10
      have hB9 := below_then hBz b9
      obtain ⟨g', w11, e1, e2, e3, e4, e5⟩ := elInt.push (own_on hg b9) s.specials[i].1 hw10 rfl hB9.size (by omega) (by decide)
      have hza9 := own_on hza b9
      refine ⟨g'.a, g'.n, g'.c, w11, e2, Ar.nat (i + 1) rfl (by omega) (ih (g', w11) ⟨?_, by show g'.n = T.length + (i + 1); omega, own_same hza9 fun k hk => e5 k (own_lt hza9 k hk).2 (row_ne_row hza9 (own_on hg b9) (by decide) k hk), e4 _ hB9⟩)⟩
      rw [List.take_add_one, List.getElem?_eq_getElem hi, List.map_append, ← List.append_assoc]
      exact e3
    · rintro ⟨g, z⟩ ⟨hg, hgn, hza, hBz⟩
      change z.ownsRow w1.heap.size tInt 1 g.v g.n _ at hg
      change g.n = T.length + s.specials.length at hgn
      change Below w1.heap.size w1 z at hBz
      rw [List.take_length] at hg
      have hgl : g.n = (gids s T).length := by rw [gids_length, hgn]
      have hgg : z.ownsRow w1.heap.size tInt 1 g.v g.n ((gids s T).flatMap encInt) := hg
      refine hI2 _ g.a g.n g.c z (CondP.no (by simp; omega) ?_)
      have hrow := (LsAt.of_own elInt hgg).r
      have hrise := rising_of (gids_rising hasc hP.ids)
      have hsort : Calls Tryz.prog 97 #[.slice g.a g.n g.c] z fun e w' => e = .returned (.tuple #[]) ∧ Below z.heap.size z w' := by
        rw [hgl]
        exact sort_spec z g.a g.c _ hrow hrise (by rw [gids_length]; omega) (by rw [gids_length]; omega)
      refine hsort.mono ?_
      rintro e w12 ⟨rfl, b12⟩
      exact ⟨rfl, g, rfl, own_on hgg b12, below_then hBz b12⟩
end Go.Proofs.YtpklkijdlnioaaaGreat.Eng
