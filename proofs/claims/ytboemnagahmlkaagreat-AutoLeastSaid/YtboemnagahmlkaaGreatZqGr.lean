/- Rows of bits, and all tokens' numbers, walked by the engine. -/
import Derived.Test.YtboemnagahmlkaaGreatZqRb
import Derived.Test.YtboemnagahmlkaaGreatZqSp
import Derived.Test.YtboemnagahmlkaaGreatZqTab
set_option linter.unusedVariables false
set_option linter.unusedSimpArgs false
set_option maxRecDepth 100000
namespace Go.Proofs.YtboemnagahmlkaaGreat.Eng
open Go Go.RowKit
abbrev tU64 : TypeId := 57
abbrev tRow : TypeId := 109
theorem undRow : Tryz.prog.underlying tRow = some (.slice tU64) := by kernel_rfl
theorem infoU64 : (Tryz.prog.info? tU64).map (fun i => (i.zero, i.size, i.bytes)) = some (some (.int .u64 0), 1, 8) := by kernel_rfl
def encU64 (n : Int) : List Value := [.int .u64 n]
theorem elU64 : ElT encU64 1 tRow tU64 8 := ⟨fun _ => rfl, by decide, fun x u hu => by rw [List.mem_singleton.1 hu]; rfl, undRow, _, infoU64, rfl⟩
theorem run_makeWords (w : World) (n : Nat) (hn : n ≤ 1000000) : (Instr.makeSlice tRow (.int .i64 n) (.int .i64 n)).run Tryz.prog w = .ok (.slice (some (nb w)) n n) (w.alloc (.cells (Array.replicate n (.int .u64 0)) tU64)) := by
 obtain ⟨i, hi, hz, hs, hb⟩ := info_parts infoU64
 have := Go.run_make (P := Tryz.prog) w tRow tU64 i (.int .u64 0) undRow hi hz .i64 .i64 (n : Int) (n : Int) (by omega) (Int.le_refl _) (by rw [hb]; omega) (by omega)
 rw [this]
 congr 3
 rw [hs]
 apply Array.ext
 ·rw [size_madeCells]
  simp
 ·intro j h1 h2
  simp only [madeCells, Array.getElem_map, Array.getElem_range, Array.getElem_replicate]
  show (#[Value.int .u64 0] : Array Value)[j % 1]! = _
  rw [Nat.mod_one]
  rfl
theorem own_made {w : World} {n : Nat} {e : TypeId} (xs : List Value) (hx : xs.length = n) (hn : n ≤ 1000000) {B : Nat} (hB : B ≤ w.heap.size) : (w.alloc (.cells xs.toArray e)).ownsRow B e 1 (.slice (some (nb w)) n n) n xs := by
 refine ⟨by rw [hx, Nat.mul_one], .inr ⟨w.heap.size, n, xs.toArray, rfl, hB, alloc_new _ _, Nat.le_refl _, by unfold maxLen; omega, by rw [List.size_toArray, hx, Nat.mul_one], ?_⟩⟩
 rw [← hx, Nat.mul_one]
 exact List.take_length
theorem div64 (i : Nat) (hi : i ≤ 1000000) : IntKind.wrap .i64 (Int.tdiv (i : Int) 64) = ((i / 64 : Nat) : Int) := by
 have : Int.tdiv (i : Int) 64 = ((i / 64 : Nat) : Int) := rfl
 rw [this]
 exact wrap_in (by show (-9223372036854775808 : Int) ≤ _; omega) (by show _ ≤ (9223372036854775807 : Int); omega)
theorem mod64 (i : Nat) : Int.tmod (i : Int) 64 = ((i % 64 : Nat) : Int) := rfl
theorem ofInt_nat (x : Nat) (hx : x < 2 ^ 64) : (BitVec.ofInt 64 (x : Int)).toNat = x := by
 rw [BitVec.ofInt_natCast, BitVec.toNat_ofNat, Nat.mod_eq_of_lt hx]
theorem wrap_u64 (x : Nat) (hx : x < 2 ^ 64) : IntKind.wrap .u64 (x : Int) = (x : Int) := wrap_in (by show (0 : Int) ≤ _; omega) (by show _ ≤ (18446744073709551615 : Int); omega)
theorem has_bit (x m : Nat) (hx : x < 2 ^ 64) (hm : m < 64) : ((IntKind.wrap .u64 ((BitVec.ofInt (IntKind.bits .u64) (Int.fdiv (x : Int) (2 ^ (min ((m : Nat) : Int).toNat (IntKind.bits .u64)))) &&& BitVec.ofInt (IntKind.bits .u64) 1).toNat : Int) : Int) == 1) = x.testBit m := by
 show ((IntKind.wrap .u64 ((BitVec.ofInt 64 (Int.fdiv (x : Int) (2 ^ (min m 64))) &&& BitVec.ofInt 64 1).toNat : Int) : Int) == 1) = _
 have h1 : Int.fdiv (x : Int) (2 ^ (min m 64)) = ((x / 2 ^ m : Nat) : Int) := by
  rw [Nat.min_eq_left (by omega), Int.fdiv_eq_ediv_of_nonneg _ (Int.pow_nonneg (by decide))]
  simp
 have hd : x / 2 ^ m < 2 ^ 64 := Nat.lt_of_le_of_lt (Nat.div_le_self _ _) hx
 rw [h1, BitVec.toNat_and, ofInt_nat _ hd]
 have h2 : (BitVec.ofInt 64 1).toNat = 1 := by decide
 rw [h2, Nat.and_one_is_mod, wrap_u64 _ (by omega), Nat.testBit_eq_decide_div_mod_eq]
 by_cases e : x / 2 ^ m % 2 = 1
 ·rw [e]; simp
 ·have : x / 2 ^ m % 2 = 0 := by omega
  rw [this]; simp
theorem set_bit (x m : Nat) (hx : x < 2 ^ 64) (hm : m < 64) : IntKind.wrap .u64 ((BitVec.ofInt (IntKind.bits .u64) (x : Int) ||| BitVec.ofInt (IntKind.bits .u64) (IntKind.wrap .u64 ((1 : Int) * 2 ^ (min ((m : Nat) : Int).toNat (IntKind.bits .u64))))).toNat : Int) = ((x ||| 2 ^ m : Nat) : Int) := by
 show IntKind.wrap .u64 ((BitVec.ofInt 64 (x : Int) ||| BitVec.ofInt 64 (IntKind.wrap .u64 ((1 : Int) * 2 ^ (min m 64)))).toNat : Int) = _
 have hp : 2 ^ m < 2 ^ 64 := Nat.pow_lt_pow_right (by decide) hm
 have h1 : (1 : Int) * 2 ^ (min m 64) = ((2 ^ m : Nat) : Int) := by
  rw [Nat.min_eq_left (by omega), Int.one_mul]
  simp
 rw [h1, wrap_u64 _ hp, BitVec.toNat_or, ofInt_nat _ hx, ofInt_nat _ hp]
 exact wrap_u64 _ (Nat.or_lt_two_pow hx hp)
theorem rowHas_spec (w : World) (A : Option Addr) (N C n : Nat) (p : Nat → Bool) (hr : Rw encU64 1 w A (wordsOf n p)) (hN : N = (wordsOf n p).length) (hn : n ≤ 100000) (i : Nat) (hi : i < n) :
  CP 70 #[.slice A N C, .int .i64 (i : Int)] w fun e w' => e = .returned (.bool (p i)) ∧ w' = w := by
 refine calls_ret (vc70_calls A N C i w (fun u w' => u = .bool (p i) ∧ w' = w) ?_) (by rintro v w' ⟨rfl, h⟩; exact ⟨rfl, h⟩)
 unfold vc70
 rw [div64 i (by omega), mod64]
 rw [wordsOf_length] at hN
 have hk : i / 64 < (n + 63) / 64 := by omega
 obtain ⟨q, hq, _, hc⟩ := hr _ _ (wordsOf_get n p hk)
 have c0 := hc 0 _ rfl
 rw [add_zero] at c0
 refine ⟨by decide, NilC.mk q hq ⟨by omega, by omega, _, c0, by decide, by omega, ?_, rfl⟩⟩
 rw [has_bit _ _ (wordAt_lt _ _ _) (Nat.mod_lt _ (by decide)), wordAt_test n p hi]
theorem rowSet_spec (w : World) (B : Nat) (l : Sl) (ws : List Int) (h : w.ownsRow B tU64 1 l.v l.n (ws.flatMap encU64)) (i x : Nat) (hi : i ≤ 1000000) (hk : i / 64 < ws.length) (hx : ws[i / 64] = (x : Int)) (hlt : x < 2 ^ 64) :
  CP 131 #[.slice l.a l.n l.c, .int .i64 (i : Int)] w fun e w' => e = .returned (.tuple #[]) ∧ w'.ownsRow B tU64 1 l.v l.n ((ws.set (i / 64) ((x ||| 2 ^ (i % 64) : Nat) : Int)).flatMap encU64) ∧ (∀ j, l.v.ownBlock ≠ some j → w'.heap[j]? = w.heap[j]?) ∧ w'.heap.size = w.heap.size ∧ Below B w w' := by
 refine calls_ret (vc131_calls l.a l.n l.c i w (fun u w' => u = .tuple #[] ∧ w'.ownsRow B tU64 1 l.v l.n ((ws.set (i / 64) ((x ||| 2 ^ (i % 64) : Nat) : Int)).flatMap encU64) ∧ (∀ j, l.v.ownBlock ≠ some j → w'.heap[j]? = w.heap[j]?) ∧ w'.heap.size = w.heap.size ∧ Below B w w') ?_) (by rintro v w' ⟨rfl, h⟩; exact ⟨rfl, h⟩)
 rintro w1 rfl
 have h1 : w.drew.ownsRow B tU64 1 l.v l.n (ws.flatMap encU64) := own_drew h
 have hls := LsAt.of_own elU64 h1
 have hn := hls.n
 rw [div64 i hi, mod64]
 obtain ⟨q, hq, c0⟩ := cell_rw hls.r hk rfl
 rw [hx] at c0
 refine ⟨by decide, NilC.mk q hq ⟨by omega, by omega, _, c0, by decide, by omega, NilC.mk q hq ⟨by omega, by omega, ?_⟩⟩⟩
 rw [set_bit x _ hlt (Nat.mod_lt _ (by decide))]
 refine store_one (own_set (enc := encU64) (fun _ => rfl) (by decide) (fun y u hu => by rw [List.mem_singleton.1 hu]; rfl) h1 hn hq (i / 64) hk _ ?_)
 intro w' h' hs hz hB
 exact ⟨rfl, h', hs, hz, hB _ _ (Nat.le_refl _) ((Below.refl _ _).drew)⟩
theorem VocIs.off {w w' : World} {v : Nat} {s : SpecV} {T : List Ent} (h : VocIs w v s T) {B : Nat} (hb : Below B w w') (hv : v < B) {B' sz n : Nat} {e : TypeId} {u : Value} {xs : List Value} (ho : w.ownsRow B' e sz u n xs) (he : tBool ≠ e) (hk : ∀ k, u.ownBlock ≠ some k → w'.heap[k]? = w.heap[k]?) : VocIs w' v s T := by
 obtain ⟨w0, x, tp, bp, mp, d, l, uses, hR⟩ := h
 have hlt := hR.lt
 refine ⟨w0, x, tp, bp, mp, d, l, uses, hR.parts, hR.below.trans (hb.mono (by omega)), hlt, by rw [hb.block v hv]; exact hR.blk, ?_⟩
 rcases hR.once with h | ⟨h1, h2, h3⟩
 ·exact .inl h
 ·exact .inr ⟨h1, h2, own_same h3 fun k hk3 => hk k (row_ne_row h3 ho he k hk3)⟩
theorem VocIs.own_touch {w w' : World} {v : Nat} {s : SpecV} {T : List Ent} (h : VocIs w v s T) (t : Touch v w w') {B sz n : Nat} {e : TypeId} {u : Value} {xs : List Value} (ho : w.ownsRow B e sz u n xs) (he : e ≠ tVocab) : w'.ownsRow B e sz u n xs := by
 obtain ⟨w0, x, tp, bp, mp, d, l, uses, hR⟩ := h
 exact t.own ho (row_ne_blk ho hR.blk he)
theorem Touch.then_off {v B : Nat} {a b c : World} (t : Touch v a b) (hb : Below B b c) (hB : a.heap.size ≤ B) : Touch v a c :=
 ⟨hb.os.trans t.os, hb.tape.trans t.tape, hb.output.trans t.output, Nat.le_trans t.size hb.size, fun k hk hv => (hb.block k (Nat.lt_of_lt_of_le hk hB)).trans (t.block k hk hv)⟩
theorem fill_spec (w : World) (n : Nat) (is : Value) (p : Nat → Bool) (v : Nat) (s : SpecV) (T : List Ent) (hV : VocIs w v s T) (hn : n ≤ 100000)
  (his : ∀ i, i < n → ∀ w1, VocIs w1 v s T → Touch v w w1 → CallG ctx is [.int .i64 (i : Int)] w1 (fun e w2 => e = .returned (.bool (p i)) ∧ VocIs w2 v s T ∧ Touch v w1 w2)) :
  CP 97 #[.int .i64 (n : Int), is] w fun e w' => ∃ l : Sl, e = .returned l.v ∧ w'.ownsRow w.heap.size tU64 1 l.v l.n ((wordsOf n p).flatMap encU64) ∧ VocIs w' v s T ∧ Touch v w w' := by
 refine calls_ret (vc97_calls n is w (fun u w' => ∃ l : Sl, u = l.v ∧ w'.ownsRow w.heap.size tU64 1 l.v l.n ((wordsOf n p).flatMap encU64) ∧ VocIs w' v s T ∧ Touch v w w') ?_) (by rintro v w' ⟨l, rfl, h⟩; exact ⟨l, rfl, h⟩)
 have hvl := hV.lt
 refine Ar.nat (n + 64) (by omega) (by omega) (Ar.nat (n + 63) (by omega) (by omega) ⟨by decide, ?_⟩)
 rw [div64 (n + 63) (by omega)]
 obtain ⟨m, hm⟩ : ∃ m, m = (n + 63) / 64 := ⟨_, rfl⟩
 rw [← hm]
 refine ⟨_, _, _, _, run_makeWords w m (by omega), ?_⟩
 have ho : (w.alloc (.cells (Array.replicate m (.int .u64 0)) tU64)).ownsRow w.heap.size tU64 1 (.slice (some (nb w)) m m) m ((wordsOf n (fun j => p j && decide (j < 0))).flatMap encU64) := by
  have := own_made (w := w) (e := tU64) (n := m) (List.replicate m (Value.int .u64 0)) (by simp) (by omega) (Nat.le_refl w.heap.size)
  rw [wordsOf_none, ← hm]
  have e : (List.replicate m (0 : Int)).flatMap encU64 = List.replicate m (Value.int .u64 0) := by
   clear this hm
   induction m with
   | zero => rfl
   | succ m ih => rw [List.replicate_succ, List.flatMap_cons, ih, List.replicate_succ]; rfl
  rw [e]
  simpa using this
 have b1 := below_alloc w (.cells (Array.replicate m (.int .u64 0)) tU64)
 intro I hI
 have key := climb2 (α := World) n (fun i q => q.ownsRow w.heap.size tU64 1 (.slice (some (nb w)) m m) m ((wordsOf n (fun j => p j && decide (j < i))).flatMap encU64) ∧ VocIs q v s T ∧ Touch v w q) (fun i q => I [.int .i64 (i : Int)] q) _ ⟨ho, hV.on b1, Touch.of_below b1⟩ ?_ ?_
 ·exact key
 ·rintro i hi ih q ⟨hown, hVq, tq⟩
  refine hI _ _ (CondP.yes (by simp; omega) ?_)
  intro J hJ
  have hJ' : ∀ q', (q'.ownsRow w.heap.size tU64 1 (.slice (some (nb w)) m m) m ((wordsOf n (fun j => p j && decide (j < i + 1))).flatMap encU64) ∧ VocIs q' v s T ∧ Touch v w q') → J [] q' := fun q' h => hJ _ (Ar.nat (i + 1) rfl (by omega) (ih q' h))
  refine (his i hi q hVq tq).mono ?_
  rintro e w4 ⟨rfl, hV4, t4⟩
  have ho4 := hVq.own_touch t4 hown (by decide)
  have tw4 := tq.trans t4
  refine ⟨_, rfl, CondP.mk (fun hp => ?_) fun hp => hJ' w4 ⟨by rw [wordsOf_less n p hp]; exact ho4, hV4, tw4⟩⟩
  have hk : i / 64 < (wordsOf n (fun j => p j && decide (j < i))).length := by rw [wordsOf_length]; omega
  refine (rowSet_spec w4 w.heap.size ⟨some (nb w), m, m⟩ _ ho4 i (wordAt n (fun j => p j && decide (j < i)) (i / 64)) (by omega) hk (by simp [wordsOf]) (wordAt_lt _ _ _)).mono ?_
  rintro e w5 ⟨rfl, ho5, hs5, hz5, b5⟩
  refine ⟨rfl, hJ' w5 ⟨?_, hV4.off b5 hvl ho4 (by decide) hs5, tw4.then_off b5 (Nat.le_refl _)⟩⟩
  rw [wordsOf_more n p hi hp]
  exact ho5
 ·rintro q ⟨hown, hVq, tq⟩
  rw [wordsOf_all] at hown
  exact hI _ _ (CondP.no (by simp) ⟨⟨some (nb w), m, m⟩, rfl, hown, hVq, tq⟩)
def gids (s : SpecV) (T : List Ent) : List Int := (List.range T.length).map (fun i : Nat => (i : Int)) ++ s.specials.map (·.1)
theorem gids_length (s : SpecV) (T : List Ent) : (gids s T).length = T.length + s.specials.length := by simp [gids]
theorem rising_of {l : List Int} (h : l.Pairwise (· < ·)) : Rising l := fun i j hi hj hij => List.pairwise_iff_getElem.1 h i j hi hj hij
theorem gids_rising {s : SpecV} {T : List Ent} (hasc : (s.specials.map (·.1)).Pairwise (· < ·)) (hids : ∀ y ∈ s.specials, (T.length : Int) ≤ y.1) : (gids s T).Pairwise (· < ·) := by
 rw [gids, List.pairwise_append]
 refine ⟨?_, hasc, ?_⟩
 ·rw [List.pairwise_map]
  exact List.pairwise_lt_range.imp (by intro a b h; omega)
 ·intro a ha b hb
  obtain ⟨i, hi, rfl⟩ := List.mem_map.1 ha
  obtain ⟨y, hy, rfl⟩ := List.mem_map.1 hb
  have := hids y hy
  have := List.mem_range.1 hi
  omega
theorem gids_has (s : SpecV) (T : List Ent) (t : Int) : t ∈ gids s T ↔ hasV2 s T t = true := by
 unfold gids hasV2
 rw [List.mem_append, decide_eq_true_eq, Or.comm]
 refine or_congr Iff.rfl ?_
 rw [List.mem_map]
 constructor
 ·rintro ⟨i, hi, rfl⟩
  have := List.mem_range.1 hi
  exact ⟨by omega, by omega⟩
 ·rintro ⟨h1, h2⟩
  exact ⟨t.toNat, List.mem_range.2 (by omega), by omega⟩
theorem markAll_spec (w : World) (p : Nat) (xs : List (Int × Bs)) (h : MkIs w p xs) (hl : xs.length ≤ 1000000) : CP 127 #[.pointer (some ⟨p, 0, none⟩)] w fun e w' => ∃ l : Sl, e = .returned l.v ∧ l.n = xs.length ∧ w'.ownsRow w.heap.size tSp 2 l.v l.n (xs.flatMap encSpecial) ∧ Below w.heap.size w w' := by
 refine calls_ret (vc127_calls (some ⟨p, 0, none⟩) w (fun u w' => ∃ l : Sl, u = l.v ∧ l.n = xs.length ∧ w'.ownsRow w.heap.size tSp 2 l.v l.n (xs.flatMap encSpecial) ∧ Below w.heap.size w w') ?_) (by rintro v w' ⟨l, rfl, h⟩; exact ⟨l, rfl, h⟩)
 obtain ⟨l, mi, mt, c, h1, h2, h3, h4, _, _⟩ := h
 obtain ⟨la, ln, lc⟩ := l
 change ln = xs.length at h3
 subst h3
 refine CondP.no rfl (NilC.mk _ rfl ⟨la, _, lc, by rw [ptr_add0 _ _ h1]; exact h2.c0, ?_⟩)
 refine (cloneS_spec w la lc xs h4 (by omega)).mono ?_
 rintro e w1 ⟨l, rfl, hn, ho, hb⟩
 exact ⟨_, _, _, rfl, l, rfl, hn, ho, hb⟩
theorem vocIds_spec (w : World) (v : Nat) (s : SpecV) (T : List Ent) (hV : VocIs w v s T) (hasc : (s.specials.map (·.1)).Pairwise (· < ·)) :
  CP 90 #[.pointer (some ⟨v, 0, none⟩)] w fun e w' => ∃ l : Sl, e = .returned l.v ∧ w'.ownsRow w.heap.size tInt 1 l.v l.n ((gids s T).flatMap encInt) ∧ Below w.heap.size w w' := by
 refine calls_ret (vc90_calls (some ⟨v, 0, none⟩) w (fun u w' => ∃ l : Sl, u = l.v ∧ w'.ownsRow w.heap.size tInt 1 l.v l.n ((gids s T).flatMap encInt) ∧ Below w.heap.size w w') ?_) (by rintro v w' ⟨l, rfl, h⟩; exact ⟨l, rfl, h⟩)
 obtain ⟨w0, x, tp, bp, mp, d, l, uses, hR⟩ := hV
 have hP := hR.now
 have hmost := hP.ok.most
 have hlen := hP.ok.len
 have hfew := (right_small hP.right).2.2.1
 have hmx : s.specials.length ≤ 32 := by
  have := (right_parts hP.right).2.2.2.1
  exact allOk_len this
 refine (vocSize_spec hR.vblk hP.tab).mono ?_
 rintro e w1 ⟨rfl, hw⟩
 subst hw
 refine ⟨_, rfl, ?_⟩
 intro I hI
 have key := climb2 (α := Sl × World) T.length (fun i y => y.2.ownsRow w1.heap.size tInt 1 y.1.v y.1.n (((List.range i).map (fun i : Nat => (i : Int))).flatMap encInt) ∧ y.1.n = i ∧ Below w1.heap.size w1 y.2) (fun i y => I [.int .i64 (i : Int), y.1.v] y.2) (sl0, w1) ⟨own_none _ _ _ _ encInt, rfl, Below.refl _ _⟩ ?_ ?_
 ·exact key
 ·rintro i hi ih ⟨f, q⟩ ⟨hown, hn, hB⟩
  change q.ownsRow w1.heap.size tInt 1 f.v f.n _ at hown
  change f.n = i at hn
  change Below w1.heap.size w1 q at hB
  refine hI _ f.a f.n f.c q (CondP.yes (by simp; omega) ?_)
  intro w3 hw3
  obtain ⟨f', w4, g1, g2, g3, g4, _⟩ := elInt.push hown (i : Int) hw3 rfl hB.size (by omega) (by decide)
  refine ⟨f'.a, f'.n, f'.c, w4, g2, Ar.nat (i + 1) rfl (by omega) (ih (f', w4) ⟨?_, by show f'.n = i + 1; omega, g4 _ hB⟩)⟩
  rw [List.range_succ, List.map_append]
  exact g3
 ·rintro ⟨f, q⟩ ⟨hown, hn, hB⟩
  change q.ownsRow w1.heap.size tInt 1 f.v f.n _ at hown
  change f.n = T.length at hn
  change Below w1.heap.size w1 q at hB
  refine hI _ f.a f.n f.c q (CondP.no (by simp) ?_)
  refine (vocMarks_spec (hR.vblk.on hB)).mono ?_
  rintro e w5 ⟨rfl, hw⟩
  subst hw
  refine ⟨_, rfl, ?_⟩
  refine (markAll_spec w5 mp s.specials (hP.on hB).marks hfew).mono ?_
  rintro e w6 ⟨a, rfl, han, hao, b6⟩
  refine ⟨a.a, a.n, a.c, rfl, ?_⟩
  have hB6 := below_then hB b6
  intro I2 hI2
  have key2 := climb2 (α := Sl × World) s.specials.length (fun i y => y.2.ownsRow w1.heap.size tInt 1 y.1.v y.1.n (((List.range T.length).map (fun i : Nat => (i : Int)) ++ (s.specials.take i).map (·.1)).flatMap encInt) ∧ y.1.n = T.length + i ∧ y.2.ownsRow w1.heap.size tSp 2 a.v a.n (s.specials.flatMap encSpecial) ∧ Below w1.heap.size w1 y.2) (fun i y => I2 [.int .i64 (i : Int), y.1.v] y.2) (f, w6) ⟨by simpa using own_on hown b6, by show f.n = T.length + 0; omega, own_base hao hB.size, hB6⟩ ?_ ?_
  ·exact key2
  ·rintro i hi ih ⟨g, z⟩ ⟨hg, hgn, hza, hBz⟩
   change z.ownsRow w1.heap.size tInt 1 g.v g.n _ at hg
   change g.n = T.length + i at hgn
   change z.ownsRow w1.heap.size tSp 2 a.v a.n _ at hza
   change Below w1.heap.size w1 z at hBz
   obtain ⟨p, hp, _, hc⟩ := (LsAt.of_own elSpecial hza).r i _ (List.getElem?_eq_getElem hi)
   have c0 := hc 0 _ rfl
   rw [add_zero] at c0
   refine hI2 _ g.a g.n g.c z (CondP.yes (by simp; omega) (NilC.mk p hp ⟨by omega, by omega, _, _, ⟨c0, hc 1 _ rfl, trivial⟩, ?_⟩))
   intro w8 hw8
   refine storeP_new [.int .i64 0, .string ⟨#[]⟩] [.int .i64 s.specials[i].1, .string (str s.specials[i].2)] rfl (ones_special _ _) w8 hw8 ?_
   intro w9 h9 hz9 b9
   refine ⟨_, ptr_add0 _ _ h9 0, ?_⟩
   intro w10 hw10
   have hB9 := below_then hBz b9
   obtain ⟨g', w11, e1, e2, e3, e4, e5⟩ := elInt.push (own_on hg b9) s.specials[i].1 hw10 rfl hB9.size (by omega) (by decide)
   have hza9 := own_on hza b9
   refine ⟨g'.a, g'.n, g'.c, w11, e2, Ar.nat (i + 1) rfl (by omega) (ih (g', w11) ⟨?_, by show g'.n = T.length + (i + 1); omega, own_same hza9 fun k hk => e5 k (own_lt hza9 k hk).2 (row_ne_row hza9 (own_on hg b9) (by decide) k hk), e4 _ hB9⟩)⟩
   rw [List.take_add_one, List.getElem?_eq_getElem hi, List.map_append, ← List.append_assoc]
   exact e3
  ·rintro ⟨g, z⟩ ⟨hg, hgn, hza, hBz⟩
   change z.ownsRow w1.heap.size tInt 1 g.v g.n _ at hg
   change g.n = T.length + s.specials.length at hgn
   change Below w1.heap.size w1 z at hBz
   rw [List.take_length] at hg
   have hgl : g.n = (gids s T).length := by rw [gids_length, hgn]
   have hgg : z.ownsRow w1.heap.size tInt 1 g.v g.n ((gids s T).flatMap encInt) := hg
   refine hI2 _ g.a g.n g.c z (CondP.no (by simp; omega) ?_)
   have hrow := (LsAt.of_own elInt hgg).r
   have hrise := rising_of (gids_rising hasc hP.ids)
   have hsort : CP 86 #[.slice g.a g.n g.c] z fun e w' => e = .returned (.tuple #[]) ∧ Below z.heap.size z w' := by
    rw [hgl]
    exact sort_spec z g.a g.c _ hrow hrise (by rw [gids_length]; omega) (by rw [gids_length]; omega)
   refine hsort.mono ?_
   rintro e w12 ⟨rfl, b12⟩
   exact ⟨rfl, g, rfl, own_on hgg b12, below_then hBz b12⟩
theorem valid_spec (w : World) (v : Nat) (s : SpecV) (T : List Ent) (hV : VocIs w v s T) (a b : Int) (ha : (vocOf s T).Has a) (hb : (vocOf s T).Has b) :
  CP 101 #[.pointer (some ⟨v, 0, none⟩), .int .i64 a, .int .i64 b] w fun e w' => e = .returned (.bool (decide ((vocOf s T).Canon [a, b]))) ∧ VocIs w' v s T ∧ Touch v w w' := by
 refine calls_ret (vc101_calls (some ⟨v, 0, none⟩) a b w (fun u w' => u = .bool (decide ((vocOf s T).Canon [a, b])) ∧ VocIs w' v s T ∧ Touch v w w') ?_) (by rintro v w' ⟨rfl, h⟩; exact ⟨rfl, h⟩)
 have parts : ∀ {q : World}, VocIs q v s T → ∃ x tp bp mp, VocParts q s T x tp bp mp ∧ ∃ c, VBlk q v c tp bp mp := by
  rintro q ⟨w0, x, tp, bp, mp, d, l, uses, hR⟩
  exact ⟨x, tp, bp, mp, hR.now, _, hR.vblk⟩
 obtain ⟨x, tp, bp, mp, hP, _⟩ := parts hV
 have hok := voc_ok hP
 have hab : ∀ t ∈ [a] ++ [b], (vocOf s T).Has t := by
  intro t ht
  simp at ht
  rcases ht with rfl | rfl
  ·exact ha
  ·exact hb
 refine (alone_spec w v s T hV a).mono ?_
 rintro e w1 ⟨rfl, hV1, t1⟩
 refine ⟨_, rfl, CondP.mk (fun h1 => ?_) fun h1 => ⟨?_, hV1, t1⟩⟩
 ·have ca := (aloneV_iff hP ha).1 h1
  refine (alone_spec w1 v s T hV1 b).mono ?_
  rintro e w2 ⟨rfl, hV2, t2⟩
  have t12 := t1.trans t2
  refine ⟨_, rfl, CondP.mk (fun h2 => ?_) fun h2 => ⟨?_, hV2, t12⟩⟩
  ·have cb := (aloneV_iff hP hb).1 h2
   obtain ⟨x2, tp2, bp2, mp2, hP2, c2, hB2⟩ := parts hV2
   refine (beside_spec hB2 hP2 a b ha hb ca cb).mono ?_
   rintro e w3 ⟨r, rfl, hr, b3⟩
   refine ⟨r, rfl, ?_, hV2.on b3, t12.trans (Touch.of_below b3)⟩
   have hm := Voc.canon_more hok (init := []) (l := a) (t := b) (fun x hx => by simp at hx; rw [hx]; exact ha) ca hb
   congr 1
   have hm2 : (vocOf s T).Canon [a, b] ↔ (vocOf s T).Canon [b] ∧ (vocOf s T).Pair a b := hm
   cases r with
   | true => exact (decide_eq_true (hm2.2 ⟨cb, hr.1 rfl⟩)).symm
   | false => exact (decide_eq_false fun e => by have := hr.2 (hm2.1 e).2; cases this).symm
  ·rw [decide_eq_false fun e => ?_]
   have := (aloneV_iff hP hb).2 (Voc.canon_append hok (P := [a]) (Q := [b]) hab e).2
   rw [h2] at this
   cases this
 ·rw [decide_eq_false fun e => ?_]
  have := (aloneV_iff hP ha).2 (Voc.canon_append hok (P := [a]) (Q := [b]) hab e).1
  rw [h1] at this
  cases this
abbrev tGrid : TypeId := 111
abbrev tRows : TypeId := 108
theorem undRows : Tryz.prog.underlying tRows = some (.slice tRow) := by kernel_rfl
theorem infoRow : (Tryz.prog.info? tRow).map (fun i => (i.zero, i.size, i.bytes)) = some (some (.slice none 0 0), 1, 24) := by kernel_rfl
def encS (r : Sl) : List Value := [r.v]
theorem elRow : ElT encS 1 tRows tRow 24 := ⟨fun _ => rfl, by decide, fun x u hu => by rw [List.mem_singleton.1 hu]; rfl, undRows, _, infoRow, rfl⟩
def gmap (G : List Int) : List (Int × Value) := G.zipIdx.map fun x => (x.1, .int .i64 (x.2 : Int))
theorem gmap_snoc (G : List Int) (x : Int) : gmap (G ++ [x]) = gmap G ++ [(x, .int .i64 (G.length : Int))] := by simp [gmap, List.zipIdx_append]
theorem look_gmap (G : List Int) (k : Int) : look k (gmap G) = (G.idxOf? k).map fun i : Nat => Value.int .i64 (i : Int) := by
 have := look_zipf (fun x : Int => x) k G 0
 simp only [Nat.zero_add, List.map_id'] at this
 exact this
def alB (s : SpecV) (T : List Ent) (i : Nat) : Bool := decide ((vocOf s T).Canon [(gids s T).getD i 0])
def relB (s : SpecV) (T : List Ent) (i k : Nat) : Bool := decide ((vocOf s T).Canon [(gids s T).getD i 0, (gids s T).getD k 0])
structure GridR (w : World) (g : Nat) (G : List Int) (al : Nat → Bool) (rel : Nat → Nat → Bool) (ids rows alone : Sl) (mb : Nat) (rs : List Sl) (m : Nat) : Prop where
 blk : w.heap[g]? = some (.cells #[ids.v, .map (some mb), rows.v, alone.v] tGrid (0, 0))
 oi : w.ownsRow 0 tInt 1 ids.v ids.n (G.flatMap encInt)
 map : MapIs intKey w mb (gmap G)
 orows : w.ownsRow 0 tRow 1 rows.v rows.n (rs.flatMap encS)
 rl : rs.length = m
 each : ∀ (i : Nat) (r : Sl), rs[i]? = some r → w.ownsRow 0 tU64 1 r.v r.n ((wordsOf G.length (rel i)).flatMap encU64)
 oal : w.ownsRow 0 tU64 1 alone.v alone.n ((wordsOf G.length al).flatMap encU64)
def GridIs (w : World) (g : Nat) (G : List Int) (al : Nat → Bool) (rel : Nat → Nat → Bool) : Prop := ∃ ids rows alone mb rs, GridR w g G al rel ids rows alone mb rs G.length
theorem GridR.on {w w' : World} {g : Nat} {G : List Int} {al : Nat → Bool} {rel : Nat → Nat → Bool} {ids rows alone : Sl} {mb : Nat} {rs : List Sl} {m : Nat} (h : GridR w g G al rel ids rows alone mb rs m) (hb : Below w.heap.size w w') : GridR w' g G al rel ids rows alone mb rs m :=
 ⟨held_on hb h.blk, own_on h.oi hb, h.map.on hb, own_on h.orows hb, h.rl, fun i r hr => own_on (h.each i r hr) hb, own_on h.oal hb⟩
theorem GridIs.on {w w' : World} {g : Nat} {G : List Int} {al : Nat → Bool} {rel : Nat → Nat → Bool} (h : GridIs w g G al rel) (hb : Below w.heap.size w w') : GridIs w' g G al rel := by
 obtain ⟨ids, rows, alone, mb, rs, h⟩ := h
 exact ⟨ids, rows, alone, mb, rs, h.on hb⟩
theorem VocIs.typed {w : World} {v : Nat} {s : SpecV} {T : List Ent} (h : VocIs w v s T) : ∃ c, w.heap[v]? = some (.cells c tVocab (0, 0)) := by
 obtain ⟨w0, x, tp, bp, mp, d, l, uses, hR⟩ := h
 exact ⟨_, hR.blk⟩
theorem VocIs.ne_cells {w : World} {v : Nat} {s : SpecV} {T : List Ent} (h : VocIs w v s T) {k : Nat} {c : Array Value} {e : TypeId} {fz : Nat × Nat} (hk : w.heap[k]? = some (.cells c e fz)) (he : e ≠ tVocab) : k ≠ v := by
 obtain ⟨c', hc⟩ := h.typed
 rintro rfl
 rw [hc] at hk
 cases hk
 exact he rfl
theorem VocIs.ne_map {w : World} {v : Nat} {s : SpecV} {T : List Ent} (h : VocIs w v s T) {κ : Type} [DecidableEq κ] {kv : κ → Value} {r : Nat} {m : List (κ × Value)} (hm : MapIs kv w r m) : r ≠ v := by
 obtain ⟨c', hc⟩ := h.typed
 rintro rfl
 obtain ⟨es, k, hk, _⟩ := hm
 rw [hc] at hk
 cases hk
theorem GridR.touch {w w' : World} {g : Nat} {G : List Int} {al : Nat → Bool} {rel : Nat → Nat → Bool} {ids rows alone : Sl} {mb : Nat} {rs : List Sl} {m : Nat} (h : GridR w g G al rel ids rows alone mb rs m) {v : Nat} {s : SpecV} {T : List Ent} (hV : VocIs w v s T) (t : Touch v w w') : GridR w' g G al rel ids rows alone mb rs m :=
 ⟨t.held (hV.ne_cells h.blk (by decide)) h.blk, hV.own_touch t h.oi (by decide), h.map.same (t.block mb h.map.lt (hV.ne_map h.map)), hV.own_touch t h.orows (by decide), h.rl, fun i r hr => hV.own_touch t (h.each i r hr) (by decide), hV.own_touch t h.oal (by decide)⟩
theorem box_store {w2 w3 : World} {x u : Value} {e : TypeId} (hw : w3 = w2.alloc (.cells #[x] e)) (hu : u.oneCell' = true) {k : World → Prop} (hk : ∀ w4, w4.heap[w2.heap.size]? = some (.cells #[u] e (0, 0)) → Below w2.heap.size w2 w4 → k w4) : u.oneCell' = true ∧ (∃ y, w3.cell? (nb w2) = some y) ∧ w3.frozen? (nb w2) = false ∧ ∀ w4, w4 = w3.setCell (nb w2) u → k w4 :=
 store_one (storeP_new [x] [u] rfl (by intro y hy; rw [List.mem_singleton.1 hy]; exact hu) w3 hw fun w4 h4 _ b4 => hk w4 h4 b4)
theorem cell1 {w : World} {b : Nat} {x : Value} {e : TypeId} {fz : Nat × Nat} (h : w.heap[b]? = some (.cells #[x] e fz)) : w.cell? ⟨b, 0, none⟩ = some x := cell_heap h
theorem getD_of {α : Type} {l : List α} {i : Nat} (h : i < l.length) (d : α) : l.getD i d = l[i] := by simp [List.getD, h]
theorem gids_bound {s : SpecV} {T : List Ent} (h1 : TOk T) (h2 : s.right = true) : 256 ≤ (gids s T).length ∧ (gids s T).length ≤ 1032 := by
 have := h1.most
 have := h1.len
 have := allOk_len (right_parts h2).2.2.2.1
 rw [gids_length]
 omega
theorem Touch.put {v d j : Nat} {a b : World} (t : Touch v a b) (hd : a.heap.size ≤ d) (u : Value) : Touch v a (b.setCell ((⟨d, 0, none⟩ : Addr).add j) u) :=
 ⟨t.os, t.tape, t.output, by rw [size_setCell]; exact t.size, fun k hk hv => by rw [heap_setCell_ne (by rw [add_block]; show k ≠ d; omega)]; exact t.block k hk hv⟩
theorem VocIs.put {w : World} {v d j : Nat} {s : SpecV} {T : List Ent} (h : VocIs w v s T) {c : Array Value} {e : TypeId} (hd : w.heap[d]? = some (.cells c e (0, 0))) (he : tBool ≠ e) (hv : v < d) (u : Value) : VocIs (w.setCell ((⟨d, 0, none⟩ : Addr).add j) u) v s T := by
 obtain ⟨w0, x, tp, bp, mp, q, l, uses, hR⟩ := h
 have hlt := hR.lt
 refine ⟨w0, x, tp, bp, mp, q, l, uses, hR.parts, below_put hR.below (by omega) u, hlt, by rw [heap_setCell_ne (by rw [add_block]; show v ≠ d; omega)]; exact hR.blk, ?_⟩
 rcases hR.once with h | ⟨h1, h2, h3⟩
 ·exact .inl h
 ·exact .inr ⟨h1, h2, own_setCell h3 u (by rw [add_block]; exact row_ne_blk h3 hd he)⟩
theorem VocIs.growE {w w' : World} {v : Nat} {s : SpecV} {T : List Ent} (h : VocIs w v s T) {B : Nat} (hb : Below B w w') (hv : v < B) {B' n sz : Nat} {e : TypeId} {u : Value} {xs : List Value} (ho : w.ownsRow B' e sz u n xs) (he : tBool ≠ e) (hk : ∀ k, k < w.heap.size → u.ownBlock ≠ some k → w'.heap[k]? = w.heap[k]?) : VocIs w' v s T := by
 obtain ⟨w0, x, tp, bp, mp, d, l, uses, hR⟩ := h
 have hlt := hR.lt
 refine ⟨w0, x, tp, bp, mp, d, l, uses, hR.parts, hR.below.trans (hb.mono (by omega)), hlt, by rw [hb.block v hv]; exact hR.blk, ?_⟩
 rcases hR.once with h | ⟨h1, h2, h3⟩
 ·exact .inl h
 ·exact .inr ⟨h1, h2, own_same h3 fun k hk3 => hk k (own_lt h3 k hk3).2 (row_ne_row h3 ho he k hk3)⟩
theorem alone_dec (w : World) (v : Nat) (s : SpecV) (T : List Ent) (hV : VocIs w v s T) (t : Int) (ht : (vocOf s T).Has t) :
  CP 99 #[.pointer (some ⟨v, 0, none⟩), .int .i64 t] w fun e w' => e = .returned (.bool (decide ((vocOf s T).Canon [t]))) ∧ VocIs w' v s T ∧ Touch v w w' := by
 have hP : ∃ x tp bp mp, VocParts w s T x tp bp mp := by
  obtain ⟨w0, x, tp, bp, mp, d, l, uses, hR⟩ := hV
  exact ⟨x, tp, bp, mp, hR.now⟩
 obtain ⟨x, tp, bp, mp, hP⟩ := hP
 refine (alone_spec w v s T hV t).mono ?_
 rintro e w1 ⟨rfl, h⟩
 refine ⟨?_, h⟩
 congr 2
 have := aloneV_iff hP ht
 cases ha : aloneV s T t with
 | true => exact (decide_eq_true (this.1 ha)).symm
 | false => exact (decide_eq_false fun e => by rw [this.2 e] at ha; cases ha).symm
theorem new1_spec (w : World) (v : Nat) (s : SpecV) (T : List Ent) (hV : VocIs w v s T) (b0 b1 : Nat) {e0 e1 : TypeId} (ids : Sl) (G : List Int) (h0 : w.heap[b0]? = some (.cells #[.pointer (some ⟨v, 0, none⟩)] e0 (0, 0))) (h1 : w.heap[b1]? = some (.cells #[ids.v] e1 (0, 0))) (oi : w.ownsRow 0 tInt 1 ids.v ids.n (G.flatMap encInt)) (hG : ∀ t ∈ G, (vocOf s T).Has t) (i : Nat) (hi : i < G.length) :
  CP 98 #[.int .i64 (i : Int), .pointer (some ⟨b0, 0, none⟩), .pointer (some ⟨b1, 0, none⟩)] w fun e w' => e = .returned (.bool (decide ((vocOf s T).Canon [G.getD i 0]))) ∧ VocIs w' v s T ∧ Touch v w w' := by
 refine calls_ret (vc98_calls i (some ⟨b0, 0, none⟩) (some ⟨b1, 0, none⟩) w (fun u w' => u = .bool (decide ((vocOf s T).Canon [G.getD i 0])) ∧ VocIs w' v s T ∧ Touch v w w') ?_) (by rintro v w' ⟨rfl, h⟩; exact ⟨rfl, h⟩)
 intro w1 hw1
 have b1' : Below w.heap.size w w1 := by subst hw1; exact drew_on w
 have hls := LsAt.of_own elInt (own_on oi b1')
 have hn := hls.n
 obtain ⟨p, hp, c0⟩ := cell_rw hls.r hi rfl
 refine NilC.mk _ rfl ⟨_, cell1 (held_on b1' h0), NilC.mk _ rfl ⟨ids.a, ids.n, ids.c, cell1 (held_on b1' h1), NilC.mk p hp ⟨by omega, by omega, _, c0, ?_⟩⟩⟩
 refine (alone_dec w1 v s T (hV.on b1') G[i] (hG _ (List.getElem_mem hi))).mono ?_
 rintro e w2 ⟨rfl, hV2, t2⟩
 refine ⟨_, rfl, ?_, hV2, (Touch.of_below b1').trans t2⟩
 rw [getD_of hi]
theorem new2_spec (w : World) (v : Nat) (s : SpecV) (T : List Ent) (hV : VocIs w v s T) (cg ci cv ca cids : Nat) {eg ei ev ea ed : TypeId} (g : Nat) (ids rows alone : Sl) (mb : Nat) (rs : List Sl) (m i k : Nat) (hb : v < cg ∧ v < ci ∧ v < cv ∧ v < ca ∧ v < cids)
  (hR : GridR w g (gids s T) (alB s T) (relB s T) ids rows alone mb rs m) (hgh : ∀ t ∈ gids s T, (vocOf s T).Has t) (hgl : (gids s T).length ≤ 1032)
  (h0 : w.heap[cg]? = some (.cells #[.pointer (some ⟨g, 0, none⟩)] eg (0, 0))) (h1 : w.heap[ci]? = some (.cells #[.int .i64 (i : Int)] ei (0, 0))) (h2 : w.heap[cv]? = some (.cells #[.pointer (some ⟨v, 0, none⟩)] ev (0, 0))) (h3 : w.heap[ca]? = some (.cells #[.int .i64 ((gids s T).getD i 0)] ea (0, 0))) (h4 : w.heap[cids]? = some (.cells #[ids.v] ed (0, 0)))
  (hi : i < (gids s T).length) (hk : k < (gids s T).length) :
  CP 100 #[.int .i64 (k : Int), .pointer (some ⟨cg, 0, none⟩), .pointer (some ⟨ci, 0, none⟩), .pointer (some ⟨cv, 0, none⟩), .pointer (some ⟨ca, 0, none⟩), .pointer (some ⟨cids, 0, none⟩)] w fun e w' => e = .returned (.bool (relB s T i k)) ∧ VocIs w' v s T ∧ Touch v w w' := by
 refine calls_ret (vc100_calls k (some ⟨cg, 0, none⟩) (some ⟨ci, 0, none⟩) (some ⟨cv, 0, none⟩) (some ⟨ca, 0, none⟩) (some ⟨cids, 0, none⟩) w (fun u w' => u = .bool (relB s T i k) ∧ VocIs w' v s T ∧ Touch v w w') ?_) (by rintro v w' ⟨rfl, h⟩; exact ⟨rfl, h⟩)
 have hP : ∃ x tp bp mp, VocParts w s T x tp bp mp := by
  obtain ⟨w0, x, tp, bp, mp, d, l, uses, hR⟩ := hV
  exact ⟨x, tp, bp, mp, hR.now⟩
 obtain ⟨x, tp, bp, mp, hP⟩ := hP
 have hok := voc_ok hP
 have hA : (vocOf s T).Has ((gids s T).getD i 0) := by rw [getD_of hi]; exact hgh _ (List.getElem_mem hi)
 have hB : (vocOf s T).Has ((gids s T).getD k 0) := by rw [getD_of hk]; exact hgh _ (List.getElem_mem hk)
 have hpair : relB s T i k = true → alB s T i = true ∧ alB s T k = true := by
  intro h
  have := Voc.canon_append hok (P := [(gids s T).getD i 0]) (Q := [(gids s T).getD k 0]) (by
   intro t ht
   simp only [List.cons_append, List.nil_append, List.mem_cons, List.not_mem_nil, or_false] at ht
   rcases ht with rfl | rfl
   ·exact hA
   ·exact hB) (of_decide_eq_true h)
  exact ⟨decide_eq_true this.1, decide_eq_true this.2⟩
 intro w1 hw1
 have b1' : Below w.heap.size w w1 := by subst hw1; exact drew_on w
 have t1 : Touch v w w1 := Touch.of_below b1'
 have hR1 := hR.on b1'
 have hV1 := hV.on b1'
 have al1 := LsAt.of_own elU64 hR1.oal
 refine NilC.mk _ rfl ⟨_, cell1 (held_on b1' h0), NilC.mk _ rfl ⟨alone.a, alone.n, alone.c, by rw [cell_put hR1.blk]; rfl, NilC.mk _ rfl ⟨_, cell1 (held_on b1' h1), ?_⟩⟩⟩
 refine (rowHas_spec w1 alone.a alone.n alone.c _ (alB s T) al1.r al1.n (by omega) i hi).mono ?_
 rintro e w2 ⟨rfl, hw2⟩
 rw [hw2]
 refine ⟨_, rfl, CondP.mk (fun ha => ?_) fun ha => ⟨?_, hV1, t1⟩⟩
 ·refine NilC.mk _ rfl ⟨_, cell1 (held_on b1' h0), NilC.mk _ rfl ⟨alone.a, alone.n, alone.c, by rw [cell_put hR1.blk]; rfl, ?_⟩⟩
  refine (rowHas_spec w1 alone.a alone.n alone.c _ (alB s T) al1.r al1.n (by omega) k hk).mono ?_
  rintro e w3 ⟨rfl, hw3⟩
  rw [hw3]
  refine ⟨_, rfl, CondP.mk (fun hb => ?_) fun hb => ⟨?_, hV1, t1⟩⟩
  ·have hls := LsAt.of_own elInt hR1.oi
   have hn := hls.n
   obtain ⟨p, hp, c0⟩ := cell_rw hls.r hk rfl
   refine NilC.mk _ rfl ⟨_, cell1 (held_on b1' h2), NilC.mk _ rfl ⟨_, cell1 (held_on b1' h3), NilC.mk _ rfl ⟨ids.a, ids.n, ids.c, cell1 (held_on b1' h4), NilC.mk p hp ⟨by omega, by omega, _, c0, ?_⟩⟩⟩⟩
   rw [← getD_of hk 0]
   refine (valid_spec w1 v s T hV1 _ _ hA hB).mono ?_
   rintro e w4 ⟨rfl, hV4, t4⟩
   exact ⟨_, rfl, rfl, hV4, t1.trans t4⟩
  ·cases hr : relB s T i k with
   | false => rfl
   | true => rw [(hpair hr).2] at hb; cases hb
 ·cases hr : relB s T i k with
  | false => rfl
  | true => rw [(hpair hr).1] at ha; cases ha
theorem own_ne_map {w : World} {B : Nat} {e : TypeId} {sz n : Nat} {u : Value} {xs : List Value} (h : w.ownsRow B e sz u n xs) {κ : Type} [DecidableEq κ] {kv : κ → Value} {r : Nat} {m : List (κ × Value)} (hm : MapIs kv w r m) : u.ownBlock ≠ some r := by
 obtain ⟨es, k, hk, _⟩ := hm
 intro hb
 rcases h.2 with ⟨rfl, _⟩ | ⟨g, cap, cur, rfl, _, hg, _⟩
 ·cases hb
 ·cases hb
  rw [hk] at hg
  cases hg
theorem two_boxes {q w1 w2 : World} {x y u z : Value} {e e' : TypeId} (h1 : w1 = q.alloc (.cells #[x] e)) (h2 : w2 = w1.alloc (.cells #[y] e')) (hu : u.oneCell' = true) (hz : z.oneCell' = true) {k : World → Prop} (hk : ∀ w4, w4.heap[q.heap.size]? = some (.cells #[u] e (0, 0)) → w4.heap[w1.heap.size]? = some (.cells #[z] e' (0, 0)) → Below q.heap.size q w4 → k w4) :
  u.oneCell' = true ∧ (∃ a, w2.cell? (nb q) = some a) ∧ w2.frozen? (nb q) = false ∧ ∀ w3, w3 = w2.setCell (nb q) u → z.oneCell' = true ∧ (∃ a, w3.cell? (nb w1) = some a) ∧ w3.frozen? (nb w1) = false ∧ ∀ w4, w4 = w3.setCell (nb w1) z → k w4 := by
 have b1 : Below q.heap.size q w1 := by subst h1; exact below_alloc _ _
 have a1 : w1.heap[q.heap.size]? = some (.cells #[x] e (0, 0)) := by subst h1; exact alloc_new _ _
 have b2 : Below w1.heap.size w1 w2 := by subst h2; exact below_alloc _ _
 have a2 : w2.heap[w1.heap.size]? = some (.cells #[y] e' (0, 0)) := by subst h2; exact alloc_new _ _
 have a12 := held_on b2 a1
 have hlt : q.heap.size < w1.heap.size := (Array.getElem?_eq_some_iff.1 a1).1
 have b02 := below_then b1 b2
 refine ⟨hu, ⟨_, cell_heap a12⟩, frozen_heap a12, ?_⟩
 intro w3 h3
 have a13 : w3.heap[q.heap.size]? = some (.cells #[u] e (0, 0)) := by subst h3; exact setCell_heap a12 u
 have a23 : w3.heap[w1.heap.size]? = some (.cells #[y] e' (0, 0)) := by subst h3; rw [heap_setCell_ne (by show w1.heap.size ≠ q.heap.size; omega)]; exact a2
 have b03 : Below q.heap.size q w3 := by subst h3; exact b02.setCell (p := nb q) (Nat.le_refl _) u
 refine ⟨hz, ⟨_, cell_heap a23⟩, frozen_heap a23, ?_⟩
 intro w4 h4
 refine hk w4 ?_ ?_ ?_
 ·subst h4; rw [heap_setCell_ne (by show q.heap.size ≠ w1.heap.size; omega)]; exact a13
 ·subst h4; exact setCell_heap a23 z
 ·subst h4; exact b03.setCell (p := nb w1) (Nat.le_of_lt hlt) z
def NewGR (w : World) (v : Nat) (s : SpecV) (T : List Ent) (most : Int) (u : Value) (w' : World) : Prop := VocIs w' v s T ∧ Touch v w w' ∧ (if (((gids s T).length * (gids s T).length : Nat) : Int) > most then u = .tuple #[.pointer none, .int .i64 5] else ∃ g, u = .tuple #[.pointer (some ⟨g, 0, none⟩), .int .i64 0] ∧ GridIs w' g (gids s T) (alB s T) (relB s T) ∧ w.heap.size ≤ g)
set_option maxHeartbeats 2000000 in
theorem gridNew_spec (w : World) (v : Nat) (s : SpecV) (T : List Ent) (hV : VocIs w v s T) (hasc : (s.specials.map (·.1)).Pairwise (· < ·)) (most : Int) :
  CP 61 #[.pointer (some ⟨v, 0, none⟩), .int .i64 most] w fun e w' => ∃ u, e = .returned u ∧ NewGR w v s T most u w' := by
 refine vc61_calls (some ⟨v, 0, none⟩) most w (NewGR w v s T most) ?_
 have hgb : 256 ≤ (gids s T).length ∧ (gids s T).length ≤ 1032 ∧ (∀ t ∈ gids s T, (vocOf s T).Has t) ∧ (gids s T).Pairwise (· < ·) := by
  obtain ⟨w0, x, tp, bp, mp, d, l, uses, hR⟩ := hV
  have hP := hR.now
  exact ⟨(gids_bound hP.ok hP.right).1, (gids_bound hP.ok hP.right).2, fun t ht => (has_iff hP t).1 ((gids_has s T t).1 ht), gids_rising hasc hP.ids⟩
 obtain ⟨hg1, hg2, hgh, hgr⟩ := hgb
 intro w1 hw1
 have b1 : Below w.heap.size w w1 := by subst hw1; exact below_alloc _ _
 have l1 : w1.heap[w.heap.size]? = some (.cells #[.pointer (some ⟨v, 0, none⟩)] 31 (0, 0)) := by subst hw1; exact alloc_new _ _
 refine ⟨_, cell1 l1, ?_⟩
 have hV1 := hV.on b1
 refine (vocIds_spec w1 v s T hV1 hasc).mono ?_
 rintro e w2 ⟨ids, rfl, oids, b2⟩
 refine ⟨_, _, _, rfl, ?_⟩
 intro w3 hw3
 refine box_store hw3 rfl ?_
 intro w4 l4 b4
 have b24 := below_then b2 b4
 have b14 := below_then b1 b24
 have oids4 := own_base (own_on oids b4) (Nat.zero_le _)
 have hin := (LsAt.of_own elInt oids4).n
 have l14 := held_on b24 l1
 have hV4 := hV.on b14
 refine ⟨_, cell1 l14, CondP.no rfl ⟨ids.a, ids.n, ids.c, cell1 l4, ids.a, ids.n, ids.c, cell1 l4, Ar.nat ((gids s T).length * (gids s T).length) (by rw [hin]; simp) (by
  have : (gids s T).length * (gids s T).length ≤ 1032 * 1032 := Nat.mul_le_mul hg2 hg2
  omega) (CondP.mk (fun hm => ⟨hV4, Touch.of_below b14, ?_⟩) fun hm => ?_)⟩⟩
 ·rw [if_pos (of_decide_eq_true hm)]
 have hm := of_decide_eq_false hm
 obtain ⟨G, hG⟩ : ∃ G, G = gids s T := ⟨_, rfl⟩
 rw [← hG] at oids4 hin hg1 hg2 hgh hgr hm
 obtain ⟨n, hn⟩ : ∃ n, n = G.length := ⟨_, rfl⟩
 rw [← hn] at hin
 refine ⟨ids.a, ids.n, ids.c, cell1 l4, _, _, run_make _, ?_⟩
 have b5 := below_alloc w4 (.map #[] 0)
 have m5 : MapIs intKey (w4.alloc (.map #[] 0)) w4.heap.size (gmap []) := map_new w4
 obtain ⟨w5, hw5⟩ : ∃ w5, w5 = w4.alloc (.map #[] 0) := ⟨_, rfl⟩
 rw [← hw5] at b5 m5
 rw [← hw5]
 intro w6 hw6 w7 hw7
 have b6 : Below w5.heap.size w5 w6 := by subst hw6; exact below_alloc _ _
 have g6 : w6.heap[w5.heap.size]? = some (.cells #[ids.v, .map (some w4.heap.size), sl0.v, sl0.v] tGrid (0, 0)) := by subst hw6; exact alloc_new _ _
 refine box_store hw7 rfl ?_
 intro w8 l8 b8
 have b58 := below_then b6 b8
 have b48 := below_then b5 b58
 have b08 := below_then b14 b48
 have hz4 := b14.size
 have hz5 := b5.size
 have lt4 : w4.heap.size < w5.heap.size := m5.lt
 have lt6 : w5.heap.size < w6.heap.size := (Array.getElem?_eq_some_iff.1 g6).1
 have lt8 : w6.heap.size < w8.heap.size := (Array.getElem?_eq_some_iff.1 l8).1
 have lt2 : w2.heap.size < w4.heap.size := (Array.getElem?_eq_some_iff.1 l4).1
 have lt1 : w.heap.size < w4.heap.size := (Array.getElem?_eq_some_iff.1 l14).1
 have hvl := hV.lt
 have boxes : ∀ {q : World}, Below (w4.heap.size) w8 q → q.heap[w.heap.size]? = some (.cells #[.pointer (some ⟨v, 0, none⟩)] 31 (0, 0)) ∧ q.heap[w2.heap.size]? = some (.cells #[ids.v] tInts (0, 0)) := by
  intro q hq
  exact ⟨Below.keeps hq lt1 (held_on b48 l14), Below.keeps hq lt2 (held_on b48 l4)⟩
 refine ⟨ids.a, ids.n, ids.c, cell1 (held_on b48 l4), ?_⟩
 have oids8 := own_on oids4 b48
 have idsLt : ∀ k, ids.v.ownBlock = some k → k < w4.heap.size := fun k hk => (own_lt oids4 k hk).2
 intro I hI
 let Inv (i : Nat) (q : World) : Prop := MapIs intKey q w4.heap.size (gmap (G.take i)) ∧ (∀ j, j ≠ w4.heap.size → q.heap[j]? = w8.heap[j]?) ∧ q.heap.size = w8.heap.size ∧ Below w4.heap.size w4 q
 have key := climb2 (α := World) n Inv (fun i q => I [.int .i64 (i : Int)] q) w8 ⟨by rw [List.take_zero]; exact m5.on b58, fun _ _ => rfl, rfl, b48⟩ ?_ ?_
 ·exact key
 ·rintro i hi ih q ⟨hmap, hs, hz, hB⟩
  have hiG : i < G.length := by omega
  have oq : q.ownsRow 0 tInt 1 ids.v ids.n (G.flatMap encInt) := own_same oids8 fun k hk => hs k (by have := idsLt k hk; omega)
  obtain ⟨p, hp, c0⟩ := cell_rw (LsAt.of_own elInt oq).r hiG rfl
  have hlook : look G[i] (gmap (G.take i)) = none := by
   rw [look_gmap, List.idxOf?_eq_none_iff.2]
   ·rfl
   ·intro hmem
    obtain ⟨j, hj, e⟩ := List.mem_take_iff_getElem.1 hmem
    have := List.pairwise_iff_getElem.1 hgr j i (by omega) hiG (by omega)
    omega
  obtain ⟨q', hr', hm', hs', hz', hB'⟩ := run_put_new keysI undMapI hmap G[i] (.int .i64 (i : Int)) hlook
  refine hI _ _ (CondP.yes (by simp; omega) (NilC.mk p hp ⟨by omega, by omega, _, c0, _, cell1 (by rw [hs w6.heap.size (by omega)]; exact l8), NilC.mk _ rfl ⟨_, ptr_add0 _ _ (by rw [hs w5.heap.size (by omega)]; exact held_on b8 g6) 1, q', hr', Ar.nat (i + 1) rfl (by omega) (ih q' ⟨?_, fun j hj => by rw [hs' j hj, hs j hj], by rw [hz', hz], hB' _ _ (Nat.le_refl _) hB⟩)⟩⟩))
  have e : gmap (G.take (i + 1)) = gmap (G.take i) ++ [(G[i], .int .i64 (i : Int))] := by
   rw [List.take_add_one, List.getElem?_eq_getElem hiG]
   have := gmap_snoc (G.take i) G[i]
   rw [List.length_take, Nat.min_eq_left (by omega)] at this
   exact this
  rw [e]
  exact hm'
 ·rintro q ⟨hmap, hs, hz, hB⟩
  rw [List.take_of_length_le (by omega)] at hmap
  refine hI _ _ (CondP.no (by simp; omega) ?_)
  intro w11 hw11
  have b11 : Below q.heap.size q w11 := by subst hw11; exact drew_on q
  have hq8 : Below w4.heap.size w8 q := ⟨by rw [hB.os, ← b48.os], by rw [hB.tape, ← b48.tape], by rw [hB.output, ← b48.output], by rw [hz]; exact Nat.le_refl _, fun k hk => hs k (by omega)⟩
  have hq8' : Below w4.heap.size w8 w11 := hq8.trans (b11.mono (by have := hq8.size; omega))
  have hV11 : VocIs w11 v s T := (hV4.on b5 |> fun h5 => (hV4.on ⟨hB.os, hB.tape, hB.output, hB.size, hB.block⟩)).on b11
  have t11 : Touch v w w11 := (Touch.of_below b14).trans (Touch.of_below (hB.trans (b11.mono hB.size)))
  have g11 := held_on b11 (show q.heap[w5.heap.size]? = some (.cells #[ids.v, .map (some w4.heap.size), sl0.v, sl0.v] tGrid (0, 0)) by rw [hs _ (by omega)]; exact held_on b8 g6)
  have lg11 := held_on b11 (show q.heap[w6.heap.size]? = _ by rw [hs _ (by omega)]; exact l8)
  have bx11 := boxes hq8'
  have m11 := hmap.on b11
  have o11 : w11.ownsRow 0 tInt 1 ids.v ids.n (G.flatMap encInt) := own_on (own_same oids8 fun k hk => hs k (by have := idsLt k hk; omega)) b11
  subst hG
  have bxL : w.heap.size < w11.heap.size ∧ w2.heap.size < w11.heap.size ∧ w6.heap.size < w11.heap.size ∧ w5.heap.size < w11.heap.size := ⟨(Array.getElem?_eq_some_iff.1 bx11.1).1, (Array.getElem?_eq_some_iff.1 bx11.2).1, (Array.getElem?_eq_some_iff.1 lg11).1, (Array.getElem?_eq_some_iff.1 g11).1⟩
  have sz2 : w.heap.size ≤ w2.heap.size := Nat.le_trans b1.size b2.size
  refine ⟨_, cell1 lg11, ids.a, ids.n, ids.c, cell1 bx11.2, ?_⟩
  refine (fill_spec w11 ids.n _ (fun i => alB s T i) v s T hV11 (by omega) ?_).mono ?_
  ·intro i hi q hVq tq
   refine callG_of (by kernel_rfl) ?_
   exact new1_spec q v s T hVq w.heap.size w2.heap.size ids (gids s T) (tq.held (by omega) bx11.1) (tq.held (by omega) bx11.2) (hV11.own_touch tq o11 (by decide)) hgh i (by omega)
  rintro e w12 ⟨al, rfl, oal, hV12, t12⟩
  rw [hin, hn] at oal
  have lg12 := t12.held (by omega) lg11
  have g12 := t12.held (by omega) g11
  have x12 := t12.held (by omega) bx11.1
  have y12 := t12.held (by omega) bx11.2
  have o12 := hV11.own_touch t12 o11 (by decide)
  have m12 := m11.same (t12.block _ m11.lt (by omega))
  refine ⟨al.a, al.n, al.c, rfl, ⟨cell1 lg12, trivial⟩, NilC.mk _ rfl ⟨rfl, ⟨_, by rw [cell_put g12]; rfl⟩, frozen_put g12, ?_⟩⟩
  intro w13 hw13
  have g13 : w13.heap[w5.heap.size]? = some (.cells #[ids.v, .map (some w4.heap.size), sl0.v, al.v] tGrid (0, 0)) := by subst hw13; exact heap_put g12 _
  have hs13 : ∀ j, j ≠ w5.heap.size → w13.heap[j]? = w12.heap[j]? := by
   intro j hj
   subst hw13
   exact heap_setCell_ne (by rw [add_block]; exact hj)
  have hV13 : VocIs w13 v s T := by subst hw13; exact hV12.put g12 (by decide) (by omega) _
  have t13 : Touch v w w13 := by subst hw13; exact (t11.trans t12).put (by omega) _
  have lg13 : w13.heap[w6.heap.size]? = _ := (hs13 _ (by omega)).trans lg12
  have x13 : w13.heap[w.heap.size]? = _ := (hs13 _ (by omega)).trans x12
  have y13 : w13.heap[w2.heap.size]? = _ := (hs13 _ (by omega)).trans y12
  have hR13 : GridR w13 w5.heap.size (gids s T) (alB s T) (relB s T) ids sl0 al w4.heap.size [] 0 :=
   ⟨g13, own_same o12 fun k hk => hs13 k fun e => row_ne_blk o12 g12 (by decide) (by rw [hk, e]), m12.same (hs13 _ (by omega)), own_none _ _ _ _ encS, rfl, (by intro i r h; cases h), own_same (own_base oal (Nat.zero_le _)) fun k hk => hs13 k fun e => row_ne_blk oal g12 (by decide) (by rw [hk, e])⟩
  refine ⟨ids.a, ids.n, ids.c, cell1 y13, ?_⟩
  intro I2 hI2
  let Inv2 (i : Nat) (q : World) : Prop := ∃ rows rs, GridR q w5.heap.size (gids s T) (alB s T) (relB s T) ids rows al w4.heap.size rs i ∧ q.ownsRow w.heap.size tRow 1 rows.v rows.n (rs.flatMap encS) ∧ VocIs q v s T ∧ Touch v w q ∧ q.heap[w6.heap.size]? = some (.cells #[.pointer (some (nb w5))] 48 (0, 0)) ∧ q.heap[w.heap.size]? = some (.cells #[.pointer (some ⟨v, 0, none⟩)] 31 (0, 0)) ∧ q.heap[w2.heap.size]? = some (.cells #[ids.v] tInts (0, 0))
  have key2 := climb2 (α := World) n Inv2 (fun i q => I2 [.int .i64 (i : Int)] q) w13 ⟨sl0, [], hR13, own_none _ _ _ _ encS, hV13, t13, lg13, x13, y13⟩ ?_ ?_
  ·exact key2
  ·rintro i hi ih z ⟨rows, rs, hR, orow, hVz, tz, lgz, xz, yz⟩
   have hiG : i < (gids s T).length := by omega
   have zb : w.heap.size < z.heap.size ∧ w2.heap.size < z.heap.size ∧ w6.heap.size < z.heap.size ∧ w5.heap.size < z.heap.size := ⟨(Array.getElem?_eq_some_iff.1 xz).1, (Array.getElem?_eq_some_iff.1 yz).1, (Array.getElem?_eq_some_iff.1 lgz).1, (Array.getElem?_eq_some_iff.1 hR.blk).1⟩
   have hlz := LsAt.of_own elInt hR.oi
   obtain ⟨p, hp, c0⟩ := cell_rw hlz.r hiG rfl
   have hnz := hlz.n
   refine hI2 _ _ (CondP.yes (by simp; omega) (NilC.mk p hp ⟨by omega, by omega, _, c0, ?_⟩))
   intro w15 hw15 w16 hw16
   refine two_boxes hw15 hw16 rfl rfl ?_
   intro w18 bi18 ba18 b18
   have zs15 : z.heap.size < w15.heap.size := by subst hw15; rw [alloc_size]; omega
   intro w19 hw19
   have b19' : Below w18.heap.size w18 w19 := by subst hw19; exact drew_on w18
   have b19 := below_then b18 b19'
   have bi19 := held_on b19' bi18
   have ba19 := held_on b19' ba18
   have hR19 := hR.on b19
   have hV19 := hVz.on b19
   have lg19 := held_on b19 lgz
   have x19 := held_on b19 xz
   have y19 := held_on b19 yz
   have or19 := own_on orow b19
   have t19 : Touch v w w19 := tz.then_off b19 tz.size
   refine ⟨_, cell1 lg19, _, cell1 lg19, NilC.mk _ rfl ⟨rows.a, rows.n, rows.c, by rw [cell_put hR19.blk]; rfl, ids.a, ids.n, ids.c, cell1 y19, ?_⟩⟩
   refine (fill_spec w19 ids.n _ (fun k => relB s T i k) v s T hV19 (by omega) ?_).mono ?_
   ·intro k hk q hVq tq
    refine callG_of (by kernel_rfl) ?_
    refine new2_spec q v s T hVq w6.heap.size z.heap.size w.heap.size w15.heap.size w2.heap.size w5.heap.size ids rows al w4.heap.size rs i i k ⟨by omega, by omega, by omega, by omega, by omega⟩ (hR19.touch hV19 tq) hgh hg2 (tq.held (by omega) lg19) (tq.held (by omega) bi19) (tq.held (by omega) x19) (tq.held (by omega) (by rw [getD_of hiG]; exact ba19)) (tq.held (by omega) y19) hiG (by omega)
   rintro e w20 ⟨r, rfl, orw, hV20, t20⟩
   rw [hin, hn] at orw
   have hR20 := hR19.touch hV19 t20
   have lg20 := t20.held (by omega) lg19
   have x20 := t20.held (by omega) x19
   have y20 := t20.held (by omega) y19
   have or20 := hV19.own_touch t20 or19 (by decide)
   refine ⟨r.a, r.n, r.c, rfl, ⟨by rw [cell_put hR20.blk]; rfl, trivial⟩, ⟨cell1 lg20, trivial⟩, ⟨cell1 lg20, trivial⟩, ?_⟩
   intro w21 hw21
   have b21 : Below w20.heap.size w20 w21 := by subst hw21; exact below_alloc _ _
   have lg21 := held_on b21 lg20
   have wb : w.heap.size ≤ w20.heap.size := (t19.trans t20).size
   obtain ⟨rows', w22, hn22, hrun, own22, hB22, hk22⟩ := elRow.push or20 r hw21 rfl wb (by have := (LsAt.of_own elRow or20).n; have := hR.rl; omega) (by decide)
   refine ⟨⟨by rw [cell_put (held_on b21 hR20.blk)]; rfl, trivial⟩, ⟨cell1 lg21, trivial⟩, ⟨cell1 lg21, trivial⟩, rows'.a, rows'.n, rows'.c, w22, hrun, ?_⟩
   have kp : ∀ {k : Nat} {o : Obj}, w20.heap[k]? = some o → rows.v.ownBlock ≠ some k → w22.heap[k]? = some o := fun {k o} h hne => (hk22 k (Array.getElem?_eq_some_iff.1 h).1 hne).trans h
   have lg22 := kp lg20 (row_ne_blk or20 lg20 (by decide))
   have x22 := kp x20 (row_ne_blk or20 x20 (by decide))
   have y22 := kp y20 (row_ne_blk or20 y20 (by decide))
   have g22 := kp hR20.blk (row_ne_blk or20 hR20.blk (by decide))
   have B22 := hB22 w20 (Below.refl _ _)
   have hV22 := hV20.growE B22 hvl or20 (by decide) hk22
   have t22 : Touch v w w22 := (t19.trans t20).then_off B22 (Nat.le_refl _)
   refine ⟨⟨cell1 lg22, trivial⟩, NilC.mk _ rfl ⟨rfl, ⟨_, by rw [cell_put g22]; rfl⟩, frozen_put g22, ?_⟩⟩
   intro w23 hw23
   have hs23 : ∀ j, j ≠ w5.heap.size → w23.heap[j]? = w22.heap[j]? := by
    intro j hj
    subst hw23
    exact heap_setCell_ne (by rw [add_block]; exact hj)
   have same : ∀ {B sz n : Nat} {e : TypeId} {u : Value} {xs : List Value}, w20.ownsRow B e sz u n xs → e ≠ tRow → e ≠ tGrid → w23.ownsRow B e sz u n xs := by
    intro B sz n e u xs h h1 h2
    refine own_same h fun k hk => ?_
    rw [hs23 k fun e => row_ne_blk h hR20.blk h2 (by rw [hk, e])]
    exact hk22 k (own_lt h k hk).2 (row_ne_row h or20 h1 k hk)
   have own23 : w23.ownsRow w.heap.size tRow 1 rows'.v rows'.n ((rs ++ [r]).flatMap encS) := own_same own22 fun k hk => hs23 k fun e => row_ne_blk own22 g22 (by decide) (by rw [hk, e])
   refine Ar.nat (i + 1) rfl (by omega) (ih w23 ⟨rows', rs ++ [r], ?_, own23, ?_, ?_, (hs23 _ (by omega)).trans lg22, (hs23 _ (by omega)).trans x22, (hs23 _ (by omega)).trans y22⟩)
   ·refine ⟨by subst hw23; exact heap_put g22 _, same hR20.oi (by decide) (by decide), ?_, own_base own23 (Nat.zero_le _), by have := hR.rl; simp; omega, ?_, same hR20.oal (by decide) (by decide)⟩
    ·exact hR20.map.same ((hs23 _ (by omega)).trans (hk22 _ hR20.map.lt (own_ne_map or20 hR20.map)))
    ·intro j r' hj
     have hrl := hR.rl
     by_cases h : j < rs.length
     ·rw [List.getElem?_append_left h] at hj
      exact same (hR20.each j r' hj) (by decide) (by decide)
     ·have hji : j = i := by
       have := (List.getElem?_eq_some_iff.1 hj).1
       simp at this
       omega
      subst hji
      rw [List.getElem?_append_right (by omega), hrl, Nat.sub_self] at hj
      cases hj
      exact same (own_base orw (Nat.zero_le _)) (by decide) (by decide)
   ·subst hw23; exact hV22.put g22 (by decide) (by omega) _
   ·subst hw23; exact t22.put (by omega) _
  ·rintro z ⟨rows, rs, hR, orow, hVz, tz, lgz, xz, yz⟩
   rw [hn] at hR
   refine hI2 _ _ (CondP.no (by simp; omega) ⟨_, cell1 lgz, hVz, tz, ?_⟩)
   rw [if_neg (by have := hm; rw [hn] at *; omega)]
   exact ⟨w5.heap.size, rfl, ⟨ids, rows, al, w4.heap.size, rs, hR⟩, by omega⟩
def s1 (x : Nat) : Nat := (x / 2 &&& 6148914691236517205) + (x &&& 6148914691236517205)
def s2 (x : Nat) : Nat := (x / 4 &&& 3689348814741910323) + (x &&& 3689348814741910323)
def s3 (x : Nat) : Nat := x / 16 + x
def s4 (x : Nat) : Nat := (x &&& 1085102592571150095) + (x &&& 1085102592571150095) / 256
def s5 (x : Nat) : Nat := x + x / 65536
theorem sh_k (x k : Nat) (hk : k ≤ 64) : Int.fdiv (x : Int) (2 ^ (min (k : Int).toNat (IntKind.bits .u64))) = ((x / 2 ^ k : Nat) : Int) := by
 show Int.fdiv (x : Int) (2 ^ (min k 64)) = _
 rw [Nat.min_eq_left hk, Int.fdiv_eq_ediv_of_nonneg _ (Int.pow_nonneg (by decide))]
 simp
theorem and_m (x m : Nat) (hx : x < 2 ^ 64) (hm : m < 2 ^ 64) : IntKind.wrap .u64 ((BitVec.ofInt (IntKind.bits .u64) (x : Int) &&& BitVec.ofInt (IntKind.bits .u64) (m : Int)).toNat : Int) = ((x &&& m : Nat) : Int) := by
 show IntKind.wrap .u64 ((BitVec.ofInt 64 (x : Int) &&& BitVec.ofInt 64 (m : Int)).toNat : Int) = _
 rw [BitVec.toNat_and, ofInt_nat _ hx, ofInt_nat _ hm]
 exact wrap_u64 _ (Nat.lt_of_le_of_lt Nat.and_le_left hx)
abbrev GrIs (w : World) (g : Nat) (s : SpecV) (T : List Ent) : Prop := GridIs w g (gids s T) (alB s T) (relB s T)
def plc (s : SpecV) (T : List Ent) (id : Int) : Option Nat := (gids s T).idxOf? id
theorem idxOf_some {l : List Int} {a : Int} {i : Nat} (h : l.idxOf? a = some i) : ∃ h : i < l.length, l[i] = a := by
 have := List.findIdx?_eq_some_iff_getElem.1 h
 obtain ⟨h1, h2, _⟩ := this
 exact ⟨h1, by simpa using h2⟩
theorem plc_some {s : SpecV} {T : List Ent} {id : Int} {i : Nat} (h : plc s T id = some i) : i < (gids s T).length ∧ (gids s T).getD i 0 = id ∧ hasV2 s T id = true := by
 obtain ⟨h1, h2⟩ := idxOf_some h
 exact ⟨h1, by rw [getD_of h1]; exact h2, (gids_has s T id).1 (by rw [← h2]; exact List.getElem_mem h1)⟩
theorem plc_none {s : SpecV} {T : List Ent} {id : Int} (h : plc s T id = none) : hasV2 s T id = false := by
 have h1 := List.idxOf?_eq_none_iff.1 h
 cases hh : hasV2 s T id with
 | false => rfl
 | true => exact absurd ((gids_has s T id).2 hh) h1
theorem plc_has {s : SpecV} {T : List Ent} (id : Int) : (plc s T id).isSome = hasV2 s T id := by
 cases h : plc s T id with
 | none => exact (plc_none h).symm
 | some i => exact (plc_some h).2.2.symm
def gAl (s : SpecV) (T : List Ent) (id : Int) : Bool := hasV2 s T id && decide ((vocOf s T).Canon [id])
def gHas (s : SpecV) (T : List Ent) (a b : Int) : Bool := hasV2 s T a && hasV2 s T b && decide ((vocOf s T).Canon [a, b])
theorem infoI : (Tryz.prog.info? tInt).map (·.zero) = some (some (.int .i64 0)) := by kernel_rfl
theorem gPlace_spec (w : World) (g : Nat) (s : SpecV) (T : List Ent) (h : GrIs w g s T) (id : Int) :
  CP 41 #[.pointer (some ⟨g, 0, none⟩), .int .i64 id] w fun e w' => e = .returned (.tuple #[.int .i64 (((plc s T id).getD 0 : Nat) : Int), .bool (plc s T id).isSome]) ∧ w' = w := by
 refine calls_ret (vc41_calls (some ⟨g, 0, none⟩) id w (fun u w' => u = .tuple #[.int .i64 (((plc s T id).getD 0 : Nat) : Int), .bool (plc s T id).isSome] ∧ w' = w) ?_) (by rintro v w' ⟨rfl, h⟩; exact ⟨rfl, h⟩)
 obtain ⟨ids, rows, alone, mb, rs, hR⟩ := h
 refine CondP.no rfl (NilC.mk _ rfl ⟨some mb, by rw [cell_put hR.blk]; rfl, ?_⟩)
 have hl := run_look keysI undMapI infoI hR.map id
 rw [look_gmap] at hl
 have e : ((((gids s T).idxOf? id).map fun i : Nat => Value.int .i64 (i : Int)).getD (.int .i64 0)) = .int .i64 (((plc s T id).getD 0 : Nat) : Int) := by
  show _ = Value.int .i64 ((((gids s T).idxOf? id).getD 0 : Nat) : Int)
  cases (gids s T).idxOf? id <;> rfl
 rw [e, Option.isSome_map] at hl
 exact ⟨_, _, w, hl, rfl, rfl⟩
theorem gAlone_spec (w : World) (g : Nat) (s : SpecV) (T : List Ent) (h : GrIs w g s T) (hn : (gids s T).length ≤ 1032) (id : Int) :
  CP 32 #[.pointer (some ⟨g, 0, none⟩), .int .i64 id] w fun e w' => e = .returned (.bool (gAl s T id)) ∧ w' = w := by
 refine calls_ret (vc32_calls (some ⟨g, 0, none⟩) id w (fun u w' => u = .bool (gAl s T id) ∧ w' = w) ?_) (by rintro v w' ⟨rfl, h⟩; exact ⟨rfl, h⟩)
 refine (gPlace_spec w g s T h id).mono ?_
 rintro e w1 ⟨rfl, rfl⟩
 obtain ⟨ids, rows, alone, mb, rs, hR⟩ := h
 refine ⟨_, _, rfl, CondP.mk (fun h1 => ?_) fun h1 => ⟨?_, rfl⟩⟩
 ·obtain ⟨i, hi⟩ := Option.isSome_iff_exists.1 h1
  obtain ⟨hi1, hi2, hi3⟩ := plc_some hi
  have al1 := LsAt.of_own elU64 hR.oal
  refine NilC.mk _ rfl ⟨alone.a, alone.n, alone.c, by rw [cell_put hR.blk]; rfl, ?_⟩
  rw [hi]
  refine (rowHas_spec w1 alone.a alone.n alone.c _ (alB s T) al1.r al1.n (by omega) i hi1).mono ?_
  rintro e w2 ⟨rfl, rfl⟩
  refine ⟨_, rfl, ?_, rfl⟩
  unfold gAl alB
  rw [hi2, hi3, Bool.true_and]
 ·rw [plc_has] at h1
  unfold gAl
  rw [h1, Bool.false_and]
theorem row_get {s : SpecV} {T : List Ent} {w : World} {g : Nat} {ids rows alone : Sl} {mb : Nat} {rs : List Sl} (hR : GridR w g (gids s T) (alB s T) (relB s T) ids rows alone mb rs (gids s T).length) (i : Nat) (hi : i < (gids s T).length) : ∃ (p : Addr) (r : Sl), rows.a = some p ∧ i < rows.n ∧ w.cell? (p.add (i * 1)) = some (.slice r.a r.n r.c) ∧ LsAt encU64 1 w r (wordsOf (gids s T).length (relB s T i)) := by
 have hls := LsAt.of_own elRow hR.orows
 have hl := hR.rl
 have hi2 : i < rs.length := by omega
 obtain ⟨p, hp, c0⟩ := cell_rw hls.r hi2 (v := rs[i].v) rfl
 exact ⟨p, rs[i], hp, by rw [hls.n]; exact hi2, c0, LsAt.of_own elU64 (hR.each i _ (List.getElem?_eq_getElem hi2))⟩
theorem gHas_spec (w : World) (g : Nat) (s : SpecV) (T : List Ent) (h : GrIs w g s T) (hn : (gids s T).length ≤ 1032) (a b : Int) :
  CP 33 #[.pointer (some ⟨g, 0, none⟩), .int .i64 a, .int .i64 b] w fun e w' => e = .returned (.bool (gHas s T a b)) ∧ w' = w := by
 refine calls_ret (vc33_calls (some ⟨g, 0, none⟩) a b w (fun u w' => u = .bool (gHas s T a b) ∧ w' = w) ?_) (by rintro v w' ⟨rfl, h⟩; exact ⟨rfl, h⟩)
 refine (gPlace_spec w g s T h a).mono ?_
 rintro e w1 ⟨rfl, rfl⟩
 refine ⟨_, _, rfl, (gPlace_spec w1 g s T h b).mono ?_⟩
 rintro e w2 ⟨rfl, rfl⟩
 obtain ⟨ids, rows, alone, mb, rs, hR⟩ := h
 refine ⟨_, _, rfl, CondP.mk (fun h1 => CondP.mk (fun h2 => ?_) fun h2 => ⟨?_, rfl⟩) fun h1 => ⟨?_, rfl⟩⟩
 ·obtain ⟨i, hi⟩ := Option.isSome_iff_exists.1 h1
  obtain ⟨hi1, hi2, hi3⟩ := plc_some hi
  obtain ⟨j, hj⟩ := Option.isSome_iff_exists.1 h2
  obtain ⟨hj1, hj2, hj3⟩ := plc_some hj
  obtain ⟨p, r, hp, hin, hc, hls⟩ := row_get hR i hi1
  rw [hi, hj]
  refine NilC.mk _ rfl ⟨rows.a, rows.n, rows.c, by rw [cell_put hR.blk]; rfl, NilC.mk p hp ⟨by omega, by show ((i : Nat) : Int) < _; omega, r.a, r.n, r.c, hc, ?_⟩⟩
  refine (rowHas_spec w2 r.a r.n r.c _ (relB s T i) hls.r hls.n (by omega) j hj1).mono ?_
  rintro e w2 ⟨rfl, rfl⟩
  refine ⟨_, rfl, ?_, rfl⟩
  unfold gHas relB
  rw [hi2, hi3, hj2, hj3, Bool.true_and, Bool.true_and]
 ·rw [plc_has] at h2
  unfold gHas
  rw [h2, Bool.and_false, Bool.false_and]
 ·rw [plc_has] at h1
  unfold gHas
  rw [h1, Bool.false_and, Bool.false_and]
theorem gSize_spec (w : World) (g : Nat) (s : SpecV) (T : List Ent) (h : GrIs w g s T) :
  CP 24 #[.pointer (some ⟨g, 0, none⟩)] w fun e w' => e = .returned (.int .i64 (((gids s T).length : Nat) : Int)) ∧ w' = w := by
 refine calls_ret (vc24_calls (some ⟨g, 0, none⟩) w (fun u w' => u = .int .i64 (((gids s T).length : Nat) : Int) ∧ w' = w) ?_) (by rintro v w' ⟨rfl, h⟩; exact ⟨rfl, h⟩)
 obtain ⟨ids, rows, alone, mb, rs, hR⟩ := h
 refine CondP.no rfl (NilC.mk _ rfl ⟨ids.a, ids.n, ids.c, by rw [cell_put hR.blk]; rfl, ?_, rfl⟩)
 rw [(LsAt.of_own elInt hR.oi).n]
theorem gId_spec (w : World) (g : Nat) (s : SpecV) (T : List Ent) (h : GrIs w g s T) (place : Int) :
  CP 25 #[.pointer (some ⟨g, 0, none⟩), .int .i64 place] w fun e w' => e = .returned (if 0 ≤ place ∧ place < ((gids s T).length : Int) then .tuple #[.int .i64 ((gids s T).getD place.toNat 0), .bool true] else .tuple #[.int .i64 0, .bool false]) ∧ w' = w := by
 refine calls_ret (vc25_calls (some ⟨g, 0, none⟩) place w (fun u w' => u = (if 0 ≤ place ∧ place < ((gids s T).length : Int) then .tuple #[.int .i64 ((gids s T).getD place.toNat 0), .bool true] else .tuple #[.int .i64 0, .bool false]) ∧ w' = w) ?_) (by rintro v w' ⟨rfl, h⟩; exact ⟨rfl, h⟩)
 refine CondP.mk (fun h1 => ⟨?_, rfl⟩) fun h1 => ?_
 ·rw [if_neg (by have := of_decide_eq_true h1; omega)]
 have h1 := of_decide_eq_false h1
 refine (gSize_spec w g s T h).mono ?_
 rintro e w1 ⟨rfl, rfl⟩
 refine ⟨_, rfl, CondP.mk (fun h2 => ⟨?_, rfl⟩) fun h2 => ?_⟩
 ·rw [if_neg (by have := of_decide_eq_true h2; omega)]
 have h2 := of_decide_eq_false h2
 obtain ⟨ids, rows, alone, mb, rs, hR⟩ := h
 obtain ⟨i, rfl⟩ : ∃ i : Nat, place = i := ⟨place.toNat, by omega⟩
 have hi : i < (gids s T).length := by omega
 have hls := LsAt.of_own elInt hR.oi
 obtain ⟨p, hp, c0⟩ := cell_rw hls.r hi rfl
 have := hls.n
 refine NilC.mk _ rfl ⟨ids.a, ids.n, ids.c, by rw [cell_put hR.blk]; rfl, NilC.mk p hp ⟨by omega, by omega, _, c0, ?_, rfl⟩⟩
 rw [if_pos ⟨by omega, by omega⟩]
 show _ = Value.tuple #[.int .i64 ((gids s T).getD i 0), .bool true]
 rw [getD_of hi]
theorem cloneR_spec (w : World) (a : Option Addr) (c : Nat) (xs : List Int) (hr : Rw encU64 1 w a xs) (hl : xs.length ≤ 1000000000) :
  CP 69 #[.slice a xs.length c] w fun e w' => ∃ s : Sl, e = .returned s.v ∧ s.n = xs.length ∧ w'.ownsRow w.heap.size tU64 1 s.v s.n (xs.flatMap encU64) ∧ Below w.heap.size w w' := by
 refine calls_ret (vc69_calls a xs.length c w (fun v w' => ∃ s : Sl, v = s.v ∧ s.n = xs.length ∧ w'.ownsRow w.heap.size tU64 1 s.v s.n (xs.flatMap encU64) ∧ Below w.heap.size w w') ?_) (by rintro v w' ⟨s, rfl, h⟩; exact ⟨s, rfl, h⟩)
 refine CondP.mk (fun h0 => ?_) fun h0 => ?_
 ·have hx : xs = [] := by
   cases xs with
   | nil => rfl
   | cons x t =>
    obtain ⟨p, hp, _⟩ := hr 0 x rfl
    rw [hp] at h0
    cases h0
  subst hx
  exact ⟨⟨none, 0, 0⟩, rfl, rfl, own_nil _ _ _ _, Below.refl _ _⟩
 ·obtain ⟨p, rfl⟩ : ∃ p, a = some p := by
   cases a with
   | none => cases h0
   | some p => exact ⟨p, rfl⟩
  intro w1 hw1
  obtain ⟨A, C, w2, h2, h3, h4⟩ := copy_row (enc := encU64) (sz := 1) (fun _ => rfl) (by decide) (fun x u hu => by rw [List.mem_singleton.1 hu]; rfl) tRow tU64 undRow infoU64 rfl w ⟨some p, xs.length, c⟩ xs (.inr ⟨p, rfl⟩) hr rfl (by simp only; omega) (by simp only; omega) w1 hw1
  exact ⟨A, xs.length, C, w2, h2, ⟨A, xs.length, C⟩, rfl, rfl, h3, h4⟩
theorem gRow_spec (w : World) (g : Nat) (s : SpecV) (T : List Ent) (h : GrIs w g s T) (hn : (gids s T).length ≤ 1032) (id : Int) :
  CP 31 #[.pointer (some ⟨g, 0, none⟩), .int .i64 id] w fun e w' => Below w.heap.size w w' ∧ ((plc s T id = none ∧ e = .returned (.slice none 0 0)) ∨ ∃ i l, plc s T id = some i ∧ e = .returned (Sl.v l) ∧ w'.ownsRow w.heap.size tU64 1 l.v l.n ((wordsOf (gids s T).length (relB s T i)).flatMap encU64)) := by
 refine calls_ret (vc31_calls (some ⟨g, 0, none⟩) id w (fun u w' => Below w.heap.size w w' ∧ ((plc s T id = none ∧ u = .slice none 0 0) ∨ ∃ i l, plc s T id = some i ∧ u = Sl.v l ∧ w'.ownsRow w.heap.size tU64 1 l.v l.n ((wordsOf (gids s T).length (relB s T i)).flatMap encU64))) ?_) (by rintro v w' ⟨h1, ⟨h2, rfl⟩ | ⟨i, l, h2, rfl, h3⟩⟩; exact ⟨h1, .inl ⟨h2, rfl⟩⟩; exact ⟨h1, .inr ⟨i, l, h2, rfl, h3⟩⟩)
 refine (gPlace_spec w g s T h id).mono ?_
 rintro e w1 ⟨rfl, rfl⟩
 obtain ⟨ids, rows, alone, mb, rs, hR⟩ := h
 refine ⟨_, _, rfl, CondP.mk (fun h1 => ⟨Below.refl _ _, .inl ⟨?_, rfl⟩⟩) fun h1 => ?_⟩
 ·cases hp : plc s T id with
  | none => rfl
  | some i => rw [hp] at h1; cases h1
 ·obtain ⟨i, hi⟩ := Option.isSome_iff_exists.1 (by simpa using h1)
  obtain ⟨hi1, hi2, hi3⟩ := plc_some hi
  obtain ⟨p, r, hp, hin, hc, hls⟩ := row_get hR i hi1
  rw [hi]
  refine NilC.mk _ rfl ⟨rows.a, rows.n, rows.c, by rw [cell_put hR.blk]; rfl, NilC.mk p hp ⟨by omega, by show ((i : Nat) : Int) < _; omega, r.a, r.n, r.c, hc, ?_⟩⟩
  rw [hls.n]
  refine (cloneR_spec w1 r.a r.c _ hls.r (by rw [wordsOf_length]; omega)).mono ?_
  rintro e w2 ⟨l, rfl, hl, ho, b2⟩
  exact ⟨l.a, l.n, l.c, rfl, b2, .inr ⟨i, l, rfl, rfl, ho⟩⟩
theorem has_iff2 {s : SpecV} {T : List Ent} (hok : TOk T) (t : Int) : hasV2 s T t = true ↔ (vocOf s T).Has t := by
 unfold hasV2
 rw [decide_eq_true_eq, tok_iff hok]
 exact Or.comm
def sAw : SpecV := { merges := [(97, 98)] }
def tAw : List Ent := begins ++ [([97, 98], (97, 98))]
theorem right_aw : sAw.right = true := by decide +kernel
theorem build_aw : buildV sAw = .ok tAw := by
 have h : (match buildV sAw with | .ok t => decide (t = tAw) | .error _ => false) = true := by decide +kernel
 cases hx : buildV sAw with
 | error q => rw [hx] at h; cases h
 | ok t => rw [hx] at h; rw [of_decide_eq_true h]
theorem specAt_aw (w w1 : World) (hw1 : w1 = w.alloc (.cells #[Value.int .i64 97, Value.int .i64 98] tMg)) : SpecAt w1 ⟨false, ⟨some (nb w), 1, 1⟩, ⟨none, 0, 0⟩, ⟨none, 0, 0⟩, ⟨none, 0, 0⟩, ⟨none, 0, 0⟩⟩ sAw := by
 have l1 : w1.heap[w.heap.size]? = some (.cells #[Value.int .i64 97, Value.int .i64 98] tMg (0, 0)) := by subst hw1; exact alloc_new _ _
 have none_ : ∀ {α : Type} {enc : α → List Value} {sz : Nat}, Rw enc sz w1 none [] := fun j x hj => by simp at hj
 refine ⟨rfl, rfl, fun j x hj => ?_, rfl, none_, rfl, none_, rfl, none_, rfl, none_⟩
 have hj0 : j = 0 := by
  have := (List.getElem?_eq_some_iff.1 hj).1
  simp [sAw] at this
  exact this
 subst hj0
 have hx : x = (97, 98) := by simpa [sAw] using hj.symm
 subst hx
 refine ⟨nb w, rfl, (Array.getElem?_eq_some_iff.1 l1).1, fun k v hk => ?_⟩
 rw [Nat.zero_mul, add_zero, ptr_add0 _ _ l1]
 match k, hk with
 | 0, hk => cases hk; rfl
 | 1, hk => cases hk; rfl
theorem gids_aw : (gids sAw tAw).length = 257 := by decide +kernel
theorem gids_few {w : World} {v : Nat} {y : RvW} {s : SpecV} {T : List Ent} (h : Both w v y s T) : (gids s T).length ≤ 1006 ∧ (((gids s T).length * (gids s T).length : Nat) : Int) ≤ 1048576 := by
 have h1 := h.now.ok.most
 have h2 := h.few
 have h3 := h.ids
 have hT : T.length ≤ 1000 := h1
 have hl : (gids s T).length ≤ 1006 := by rw [gids_length]; omega
 refine ⟨hl, ?_⟩
 have : (gids s T).length * (gids s T).length ≤ 1006 * 1006 := Nat.mul_le_mul hl hl
 omega
section
variable {κ : Type} [DecidableEq κ] (k : Nat → κ)
def firsts : Nat → List Nat
 | 0 => []
 | i + 1 => match (firsts i).findIdx? (fun a => decide (k a = k i)) with
  | some _ => firsts i
  | none => firsts i ++ [i]
def clsOf (i : Nat) : Nat := ((firsts k i).findIdx? (fun a => decide (k a = k i))).getD (firsts k i).length
variable {k}
theorem firsts_succ (i : Nat) : firsts k (i + 1) = match (firsts k i).findIdx? (fun a => decide (k a = k i)) with
  | some _ => firsts k i
  | none => firsts k i ++ [i] := rfl
theorem firsts_lt : ∀ {n : Nat} {a : Nat}, a ∈ firsts k n → a < n
 | 0, a, h => by cases h
 | n + 1, a, h => by
  unfold firsts at h
  split at h
  ·have := firsts_lt h; omega
  ·rcases List.mem_append.1 h with h | h
   ·have := firsts_lt h; omega
   ·rw [List.mem_singleton.1 h]; omega
theorem firsts_pre : ∀ {n : Nat} (d : Nat), ∃ t, firsts k (n + d) = firsts k n ++ t
 | n, 0 => ⟨[], by simp⟩
 | n, d + 1 => by
  obtain ⟨t, h⟩ := firsts_pre (n := n) d
  rw [← Nat.add_assoc, firsts]
  split
  ·exact ⟨t, h⟩
  ·exact ⟨t ++ [n + d], by rw [h, List.append_assoc]⟩
theorem firsts_inj : ∀ {n : Nat} (c c' : Nat) (h : c < (firsts k n).length) (h' : c' < (firsts k n).length), k (firsts k n)[c] = k (firsts k n)[c'] → c = c'
 | 0, c, c', h, _, _ => absurd h (Nat.not_lt_zero c)
 | n + 1, c, c', h, h', e => by
  have key : (firsts k (n + 1) = firsts k n) ∨ (firsts k (n + 1) = firsts k n ++ [n] ∧ ∀ a ∈ firsts k n, k a ≠ k n) := by
   rw [firsts_succ]
   split
   ·exact .inl rfl
   ·next hh =>
    refine .inr ⟨rfl, fun a ha => ?_⟩
    have := List.findIdx?_eq_none_iff.1 hh a ha
    simpa using this
  rcases key with hk | ⟨hk, hn⟩
  ·simp only [hk] at h h' e
   exact firsts_inj c c' h h' e
  ·simp only [hk] at h h' e
   rw [List.length_append, List.length_singleton] at h h'
   by_cases h1 : c < (firsts k n).length
   ·by_cases h2 : c' < (firsts k n).length
    ·rw [List.getElem_append_left h1, List.getElem_append_left h2] at e
     exact firsts_inj c c' h1 h2 e
    ·have : c' = (firsts k n).length := by omega
     subst this
     rw [List.getElem_append_left h1, List.getElem_append_right (Nat.le_refl _)] at e
     simp only [Nat.sub_self, List.getElem_singleton] at e
     exact absurd e (hn _ (List.getElem_mem h1))
   ·have : c = (firsts k n).length := by omega
    subst this
    by_cases h2 : c' < (firsts k n).length
    ·rw [List.getElem_append_left h2, List.getElem_append_right (Nat.le_refl _)] at e
     simp only [Nat.sub_self, List.getElem_singleton] at e
     exact absurd e.symm (hn _ (List.getElem_mem h2))
    ·omega
theorem firsts_step (i : Nat) : (∃ c, (firsts k i).findIdx? (fun a => decide (k a = k i)) = some c ∧ firsts k (i + 1) = firsts k i ∧ clsOf k i = c ∧ ∃ h : c < (firsts k i).length, k (firsts k i)[c] = k i) ∨ ((firsts k i).findIdx? (fun a => decide (k a = k i)) = none ∧ firsts k (i + 1) = firsts k i ++ [i] ∧ clsOf k i = (firsts k i).length ∧ ∀ a ∈ firsts k i, k a ≠ k i) := by
 cases h : (firsts k i).findIdx? (fun a => decide (k a = k i)) with
 | none =>
  refine .inr ⟨rfl, by rw [firsts, h], by rw [clsOf, h]; rfl, fun a ha => ?_⟩
  have := List.findIdx?_eq_none_iff.1 h a ha
  simpa using this
 | some c =>
  obtain ⟨h1, h2, _⟩ := List.findIdx?_eq_some_iff_getElem.1 h
  exact .inl ⟨c, rfl, by rw [firsts, h], by rw [clsOf, h]; rfl, h1, by simpa using h2⟩
theorem cls_next (i : Nat) : clsOf k i ≤ (firsts k i).length ∧ (firsts k (i + 1)).length = max (firsts k i).length (clsOf k i + 1) := by
 rcases firsts_step (k := k) i with ⟨c, _, h2, h3, h4, _⟩ | ⟨_, h2, h3, _⟩
 ·rw [h2, h3]; omega
 ·rw [h2, h3, List.length_append, List.length_singleton]; omega
theorem cls_in {n i : Nat} (hi : i < n) : ∃ h : clsOf k i < (firsts k n).length, k (firsts k n)[clsOf k i] = k i := by
 obtain ⟨t, ht⟩ := firsts_pre (k := k) (n := i + 1) (n - (i + 1))
 rw [show i + 1 + (n - (i + 1)) = n by omega] at ht
 have key : ∃ h : clsOf k i < (firsts k (i + 1)).length, k (firsts k (i + 1))[clsOf k i] = k i := by
  rcases firsts_step (k := k) i with ⟨c, _, h2, h3, h4, h5⟩ | ⟨_, h2, h3, _⟩
  ·simp only [h2, h3]; exact ⟨h4, h5⟩
  ·simp only [h2, h3]
   exact ⟨by simp, by simp⟩
 obtain ⟨h1, h2⟩ := key
 simp only [ht]
 exact ⟨by rw [List.length_append]; omega, by rw [List.getElem_append_left h1]; exact h2⟩
theorem cls_iff {n i j : Nat} (hi : i < n) (hj : j < n) : clsOf k i = clsOf k j ↔ k i = k j := by
 obtain ⟨h1, h2⟩ := cls_in (k := k) hi
 obtain ⟨h3, h4⟩ := cls_in (k := k) hj
 constructor
 ·intro e
  rw [← h2, ← h4]
  simp only [e]
 ·intro e
  exact firsts_inj _ _ h1 h3 (by rw [h2, h4, e])
end
open Go Go.Value
theorem wrap_u8 (z : Nat) : IntKind.wrap .u8 (z : Int) = (((UInt8.ofNat z).toNat : Nat) : Int) := by
 rw [UInt8.toNat_ofNat']
 unfold IntKind.wrap
 rw [if_neg (by rw [show IntKind.u8.signed = false from rfl, Bool.false_and]; exact Bool.false_ne_true)]
 rfl
def gN (s : SpecV) (T : List Ent) : Nat := (gids s T).length
abbrev RiseG (s : SpecV) (T : List Ent) : Prop := (gids s T).Pairwise (· < ·)
theorem plc_at {s : SpecV} {T : List Ent} (hr : RiseG s T) {i : Nat} (hi : i < gN s T) : plc s T ((gids s T).getD i 0) = some i := by
 unfold plc
 rw [getD_of hi]
 refine List.findIdx?_eq_some_iff_getElem.2 ⟨hi, by simp, fun j hj => ?_⟩
 have := List.pairwise_iff_getElem.1 hr j i (by unfold gN at hi; omega) hi hj
 simp
 omega
theorem has_at {s : SpecV} {T : List Ent} {i : Nat} (hi : i < gN s T) : hasV2 s T ((gids s T).getD i 0) = true := (gids_has s T _).1 (by rw [getD_of hi]; exact List.getElem_mem hi)
theorem gHas_at {s : SpecV} {T : List Ent} {a i : Nat} (ha : a < gN s T) (hi : i < gN s T) : gHas s T ((gids s T).getD a 0) ((gids s T).getD i 0) = relB s T a i := by
 unfold gHas relB
 rw [has_at ha, has_at hi, Bool.true_and, Bool.true_and]
theorem gAl_at {s : SpecV} {T : List Ent} {i : Nat} (hi : i < gN s T) : gAl s T ((gids s T).getD i 0) = alB s T i := by
 unfold gAl alB
 rw [has_at hi, Bool.true_and]
theorem gId_at (w : World) (g : Nat) (s : SpecV) (T : List Ent) (h : GrIs w g s T) (i : Nat) (hi : i < gN s T) :
  CP 25 #[.pointer (some ⟨g, 0, none⟩), .int .i64 (i : Int)] w fun e w' => e = .returned (.tuple #[.int .i64 ((gids s T).getD i 0), .bool true]) ∧ w' = w := by
 refine (gId_spec w g s T h i).mono ?_
 rintro e w1 ⟨rfl, hw⟩
 refine ⟨?_, hw⟩
 rw [if_pos ⟨by omega, by unfold gN at hi; omega⟩]
 rfl
abbrev tBools : TypeId := 72
abbrev tBoolss : TypeId := 71
theorem undBls : Tryz.prog.underlying tBools = some (.slice tBool) := by kernel_rfl
theorem undBlss : Tryz.prog.underlying tBoolss = some (.slice tBools) := by kernel_rfl
theorem infoBl : (Tryz.prog.info? tBool).map (fun i => (i.zero, i.size, i.bytes)) = some (some (.bool false), 1, 1) := by kernel_rfl
theorem infoBls : (Tryz.prog.info? tBools).map (fun i => (i.zero, i.size, i.bytes)) = some (some (.slice none 0 0), 1, 24) := by kernel_rfl
theorem elBl : ElT encB1 1 tBools tBool 1 := ⟨fun _ => rfl, by decide, fun x u hu => by rw [List.mem_singleton.1 hu]; rfl, undBls, _, infoBl, rfl⟩
theorem elBls : ElT encS 1 tBoolss tBools 24 := ⟨fun _ => rfl, by decide, fun x u hu => by rw [List.mem_singleton.1 hu]; rfl, undBlss, _, infoBls, rfl⟩
abbrev V0 : Voc := vocOf sAw tAw
theorem aw_ms : V0.ms = [(97, 98)] := by decide +kernel
theorem aw_ex : ∀ i : Nat, i < 256 → V0.ex (i : Int) = [(i : Int)] := by decide +kernel
theorem aw_ex2 : V0.ex 256 = [97, 98] := by decide +kernel
theorem aw_cut (x y : Int) (hx : 0 ≤ x) (hy : 0 ≤ y) : V0.cut x y = false := by
 unfold Voc.cut
 rw [decide_eq_false (by omega), decide_eq_false (by omega), Bool.false_or, Bool.false_or]
 show cutB [] [] x y = false
 unfold cutB
 exact decide_eq_false fun e => e.1 rfl
theorem aw_chop : ∀ Z : List Int, Z ≠ [] → (∀ x ∈ Z, 0 ≤ x) → chop V0.cut Z = [Z]
 | [], h, _ => absurd rfl h
 | [x], _, _ => rfl
 | x :: y :: r, _, h => by
  have hx := h x (by simp)
  have hy := h y (by simp)
  rw [chop, if_neg (by rw [aw_cut x y hx hy]; exact Bool.false_ne_true), aw_chop (y :: r) (by simp) fun z hz => h z (List.mem_cons_of_mem _ hz)]
theorem aw_enc (Z : List Int) (h : Z ≠ []) (h0 : ∀ x ∈ Z, 0 ≤ x) : V0.encode Z = pass 97 98 256 Z := by
 unfold Voc.encode
 rw [aw_chop Z h h0, List.flatMap_cons, List.flatMap_nil, List.append_nil]
 cases Z with
 | nil => exact absurd rfl h
 | cons x r =>
  have := h0 x List.mem_cons_self
  show (if x < 0 then _ else after V0.ms V0.ms.length (x :: r)) = _
  rw [if_neg (by omega), aw_ms]
  rfl
theorem aw_items (t : Int) : V0.items t = V0.ex t := rfl
theorem aw_gid {i : Nat} (hi : i < 257) : (gids sAw tAw).getD i 0 = (i : Int) := by
 have h : ∀ i : Nat, i < 257 → (gids sAw tAw).getD i 0 = (i : Int) := by decide +kernel
 exact h i hi
theorem aw_ex3 {i : Nat} (hi : i < 257) : (i = 256 ∧ V0.ex (i : Int) = [97, 98]) ∨ (i < 256 ∧ V0.ex (i : Int) = [(i : Int)]) := by
 by_cases e : i = 256
 ·subst e; exact .inl ⟨rfl, aw_ex2⟩
 ·exact .inr ⟨by omega, aw_ex i (by omega)⟩
theorem rel_aw {i j : Nat} (hi : i < 257) (hj : j < 257) : relB sAw tAw i j = !(decide (i = 97) && decide (j = 98)) := by
 unfold relB
 rw [aw_gid hi, aw_gid hj]
 have e : (V0.Canon [(i : Int), (j : Int)]) ↔ pass 97 98 256 (V0.ex (i : Int) ++ V0.ex (j : Int)) = [(i : Int), (j : Int)] := by
  unfold Voc.Canon Voc.itemsAll
  simp only [List.flatMap_cons, List.flatMap_nil, List.append_nil, aw_items]
  rw [aw_enc]
  ·rcases aw_ex3 hi with ⟨_, h⟩ | ⟨_, h⟩ <;> rw [h] <;> simp
  ·intro x hx
   rcases aw_ex3 hi with ⟨_, h⟩ | ⟨_, h⟩ <;> rcases aw_ex3 hj with ⟨_, h'⟩ | ⟨_, h'⟩ <;> rw [h, h'] at hx <;> simp at hx <;> omega
 rw [Bool.eq_iff_iff, decide_eq_true_iff, e]
 rcases aw_ex3 hi with ⟨rfl, h⟩ | ⟨h1, h⟩ <;> rcases aw_ex3 hj with ⟨rfl, h'⟩ | ⟨h2, h'⟩ <;> simp only [h, h']
 ·decide
 ·have : pass 97 98 256 ([97, 98] ++ [(j : Int)]) = [256, (j : Int)] := by simp [pass]
  rw [this]
  simp
 ·have : pass 97 98 256 ([(i : Int)] ++ [97, 98]) = [(i : Int), 256] := by
   show pass 97 98 256 ((i : Int) :: 97 :: [98]) = _
   rw [pass_no _ (by omega), pass_yes]
   rfl
  rw [this]
  simp
 ·by_cases e1 : i = 97 ∧ j = 98
  ·obtain ⟨rfl, rfl⟩ := e1
   decide
  ·have : pass 97 98 256 ([(i : Int)] ++ [(j : Int)]) = [(i : Int), (j : Int)] := by
    show pass 97 98 256 ((i : Int) :: (j : Int) :: []) = _
    rw [pass_no _ (by omega)]
    rfl
   rw [this]
   have : (decide (i = 97) && decide (j = 98)) = false := by
    rw [← Bool.decide_and]
    exact decide_eq_false e1
   rw [this]
   simp
theorem al_aw {i : Nat} (hi : i < 257) : alB sAw tAw i = true := by
 unfold alB
 rw [aw_gid hi]
 refine decide_eq_true ?_
 show V0.encode (V0.itemsAll [(i : Int)]) = [(i : Int)]
 unfold Voc.itemsAll
 simp only [List.flatMap_cons, List.flatMap_nil, List.append_nil, aw_items]
 rcases aw_ex3 hi with ⟨rfl, h⟩ | ⟨h1, h⟩
 ·rw [h, aw_enc _ (by simp) (by intro x hx; simp at hx; omega)]
  rfl
 ·rw [h, aw_enc _ (by simp) (by intro x hx; simp at hx; omega)]
  rfl
theorem gN_aw : gN sAw tAw = 257 := gids_aw
theorem rise_aw : RiseG sAw tAw := gids_rising List.Pairwise.nil (by intro y hy; cases hy)
theorem firsts_sub {κ κ' : Type} [DecidableEq κ] [DecidableEq κ'] {k : Nat → κ} {k' : Nat → κ'} : ∀ {N : Nat}, (∀ i j, i < N → j < N → k' i = k' j → k i = k j) → (firsts k N).Sublist (firsts k' N)
 | 0, _ => List.Sublist.refl _
 | N + 1, h => by
  have ih := firsts_sub (N := N) fun i j hi hj => h i j (by omega) (by omega)
  rcases firsts_step (k := k) N with ⟨c, _, h2, _, _⟩ | ⟨_, h2, _, h4⟩
  ·rw [h2]
   rcases firsts_step (k := k') N with ⟨c', _, g2, _, _⟩ | ⟨_, g2, _, _⟩
   ·rw [g2]; exact ih
   ·rw [g2]; exact ih.trans (List.sublist_append_left _ _)
  ·rw [h2]
   rcases firsts_step (k := k') N with ⟨c', _, g2, _, hc, e⟩ | ⟨_, g2, _, _⟩
   ·exfalso
    have hm := List.getElem_mem hc
    have hl := firsts_lt hm
    obtain ⟨q1, q2⟩ := cls_in (k := k) hl
    exact h4 _ (List.getElem_mem q1) (q2.trans (h _ _ (by omega) (by omega) e))
   ·rw [g2]; exact ih.append (List.Sublist.refl _)
theorem firsts_le {κ : Type} [DecidableEq κ] (k : Nat → κ) : ∀ i, (firsts k i).length ≤ i
 | 0 => Nat.le_refl _
 | i + 1 => by
  have h1 := cls_next (k := k) i
  have h2 := firsts_le k i
  omega
theorem same_kernel {κ κ' : Type} [DecidableEq κ] [DecidableEq κ'] {k : Nat → κ} {k' : Nat → κ'} {N : Nat} (h : ∀ i j, i < N → j < N → k' i = k' j → k i = k j) (hl : (firsts k' N).length = (firsts k N).length) {i j : Nat} (hi : i < N) (hj : j < N) : k i = k j → k' i = k' j := by
 have e := (firsts_sub h).eq_of_length hl.symm
 intro hk
 obtain ⟨i1, i2⟩ := cls_in (k := k') hi
 obtain ⟨j1, j2⟩ := cls_in (k := k') hj
 have mi := firsts_lt (List.getElem_mem i1)
 have mj := firsts_lt (List.getElem_mem j1)
 have ki := h _ _ mi hi i2
 have kj := h _ _ mj hj j2
 have : clsOf k' i = clsOf k' j := firsts_inj (k := k) _ _ (by rw [e]; exact i1) (by rw [e]; exact j1) (by simp only [e]; rw [ki, kj, hk])
 rw [← i2, ← j2]
 simp only [this]
def num2 (x : Nat) : List UInt8 := [UInt8.ofNat x, UInt8.ofNat (x / 256)]
theorem num2_inj {x y : Nat} (hx : x < 65536) (hy : y < 65536) (h : num2 x = num2 y) : x = y := by
 unfold num2 at h
 simp only [List.cons.injEq, and_true] at h
 have a := congrArg UInt8.toNat h.1
 have b := congrArg UInt8.toNat h.2
 simp only [UInt8.toNat_ofNat'] at a b
 omega
theorem nums_inj : ∀ {l m : List Nat}, l.length = m.length → (∀ x ∈ l, x < 65536) → (∀ x ∈ m, x < 65536) → l.flatMap num2 = m.flatMap num2 → l = m
 | [], [], _, _, _, _ => rfl
 | x :: l, y :: m, hl, h1, h2, h => by
  have e : num2 x ++ l.flatMap num2 = num2 y ++ m.flatMap num2 := h
  have := List.append_inj e rfl
  rw [num2_inj (h1 x List.mem_cons_self) (h2 y List.mem_cons_self) this.1, nums_inj (by simpa using hl) (fun z hz => h1 z (List.mem_cons_of_mem _ hz)) (fun z hz => h2 z (List.mem_cons_of_mem _ hz)) this.2]
structure Aut where
 N : Nat
 n : Nat
 nxt : Nat → Nat → Nat
 good : Nat → Bool
structure Aut.Ok (M : Aut) : Prop where
 lt : ∀ i k, i < M.N → k < M.n → M.nxt i k < M.N
 pos : 0 < M.N
 few : M.N ≤ 60000
namespace Aut
variable (M : Aut)
def keyT (of : Nat → Nat) (i : Nat) : List UInt8 := num2 (of i) ++ ((List.range M.n).map fun k => of (M.nxt i k)).flatMap num2
def ofR : Nat → Nat → Nat
 | 0 => clsOf M.good
 | r + 1 => clsOf (M.keyT (ofR r))
def cntR : Nat → Nat
 | 0 => (firsts M.good M.N).length
 | r + 1 => (firsts (M.keyT (M.ofR r)) M.N).length
variable {M}
theorem keyT_iff {of : Nat → Nat} (h : ∀ i, i < M.N → of i < 65536) (hM : M.Ok) {i j : Nat} (hi : i < M.N) (hj : j < M.N) : M.keyT of i = M.keyT of j ↔ of i = of j ∧ ∀ k, k < M.n → of (M.nxt i k) = of (M.nxt j k) := by
 constructor
 ·intro e
  have e : num2 (of i) ++ _ = num2 (of j) ++ _ := e
  have := List.append_inj e rfl
  refine ⟨num2_inj (h i hi) (h j hj) this.1, fun k hk => ?_⟩
  have l := nums_inj (by simp) (by intro x hx; obtain ⟨k, hk, rfl⟩ := List.mem_map.1 hx; exact h _ (hM.lt _ _ hi (List.mem_range.1 hk))) (by intro x hx; obtain ⟨k, hk, rfl⟩ := List.mem_map.1 hx; exact h _ (hM.lt _ _ hj (List.mem_range.1 hk))) this.2
  have := congrArg (fun l => l[k]?) l
  simpa [List.getElem?_range hk] using this
 ·rintro ⟨h1, h2⟩
  unfold keyT
  rw [h1]
  congr 2
  apply List.map_congr_left
  intro k hk
  exact h2 k (List.mem_range.1 hk)
theorem cls_lt {κ : Type} [DecidableEq κ] (k : Nat → κ) (i : Nat) : clsOf k i ≤ i := Nat.le_trans (cls_next (k := k) i).1 (firsts_le k i)
theorem ofR_lt (hM : M.Ok) (r : Nat) {i : Nat} (hi : i < M.N) : M.ofR r i < 60000 := by
 have := hM.few
 cases r with
 | zero => have := cls_lt M.good i; unfold ofR; omega
 | succ r => have := cls_lt (M.keyT (M.ofR r)) i; unfold ofR; omega
theorem ofR_iff (hM : M.Ok) (r : Nat) {i j : Nat} (hi : i < M.N) (hj : j < M.N) : M.ofR (r + 1) i = M.ofR (r + 1) j ↔ M.ofR r i = M.ofR r j ∧ ∀ k, k < M.n → M.ofR r (M.nxt i k) = M.ofR r (M.nxt j k) := by
 rw [← keyT_iff (fun i hi => by have := ofR_lt hM r hi; omega) hM hi hj]
 exact cls_iff hi hj
theorem of0_iff {i j : Nat} (hi : i < M.N) (hj : j < M.N) : M.ofR 0 i = M.ofR 0 j ↔ M.good i = M.good j := cls_iff hi hj
theorem ofR_good (hM : M.Ok) : ∀ (r : Nat) {i j : Nat} (hi : i < M.N) (hj : j < M.N), M.ofR r i = M.ofR r j → M.good i = M.good j
 | 0, i, j, hi, hj, h => (of0_iff hi hj).1 h
 | r + 1, i, j, hi, hj, h => ofR_good hM r hi hj ((ofR_iff hM r hi hj).1 h).1
theorem cntR_le (r : Nat) : M.cntR r ≤ M.N := by
 cases r with
 | zero => exact firsts_le _ _
 | succ r => exact firsts_le _ _
theorem cntR_key (r : Nat) : ∃ (κ : Type) (_ : DecidableEq κ) (k : Nat → κ), M.ofR r = clsOf k ∧ M.cntR r = (firsts k M.N).length := by
 cases r with
 | zero => exact ⟨Bool, inferInstance, M.good, rfl, rfl⟩
 | succ r => exact ⟨List UInt8, inferInstance, M.keyT (M.ofR r), rfl, rfl⟩
theorem firsts_cls {κ : Type} [DecidableEq κ] {k : Nat → κ} {N : Nat} : (firsts (clsOf k) N) = firsts k N := by
 have sub : ∀ {κ κ' : Type} [DecidableEq κ] [DecidableEq κ'] {k : Nat → κ} {k' : Nat → κ'}, (∀ i j, i < N → j < N → k' i = k' j → k i = k j) → (firsts k N).Sublist (firsts k' N) := fun h => firsts_sub h
 have a := sub (k := clsOf k) (k' := k) fun i j hi hj e => (cls_iff (k := k) hi hj).2 e
 have b := sub (k := k) (k' := clsOf k) fun i j hi hj e => (cls_iff (k := k) hi hj).1 e
 exact a.eq_of_length (Nat.le_antisymm a.length_le b.length_le)
theorem cntR_of (r : Nat) : M.cntR r = (firsts (M.ofR r) M.N).length := by
 obtain ⟨κ, _, k, h1, h2⟩ := cntR_key (M := M) r
 rw [h2, h1, firsts_cls]
theorem cntR_mono (hM : M.Ok) (r : Nat) : M.cntR r ≤ M.cntR (r + 1) := by
 rw [cntR_of, cntR_of]
 exact (firsts_sub fun i j hi hj h => ((ofR_iff hM r hi hj).1 h).1).length_le
theorem ofR_stay (hM : M.Ok) {r : Nat} (h : M.cntR (r + 1) = M.cntR r) {i j : Nat} (hi : i < M.N) (hj : j < M.N) : M.ofR r i = M.ofR r j → M.ofR (r + 1) i = M.ofR (r + 1) j := by
 rw [cntR_of, cntR_of] at h
 exact same_kernel (fun i j hi hj h => ((ofR_iff hM r hi hj).1 h).1) h hi hj
structure Bis (M : Aut) (R : Nat → Nat → Prop) : Prop where
 good : ∀ i j, i < M.N → j < M.N → R i j → M.good i = M.good j
 next : ∀ i j k, i < M.N → j < M.N → k < M.n → R i j → R (M.nxt i k) (M.nxt j k)
theorem ofR_coarse (hM : M.Ok) {R : Nat → Nat → Prop} (hR : Bis M R) : ∀ (r : Nat) {i j : Nat} (hi : i < M.N) (hj : j < M.N), R i j → M.ofR r i = M.ofR r j
 | 0, i, j, hi, hj, h => (of0_iff hi hj).2 (hR.good i j hi hj h)
 | r + 1, i, j, hi, hj, h => (ofR_iff hM r hi hj).2 ⟨ofR_coarse hM hR r hi hj h, fun k hk => ofR_coarse hM hR r (hM.lt _ _ hi hk) (hM.lt _ _ hj hk) (hR.next i j k hi hj hk h)⟩
structure Cls (M : Aut) (of : Nat → Nat) : Prop where
 lt : ∀ i, i < M.N → of i < M.N
 bis : Bis M fun i j => of i = of j
 coarse : ∀ R, Bis M R → ∀ i j, i < M.N → j < M.N → R i j → of i = of j
theorem cls_done (hM : M.Ok) {r : Nat} (h : M.cntR (r + 1) = M.cntR r) : Cls M (M.ofR (r + 1)) := by
 refine ⟨fun i hi => Nat.lt_of_le_of_lt (cls_lt _ _) hi, ⟨fun i j hi hj e => ofR_good hM _ hi hj e, fun i j k hi hj hk e => ?_⟩, fun R hR i j hi hj e => ofR_coarse hM hR _ hi hj e⟩
 exact ofR_stay hM h (hM.lt _ _ hi hk) (hM.lt _ _ hj hk) (((ofR_iff hM r hi hj).1 e).2 k hk)
def visit (of : Nat → Nat) (l : List Nat) (x : Nat) : List Nat := if of x ∈ l.map of then l else l ++ [x]
def scan (M : Aut) (of : Nat → Nat) (l : List Nat) (s : Nat) : Nat → List Nat
 | 0 => l
 | k + 1 => visit of (scan M of l s k) (M.nxt s k)
def metF (M : Aut) (of : Nat → Nat) : Nat → List Nat
 | 0 => [0]
 | i + 1 => match (metF M of i)[i]? with
  | some s => scan M of (metF M of i) s M.n
  | none => metF M of i
inductive Reach (M : Aut) : Nat → Prop
 | zero : Reach M 0
 | next {i k : Nat} : Reach M i → k < M.n → Reach M (M.nxt i k)
structure Mid (M : Aut) (of : Nat → Nat) (l : List Nat) : Prop where
 nodup : (l.map of).Nodup
 lt : ∀ x ∈ l, x < M.N
 reach : ∀ x ∈ l, Reach M x
 zero : l[0]? = some 0
theorem visit_pre (of : Nat → Nat) (l : List Nat) (x : Nat) : l <+: visit of l x := by
 unfold visit
 split
 ·exact List.prefix_refl _
 ·exact List.prefix_append _ _
theorem visit_in (of : Nat → Nat) (l : List Nat) (x : Nat) : of x ∈ (visit of l x).map of := by
 unfold visit
 split
 ·assumption
 ·simp
theorem Mid.visit {of : Nat → Nat} {l : List Nat} (h : Mid M of l) {x : Nat} (hx : x < M.N) (hr : Reach M x) : Mid M of (visit of l x) := by
 unfold Aut.visit
 split
 ·exact h
 ·next hn =>
  refine ⟨?_, ?_, ?_, ?_⟩
  ·rw [List.map_append, List.nodup_append]
   refine ⟨h.nodup, by simp, ?_⟩
   intro a ha b hb e
   simp at hb
   subst hb
   subst e
   exact hn ha
  ·intro y hy
   rcases List.mem_append.1 hy with hy | hy
   ·exact h.lt y hy
   ·rw [List.mem_singleton.1 hy]; exact hx
  ·intro y hy
   rcases List.mem_append.1 hy with hy | hy
   ·exact h.reach y hy
   ·rw [List.mem_singleton.1 hy]; exact hr
  ·have := h.zero
   have hl := (List.getElem?_eq_some_iff.1 this).1
   rw [List.getElem?_append_left hl]
   exact this
theorem scan_pre (of : Nat → Nat) (l : List Nat) (s : Nat) : ∀ k, l <+: scan M of l s k
 | 0 => List.prefix_refl _
 | k + 1 => (scan_pre of l s k).trans (visit_pre _ _ _)
theorem scan_mono (of : Nat → Nat) (l : List Nat) (s k : Nat) : ∀ d, scan M of l s k <+: scan M of l s (k + d)
 | 0 => List.prefix_refl _
 | d + 1 => (scan_mono of l s k d).trans (visit_pre _ _ _)
theorem pre_map {of : Nat → Nat} {l m : List Nat} (h : l <+: m) {x : Nat} (hx : x ∈ l.map of) : x ∈ m.map of := by
 obtain ⟨t, rfl⟩ := h
 rw [List.map_append]
 exact List.mem_append_left _ hx
theorem scan_hit (of : Nat → Nat) (l : List Nat) (s : Nat) {k n : Nat} (hk : k < n) : of (M.nxt s k) ∈ (scan M of l s n).map of := by
 have := scan_mono (M := M) of l s (k + 1) (n - (k + 1))
 rw [show k + 1 + (n - (k + 1)) = n by omega] at this
 exact pre_map this (visit_in of _ _)
theorem Mid.scan (hM : M.Ok) {of : Nat → Nat} {l : List Nat} (h : Mid M of l) {s : Nat} (hs : s ∈ l) : ∀ {k : Nat}, k ≤ M.n → Mid M of (scan M of l s k)
 | 0, _ => h
 | k + 1, hk => (Mid.scan hM h hs (k := k) (by omega)).visit (hM.lt _ _ (h.lt s hs) (by omega)) (.next (h.reach s hs) (by omega))
theorem metF_pre (of : Nat → Nat) (i : Nat) : metF M of i <+: metF M of (i + 1) := by
 rw [metF]
 split
 ·exact scan_pre _ _ _ _
 ·exact List.prefix_refl _
theorem metF_mono (of : Nat → Nat) (i : Nat) : ∀ d, metF M of i <+: metF M of (i + d)
 | 0 => List.prefix_refl _
 | d + 1 => (metF_mono of i d).trans (metF_pre _ _)
theorem metF_mid (hM : M.Ok) (of : Nat → Nat) : ∀ i, Mid M of (metF M of i)
 | 0 => ⟨by simp [metF], by intro x hx; simp [metF] at hx; subst hx; exact hM.pos, by intro x hx; simp [metF] at hx; subst hx; exact .zero, rfl⟩
 | i + 1 => by
  rw [metF]
  split
  ·next s hs => exact (metF_mid hM of i).scan hM (List.mem_of_getElem? hs) (Nat.le_refl _)
  ·exact metF_mid hM of i
theorem metF_in (of : Nat → Nat) : ∀ {i j s : Nat}, j < i → (metF M of i)[j]? = some s → ∀ {k}, k < M.n → of (M.nxt s k) ∈ (metF M of i).map of
 | 0, _, _, h, _, _, _ => absurd h (Nat.not_lt_zero _)
 | i + 1, j, s, hj, hs, k, hk => by
  by_cases e : j < (metF M of i).length
  ·have hs' : (metF M of i)[j]? = some s := by
    obtain ⟨t, ht⟩ := metF_pre (M := M) of i
    rw [← ht, List.getElem?_append_left e] at hs
    exact hs
   by_cases ej : j = i
   ·subst ej
    rw [metF, hs']
    exact scan_hit of _ _ hk
   ·exact pre_map (metF_pre of i) (metF_in of (by omega) hs' hk)
  ·have hn : (metF M of i)[i]? = none := List.getElem?_eq_none_iff.2 (by omega)
   have : metF M of (i + 1) = metF M of i := by rw [metF, hn]
   rw [this] at hs
   have := (List.getElem?_eq_some_iff.1 hs).1
   omega
theorem metF_end (of : Nat → Nat) {i : Nat} (h : (metF M of i).length ≤ i) : ∀ d, metF M of (i + d) = metF M of i
 | 0 => rfl
 | d + 1 => by
  have ih := metF_end of h d
  rw [← Nat.add_assoc, metF, ih, List.getElem?_eq_none_iff.2 (by omega)]
end Aut
theorem nodup_le {α : Type} [DecidableEq α] : ∀ {l m : List α}, l.Nodup → (∀ x ∈ l, x ∈ m) → l.length ≤ m.length
 | [], _, _, _ => Nat.zero_le _
 | x :: l, m, h, hs => by
  have hx := hs x List.mem_cons_self
  have h' := List.nodup_cons.1 h
  have := nodup_le (l := l) (m := m.erase x) h'.2 fun y hy => by
   have : y ≠ x := fun e => h'.1 (e ▸ hy)
   exact (List.mem_erase_of_ne this).2 (hs y (List.mem_cons_of_mem _ hy))
  rw [List.length_erase_of_mem hx] at this
  have := List.length_pos_of_mem hx
  rw [List.length_cons]
  omega
namespace Aut
variable {M : Aut}
def metL (M : Aut) (of : Nat → Nat) : List Nat := metF M of M.N
theorem met_few (hM : M.Ok) {of : Nat → Nat} (h : ∀ i, i < M.N → of i < M.N) (i : Nat) : (metF M of i).length ≤ M.N := by
 have m := metF_mid hM of i
 have := nodup_le (m := List.range M.N) m.nodup fun x hx => by
  obtain ⟨y, hy, rfl⟩ := List.mem_map.1 hx
  exact List.mem_range.2 (h y (m.lt y hy))
 simpa using this
theorem met_done (hM : M.Ok) {of : Nat → Nat} (h : ∀ i, i < M.N → of i < M.N) {i : Nat} (hi : (metF M of i).length ≤ i) : metF M of i = metL M of := by
 unfold metL
 by_cases e : i ≤ M.N
 ·have := metF_end (M := M) of hi (M.N - i)
  rw [show i + (M.N - i) = M.N by omega] at this
  exact this.symm
 ·have := metF_end (M := M) of (met_few hM h M.N) (i - M.N)
  rw [show M.N + (i - M.N) = i by omega] at this
  exact this
theorem met_mid (hM : M.Ok) (of : Nat → Nat) : Mid M of (metL M of) := metF_mid hM of _
theorem met_pre (hM : M.Ok) {of : Nat → Nat} (h : ∀ i, i < M.N → of i < M.N) (i : Nat) : metF M of i <+: metL M of := by
 unfold metL
 by_cases e : i ≤ M.N
 ·have := metF_mono (M := M) of i (M.N - i)
  rwa [show i + (M.N - i) = M.N by omega] at this
 ·have := metF_end (M := M) of (met_few hM h M.N) (i - M.N)
  rw [show M.N + (i - M.N) = i by omega] at this
  rw [this]
  exact List.prefix_refl _
theorem met_in (hM : M.Ok) {of : Nat → Nat} (h : ∀ i, i < M.N → of i < M.N) {j s : Nat} (hs : (metL M of)[j]? = some s) {k : Nat} (hk : k < M.n) : of (M.nxt s k) ∈ (metL M of).map of := by
 have := met_few hM h M.N
 have hl := (List.getElem?_eq_some_iff.1 hs).1
 exact metF_in of (by unfold metL at hl; omega) hs hk
theorem met_pos (hM : M.Ok) (of : Nat → Nat) : 0 < (metL M of).length := (List.getElem?_eq_some_iff.1 (met_mid hM of).zero).1
def least (M : Aut) (of : Nat → Nat) : Aut where
 N := (metL M of).length
 n := M.n
 nxt p k := ((metL M of).map of).idxOf (of (M.nxt ((metL M of).getD p 0) k))
 good p := M.good ((metL M of).getD p 0)
theorem getD_at {l : List Nat} {p : Nat} (hp : p < l.length) : l.getD p 0 = l[p] := by simp [List.getD, hp]
theorem least_ok (hM : M.Ok) {of : Nat → Nat} (h : ∀ i, i < M.N → of i < M.N) : (least M of).Ok := by
 refine ⟨fun p k hp hk => ?_, met_pos hM of, Nat.le_trans (met_few hM h _) hM.few⟩
 change p < (metL M of).length at hp
 change k < M.n at hk
 show ((metL M of).map of).idxOf _ < (metL M of).length
 rw [getD_at hp]
 have := List.idxOf_lt_length_of_mem (met_in hM h (List.getElem?_eq_getElem hp) hk)
 rwa [List.length_map] at this
theorem least_at (hM : M.Ok) {of : Nat → Nat} (h : ∀ i, i < M.N → of i < M.N) {p k : Nat} (hp : p < (least M of).N) (hk : k < M.n) : of ((metL M of).getD ((least M of).nxt p k) 0) = of (M.nxt ((metL M of).getD p 0) k) := by
 have hlt := (least_ok hM h).lt p k hp hk
 change p < (metL M of).length at hp
 have hm := met_in hM h (List.getElem?_eq_getElem hp) hk
 rw [getD_at hlt]
 have e : ((metL M of).map of)[((metL M of).map of).idxOf (of (M.nxt (metL M of)[p] k))]'(List.idxOf_lt_length_of_mem hm) = of (M.nxt (metL M of)[p] k) := List.getElem_idxOf _
 rw [List.getElem_map] at e
 show of ((metL M of)[((metL M of).map of).idxOf (of (M.nxt ((metL M of).getD p 0) k))]) = _
 simp only [getD_at hp]
 exact e
structure Sim (M : Aut) (of : Nat → Nat) (x p : Nat) : Prop where
 hx : x < M.N
 hp : p < (least M of).N
 e : of x = of ((metL M of).getD p 0)
theorem getD_lt (hM : M.Ok) (of : Nat → Nat) {p : Nat} (hp : p < (metL M of).length) : (metL M of).getD p 0 < M.N := by
 rw [getD_at hp]
 exact (met_mid hM of).lt _ (List.getElem_mem hp)
theorem Sim.good {of : Nat → Nat} {x p : Nat} (h : Sim M of x p) (hM : M.Ok) (hc : Cls M of) : (least M of).good p = M.good x := (hc.bis.good _ _ h.hx (getD_lt hM of h.hp) h.e).symm
theorem Sim.next {of : Nat → Nat} {x p : Nat} (h : Sim M of x p) (hM : M.Ok) (hc : Cls M of) {k : Nat} (hk : k < M.n) : Sim M of (M.nxt x k) ((least M of).nxt p k) :=
 ⟨hM.lt _ _ h.hx hk, (least_ok hM hc.lt).lt _ _ h.hp hk, by rw [least_at hM hc.lt h.hp hk]; exact hc.bis.next _ _ _ h.hx (getD_lt hM of h.hp) hk h.e⟩
theorem least_inj (hM : M.Ok) {of : Nat → Nat} {p q : Nat} (hp : p < (least M of).N) (hq : q < (least M of).N) (e : of ((metL M of).getD p 0) = of ((metL M of).getD q 0)) : p = q := by
 change p < (metL M of).length at hp
 change q < (metL M of).length at hq
 rw [getD_at hp, getD_at hq] at e
 have hn := List.pairwise_iff_getElem.1 (met_mid hM of).nodup
 rcases Nat.lt_trichotomy p q with h | h | h
 ·exact absurd (by rw [List.getElem_map, List.getElem_map]; exact e) (hn p q (by simpa using hp) (by simpa using hq) h)
 ·exact h
 ·exact absurd (by rw [List.getElem_map, List.getElem_map]; exact e.symm) (hn q p (by simpa using hq) (by simpa using hp) h)
theorem least_cls (hM : M.Ok) {of of' : Nat → Nat} (hc : Cls M of) (hc' : Cls (least M of) of') {p q : Nat} (hp : p < (least M of).N) (hq : q < (least M of).N) (e : of' p = of' q) : p = q := by
 refine least_inj hM hp hq (hc.coarse (fun i j => ∃ p q, Sim M of i p ∧ Sim M of j q ∧ of' p = of' q) ⟨?_, ?_⟩ _ _ (getD_lt hM of hp) (getD_lt hM of hq) ⟨p, q, ⟨getD_lt hM of hp, hp, rfl⟩, ⟨getD_lt hM of hq, hq, rfl⟩, e⟩)
 ·rintro i j hi hj ⟨p, q, s1, s2, e⟩
  rw [← s1.good hM hc, ← s2.good hM hc]
  exact hc'.bis.good _ _ s1.hp s2.hp e
 ·rintro i j k hi hj hk ⟨p, q, s1, s2, e⟩
  exact ⟨_, _, s1.next hM hc hk, s2.next hM hc hk, hc'.bis.next _ _ _ s1.hp s2.hp hk e⟩
theorem least_met (hM : M.Ok) {of : Nat → Nat} (h : ∀ i, i < M.N → of i < M.N) {of' : Nat → Nat} (inj : ∀ p q, p < (least M of).N → q < (least M of).N → of' p = of' q → p = q) : ∀ i, metF (least M of) of' i = List.range (metF M of i).length
 | 0 => rfl
 | i + 1 => by
  have ih := least_met hM h inj i
  have hpre := met_pre hM h i
  have hnd := (met_mid hM of).nodup
  rw [metF, metF, ih]
  by_cases hi : i < (metF M of i).length
  ·rw [List.getElem?_range hi, List.getElem?_eq_getElem hi]
   have hs : (metL M of)[i]? = some (metF M of i)[i] := by
    obtain ⟨t, ht⟩ := hpre
    rw [← ht, List.getElem?_append_left hi, List.getElem?_eq_getElem hi]
   have hiN : i < (metL M of).length := (List.getElem?_eq_some_iff.1 hs).1
   have hsv : (metL M of).getD i 0 = (metF M of i)[i] := by rw [List.getD, hs]; rfl
   have hfull : scan M of (metF M of i) (metF M of i)[i] M.n <+: metL M of := by
    have := met_pre hM h (i + 1)
    rw [metF, List.getElem?_eq_getElem hi] at this
    exact this
   have key : ∀ k, k ≤ M.n → scan (least M of) of' (List.range (metF M of i).length) i k = List.range (scan M of (metF M of i) (metF M of i)[i] k).length := by
    intro k
    induction k with
    | zero => intro _; rfl
    | succ k ihk =>
     intro hk
     have ihk := ihk (by omega)
     have hp2 : scan M of (metF M of i) (metF M of i)[i] (k + 1) <+: metL M of := by
      have := scan_mono (M := M) of (metF M of i) (metF M of i)[i] (k + 1) (M.n - (k + 1))
      rw [show k + 1 + (M.n - (k + 1)) = M.n by omega] at this
      exact this.trans hfull
     have hp1 : scan M of (metF M of i) (metF M of i)[i] k <+: metL M of := (visit_pre _ _ _).trans hp2
     rw [scan, scan, ihk]
     rw [scan] at hp2
     obtain ⟨cur, hcur⟩ : ∃ cur, cur = scan M of (metF M of i) (metF M of i)[i] k := ⟨_, rfl⟩
     rw [← hcur] at hp1 hp2 ⊢
     obtain ⟨x, hx⟩ : ∃ x, x = M.nxt (metF M of i)[i] k := ⟨_, rfl⟩
     have hx' : (least M of).nxt i k = ((metL M of).map of).idxOf (of x) := by
      show ((metL M of).map of).idxOf (of (M.nxt ((metL M of).getD i 0) k)) = _
      rw [hsv, hx]
     have hlt := (least_ok hM h).lt i k hiN (by show k < M.n; omega)
     rw [hx'] at hlt
     change _ < (metL M of).length at hlt
     rw [← hx] at hp2 ⊢
     rw [hx']
     have hmem : of x ∈ (metL M of).map of := by
      rw [hx]
      exact met_in hM h hs (by omega)
     have hcl : cur.length ≤ (metL M of).length := hp1.length_le
     have hat : ((metL M of).map of)[((metL M of).map of).idxOf (of x)]'(List.idxOf_lt_length_of_mem hmem) = of x := List.getElem_idxOf _
     unfold visit
     by_cases hc : of x ∈ cur.map of
     ·have : ((metL M of).map of).idxOf (of x) < cur.length := by
       obtain ⟨t, ht⟩ := hp1
       rw [← ht, List.map_append, List.idxOf_append, if_pos hc]
       have := List.idxOf_lt_length_of_mem hc
       rwa [List.length_map] at this
      rw [if_pos hc, if_pos (List.mem_map.2 ⟨_, List.mem_range.2 this, rfl⟩)]
     ·unfold visit at hp2
      rw [if_neg hc] at hp2
      have e : ((metL M of).map of).idxOf (of x) = cur.length := by
       obtain ⟨t, ht⟩ := hp2
       rw [← ht, List.map_append, List.map_append, List.append_assoc, List.idxOf_append, if_neg hc]
       simp
      rw [if_neg hc, e, if_neg, List.length_append, List.length_singleton, List.range_succ]
      intro hm
      obtain ⟨y, hy, hy2⟩ := List.mem_map.1 hm
      have hy := List.mem_range.1 hy
      have := inj y cur.length (by show y < (metL M of).length; omega) (by rw [e] at hlt; exact hlt) hy2
      omega
   show scan (least M of) of' (List.range (metF M of i).length) i M.n = _
   exact key M.n (Nat.le_refl _)
  ·rw [List.getElem?_eq_none_iff.2 (by simpa using hi), List.getElem?_eq_none_iff.2 (by omega)]
theorem least_all (hM : M.Ok) {of : Nat → Nat} (h : ∀ i, i < M.N → of i < M.N) {of' : Nat → Nat} (inj : ∀ p q, p < (least M of).N → q < (least M of).N → of' p = of' q → p = q) : metL (least M of) of' = List.range (least M of).N := by
 unfold metL
 rw [least_met hM h inj]
 congr 1
 have hle : (metF M of (least M of).N).length ≤ (least M of).N := (met_pre hM h _).length_le
 rw [met_done hM h hle]
 rfl
end Aut
def mayA (n : Nat) (al : Nat → Bool) (rel : Nat → Nat → Bool) (i k : Nat) : Bool := if i = 0 then al k else if i ≤ n then rel (i - 1) k else false
def lastA (n : Nat) (al : Nat → Bool) (rel : Nat → Nat → Bool) : Aut where
 N := n + 2
 n := n
 nxt i k := if mayA n al rel i k then k + 1 else n + 1
 good i := decide (i ≤ n)
section
variable {n : Nat} {al : Nat → Bool} {rel : Nat → Nat → Bool}
open Aut
theorem last_ok (hn : n ≤ 50000) : (lastA n al rel).Ok := ⟨fun i k hi hk => by
 change i < n + 2 at hi
 change k < n at hk
 show (if mayA n al rel i k then k + 1 else n + 1) < n + 2
 split <;> omega, by show 0 < n + 2; omega, by show n + 2 ≤ 60000; omega⟩
theorem last_good_next (i : Nat) {k : Nat} (hk : k < n) : (lastA n al rel).good ((lastA n al rel).nxt i k) = mayA n al rel i k := by
 show decide ((if mayA n al rel i k then k + 1 else n + 1) ≤ n) = _
 cases mayA n al rel i k with
 | true => simp; omega
 | false => simp
theorem last_cls (hn : n ≤ 50000) {of : Nat → Nat} (hc : Cls (lastA n al rel) of) {i j : Nat} (hi : i ≤ n) (hj : j ≤ n) : of i = of j ↔ ∀ k, k < n → mayA n al rel i k = mayA n al rel j k := by
 have hM := last_ok (al := al) (rel := rel) hn
 constructor
 ·intro e k hk
  have hi' : i < (lastA n al rel).N := by show i < n + 2; omega
  have hj' : j < (lastA n al rel).N := by show j < n + 2; omega
  have := hc.bis.good _ _ (hM.lt i k hi' hk) (hM.lt j k hj' hk) (hc.bis.next i j k hi' hj' hk e)
  rw [last_good_next i hk, last_good_next j hk] at this
  exact this
 ·intro h
  refine hc.coarse (fun i j => i = j ∨ (i ≤ n ∧ j ≤ n ∧ ∀ k, k < n → mayA n al rel i k = mayA n al rel j k)) ⟨?_, ?_⟩ i j (by show i < n + 2; omega) (by show j < n + 2; omega) (.inr ⟨hi, hj, h⟩)
  ·rintro a b ha hb (rfl | ⟨h1, h2, _⟩)
   ·rfl
   ·show decide (a ≤ n) = decide (b ≤ n)
    rw [decide_eq_true h1, decide_eq_true h2]
  ·rintro a b k ha hb hk (rfl | ⟨h1, h2, h3⟩)
   ·exact .inl rfl
   ·refine .inl ?_
    show (if mayA n al rel a k then k + 1 else n + 1) = (if mayA n al rel b k then k + 1 else n + 1)
    rw [h3 k hk]
theorem last_bad {of : Nat → Nat} (hc : Cls (lastA n al rel) of) {i : Nat} (hi : i ≤ n) : of i ≠ of (n + 1) := by
 intro e
 have := hc.bis.good i (n + 1) (by show i < n + 2; omega) (by show n + 1 < n + 2; omega) e
 change decide (i ≤ n) = decide (n + 1 ≤ n) at this
 rw [decide_eq_true hi, decide_eq_false (by omega)] at this
 cases this
def rowB (n : Nat) (al : Nat → Bool) (rel : Nat → Nat → Bool) (i : Nat) : List Bool := (List.range n).map (mayA n al rel i)
def actA (al : Nat → Bool) (i : Nat) : Bool := i == 0 || al (i - 1)
def rowsA (n : Nat) (al : Nat → Bool) (rel : Nat → Nat → Bool) : Nat → List (List Bool)
 | 0 => []
 | i + 1 => if actA al i = true ∧ rowB n al rel i ∉ rowsA n al rel i then rowsA n al rel i ++ [rowB n al rel i] else rowsA n al rel i
def badA (n : Nat) (al : Nat → Bool) (rel : Nat → Nat → Bool) (m : Nat) : Bool := (List.range m).any fun i => actA al i && (rowB n al rel i).any (! ·)
theorem rowB_iff {i j : Nat} : rowB n al rel i = rowB n al rel j ↔ ∀ k, k < n → mayA n al rel i k = mayA n al rel j k := by
 constructor
 ·intro h k hk
  have := congrArg (fun l => l[k]?) h
  simpa [rowB, List.getElem?_range hk] using this
 ·intro h
  exact List.map_congr_left fun k hk => h k (List.mem_range.1 hk)
theorem rowsA_nodup : ∀ m, (rowsA n al rel m).Nodup
 | 0 => List.nodup_nil
 | m + 1 => by
  rw [rowsA]
  split
  ·next h =>
   rw [List.nodup_append]
   refine ⟨rowsA_nodup m, by simp, fun a ha b hb e => ?_⟩
   rw [List.mem_singleton.1 hb] at e
   subst e
   exact h.2 ha
  ·exact rowsA_nodup m
theorem rowsA_mem : ∀ m r, r ∈ rowsA n al rel m ↔ ∃ i, i < m ∧ actA al i = true ∧ rowB n al rel i = r
 | 0, r => ⟨fun h => (by cases h), fun ⟨i, h, _⟩ => absurd h (Nat.not_lt_zero i)⟩
 | m + 1, r => by
  have ih := rowsA_mem m r
  have ihm := rowsA_mem m (rowB n al rel m)
  rw [rowsA]
  split
  ·next h =>
   rw [List.mem_append, ih, List.mem_singleton]
   constructor
   ·rintro (⟨i, h1, h2, h3⟩ | rfl)
    ·exact ⟨i, by omega, h2, h3⟩
    ·exact ⟨m, by omega, h.1, rfl⟩
   ·rintro ⟨i, h1, h2, h3⟩
    by_cases e : i = m
    ·subst e; exact .inr h3.symm
    ·exact .inl ⟨i, by omega, h2, h3⟩
  ·next h =>
   rw [ih]
   constructor
   ·rintro ⟨i, h1, h2, h3⟩
    exact ⟨i, by omega, h2, h3⟩
   ·rintro ⟨i, h1, h2, h3⟩
    by_cases e : i = m
    ·subst e
     by_cases hm : rowB n al rel i ∈ rowsA n al rel i
     ·rw [h3] at hm
      exact ih.1 hm
     ·exact absurd ⟨h2, hm⟩ h
    ·exact ⟨i, by omega, h2, h3⟩
theorem badA_iff {m : Nat} : badA n al rel m = true ↔ ∃ i k, i < m ∧ actA al i = true ∧ k < n ∧ mayA n al rel i k = false := by
 unfold badA
 rw [List.any_eq_true]
 constructor
 ·rintro ⟨i, hi, h⟩
  rw [Bool.and_eq_true, List.any_eq_true] at h
  obtain ⟨h1, b, hb, h2⟩ := h
  obtain ⟨k, hk, rfl⟩ := List.mem_map.1 hb
  exact ⟨i, k, List.mem_range.1 hi, h1, List.mem_range.1 hk, by simpa using h2⟩
 ·rintro ⟨i, k, hi, h1, hk, h2⟩
  refine ⟨i, List.mem_range.2 hi, ?_⟩
  rw [Bool.and_eq_true, List.any_eq_true]
  exact ⟨h1, _, List.mem_map.2 ⟨k, List.mem_range.2 hk, rfl⟩, by rw [h2]; rfl⟩
theorem reach_last (hra : ∀ i k, i < n → k < n → rel i k = true → al k = true) {x : Nat} (h : Aut.Reach (lastA n al rel) x) : (x ≤ n ∧ actA al x = true) ∨ (x = n + 1 ∧ badA n al rel (n + 1) = true) := by
 induction h with
 | zero => exact .inl ⟨Nat.zero_le _, rfl⟩
 | @next i k h hk ih =>
  change k < n at hk
  show ((if mayA n al rel i k then k + 1 else n + 1) ≤ n ∧ _) ∨ _
  rw [show (lastA n al rel).nxt i k = (if mayA n al rel i k then k + 1 else n + 1) from rfl]
  cases hm : mayA n al rel i k with
  | true =>
   refine .inl ⟨by simp; omega, ?_⟩
   have : al k = true := by
    unfold mayA at hm
    split at hm
    ·exact hm
    ·split at hm
     ·exact hra _ _ (by omega) hk hm
     ·cases hm
   simp [actA, this]
  | false =>
   refine .inr ⟨by simp, ?_⟩
   rcases ih with ⟨h1, h2⟩ | ⟨_, h2⟩
   ·exact badA_iff.2 ⟨i, k, by omega, h2, hk, hm⟩
   ·exact h2
theorem filter_two {α : Type} (p : α → Bool) : ∀ l : List α, l.length = (l.filter p).length + (l.filter fun x => !p x).length
 | [] => rfl
 | x :: l => by
  have := filter_two p l
  cases h : p x <;> simp [h] <;> omega
theorem least_many (hn : n ≤ 50000) (hra : ∀ i k, i < n → k < n → rel i k = true → al k = true) {of : Nat → Nat} (hc : Cls (lastA n al rel) of) :
  (metL (lastA n al rel) of).length = (rowsA n al rel (n + 1)).length + (if badA n al rel (n + 1) then 1 else 0) := by
 have hM := last_ok (al := al) (rel := rel) hn
 have mid := met_mid hM of
 obtain ⟨l, hl⟩ : ∃ l, l = metL (lastA n al rel) of := ⟨_, rfl⟩
 have hin : ∀ x ∈ l, ∀ k, k < n → of ((lastA n al rel).nxt x k) ∈ l.map of := by
  intro x hx k hk
  rw [hl] at hx ⊢
  obtain ⟨j, hj⟩ := List.getElem?_of_mem hx
  exact met_in hM hc.lt hj hk
 rw [← hl] at mid ⊢
 have h0 : 0 ∈ l := List.mem_of_getElem? mid.zero
 have act : ∀ i, i ≤ n → actA al i = true → of i ∈ l.map of := by
  intro i hi ha
  by_cases e : i = 0
  ·subst e; exact List.mem_map_of_mem h0
  ·have hk : i - 1 < n := by omega
   have := hin 0 h0 (i - 1) hk
   have e2 : (lastA n al rel).nxt 0 (i - 1) = i := by
    show (if mayA n al rel 0 (i - 1) then i - 1 + 1 else n + 1) = i
    have : al (i - 1) = true := by simpa [actA, e] using ha
    rw [show mayA n al rel 0 (i - 1) = al (i - 1) from rfl, this]
    simp; omega
   rwa [e2] at this
 rw [filter_two (fun x => decide (x ≤ n)) l]
 congr 1
 ·have e : (l.filter fun x => decide (x ≤ n)).length = ((l.filter fun x => decide (x ≤ n)).map (rowB n al rel)).length := by simp
  rw [e]
  apply Nat.le_antisymm
  ·refine nodup_le ?_ ?_
   ·have nd := (List.pairwise_map.1 mid.nodup).filter fun x => decide (x ≤ n)
    rw [List.Nodup, List.pairwise_map]
    refine nd.imp_of_mem ?_
    intro a b ha hb hne he
    have ha := of_decide_eq_true (List.mem_filter.1 ha).2
    have hb := of_decide_eq_true (List.mem_filter.1 hb).2
    exact hne ((last_cls hn hc ha hb).2 (rowB_iff.1 he))
   ·intro r hr
    obtain ⟨x, hx, rfl⟩ := List.mem_map.1 hr
    obtain ⟨h1, h2⟩ := List.mem_filter.1 hx
    have h2 := of_decide_eq_true h2
    rcases reach_last hra (mid.reach x h1) with ⟨_, h⟩ | ⟨h, _⟩
    ·exact (rowsA_mem _ _).2 ⟨x, by omega, h, rfl⟩
    ·omega
  ·refine nodup_le (rowsA_nodup _) ?_
   intro r hr
   obtain ⟨i, hi, ha, rfl⟩ := (rowsA_mem _ _).1 hr
   obtain ⟨x, hx, he⟩ := List.mem_map.1 (act i (by omega) ha)
   have hxn : x ≤ n := by
    have hlt := mid.lt x hx
    change x < n + 2 at hlt
    by_cases e : x = n + 1
    ·subst e; exact absurd he.symm (last_bad hc (by omega))
    ·omega
   exact List.mem_map.2 ⟨x, List.mem_filter.2 ⟨hx, decide_eq_true hxn⟩, rowB_iff.2 ((last_cls hn hc hxn (by omega)).1 he)⟩
 ·have all : ∀ x ∈ l.filter fun x => !decide (x ≤ n), x = n + 1 := by
   intro x hx
   obtain ⟨h1, h2⟩ := List.mem_filter.1 hx
   have hlt := mid.lt x h1
   change x < n + 2 at hlt
   simp at h2
   omega
  have nd : (l.filter fun x => !decide (x ≤ n)).Nodup := by
   have nd := (List.pairwise_map.1 mid.nodup).filter fun x => !decide (x ≤ n)
   exact nd.imp fun hne e => hne (by rw [e])
  have le1 : (l.filter fun x => !decide (x ≤ n)).length ≤ 1 := nodup_le (m := [n + 1]) nd fun x hx => by rw [all x hx]; exact List.mem_singleton.2 rfl
  by_cases hb : badA n al rel (n + 1) = true
  ·rw [if_pos hb]
   obtain ⟨i, k, hi, ha, hk, hm⟩ := badA_iff.1 hb
   obtain ⟨x, hx, he⟩ := List.mem_map.1 (act i (by omega) ha)
   have hxi : of ((lastA n al rel).nxt x k) = of ((lastA n al rel).nxt i k) := hc.bis.next x i k (mid.lt x hx) (by show i < n + 2; omega) hk he
   have hy := hin x hx k hk
   rw [hxi] at hy
   obtain ⟨y, hy1, hy2⟩ := List.mem_map.1 hy
   have e : (lastA n al rel).nxt i k = n + 1 := by
    show (if mayA n al rel i k then k + 1 else n + 1) = n + 1
    rw [hm]; rfl
   rw [e] at hy2
   have hyn : ¬ y ≤ n := fun h => last_bad hc h hy2
   have : y ∈ l.filter fun x => !decide (x ≤ n) := List.mem_filter.2 ⟨hy1, by simp; omega⟩
   have := List.length_pos_of_mem this
   omega
  ·rw [if_neg hb]
   cases hf : l.filter fun x => !decide (x ≤ n) with
   | nil => rfl
   | cons y t =>
    exfalso
    have hy : y ∈ l.filter fun x => !decide (x ≤ n) := by rw [hf]; exact List.mem_cons_self
    obtain ⟨h1, h2⟩ := List.mem_filter.1 hy
    rcases reach_last hra (mid.reach y h1) with ⟨h, _⟩ | ⟨_, h⟩
    ·simp at h2; omega
    ·exact hb h
end
end Go.Proofs.YtboemnagahmlkaaGreat.Eng
