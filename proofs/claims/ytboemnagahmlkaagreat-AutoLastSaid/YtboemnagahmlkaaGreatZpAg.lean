/- Sorting short rising lists, what is reached, and a list of one thing again and again; walked by the engine. -/
import Derived.Test.YtboemnagahmlkaaGreatZpVa
import Derived.Laws.CopyRow
import Derived.Test.YtboemnagahmlkaaGreatZpVc
set_option linter.unusedVariables false
set_option linter.unusedSimpArgs false
set_option maxRecDepth 100000
namespace Go.Proofs.YtboemnagahmlkaaGreat.Eng
open Go Go.RowKit
section
variable {A : Option Addr} {C : Nat} {l : List Int}
end
theorem mul1_spec (c : Nat) (hc : c < 4294967296) (w : World) : CP 115 #[.int .u64 1, .int .u64 (c : Int)] w fun e w' => e = .returned (.tuple #[.int .u64 0, .int .u64 (c : Int)]) ∧ w' = w := by
 have hm : CP 167 #[.int .u64 1, .int .u64 (c : Int)] w fun e w' => e = .returned (.tuple #[.int .u64 0, .int .u64 (c : Int)]) ∧ w' = w := by
  refine calls_ret (vc167_calls 1 c w (fun u w' => u = .tuple #[.int .u64 0, .int .u64 (c : Int)] ∧ w' = w) ?_) (by rintro v w' ⟨rfl, h⟩; exact ⟨rfl, h⟩)
  unfold vc167 Ar
  have a1 : IntKind.wrap .u64 ((BitVec.ofInt (IntKind.bits .u64) (1 : Int) &&& BitVec.ofInt (IntKind.bits .u64) 4294967295).toNat : Int) = 1 := by decide
  have a2 : IntKind.wrap .u64 ((BitVec.ofInt (IntKind.bits .u64) (c : Int) &&& BitVec.ofInt (IntKind.bits .u64) 4294967295).toNat : Int) = (c : Int) := by
   have := and_m c 4294967295 (by omega) (by decide)
   rw [show (c &&& 4294967295 : Nat) = c from by have := Nat.and_two_pow_sub_one_eq_mod c 32; rw [show (2 ^ 32 - 1 : Nat) = 4294967295 by decide] at this; rw [this]; exact Nat.mod_eq_of_lt hc] at this
   exact this
  have a3 : Int.fdiv (1 : Int) (2 ^ (min (32 : Int).toNat (IntKind.bits .u64))) = 0 := by decide
  have a4 : Int.fdiv (c : Int) (2 ^ (min (32 : Int).toNat (IntKind.bits .u64))) = 0 := by
   have := sh_k c 32 (by decide)
   rw [show c / 2 ^ 32 = 0 from Nat.div_eq_of_lt hc] at this
   exact this
  have wc : IntKind.wrap .u64 (c : Int) = (c : Int) := wrap_u64 c (by omega)
  have w0 : IntKind.wrap .u64 (0 : Int) = 0 := by decide
  have z0 : Int.fdiv (0 : Int) (2 ^ (min (32 : Int).toNat (IntKind.bits .u64))) = 0 := by decide
  have z1 : IntKind.wrap .u64 ((BitVec.ofInt (IntKind.bits .u64) (0 : Int) &&& BitVec.ofInt (IntKind.bits .u64) 4294967295).toNat : Int) = 0 := by decide
  simp only [a1, a2, a3, a4, Int.one_mul, Int.zero_mul, Int.mul_zero, Int.zero_add, Int.add_zero, wc, w0, z0, z1]
  repeat first | trivial | exact ⟨rfl, rfl⟩ | refine ⟨by decide, ?_⟩
 refine calls_ret (vc115_calls 1 c w (fun u w' => u = .tuple #[.int .u64 0, .int .u64 (c : Int)] ∧ w' = w) ?_) (by rintro v w' ⟨rfl, h⟩; exact ⟨rfl, h⟩)
 refine hm.mono ?_
 rintro e w1 ⟨rfl, hw⟩
 exact ⟨_, _, rfl, rfl, hw⟩
theorem setRow_below {B g : Nat} {w0 w : World} (hb : Below B w0 w) (hg : B ≤ g) (cs : Array Value) : Below B w0 (w.setRow g cs) :=
 hb.trans ⟨rfl, rfl, rfl, by rw [size_setRow]; exact Nat.le_refl _, fun k hk => setRow_other w g k cs (by omega)⟩
theorem repeat_spec (w : World) (A : Option Addr) (C N : Nat) (h1 : 1 ≤ C) (hx : Rw encB1 1 w A [true]) (hN : 1 ≤ N) (hN2 : N ≤ 1000000) :
  CP 82 #[.slice A 1 C, .int .i64 (N : Int)] w fun e w' => ∃ l : Sl, e = .returned l.v ∧ l.n = N ∧ w'.ownsRow w.heap.size tBool 1 l.v l.n ((List.replicate N true).flatMap encB1) ∧ Below w.heap.size w w' := by
 refine calls_ret (vc82_calls A 1 C N w (fun u w' => ∃ l : Sl, u = l.v ∧ l.n = N ∧ w'.ownsRow w.heap.size tBool 1 l.v l.n ((List.replicate N true).flatMap encB1) ∧ Below w.heap.size w w') ?_) (by rintro v w' ⟨l, rfl, h⟩; exact ⟨l, rfl, h⟩)
 intro J1 hJ1
 refine CondP.no (decide_eq_false (by omega)) (hJ1 _ ?_)
 have hwN : IntKind.wrap .u64 (N : Int) = (N : Int) := wrap_u64 N (by omega)
 rw [hwN]
 refine (mul1_spec N (by omega) w).mono ?_
 rintro e w1 ⟨rfl, hw⟩
 subst w1
 refine ⟨_, _, rfl, ?_⟩
 intro J2 hJ2
 refine CondP.no rfl (CondP.no (decide_eq_false (by omega)) (hJ2 _ ?_))
 have hwi : IntKind.wrap .i64 (N : Int) = (N : Int) := wrap_in (by show (-9223372036854775808 : Int) ≤ _; omega) (by show _ ≤ (9223372036854775807 : Int); omega)
 rw [hwi]
 refine ⟨_, _, _, _, run_makeBools w N hN2, ?_⟩
 have b1 := below_alloc w (.cells (Array.replicate N (.bool false)) tBool)
 have o1 : (w.alloc (.cells (Array.replicate N (.bool false)) tBool)).heap[w.heap.size]? = some (.cells (Array.replicate N (.bool false)) tBool (0, 0)) := alloc_new _ _
 obtain ⟨w1, hw1⟩ : ∃ w1, w1 = w.alloc (.cells (Array.replicate N (.bool false)) tBool) := ⟨_, rfl⟩
 rw [← hw1] at b1 o1
 rw [← hw1]
 let cur (m : Nat) : List Value := List.replicate m (.bool true) ++ List.replicate (N - m) (.bool false)
 have clen : ∀ m, m ≤ N → (cur m).length = N := by intro m hm; simp [cur]; omega
 have info1 : (Tryz.prog.info? tBool).map (·.size) = some 1 := by
  obtain ⟨i, hi, _, hs, _⟩ := infoBool
  rw [hi]
  exact congrArg some hs
 have hst : ∀ (q : World) (m k : Nat), m + k ≤ N → q.heap[w.heap.size]? = some (.cells (cur m).toArray tBool (0, 0)) → (q.setRow w.heap.size (((cur m).toArray.toList.take m ++ List.replicate k (Value.bool true)) ++ (cur m).toArray.toList.drop (m + (List.replicate k (Value.bool true)).length)).toArray).heap[w.heap.size]? = some (.cells (cur (m + k)).toArray tBool (0, 0)) := by
  intro q m k hm hq
  rw [setRow_heap _ _ _ _ _ _ hq]
  congr 3
  simp only [cur, List.length_replicate]
  rw [List.take_append_of_le_length (by simp), List.take_of_length_le (by simp), List.drop_append, List.length_replicate, List.drop_eq_nil_of_le (by simp), List.nil_append, List.drop_replicate, List.replicate_append_replicate]
  congr 2
  omega
 have k1 : w1.heap[w.heap.size]? = some (.cells (cur 0).toArray tBool (0, 0)) := by
  rw [o1, show (cur 0).toArray = Array.replicate N (.bool false) by simp [cur]]
 obtain ⟨p, hp, _, hc⟩ := (hx.on b1) 0 true rfl
 have c0 := hc 0 _ rfl
 rw [Nat.zero_mul, add_zero, add_zero] at c0
 subst hp
 have cp1 := run_copy_row Tryz.prog w1 tBools tBools tInt tBool w.heap.size 0 N N p 1 C (cur 0).toArray tBool (List.replicate 1 (.bool true)) undBls info1 k1 (by rw [List.length_replicate]; show 1 = min 1 N; omega) (by
  intro j v hj
  match j, hj with
  | 0, hj => cases hj; rw [add_zero]; exact c0) (by simp [clen 0 (Nat.zero_le _)]; omega) (by intro v hv; simp at hv; subst hv; rfl)
 have k2 := hst w1 0 1 (by omega) k1
 refine ⟨_, _, cp1, ?_⟩
 intro I hI
 have loop : ∀ (d m : Nat) (q : World), N - m ≤ d → 1 ≤ m → m ≤ N → q.heap[w.heap.size]? = some (.cells (cur m).toArray tBool (0, 0)) → Below w.heap.size w q → I [.int .i64 (m : Int)] q := by
  have fin : ∀ (q : World), q.heap[w.heap.size]? = some (.cells (cur N).toArray tBool (0, 0)) → Below w.heap.size w q → I [.int .i64 (N : Int)] q := by
   intro q hq hB
   refine hI _ _ (CondP.no (decide_eq_false (by omega)) ⟨⟨some (nb w), N, N⟩, rfl, rfl, ⟨by simp [encB1], .inr ⟨w.heap.size, N, _, rfl, Nat.le_refl _, hq, Nat.le_refl _, by unfold maxLen; omega, by simp [cur], ?_⟩⟩, hB⟩)
   simp [cur, encB1, List.flatMap_replicate]
  intro d
  induction d with
  | zero =>
   intro m q hd h1m hmN hq hB
   obtain rfl : m = N := by omega
   exact fin q hq hB
  | succ d ihd =>
   intro m q hd h1m hmN hq hB
   by_cases e : m = N
   ·subst e; exact fin q hq hB
   obtain ⟨k, hk⟩ : ∃ k, k = min m (N - m) := ⟨_, rfl⟩
   have hkp : 1 ≤ k ∧ m + k ≤ N ∧ k ≤ m := by omega
   refine hI _ _ (CondP.yes (decide_eq_true (by omega)) ?_)
   intro q1 hq1
   have bq : Below q.heap.size q q1 := by subst hq1; exact drew_on q
   have hq' := held_on bq hq
   have hB1 := below_then hB bq
   refine ⟨by omega, by omega, trivial, trivial, trivial, by omega, by omega, by omega, trivial, trivial, ?_⟩
   have es : slBase (some (nb w)) ((m : Int)).toNat (((N : Nat) : Int)).toNat 1 = some ⟨w.heap.size, m, none⟩ := by
    unfold slBase
    rw [if_neg (by omega)]
    show some ((nb w).add (m * 1)) = _
    rw [add_lit, Nat.mul_one, Nat.zero_add]
   have ed : slBase (some (nb w)) (0 : Int).toNat (((N : Nat) : Int)).toNat 1 = some ⟨w.heap.size, 0, none⟩ := by
    unfold slBase
    rw [if_neg (by omega)]
    show some ((nb w).add (0 * 1)) = _
    rw [Nat.zero_mul, add_zero]
   rw [es, ed]
   have cp := run_copy_row Tryz.prog q1 tBools tBools tInt tBool w.heap.size m (((N : Nat) : Int).toNat - (m : Int).toNat) (((N : Nat) : Int).toNat - (m : Int).toNat) ⟨w.heap.size, 0, none⟩ ((m : Int).toNat - (0 : Int).toNat) (((N : Nat) : Int).toNat - (0 : Int).toNat) (cur m).toArray tBool (List.replicate k (.bool true)) undBls info1 hq' (by
    rw [List.length_replicate, hk]
    show min m (N - m) = min (m - 0) (N - m)
    rw [Nat.sub_zero]) (by
    intro j v hj
    rw [List.getElem?_replicate] at hj
    split at hj
    ·next hjk =>
     cases hj
     rw [ptr_add0 _ _ hq']
     simp only [List.getElem?_toArray, cur]
     rw [List.getElem?_append_left (by simp; omega), List.getElem?_replicate, if_pos (by omega)]
    ·cases hj) (by simp [clen m hmN]; omega) (by intro v hv; rw [(List.mem_replicate.1 hv).2]; rfl)
   have k3 := hst q1 m k (by omega) hq'
   refine ⟨_, _, cp, ?_⟩
   rw [List.length_replicate]
   refine Ar.nat (m + k) (by omega) (by omega) (ihd (m + k) _ (by omega) (by omega) (by omega) ?_ (setRow_below hB1 (Nat.le_refl _) _))
   rw [List.length_replicate] at k3
   exact k3
 exact loop N 1 _ (by omega) (Nat.le_refl _) hN k2 (setRow_below b1 (Nat.le_refl _) _)
abbrev tGp : TypeId := 48
abbrev tU64s : TypeId := 55
abbrev tIdF : TypeId := 137
def lastM (s : SpecV) (T : List Ent) : Aut := lastA (gN s T) (alB s T) (relB s T)
abbrev idFn (b : Nat) : Value := .func (.func 77) #[] #[.pointer (some ⟨b, 0, none⟩)]
theorem idKey_spec (w : World) (gb g : Nat) {ec : TypeId} (s : SpecV) (T : List Ent) (h : GrIs w g s T) (hc : w.heap[gb]? = some (.cells #[.pointer (some ⟨g, 0, none⟩)] ec (0, 0))) (i : Nat) (hi : i < gN s T) :
  CP 77 #[.int .i64 (i : Int), .pointer (some ⟨gb, 0, none⟩)] w fun e w' => e = .returned (.int .i64 ((gids s T).getD i 0)) ∧ w' = w := by
 refine calls_ret (vc77_calls i (some ⟨gb, 0, none⟩) w (fun u w' => u = .int .i64 ((gids s T).getD i 0) ∧ w' = w) ?_) (by rintro v w' ⟨rfl, h⟩; exact ⟨rfl, h⟩)
 refine NilC.mk _ rfl ⟨_, cell1 hc, (gId_at w g s T h i hi).mono ?_⟩
 rintro e w1 ⟨rfl, hw⟩
 exact ⟨_, _, rfl, rfl, hw⟩
theorem aloneKey_spec (w : World) (gb fb g : Nat) {ec ef : TypeId} (s : SpecV) (T : List Ent) (h : GrIs w g s T) (hn : gN s T ≤ 1032) (hc : w.heap[gb]? = some (.cells #[.pointer (some ⟨g, 0, none⟩)] ec (0, 0))) (hf : w.heap[fb]? = some (.cells #[idFn gb] ef (0, 0))) (i : Nat) (hi : i < gN s T) :
  CP 79 #[.int .i64 (i : Int), .pointer (some ⟨gb, 0, none⟩), .pointer (some ⟨fb, 0, none⟩)] w fun e w' => e = .returned (.bool (alB s T i)) ∧ Below w.heap.size w w' := by
 refine calls_ret (vc79_calls i (some ⟨gb, 0, none⟩) (some ⟨fb, 0, none⟩) w (fun u w' => u = .bool (alB s T i) ∧ Below w.heap.size w w') ?_) (by rintro v w' ⟨rfl, h⟩; exact ⟨rfl, h⟩)
 intro w1 hw1
 have b1 : Below w.heap.size w w1 := by subst hw1; exact drew_on w
 have hc1 := held_on b1 hc
 refine NilC.mk _ rfl ⟨_, cell1 hc1, NilC.mk _ rfl ⟨_, cell1 (held_on b1 hf), (show CallG ctx (idFn gb) [.int .i64 (i : Int)] w1 _ from callG_of (by kernel_rfl) (idKey_spec w1 gb g s T (h.on b1) hc1 i hi)).mono ?_⟩⟩
 rintro e w2 ⟨rfl, hw⟩
 subst w2
 refine ⟨_, rfl, ⟨cell1 hc1, trivial⟩, (gAlone_spec w1 g s T (h.on b1) hn _).mono ?_⟩
 rintro e w3 ⟨rfl, hw⟩
 subst w3
 rw [gAl_at hi]
 exact ⟨_, rfl, rfl, b1⟩
theorem rowKey_spec (w : World) (rb : Nat) {er : TypeId} (r : Sl) (n : Nat) (p : Nat → Bool) (hr : Rw encU64 1 w r.a (wordsOf n p)) (hl : r.n = (wordsOf n p).length) (hn : n ≤ 100000) (hb : w.heap[rb]? = some (.cells #[r.v] er (0, 0))) (i : Nat) (hi : i < n) :
  CP 80 #[.int .i64 (i : Int), .pointer (some ⟨rb, 0, none⟩)] w fun e w' => e = .returned (.bool (p i)) ∧ Below w.heap.size w w' := by
 refine calls_ret (vc80_calls i (some ⟨rb, 0, none⟩) w (fun u w' => u = .bool (p i) ∧ Below w.heap.size w w') ?_) (by rintro v w' ⟨rfl, h⟩; exact ⟨rfl, h⟩)
 unfold vc80
 rw [div64 i (by omega), mod64]
 rw [wordsOf_length] at hl
 have hk : i / 64 < (n + 63) / 64 := by omega
 obtain ⟨q, hq, _, hc⟩ := hr _ _ (wordsOf_get n p hk)
 have c0 := hc 0 _ rfl
 rw [add_zero] at c0
 refine NilC.mk _ rfl ⟨_, _, _, cell1 hb, by decide, NilC.mk q hq ⟨by omega, by omega, _, c0, by decide, by omega, ?_, Below.refl _ _⟩⟩
 rw [has_bit _ _ (wordAt_lt _ _ _) (Nat.mod_lt _ (by decide)), wordAt_test n p hi]
theorem noKey_spec (i : Nat) (w : World) : CP 81 #[.int .i64 (i : Int)] w fun e w' => e = .returned (.bool false) ∧ Below w.heap.size w w' :=
 calls_ret (vc81_calls i w (fun u w' => u = .bool false ∧ Below w.heap.size w w') ⟨rfl, Below.refl _ _⟩) (by rintro v w' ⟨rfl, h⟩; exact ⟨rfl, h⟩)
theorem lead_row {n : Nat} {al : Nat → Bool} {rel : Nat → Nat → Bool} {m : Nat → Bool} {i : Nat} (h : ∀ k, k < n → m k = mayA n al rel i k) : ((List.range n).map fun k => ((if m k then k + 1 else n + 1 : Nat) : Int)).flatMap encInt = nat1 ((List.range (lastA n al rel).n).map ((lastA n al rel).nxt i)) := by
 unfold nat1
 rw [List.map_map]
 congr 1
 apply List.map_congr_left
 intro k hk
 show ((if m k then k + 1 else n + 1 : Nat) : Int) = ((if mayA n al rel i k then k + 1 else n + 1 : Nat) : Int)
 rw [h k (List.mem_range.1 hk)]
theorem AutB.put {w : World} {B b g : Nat} {M : Aut} {nx gd : Sl} {rs : List Sl} {m j : Nat} (h : AutB w B b g M nx gd rs m j) {k : Nat} {c : Array Value} (hk : w.heap[k]? = some (.cells c tU64s (0, 0))) (u : Value) : AutB (w.setCell ⟨k, 0, none⟩ u) B b g M nx gd rs m j := by
 have hkb : b ≠ k := by
  rintro rfl
  rw [h.blk] at hk
  cases hk
 exact ⟨(heap_setCell_ne hkb).trans h.blk, own_setCell h.onx u (row_ne_blk h.onx hk (by decide)), h.rl, fun i r hr => own_setCell (h.each i r hr) u (row_ne_blk (h.each i r hr) hk (by decide)), own_setCell h.ogd u (row_ne_blk h.ogd hk (by decide))⟩
set_option maxHeartbeats 4000000 in
theorem last_spec (w : World) (g : Nat) (s : SpecV) (T : List Ent) (h : GrIs w g s T) (hn : gN s T ≤ 1032) (hr : RiseG s T) (most : Int) :
  CP 42 #[.pointer (some ⟨g, 0, none⟩), .int .i64 most] w fun e w' => Below w.heap.size w w' ∧ ((((gN s T + 2) * gN s T : Nat) : Int) > most → e = .returned (.tuple #[.pointer none, .int .i64 5])) ∧ (¬ (((gN s T + 2) * gN s T : Nat) : Int) > most → ∃ a, e = .returned (.tuple #[.pointer (some ⟨a, 0, none⟩), .int .i64 0]) ∧ w.heap.size ≤ a ∧ AutIs w' a g (lastM s T)) := by
 let R : Value → World → Prop := fun u w' => Below w.heap.size w w' ∧ ((((gN s T + 2) * gN s T : Nat) : Int) > most → u = .tuple #[.pointer none, .int .i64 5]) ∧ (¬ (((gN s T + 2) * gN s T : Nat) : Int) > most → ∃ a, u = .tuple #[.pointer (some ⟨a, 0, none⟩), .int .i64 0] ∧ w.heap.size ≤ a ∧ AutIs w' a g (lastM s T))
 refine calls_ret (vc42_calls (some ⟨g, 0, none⟩) most w R ?_) (by rintro v w' ⟨h1, h2, h3⟩; exact ⟨h1, fun e => by rw [h2 e], fun e => by obtain ⟨a, rfl, h⟩ := h3 e; exact ⟨a, rfl, h⟩⟩)
 intro w1 hw1
 have b1 : Below w.heap.size w w1 := by subst hw1; exact below_alloc _ _
 have l1 : w1.heap[w.heap.size]? = some (.cells #[.pointer (some ⟨g, 0, none⟩)] tGp (0, 0)) := by subst hw1; exact alloc_new _ _
 have s1 : w.heap.size < w1.heap.size := (Array.getElem?_eq_some_iff.1 l1).1
 refine ⟨_, cell1 l1, (gSize_spec w1 g s T (h.on b1)).mono ?_⟩
 rintro e w2 ⟨rfl, hw⟩
 subst w2
 obtain ⟨n, hgn⟩ : ∃ n, n = gN s T := ⟨_, rfl⟩
 have hgl : (gids s T).length = n := hgn.symm
 have hn2 : n ≤ 1032 := by omega
 have hmul : (n + 2) * n ≤ 1034 * 1032 := Nat.mul_le_mul (by omega) hn2
 rw [hgl]
 refine ⟨_, rfl, _, cell1 l1, CondP.no rfl (Ar.nat (n + 2) rfl (by omega) (Ar.nat ((n + 2) * n) (by simp) (by omega) (CondP.mk (fun hm => ?_) fun hm => ?_)))⟩
 ·have hm := of_decide_eq_true hm
  rw [hgn] at hm
  exact ⟨b1, fun _ => rfl, fun h => absurd hm h⟩
 have hm := of_decide_eq_false hm
 rw [hgn] at hm
 refine ⟨_, cell1 l1, ?_⟩
 intro w3 hw3
 have b3 : Below w1.heap.size w1 w3 := by subst hw3; exact below_alloc _ _
 obtain ⟨M, hM⟩ : ∃ M, M = lastM s T := ⟨_, rfl⟩
 have hMn : M.n = n := by rw [hM, hgn]; rfl
 have hMN : M.N = n + 2 := by rw [hM, hgn]; rfl
 have R3 : AutB w3 w1.heap.size w1.heap.size g M sl0 sl0 [] 0 0 := ⟨by subst hw3; exact alloc_new _ _, own_none _ _ _ _ encS, rfl, (by intro i r h; cases h), own_none _ _ _ _ encB1⟩
 refine Ar.nat (n + 1) rfl (by omega) ?_
 intro w4 hw4
 refine box_store hw4 rfl ?_
 intro w5 l5 b5
 intro w6 hw6
 have b6 : Below w5.heap.size w5 w6 := by subst hw6; exact drew_on w5
 have b36 := below_then b5 b6
 have b16 := below_then b3 b36
 have hb6 := below_then b1 b16
 have R6 := R3.on b36
 have f6 := held_on b6 l5
 have g6 := held_on b16 l1
 have h6 := h.on hb6
 have hall : ∀ (f : Nat → Bool) (i : Nat), (∀ k, k < n → f k = mayA (gN s T) (alB s T) (relB s T) i k) → ((List.range n).map fun k => ((if f k then k + 1 else n + 1 : Nat) : Int)).flatMap encInt = nat1 ((List.range M.n).map (M.nxt i)) := by
  intro f i hf
  rw [hM, hgn]
  exact lead_row (by rw [← hgn] at hf ⊢; exact hf)
 refine ⟨sl0.a, sl0.n, sl0.c, by rw [cell_put R6.blk]; rfl, (leads_spec w6 n (n + 1) _ (alB s T) (by omega) fun k hk q hq => callG_of (by kernel_rfl) (aloneKey_spec q w.heap.size w3.heap.size g s T (h6.on hq) hn (held_on hq g6) (held_on hq f6) k (by omega))).mono ?_⟩
 rintro e w7 ⟨l, rfl, hl, hlo, b7⟩
 have R7 := R6.on b7
 refine ⟨l.a, l.n, l.c, rfl, ⟨by rw [cell_put R7.blk]; rfl, trivial⟩, ?_⟩
 intro w8 hw8
 have b8 : Below w7.heap.size w7 w8 := by subst hw8; exact below_alloc _ _
 have b17 := below_then b16 b7
 have f7 := held_on b7 f6
 have hs1 : w1.heap.size ≤ w6.heap.size := b16.size
 obtain ⟨nx, w9, e9, u9, z9, k9⟩ := R7.pushRow (Nat.le_refl _) (r := l) (by rw [← hall (alB s T) 0 (fun k _ => rfl)]; exact own_base hlo hs1) hw8 b17.size (by omega)
 refine ⟨⟨by rw [cell_put (R7.on b8).blk]; rfl, trivial⟩, nx.a, nx.n, nx.c, w9, e9, rfl, u9, z9, ?_⟩
 intro w10 hw10
 obtain ⟨R10, B10, K10⟩ := k9 w10 hw10
 have f10 := K10 f7 (by decide) (by decide)
 have b110 := B10 w1 b17
 intro I hI
 let Inv (i : Nat) (q : World) : Prop := ∃ nx rs, AutB q w1.heap.size w1.heap.size g M nx sl0 rs (i + 1) 0 ∧ Below w1.heap.size w1 q ∧ q.heap[w3.heap.size]? = some (.cells #[idFn w.heap.size] tIdF (0, 0))
 have key := climb2 (α := World) n Inv (fun i q => I [.int .i64 (i : Int)] q) w10 ⟨nx, _, R10, b110, f10⟩ ?_ ?_
 ·exact key
 ·rintro i hi ih q ⟨nx, rs, Rq, Bq, fq⟩
  have hi' : i < gN s T := by omega
  have tail : ∀ (z : World) (rb : Nat) (r : Sl), z.heap[rb]? = some (.cells #[r.v] tU64s (0, 0)) → Rw encU64 1 z r.a (wordsOf n (relB s T i)) → r.n = (wordsOf n (relB s T i)).length → AutB z w1.heap.size w1.heap.size g M nx sl0 rs (i + 1) 0 → Below w1.heap.size w1 z → z.heap[w3.heap.size]? = some (.cells #[idFn w.heap.size] tIdF (0, 0)) →
    ∀ w17 : World, w17 = z.drew →
           ∃ lA_18 : Option Addr, ∃ lN_19 : Nat, ∃ lC_20 : Nat, w17.cell? ((nb w1).add 1) = some (Value.slice lA_18 lN_19 lC_20) ∧
           CP 78 #[Value.int .i64 (n : Int), Value.int .i64 ((n + 1 : Nat) : Int), Value.func (.func 80) #[] #[Value.pointer (some ⟨rb, 0, none⟩)]] w17 (fun e18 w18 =>
           ∃ lA_21 : Option Addr, ∃ lN_22 : Nat, ∃ lC_23 : Nat, e18 = .returned (Value.slice lA_21 lN_22 lC_23) ∧
           (w18.cell? ((nb w1).add 1) = some (Value.slice lA_18 lN_19 lC_20) ∧ True) ∧
           ∀ w19 : World, w19 = w18.alloc (.cells #[Value.slice lA_21 lN_22 lC_23] tInts) →
           (w19.cell? ((nb w1).add 1) = some (Value.slice lA_18 lN_19 lC_20) ∧ True) ∧
           ∃ lA_24 : Option Addr, ∃ lN_25 : Nat, ∃ lC_26 : Nat, ∃ w20 : World, (Builtin.append_ #[tIntss, tIntss] tIntss #[Value.slice lA_18 lN_19 lC_20, Value.slice (some (nb w18)) 1 1]).run Tryz.prog w19 = .ok (Value.slice lA_24 lN_25 lC_26) w20 ∧
           (Value.slice lA_24 lN_25 lC_26).oneCell' = true ∧ (∃ u, w20.cell? ((nb w1).add 1) = some u) ∧ w20.frozen? ((nb w1).add 1) = false ∧
           ∀ w21 : World, w21 = (w20.setCell ((nb w1).add 1) (Value.slice lA_24 lN_25 lC_26)) →
           Ar .i64 ((i : Int) + 1) (fun n_27 => I [Value.int .i64 n_27] w21)) := by
   intro z rb r hz hrw hrl Rz Bz fz w17 hw17
   have bd : Below z.heap.size z w17 := by subst hw17; exact drew_on z
   have Rd := Rz.on bd
   refine ⟨nx.a, nx.n, nx.c, by rw [cell_put Rd.blk]; rfl, (leads_spec w17 n (n + 1) _ (relB s T i) (by omega) fun k hk q hq => callG_of (by kernel_rfl) (rowKey_spec q rb r n (relB s T i) ((hrw.on bd).on hq) hrl (by omega) (held_on hq (held_on bd hz)) k hk)).mono ?_⟩
   rintro e w18 ⟨l, rfl, hl, hlo, b18⟩
   have R18 := Rd.on b18
   refine ⟨l.a, l.n, l.c, rfl, ⟨by rw [cell_put R18.blk]; rfl, trivial⟩, ?_⟩
   intro w19 hw19
   have b19 : Below w18.heap.size w18 w19 := by subst hw19; exact below_alloc _ _
   have Bd := below_then Bz bd
   have B18 := below_then Bd b18
   have f18 := held_on b18 (held_on bd fz)
   obtain ⟨nx', w20, e20, u20, z20, k20⟩ := R18.pushRow (Nat.le_refl _) (r := l) (by
    rw [← hall (relB s T i) (i + 1) (fun k _ => by
     unfold mayA
     rw [if_neg (by omega), if_pos (by omega)]
     rfl)]
    exact own_base hlo Bd.size) hw19 B18.size (by omega)
   refine ⟨⟨by rw [cell_put (R18.on b19).blk]; rfl, trivial⟩, nx'.a, nx'.n, nx'.c, w20, e20, rfl, u20, z20, ?_⟩
   intro w21 hw21
   obtain ⟨R21, B21, K21⟩ := k20 w21 hw21
   exact Ar.nat (i + 1) rfl (by omega) (ih w21 ⟨nx', _, R21, B21 w1 B18, K21 f18 (by decide) (by decide)⟩)
  refine hI _ _ (CondP.yes (decide_eq_true (by omega)) ?_)
  intro w12 hw12
  have b12 : Below q.heap.size q w12 := by subst hw12; exact drew_on q
  have B12 := below_then Bq b12
  have R12 := Rq.on b12
  have f12 := held_on b12 fq
  have g12 := held_on B12 l1
  have h12 : GrIs w12 g s T := (h.on b1).on B12
  have rowOf : ∀ (z : World), GrIs z g s T → CP 31 #[.pointer (some ⟨g, 0, none⟩), .int .i64 ((gids s T).getD i 0)] z fun e z' => ∃ r : Sl, e = .returned r.v ∧ Rw encU64 1 z' r.a (wordsOf n (relB s T i)) ∧ r.n = (wordsOf n (relB s T i)).length ∧ z'.ownsRow z.heap.size tU64 1 r.v r.n ((wordsOf n (relB s T i)).flatMap encU64) ∧ Below z.heap.size z z' := by
   intro z hz
   refine (gRow_spec z g s T hz hn _).mono ?_
   rintro e z' ⟨bz, ⟨hno, _⟩ | ⟨k, l, hk, rfl, ho⟩⟩
   ·rw [plc_at hr hi'] at hno; cases hno
   ·rw [plc_at hr hi'] at hk
    cases hk
    rw [hgl] at ho
    have hls := LsAt.of_own elU64 ho
    exact ⟨l, rfl, hls.r, hls.n, ho, bz⟩
  refine ⟨_, cell1 g12, _, cell1 f12, (show CallG ctx (idFn w.heap.size) [.int .i64 (i : Int)] w12 _ from callG_of (by kernel_rfl) (idKey_spec w12 w.heap.size g s T h12 g12 i hi')).mono ?_, ?_⟩
  ·rintro e w13 ⟨rfl, hw⟩
   subst w13
   refine ⟨_, rfl, ⟨cell1 g12, trivial⟩, (rowOf w12 h12).mono ?_, ?_⟩
   ·rintro e w14 ⟨r, rfl, hrw, hrl, _, b14⟩
    refine ⟨_, _, _, rfl, ?_⟩
    intro w15 hw15
    refine box_store hw15 rfl ?_
    intro w16 l16 b16'
    exact tail w16 w14.heap.size r l16 (hrw.on b16') hrl ((R12.on b14).on b16') (below_then (below_then B12 b14) b16') (held_on b16' (held_on b14 f12))
   ·intro w22 hw22
    have b22 : Below w12.heap.size w12 w22 := by subst hw22; exact below_alloc _ _
    have o22 : w22.heap[w12.heap.size]? = some (.cells #[.slice none 0 0] tU64s (0, 0)) := by subst hw22; exact alloc_new _ _
    refine ⟨⟨cell1 (held_on b22 g12), trivial⟩, (rowOf w22 (h12.on b22)).mono ?_⟩
    rintro e w23 ⟨r, rfl, hrw, hrl, hro, b23⟩
    have o23 := held_on b23 o22
    have b1223 := below_then b22 b23
    refine ⟨_, _, _, rfl, rfl, ⟨_, cell1 o23⟩, frozen_heap o23, ?_⟩
    intro w24 hw24
    have hrl' := hrl
    subst hw24
    have hb24 : Below w1.heap.size w1 (w23.setCell (nb w12) r.v) := (below_then B12 b1223).setCell (p := ⟨w12.heap.size, 0, none⟩) B12.size _
    have hne : w3.heap.size ≠ w12.heap.size := by have := (Array.getElem?_eq_some_iff.1 f12).1; omega
    exact tail _ w12.heap.size r (setCell_heap o23 r.v) (LsAt.of_own elU64 (own_setCell hro r.v (row_ne_blk hro o23 (by decide)))).r hrl ((R12.on b1223).put o23 _) hb24 ((heap_setCell_ne (show w3.heap.size ≠ (nb w12).block from hne)).trans (held_on b1223 f12))
  ·intro w30 hw30
   have b30 : Below w12.heap.size w12 w30 := by subst hw30; exact below_alloc _ _
   have o30 : w30.heap[w12.heap.size]? = some (.cells #[.slice none 0 0] tU64s (0, 0)) := by subst hw30; exact alloc_new _ _
   have g30 := held_on b30 g12
   refine ⟨⟨cell1 (held_on b30 f12), trivial⟩, ⟨cell1 g30, trivial⟩, (show CallG ctx (idFn w.heap.size) [.int .i64 (i : Int)] w30 _ from callG_of (by kernel_rfl) (idKey_spec w30 w.heap.size g s T (h12.on b30) g30 i hi')).mono ?_⟩
   rintro e w31 ⟨rfl, hw⟩
   subst w31
   refine ⟨_, rfl, ⟨cell1 g30, trivial⟩, (rowOf w30 (h12.on b30)).mono ?_⟩
   rintro e w32 ⟨r, rfl, hrw, hrl, hro, b32⟩
   have o32 := held_on b32 o30
   have b1232 := below_then b30 b32
   refine ⟨_, _, _, rfl, rfl, ⟨_, cell1 o32⟩, frozen_heap o32, ?_⟩
   intro w33 hw33
   subst hw33
   have hb33 : Below w1.heap.size w1 (w32.setCell (nb w12) r.v) := (below_then B12 b1232).setCell (p := ⟨w12.heap.size, 0, none⟩) B12.size _
   have hne : w3.heap.size ≠ w12.heap.size := by have := (Array.getElem?_eq_some_iff.1 f12).1; omega
   exact tail _ w12.heap.size r (setCell_heap o32 r.v) (LsAt.of_own elU64 (own_setCell hro r.v (row_ne_blk hro o32 (by decide)))).r hrl ((R12.on b1232).put o32 _) hb33 ((heap_setCell_ne (show w3.heap.size ≠ (nb w12).block from hne)).trans (held_on b1232 f12))
 ·rintro q ⟨nx, rs, Rq, Bq, fq⟩
  refine hI _ _ (CondP.no (decide_eq_false (by omega)) ?_)
  intro w39 hw39
  have b39 : Below q.heap.size q w39 := by subst hw39; exact drew_on q
  have R39 := Rq.on b39
  have B39 := below_then Bq b39
  refine ⟨nx.a, nx.n, nx.c, by rw [cell_put R39.blk]; rfl, (leads_spec w39 n (n + 1) _ (fun _ => false) (by omega) fun k hk z hz => callG_of (by kernel_rfl) (noKey_spec k z)).mono ?_⟩
  rintro e w40 ⟨l, rfl, hl, hlo, b40⟩
  have R40 := R39.on b40
  have B40 := below_then B39 b40
  refine ⟨l.a, l.n, l.c, rfl, ⟨by rw [cell_put R40.blk]; rfl, trivial⟩, ?_⟩
  intro w41 hw41
  have b41 : Below w40.heap.size w40 w41 := by subst hw41; exact below_alloc _ _
  obtain ⟨nx', w42, e42, u42, z42, k42⟩ := R40.pushRow (Nat.le_refl _) (r := l) (by
   rw [← hall (fun _ => false) (n + 1) (fun k _ => by
    unfold mayA
    rw [if_neg (by omega), if_neg (by omega)])]
   exact own_base hlo B39.size) hw41 B40.size (by omega)
  refine ⟨⟨by rw [cell_put (R40.on b41).blk]; rfl, trivial⟩, nx'.a, nx'.n, nx'.c, w42, e42, rfl, u42, z42, ?_⟩
  intro w43 hw43
  obtain ⟨R43, B43, _⟩ := k42 w43 hw43
  have B43 := B43 w1 B40
  intro w44 hw44
  have b44 : Below w43.heap.size w43 w44 := by subst hw44; exact below_alloc _ _
  have hx : Rw encB1 1 w44 (some (nb w43)) [true] := by
   have o : w44.ownsRow 0 tBool 1 (.slice (some (nb w43)) 1 1) 1 ([true].flatMap encB1) := by subst hw44; exact own_made _ rfl (by decide) (Nat.zero_le _)
   exact (LsAt.of_own (l := ⟨some (nb w43), 1, 1⟩) elBl o).r
  refine Ar.nat (n + 2) rfl (by omega) ((repeat_spec w44 _ 1 (n + 2) (Nat.le_refl _) hx (by omega) (by omega)).mono ?_)
  rintro e w45 ⟨gd, rfl, hgd, hgo, b45⟩
  have b4345 := below_then b44 b45
  have R45 := R43.on b4345
  have B45 := below_then B43 b4345
  refine ⟨gd.a, gd.n, gd.c, rfl, rfl, ⟨_, by rw [cell_put R45.blk]; rfl⟩, frozen_put R45.blk, ?_⟩
  intro w46 hw46
  have k46 : w46.heap[w1.heap.size]? = some (.cells (autC g nx' gd 0 0 sl0) tAuto (0, 0)) := by subst hw46; exact heap_put R45.blk _
  have same46 : ∀ {B sz n : Nat} {e : TypeId} {u : Value} {xs : List Value}, w45.ownsRow B e sz u n xs → e ≠ tAuto → w46.ownsRow B e sz u n xs := by
   intro B sz n e u xs ho hne
   subst hw46
   exact own_setCell ho _ (by rw [add_block]; exact row_ne_blk ho R45.blk hne)
  have B46 : Below w1.heap.size w1 w46 := by subst hw46; exact below_put B45 (Nat.le_refl _) _
  have go46 := same46 hgo (by decide)
  obtain ⟨ga, hga⟩ : ∃ ga, gd.a = some ga := by
   obtain ⟨p, hp, _⟩ := (LsAt.of_own elBl go46).r 0 true (by simp [List.getElem?_replicate])
   exact ⟨p, hp⟩
  obtain ⟨u, fz, k⟩ := own_write (l := gd) (enc := encB1) (sz := 1) (fun _ => rfl) (by decide) go46 (by simp [hgd]) hga (i := n + 1) (x := true) (by simp [List.getElem?_replicate]) (k := 0) (by decide) false (.bool false) rfl
  rw [add_zero] at u fz k
  refine ⟨_, _, _, by rw [cell_put k46]; rfl, NilC.mk ga hga ⟨by omega, by omega, rfl, u, fz, ?_⟩⟩
  intro w47 hw47
  obtain ⟨o47, s47, z47, b47⟩ := k w47 hw47
  have ne47 : gd.v.ownBlock ≠ some w1.heap.size := row_ne_blk go46 k46 (by decide)
  have same47 : ∀ {B sz n : Nat} {e : TypeId} {u : Value} {xs : List Value}, w46.ownsRow B e sz u n xs → e ≠ tBool → w47.ownsRow B e sz u n xs := fun ho hne => own_same ho fun j hj => s47 j (row_ne_row ho go46 hne j hj)
  have hgood : ((List.replicate (n + 2) true).set (n + 1) false) = (List.range M.N).map M.good := by
   rw [hMN, hM]
   apply List.ext_getElem?
   intro j
   by_cases hj : j < n + 2
   ·rw [List.getElem?_set, List.getElem?_map, List.getElem?_range hj]
    show _ = some (decide (j ≤ gN s T))
    rw [← hgn]
    by_cases e : n + 1 = j
    ·subst e; simp
    ·rw [if_neg e, List.getElem?_replicate, if_pos hj, decide_eq_true (by omega)]
   ·rw [List.getElem?_eq_none_iff.2 (by simp; omega), List.getElem?_eq_none_iff.2 (by simp; omega)]
  rw [hgood] at o47
  have hbf : Below w1.heap.size w1 w47 := b47 _ _ (by have := b17.size; have := (below_then B43 b44).size; omega) B46
  refine ⟨below_then b1 hbf, fun h => absurd h hm, fun _ => ⟨w1.heap.size, rfl, Nat.le_of_lt s1, ?_⟩⟩
  rw [← hM]
  have hok : M.Ok := by rw [hM]; exact last_ok (by omega)
  refine ⟨none, nx', gd, sl0, _, 0, (s47 _ ne47).trans k46, ⟨own_base (same47 (same46 R45.onx (by decide)) (by decide)) (Nat.zero_le _), by rw [R45.rl, hMN], fun i r hi => own_base (same47 (same46 (R45.each i r hi) (by decide)) (by decide)) (Nat.zero_le _), own_base o47 (Nat.zero_le _), hok⟩, rfl, rfl⟩
theorem aGood_spec (w : World) (a g : Nat) (M : Aut) (h : AutIs w a g M) (x : Int) :
  CP 44 #[.pointer (some ⟨a, 0, none⟩), .int .i64 x] w fun e w' => e = .returned (.bool (decide (0 ≤ x ∧ x < (M.N : Int)) && M.good x.toNat)) ∧ w' = w := by
 refine calls_ret (vc44_calls (some ⟨a, 0, none⟩) x w (fun u w' => u = .bool (decide (0 ≤ x ∧ x < (M.N : Int)) && M.good x.toNat) ∧ w' = w) ?_) (by rintro v w' ⟨rfl, h⟩; exact ⟨rfl, h⟩)
 refine (aHas_spec w a g M h x).mono ?_
 rintro e w1 ⟨rfl, hw⟩
 subst w1
 refine ⟨_, rfl, CondP.mk (fun h0 => ?_) fun h0 => ⟨by rw [h0]; rfl, rfl⟩⟩
 have h1 := of_decide_eq_true h0
 obtain ⟨o, h⟩ := h
 obtain ⟨next, good, of, rs, d, hb, hM⟩ := h.blk
 have hl := hM.len.2
 obtain ⟨p, hp, c⟩ := hM.good (show x.toNat < M.N by omega)
 refine NilC.mk _ rfl ⟨_, _, _, by rw [acell hb]; rfl, NilC.mk p hp ⟨by omega, by omega, _, c, by rw [h0]; rfl, rfl⟩⟩
def nextV (M : Aut) (s : SpecV) (T : List Ent) (x id : Int) : Value :=
 match (if 0 ≤ x ∧ x < (M.N : Int) then plc s T id else none) with
 | some k => .tuple #[.int .i64 ((M.nxt x.toNat k : Nat) : Int), .bool true]
 | none => .tuple #[.int .i64 0, .bool false]
theorem aNext_spec (w : World) (a g : Nat) (M : Aut) (h : AutIs w a g M) (s : SpecV) (T : List Ent) (hG : GrIs w g s T) (hn : M.n = gN s T) (x id : Int) :
  CP 45 #[.pointer (some ⟨a, 0, none⟩), .int .i64 x, .int .i64 id] w fun e w' => e = .returned (nextV M s T x id) ∧ w' = w := by
 refine calls_ret (vc45_calls (some ⟨a, 0, none⟩) x id w (fun u w' => u = nextV M s T x id ∧ w' = w) ?_) (by rintro v w' ⟨rfl, h⟩; exact ⟨rfl, h⟩)
 refine (aHas_spec w a g M h x).mono ?_
 rintro e w1 ⟨rfl, hw⟩
 subst w1
 refine ⟨_, rfl, CondP.mk (fun h0 => ?_) fun h0 => ?_⟩
 ·have h0 := of_decide_eq_false ((Bool.not_eq_true' _).mp h0)
  unfold nextV
  rw [if_neg h0]
  exact ⟨rfl, rfl⟩
 have h0 := of_decide_eq_true ((Bool.not_eq_false' _).mp h0)
 obtain ⟨o, h⟩ := h
 obtain ⟨next, good, of, rs, d, hb, hM⟩ := h.blk
 have hl := hM.len.1
 unfold nextV
 rw [if_pos h0]
 refine NilC.mk _ rfl ⟨_, by rw [acell hb]; rfl, (gPlace_spec w g s T hG id).mono ?_⟩
 rintro e w2 ⟨rfl, hw⟩
 subst w2
 refine ⟨_, _, rfl, CondP.mk (fun h1 => ?_) fun h1 => ?_⟩
 ·cases hp : plc s T id with
  | none => exact ⟨rfl, rfl⟩
  | some k => rw [hp] at h1; cases h1
 ·cases hp : plc s T id with
  | none => rw [hp] at h1; cases h1
  | some k =>
   have hk : k < M.n := by rw [hn]; exact (plc_some hp).1
   obtain ⟨p, r, hp1, c1, hrn, hr⟩ := hM.row (show x.toNat < M.N by omega)
   obtain ⟨p2, hp2, c2⟩ := nums_cell hr hk
   refine NilC.mk _ rfl ⟨_, _, _, by rw [acell hb]; rfl, NilC.mk p hp1 ⟨by omega, by omega, _, _, _, c1, NilC.mk p2 hp2 ⟨?_, ?_, _, c2, rfl, rfl⟩⟩⟩
   ·show (0 : Int) ≤ ((k : Nat) : Int); omega
   ·show ((k : Nat) : Int) < _; omega
theorem GrIs.past {w w' : World} {g : Nat} {s : SpecV} {T : List Ent} (h : GrIs w g s T) {b : Nat} {c : Array Value} {e : TypeId} {fz : Nat × Nat} (hb : w.heap[b]? = some (.cells c e fz)) (hs : ∀ j, j < w.heap.size → j ≠ b → w'.heap[j]? = w.heap[j]?) (n1 : tGrid ≠ e) (n2 : tInt ≠ e) (n3 : tRow ≠ e) (n4 : tU64 ≠ e) : GrIs w' g s T := by
 obtain ⟨ids, rows, alone, mb, rs, hR⟩ := h
 have own : ∀ {B sz n : Nat} {t : TypeId} {u : Value} {xs : List Value}, w.ownsRow B t sz u n xs → t ≠ e → w'.ownsRow B t sz u n xs := fun ho hne => own_same ho fun k hk => hs k (own_lt ho k hk).2 fun e2 => row_ne_blk ho hb hne (by rw [hk, e2])
 refine ⟨ids, rows, alone, mb, rs, (hs g (Array.getElem?_eq_some_iff.1 hR.blk).1 ?_).trans hR.blk, own hR.oi n2, hR.map.same (hs mb hR.map.lt ?_), own hR.orows n3, hR.rl, fun i r hi => own (hR.each i r hi) n4, own hR.oal n4⟩
 ·rintro rfl
  have := hR.blk
  rw [hb] at this
  cases this
  exact n1 rfl
 ·rintro rfl
  obtain ⟨es, k, hm, _⟩ := hR.map
  rw [hb] at hm
  cases hm
theorem AutIs.skip {w w' : World} {a g : Nat} {M : Aut} (h : AutIs w a g M) {b : Nat} {c : Array Value} {e : TypeId} {fz : Nat × Nat} (hb : w.heap[b]? = some (.cells c e fz)) (hs : ∀ j, j < w.heap.size → j ≠ b → w'.heap[j]? = w.heap[j]?) (n1 : tAuto ≠ e) (n2 : tInt ≠ e) (n3 : tInts ≠ e) (n4 : tBool ≠ e) : AutIs w' a g M := by
 obtain ⟨o, next, good, of, rs, d, h1, h2, h3⟩ := h
 have own : ∀ {B sz n : Nat} {t : TypeId} {u : Value} {xs : List Value}, w.ownsRow B t sz u n xs → t ≠ e → w'.ownsRow B t sz u n xs := fun ho hne => own_same ho fun k hk => hs k (own_lt ho k hk).2 fun e2 => row_ne_blk ho hb hne (by rw [hk, e2])
 refine ⟨o, next, good, of, rs, d, (hs a (Array.getElem?_eq_some_iff.1 h1).1 ?_).trans h1, ⟨own h2.onx n3, h2.rl, fun i r hi => own (h2.each i r hi) n2, own h2.ogd n4, h2.ok⟩, ?_⟩
 ·rintro rfl
  rw [hb] at h1
  cases h1
  exact n1 rfl
 ·cases o with
  | none => exact h3
  | some f => exact ⟨h3.1, h3.2.1, h3.2.2.1, own h3.2.2.2 n2⟩
structure BothA (w : World) (g a : Nat) (y : RvW) (s : SpecV) (T : List Ent) : Prop where
 base : ∃ w0, GrIs w0 g s T ∧ RvAt w0 y s T ∧ w0.heap.size ≤ a ∧ Below w0.heap.size w0 w
 aut : AutIs w a g (lastM s T)
 n : gN s T ≤ 1006
 pos : 0 < gN s T
 rise : RiseG s T
 ok : TOk T
 vok : (vocOf s T).Ok
theorem BothA.grid {w : World} {g a : Nat} {y : RvW} {s : SpecV} {T : List Ent} (h : BothA w g a y s T) : GrIs w g s T := by
 obtain ⟨w0, h1, _, _, h4⟩ := h.base
 exact h1.on h4
theorem BothA.on {w w' : World} {g a : Nat} {y : RvW} {s : SpecV} {T : List Ent} (h : BothA w g a y s T) (hb : Below w.heap.size w w') : BothA w' g a y s T := by
 obtain ⟨w0, h1, h2, h3, h4⟩ := h.base
 exact ⟨⟨w0, h1, h2, h3, below_then h4 hb⟩, h.aut.on hb, h.n, h.pos, h.rise, h.ok, h.vok⟩
theorem both17_spec (w : World) (y : CsW) (ls : List Int) (cs : List (Int × Int × Int)) (js : List (Int × Int)) (xs : List (Int × Bs)) (h : CsAt w y ls cs js xs) :
  CP 39 #[y.v] w fun e w' => ∃ g a r s T, e = .returned (.tuple #[.pointer (some ⟨g, 0, none⟩), .pointer (some ⟨a, 0, none⟩), r.v]) ∧ BothA w' g a r s T ∧ Below w.heap.size w w' ∧ w.heap.size ≤ a := by
 let R : Value → World → Prop := fun u w' => ∃ g a r s T, u = .tuple #[.pointer (some ⟨g, 0, none⟩), .pointer (some ⟨a, 0, none⟩), r.v] ∧ BothA w' g a r s T ∧ Below w.heap.size w w' ∧ w.heap.size ≤ a
 refine calls_ret (vc39_calls y.l.a y.l.n y.l.c y.c.a y.c.n y.c.c y.j.a y.j.n y.j.c y.x.a y.x.n y.x.c w R ?_) (by rintro v w' ⟨g, a, r, s, T, rfl, h⟩; exact ⟨g, a, r, s, T, rfl, h⟩)
 intro w1 hw1 w2 hw2
 have hb1 : Below w.heap.size w w1 := by subst hw1; exact below_alloc _ _
 have b2 : Below w1.heap.size w1 w2 := by subst hw2; exact below_alloc _ _
 have hb2 := below_then hb1 b2
 have l2 : w2.heap[w.heap.size]? = some (.cells y.cells tCs (0, 0)) := held_on b2 (by subst hw1; exact alloc_new _ _)
 have z2 : w2.heap[w1.heap.size]? = some (.cells rv0.cells tRv (0, 0)) := by subst hw2; exact alloc_new _ _
 have lt1 : w.heap.size < w1.heap.size := by subst hw1; rw [alloc_size]; omega
 refine ⟨_, _, _, _, _, _, _, _, _, _, _, _, agg4 l2, ?_⟩
 refine (lawOf_spec w2 y ls cs js xs (h.on hb2)).mono ?_
 rintro e w3 ⟨u, rfl, v, r, s, T, rfl, hB3, hv, b3⟩
 have hb3 := below_then hb2 b3
 refine ⟨_, _, _, _, _, _, _, _, _, _, _, _, _, _, _, _, rfl, ?_⟩
 intro w4 hw4
 refine storeP_new (slRv rv0) (slRv r) rfl (ones_rv r) w4 hw4 ?_
 intro w5 h5 hz5 b5
 have hB := hB3.on b5
 have hb5 := below_then hb3 b5
 have z5 := held_on (below_then b3 b5) z2
 have hz2 := hb2.size
 obtain ⟨hl, hsq⟩ := gids_few hB
 refine (gridNew_spec w5 v s T hB.voc hB.asc 1048576).mono ?_
 rintro e w6 ⟨u, rfl, hV6, t6, hu⟩
 rw [if_neg (by omega)] at hu
 obtain ⟨g, rfl, hG, hg⟩ := hu
 have hvl : w2.heap.size ≤ v := hv
 have lt2 : w1.heap.size < w2.heap.size := (Array.getElem?_eq_some_iff.1 z2).1
 have b56 : Below w2.heap.size w5 w6 := t6.below hvl (below_then b3 b5).size
 have hb6 : Below w.heap.size w w6 := hb5.trans (b56.mono hz2)
 have z6 : w6.heap[w1.heap.size]? = some (.cells rv0.cells tRv (0, 0)) := (b56.block _ lt2).trans z5
 have h6 := t6.held (by have := hB3.voc.lt; omega) h5
 have hR6 := hB.rv w6 t6
 have hrise : RiseG s T := gids_rising hB.asc (by
  obtain ⟨w0', x, tp, bp, mp, d, l, uses, hR⟩ := hB.voc
  exact hR.now.ids)
 have hn : gN s T ≤ 1006 := hl
 have hmost : ¬ (((gN s T + 2) * gN s T : Nat) : Int) > 1048576 := by
  have : (gN s T + 2) * gN s T ≤ 1008 * 1006 := Nat.mul_le_mul (by omega) hn
  omega
 have hok := hB.now.ok
 refine ⟨_, _, rfl, (last_spec w6 g s T hG (by omega) hrise 1048576).mono ?_⟩
 rintro e w7 ⟨b7, _, hu⟩
 obtain ⟨a, rfl, ha, hA⟩ := hu hmost
 refine ⟨_, _, rfl, CondP.no rfl (CondP.no rfl ?_)⟩
 intro w8 hw8
 have b8 : Below w7.heap.size w7 w8 := by subst hw8; exact drew_on w7
 have b68 := below_then b7 b8
 have z8 := held_on b68 z6
 refine ⟨_, _, _, _, _, _, _, _, _, _, _, _, _, _, _, agg5 (x := r) (held_on b68 h6), ?_⟩
 refine storeP_cells z8 (slRv r) rfl (ones_rv r) ?_
 intro w9 h9 hs9 hz9 hB9
 have hb9 : Below w.heap.size w w9 := hB9 _ _ (Nat.le_of_lt lt1) (below_then hb6 b68)
 refine ⟨_, _, _, _, _, _, _, _, _, _, _, _, _, _, _, agg5 (x := r) h9, g, a, r, s, T, rfl, ⟨?_, (hA.on b8).skip z8 (fun j _ hj => hs9 j hj) (by decide) (by decide) (by decide) (by decide), hn, ?_, hrise, hok, hB.now.vok⟩, hb9, by have := hb6.size; omega⟩
 ·have h0 : w1.heap.size < w6.heap.size := (Array.getElem?_eq_some_iff.1 z6).1
  let w0 : World := { w6 with heap := w6.heap.setIfInBounds w1.heap.size (.cells (slRv r).toArray tRv (0, 0)) }
  have hz0 : w0.heap.size = w6.heap.size := by simp [w0]
  have same : ∀ j, j ≠ w1.heap.size → w0.heap[j]? = w6.heap[j]? := fun j hj => by
   show (w6.heap.setIfInBounds w1.heap.size _)[j]? = _
   rw [Array.getElem?_setIfInBounds_ne (fun e => hj e.symm)]
  refine ⟨w0, GrIs.past hG z6 (fun j _ hj => same j hj) (by decide) (by decide) (by decide) (by decide), hR6.past z6 (soft_rv rv0) (fun j _ hj => same j hj) (Nat.le_of_eq hz0.symm), by rw [hz0]; exact ha, ?_⟩
  have hB9' := hB9 0 w8 (Nat.zero_le _) (Below.refl _ _)
  refine ⟨hB9'.os.trans b68.os, hB9'.tape.trans b68.tape, hB9'.output.trans b68.output, by rw [hz0, hz9]; exact b68.size, fun k hk => ?_⟩
  rw [hz0] at hk
  by_cases e : k = w1.heap.size
  ·subst e
   rw [h9]
   show _ = (w6.heap.setIfInBounds w1.heap.size _)[w1.heap.size]?
   rw [Array.getElem?_setIfInBounds_self_of_lt h0]
  ·rw [same k e, hs9 k e]
   exact b68.block k hk
 ·have := hok.len
  unfold gN
  rw [gids_length]
  omega
theorem may_aw {i k : Nat} (hi : i ≤ 257) (hk : k < 257) : mayA 257 (alB sAw tAw) (relB sAw tAw) i k = !(decide (i = 98) && decide (k = 98)) := by
 unfold mayA
 by_cases e : i = 0
 ·subst e
  rw [if_pos rfl, al_aw hk]
  rfl
 ·rw [if_neg e, if_pos hi, rel_aw (by omega) hk]
  congr 2
  exact decide_eq_decide.2 (by omega)
theorem many_of {al : Nat → Bool} {rel : Nat → Nat → Bool} (ha : ∀ i, i < 257 → al i = true) (hm : ∀ i k, i ≤ 257 → k < 257 → mayA 257 al rel i k = !(decide (i = 98) && decide (k = 98))) : (rowsA 257 al rel (257 + 1)).length = 2 := by
 have hact : ∀ i, i < 258 → actA al i = true := by
  intro i hi
  unfold actA
  by_cases e : i = 0
  ·subst e; rfl
  ·rw [ha _ (by omega)]
   simp
 have hrow : ∀ i, i < 258 → rowB 257 al rel i = rowB 257 al rel (if i = 98 then 98 else 0) := by
  intro i hi
  refine rowB_iff.2 fun k hk => ?_
  by_cases e : i = 98
  ·subst e; rfl
  ·rw [if_neg e, hm _ _ (by omega) hk, hm _ _ (by omega) hk, decide_eq_false e]
   rfl
 have hne : rowB 257 al rel 0 ≠ rowB 257 al rel 98 := by
  intro e
  have := rowB_iff.1 e 98 (by decide)
  rw [hm _ _ (by decide) (by decide), hm _ _ (by decide) (by decide)] at this
  revert this
  decide
 apply Nat.le_antisymm
 ·refine nodup_le (m := [rowB 257 al rel 0, rowB 257 al rel 98]) (rowsA_nodup _) fun r hr => ?_
  obtain ⟨i, hi, _, rfl⟩ := (rowsA_mem _ _).1 hr
  rw [hrow i hi]
  split
  ·exact List.mem_cons_of_mem _ List.mem_cons_self
  ·exact List.mem_cons_self
 ·refine nodup_le (l := [rowB 257 al rel 0, rowB 257 al rel 98]) ?_ fun r hr => ?_
  ·simp [hne]
  ·rcases List.mem_cons.1 hr with rfl | hr
   ·exact (rowsA_mem _ _).2 ⟨0, by decide, hact 0 (by decide), rfl⟩
   ·rw [List.mem_singleton.1 hr]
    exact (rowsA_mem _ _).2 ⟨98, by decide, hact 98 (by decide), rfl⟩
theorem bad_of {al : Nat → Bool} {rel : Nat → Nat → Bool} (ha : ∀ i, i < 257 → al i = true) (hm : ∀ i k, i ≤ 257 → k < 257 → mayA 257 al rel i k = !(decide (i = 98) && decide (k = 98))) : badA 257 al rel (257 + 1) = true := by
 refine badA_iff.2 ⟨98, 98, by decide, ?_, by decide, ?_⟩
 ·unfold actA
  rw [ha _ (by decide)]
  rfl
 ·rw [hm _ _ (by decide) (by decide)]
  rfl
theorem least_N (M : Aut) (f : Nat → Nat) : (Aut.least M f).N = (Aut.metL M f).length := rfl
theorem least_of {al : Nat → Bool} {rel : Nat → Nat → Bool} (ha : ∀ i, i < 257 → al i = true) (hm : ∀ i k, i ≤ 257 → k < 257 → mayA 257 al rel i k = !(decide (i = 98) && decide (k = 98))) {M : Aut} (hM : M = lastA 257 al rel) {f : Nat → Nat} (hc : Aut.Cls M f) : (Aut.least M f).N = 3 := by
 subst hM
 rw [least_N, least_many (n := 257) (by decide) (fun i k hi hk _ => ha k hk) hc, many_of ha hm, bad_of ha hm, if_pos rfl]
theorem least_aw {f : Nat → Nat} (hc : Aut.Cls (lastM sAw tAw) f) : (Aut.least (lastM sAw tAw) f).N = 3 :=
 least_of (fun i hi => al_aw hi) (fun i k hi hk => may_aw hi hk) (by unfold lastM; rw [gN_aw]) hc
theorem awake17_spec (w : World) : CP 38 #[] w fun e w' => e = .returned (.bool true) ∧ Below w.heap.size w w' := by
 refine calls_ret (vc38_calls w (fun u w' => u = .bool true ∧ Below w.heap.size w w') ?_) (by rintro v w' ⟨rfl, h⟩; exact ⟨rfl, h⟩)
 intro w1 hw1
 have hb1 : Below w.heap.size w w1 := by subst hw1; exact below_alloc _ _
 refine (vocabNew_spec w1 _ sAw (specAt_aw w w1 hw1)).mono ?_
 rintro e w2 ⟨u, rfl, hb2, hp⟩
 rw [if_pos right_aw, build_aw] at hp
 obtain ⟨v, rfl, hV, hv⟩ := hp
 have hb12 := below_then hb1 hb2
 have hz1 := hb1.size
 refine ⟨_, _, _, rfl, ?_⟩
 refine (gridNew_spec w2 v sAw tAw hV List.Pairwise.nil 1048576).mono ?_
 rintro e w3 ⟨u, rfl, hV3, t3, hu⟩
 rw [gids_aw, if_neg (by decide)] at hu
 obtain ⟨g, rfl, hG, hg⟩ := hu
 have hb3 : Below w.heap.size w w3 := hb12.trans (t3.below (by omega) hb12.size)
 have hn : gN sAw tAw ≤ 1032 := by rw [gN_aw]; decide
 refine ⟨_, _, rfl, (last_spec w3 g sAw tAw hG hn rise_aw 1048576).mono ?_⟩
 rintro e w4 ⟨b4, _, hu⟩
 obtain ⟨a, rfl, ha, hA⟩ := hu (by rw [gN_aw]; decide)
 have hMN : (lastM sAw tAw).N = 259 := by
  show gN sAw tAw + 2 = 259
  rw [gN_aw]
 have hMn : (lastM sAw tAw).n = 257 := gN_aw
 refine ⟨_, _, rfl, CondP.yes rfl ((aStates_spec w4 a g _ hA).mono ?_)⟩
 rintro e w5 ⟨rfl, hw⟩
 subst w5
 rw [hMN]
 refine ⟨_, rfl, CondP.yes rfl ((least_spec w4 a g _ hA (by rw [hMN]; decide) (by rw [hMn]; decide)).mono ?_)⟩
 rintro e w6 ⟨b, f, rfl, hc, hb, _, _, t6⟩
 refine ⟨_, rfl, (aStates_spec w6 b g _ hb).mono ?_⟩
 rintro e w7 ⟨rfl, hw⟩
 subst w7
 rw [least_aw hc]
 have hb4 := below_then hb3 b4
 have hz3 := hb3.size
 exact ⟨_, rfl, rfl, hb4.trans (t6.below (by omega) hb4.size)⟩
set_option maxHeartbeats 4000000 in
theorem AutoLast_spec (w : World) (y : CsW) (ls : List Int) (cs : List (Int × Int × Int)) (js : List (Int × Int)) (xs : List (Int × Bs)) (h : CsAt w y ls cs js xs) (A : Option Addr) (C : Nat) (ids : List Int) (hr : Rw encInt 1 w A ids) (hC : ids.length ≤ C) (A2 : Option Addr) (C2 : Nat) (sts : List Int) (hr2 : Rw encInt 1 w A2 sts) (hC2 : sts.length ≤ C2) (most : Int) :
  CP 8 #[y.v, .slice A ids.length C, .slice A2 sts.length C2, .int .i64 most] w fun e w' => e = .returned (.bool true) ∧ Below w.heap.size w w' := by
 refine calls_ret (vc8_calls y.l.a y.l.n y.l.c y.c.a y.c.n y.c.c y.j.a y.j.n y.j.c y.x.a y.x.n y.x.c A ids.length C A2 sts.length C2 most w (fun u w' => u = .bool true ∧ Below w.heap.size w w') ?_) (by rintro v w' ⟨rfl, h⟩; exact ⟨rfl, h⟩)
 intro w1 hw1
 have hb1 : Below w.heap.size w w1 := by subst hw1; exact below_alloc _ _
 have l1 : w1.heap[w.heap.size]? = some (.cells y.cells tCs (0, 0)) := by subst hw1; exact alloc_new _ _
 refine ⟨_, _, _, _, _, _, _, _, _, _, _, _, agg4 l1, ?_⟩
 refine (lawGreat_spec w1 y ls cs js xs (h.on hb1)).mono ?_
 rintro e w2 ⟨c0, rfl, b2⟩
 have hb2 := below_then hb1 b2
 have aw : ∀ {q : World}, Below w.heap.size w q → CP 38 #[] q fun e w' => ∃ b : Bool, e = .returned (.bool b) ∧ (Value.bool b = Value.bool true ∧ Below w.heap.size w w') := by
  intro q hq
  refine (awake17_spec q).mono ?_
  rintro e w3 ⟨rfl, b3⟩
  exact ⟨true, rfl, rfl, below_then hq b3⟩
 refine ⟨c0, rfl, CondP.mk (fun _ => aw hb2) fun _ => CondP.mk (fun _ => aw hb2) fun h10 => CondP.mk (fun _ => aw hb2) fun h11 => ?_⟩
 have h10 := of_decide_eq_false h10
 have h11 := of_decide_eq_false h11
 refine (awake17_spec w2).mono ?_
 rintro e w5 ⟨rfl, b5⟩
 have hb5 := below_then hb2 b5
 refine ⟨_, rfl, CondP.no rfl ⟨_, _, _, _, _, _, _, _, _, _, _, _, agg4 (held_on b5 (held_on b2 l1)), ?_⟩⟩
 refine (both17_spec w5 y ls cs js xs (h.on hb5)).mono ?_
 rintro e w6 ⟨g, a, r, s, T, rfl, hB6, b6, ha6⟩
 have hb6 := below_then hb5 b6
 refine ⟨_, _, _, _, _, _, _, _, _, _, _, _, _, _, _, _, _, rfl, ?_⟩
 intro w7 hw7
 refine storeP_new (slRv rv0) (slRv r) rfl (ones_rv r) w7 hw7 ?_
 intro w8 h8 hz8 b8
 have hB := hB6.on b8
 have hb8 := below_then hb6 b8
 have hn := hB.n
 have hrise := hB.rise
 obtain ⟨n, hgn⟩ : ∃ n, n = gN s T := ⟨_, rfl⟩
 have hgl : (gids s T).length = n := hgn.symm
 have hmul : (n + 2) * n ≤ 1008 * 1006 := Nat.mul_le_mul (by omega) (by omega)
 refine CondP.no rfl (CondP.no rfl ((gSize_spec w8 g s T hB.grid).mono ?_))
 rintro e w9 ⟨rfl, hw⟩
 subst w9
 rw [hgl]
 refine ⟨_, rfl, (last_spec w8 g s T hB.grid (by omega) hrise most).mono ?_⟩
 rintro e w12 ⟨b12, hbig, hsmall⟩
 rw [← hgn] at hbig hsmall
 have hB12 := hB.on b12
 have hb12 := below_then hb8 b12
 obtain ⟨r0, r1, rfl, hr1⟩ : ∃ (r0 : Option Addr) (r1 : Int), e = .returned (.tuple #[.pointer r0, .int .i64 r1]) ∧ ((r1 = 0 ∧ ¬ (((n + 2) * n : Nat) : Int) > most) ∨ (r1 = 5 ∧ (((n + 2) * n : Nat) : Int) > most)) := by
  by_cases hm : (((n + 2) * n : Nat) : Int) > most
  ·exact ⟨_, _, hbig hm, .inr ⟨rfl, hm⟩⟩
  ·obtain ⟨a', he, _⟩ := hsmall hm
   exact ⟨_, _, he, .inl ⟨rfl, hm⟩⟩
 refine ⟨_, _, rfl, (aStates_spec w12 a g _ hB12.aut).mono ?_⟩
 rintro e w13 ⟨rfl, hw⟩
 subst w13
 have hMN : (lastM s T).N = n + 2 := by rw [hgn]; rfl
 rw [hMN]
 refine ⟨_, rfl, Ar.nat (n + 2) rfl (by omega) (CondP.no (by simp) (Ar.nat (n + 2) rfl (by omega) (Ar.nat ((n + 2) * n) (by simp) (by omega) (CondP.no ?_ ?_))))⟩
 ·rcases hr1 with ⟨rfl, hm⟩ | ⟨rfl, hm⟩
  ·rw [decide_eq_true (by omega)]; rfl
  ·rw [decide_eq_false (by omega)]; rfl
 have hG := hB12.grid
 have hA := hB12.aut
 have leaf : ∀ (st : Int), (decide (0 ≤ st ∧ st < ((lastM s T).N : Int)) && (lastM s T).good st.toNat) = decide (0 ≤ st ∧ st ≤ (n : Int)) := by
  intro st
  rw [hMN]
  show (decide (0 ≤ st ∧ st < ((n + 2 : Nat) : Int)) && decide (st.toNat ≤ gN s T)) = _
  rw [Bool.eq_iff_iff, Bool.and_eq_true, decide_eq_true_eq, decide_eq_true_eq, decide_eq_true_eq]
  omega
 rcases hr1 with ⟨rfl, hm⟩ | ⟨rfl, hm⟩
 rotate_left
 refine CondP.yes rfl (CondP.no rfl ?_)
 rotate_left
 refine CondP.no rfl ?_
 all_goals
  intro I hI
  have key := climb2 (α := World) sts.length (fun i q => Below w12.heap.size w12 q) (fun i q => ∀ y8, I [.int .i64 (i : Int), .bool y8] q) w12 (Below.refl _ _) ?_ ?_
  ·exact key _
  ·rintro i hi ih q hq y8
   have hGq := hG.on hq
   have hAq := hA.on hq
   have hbq := below_then hb12 hq
   obtain ⟨ps, hps, cs0⟩ := cell_rw (hr2.on hbq) hi rfl
   obtain ⟨st, hst⟩ : ∃ st, st = sts[i] := ⟨_, rfl⟩
   rw [← hst] at cs0
   refine hI _ y8 q (CondP.yes (decide_eq_true (by omega)) (NilC.mk ps hps ⟨by omega, by omega, _, cs0, (aGood_spec q a g _ hAq st).mono ?_⟩))
   rintro e q1 ⟨rfl, hw⟩
   subst q1
   rw [leaf]
   refine ⟨_, rfl, CondP.mk (fun hs => CondP.no (by
    have := of_decide_eq_true hs
    have e : decide (0 ≤ st ∧ st ≤ (n : Int)) = decide (st ≤ (n : Int)) := decide_eq_decide.2 ⟨fun h => h.2, fun h => ⟨by omega, h⟩⟩
    rw [e, beq_self_eq_true]
    rfl) ?_) fun hs => CondP.no (by
    have := of_decide_eq_false hs
    rw [decide_eq_false (fun h => by omega)]
    rfl) ?_⟩
   all_goals
    intro I2 hI2
    have key2 := climb2 (α := World) ids.length (fun i z => Below w12.heap.size w12 z) (fun k z => ∀ y8, I2 [.int .i64 (k : Int), .bool y8] z) q hq ?_ ?_
    ·exact key2 _
    ·rintro k hk ih2 z hz y9
     have hGz := hG.on hz
     have hAz := hA.on hz
     have hbz := below_then hb12 hz
     obtain ⟨pi, hpi, ci⟩ := cell_rw (hr.on hbz) hk rfl
     obtain ⟨id, hid⟩ : ∃ id, id = ids[k] := ⟨_, rfl⟩
     rw [← hid] at ci
     refine hI2 _ y9 z (CondP.yes (decide_eq_true (by omega)) ?_)
     intro J hJ
     have done : ∀ y, J [.bool y] z := fun y => hJ y z (Ar.nat (k + 1) rfl (by omega) (ih2 z hz y))
     refine NilC.mk pi hpi ⟨by omega, by omega, _, ci, (gPlace_spec z g s T hGz id).mono ?_⟩
     rintro e z1 ⟨rfl, hw⟩
     subst z1
     refine ⟨_, _, rfl, NilC.mk pi hpi ⟨by omega, by omega, _, ci, (aNext_spec z a g _ hAz s T hGz rfl st id).mono ?_⟩⟩
     rintro e z1 ⟨rfl, hw⟩
     subst z1
     unfold nextV
     rw [hMN]
     cases hp : plc s T id with
     | none =>
      rw [show (if 0 ≤ st ∧ st < ((n + 2 : Nat) : Int) then (none : Option Nat) else none) = none by split <;> rfl]
      exact ⟨_, _, rfl, CondP.no rfl (CondP.no rfl (CondP.yes rfl (done _)))⟩
     | some p =>
      obtain ⟨hp1, hp2, hp3⟩ := plc_some hp
      by_cases hin : 0 ≤ st ∧ st < ((n + 2 : Nat) : Int)
      ·rw [if_pos hin]
       have hnx : (lastM s T).nxt st.toNat p = if mayA n (alB s T) (relB s T) st.toNat p then p + 1 else n + 1 := by rw [hgn]; rfl
       refine ⟨_, _, rfl, CondP.yes rfl (CondP.yes (decide_eq_true (by omega)) (Ar.nat (n + 1) rfl (by omega) (CondP.no (by rw [decide_eq_true (by omega)]; rfl) (CondP.no rfl ?_))))⟩
       have want : ∀ (may : Bool), may = mayA n (alB s T) (relB s T) st.toNat p → ∀ (J2 : List Value → World → Prop), (∀ want : Int, ∀ u : World, CondP ((((lastM s T).nxt st.toNat p : Nat) : Int) != want) (Value.bool false = Value.bool true ∧ Below w.heap.size w u) (J [.bool y9] u) → J2 [.int .i64 want] u) → CondP may (Ar .i64 (((p : Nat) : Int) + 1) (fun n_47 => J2 [.int .i64 n_47] z)) (J2 [.int .i64 ((n + 1 : Nat) : Int)] z) := by
        intro may hmay J2 hJ2
        refine CondP.mk (fun hb => ?_) fun hb => ?_
        ·refine Ar.nat (p + 1) rfl (by omega) (hJ2 _ z (CondP.no ?_ (done _)))
         rw [hnx, ← hmay, hb]
         simp
        ·refine hJ2 _ z (CondP.no ?_ (done _))
         rw [hnx, ← hmay, hb]
         simp
       by_cases h0 : st = 0
       ·refine CondP.yes (by simp [h0]) (NilC.mk pi hpi ⟨by omega, by omega, _, ci, (gAlone_spec z g s T hGz (by omega) id).mono ?_⟩)
        rintro e z1 ⟨rfl, hw⟩
        subst z1
        rw [← hp2, gAl_at hp1]
        refine ⟨_, rfl, ?_⟩
        intro J1 hJ1
        refine CondP.no (decide_eq_false (by omega)) (hJ1 _ z (Ar.nat (n + 1) rfl (by omega) ?_))
        intro J2 hJ2
        refine want _ ?_ J2 hJ2
        rw [h0]
        rfl
       ·refine CondP.no (by simp [h0]) ?_
        intro J1 hJ1
        have hJ1' : ∀ may, may = mayA n (alB s T) (relB s T) st.toNat p → J1 [.bool may] z := fun may hmay => hJ1 _ z (Ar.nat (n + 1) rfl (by omega) fun J2 hJ2 => want may hmay J2 hJ2)
        refine CondP.yes (decide_eq_true (by omega)) (CondP.mk (fun hle => ?_) fun hle => hJ1' false ?_)
        ·have hle := of_decide_eq_true hle
         have e1 : st - 1 = ((st.toNat - 1 : Nat) : Int) := by omega
         refine Ar.nat (st.toNat - 1) e1 (by omega) ((gId_at z g s T hGz (st.toNat - 1) (by omega)).mono ?_)
         rintro e z1 ⟨rfl, hw⟩
         subst z1
         refine ⟨_, _, rfl, NilC.mk pi hpi ⟨by omega, by omega, _, ci, (gHas_spec z g s T hGz (by omega) _ _).mono ?_⟩⟩
         rintro e z1 ⟨rfl, hw⟩
         subst z1
         rw [← hp2, gHas_at (show st.toNat - 1 < gN s T by omega) hp1]
         refine ⟨_, rfl, hJ1' _ ?_⟩
         unfold mayA
         rw [if_neg (by omega), if_pos (by omega)]
        ·have hle := of_decide_eq_false hle
         unfold mayA
         rw [if_neg (by omega), if_neg (by omega)]
      ·rw [if_neg hin]
       refine ⟨_, _, rfl, CondP.yes rfl (CondP.mk (fun h0 => Ar.nat (n + 1) rfl (by omega) (CondP.no ?_ (CondP.yes rfl (done _)))) fun h0 => CondP.no rfl (CondP.yes rfl (done _)))⟩
       have := of_decide_eq_true h0
       rw [decide_eq_false (by omega)]
       rfl
    ·rintro z hz y9
     exact hI2 _ y9 z (CondP.no (decide_eq_false (by omega)) (Ar.nat (i + 1) rfl (by omega) (ih z hz _)))
  ·rintro q hq y8
   exact hI _ y8 q (CondP.no (decide_eq_false (by omega)) ⟨rfl, below_then hb12 hq⟩)
theorem law_frame0 {H : Type} {enc : TypeId × Value → H} {C : Checked} {os : Os} {f : FuncId} {fn : Func} {s : ChangeSpec}
  (own : ownKnob C.prog.godebug = none) (started : os.Started) (noInit : C.prog.inits.idxOf? f = none) (hfn : C.prog.funcs[f]? = some fn)
  (witness : ∃ (w : World) (tape : Tape) (i : Input), w.os = os ∧ (w.forCall tape i).Shaped C.prog ∧ i.vars = [] ∧ Input.okWide C.prog (w.forCall tape i) .any w.heap.size f i ∧
   ((s.pre enc C.prog fn [] false (w.forCall tape i).memory i.args ∧ True) ∧ sizedMet enc C.prog fn (OpenSpec.ofChange s) false (w.forCall tape i).memory i.args) ∧ ({} : Assume).holds C.prog (lone (Frame.enter C.prog f i.args .normal) [] (w.forCall tape i)))
  (contract : ∀ (W : World) (base : Nat) (args : Array Value) (ds gs : List (DataW H)) (before : List MemPlace),
   (∀ (j : Nat) t v, fn.params[j]? = some t → args[j]? = some v → Value.okWide C.prog W .any base t v) →
   DataW.Whole enc C.prog fn.params.toList s.vars false W args.toList ds gs before →
   (DataW.weightsEach C.prog (fn.params.toList ++ s.plain.varTypes C.prog) (ds ++ gs)).all (· ≤ reachBytes) = true →
   W.ShapedOpen C.prog →
   Calls C.prog f args W fun e W' => ∃ v, e = .returned v ∧ s.post enc C.prog fn false true false false W args v W') :
  ReturnsInHanded {} C os f .any (fun w args => s.pre enc C.prog fn [] false w args ∧ sizedMet enc C.prog fn (OpenSpec.ofChange s) false w args) (s.post enc C.prog fn false true false false) := by
 have witness' : ∃ (w : World) (tape : Tape) (i : Input), w.os = os ∧ (w.forCall tape i).Shaped C.prog ∧ i.vars = [] ∧ Input.okWide C.prog (w.forCall tape i) .any w.heap.size f i ∧
   (s.pre enc C.prog fn [] false (w.forCall tape i).memory i.args ∧ sizedMet enc C.prog fn (OpenSpec.ofChange s) false (w.forCall tape i).memory i.args) ∧ ({} : Assume).holds C.prog (lone (Frame.enter C.prog f i.args .normal) [] (w.forCall tape i)) := by
  obtain ⟨w, tape, i, h1, h2, h3, h4, ⟨⟨h5, _⟩, h6⟩, h7⟩ := witness
  exact ⟨w, tape, i, h1, h2, h3, h4, ⟨h5, h6⟩, h7⟩
 refine returnsInHanded_of_calls own started noInit witness' ?_
 intro w tape i _ hshape _ hok hpre _
 obtain ⟨_, _, _, fn', hfn', _, _, _, _, hval⟩ := hok
 obtain rfl : fn' = fn := Option.some.inj (hfn'.symm.trans hfn)
 obtain ⟨⟨ds, gs, before, hw, _⟩, hz⟩ := hpre
 refine (contract (w.forCall tape i) w.heap.size i.args ds gs before hval (DataW.Whole.of_heap (w' := w.forCall tape i) (by rfl) hw) (hz.weights hw) hshape).mono ?_
 rintro e W' ⟨v, rfl, hp⟩
 exact ChangeSpec.post_blind hp
end Go.Proofs.YtboemnagahmlkaaGreat.Eng
