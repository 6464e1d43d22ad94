/- The library's sort on a list that is sorted already: it stays as it is. -/
import Derived.Test.YtpklkijdlnioaaaGreatZhRk
import Derived.Test.YtpklkijdlnioaaaGreatZhVg
set_option linter.unusedVariables false
set_option linter.unusedSimpArgs false
set_option maxRecDepth 100000
namespace Go.Proofs.YtpklkijdlnioaaaGreat.Eng
open Go Go.RowKit
theorem isNaN_spec (n : Int) (w : World) : Calls Tryz.prog 199 #[.int .i64 n] w fun e w' => e = .returned (.bool false) ∧ w' = w := by
  refine calls_ret (vc199_calls n w (fun u w' => u = .bool false ∧ w' = w) ?_) (by rintro v w' ⟨rfl, h⟩; exact ⟨rfl, h⟩)
  exact ⟨by simp, rfl⟩
theorem less_spec (x y : Int) (w : World) : Calls Tryz.prog 170 #[.int .i64 x, .int .i64 y] w fun e w' => e = .returned (.bool (decide (x < y))) ∧ w' = w := by
  refine calls_ret (vc170_calls x y w (fun u w' => u = .bool (decide (x < y)) ∧ w' = w) ?_) (by rintro v w' ⟨rfl, h⟩; exact ⟨rfl, h⟩)
  refine (isNaN_spec x w).mono ?_
  rintro e w1 ⟨rfl, hw⟩
  subst hw
  exact ⟨_, rfl, CondP.no rfl ⟨rfl, rfl⟩⟩
/-- A rising list. -/
def Rising (l : List Int) : Prop := ∀ (i j : Nat) (hi : i < l.length) (hj : j < l.length), i < j → l[i] < l[j]
section
variable {A : Option Addr} {C : Nat} {l : List Int}
theorem order2_spec (hs : Rising l) (w : World) (hr : Rw encInt 1 w A l) (i j : Nat) (hij : i < j) (hj : j < l.length) (p : Option Addr) :
    Calls Tryz.prog 209 #[.slice A l.length C, .int .i64 (i : Int), .int .i64 (j : Int), .pointer p] w fun e w' => e = .returned (.tuple #[.int .i64 (i : Int), .int .i64 (j : Int)]) ∧ Below w.heap.size w w' := by
  refine calls_ret (vc209_calls A l.length C i j p w (fun u w' => u = .tuple #[.int .i64 (i : Int), .int .i64 (j : Int)] ∧ Below w.heap.size w w') ?_) (by rintro v w' ⟨rfl, h⟩; exact ⟨rfl, h⟩)
  intro w1 hw1
  have b1 : Below w.heap.size w w1 := by subst hw1; exact drew_on w
  obtain ⟨q, hq, c1⟩ := cell_rw (hr.on b1) hj rfl
  obtain ⟨q', hq', c0⟩ := cell_rw (hr.on b1) (show i < l.length by omega) rfl
  refine NilC.mk q hq ⟨by omega, by omega, _, c1, NilC.mk q' hq' ⟨by omega, by omega, _, c0, ?_⟩⟩
  refine (less_spec _ _ w1).mono ?_
  rintro e w2 ⟨rfl, hw⟩
  subst hw
  exact ⟨_, rfl, CondP.no (decide_eq_false (by have := hs i j (by omega) hj hij; omega)) ⟨rfl, b1⟩⟩
theorem median_spec (hs : Rising l) (hl : l.length ≤ 1000000) (w : World) (hr : Rw encInt 1 w A l) (i j k : Nat) (hij : i < j) (hjk : j < k) (hk : k < l.length) (p : Option Addr) :
    Calls Tryz.prog 198 #[.slice A l.length C, .int .i64 (i : Int), .int .i64 (j : Int), .int .i64 (k : Int), .pointer p] w fun e w' => e = .returned (.int .i64 (j : Int)) ∧ Below w.heap.size w w' := by
  refine calls_ret (vc198_calls A l.length C i j k p w (fun u w' => u = .int .i64 (j : Int) ∧ Below w.heap.size w w') ?_) (by rintro v w' ⟨rfl, h⟩; exact ⟨rfl, h⟩)
  refine (order2_spec hs w hr i j hij (by omega) p).mono ?_
  rintro e w1 ⟨rfl, b1⟩
  refine ⟨_, _, rfl, ?_⟩
  refine (order2_spec hs w1 (hr.on b1) j k hjk hk p).mono ?_
  rintro e w2 ⟨rfl, b2⟩
  refine ⟨_, _, rfl, ?_⟩
  have b12 := below_then b1 b2
  refine (order2_spec hs w2 (hr.on b12) i j hij (by omega) p).mono ?_
  rintro e w3 ⟨rfl, b3⟩
  exact ⟨_, _, rfl, rfl, below_then b12 b3⟩
theorem medianAdj_spec (hs : Rising l) (hl : l.length ≤ 1000000) (w : World) (hr : Rw encInt 1 w A l) (j : Nat) (h0 : 0 < j) (hj : j + 1 < l.length) (p : Option Addr) :
    Calls Tryz.prog 197 #[.slice A l.length C, .int .i64 (j : Int), .pointer p] w fun e w' => e = .returned (.int .i64 (j : Int)) ∧ Below w.heap.size w w' := by
  refine calls_ret (vc197_calls A l.length C j p w (fun u w' => u = .int .i64 (j : Int) ∧ Below w.heap.size w w') ?_) (by rintro v w' ⟨rfl, h⟩; exact ⟨rfl, h⟩)
  refine Ar.nat (j - 1) (by omega) (by omega) (Ar.nat (j + 1) (by omega) (by omega) ?_)
  refine (median_spec hs hl w hr (j - 1) j (j + 1) (by omega) (by omega) hj p).mono ?_
  rintro e w1 ⟨rfl, b1⟩
  exact ⟨_, rfl, rfl, b1⟩
theorem pivot_spec (hs : Rising l) (hl : l.length ≤ 1000000) (w : World) (hr : Rw encInt 1 w A l) (h50 : 50 ≤ l.length) :
    Calls Tryz.prog 167 #[.slice A l.length C, .int .i64 0, .int .i64 (l.length : Int)] w fun e w' => ∃ n : Int, e = .returned (.tuple #[.int .i64 n, .int .i64 1]) ∧ Below w.heap.size w w' := by
  refine calls_ret (vc167_calls A l.length C 0 l.length w (fun u w' => ∃ n : Int, u = .tuple #[.int .i64 n, .int .i64 1] ∧ Below w.heap.size w w') ?_) (by rintro v w' ⟨n, rfl, h⟩; exact ⟨n, rfl, h⟩)
  refine Ar.nat l.length (by omega) (by omega) ?_
  intro w1 hw1
  have b1 : Below w.heap.size w w1 := by subst hw1; exact below_alloc _ _
  have l1 : w1.heap[w.heap.size]? = some (.cells #[.int .i64 0] tInt (0, 0)) := by subst hw1; exact alloc_new _ _
  have hdiv : IntKind.wrap .i64 (Int.tdiv (l.length : Int) 4) = ((l.length / 4 : Nat) : Int) := by
    have : Int.tdiv (l.length : Int) 4 = ((l.length / 4 : Nat) : Int) := rfl
    rw [this]
    exact wrap_in (by show (-9223372036854775808 : Int) ≤ _; omega) (by show _ ≤ (9223372036854775807 : Int); omega)
  rw [hdiv]
  refine ⟨by decide, Ar.nat (l.length / 4 * 1) (by omega) (by omega) (Ar.nat (l.length / 4 * 1) (by omega) (by omega) ⟨by decide, Ar.nat (l.length / 4 * 2) (by omega) (by omega) (Ar.nat (l.length / 4 * 2) (by omega) (by omega) ⟨by decide, Ar.nat (l.length / 4 * 3) (by omega) (by omega) (Ar.nat (l.length / 4 * 3) (by omega) (by omega) ?_)⟩)⟩)⟩
  intro J7 hJ7
  refine CondP.yes (decide_eq_true (by omega)) ?_
  intro J9 hJ9
  refine CondP.yes (decide_eq_true (by omega)) ?_
  refine (medianAdj_spec hs hl w1 (hr.on b1) (l.length / 4 * 1) (by omega) (by omega) _).mono ?_
  rintro e w2 ⟨rfl, b2⟩
  have b12 := below_then b1 b2
  refine ⟨_, rfl, (medianAdj_spec hs hl w2 (hr.on b12) (l.length / 4 * 2) (by omega) (by omega) _).mono ?_⟩
  rintro e w3 ⟨rfl, b3⟩
  have b13 := below_then b12 b3
  refine ⟨_, rfl, (medianAdj_spec hs hl w3 (hr.on b13) (l.length / 4 * 3) (by omega) (by omega) _).mono ?_⟩
  rintro e w4 ⟨rfl, b4⟩
  have b14 := below_then b13 b4
  refine ⟨_, rfl, hJ9 _ _ _ _ ((median_spec hs hl w4 (hr.on b14) (l.length / 4 * 1) (l.length / 4 * 2) (l.length / 4 * 3) (by omega) (by omega) (by omega) _).mono ?_)⟩
  rintro e w5 ⟨rfl, b5⟩
  have l5 := held_on b5 (held_on b4 (held_on b3 (held_on b2 l1)))
  exact ⟨_, rfl, hJ7 _ _ _ _ ⟨0, by rw [cell_heap l5]; rfl, CondP.yes rfl ⟨_, rfl, below_then b14 b5⟩⟩⟩
theorem partial_spec (hs : Rising l) (hl : l.length ≤ 1000000) (w : World) (hr : Rw encInt 1 w A l) (h0 : 0 < l.length) :
    Calls Tryz.prog 169 #[.slice A l.length C, .int .i64 0, .int .i64 (l.length : Int)] w fun e w' => e = .returned (.bool true) ∧ Below w.heap.size w w' := by
  refine calls_ret (vc169_calls A l.length C 0 l.length w (fun u w' => u = .bool true ∧ Below w.heap.size w w') ?_) (by rintro v w' ⟨rfl, h⟩; exact ⟨rfl, h⟩)
  refine Ar.nat 1 (by omega) (by omega) ?_
  intro I1 hI1
  refine hI1 _ _ _ _ (CondP.yes rfl ?_)
  intro J2 hJ2
  intro I6 hI6
  have key := climb2 (α := World) (l.length - 1) (fun i q => Below w.heap.size w q) (fun i q => I6 [.int .i64 ((i + 1 : Nat) : Int)] q) w (Below.refl _ _) ?_ ?_
  · exact key
  · rintro i hi ih q hB
    refine hI6 _ _ ?_
    intro q4 hq4
    have b4 : Below q.heap.size q q4 := by subst hq4; exact drew_on q
    have hB4 := below_then hB b4
    obtain ⟨p, hp, c1⟩ := cell_rw (hr.on hB4) (show i + 1 < l.length by omega) rfl
    obtain ⟨p', hp', c0⟩ := cell_rw (hr.on hB4) (show i < l.length by omega) rfl
    refine CondP.yes (by simp; omega) (NilC.mk p hp ⟨by omega, by omega, _, c1, Ar.nat i (by omega) (by omega) (NilC.mk p' hp' ⟨by omega, by omega, _, c0, ?_⟩)⟩)
    refine (less_spec _ _ q4).mono ?_
    rintro e w5 ⟨rfl, hw⟩
    subst hw
    have := hs i (i + 1) (by omega) (by omega) (by omega)
    refine ⟨_, rfl, CondP.yes (by rw [decide_eq_false (by omega)]; rfl) (Ar.nat (i + 1 + 1) rfl (by omega) (ih w5 hB4))⟩
  · rintro q hB
    refine hI6 _ _ ?_
    intro q4 hq4
    have b4 : Below q.heap.size q q4 := by subst hq4; exact drew_on q
    have e : ((l.length - 1 + 1 : Nat) : Int) = (l.length : Int) := by omega
    rw [e]
    exact CondP.no (by simp) (CondP.yes (by simp) ⟨rfl, below_then hB b4⟩)
end
theorem len64_spec (n : Nat) (w : World) (h1 : 256 ≤ n) (h2 : n ≤ 65535) : Calls Tryz.prog 174 #[.int .u64 (n : Int)] w fun e w' => ∃ k : Int, e = .returned (.int .i64 k) ∧ k ≠ 0 ∧ w' = w := by
  refine calls_ret (vc174_calls n w (fun u w' => ∃ k : Int, u = .int .i64 k ∧ k ≠ 0 ∧ w' = w) ?_) (by rintro v w' ⟨k, rfl, h⟩; exact ⟨k, rfl, h⟩)
  intro J1 hJ1
  refine CondP.no (decide_eq_false (by omega)) (hJ1 _ _ _ ?_)
  intro J3 hJ3
  refine CondP.no (decide_eq_false (by omega)) (hJ3 _ _ _ ?_)
  intro J6 hJ6
  refine CondP.yes (decide_eq_true (by omega)) ⟨by decide, Ar.nat 8 rfl (by omega) (hJ6 _ _ _ ?_)⟩
  have e : Int.fdiv (n : Int) (2 ^ (min (8 : Int).toNat (IntKind.bits .u64))) = ((n / 256 : Nat) : Int) := by
    show Int.fdiv (n : Int) 256 = _
    rw [Int.fdiv_eq_ediv_of_nonneg _ (by decide)]
    rfl
  rw [e]
  have hw8 : IntKind.wrap .u8 ((n / 256 : Nat) : Int) = ((n / 256 : Nat) : Int) := wrap_in (by show (0 : Int) ≤ _; omega) (by show _ ≤ (255 : Int); omega)
  rw [hw8]
  refine ⟨by omega, by show ((n / 256 : Nat) : Int) < 256; omega, ?_⟩
  have hb : ∀ s : ByteArray, 0 ≤ btAt s ((n / 256 : Nat) : Int) ∧ btAt s ((n / 256 : Nat) : Int) ≤ 255 := by
    intro s
    unfold btAt
    cases s.data[((n / 256 : Nat) : Int).toNat]? with
    | none => simp
    | some b =>
      have := b.toNat_lt
      simp only [Option.map_some, Option.getD_some]
      omega
  have aux : ∀ s : ByteArray, Ar .i64 (((8 : Nat) : Int) + IntKind.wrap .i64 (btAt s ((n / 256 : Nat) : Int))) (fun n_9 => ∃ k : Int, Value.int .i64 n_9 = .int .i64 k ∧ k ≠ 0 ∧ w = w) := by
    intro s
    have := hb s
    rw [wrap_in (z := btAt s ((n / 256 : Nat) : Int)) (by show (-9223372036854775808 : Int) ≤ _; omega) (by show _ ≤ (9223372036854775807 : Int); omega)]
    exact Ar.ok64 (by omega) (by omega) ⟨_, rfl, by omega, rfl⟩
  exact aux _
theorem len_spec (n : Nat) (w : World) (h1 : 256 ≤ n) (h2 : n ≤ 65535) : Calls Tryz.prog 130 #[.int .u64 (n : Int)] w fun e w' => ∃ k : Int, e = .returned (.int .i64 k) ∧ k ≠ 0 ∧ w' = w := by
  refine calls_ret (vc130_calls n w (fun u w' => ∃ k : Int, u = .int .i64 k ∧ k ≠ 0 ∧ w' = w) ?_) (by rintro v w' ⟨k, rfl, h⟩; exact ⟨k, rfl, h⟩)
  refine (len64_spec n w h1 h2).mono ?_
  rintro e w1 ⟨k, rfl, hk, hw⟩
  exact ⟨_, rfl, k, rfl, hk, hw⟩
theorem sort_spec (w : World) (A : Option Addr) (C : Nat) (l : List Int) (hr : Rw encInt 1 w A l) (hs : Rising l) (h1 : 256 ≤ l.length) (h2 : l.length ≤ 65535) :
    Calls Tryz.prog 97 #[.slice A l.length C] w fun e w' => e = .returned (.tuple #[]) ∧ Below w.heap.size w w' := by
  refine calls_ret (vc97_calls A l.length C w (fun u w' => u = .tuple #[] ∧ Below w.heap.size w w') ?_) (by rintro v w' ⟨rfl, h⟩; exact ⟨rfl, h⟩)
  have hw : IntKind.wrap .u64 (l.length : Int) = (l.length : Int) := wrap_in (by show (0 : Int) ≤ _; omega) (by show _ ≤ (18446744073709551615 : Int); omega)
  unfold vc97
  rw [hw]
  refine (len_spec l.length w h1 h2).mono ?_
  rintro e w1 ⟨k, rfl, hk, hw1⟩
  subst hw1
  refine ⟨_, rfl, ?_⟩
  have pdq : Calls Tryz.prog 129 #[.slice A l.length C, .int .i64 0, .int .i64 (l.length : Int), .int .i64 k] w1 fun e w' => e = .returned (.tuple #[]) ∧ Below w1.heap.size w1 w' := by
    refine calls_ret (vc129_calls A l.length C 0 l.length k w1 (fun u w' => u = .tuple #[] ∧ Below w1.heap.size w1 w') ?_) (by rintro v w' ⟨rfl, h⟩; exact ⟨rfl, h⟩)
    intro I hI
    refine hI _ _ _ _ _ _ ?_
    intro J5 hJ5
    refine Ar.nat l.length (by omega) (by omega) (CondP.no (decide_eq_false (by omega)) (CondP.no (by simpa using hk) ?_))
    intro J11 hJ11
    refine CondP.no rfl (hJ11 _ _ ?_)
    refine (pivot_spec hs (by omega) w1 hr (by omega)).mono ?_
    rintro e w6 ⟨n, rfl, b6⟩
    refine ⟨_, _, rfl, ?_⟩
    intro J13 hJ13
    refine CondP.no rfl (hJ13 _ _ _ ?_)
    intro J14 hJ14
    refine CondP.yes rfl (CondP.yes rfl (CondP.yes rfl ?_))
    refine (partial_spec hs (by omega) w6 (hr.on b6) (by omega)).mono ?_
    rintro e w18 ⟨rfl, b18⟩
    exact ⟨_, rfl, CondP.yes rfl ⟨rfl, below_then b6 b18⟩⟩
  refine pdq.mono ?_
  rintro e w2 ⟨rfl, b2⟩
  exact ⟨rfl, rfl, b2⟩
end Go.Proofs.YtpklkijdlnioaaaGreat.Eng
