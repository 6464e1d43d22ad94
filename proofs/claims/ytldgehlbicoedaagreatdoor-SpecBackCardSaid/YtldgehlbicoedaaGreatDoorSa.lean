/- spec's small tests, walked by the engine; rows of structs. -/
import Derived.Test.YtldgehlbicoedaaGreatDoorWa
import Derived.Test.YtldgehlbicoedaaGreatDoorSm
import Derived.Test.YtldgehlbicoedaaGreatDoorLib
import Derived.Lib.AppendStr
import Derived.Lib.AppendIntMem
import Derived.Shelf.Strings.Builder1
set_option linter.unusedVariables false
set_option linter.unusedSimpArgs false
namespace Go.Proofs.YtldgehlbicoedaaGreatDoor.Eng
open Go Go.RowKit

/-- A row of things, each of sz cells, read at each place. -/
def Rw {α : Type} (enc : α → List Value) (sz : Nat) (w : World) (a : Option Addr) (xs : List α) : Prop := ∀ (j : Nat) (x : α), xs[j]? = some x → ∃ p, a = some p ∧ p.block < w.heap.size ∧ ∀ (k : Nat) (v : Value), (enc x)[k]? = some v → w.cell? ((p.add (j * sz)).add k) = some v
theorem Rw.on {α : Type} {enc : α → List Value} {sz : Nat} {w w' : World} {a : Option Addr} {xs : List α} (h : Rw enc sz w a xs) (hb : Below w.heap.size w w') : Rw enc sz w' a xs := by
  intro j x hj
  obtain ⟨p, rfl, hp, hc⟩ := h j x hj
  refine ⟨p, rfl, Nat.lt_of_lt_of_le hp hb.size, fun k v hk => ?_⟩
  rw [hb.cell (by rw [add_block, add_block]; exact hp)]
  exact hc k v hk
theorem add_zero (a : Addr) : a.add 0 = a := by simp [Addr.add]
def encPair (m : Int × Int) : List Value := [.int .i64 m.1, .int .i64 m.2]
def encStr (s : Bs) : List Value := [.string (str s)]
def encSpecial (x : Int × Bs) : List Value := [.int .i64 x.1, .string (str x.2)]
def encClass (c : Int × Int × Int) : List Value := [.int .i64 c.1, .int .i64 c.2.1, .int .i64 c.2.2]
theorem StrRow.rw {w : World} {a : Option Addr} {xs : List Bs} (h : StrRow w a xs) : Rw encStr 1 w a xs := by
  intro j x hj
  obtain ⟨p, rfl, hp, hc⟩ := h j x hj
  refine ⟨p, rfl, hp, fun k v hk => ?_⟩
  match k, hk with
  | 0, hk => cases hk; rw [Nat.mul_one, add_zero]; exact hc
theorem Rw.str {w : World} {a : Option Addr} {xs : List Bs} (h : Rw encStr 1 w a xs) : StrRow w a xs := by
  intro j x hj
  obtain ⟨p, rfl, hp, hc⟩ := h j x hj
  have := hc 0 _ rfl
  rw [Nat.mul_one, add_zero] at this
  exact ⟨p, rfl, hp, this⟩

theorem within_spec (n lo hi : Int) (w : World) : Calls Tryz.prog 60 #[.int .i64 n, .int .i64 lo, .int .i64 hi] w fun e w' => e = .returned (.bool (decide (lo ≤ n ∧ n ≤ hi))) ∧ Below w.heap.size w w' := by
  refine calls_ret (vc60_calls n lo hi w (fun v w' => v = .bool (decide (lo ≤ n ∧ n ≤ hi)) ∧ Below w.heap.size w w') ?_) (by rintro v w' ⟨rfl, h⟩; exact ⟨rfl, h⟩)
  refine CondP.mk ?_ ?_
  · intro h
    have h := of_decide_eq_true h
    refine ⟨?_, Below.refl _ _⟩
    congr 1
    exact decide_eq_decide.2 ⟨fun e => ⟨by omega, e⟩, fun e => e.2⟩
  · intro h
    have h := of_decide_eq_false h
    refine ⟨?_, Below.refl _ _⟩
    rw [decide_eq_false (by omega)]
theorem spec_merge_spec (m : Int × Int) (w : World) : Calls Tryz.prog 31 #[.agg #[.int .i64 m.1, .int .i64 m.2]] w fun e w' => e = .returned (.bool (mergeOk m)) ∧ Below w.heap.size w w' := by
  refine calls_ret (vc31_calls m.1 m.2 w (fun v w' => v = .bool (mergeOk m) ∧ Below w.heap.size w w') ?_) (by rintro v w' ⟨rfl, h⟩; exact ⟨rfl, h⟩)
  rintro w1 rfl
  have hb := below_alloc w (.cells #[Value.int .i64 m.1, Value.int .i64 m.2] 55)
  refine ⟨m.1, by rw [add_lit, cell_new]; rfl, ?_⟩
  refine (within_spec m.1 0 999 _).mono ?_
  rintro e w2 ⟨rfl, h2⟩
  refine ⟨_, rfl, CondP.mk ?_ ?_⟩
  · intro h
    have h := of_decide_eq_true h
    refine ⟨m.2, by rw [add_lit, h2.cell (by rw [alloc_size]; exact Nat.lt_succ_self _), cell_new]; rfl, ?_⟩
    refine (within_spec m.2 0 999 w2).mono ?_
    rintro e w3 ⟨rfl, h3⟩
    refine ⟨_, rfl, ?_, below_then hb (below_then h2 h3)⟩
    congr 1
    unfold mergeOk
    exact decide_eq_decide.2 (by omega)
  · intro h
    have h := of_decide_eq_false h
    refine ⟨?_, below_then hb h2⟩
    congr 1
    unfold mergeOk
    exact (decide_eq_false (by omega)).symm
theorem spec_join_spec (m : Int × Int) (w : World) : Calls Tryz.prog 39 #[.agg #[.int .i64 m.1, .int .i64 m.2]] w fun e w' => e = .returned (.bool (joinOk m)) ∧ Below w.heap.size w w' := by
  refine calls_ret (vc39_calls m.1 m.2 w (fun v w' => v = .bool (joinOk m) ∧ Below w.heap.size w w') ?_) (by rintro v w' ⟨rfl, h⟩; exact ⟨rfl, h⟩)
  rintro w1 rfl
  have hb := below_alloc w (.cells #[Value.int .i64 m.1, Value.int .i64 m.2] 58)
  refine ⟨m.1, by rw [add_lit, cell_new]; rfl, ?_⟩
  refine (within_spec m.1 0 15 _).mono ?_
  rintro e w2 ⟨rfl, h2⟩
  refine ⟨_, rfl, CondP.mk ?_ ?_⟩
  · intro h
    have h := of_decide_eq_true h
    refine ⟨m.2, by rw [add_lit, h2.cell (by rw [alloc_size]; exact Nat.lt_succ_self _), cell_new]; rfl, ?_⟩
    refine (within_spec m.2 0 15 w2).mono ?_
    rintro e w3 ⟨rfl, h3⟩
    refine ⟨_, rfl, ?_, below_then hb (below_then h2 h3)⟩
    congr 1
    unfold joinOk
    exact decide_eq_decide.2 (by omega)
  · intro h
    have h := of_decide_eq_false h
    refine ⟨?_, below_then hb h2⟩
    congr 1
    unfold joinOk
    exact (decide_eq_false (by omega)).symm
theorem spec_thing_spec (s : Bs) (w : World) : Calls Tryz.prog 33 #[.string (str s)] w fun e w' => e = .returned (.bool (thingOk s)) ∧ Below w.heap.size w w' := by
  refine calls_ret (vc33_calls (str s) w (fun v w' => v = .bool (thingOk s) ∧ Below w.heap.size w w') ?_) (by rintro v w' ⟨rfl, h⟩; exact ⟨rfl, h⟩)
  refine (within_spec _ 2 64 w).mono ?_
  rintro e w2 ⟨rfl, h2⟩
  refine ⟨_, rfl, ?_, h2⟩
  congr 1
  unfold thingOk
  rw [str_size]
  exact decide_eq_decide.2 (by omega)
theorem spec_special_spec (x : Int × Bs) (w : World) : Calls Tryz.prog 35 #[.agg #[.int .i64 x.1, .string (str x.2)]] w fun e w' => e = .returned (.bool (specialOk x)) ∧ Below w.heap.size w w' := by
  refine calls_ret (vc35_calls x.1 (str x.2) w (fun v w' => v = .bool (specialOk x) ∧ Below w.heap.size w w') ?_) (by rintro v w' ⟨rfl, h⟩; exact ⟨rfl, h⟩)
  rintro w1 rfl
  have hb := below_alloc w (.cells #[Value.int .i64 x.1, Value.string (str x.2)] 46)
  refine ⟨x.1, by rw [add_lit, cell_new]; rfl, ?_⟩
  refine (within_spec x.1 0 1073741824 _).mono ?_
  rintro e w2 ⟨rfl, h2⟩
  refine ⟨_, rfl, CondP.mk ?_ ?_⟩
  · intro h
    have h := of_decide_eq_true h
    refine ⟨str x.2, by rw [add_lit, h2.cell (by rw [alloc_size]; exact Nat.lt_succ_self _), cell_new]; rfl, ?_⟩
    refine (within_spec _ 1 64 w2).mono ?_
    rintro e w3 ⟨rfl, h3⟩
    refine ⟨_, rfl, ?_, below_then hb (below_then h2 h3)⟩
    congr 1
    unfold specialOk
    rw [str_size]
    exact decide_eq_decide.2 (by omega)
  · intro h
    have h := of_decide_eq_false h
    refine ⟨?_, below_then hb h2⟩
    congr 1
    unfold specialOk
    exact (decide_eq_false (by omega)).symm
theorem spec_class_spec (c : Int × Int × Int) (w : World) : Calls Tryz.prog 37 #[.agg #[.int .i64 c.1, .int .i64 c.2.1, .int .i64 c.2.2]] w fun e w' => e = .returned (.bool (classOk c)) ∧ Below w.heap.size w w' := by
  refine calls_ret (vc37_calls c.1 c.2.1 c.2.2 w (fun v w' => v = .bool (classOk c) ∧ Below w.heap.size w w') ?_) (by rintro v w' ⟨rfl, h⟩; exact ⟨rfl, h⟩)
  rintro w1 rfl
  have hb := below_alloc w (.cells #[Value.int .i64 c.1, Value.int .i64 c.2.1, Value.int .i64 c.2.2] 57)
  refine ⟨c.1, by rw [add_lit, cell_new]; rfl, c.2.1, by rw [add_lit, cell_new]; rfl, ?_⟩
  refine (within_spec c.1 0 c.2.1 _).mono ?_
  rintro e w2 ⟨rfl, h2⟩
  refine ⟨_, rfl, CondP.mk ?_ ?_⟩
  · intro h
    have h := of_decide_eq_true h
    refine ⟨c.2.1, by rw [add_lit, h2.cell (by rw [alloc_size]; exact Nat.lt_succ_self _), cell_new]; rfl, CondP.mk ?_ ?_⟩
    · intro h5
      have h5 := of_decide_eq_true h5
      refine ⟨c.2.2, by rw [add_lit, h2.cell (by rw [alloc_size]; exact Nat.lt_succ_self _), cell_new]; rfl, ?_⟩
      refine (within_spec c.2.2 0 15 w2).mono ?_
      rintro e w3 ⟨rfl, h3⟩
      refine ⟨_, rfl, ?_, below_then hb (below_then h2 h3)⟩
      congr 1
      unfold classOk
      exact decide_eq_decide.2 (by omega)
    · intro h5
      have h5 := of_decide_eq_false h5
      refine ⟨?_, below_then hb h2⟩
      congr 1
      unfold classOk
      exact (decide_eq_false (by omega)).symm
  · intro h
    have h := of_decide_eq_false h
    refine ⟨?_, below_then hb h2⟩
    congr 1
    unfold classOk
    exact (decide_eq_false (by omega)).symm
end Go.Proofs.YtldgehlbicoedaaGreatDoor.Eng

/- What holds of all of a row: slices.IndexFunc, ContainsFunc, Equal, and spec's all, at each kind of things, walked by the engine. Printed by gen_all.py of this repo. -/
set_option linter.unusedVariables false
set_option maxRecDepth 100000
set_option linter.unusedSimpArgs false
namespace Go.Proofs.YtldgehlbicoedaaGreatDoor.Eng
open Go Go.RowKit

theorem CallG.mono {C : Ctx} {f : Value} {args : List Value} {w : World} {R R' : Ending → World → Prop} (h : CallG C f args w R) (hr : ∀ e w', R e w' → R' e w') : CallG C f args w R' := by
  unfold CallG at h ⊢
  split at h
  · split at h
    · exact h.mono hr
    · obtain ⟨v, w', h1, h2⟩ := h
      exact ⟨v, w', h1, hr _ _ h2⟩
  · exact h.elim
theorem callG_of {g : FuncId} {cap : Array Value} {args : List Value} {w : World} {R : Ending → World → Prop} (hg : ctx.fns g = true) (h : Calls Tryz.prog g (args ++ cap.toList).toArray w R) : CallG ctx (.func (.func g) #[] cap) args w R := by
  unfold CallG
  simp only [hg]
  exact h
/-- The first place at which something holds; -1: there is none. -/
def idx {α : Type} (p : α → Bool) (xs : List α) : Int := match xs.findIdx? p with
  | some i => (i : Int)
  | none => -1
theorem idx_any {α : Type} (p : α → Bool) (xs : List α) : decide (idx p xs ≥ 0) = xs.any p := by
  unfold idx
  cases h : xs.findIdx? p with
  | none =>
    rw [List.findIdx?_eq_none_iff] at h
    have : xs.any p = false := by
      rw [List.any_eq_false]
      intro x hx
      simpa using h x hx
    rw [this]; rfl
  | some i =>
    have hi := List.findIdx?_eq_some_iff_getElem.1 h
    have : xs.any p = true := List.any_eq_true.2 ⟨xs[i]'hi.1, List.getElem_mem hi.1, hi.2.1⟩
    rw [this]
    exact decide_eq_true (by simp)
theorem idx_some {α : Type} {p : α → Bool} {xs : List α} {i : Nat} (h : i < xs.length) (hp : p xs[i] = true) (hb : ∀ j (hj : j < i), p (xs[j]'(by omega)) = false) : idx p xs = i := by
  have : xs.findIdx? p = some i := List.findIdx?_eq_some_iff_getElem.2 ⟨h, hp, fun j hj => by simpa using hb j hj⟩
  unfold idx
  rw [this]
theorem idx_none {α : Type} {p : α → Bool} {xs : List α} (hb : ∀ j (hj : j < xs.length), p (xs[j]) = false) : idx p xs = -1 := by
  have : xs.findIdx? p = none := by
    rw [List.findIdx?_eq_none_iff]
    intro x hx
    obtain ⟨j, hj, rfl⟩ := List.getElem_of_mem hx
    exact hb j hj
  unfold idx
  rw [this]
theorem not_any {α : Type} (p : α → Bool) (xs : List α) : (!xs.any fun x => !p x) = xs.all p := by
  induction xs with
  | nil => rfl
  | cons x xs ih => simp only [List.any_cons, List.all_cons, Bool.not_or, Bool.not_not, ih]

/-! ### M -/
theorem indexM_spec (a : Option Addr) (c : Nat) (xs : List (Int × Int)) (f : Value) (p : Int × Int → Bool) (w : World) (hr : Rw encPair 2 w a xs) (hl : xs.length ≤ 1000000000000000)
    (hf : ∀ x ∈ xs, ∀ w1, Below w.heap.size w w1 → CallG ctx f [.agg #[.int .i64 x.1, .int .i64 x.2]] w1 (fun e w2 => e = .returned (.bool (p x)) ∧ Below w1.heap.size w1 w2)) :
    Calls Tryz.prog 81 #[.slice a xs.length c, f] w fun e w' => e = .returned (.int .i64 (idx p xs)) ∧ Below w.heap.size w w' := by
  refine calls_ret (vc81_calls a xs.length c f w (fun v w' => v = .int .i64 (idx p xs) ∧ Below w.heap.size w w') ?_) (by rintro v w' ⟨rfl, h⟩; exact ⟨rfl, h⟩)
  intro I hI
  have key := climb (α := Int × World) xs.length (fun i x => (∀ j (hj : j < xs.length), j < i → p xs[j] = false) ∧ Below w.heap.size w x.2) (fun i x => I [.int .i64 (i : Int), .int .i64 x.1] x.2) ?_ ?_ 0 (Nat.zero_le _) (0, w)
  · exact key ⟨fun j _ hj => absurd hj (Nat.not_lt_zero j), Below.refl _ _⟩
  · rintro ⟨y, w1⟩ ⟨hb, hB⟩
    exact hI _ _ _ (CondP.no (by simp) ⟨by rw [idx_none fun j hj => hb j hj hj], hB⟩)
  · rintro i hi ih ⟨y, w1⟩ ⟨hb, hB⟩
    obtain ⟨q, hq, _, hcx⟩ := (hr.on hB) i _ (List.getElem?_eq_getElem hi)
    refine hI _ _ _ (CondP.yes (by simp; omega) (NilC.mk q hq ⟨by omega, by omega, xs[i].1, xs[i].2, ⟨by have := hcx 0 _ rfl; simpa [add_zero] using this, by have := hcx 1 _ rfl; simpa using this, trivial⟩, ?_⟩))
    refine (hf xs[i] (List.getElem_mem hi) w1 hB).mono ?_
    rintro e w2 ⟨rfl, h2⟩
    refine ⟨_, rfl, CondP.mk ?_ ?_⟩
    · intro hp
      exact ⟨by rw [idx_some hi hp fun j hj => hb j (by omega) hj], below_then hB h2⟩
    · intro hp
      refine Ar.ok64 (by omega) (by omega) (ih (y, w2) ⟨?_, below_then hB h2⟩)
      intro j hj hji
      by_cases he : j = i
      · subst he; exact hp
      · exact hb j hj (by omega)
theorem containsM_spec (a : Option Addr) (c : Nat) (xs : List (Int × Int)) (f : Value) (p : Int × Int → Bool) (w : World) (hr : Rw encPair 2 w a xs) (hl : xs.length ≤ 1000000000000000)
    (hf : ∀ x ∈ xs, ∀ w1, Below w.heap.size w w1 → CallG ctx f [.agg #[.int .i64 x.1, .int .i64 x.2]] w1 (fun e w2 => e = .returned (.bool (p x)) ∧ Below w1.heap.size w1 w2)) :
    Calls Tryz.prog 58 #[.slice a xs.length c, f] w fun e w' => e = .returned (.bool (xs.any p)) ∧ Below w.heap.size w w' := by
  refine calls_ret (vc58_calls a xs.length c f w (fun v w' => v = .bool (xs.any p) ∧ Below w.heap.size w w') ?_) (by rintro v w' ⟨rfl, h⟩; exact ⟨rfl, h⟩)
  refine (indexM_spec a c xs f p w hr hl hf).mono ?_
  rintro e w1 ⟨rfl, h1⟩
  exact ⟨_, rfl, by rw [idx_any], h1⟩
theorem notM_spec (x : Int × Int) (cb : Nat) (may : Value) (p : Int × Int → Bool) (w : World) (hcb : cb < w.heap.size) (hc : w.cell? ⟨cb, 0, none⟩ = some may) (hm : ∀ w1, CallG ctx may [.agg #[.int .i64 x.1, .int .i64 x.2]] w1 (fun e w2 => e = .returned (.bool (p x)) ∧ Below w1.heap.size w1 w2)) :
    Calls Tryz.prog 59 #[.agg #[.int .i64 x.1, .int .i64 x.2], .pointer (some ⟨cb, 0, none⟩)] w fun e w' => e = .returned (.bool (!p x)) ∧ Below w.heap.size w w' := by
  refine calls_ret (vc59_calls (x.1) (x.2) (some ⟨cb, 0, none⟩) w (fun v w' => v = .bool (!p x) ∧ Below w.heap.size w w') ?_) (by rintro v w' ⟨rfl, h⟩; exact ⟨rfl, h⟩)
  rintro w1 rfl
  have hb := below_alloc w (.cells #[Value.int .i64 x.1, Value.int .i64 x.2] 55)
  refine ⟨may, by rw [hb.cell hcb]; exact hc, x.1, x.2, ⟨by rw [cell_new]; rfl, by rw [add_lit, cell_new]; rfl, trivial⟩, ?_⟩
  refine (hm _).mono ?_
  rintro e w2 ⟨rfl, h2⟩
  exact ⟨_, rfl, rfl, below_then hb h2⟩
theorem allM_spec (a : Option Addr) (c most : Nat) (xs : List (Int × Int)) (w : World) (hr : Rw encPair 2 w a xs) (hm : most ≤ 1000000) :
    Calls Tryz.prog 30 #[.slice a xs.length c, .int .i64 most, .func (.func 31) #[] #[]] w fun e w' => e = .returned (.bool (allOk xs most mergeOk)) ∧ Below w.heap.size w w' := by
  refine calls_ret (vc30_calls a xs.length c most (.func (.func 31) #[] #[]) w (fun v w' => v = .bool (allOk xs most mergeOk) ∧ Below w.heap.size w w') ?_) (by rintro v w' ⟨rfl, h⟩; exact ⟨rfl, h⟩)
  rintro w1 rfl
  refine CondP.mk ?_ ?_
  · intro h
    have h := of_decide_eq_true h
    have hb := below_alloc w (.cells (Value.cells (.func (.func 31) #[] #[])) 77)
    refine (containsM_spec a c xs _ (fun x => !mergeOk x) _ (hr.on hb) (by omega) ?_).mono ?_
    · intro x hx w1 hB
      refine callG_of (by kernel_rfl) ?_
      refine notM_spec x w.heap.size (.func (.func 31) #[] #[]) mergeOk w1 (Nat.lt_of_lt_of_le (by rw [alloc_size]; exact Nat.lt_succ_self _) hB.size) (by rw [hB.cell (by rw [alloc_size]; exact Nat.lt_succ_self _), cell_new]; rfl) ?_
      intro w2
      exact callG_of (by kernel_rfl) (spec_merge_spec x w2)
    · rintro e w2 ⟨rfl, h2⟩
      refine ⟨_, rfl, ?_, below_then hb h2⟩
      rw [not_any, allOk, decide_eq_true (show xs.length ≤ most by omega)]
      rfl
  · intro h
    have h := of_decide_eq_false h
    refine ⟨?_, below_alloc _ _⟩
    rw [allOk, decide_eq_false (show ¬ xs.length ≤ most by omega)]
    rfl
theorem equalM_spec (a b : Option Addr) (ca cb : Nat) (xs ys : List (Int × Int)) (w : World) (hx : Rw encPair 2 w a xs) (hy : Rw encPair 2 w b ys) (hl : xs.length ≤ 1000000000000000) :
    Calls Tryz.prog 41 #[.slice a xs.length ca, .slice b ys.length cb] w fun e w' => e = .returned (.bool (decide (xs = ys))) ∧ Below w.heap.size w w' := by
  refine calls_ret (vc41_calls a xs.length ca b ys.length cb w (fun v w' => v = .bool (decide (xs = ys)) ∧ Below w.heap.size w w') ?_) (by rintro v w' ⟨rfl, h⟩; exact ⟨rfl, h⟩)
  refine CondP.mk ?_ ?_
  · intro h
    refine ⟨?_, Below.refl _ _⟩
    rw [decide_eq_false]
    intro e
    subst e
    simp at h
  · intro h
    have hlen : (xs.length : Int) = ys.length := by simpa using h
    have hlen : xs.length = ys.length := by omega
    intro I hI
    have key := climb (α := Bool × World) xs.length (fun i x => xs.take i = ys.take i ∧ Below w.heap.size w x.2) (fun i x => I [.int .i64 (i : Int), .bool x.1] x.2) ?_ ?_ 0 (Nat.zero_le _) (false, w)
    · exact key ⟨rfl, Below.refl _ _⟩
    · rintro ⟨y4, w1⟩ ⟨he, hB⟩
      refine hI _ _ _ (CondP.no (by simp) ⟨?_, hB⟩)
      rw [List.take_length, hlen, List.take_length] at he
      rw [decide_eq_true he]
    · rintro i hi ih ⟨y4, w1⟩ ⟨he, hB⟩
      dsimp only at he hB
      refine hI _ _ _ (CondP.yes (by simp; omega) ?_)
      rintro w2 rfl
      obtain ⟨x, hxa, _, hcx⟩ := (hx.on hB) i _ (List.getElem?_eq_getElem hi)
      obtain ⟨y, hyb, _, hcy⟩ := (hy.on hB) i _ (List.getElem?_eq_getElem (show i < ys.length by omega))
      refine NilC.mk x hxa ⟨by omega, by omega, xs[i].1, xs[i].2, ⟨by have := hcx 0 _ rfl; simpa [add_zero] using this, by have := hcx 1 _ rfl; simpa using this, trivial⟩, NilC.mk y hyb ⟨by omega, by omega, ys[i].1, ys[i].2, ⟨by have := hcy 0 _ rfl; simpa [add_zero] using this, by have := hcy 1 _ rfl; simpa using this, trivial⟩, CondP.mk ?_ ?_⟩⟩
      · intro hne
        refine ⟨?_, hB.drew⟩
        rw [decide_eq_false]
        intro e
        subst e
        simp at hne
      · intro hne
        have heq : xs[i] = ys[i] := by
          simp only [str_toList, Bool.not_eq_false', Bool.and_eq_true, beq_iff_eq, and_true] at hne
          first | exact hne | exact Prod.ext hne.1 hne.2 | exact Prod.ext hne.1 (Prod.ext hne.2.1 hne.2.2)
        refine Ar.ok64 (by omega) (by omega) (ih (y4, w1.drew) ⟨?_, hB.drew⟩)
        rw [List.take_add_one, List.take_add_one, List.getElem?_eq_getElem hi, List.getElem?_eq_getElem (show i < ys.length by omega), he, heq]

/-! ### T -/
theorem indexT_spec (a : Option Addr) (c : Nat) (xs : List (Bs)) (f : Value) (p : Bs → Bool) (w : World) (hr : Rw encStr 1 w a xs) (hl : xs.length ≤ 1000000000000000)
    (hf : ∀ x ∈ xs, ∀ w1, Below w.heap.size w w1 → CallG ctx f [.string (str x)] w1 (fun e w2 => e = .returned (.bool (p x)) ∧ Below w1.heap.size w1 w2)) :
    Calls Tryz.prog 82 #[.slice a xs.length c, f] w fun e w' => e = .returned (.int .i64 (idx p xs)) ∧ Below w.heap.size w w' := by
  refine calls_ret (vc82_calls a xs.length c f w (fun v w' => v = .int .i64 (idx p xs) ∧ Below w.heap.size w w') ?_) (by rintro v w' ⟨rfl, h⟩; exact ⟨rfl, h⟩)
  intro I hI
  have key := climb (α := Int × World) xs.length (fun i x => (∀ j (hj : j < xs.length), j < i → p xs[j] = false) ∧ Below w.heap.size w x.2) (fun i x => I [.int .i64 (i : Int), .int .i64 x.1] x.2) ?_ ?_ 0 (Nat.zero_le _) (0, w)
  · exact key ⟨fun j _ hj => absurd hj (Nat.not_lt_zero j), Below.refl _ _⟩
  · rintro ⟨y, w1⟩ ⟨hb, hB⟩
    exact hI _ _ _ (CondP.no (by simp) ⟨by rw [idx_none fun j hj => hb j hj hj], hB⟩)
  · rintro i hi ih ⟨y, w1⟩ ⟨hb, hB⟩
    obtain ⟨q, hq, _, hcx⟩ := (hr.on hB) i _ (List.getElem?_eq_getElem hi)
    refine hI _ _ _ (CondP.yes (by simp; omega) (NilC.mk q hq ⟨by omega, by omega, str xs[i], by have := hcx 0 _ rfl; simpa [add_zero] using this, ?_⟩))
    refine (hf xs[i] (List.getElem_mem hi) w1 hB).mono ?_
    rintro e w2 ⟨rfl, h2⟩
    refine ⟨_, rfl, CondP.mk ?_ ?_⟩
    · intro hp
      exact ⟨by rw [idx_some hi hp fun j hj => hb j (by omega) hj], below_then hB h2⟩
    · intro hp
      refine Ar.ok64 (by omega) (by omega) (ih (y, w2) ⟨?_, below_then hB h2⟩)
      intro j hj hji
      by_cases he : j = i
      · subst he; exact hp
      · exact hb j hj (by omega)
theorem containsT_spec (a : Option Addr) (c : Nat) (xs : List (Bs)) (f : Value) (p : Bs → Bool) (w : World) (hr : Rw encStr 1 w a xs) (hl : xs.length ≤ 1000000000000000)
    (hf : ∀ x ∈ xs, ∀ w1, Below w.heap.size w w1 → CallG ctx f [.string (str x)] w1 (fun e w2 => e = .returned (.bool (p x)) ∧ Below w1.heap.size w1 w2)) :
    Calls Tryz.prog 61 #[.slice a xs.length c, f] w fun e w' => e = .returned (.bool (xs.any p)) ∧ Below w.heap.size w w' := by
  refine calls_ret (vc61_calls a xs.length c f w (fun v w' => v = .bool (xs.any p) ∧ Below w.heap.size w w') ?_) (by rintro v w' ⟨rfl, h⟩; exact ⟨rfl, h⟩)
  refine (indexT_spec a c xs f p w hr hl hf).mono ?_
  rintro e w1 ⟨rfl, h1⟩
  exact ⟨_, rfl, by rw [idx_any], h1⟩
theorem notT_spec (x : Bs) (cb : Nat) (may : Value) (p : Bs → Bool) (w : World) (hcb : cb < w.heap.size) (hc : w.cell? ⟨cb, 0, none⟩ = some may) (hm : ∀ w1, CallG ctx may [.string (str x)] w1 (fun e w2 => e = .returned (.bool (p x)) ∧ Below w1.heap.size w1 w2)) :
    Calls Tryz.prog 62 #[.string (str x), .pointer (some ⟨cb, 0, none⟩)] w fun e w' => e = .returned (.bool (!p x)) ∧ Below w.heap.size w w' := by
  refine calls_ret (vc62_calls (str x) (some ⟨cb, 0, none⟩) w (fun v w' => v = .bool (!p x) ∧ Below w.heap.size w w') ?_) (by rintro v w' ⟨rfl, h⟩; exact ⟨rfl, h⟩)
  refine ⟨may, hc, ?_⟩
  refine (hm w).mono ?_
  rintro e w2 ⟨rfl, h2⟩
  exact ⟨_, rfl, rfl, h2⟩
theorem allT_spec (a : Option Addr) (c most : Nat) (xs : List (Bs)) (w : World) (hr : Rw encStr 1 w a xs) (hm : most ≤ 1000000) :
    Calls Tryz.prog 32 #[.slice a xs.length c, .int .i64 most, .func (.func 33) #[] #[]] w fun e w' => e = .returned (.bool (allOk xs most thingOk)) ∧ Below w.heap.size w w' := by
  refine calls_ret (vc32_calls a xs.length c most (.func (.func 33) #[] #[]) w (fun v w' => v = .bool (allOk xs most thingOk) ∧ Below w.heap.size w w') ?_) (by rintro v w' ⟨rfl, h⟩; exact ⟨rfl, h⟩)
  rintro w1 rfl
  refine CondP.mk ?_ ?_
  · intro h
    have h := of_decide_eq_true h
    have hb := below_alloc w (.cells (Value.cells (.func (.func 33) #[] #[])) 36)
    refine (containsT_spec a c xs _ (fun x => !thingOk x) _ (hr.on hb) (by omega) ?_).mono ?_
    · intro x hx w1 hB
      refine callG_of (by kernel_rfl) ?_
      refine notT_spec x w.heap.size (.func (.func 33) #[] #[]) thingOk w1 (Nat.lt_of_lt_of_le (by rw [alloc_size]; exact Nat.lt_succ_self _) hB.size) (by rw [hB.cell (by rw [alloc_size]; exact Nat.lt_succ_self _), cell_new]; rfl) ?_
      intro w2
      exact callG_of (by kernel_rfl) (spec_thing_spec x w2)
    · rintro e w2 ⟨rfl, h2⟩
      refine ⟨_, rfl, ?_, below_then hb h2⟩
      rw [not_any, allOk, decide_eq_true (show xs.length ≤ most by omega)]
      rfl
  · intro h
    have h := of_decide_eq_false h
    refine ⟨?_, below_alloc _ _⟩
    rw [allOk, decide_eq_false (show ¬ xs.length ≤ most by omega)]
    rfl
theorem equalT_spec (a b : Option Addr) (ca cb : Nat) (xs ys : List (Bs)) (w : World) (hx : Rw encStr 1 w a xs) (hy : Rw encStr 1 w b ys) (hl : xs.length ≤ 1000000000000000) :
    Calls Tryz.prog 42 #[.slice a xs.length ca, .slice b ys.length cb] w fun e w' => e = .returned (.bool (decide (xs = ys))) ∧ Below w.heap.size w w' := by
  refine calls_ret (vc42_calls a xs.length ca b ys.length cb w (fun v w' => v = .bool (decide (xs = ys)) ∧ Below w.heap.size w w') ?_) (by rintro v w' ⟨rfl, h⟩; exact ⟨rfl, h⟩)
  refine CondP.mk ?_ ?_
  · intro h
    refine ⟨?_, Below.refl _ _⟩
    rw [decide_eq_false]
    intro e
    subst e
    simp at h
  · intro h
    have hlen : (xs.length : Int) = ys.length := by simpa using h
    have hlen : xs.length = ys.length := by omega
    intro I hI
    have key := climb (α := Bool × World) xs.length (fun i x => xs.take i = ys.take i ∧ Below w.heap.size w x.2) (fun i x => I [.int .i64 (i : Int), .bool x.1] x.2) ?_ ?_ 0 (Nat.zero_le _) (false, w)
    · exact key ⟨rfl, Below.refl _ _⟩
    · rintro ⟨y4, w1⟩ ⟨he, hB⟩
      refine hI _ _ _ (CondP.no (by simp) ⟨?_, hB⟩)
      rw [List.take_length, hlen, List.take_length] at he
      rw [decide_eq_true he]
    · rintro i hi ih ⟨y4, w1⟩ ⟨he, hB⟩
      dsimp only at he hB
      refine hI _ _ _ (CondP.yes (by simp; omega) ?_)
      rintro w2 rfl
      obtain ⟨x, hxa, _, hcx⟩ := (hx.on hB) i _ (List.getElem?_eq_getElem hi)
      obtain ⟨y, hyb, _, hcy⟩ := (hy.on hB) i _ (List.getElem?_eq_getElem (show i < ys.length by omega))
      refine NilC.mk x hxa ⟨by omega, by omega, str xs[i], by have := hcx 0 _ rfl; simpa [add_zero] using this, NilC.mk y hyb ⟨by omega, by omega, str ys[i], by have := hcy 0 _ rfl; simpa [add_zero] using this, CondP.mk ?_ ?_⟩⟩
      · intro hne
        refine ⟨?_, hB.drew⟩
        rw [decide_eq_false]
        intro e
        subst e
        simp at hne
      · intro hne
        have heq : xs[i] = ys[i] := by
          simp only [str_toList, Bool.not_eq_false', Bool.and_eq_true, beq_iff_eq, and_true] at hne
          first | exact hne | exact Prod.ext hne.1 hne.2 | exact Prod.ext hne.1 (Prod.ext hne.2.1 hne.2.2)
        refine Ar.ok64 (by omega) (by omega) (ih (y4, w1.drew) ⟨?_, hB.drew⟩)
        rw [List.take_add_one, List.take_add_one, List.getElem?_eq_getElem hi, List.getElem?_eq_getElem (show i < ys.length by omega), he, heq]

/-! ### S -/
theorem indexS_spec (a : Option Addr) (c : Nat) (xs : List (Int × Bs)) (f : Value) (p : Int × Bs → Bool) (w : World) (hr : Rw encSpecial 2 w a xs) (hl : xs.length ≤ 1000000000000000)
    (hf : ∀ x ∈ xs, ∀ w1, Below w.heap.size w w1 → CallG ctx f [.agg #[.int .i64 x.1, .string (str x.2)]] w1 (fun e w2 => e = .returned (.bool (p x)) ∧ Below w1.heap.size w1 w2)) :
    Calls Tryz.prog 83 #[.slice a xs.length c, f] w fun e w' => e = .returned (.int .i64 (idx p xs)) ∧ Below w.heap.size w w' := by
  refine calls_ret (vc83_calls a xs.length c f w (fun v w' => v = .int .i64 (idx p xs) ∧ Below w.heap.size w w') ?_) (by rintro v w' ⟨rfl, h⟩; exact ⟨rfl, h⟩)
  intro I hI
  have key := climb (α := Int × World) xs.length (fun i x => (∀ j (hj : j < xs.length), j < i → p xs[j] = false) ∧ Below w.heap.size w x.2) (fun i x => I [.int .i64 (i : Int), .int .i64 x.1] x.2) ?_ ?_ 0 (Nat.zero_le _) (0, w)
  · exact key ⟨fun j _ hj => absurd hj (Nat.not_lt_zero j), Below.refl _ _⟩
  · rintro ⟨y, w1⟩ ⟨hb, hB⟩
    exact hI _ _ _ (CondP.no (by simp) ⟨by rw [idx_none fun j hj => hb j hj hj], hB⟩)
  · rintro i hi ih ⟨y, w1⟩ ⟨hb, hB⟩
    obtain ⟨q, hq, _, hcx⟩ := (hr.on hB) i _ (List.getElem?_eq_getElem hi)
    refine hI _ _ _ (CondP.yes (by simp; omega) (NilC.mk q hq ⟨by omega, by omega, xs[i].1, str xs[i].2, ⟨by have := hcx 0 _ rfl; simpa [add_zero] using this, by have := hcx 1 _ rfl; simpa using this, trivial⟩, ?_⟩))
    refine (hf xs[i] (List.getElem_mem hi) w1 hB).mono ?_
    rintro e w2 ⟨rfl, h2⟩
    refine ⟨_, rfl, CondP.mk ?_ ?_⟩
    · intro hp
      exact ⟨by rw [idx_some hi hp fun j hj => hb j (by omega) hj], below_then hB h2⟩
    · intro hp
      refine Ar.ok64 (by omega) (by omega) (ih (y, w2) ⟨?_, below_then hB h2⟩)
      intro j hj hji
      by_cases he : j = i
      · subst he; exact hp
      · exact hb j hj (by omega)
theorem containsS_spec (a : Option Addr) (c : Nat) (xs : List (Int × Bs)) (f : Value) (p : Int × Bs → Bool) (w : World) (hr : Rw encSpecial 2 w a xs) (hl : xs.length ≤ 1000000000000000)
    (hf : ∀ x ∈ xs, ∀ w1, Below w.heap.size w w1 → CallG ctx f [.agg #[.int .i64 x.1, .string (str x.2)]] w1 (fun e w2 => e = .returned (.bool (p x)) ∧ Below w1.heap.size w1 w2)) :
    Calls Tryz.prog 63 #[.slice a xs.length c, f] w fun e w' => e = .returned (.bool (xs.any p)) ∧ Below w.heap.size w w' := by
  refine calls_ret (vc63_calls a xs.length c f w (fun v w' => v = .bool (xs.any p) ∧ Below w.heap.size w w') ?_) (by rintro v w' ⟨rfl, h⟩; exact ⟨rfl, h⟩)
  refine (indexS_spec a c xs f p w hr hl hf).mono ?_
  rintro e w1 ⟨rfl, h1⟩
  exact ⟨_, rfl, by rw [idx_any], h1⟩
theorem notS_spec (x : Int × Bs) (cb : Nat) (may : Value) (p : Int × Bs → Bool) (w : World) (hcb : cb < w.heap.size) (hc : w.cell? ⟨cb, 0, none⟩ = some may) (hm : ∀ w1, CallG ctx may [.agg #[.int .i64 x.1, .string (str x.2)]] w1 (fun e w2 => e = .returned (.bool (p x)) ∧ Below w1.heap.size w1 w2)) :
    Calls Tryz.prog 64 #[.agg #[.int .i64 x.1, .string (str x.2)], .pointer (some ⟨cb, 0, none⟩)] w fun e w' => e = .returned (.bool (!p x)) ∧ Below w.heap.size w w' := by
  refine calls_ret (vc64_calls (x.1) (str x.2) (some ⟨cb, 0, none⟩) w (fun v w' => v = .bool (!p x) ∧ Below w.heap.size w w') ?_) (by rintro v w' ⟨rfl, h⟩; exact ⟨rfl, h⟩)
  rintro w1 rfl
  have hb := below_alloc w (.cells #[Value.int .i64 x.1, Value.string (str x.2)] 46)
  refine ⟨may, by rw [hb.cell hcb]; exact hc, x.1, str x.2, ⟨by rw [cell_new]; rfl, by rw [add_lit, cell_new]; rfl, trivial⟩, ?_⟩
  refine (hm _).mono ?_
  rintro e w2 ⟨rfl, h2⟩
  exact ⟨_, rfl, rfl, below_then hb h2⟩
theorem allS_spec (a : Option Addr) (c most : Nat) (xs : List (Int × Bs)) (w : World) (hr : Rw encSpecial 2 w a xs) (hm : most ≤ 1000000) :
    Calls Tryz.prog 34 #[.slice a xs.length c, .int .i64 most, .func (.func 35) #[] #[]] w fun e w' => e = .returned (.bool (allOk xs most specialOk)) ∧ Below w.heap.size w w' := by
  refine calls_ret (vc34_calls a xs.length c most (.func (.func 35) #[] #[]) w (fun v w' => v = .bool (allOk xs most specialOk) ∧ Below w.heap.size w w') ?_) (by rintro v w' ⟨rfl, h⟩; exact ⟨rfl, h⟩)
  rintro w1 rfl
  refine CondP.mk ?_ ?_
  · intro h
    have h := of_decide_eq_true h
    have hb := below_alloc w (.cells (Value.cells (.func (.func 35) #[] #[])) 80)
    refine (containsS_spec a c xs _ (fun x => !specialOk x) _ (hr.on hb) (by omega) ?_).mono ?_
    · intro x hx w1 hB
      refine callG_of (by kernel_rfl) ?_
      refine notS_spec x w.heap.size (.func (.func 35) #[] #[]) specialOk w1 (Nat.lt_of_lt_of_le (by rw [alloc_size]; exact Nat.lt_succ_self _) hB.size) (by rw [hB.cell (by rw [alloc_size]; exact Nat.lt_succ_self _), cell_new]; rfl) ?_
      intro w2
      exact callG_of (by kernel_rfl) (spec_special_spec x w2)
    · rintro e w2 ⟨rfl, h2⟩
      refine ⟨_, rfl, ?_, below_then hb h2⟩
      rw [not_any, allOk, decide_eq_true (show xs.length ≤ most by omega)]
      rfl
  · intro h
    have h := of_decide_eq_false h
    refine ⟨?_, below_alloc _ _⟩
    rw [allOk, decide_eq_false (show ¬ xs.length ≤ most by omega)]
    rfl
theorem equalS_spec (a b : Option Addr) (ca cb : Nat) (xs ys : List (Int × Bs)) (w : World) (hx : Rw encSpecial 2 w a xs) (hy : Rw encSpecial 2 w b ys) (hl : xs.length ≤ 1000000000000000) :
    Calls Tryz.prog 43 #[.slice a xs.length ca, .slice b ys.length cb] w fun e w' => e = .returned (.bool (decide (xs = ys))) ∧ Below w.heap.size w w' := by
  refine calls_ret (vc43_calls a xs.length ca b ys.length cb w (fun v w' => v = .bool (decide (xs = ys)) ∧ Below w.heap.size w w') ?_) (by rintro v w' ⟨rfl, h⟩; exact ⟨rfl, h⟩)
  refine CondP.mk ?_ ?_
  · intro h
    refine ⟨?_, Below.refl _ _⟩
    rw [decide_eq_false]
    intro e
    subst e
    simp at h
  · intro h
    have hlen : (xs.length : Int) = ys.length := by simpa using h
    have hlen : xs.length = ys.length := by omega
    intro I hI
    have key := climb (α := Bool × World) xs.length (fun i x => xs.take i = ys.take i ∧ Below w.heap.size w x.2) (fun i x => I [.int .i64 (i : Int), .bool x.1] x.2) ?_ ?_ 0 (Nat.zero_le _) (false, w)
    · exact key ⟨rfl, Below.refl _ _⟩
    · rintro ⟨y4, w1⟩ ⟨he, hB⟩
      refine hI _ _ _ (CondP.no (by simp) ⟨?_, hB⟩)
      rw [List.take_length, hlen, List.take_length] at he
      rw [decide_eq_true he]
    · rintro i hi ih ⟨y4, w1⟩ ⟨he, hB⟩
      dsimp only at he hB
      refine hI _ _ _ (CondP.yes (by simp; omega) ?_)
      rintro w2 rfl
      obtain ⟨x, hxa, _, hcx⟩ := (hx.on hB) i _ (List.getElem?_eq_getElem hi)
      obtain ⟨y, hyb, _, hcy⟩ := (hy.on hB) i _ (List.getElem?_eq_getElem (show i < ys.length by omega))
      refine NilC.mk x hxa ⟨by omega, by omega, xs[i].1, str xs[i].2, ⟨by have := hcx 0 _ rfl; simpa [add_zero] using this, by have := hcx 1 _ rfl; simpa using this, trivial⟩, NilC.mk y hyb ⟨by omega, by omega, ys[i].1, str ys[i].2, ⟨by have := hcy 0 _ rfl; simpa [add_zero] using this, by have := hcy 1 _ rfl; simpa using this, trivial⟩, CondP.mk ?_ ?_⟩⟩
      · intro hne
        refine ⟨?_, hB.drew⟩
        rw [decide_eq_false]
        intro e
        subst e
        simp at hne
      · intro hne
        have heq : xs[i] = ys[i] := by
          simp only [str_toList, Bool.not_eq_false', Bool.and_eq_true, beq_iff_eq, and_true] at hne
          first | exact hne | exact Prod.ext hne.1 hne.2 | exact Prod.ext hne.1 (Prod.ext hne.2.1 hne.2.2)
        refine Ar.ok64 (by omega) (by omega) (ih (y4, w1.drew) ⟨?_, hB.drew⟩)
        rw [List.take_add_one, List.take_add_one, List.getElem?_eq_getElem hi, List.getElem?_eq_getElem (show i < ys.length by omega), he, heq]

/-! ### C -/
theorem indexC_spec (a : Option Addr) (c : Nat) (xs : List (Int × Int × Int)) (f : Value) (p : Int × Int × Int → Bool) (w : World) (hr : Rw encClass 3 w a xs) (hl : xs.length ≤ 1000000000000000)
    (hf : ∀ x ∈ xs, ∀ w1, Below w.heap.size w w1 → CallG ctx f [.agg #[.int .i64 x.1, .int .i64 x.2.1, .int .i64 x.2.2]] w1 (fun e w2 => e = .returned (.bool (p x)) ∧ Below w1.heap.size w1 w2)) :
    Calls Tryz.prog 84 #[.slice a xs.length c, f] w fun e w' => e = .returned (.int .i64 (idx p xs)) ∧ Below w.heap.size w w' := by
  refine calls_ret (vc84_calls a xs.length c f w (fun v w' => v = .int .i64 (idx p xs) ∧ Below w.heap.size w w') ?_) (by rintro v w' ⟨rfl, h⟩; exact ⟨rfl, h⟩)
  intro I hI
  have key := climb (α := Int × World) xs.length (fun i x => (∀ j (hj : j < xs.length), j < i → p xs[j] = false) ∧ Below w.heap.size w x.2) (fun i x => I [.int .i64 (i : Int), .int .i64 x.1] x.2) ?_ ?_ 0 (Nat.zero_le _) (0, w)
  · exact key ⟨fun j _ hj => absurd hj (Nat.not_lt_zero j), Below.refl _ _⟩
  · rintro ⟨y, w1⟩ ⟨hb, hB⟩
    exact hI _ _ _ (CondP.no (by simp) ⟨by rw [idx_none fun j hj => hb j hj hj], hB⟩)
  · rintro i hi ih ⟨y, w1⟩ ⟨hb, hB⟩
    obtain ⟨q, hq, _, hcx⟩ := (hr.on hB) i _ (List.getElem?_eq_getElem hi)
    refine hI _ _ _ (CondP.yes (by simp; omega) (NilC.mk q hq ⟨by omega, by omega, xs[i].1, xs[i].2.1, xs[i].2.2, ⟨by have := hcx 0 _ rfl; simpa [add_zero] using this, by have := hcx 1 _ rfl; simpa using this, by have := hcx 2 _ rfl; simpa using this, trivial⟩, ?_⟩))
    refine (hf xs[i] (List.getElem_mem hi) w1 hB).mono ?_
    rintro e w2 ⟨rfl, h2⟩
    refine ⟨_, rfl, CondP.mk ?_ ?_⟩
    · intro hp
      exact ⟨by rw [idx_some hi hp fun j hj => hb j (by omega) hj], below_then hB h2⟩
    · intro hp
      refine Ar.ok64 (by omega) (by omega) (ih (y, w2) ⟨?_, below_then hB h2⟩)
      intro j hj hji
      by_cases he : j = i
      · subst he; exact hp
      · exact hb j hj (by omega)
theorem containsC_spec (a : Option Addr) (c : Nat) (xs : List (Int × Int × Int)) (f : Value) (p : Int × Int × Int → Bool) (w : World) (hr : Rw encClass 3 w a xs) (hl : xs.length ≤ 1000000000000000)
    (hf : ∀ x ∈ xs, ∀ w1, Below w.heap.size w w1 → CallG ctx f [.agg #[.int .i64 x.1, .int .i64 x.2.1, .int .i64 x.2.2]] w1 (fun e w2 => e = .returned (.bool (p x)) ∧ Below w1.heap.size w1 w2)) :
    Calls Tryz.prog 65 #[.slice a xs.length c, f] w fun e w' => e = .returned (.bool (xs.any p)) ∧ Below w.heap.size w w' := by
  refine calls_ret (vc65_calls a xs.length c f w (fun v w' => v = .bool (xs.any p) ∧ Below w.heap.size w w') ?_) (by rintro v w' ⟨rfl, h⟩; exact ⟨rfl, h⟩)
  refine (indexC_spec a c xs f p w hr hl hf).mono ?_
  rintro e w1 ⟨rfl, h1⟩
  exact ⟨_, rfl, by rw [idx_any], h1⟩
theorem notC_spec (x : Int × Int × Int) (cb : Nat) (may : Value) (p : Int × Int × Int → Bool) (w : World) (hcb : cb < w.heap.size) (hc : w.cell? ⟨cb, 0, none⟩ = some may) (hm : ∀ w1, CallG ctx may [.agg #[.int .i64 x.1, .int .i64 x.2.1, .int .i64 x.2.2]] w1 (fun e w2 => e = .returned (.bool (p x)) ∧ Below w1.heap.size w1 w2)) :
    Calls Tryz.prog 66 #[.agg #[.int .i64 x.1, .int .i64 x.2.1, .int .i64 x.2.2], .pointer (some ⟨cb, 0, none⟩)] w fun e w' => e = .returned (.bool (!p x)) ∧ Below w.heap.size w w' := by
  refine calls_ret (vc66_calls (x.1) (x.2.1) (x.2.2) (some ⟨cb, 0, none⟩) w (fun v w' => v = .bool (!p x) ∧ Below w.heap.size w w') ?_) (by rintro v w' ⟨rfl, h⟩; exact ⟨rfl, h⟩)
  rintro w1 rfl
  have hb := below_alloc w (.cells #[Value.int .i64 x.1, Value.int .i64 x.2.1, Value.int .i64 x.2.2] 57)
  refine ⟨may, by rw [hb.cell hcb]; exact hc, x.1, x.2.1, x.2.2, ⟨by rw [cell_new]; rfl, by rw [add_lit, cell_new]; rfl, by rw [add_lit, cell_new]; rfl, trivial⟩, ?_⟩
  refine (hm _).mono ?_
  rintro e w2 ⟨rfl, h2⟩
  exact ⟨_, rfl, rfl, below_then hb h2⟩
theorem allC_spec (a : Option Addr) (c most : Nat) (xs : List (Int × Int × Int)) (w : World) (hr : Rw encClass 3 w a xs) (hm : most ≤ 1000000) :
    Calls Tryz.prog 36 #[.slice a xs.length c, .int .i64 most, .func (.func 37) #[] #[]] w fun e w' => e = .returned (.bool (allOk xs most classOk)) ∧ Below w.heap.size w w' := by
  refine calls_ret (vc36_calls a xs.length c most (.func (.func 37) #[] #[]) w (fun v w' => v = .bool (allOk xs most classOk) ∧ Below w.heap.size w w') ?_) (by rintro v w' ⟨rfl, h⟩; exact ⟨rfl, h⟩)
  rintro w1 rfl
  refine CondP.mk ?_ ?_
  · intro h
    have h := of_decide_eq_true h
    have hb := below_alloc w (.cells (Value.cells (.func (.func 37) #[] #[])) 82)
    refine (containsC_spec a c xs _ (fun x => !classOk x) _ (hr.on hb) (by omega) ?_).mono ?_
    · intro x hx w1 hB
      refine callG_of (by kernel_rfl) ?_
      refine notC_spec x w.heap.size (.func (.func 37) #[] #[]) classOk w1 (Nat.lt_of_lt_of_le (by rw [alloc_size]; exact Nat.lt_succ_self _) hB.size) (by rw [hB.cell (by rw [alloc_size]; exact Nat.lt_succ_self _), cell_new]; rfl) ?_
      intro w2
      exact callG_of (by kernel_rfl) (spec_class_spec x w2)
    · rintro e w2 ⟨rfl, h2⟩
      refine ⟨_, rfl, ?_, below_then hb h2⟩
      rw [not_any, allOk, decide_eq_true (show xs.length ≤ most by omega)]
      rfl
  · intro h
    have h := of_decide_eq_false h
    refine ⟨?_, below_alloc _ _⟩
    rw [allOk, decide_eq_false (show ¬ xs.length ≤ most by omega)]
    rfl
theorem equalC_spec (a b : Option Addr) (ca cb : Nat) (xs ys : List (Int × Int × Int)) (w : World) (hx : Rw encClass 3 w a xs) (hy : Rw encClass 3 w b ys) (hl : xs.length ≤ 1000000000000000) :
    Calls Tryz.prog 44 #[.slice a xs.length ca, .slice b ys.length cb] w fun e w' => e = .returned (.bool (decide (xs = ys))) ∧ Below w.heap.size w w' := by
  refine calls_ret (vc44_calls a xs.length ca b ys.length cb w (fun v w' => v = .bool (decide (xs = ys)) ∧ Below w.heap.size w w') ?_) (by rintro v w' ⟨rfl, h⟩; exact ⟨rfl, h⟩)
  refine CondP.mk ?_ ?_
  · intro h
    refine ⟨?_, Below.refl _ _⟩
    rw [decide_eq_false]
    intro e
    subst e
    simp at h
  · intro h
    have hlen : (xs.length : Int) = ys.length := by simpa using h
    have hlen : xs.length = ys.length := by omega
    intro I hI
    have key := climb (α := Bool × World) xs.length (fun i x => xs.take i = ys.take i ∧ Below w.heap.size w x.2) (fun i x => I [.int .i64 (i : Int), .bool x.1] x.2) ?_ ?_ 0 (Nat.zero_le _) (false, w)
    · exact key ⟨rfl, Below.refl _ _⟩
    · rintro ⟨y4, w1⟩ ⟨he, hB⟩
      refine hI _ _ _ (CondP.no (by simp) ⟨?_, hB⟩)
      rw [List.take_length, hlen, List.take_length] at he
      rw [decide_eq_true he]
    · rintro i hi ih ⟨y4, w1⟩ ⟨he, hB⟩
      dsimp only at he hB
      refine hI _ _ _ (CondP.yes (by simp; omega) ?_)
      rintro w2 rfl
      obtain ⟨x, hxa, _, hcx⟩ := (hx.on hB) i _ (List.getElem?_eq_getElem hi)
      obtain ⟨y, hyb, _, hcy⟩ := (hy.on hB) i _ (List.getElem?_eq_getElem (show i < ys.length by omega))
      refine NilC.mk x hxa ⟨by omega, by omega, xs[i].1, xs[i].2.1, xs[i].2.2, ⟨by have := hcx 0 _ rfl; simpa [add_zero] using this, by have := hcx 1 _ rfl; simpa using this, by have := hcx 2 _ rfl; simpa using this, trivial⟩, NilC.mk y hyb ⟨by omega, by omega, ys[i].1, ys[i].2.1, ys[i].2.2, ⟨by have := hcy 0 _ rfl; simpa [add_zero] using this, by have := hcy 1 _ rfl; simpa using this, by have := hcy 2 _ rfl; simpa using this, trivial⟩, CondP.mk ?_ ?_⟩⟩
      · intro hne
        refine ⟨?_, hB.drew⟩
        rw [decide_eq_false]
        intro e
        subst e
        simp at hne
      · intro hne
        have heq : xs[i] = ys[i] := by
          simp only [str_toList, Bool.not_eq_false', Bool.and_eq_true, beq_iff_eq, and_true] at hne
          first | exact hne | exact Prod.ext hne.1 hne.2 | exact Prod.ext hne.1 (Prod.ext hne.2.1 hne.2.2)
        refine Ar.ok64 (by omega) (by omega) (ih (y4, w1.drew) ⟨?_, hB.drew⟩)
        rw [List.take_add_one, List.take_add_one, List.getElem?_eq_getElem hi, List.getElem?_eq_getElem (show i < ys.length by omega), he, heq]

/-! ### J -/
theorem indexJ_spec (a : Option Addr) (c : Nat) (xs : List (Int × Int)) (f : Value) (p : Int × Int → Bool) (w : World) (hr : Rw encPair 2 w a xs) (hl : xs.length ≤ 1000000000000000)
    (hf : ∀ x ∈ xs, ∀ w1, Below w.heap.size w w1 → CallG ctx f [.agg #[.int .i64 x.1, .int .i64 x.2]] w1 (fun e w2 => e = .returned (.bool (p x)) ∧ Below w1.heap.size w1 w2)) :
    Calls Tryz.prog 85 #[.slice a xs.length c, f] w fun e w' => e = .returned (.int .i64 (idx p xs)) ∧ Below w.heap.size w w' := by
  refine calls_ret (vc85_calls a xs.length c f w (fun v w' => v = .int .i64 (idx p xs) ∧ Below w.heap.size w w') ?_) (by rintro v w' ⟨rfl, h⟩; exact ⟨rfl, h⟩)
  intro I hI
  have key := climb (α := Int × World) xs.length (fun i x => (∀ j (hj : j < xs.length), j < i → p xs[j] = false) ∧ Below w.heap.size w x.2) (fun i x => I [.int .i64 (i : Int), .int .i64 x.1] x.2) ?_ ?_ 0 (Nat.zero_le _) (0, w)
  · exact key ⟨fun j _ hj => absurd hj (Nat.not_lt_zero j), Below.refl _ _⟩
  · rintro ⟨y, w1⟩ ⟨hb, hB⟩
    exact hI _ _ _ (CondP.no (by simp) ⟨by rw [idx_none fun j hj => hb j hj hj], hB⟩)
  · rintro i hi ih ⟨y, w1⟩ ⟨hb, hB⟩
    obtain ⟨q, hq, _, hcx⟩ := (hr.on hB) i _ (List.getElem?_eq_getElem hi)
    refine hI _ _ _ (CondP.yes (by simp; omega) (NilC.mk q hq ⟨by omega, by omega, xs[i].1, xs[i].2, ⟨by have := hcx 0 _ rfl; simpa [add_zero] using this, by have := hcx 1 _ rfl; simpa using this, trivial⟩, ?_⟩))
    refine (hf xs[i] (List.getElem_mem hi) w1 hB).mono ?_
    rintro e w2 ⟨rfl, h2⟩
    refine ⟨_, rfl, CondP.mk ?_ ?_⟩
    · intro hp
      exact ⟨by rw [idx_some hi hp fun j hj => hb j (by omega) hj], below_then hB h2⟩
    · intro hp
      refine Ar.ok64 (by omega) (by omega) (ih (y, w2) ⟨?_, below_then hB h2⟩)
      intro j hj hji
      by_cases he : j = i
      · subst he; exact hp
      · exact hb j hj (by omega)
theorem containsJ_spec (a : Option Addr) (c : Nat) (xs : List (Int × Int)) (f : Value) (p : Int × Int → Bool) (w : World) (hr : Rw encPair 2 w a xs) (hl : xs.length ≤ 1000000000000000)
    (hf : ∀ x ∈ xs, ∀ w1, Below w.heap.size w w1 → CallG ctx f [.agg #[.int .i64 x.1, .int .i64 x.2]] w1 (fun e w2 => e = .returned (.bool (p x)) ∧ Below w1.heap.size w1 w2)) :
    Calls Tryz.prog 67 #[.slice a xs.length c, f] w fun e w' => e = .returned (.bool (xs.any p)) ∧ Below w.heap.size w w' := by
  refine calls_ret (vc67_calls a xs.length c f w (fun v w' => v = .bool (xs.any p) ∧ Below w.heap.size w w') ?_) (by rintro v w' ⟨rfl, h⟩; exact ⟨rfl, h⟩)
  refine (indexJ_spec a c xs f p w hr hl hf).mono ?_
  rintro e w1 ⟨rfl, h1⟩
  exact ⟨_, rfl, by rw [idx_any], h1⟩
theorem notJ_spec (x : Int × Int) (cb : Nat) (may : Value) (p : Int × Int → Bool) (w : World) (hcb : cb < w.heap.size) (hc : w.cell? ⟨cb, 0, none⟩ = some may) (hm : ∀ w1, CallG ctx may [.agg #[.int .i64 x.1, .int .i64 x.2]] w1 (fun e w2 => e = .returned (.bool (p x)) ∧ Below w1.heap.size w1 w2)) :
    Calls Tryz.prog 68 #[.agg #[.int .i64 x.1, .int .i64 x.2], .pointer (some ⟨cb, 0, none⟩)] w fun e w' => e = .returned (.bool (!p x)) ∧ Below w.heap.size w w' := by
  refine calls_ret (vc68_calls (x.1) (x.2) (some ⟨cb, 0, none⟩) w (fun v w' => v = .bool (!p x) ∧ Below w.heap.size w w') ?_) (by rintro v w' ⟨rfl, h⟩; exact ⟨rfl, h⟩)
  rintro w1 rfl
  have hb := below_alloc w (.cells #[Value.int .i64 x.1, Value.int .i64 x.2] 58)
  refine ⟨may, by rw [hb.cell hcb]; exact hc, x.1, x.2, ⟨by rw [cell_new]; rfl, by rw [add_lit, cell_new]; rfl, trivial⟩, ?_⟩
  refine (hm _).mono ?_
  rintro e w2 ⟨rfl, h2⟩
  exact ⟨_, rfl, rfl, below_then hb h2⟩
theorem allJ_spec (a : Option Addr) (c most : Nat) (xs : List (Int × Int)) (w : World) (hr : Rw encPair 2 w a xs) (hm : most ≤ 1000000) :
    Calls Tryz.prog 38 #[.slice a xs.length c, .int .i64 most, .func (.func 39) #[] #[]] w fun e w' => e = .returned (.bool (allOk xs most joinOk)) ∧ Below w.heap.size w w' := by
  refine calls_ret (vc38_calls a xs.length c most (.func (.func 39) #[] #[]) w (fun v w' => v = .bool (allOk xs most joinOk) ∧ Below w.heap.size w w') ?_) (by rintro v w' ⟨rfl, h⟩; exact ⟨rfl, h⟩)
  rintro w1 rfl
  refine CondP.mk ?_ ?_
  · intro h
    have h := of_decide_eq_true h
    have hb := below_alloc w (.cells (Value.cells (.func (.func 39) #[] #[])) 84)
    refine (containsJ_spec a c xs _ (fun x => !joinOk x) _ (hr.on hb) (by omega) ?_).mono ?_
    · intro x hx w1 hB
      refine callG_of (by kernel_rfl) ?_
      refine notJ_spec x w.heap.size (.func (.func 39) #[] #[]) joinOk w1 (Nat.lt_of_lt_of_le (by rw [alloc_size]; exact Nat.lt_succ_self _) hB.size) (by rw [hB.cell (by rw [alloc_size]; exact Nat.lt_succ_self _), cell_new]; rfl) ?_
      intro w2
      exact callG_of (by kernel_rfl) (spec_join_spec x w2)
    · rintro e w2 ⟨rfl, h2⟩
      refine ⟨_, rfl, ?_, below_then hb h2⟩
      rw [not_any, allOk, decide_eq_true (show xs.length ≤ most by omega)]
      rfl
  · intro h
    have h := of_decide_eq_false h
    refine ⟨?_, below_alloc _ _⟩
    rw [allOk, decide_eq_false (show ¬ xs.length ≤ most by omega)]
    rfl
theorem equalJ_spec (a b : Option Addr) (ca cb : Nat) (xs ys : List (Int × Int)) (w : World) (hx : Rw encPair 2 w a xs) (hy : Rw encPair 2 w b ys) (hl : xs.length ≤ 1000000000000000) :
    Calls Tryz.prog 45 #[.slice a xs.length ca, .slice b ys.length cb] w fun e w' => e = .returned (.bool (decide (xs = ys))) ∧ Below w.heap.size w w' := by
  refine calls_ret (vc45_calls a xs.length ca b ys.length cb w (fun v w' => v = .bool (decide (xs = ys)) ∧ Below w.heap.size w w') ?_) (by rintro v w' ⟨rfl, h⟩; exact ⟨rfl, h⟩)
  refine CondP.mk ?_ ?_
  · intro h
    refine ⟨?_, Below.refl _ _⟩
    rw [decide_eq_false]
    intro e
    subst e
    simp at h
  · intro h
    have hlen : (xs.length : Int) = ys.length := by simpa using h
    have hlen : xs.length = ys.length := by omega
    intro I hI
    have key := climb (α := Bool × World) xs.length (fun i x => xs.take i = ys.take i ∧ Below w.heap.size w x.2) (fun i x => I [.int .i64 (i : Int), .bool x.1] x.2) ?_ ?_ 0 (Nat.zero_le _) (false, w)
    · exact key ⟨rfl, Below.refl _ _⟩
    · rintro ⟨y4, w1⟩ ⟨he, hB⟩
      refine hI _ _ _ (CondP.no (by simp) ⟨?_, hB⟩)
      rw [List.take_length, hlen, List.take_length] at he
      rw [decide_eq_true he]
    · rintro i hi ih ⟨y4, w1⟩ ⟨he, hB⟩
      dsimp only at he hB
      refine hI _ _ _ (CondP.yes (by simp; omega) ?_)
      rintro w2 rfl
      obtain ⟨x, hxa, _, hcx⟩ := (hx.on hB) i _ (List.getElem?_eq_getElem hi)
      obtain ⟨y, hyb, _, hcy⟩ := (hy.on hB) i _ (List.getElem?_eq_getElem (show i < ys.length by omega))
      refine NilC.mk x hxa ⟨by omega, by omega, xs[i].1, xs[i].2, ⟨by have := hcx 0 _ rfl; simpa [add_zero] using this, by have := hcx 1 _ rfl; simpa using this, trivial⟩, NilC.mk y hyb ⟨by omega, by omega, ys[i].1, ys[i].2, ⟨by have := hcy 0 _ rfl; simpa [add_zero] using this, by have := hcy 1 _ rfl; simpa using this, trivial⟩, CondP.mk ?_ ?_⟩⟩
      · intro hne
        refine ⟨?_, hB.drew⟩
        rw [decide_eq_false]
        intro e
        subst e
        simp at hne
      · intro hne
        have heq : xs[i] = ys[i] := by
          simp only [str_toList, Bool.not_eq_false', Bool.and_eq_true, beq_iff_eq, and_true] at hne
          first | exact hne | exact Prod.ext hne.1 hne.2 | exact Prod.ext hne.1 (Prod.ext hne.2.1 hne.2.2)
        refine Ar.ok64 (by omega) (by omega) (ih (y4, w1.drew) ⟨?_, hB.drew⟩)
        rw [List.take_add_one, List.take_add_one, List.getElem?_eq_getElem hi, List.getElem?_eq_getElem (show i < ys.length by omega), he, heq]
end Go.Proofs.YtldgehlbicoedaaGreatDoor.Eng

/- spec.Right and spec.Same, walked by the engine. -/
set_option linter.unusedVariables false
set_option linter.unusedSimpArgs false
set_option maxRecDepth 100000
namespace Go.Proofs.YtldgehlbicoedaaGreatDoor.Eng
open Go Go.RowKit

/-- A spec's words in memory. -/
structure SpecW where
  ranked : Bool
  s1 : Sl
  s2 : Sl
  s3 : Sl
  s4 : Sl
  s5 : Sl
abbrev SpecW.cells (x : SpecW) : Array Value := #[.bool x.ranked, x.s1.v, x.s2.v, x.s3.v, x.s4.v, x.s5.v]
abbrev SpecW.v (x : SpecW) : Value := .agg x.cells
/-- They hold a spec. -/
structure SpecAt (w : World) (x : SpecW) (s : SpecV) : Prop where
  ranked : x.ranked = s.ranked
  n1 : x.s1.n = s.merges.length
  r1 : Rw encPair 2 w x.s1.a s.merges
  n2 : x.s2.n = s.tokens.length
  r2 : Rw encStr 1 w x.s2.a s.tokens
  n3 : x.s3.n = s.specials.length
  r3 : Rw encSpecial 2 w x.s3.a s.specials
  n4 : x.s4.n = s.classes.length
  r4 : Rw encClass 3 w x.s4.a s.classes
  n5 : x.s5.n = s.joins.length
  r5 : Rw encPair 2 w x.s5.a s.joins
theorem SpecAt.on {w w' : World} {x : SpecW} {s : SpecV} (h : SpecAt w x s) (hb : Below w.heap.size w w') : SpecAt w' x s :=
  ⟨h.ranked, h.n1, h.r1.on hb, h.n2, h.r2.on hb, h.n3, h.r3.on hb, h.n4, h.r4.on hb, h.n5, h.r5.on hb⟩
theorem cell_kept {w w1 : World} {c : Array Value} {e : TypeId} {j : Nat} (h : Below (w.alloc (.cells c e)).heap.size (w.alloc (.cells c e)) w1) : w1.cell? ⟨w.heap.size, j, none⟩ = c[j]? := by
  rw [h.cell (by rw [alloc_size]; exact Nat.lt_succ_self _), cell_new]

theorem Right_spec (x : SpecW) (s : SpecV) (w : World) (h : SpecAt w x s) :
    Calls Tryz.prog 13 #[x.v] w fun e w' => e = .returned (.bool s.right) ∧ Below w.heap.size w w' := by
  refine calls_ret (vc13_calls x.ranked x.s1.a x.s1.n x.s1.c x.s2.a x.s2.n x.s2.c x.s3.a x.s3.n x.s3.c x.s4.a x.s4.n x.s4.c x.s5.a x.s5.n x.s5.c w (fun v w' => v = .bool s.right ∧ Below w.heap.size w w') ?_) (by rintro v w' ⟨rfl, h⟩; exact ⟨rfl, h⟩)
  rintro w1 rfl
  have hb := below_alloc w (.cells x.cells 29)
  have h1 := h.on hb
  have c0 : ∀ j, (w.alloc (.cells x.cells 29)).cell? ((nb w).add j) = x.cells[j]? := fun j => by rw [add_lit, Nat.zero_add, cell_new]
  have rest : (if s.ranked then s.merges.isEmpty else s.tokens.isEmpty) = true → ∀ (b1 : Bool), b1 = allOk s.merges 744 mergeOk → ∀ w2, Below (w.alloc (.cells x.cells 29)).heap.size (w.alloc (.cells x.cells 29)) w2 →
      CondP b1
        (∃ lA : Option Addr, ∃ lN : Nat, ∃ lC : Nat, w2.cell? ((nb w).add 2) = some (Value.slice lA lN lC) ∧
          Calls Tryz.prog 32 #[Value.slice lA lN lC, Value.int .i64 744, Value.func (.func 33) #[] #[]] w2 (fun e3 w3 =>
            ∃ b_12 : Bool, e3 = .returned (Value.bool b_12) ∧
            CondP b_12
              (∃ lA : Option Addr, ∃ lN : Nat, ∃ lC : Nat, w3.cell? ((nb w).add 3) = some (Value.slice lA lN lC) ∧
                Calls Tryz.prog 34 #[Value.slice lA lN lC, Value.int .i64 32, Value.func (.func 35) #[] #[]] w3 (fun e4 w4 =>
                  ∃ b_16 : Bool, e4 = .returned (Value.bool b_16) ∧
                  CondP b_16
                    (∃ lA : Option Addr, ∃ lN : Nat, ∃ lC : Nat, w4.cell? ((nb w).add 4) = some (Value.slice lA lN lC) ∧
                      Calls Tryz.prog 36 #[Value.slice lA lN lC, Value.int .i64 64, Value.func (.func 37) #[] #[]] w4 (fun e5 w5 =>
                        ∃ b_20 : Bool, e5 = .returned (Value.bool b_20) ∧
                        CondP b_20
                          (∃ lA : Option Addr, ∃ lN : Nat, ∃ lC : Nat, w5.cell? ((nb w).add 5) = some (Value.slice lA lN lC) ∧
                            Calls Tryz.prog 38 #[Value.slice lA lN lC, Value.int .i64 64, Value.func (.func 39) #[] #[]] w5 (fun e6 w6 =>
                              ∃ b_24 : Bool, e6 = .returned (Value.bool b_24) ∧ (Value.bool b_24 = .bool s.right ∧ Below w.heap.size w w6)))
                          (Value.bool false = .bool s.right ∧ Below w.heap.size w w5)))
                    (Value.bool false = .bool s.right ∧ Below w.heap.size w w4)))
              (Value.bool false = .bool s.right ∧ Below w.heap.size w w3)))
        (Value.bool false = .bool s.right ∧ Below w.heap.size w w2) := by
    intro hr0 b1 hb1 w2 hB
    have c2 : ∀ {w3 : World} (j : Nat), Below (w.alloc (.cells x.cells 29)).heap.size (w.alloc (.cells x.cells 29)) w3 → w3.cell? ((nb w).add j) = x.cells[j]? := fun j hB => by rw [add_lit, Nat.zero_add, cell_kept hB]
    have off : ∀ {w3 : World}, s.right = false → Below (w.alloc (.cells x.cells 29)).heap.size (w.alloc (.cells x.cells 29)) w3 → (Value.bool false = .bool s.right ∧ Below w.heap.size w w3) := fun e hB => ⟨by rw [e], below_then hb hB⟩
    refine CondP.mk ?_ fun e => off (by unfold SpecV.right; rw [← hb1, e]; simp) hB
    intro e1
    refine ⟨_, _, _, c2 2 hB, ?_⟩
    rw [h.n2]
    refine (allT_spec x.s2.a x.s2.c 744 s.tokens w2 (h1.r2.on hB) (by omega)).mono ?_
    rintro e w3 ⟨rfl, h3⟩
    have hB3 := below_then hB h3
    refine ⟨_, rfl, CondP.mk ?_ fun e => off (by unfold SpecV.right; rw [e]; simp) hB3⟩
    intro e2
    refine ⟨_, _, _, c2 3 hB3, ?_⟩
    rw [h.n3]
    refine (allS_spec x.s3.a x.s3.c 32 s.specials w3 (h1.r3.on hB3) (by omega)).mono ?_
    rintro e w4 ⟨rfl, h4⟩
    have hB4 := below_then hB3 h4
    refine ⟨_, rfl, CondP.mk ?_ fun e => off (by unfold SpecV.right; rw [e]; simp) hB4⟩
    intro e3
    refine ⟨_, _, _, c2 4 hB4, ?_⟩
    rw [h.n4]
    refine (allC_spec x.s4.a x.s4.c 64 s.classes w4 (h1.r4.on hB4) (by omega)).mono ?_
    rintro e w5 ⟨rfl, h5⟩
    have hB5 := below_then hB4 h5
    refine ⟨_, rfl, CondP.mk ?_ fun e => off (by unfold SpecV.right; rw [e]; simp) hB5⟩
    intro e4
    refine ⟨_, _, _, c2 5 hB5, ?_⟩
    rw [h.n5]
    refine (allJ_spec x.s5.a x.s5.c 64 s.joins w5 (h1.r5.on hB5) (by omega)).mono ?_
    rintro e w6 ⟨rfl, h6⟩
    refine ⟨_, rfl, ?_, below_then hb (below_then hB5 h6)⟩
    congr 1
    unfold SpecV.right
    rw [hr0, ← hb1, e1, e2, e3, e4]
    rfl
  refine ⟨_, c0 0, CondP.mk ?_ ?_⟩
  · intro hrk
    have hrk : s.ranked = true := by rw [← h.ranked]; exact hrk
    refine ⟨_, _, _, c0 1, CondP.mk ?_ ?_⟩
    · intro hm
      have hm := of_decide_eq_true hm
      refine ⟨?_, hb⟩
      congr 1
      unfold SpecV.right
      have : s.merges.isEmpty = false := by cases hh : s.merges with | nil => rw [h.n1, hh] at hm; simp at hm | cons _ _ => rfl
      rw [if_pos hrk, this]; rfl
    · intro hm
      have hm := of_decide_eq_false hm
      have hme : s.merges = [] := List.eq_nil_of_length_eq_zero (by rw [h.n1] at hm; omega)
      refine ⟨_, c0 0, CondP.no (by rw [h.ranked, hrk]; rfl) ?_⟩
      refine ⟨_, _, _, c0 1, ?_⟩
      have hall := allM_spec x.s1.a x.s1.c 744 s.merges _ h1.r1 (by omega)
      rw [← h.n1] at hall
      refine hall.mono ?_
      rintro e w2 ⟨rfl, h2⟩
      exact ⟨_, rfl, rest (by rw [if_pos hrk, hme]; rfl) _ rfl w2 h2⟩
  · intro hrk
    have hrk : s.ranked = false := by rw [← h.ranked]; exact hrk
    refine ⟨_, c0 0, CondP.yes (by rw [h.ranked, hrk]; rfl) ?_⟩
    refine ⟨_, _, _, c0 2, CondP.mk ?_ ?_⟩
    · intro hm
      have hm := of_decide_eq_true hm
      refine ⟨?_, hb⟩
      congr 1
      unfold SpecV.right
      have : s.tokens.isEmpty = false := by cases hh : s.tokens with | nil => rw [h.n2, hh] at hm; simp at hm | cons _ _ => rfl
      rw [if_neg (by rw [hrk]; simp), this]; rfl
    · intro hm
      have hm := of_decide_eq_false hm
      have hme : s.tokens = [] := List.eq_nil_of_length_eq_zero (by rw [h.n2] at hm; omega)
      refine ⟨_, _, _, c0 1, ?_⟩
      have hall := allM_spec x.s1.a x.s1.c 744 s.merges _ h1.r1 (by omega)
      rw [← h.n1] at hall
      refine hall.mono ?_
      rintro e w2 ⟨rfl, h2⟩
      exact ⟨_, rfl, rest (by rw [if_neg (by rw [hrk]; simp), hme]; rfl) _ rfl w2 h2⟩
end Go.Proofs.YtldgehlbicoedaaGreatDoor.Eng

/- spec.Same, walked by the engine. -/
set_option linter.unusedVariables false
set_option linter.unusedSimpArgs false
set_option maxRecDepth 100000
namespace Go.Proofs.YtldgehlbicoedaaGreatDoor.Eng
open Go Go.RowKit

def SpecV.same (a b : SpecV) : Bool := a.ranked == b.ranked && (decide (a.merges = b.merges) && (decide (a.tokens = b.tokens) && (decide (a.specials = b.specials) && (decide (a.classes = b.classes) && decide (a.joins = b.joins)))))
theorem same_iff (a b : SpecV) : a.same b = decide (a = b) := by
  cases a
  cases b
  simp only [SpecV.same, SpecV.mk.injEq, Bool.decide_and]
  congr 1
def Fits (s : SpecV) : Prop := s.merges.length ≤ 1000000000000000 ∧ s.tokens.length ≤ 1000000000000000 ∧ s.specials.length ≤ 1000000000000000 ∧ s.classes.length ≤ 1000000000000000 ∧ s.joins.length ≤ 1000000000000000

theorem Same_spec (x y : SpecW) (a b : SpecV) (w : World) (hx : SpecAt w x a) (hy : SpecAt w y b) (hf : Fits a) :
    Calls Tryz.prog 15 #[x.v, y.v] w fun e w' => e = .returned (.bool (decide (a = b))) ∧ Below w.heap.size w w' := by
  obtain ⟨f1, f2, f3, f4, f5⟩ := hf
  refine calls_ret (vc15_calls x.ranked x.s1.a x.s1.n x.s1.c x.s2.a x.s2.n x.s2.c x.s3.a x.s3.n x.s3.c x.s4.a x.s4.n x.s4.c x.s5.a x.s5.n x.s5.c y.ranked y.s1.a y.s1.n y.s1.c y.s2.a y.s2.n y.s2.c y.s3.a y.s3.n y.s3.c y.s4.a y.s4.n y.s4.c y.s5.a y.s5.n y.s5.c w (fun v w' => v = .bool (decide (a = b)) ∧ Below w.heap.size w w') ?_) (by rintro v w' ⟨rfl, h⟩; exact ⟨rfl, h⟩)
  rw [← same_iff]
  intro w1 hw1 w2 hw2
  have hb1 : Below w.heap.size w w1 := by rw [hw1]; exact below_alloc _ _
  have hb2 : Below w1.heap.size w1 w2 := by rw [hw2]; exact below_alloc _ _
  have hb := below_then hb1 hb2
  have h1 := hx.on hb
  have h2 := hy.on hb
  have cx : ∀ {w3 : World} (j : Nat), Below w2.heap.size w2 w3 → w3.cell? ((nb w).add j) = x.cells[j]? := by
    intro w3 j h
    have h13 := below_then hb2 h
    rw [hw1] at h13
    rw [add_lit, Nat.zero_add, cell_kept h13]
  have cy : ∀ {w3 : World} (j : Nat), Below w2.heap.size w2 w3 → w3.cell? ((nb w1).add j) = y.cells[j]? := by
    intro w3 j h
    rw [hw2] at h
    rw [add_lit, Nat.zero_add, cell_kept h]
  have off : ∀ {w3 : World}, a.same b = false → Below w2.heap.size w2 w3 → (Value.bool false = .bool (a.same b) ∧ Below w.heap.size w w3) := fun e h => ⟨by rw [e], below_then hb h⟩
  have hB := Below.refl w2.heap.size w2
  refine ⟨_, cx 0 hB, _, cy 0 hB, CondP.mk ?_ fun e => off (by unfold SpecV.same; rw [← hx.ranked, ← hy.ranked, e]; rfl) hB⟩
  intro e0
  refine ⟨_, _, _, cx 1 hB, _, _, _, cy 1 hB, ?_⟩
  have q1 := equalM_spec x.s1.a y.s1.a x.s1.c y.s1.c a.merges b.merges w2 h1.r1 h2.r1 f1
  rw [← hx.n1, ← hy.n1] at q1
  refine q1.mono ?_
  rintro e w3 ⟨rfl, h3⟩
  refine ⟨_, rfl, CondP.mk ?_ fun e => off (by unfold SpecV.same; rw [e]; simp) h3⟩
  intro e1
  refine ⟨_, _, _, cx 2 h3, _, _, _, cy 2 h3, ?_⟩
  have q2 := equalT_spec x.s2.a y.s2.a x.s2.c y.s2.c a.tokens b.tokens w3 (h1.r2.on h3) (h2.r2.on h3) f2
  rw [← hx.n2, ← hy.n2] at q2
  refine q2.mono ?_
  rintro e w4 ⟨rfl, h4⟩
  have h4 := below_then h3 h4
  refine ⟨_, rfl, CondP.mk ?_ fun e => off (by unfold SpecV.same; rw [e]; simp) h4⟩
  intro e2
  refine ⟨_, _, _, cx 3 h4, _, _, _, cy 3 h4, ?_⟩
  have q3 := equalS_spec x.s3.a y.s3.a x.s3.c y.s3.c a.specials b.specials w4 (h1.r3.on h4) (h2.r3.on h4) f3
  rw [← hx.n3, ← hy.n3] at q3
  refine q3.mono ?_
  rintro e w5 ⟨rfl, h5⟩
  have h5 := below_then h4 h5
  refine ⟨_, rfl, CondP.mk ?_ fun e => off (by unfold SpecV.same; rw [e]; simp) h5⟩
  intro e3
  refine ⟨_, _, _, cx 4 h5, _, _, _, cy 4 h5, ?_⟩
  have q4 := equalC_spec x.s4.a y.s4.a x.s4.c y.s4.c a.classes b.classes w5 (h1.r4.on h5) (h2.r4.on h5) f4
  rw [← hx.n4, ← hy.n4] at q4
  refine q4.mono ?_
  rintro e w6 ⟨rfl, h6⟩
  have h6 := below_then h5 h6
  refine ⟨_, rfl, CondP.mk ?_ fun e => off (by unfold SpecV.same; rw [e]; simp) h6⟩
  intro e4
  refine ⟨_, _, _, cx 5 h6, _, _, _, cy 5 h6, ?_⟩
  have q5 := equalJ_spec x.s5.a y.s5.a x.s5.c y.s5.c a.joins b.joins w6 (h1.r5.on h6) (h2.r5.on h6) f5
  rw [← hx.n5, ← hy.n5] at q5
  refine q5.mono ?_
  rintro e w7 ⟨rfl, h7⟩
  refine ⟨_, rfl, ?_, below_then hb (below_then h6 h7)⟩
  congr 1
  unfold SpecV.same
  rw [← hx.ranked, ← hy.ranked, e0, e1, e2, e3, e4]
  rfl
end Go.Proofs.YtldgehlbicoedaaGreatDoor.Eng

/- The reference's at and hex, walked by the engine. -/
set_option linter.unusedVariables false
set_option linter.unusedSimpArgs false
set_option maxRecDepth 100000
namespace Go.Proofs.YtldgehlbicoedaaGreatDoor.Eng
open Go Go.RowKit

theorem refAt_spec (a : Option Addr) (c : Nat) (xs : List Bs) (i : Nat) (w : World) (h : StrRow w a xs) (hl : ∀ x ∈ xs, x.length ≤ 1000000) (hi : i ≤ 1000000) :
    Calls Tryz.prog 21 #[.slice a xs.length c, .int .i64 i] w fun e w' => e = .returned (.int .i64 (numAt xs i)) ∧ Below w.heap.size w w' := by
  refine calls_ret (vc21_calls a xs.length c i w (fun v w' => v = .int .i64 (numAt xs i) ∧ Below w.heap.size w w') ?_) (by rintro v w' ⟨rfl, h⟩; exact ⟨rfl, h⟩)
  refine CondP.mk ?_ ?_
  · intro hc
    have hc := of_decide_eq_true hc
    refine ⟨?_, Below.refl _ _⟩
    unfold numAt
    rw [List.getElem?_eq_none (by omega)]
  · intro hc
    have hc := of_decide_eq_false hc
    have hi : i < xs.length := by omega
    obtain ⟨x, hxa, _, hcx⟩ := h i _ (List.getElem?_eq_getElem hi)
    refine NilC.mk x hxa ⟨by omega, by omega, str xs[i], by simpa using hcx, ?_⟩
    refine (refParse_spec xs[i] maxId w (hl _ (List.getElem_mem hi))).mono ?_
    rintro e w1 ⟨rfl, hw⟩
    subst w1
    unfold numAt numW
    rw [List.getElem?_eq_getElem hi]
    cases hp : parseT xs[i] maxId with
    | none => exact ⟨_, _, rfl, CondP.yes rfl ⟨by simp [hp, str], Below.refl _ _⟩⟩
    | some u => exact ⟨_, _, rfl, CondP.no rfl ⟨by simp [hp, str], Below.refl _ _⟩⟩
theorem refHexAt_spec (a : Option Addr) (c : Nat) (xs : List Bs) (i : Nat) (w : World) (h : StrRow w a xs) (hl : ∀ x ∈ xs, x.length ≤ 1000000) (hi : i ≤ 1000000) :
    Calls Tryz.prog 22 #[.slice a xs.length c, .int .i64 i] w fun e w' => e = .returned (.string (str (hexAt xs i))) ∧ Below w.heap.size w w' := by
  refine calls_ret (vc22_calls a xs.length c i w (fun v w' => v = .string (str (hexAt xs i)) ∧ Below w.heap.size w w') ?_) (by rintro v w' ⟨rfl, h⟩; exact ⟨rfl, h⟩)
  refine CondP.mk ?_ ?_
  · intro hc
    have hc := of_decide_eq_true hc
    refine ⟨?_, Below.refl _ _⟩
    unfold hexAt
    rw [List.getElem?_eq_none (by omega)]
  · intro hc
    have hc := of_decide_eq_false hc
    have hi : i < xs.length := by omega
    obtain ⟨x, hxa, _, hcx⟩ := h i _ (List.getElem?_eq_getElem hi)
    refine NilC.mk x hxa ⟨by omega, by omega, str xs[i], by simpa using hcx, ?_⟩
    refine (refUnhex_spec xs[i] w (Nat.le_trans (hl _ (List.getElem_mem hi)) (by omega))).mono ?_
    rintro e w1 ⟨rfl, h1⟩
    unfold hexAt
    rw [List.getElem?_eq_getElem hi]
    cases hp : unhexT xs[i] with
    | none => exact ⟨_, _, rfl, CondP.yes rfl ⟨by simp [hp, str], h1⟩⟩
    | some u => exact ⟨_, _, rfl, CondP.no rfl ⟨by simp [hp, str], h1⟩⟩
end Go.Proofs.YtldgehlbicoedaaGreatDoor.Eng

/- strings.Builder's WriteString, and spec's writer, walked by the engine. -/
set_option linter.unusedVariables false
set_option linter.unusedSimpArgs false
set_option maxRecDepth 100000
namespace Go.Proofs.YtldgehlbicoedaaGreatDoor.Eng
open Go Go.RowKit

theorem writeString_spec {T : TypeId} (hT : HoldsB T) (B b : Nat) (l x : Bs) (w : World) (h : Lib.IsBuilder T tU8 B b (Lib.byteCells l) w) (hlen : l.length + x.length ≤ 140737488355328) (hBw : B ≤ w.heap.size) :
    Calls Tryz.prog 53 #[.pointer (some ⟨b, 0, none⟩), .string (str x)] w fun e w' => e = .returned (.tuple #[.int .i64 x.length, .nilIface]) ∧ Lib.BuilderAt T tU8 B b (.pointer (some ⟨b, 0, none⟩)) (Lib.byteCells (l ++ x)) w' ∧ Below B w w' := by
  refine calls_ret (vc53_calls (some ⟨b, 0, none⟩) (str x) w (fun v w' => v = .tuple #[.int .i64 x.length, .nilIface] ∧ Lib.BuilderAt T tU8 B b (.pointer (some ⟨b, 0, none⟩)) (Lib.byteCells (l ++ x)) w' ∧ Below B w w') ?_) (by rintro v w' ⟨rfl, h⟩; exact ⟨rfl, h⟩)
  refine (copyCheck_spec hT B b _ w h).mono ?_
  rintro e w1 ⟨rfl, h1, hb1⟩
  refine ⟨rfl, ?_⟩
  obtain ⟨hB, v, hb, hown, hne⟩ := h1
  obtain ⟨ao, cap, rfl, hcap⟩ := own_form hown
  have hlt : b < w1.heap.size := (Array.getElem?_eq_some_iff.1 hb).1
  have hB1 : B ≤ w1.heap.size := Nat.le_trans hBw hb1.size
  have hbl : (Lib.byteCells l).length = l.length := Lib.byteCells_length l
  have c1 : w1.cell? ⟨b, 1, none⟩ = some (.slice ao (Lib.byteCells l).length cap) := by rw [cell_heap hb]; rfl
  refine ⟨ao, _, cap, c1, ?_⟩
  obtain ⟨i, hi', hz, hs, hby⟩ := info_parts infoU8
  obtain ⟨v', w3, hr, hown3, hg, _⟩ := Lib.run_append_own_string (P := Tryz.prog) w1 B tBytes tStr tBytes tU8 i undBytes undStr hi' hz hs hby _ _ _ hown (str x) (by rw [str_size, hbl]; simp [maxLen]; omega) (by rw [str_size, hbl]; omega) hB1
  obtain ⟨a', c', rfl, _⟩ := own_form hown3
  have hb3 : w3.heap[b]? = some (.cells #[.pointer (some ⟨b, 0, none⟩), .slice ao (Lib.byteCells l).length cap] T (0, 0)) := by
    rw [hg.block b hlt (fun he => hne he.symm)]; exact hb
  refine ⟨a', _, c', w3, hr, rfl, ⟨_, (cell_heap hb3 (j := 1)).trans rfl⟩, frozen_heap hb3, ?_⟩
  rintro w4 rfl
  have hcells : Lib.byteCells l ++ Lib.strCells (str x) = Lib.byteCells (l ++ x) := by
    rw [Lib.strCells_toArray]; simp [Lib.byteCells]
  have hl2 : (Lib.byteCells l).length + (str x).size = (Lib.byteCells (l ++ x)).length := by rw [hbl, str_size, Lib.byteCells_length, List.length_append]
  rw [hcells, hl2] at hown3
  refine ⟨by rw [str_size], ?_, ?_⟩
  · rw [hl2]
    exact Lib.BuilderAt.put hB hb3 hown3 hT.2
  · exact (hb1.grown hg hB1 fun k hk => (own_lt hown k hk).1).setCell (p := ⟨b, 1, none⟩) hB _
end Go.Proofs.YtldgehlbicoedaaGreatDoor.Eng

/- spec's writer of lines, walked by the engine. -/
set_option linter.unusedVariables false
set_option linter.unusedSimpArgs false
set_option maxRecDepth 100000
namespace Go.Proofs.YtldgehlbicoedaaGreatDoor.Eng
open Go Go.RowKit

/-- A row among the arguments that may lie anywhere; a builder's world goes on from B, its own blocks. -/
theorem writer_line_spec {T : TypeId} (hT : HoldsB T) (B b : Nat) (l first : Bs) (a : Option Addr) (c : Nat) (more : List Bs) (w : World) (h : Lib.IsBuilder T tU8 B b (Lib.byteCells l) w) (hm : ArgStrs w a c more) (hf : first.length ≤ 1000) (hl : ∀ x ∈ more, x.length ≤ 1000) (hn : more.length ≤ 4) (hlen : l.length ≤ 1000000000) (hBw : B ≤ w.heap.size) :
    Calls Tryz.prog 24 #[.pointer (some ⟨b, 0, none⟩), .string (str first), .slice a more.length c] w fun e w' => e = .returned (.tuple #[]) ∧ Lib.IsBuilder T tU8 B b (Lib.byteCells (l ++ (lineOf (first :: more) ++ [10]))) w' ∧ Below B w w' := by
  refine calls_ret (vc24_calls (some ⟨b, 0, none⟩) (str first) a more.length c w (fun v w' => v = .tuple #[] ∧ Lib.IsBuilder T tU8 B b (Lib.byteCells (l ++ (lineOf (first :: more) ++ [10]))) w' ∧ Below B w w') ?_) (by rintro v w' ⟨rfl, h⟩; exact ⟨rfl, h⟩)
  rintro w1 rfl
  have hd : Below w.heap.size w w.drew := (Below.refl _ _).drew
  have hjl : (lineOf (first :: more)).length ≤ 10000 := by
    unfold lineOf
    rw [Lib.join_length]
    have := lens_le 1000 (first :: more) (fun x hx => (List.mem_cons.1 hx).elim (fun e => by rw [e]; exact hf) (hl x))
    simp at this ⊢
    omega
  refine (Line_spec first a c more w.drew ⟨hm.1.on hd, hm.2⟩ (by omega) (fun x hx => Nat.le_trans (hl x hx) (by omega)) (by omega)).mono ?_
  rintro e w2 ⟨rfl, h2⟩
  refine ⟨_, rfl, ?_, ?_⟩
  · rw [show (⟨#[10]⟩ : ByteArray) = str [10] from rfl, str_size, str_size]
    have hjl' : (Lib.join (first :: more) [32]).length ≤ 10000 := hjl
    simp [IntKind.max, IntKind.signed, IntKind.bits]
    omega
  · rw [show (⟨#[10]⟩ : ByteArray) = str [10] from rfl, str_append]
    have hb2 : Lib.IsBuilder T tU8 B b (Lib.byteCells l) w2 := by
      have go : ∀ p, Lib.BuilderAt T tU8 B b p (Lib.byteCells l) w → Lib.BuilderAt T tU8 B b p (Lib.byteCells l) w2 := by
        rintro p ⟨h1, v, hb, hown, hne⟩
        exact ⟨h1, v, by rw [h2.block b (show b < w.drew.heap.size from (Array.getElem?_eq_some_iff.1 hb).1)]; exact hb, own_on (own_drew hown) h2, hne⟩
      rcases h with h | h
      · exact .inl (go _ h)
      · exact .inr (go _ h)
    have hB2 : Below B w w2 := (hd.trans (h2.mono hd.size)).mono hBw
    refine (writeString_spec hT B b l (Lib.join (first :: more) [32] ++ [10]) w2 hb2 (by rw [List.length_append]; have hjl' : (Lib.join (first :: more) [32]).length ≤ 10000 := hjl; simp; omega) (Nat.le_trans hBw hB2.size)).mono ?_
    rintro e w3 ⟨rfl, hb3, h3⟩
    exact ⟨_, _, rfl, rfl, .inr hb3, hB2.trans h3⟩
end Go.Proofs.YtldgehlbicoedaaGreatDoor.Eng

/- strings.Builder's String at a builder that holds something, whatever block it lies in, walked by the engine. -/
set_option linter.unusedVariables false
set_option linter.unusedSimpArgs false
set_option maxRecDepth 100000
namespace Go.Proofs.YtldgehlbicoedaaGreatDoor.Eng
open Go Go.RowKit

theorem builderString_spec (T : TypeId) (B b : Nat) (l : Bs) (w : World) (h : Lib.IsBuilder T tU8 B b (Lib.byteCells l) w) (h0 : l ≠ []) :
    Calls Tryz.prog 29 #[.pointer (some ⟨b, 0, none⟩)] w fun e w' => e = .returned (.string (str l)) ∧ Below B w w' := by
  refine calls_ret (vc29_calls (some ⟨b, 0, none⟩) w (fun v w' => v = .string (str l) ∧ Below B w w') ?_) (by rintro v w' ⟨rfl, h⟩; exact ⟨rfl, h⟩)
  obtain ⟨p, hB, v, hbk, hown, hne⟩ : ∃ p, Lib.BuilderAt T tU8 B b p (Lib.byteCells l) w := by
    rcases h with h | h
    · exact ⟨_, h⟩
    · exact ⟨_, h⟩
  have hl0 : l.length ≠ 0 := by simpa using h0
  rw [Lib.byteCells_length] at hown
  rcases hown.2 with ⟨_, hz⟩ | ⟨g, cap, cur, rfl, hbg, hg, hnc, hcm, hcs, htake⟩
  · exact absurd hz hl0
  rintro w1 rfl
  have hbk' : w.drew.heap[b]? = some (.cells #[p, .slice (some ⟨g, 0, none⟩) l.length cap] T (0, 0)) := hbk
  have c1 : w.drew.cell? ⟨b, 1, none⟩ = some (.slice (some ⟨g, 0, none⟩) l.length cap) := by rw [cell_heap hbk']; rfl
  have hSD : (Builtin.unsafeSliceData_ #[tBytes] 105 #[.slice (some ⟨g, 0, none⟩) l.length cap]).run Tryz.prog w.drew = .ok (.pointer (some ⟨g, 0, none⟩)) w.drew :=
    Lib.run_unsafeSliceData_row _ _ _ _ _ _ (by omega)
  have hUS : (Builtin.unsafeString_ #[105, 3] tStr #[.pointer (some ⟨g, 0, none⟩), .int .i64 l.length]).run Tryz.prog w.drew = .ok (.string ⟨l.toArray⟩) (w.drew.freeze ⟨g, 0, none⟩ l.length) := by
    refine Lib.run_unsafeString_row w.drew 105 3 tStr tU8 (by kernel_rfl) (by kernel_rfl) g cur.size (by have hg' : w.drew.heap[g]? = some (.cells cur tU8 (0, 0)) := hg; simp [World.shape?, hg']) l h0 (by omega) (by unfold maxLen at hcm; omega) ?_
    intro j x hx
    exact hown.cells (g := g) rfl j (.int .u8 x.toNat) (by simp [Lib.byteCells, hx])
  exact ⟨_, _, _, c1, _, _, _, c1, _, _, hSD, ⟨c1, trivial⟩, _, _, hUS, rfl, Lib.below_freeze (Below.drew (Below.refl B w)) (p := ⟨g, 0, none⟩) hbg _⟩
end Go.Proofs.YtldgehlbicoedaaGreatDoor.Eng

/- spec.Print, walked by the engine. -/
set_option linter.unusedVariables false
set_option linter.unusedSimpArgs false
set_option maxRecDepth 100000
namespace Go.Proofs.YtldgehlbicoedaaGreatDoor.Eng
open Go Go.RowKit

/-- A loop that counts up to n: what holds first, one round, what is behind it. -/
theorem climb2 {α : Type} (n : Nat) (Inv G : Nat → α → Prop) (x0 : α) (h0 : Inv 0 x0) (step : ∀ i, i < n → (∀ x, Inv (i + 1) x → G (i + 1) x) → ∀ x, Inv i x → G i x) (last : ∀ x, Inv n x → G n x) : G 0 x0 :=
  climb n Inv G last step 0 (Nat.zero_le _) x0 h0

/-! ### A struct copied into a block of its own -/
theorem heap_put {w : World} {b j : Nat} {c : Array Value} {e : TypeId} (h : w.heap[b]? = some (.cells c e (0, 0))) (v : Value) : (w.setCell ((⟨b, 0, none⟩ : Addr).add j) v).heap[b]? = some (.cells (c.setIfInBounds j v) e (0, 0)) := by
  rw [add_lit, Nat.zero_add]
  exact setCell_heap h v
theorem cell_put {w : World} {b j : Nat} {c : Array Value} {e : TypeId} (h : w.heap[b]? = some (.cells c e (0, 0))) : w.cell? ((⟨b, 0, none⟩ : Addr).add j) = c[j]? := by
  rw [add_lit, Nat.zero_add]
  exact cell_heap h
theorem frozen_put {w : World} {b j : Nat} {c : Array Value} {e : TypeId} (h : w.heap[b]? = some (.cells c e (0, 0))) : w.frozen? ((⟨b, 0, none⟩ : Addr).add j) = false := by
  rw [add_lit, Nat.zero_add]
  exact frozen_heap h
theorem below_put {B : Nat} {w w' : World} {b j : Nat} (h : Below B w w') (hb : B ≤ b) (v : Value) : Below B w (w'.setCell ((⟨b, 0, none⟩ : Addr).add j) v) := by
  rw [add_lit, Nat.zero_add]
  exact h.setCell (p := ⟨b, 0 + j, none⟩) hb v |> (by simpa using ·)
/-! ### The writer -/
abbrev tW : TypeId := 69
theorem holdsW : HoldsB tW := ⟨by kernel_rfl, by decide⟩
theorem isBuilder_on {T : TypeId} {B b : Nat} {l : Bs} {w w' : World} (h : Lib.IsBuilder T tU8 B b (Lib.byteCells l) w) (hb : Below w.heap.size w w') : Lib.IsBuilder T tU8 B b (Lib.byteCells l) w' := by
  have go : ∀ p, Lib.BuilderAt T tU8 B b p (Lib.byteCells l) w → Lib.BuilderAt T tU8 B b p (Lib.byteCells l) w' := by
    rintro p ⟨h1, v, hk, hown, hne⟩
    exact ⟨h1, v, by rw [hb.block b (Array.getElem?_eq_some_iff.1 hk).1]; exact hk, own_on hown hb, hne⟩
  rcases h with h | h
  · exact .inl (go _ h)
  · exact .inr (go _ h)
theorem textOf_snoc (ls : List Bs) (l : Bs) : textOf (ls ++ [l]) = textOf ls ++ (l ++ [10]) := by simp [textOf]
theorem textOf_length (ls : List Bs) (h : ∀ l ∈ ls, l.length ≤ 10000) : (textOf ls).length ≤ 10001 * ls.length := by
  induction ls with
  | nil => simp [textOf]
  | cons l r ih =>
    have h1 := h l (by simp)
    have h2 := ih fun y hy => h y (by simp [hy])
    simp [textOf, Nat.mul_add] at *
    omega
theorem lineOf_small (first : Bs) (more : List Bs) (hf : first.length ≤ 1000) (hl : ∀ x ∈ more, x.length ≤ 1000) (hn : more.length ≤ 4) : (lineOf (first :: more)).length ≤ 10000 := by
  unfold lineOf
  rw [Lib.join_length]
  have := lens_le 1000 (first :: more) (fun x hx => (List.mem_cons.1 hx).elim (fun e => by rw [e]; exact hf) (hl x))
  simp at this ⊢
  omega
/-- The writer that lies behind w2 holds these lines. -/
structure Wr (w2 : World) (ls : List Bs) (w' : World) : Prop where
  isB : Lib.IsBuilder tW tU8 w2.heap.size w2.heap.size (Lib.byteCells (textOf ls)) w'
  below : Below w2.heap.size w2 w'
  small : ∀ l ∈ ls, l.length ≤ 10000
theorem Wr.on {w2 w' w'' : World} {ls : List Bs} (h : Wr w2 ls w') (hb : Below w'.heap.size w' w'') : Wr w2 ls w'' :=
  ⟨isBuilder_on h.isB hb, h.below.trans (hb.mono h.below.size), h.small⟩
theorem wr_line (w2 w' : World) (ls : List Bs) (first : Bs) (more : List Bs) (c : Array Value) (hc : c = (strVals more).toArray) (h : Wr w2 ls w') (hls : ls.length ≤ 10000) (hf : first.length ≤ 1000) (hl : ∀ x ∈ more, x.length ≤ 1000) (hn : more.length ≤ 4) :
    Calls Tryz.prog 24 #[.pointer (some (nb w2)), .string (str first), .slice (some (nb w')) more.length more.length] (w'.alloc (.cells c tStr)) fun e w'' => e = .returned (.tuple #[]) ∧ Wr w2 (ls ++ [lineOf (first :: more)]) w'' := by
  have ht := textOf_length ls h.small
  have hb := below_alloc w' (.cells c tStr)
  have h1 := h.on hb
  refine (writer_line_spec holdsW w2.heap.size w2.heap.size (textOf ls) first (some (nb w')) more.length more _ h1.isB ⟨?_, .inr rfl⟩ hf hl hn (by omega) h1.below.size).mono ?_
  · intro j s hj
    refine ⟨_, rfl, by rw [alloc_size]; exact Nat.lt_succ_self _, ?_⟩
    rw [add_lit, Nat.zero_add, cell_new, hc]
    simp [strVals, hj]
  · rintro e w'' ⟨rfl, hB, hBel⟩
    refine ⟨rfl, ?_, h1.below.trans hBel, ?_⟩
    · rw [textOf_snoc]; exact hB
    · intro l hl'
      rcases List.mem_append.1 hl' with e | e
      · exact h.small l e
      · simp at e; subst e; exact lineOf_small first more hf hl hn
theorem hexT_length (l : Bs) : (hexT l).length ≤ 2 * l.length + 1 := by
  unfold hexT
  split
  · simp
  · rw [hexBody_length]; omega
theorem lineOf_nums (w : Bs) (ns : List Int) (h : ns ≠ []) : lineOf [w, numsT ns] = lineOf (w :: ns.map Lib.itoa) := by
  cases ns with
  | nil => exact absurd rfl h
  | cons n r =>
    have e : numsT (n :: r) = lineOf ((n :: r).map Lib.itoa) := by unfold numsT lineOf; rw [if_neg (by simp)]
    rw [e, List.map_cons, lineOf_cons, lineOf_cons, lineOf_one]
theorem numsT_small (ns : List Int) (h : ∀ n ∈ ns, I64 n) (hn : ns.length ≤ 4) : (numsT ns).length ≤ 1000 := by
  unfold numsT
  split
  · simp
  · rename_i hne
    cases ns with
    | nil => simp at hne
    | cons n r =>
      rw [List.map_cons, Lib.join_length, ← List.map_cons]
      have := lens_small ((n :: r).map Lib.itoa) (by
        intro x hx
        obtain ⟨m, hm, rfl⟩ := List.mem_map.1 hx
        exact itoa_length m (h m hm))
      simp at this hn ⊢
      omega
theorem take_snoc {α β : Type} (f : α → β) (l : List α) (i : Nat) (h : i < l.length) : (l.take (i + 1)).map f = (l.take i).map f ++ [f l[i]] := by
  rw [List.take_add_one, List.getElem?_eq_getElem h, List.map_append]; rfl
end Go.Proofs.YtldgehlbicoedaaGreatDoor.Eng

/- spec.Print, walked by the engine: its five groups of lines. -/
set_option linter.unusedVariables false
set_option linter.unusedSimpArgs false
set_option maxRecDepth 100000
namespace Go.Proofs.YtldgehlbicoedaaGreatDoor.Eng
open Go Go.RowKit

theorem allOk_len {α : Type} {l : List α} {most : Nat} {may : α → Bool} (h : allOk l most may = true) : l.length ≤ most := by
  unfold allOk at h
  rw [Bool.and_eq_true] at h
  exact of_decide_eq_true h.1
theorem intRow_new (w : World) (ns : List Int) (c : Array Value) (t : TypeId) (hc : c = (ns.map fun n => Value.int .i64 n).toArray) : IntRow (w.alloc (.cells c t)) (some (nb w)) ns := by
  intro j n hj
  refine ⟨_, rfl, by rw [alloc_size]; exact Nat.lt_succ_self _, ?_⟩
  rw [add_lit, Nat.zero_add, cell_new, hc]
  simp [hj]
theorem builderLen_spec {T : TypeId} (B b : Nat) (l : Bs) (w : World) (h : Lib.IsBuilder T tU8 B b (Lib.byteCells l) w) :
    Calls Tryz.prog 28 #[.pointer (some ⟨b, 0, none⟩)] w fun e w' => e = .returned (.int .i64 l.length) ∧ w' = w := by
  refine calls_ret (vc28_calls (some ⟨b, 0, none⟩) w (fun v w' => v = .int .i64 l.length ∧ w' = w) ?_) (by rintro v w' ⟨rfl, h⟩; exact ⟨rfl, h⟩)
  obtain ⟨p, hB, v, hbk, hown, hne⟩ : ∃ p, Lib.BuilderAt T tU8 B b p (Lib.byteCells l) w := by
    rcases h with h | h
    · exact ⟨_, h⟩
    · exact ⟨_, h⟩
  rw [Lib.byteCells_length] at hown
  obtain ⟨a, c, rfl, _⟩ := own_form hown
  exact ⟨a, _, c, (cell_put (j := 1) hbk).trans rfl, rfl, rfl⟩
theorem Wr.take_all {α : Type} {w2 w' : World} {pre : List Bs} {l : List α} {f : α → Bs} (h : Wr w2 (pre ++ (l.take l.length).map f) w') : Wr w2 ((pre ++ l.map f) ++ []) w' := by
  rw [List.take_length] at h
  rw [List.append_nil]
  exact h

/-- What Print answers. -/
def printV (s : SpecV) : Value :=
  if s.right = true then (if 60000 < s.text.length then .tuple #[.string ⟨#[]⟩, .int .i64 3] else .tuple #[.string (str s.text), .int .i64 0]) else .tuple #[.string ⟨#[]⟩, .int .i64 1]

theorem Print_spec (x : SpecW) (s : SpecV) (w : World) (h : SpecAt w x s) (ht : Pow w) :
    Calls Tryz.prog 12 #[x.v] w fun e w' => e = .returned (printV s) ∧ Below w.heap.size w w' := by
  refine calls_ret (vc12_calls x.ranked x.s1.a x.s1.n x.s1.c x.s2.a x.s2.n x.s2.c x.s3.a x.s3.n x.s3.c x.s4.a x.s4.n x.s4.c x.s5.a x.s5.n x.s5.c w (fun v w' => v = printV s ∧ Below w.heap.size w w') ?_) (by rintro v w' ⟨rfl, h⟩; exact ⟨rfl, h⟩)
  intro w1 hw1
  have hb1 : Below w.heap.size w w1 := by rw [hw1]; exact below_alloc _ _
  have c1 : ∀ {w3 : World} (j : Nat), Below w1.heap.size w1 w3 → w3.cell? ((nb w).add j) = x.cells[j]? := by
    intro w3 j hB
    rw [hw1] at hB
    rw [add_lit, Nat.zero_add, cell_kept hB]
  have hrefl := Below.refl w1.heap.size w1
  refine ⟨_, _, _, _, _, _, _, _, _, _, _, _, _, _, _, _, ⟨(by have := c1 0 hrefl; rw [add_zero] at this; exact this), c1 1 hrefl, c1 2 hrefl, c1 3 hrefl, c1 4 hrefl, c1 5 hrefl, trivial⟩, ?_⟩
  refine (Right_spec x s w1 (h.on hb1)).mono ?_
  rintro e w2 ⟨rfl, h2⟩
  have hb2 := below_then hb1 h2
  refine ⟨_, rfl, CondP.mk ?_ ?_⟩
  · intro hr
    have hr : s.right = false := by simpa using hr
    exact ⟨by unfold printV; rw [if_neg (by rw [hr]; simp)], hb2⟩
  intro hr
  have hr : s.right = true := by simpa using hr
  obtain ⟨p0, p1, p2, p3, p4, p5⟩ := right_parts hr
  have l1 := allOk_len p1
  have l2 := allOk_len p2
  have l3 := allOk_len p3
  have l4 := allOk_len p4
  have l5 := allOk_len p5
  intro w3 hw3
  have hb3 : Below w2.heap.size w2 w3 := by rw [hw3]; exact below_alloc _ _
  have hW3 : Wr w2 [] w3 := ⟨by rw [hw3]; exact Lib.fresh_isBuilder tW tU8 w2, hb3, by simp⟩
  have cs : ∀ {ls : List Bs} {w' : World} (j : Nat), Wr w2 ls w' → w'.cell? ((nb w).add j) = x.cells[j]? := fun j hW => c1 j (below_then h2 hW.below)
  have hs : ∀ {ls : List Bs} {w' : World}, Wr w2 ls w' → SpecAt w' x s := fun hW => h.on (below_then hb2 hW.below)
  have pw : ∀ {ls : List Bs} {w' : World}, Wr w2 ls w' → Pow w' := fun hW => ht.on (below_then hb2 hW.below)
  intro J1 hJ
  have tail : ∀ w4, Wr w2 ([headL s.ranked] ++ []) w4 → J1 [] w4 := by
    intro w4 hW4
    refine hJ w4 ⟨_, _, _, cs 1 hW4, ?_⟩
    intro I2 hI2
    refine climb2 (α := World) s.merges.length (fun i w' => Wr w2 ([headL s.ranked] ++ (s.merges.take i).map mergeL) w') (fun i w' => I2 [.int .i64 (i : Int)] w') w4 hW4 ?_ ?_
    · intro i hi ih w5 hW
      refine hI2 _ _ (CondP.yes (by rw [h.n1]; simp; omega) ?_)
      obtain ⟨p, hpa, _, hc⟩ := (hs hW).r1 i _ (List.getElem?_eq_getElem hi)
      have hok := all_mem p1 (List.getElem_mem hi)
      have hok := of_decide_eq_true hok
      refine NilC.mk p hpa ⟨by omega, by rw [h.n1]; omega, s.merges[i].1, s.merges[i].2, ⟨by have := hc 0 _ rfl; rwa [add_zero] at this, hc 1 _ rfl, trivial⟩, ?_⟩
      intro w6 hw6
      refine storeP_new [.int .i64 0, .int .i64 0] [.int .i64 s.merges[i].1, .int .i64 s.merges[i].2] rfl (by intro v hv; simp at hv; rcases hv with rfl | rfl <;> rfl) w6 hw6 ?_
      intro w7 f5 hsz7 f6
      refine ⟨_, (cell_put (j := 0) f5).trans rfl, _, (cell_put (j := 1) f5).trans rfl, ?_⟩
      intro w8 hw8
      have hb8 : Below w5.heap.size w5 w8 := below_then f6 (by rw [hw8]; exact below_alloc _ _)
      have h64 : ∀ n ∈ [s.merges[i].1, s.merges[i].2], I64 n := by
        intro n hn
        simp at hn
        unfold I64
        rcases hn with rfl | rfl <;> omega
      refine (Numbers_spec (some (nb w7)) 2 [s.merges[i].1, s.merges[i].2] w8 (by rw [hw8]; exact intRow_new w7 _ _ _ rfl) (by simp) h64 (pw (hW.on hb8)) (by simp)).mono ?_
      rintro e w9 ⟨rfl, h9⟩
      refine ⟨_, rfl, ?_⟩
      rintro w10 rfl
      have hW9 := (hW.on hb8).on h9
      refine (wr_line w2 w9 _ wMerge [numsT [s.merges[i].1, s.merges[i].2]] _ rfl hW9 (by simp; omega) (by decide) (by simpa using numsT_small _ h64 (by simp)) (by simp)).mono ?_
      rintro e w11 ⟨rfl, hW11⟩
      refine ⟨rfl, Ar.ok64 (by omega) (by omega) (ih w11 ?_)⟩
      rw [take_snoc mergeL _ _ hi, ← List.append_assoc]
      rw [lineOf_nums _ _ (by simp)] at hW11
      exact hW11
    intro w5 hW5
    replace hW5 := hW5.take_all
    refine hI2 _ _ (CondP.no (by rw [h.n1]; simp) ?_)
    refine ⟨_, _, _, cs 2 hW5, ?_⟩
    intro I9 hI9
    refine climb2 (α := World) s.tokens.length (fun i w' => Wr w2 (([headL s.ranked] ++ s.merges.map mergeL) ++ (s.tokens.take i).map tokenL) w') (fun i w' => I9 [.int .i64 (i : Int)] w') w5 hW5 ?_ ?_
    · intro i hi ih w5 hW
      refine hI9 _ _ (CondP.yes (by rw [h.n2]; simp; omega) ?_)
      obtain ⟨p, hpa, _, hc⟩ := (hs hW).r2 i _ (List.getElem?_eq_getElem hi)
      have hok := all_mem p2 (List.getElem_mem hi)
      have hok := of_decide_eq_true hok
      refine NilC.mk p hpa ⟨by omega, by rw [h.n2]; omega, str s.tokens[i], by have := hc 0 _ rfl; rwa [add_zero] at this, ?_⟩
      refine (Hex_spec s.tokens[i] _ (by omega)).mono ?_
      rintro e w9 ⟨rfl, h9⟩
      refine ⟨_, rfl, ?_⟩
      rintro w10 rfl
      have hW9 := hW.on h9
      have hxl := hexT_length s.tokens[i]
      refine (wr_line w2 w9 _ wToken [hexT s.tokens[i]] _ rfl hW9 (by simp; omega) (by decide) (by intro y hy; simp at hy; subst hy; omega) (by simp)).mono ?_
      rintro e w11 ⟨rfl, hW11⟩
      refine ⟨rfl, Ar.ok64 (by omega) (by omega) (ih w11 ?_)⟩
      rw [take_snoc tokenL _ _ hi, ← List.append_assoc]
      exact hW11
    intro w6 hW6
    replace hW6 := hW6.take_all
    refine hI9 _ _ (CondP.no (by rw [h.n2]; simp) ?_)
    refine ⟨_, _, _, cs 3 hW6, ?_⟩
    intro I17 hI17
    refine climb2 (α := World) s.specials.length (fun i w' => Wr w2 ((([headL s.ranked] ++ s.merges.map mergeL) ++ s.tokens.map tokenL) ++ (s.specials.take i).map specialL) w') (fun i w' => I17 [.int .i64 (i : Int)] w') w6 hW6 ?_ ?_
    · intro i hi ih w5 hW
      refine hI17 _ _ (CondP.yes (by rw [h.n3]; simp; omega) ?_)
      obtain ⟨p, hpa, _, hc⟩ := (hs hW).r3 i _ (List.getElem?_eq_getElem hi)
      have hok := all_mem p3 (List.getElem_mem hi)
      have hok := of_decide_eq_true hok
      refine NilC.mk p hpa ⟨by omega, by rw [h.n3]; omega, s.specials[i].1, str s.specials[i].2, ⟨by have := hc 0 _ rfl; rwa [add_zero] at this, hc 1 _ rfl, trivial⟩, ?_⟩
      intro w6 hw6
      refine storeP_new [.int .i64 0, .string ⟨#[]⟩] [.int .i64 s.specials[i].1, .string (str s.specials[i].2)] rfl (by intro v hv; simp at hv; rcases hv with rfl | rfl <;> rfl) w6 hw6 ?_
      intro w7 f5 hsz7 f6
      rintro w8 rfl
      have hb8 : Below w5.heap.size w5 w7.drew := f6.drew
      have f5d : w7.drew.heap[w5.heap.size]? = _ := f5
      have hi64 : I64 s.specials[i].1 := by unfold I64; omega
      refine ⟨_, (cell_put (j := 0) f5d).trans rfl, _, (cell_put (j := 1) f5d).trans rfl, ?_⟩
      refine (Number_spec s.specials[i].1 w7.drew hi64 (pw (hW.on hb8))).mono ?_
      rintro e w9 ⟨rfl, h9⟩
      have hlt : w5.heap.size < w7.drew.heap.size := (Array.getElem?_eq_some_iff.1 f5d).1
      have f5e : w9.heap[w5.heap.size]? = _ := (h9.block _ hlt).trans f5d
      refine ⟨_, rfl, ⟨(cell_put (j := 1) f5e).trans rfl, trivial⟩, ?_⟩
      refine (Hex_spec s.specials[i].2 w9 (by omega)).mono ?_
      rintro e w10 ⟨rfl, h10⟩
      refine ⟨_, rfl, ?_⟩
      rintro w11 rfl
      have hW9 := ((hW.on hb8).on h9).on h10
      have hxl := hexT_length s.specials[i].2
      have hil := itoa_length s.specials[i].1 hi64
      refine (wr_line w2 w10 _ wSpecial [Lib.itoa s.specials[i].1, hexT s.specials[i].2] _ rfl hW9 (by simp; omega) (by decide) (by intro y hy; simp at hy; rcases hy with rfl | rfl <;> omega) (by simp)).mono ?_
      rintro e w11 ⟨rfl, hW11⟩
      refine ⟨rfl, Ar.ok64 (by omega) (by omega) (ih w11 ?_)⟩
      rw [take_snoc specialL _ _ hi, ← List.append_assoc]
      exact hW11
    intro w7 hW7
    replace hW7 := hW7.take_all
    refine hI17 _ _ (CondP.no (by rw [h.n3]; simp) ?_)
    refine ⟨_, _, _, cs 4 hW7, ?_⟩
    intro I29 hI29
    refine climb2 (α := World) s.classes.length (fun i w' => Wr w2 (((([headL s.ranked] ++ s.merges.map mergeL) ++ s.tokens.map tokenL) ++ s.specials.map specialL) ++ (s.classes.take i).map classL) w') (fun i w' => I29 [.int .i64 (i : Int)] w') w7 hW7 ?_ ?_
    · intro i hi ih w5 hW
      refine hI29 _ _ (CondP.yes (by rw [h.n4]; simp; omega) ?_)
      obtain ⟨p, hpa, _, hc⟩ := (hs hW).r4 i _ (List.getElem?_eq_getElem hi)
      have hok := all_mem p4 (List.getElem_mem hi)
      have hok := of_decide_eq_true hok
      refine NilC.mk p hpa ⟨by omega, by rw [h.n4]; omega, s.classes[i].1, s.classes[i].2.1, s.classes[i].2.2, ⟨by have := hc 0 _ rfl; rwa [add_zero] at this, hc 1 _ rfl, hc 2 _ rfl, trivial⟩, ?_⟩
      intro w6 hw6
      refine storeP_new [.int .i64 0, .int .i64 0, .int .i64 0] [.int .i64 s.classes[i].1, .int .i64 s.classes[i].2.1, .int .i64 s.classes[i].2.2] rfl (by intro v hv; simp at hv; rcases hv with rfl | rfl | rfl <;> rfl) w6 hw6 ?_
      intro w7 f5 hsz7 f6
      refine ⟨_, (cell_put (j := 0) f5).trans rfl, _, (cell_put (j := 1) f5).trans rfl, _, (cell_put (j := 2) f5).trans rfl, ?_⟩
      intro w8 hw8
      have hb8 : Below w5.heap.size w5 w8 := below_then f6 (by rw [hw8]; exact below_alloc _ _)
      have h64 : ∀ n ∈ [s.classes[i].1, s.classes[i].2.1, s.classes[i].2.2], I64 n := by
        intro n hn
        simp at hn
        unfold I64
        rcases hn with rfl | rfl | rfl <;> omega
      refine (Numbers_spec (some (nb w7)) 3 [s.classes[i].1, s.classes[i].2.1, s.classes[i].2.2] w8 (by rw [hw8]; exact intRow_new w7 _ _ _ rfl) (by simp) h64 (pw (hW.on hb8)) (by simp)).mono ?_
      rintro e w9 ⟨rfl, h9⟩
      refine ⟨_, rfl, ?_⟩
      rintro w10 rfl
      have hW9 := (hW.on hb8).on h9
      refine (wr_line w2 w9 _ wClass [numsT [s.classes[i].1, s.classes[i].2.1, s.classes[i].2.2]] _ rfl hW9 (by simp; omega) (by decide) (by simpa using numsT_small _ h64 (by simp)) (by simp)).mono ?_
      rintro e w11 ⟨rfl, hW11⟩
      refine ⟨rfl, Ar.ok64 (by omega) (by omega) (ih w11 ?_)⟩
      rw [take_snoc classL _ _ hi, ← List.append_assoc]
      rw [lineOf_nums _ _ (by simp)] at hW11
      exact hW11
    intro w8 hW8
    replace hW8 := hW8.take_all
    refine hI29 _ _ (CondP.no (by rw [h.n4]; simp) ?_)
    refine ⟨_, _, _, cs 5 hW8, ?_⟩
    intro I41 hI41
    refine climb2 (α := World) s.joins.length (fun i w' => Wr w2 ((((([headL s.ranked] ++ s.merges.map mergeL) ++ s.tokens.map tokenL) ++ s.specials.map specialL) ++ s.classes.map classL) ++ (s.joins.take i).map joinL) w') (fun i w' => I41 [.int .i64 (i : Int)] w') w8 hW8 ?_ ?_
    · intro i hi ih w5 hW
      refine hI41 _ _ (CondP.yes (by rw [h.n5]; simp; omega) ?_)
      obtain ⟨p, hpa, _, hc⟩ := (hs hW).r5 i _ (List.getElem?_eq_getElem hi)
      have hok := all_mem p5 (List.getElem_mem hi)
      have hok := of_decide_eq_true hok
      refine NilC.mk p hpa ⟨by omega, by rw [h.n5]; omega, s.joins[i].1, s.joins[i].2, ⟨by have := hc 0 _ rfl; rwa [add_zero] at this, hc 1 _ rfl, trivial⟩, ?_⟩
      intro w6 hw6
      refine storeP_new [.int .i64 0, .int .i64 0] [.int .i64 s.joins[i].1, .int .i64 s.joins[i].2] rfl (by intro v hv; simp at hv; rcases hv with rfl | rfl <;> rfl) w6 hw6 ?_
      intro w7 f5 hsz7 f6
      refine ⟨_, (cell_put (j := 0) f5).trans rfl, _, (cell_put (j := 1) f5).trans rfl, ?_⟩
      intro w8 hw8
      have hb8 : Below w5.heap.size w5 w8 := below_then f6 (by rw [hw8]; exact below_alloc _ _)
      have h64 : ∀ n ∈ [s.joins[i].1, s.joins[i].2], I64 n := by
        intro n hn
        simp at hn
        unfold I64
        rcases hn with rfl | rfl <;> omega
      refine (Numbers_spec (some (nb w7)) 2 [s.joins[i].1, s.joins[i].2] w8 (by rw [hw8]; exact intRow_new w7 _ _ _ rfl) (by simp) h64 (pw (hW.on hb8)) (by simp)).mono ?_
      rintro e w9 ⟨rfl, h9⟩
      refine ⟨_, rfl, ?_⟩
      rintro w10 rfl
      have hW9 := (hW.on hb8).on h9
      refine (wr_line w2 w9 _ wJoin [numsT [s.joins[i].1, s.joins[i].2]] _ rfl hW9 (by simp; omega) (by decide) (by simpa using numsT_small _ h64 (by simp)) (by simp)).mono ?_
      rintro e w11 ⟨rfl, hW11⟩
      refine ⟨rfl, Ar.ok64 (by omega) (by omega) (ih w11 ?_)⟩
      rw [take_snoc joinL _ _ hi, ← List.append_assoc]
      rw [lineOf_nums _ _ (by simp)] at hW11
      exact hW11
    intro w9 hW9
    replace hW9 := hW9.take_all
    refine hI41 _ _ (CondP.no (by rw [h.n5]; simp) ?_)
    have hlines : (((([headL s.ranked] ++ s.merges.map mergeL) ++ s.tokens.map tokenL) ++ s.specials.map specialL) ++ s.classes.map classL) ++ s.joins.map joinL ++ [] = s.lines := by
      simp [SpecV.lines, SpecV.tail]
    rw [hlines] at hW9
    have hb9 := below_then hb2 hW9.below
    have hne : textOf s.lines ≠ [] := by
      unfold SpecV.lines textOf
      simp
    rw [add_zero]
    refine (builderLen_spec _ _ _ w9 hW9.isB).mono ?_
    rintro e w10 ⟨rfl, rfl⟩
    refine ⟨_, rfl, CondP.mk ?_ ?_⟩
    · intro hl
      have hl := of_decide_eq_true hl
      refine ⟨?_, hb9⟩
      unfold printV SpecV.text
      rw [if_pos hr, if_pos (by omega)]
    · intro hl
      have hl := of_decide_eq_false hl
      refine (builderString_spec tW _ _ _ w10 hW9.isB hne).mono ?_
      rintro e w11 ⟨rfl, h11⟩
      refine ⟨_, rfl, ?_, below_then hb2 (hW9.below.trans h11)⟩
      unfold printV SpecV.text
      rw [if_pos hr, if_neg (by omega)]
  have cb := cs 0 hW3
  refine ⟨_, cb, CondP.mk ?_ ?_⟩
  · intro hk
    have hk : s.ranked = true := by rw [← h.ranked]; exact hk
    rintro w4 rfl
    refine (wr_line w2 w3 [] wVocab [wRanks] _ rfl hW3 (by simp) (by decide) (by simp [wRanks]) (by simp)).mono ?_
    rintro e w5 ⟨rfl, hW5⟩
    refine ⟨rfl, tail w5 ?_⟩
    rw [hk]
    exact hW5
  · intro hk
    have hk : s.ranked = false := by rw [← h.ranked]; exact hk
    rintro w4 rfl
    refine (wr_line w2 w3 [] wVocab [wMerges] _ rfl hW3 (by simp) (by decide) (by simp [wMerges]) (by simp)).mono ?_
    rintro e w5 ⟨rfl, hW5⟩
    refine ⟨rfl, tail w5 ?_⟩
    rw [hk]
    exact hW5
end Go.Proofs.YtldgehlbicoedaaGreatDoor.Eng

/- spec's reader: what it holds; numbers; the rows that it gathers. -/
set_option linter.unusedVariables false
set_option linter.unusedSimpArgs false
set_option maxRecDepth 100000
namespace Go.Proofs.YtldgehlbicoedaaGreatDoor.Eng
open Go Go.RowKit

/-! ### Rows that are owned, read -/
theorem flatMap_get {α : Type} {enc : α → List Value} {sz : Nat} (hsz : ∀ x, (enc x).length = sz) : ∀ (xs : List α) (j : Nat) (x : α), xs[j]? = some x → ∀ k, k < sz → (xs.flatMap enc)[j * sz + k]? = (enc x)[k]?
  | [], j, x, h, k, hk => by simp at h
  | y :: ys, 0, x, h, k, hk => by
    simp at h
    subst h
    rw [List.flatMap_cons, List.getElem?_append_left (by rw [hsz]; omega)]
    congr 1
    omega
  | y :: ys, j + 1, x, h, k, hk => by
    simp at h
    rw [List.flatMap_cons, List.getElem?_append_right (by rw [hsz, Nat.succ_mul]; omega), hsz, ← flatMap_get hsz ys j x h k hk]
    congr 1
    rw [Nat.succ_mul]
    omega
theorem flatMap_length {α : Type} {enc : α → List Value} {sz : Nat} (hsz : ∀ x, (enc x).length = sz) (xs : List α) : (xs.flatMap enc).length = xs.length * sz := by
  induction xs with
  | nil => simp
  | cons x xs ih => rw [List.flatMap_cons, List.length_append, ih, hsz, List.length_cons, Nat.succ_mul]; omega
theorem Rw.of_own {α : Type} {enc : α → List Value} {sz : Nat} {w : World} {B : Nat} {e : TypeId} {s : Sl} {xs : List α} (h : w.ownsRow B e sz s.v s.n (xs.flatMap enc)) (hsz : ∀ x, (enc x).length = sz) (h0 : 0 < sz) : Rw enc sz w s.a xs ∧ s.n = xs.length := by
  have hn := h.1
  rw [flatMap_length hsz] at hn
  have hn : s.n = xs.length := (Nat.eq_of_mul_eq_mul_right h0 hn).symm
  refine ⟨?_, hn⟩
  intro j x hj
  have hjl := (List.getElem?_eq_some_iff.1 hj).1
  rcases h.2 with ⟨h1, h2⟩ | ⟨g, cap, cur, h1, h2, h3, h4, h5, h6, h7⟩
  · omega
  · obtain ⟨sa, sn, sc⟩ := s
    cases h1
    refine ⟨_, rfl, (Array.getElem?_eq_some_iff.1 h3).1, ?_⟩
    intro k v hk
    have hkl : k < sz := by rw [← hsz x]; exact (List.getElem?_eq_some_iff.1 hk).1
    rw [add_lit, add_lit, Nat.zero_add, cell_heap h3]
    have h8 := flatMap_get hsz xs j x hj k hkl
    have hb : j * sz + k < sn * sz := by
      have : (j + 1) * sz ≤ sn * sz := Nat.mul_le_mul_right _ (by simp at hn; omega)
      rw [Nat.succ_mul] at this
      omega
    rw [hk, ← h7, List.getElem?_take_of_lt hb] at h8
    simpa using h8
def encInt (n : Int) : List Value := [.int .i64 n]
theorem Rw.ints {w : World} {a : Option Addr} {ns : List Int} (h : Rw encInt 1 w a ns) : IntRow w a ns := by
  intro j n hj
  obtain ⟨p, rfl, hp, hc⟩ := h j n hj
  have := hc 0 _ rfl
  rw [Nat.mul_one, add_zero] at this
  exact ⟨p, rfl, hp, this⟩
theorem encInt_flat (ns : List Int) : ns.flatMap encInt = ns.map fun n => Value.int .i64 n := by
  induction ns with
  | nil => rfl
  | cons n ns ih => rw [List.flatMap_cons, ih]; rfl

/-! ### An object that owns rows -/
theorem obj_push {P : Program} {B b : Nat} {c : Array Value} {T : TypeId} {w1 : World} {pre post : List RowV} {r : RowV} (jj : Nat) (hblk : w1.heap[b]? = some (.cells c T (0, 0))) (hjj : jj < c.size) (hrows : OwnRows w1 B (pre ++ r :: post)) (hoff : ∀ x ∈ pre ++ r :: post, x.blk ≠ some b) (hBb : B ≤ b)
    (t : TypeId) {z : Value} {bytes : Nat} (ht : P.underlying t = some (.slice r.e)) (hi : (P.info? r.e).map (fun i => (i.zero, i.size, i.bytes)) = some (some z, r.sz, bytes)) (hzs : z.cells.size = r.sz) (hsz : 0 < r.sz)
    (news : List Value) (hl : news.length = r.sz) (h1 : ∀ u ∈ news, u.oneCell' = true) (hbytes : (r.sl.n + 1) * bytes ≤ 140737488355328) (h63 : r.sl.n + 1 ≤ 140737488355328) :
    ∃ a' c' w3, (Builtin.append_ #[t, t] t #[r.sl.v, .slice (some (nb w1)) 1 1]).run P (w1.alloc (.cells news.toArray r.e)) = .ok (.slice a' (r.sl.n + 1) c') w3 ∧
      (∃ u, w3.cell? ((⟨b, 0, none⟩ : Addr).add jj) = some u) ∧ w3.frozen? ((⟨b, 0, none⟩ : Addr).add jj) = false ∧
      ∀ w4, w4 = w3.setCell ((⟨b, 0, none⟩ : Addr).add jj) (.slice a' (r.sl.n + 1) c') →
        w4.heap[b]? = some (.cells (c.setIfInBounds jj (.slice a' (r.sl.n + 1) c')) T (0, 0)) ∧ OwnRows w4 B (pre ++ ⟨⟨a', r.sl.n + 1, c'⟩, r.e, r.sz, r.xs ++ news⟩ :: post) ∧
        (∀ x ∈ pre ++ (⟨⟨a', r.sl.n + 1, c'⟩, r.e, r.sz, r.xs ++ news⟩ : RowV) :: post, x.blk ≠ some b) ∧ (∀ w0, Below B w0 w1 → Below B w0 w4) := by
  have hlt : b < w1.heap.size := (Array.getElem?_eq_some_iff.1 hblk).1
  obtain ⟨a', c', w3, hr, hrows', hkeep, hnew, hB, hsize⟩ := hrows.push (P := P) t ht hi hzs hsz news hl h1 hbytes h63 (by omega)
  have hblk3 : w3.heap[b]? = some (.cells c T (0, 0)) := by rw [hkeep b hlt (hoff r (by simp))]; exact hblk
  have hoff' : ∀ x ∈ pre ++ (⟨⟨a', r.sl.n + 1, c'⟩, r.e, r.sz, r.xs ++ news⟩ : RowV) :: post, x.blk ≠ some b := by
    intro x hx
    rcases List.mem_append.1 hx with hx | hx
    · exact hoff x (by simp [hx])
    · rcases List.mem_cons.1 hx with rfl | hx
      · intro e
        rcases hnew b e with h | h
        · exact hoff r (by simp) h
        · omega
      · exact hoff x (by simp [hx])
  refine ⟨a', c', w3, hr, ⟨c[jj], ?_⟩, frozen_put hblk3, ?_⟩
  · rw [cell_put hblk3]; simp [hjj]
  · rintro w4 rfl
    refine ⟨heap_put hblk3 _, hrows'.setCell _ _ (by rw [add_block]; exact hoff'), hoff', fun w0 hb => ?_⟩
    exact below_put (hB w0 hb) hBb _

/-! ### Numbers -/
noncomputable def numsW : List Bs → Option (List Int)
  | [] => some []
  | w :: r => match numW w with
    | none => none
    | some x => (numsW r).map (x :: ·)
theorem nums2_eq (l : List Bs) : (if l.length = 2 then numsW l else none) = (nums2 l).map fun m => [m.1, m.2] := by
  match l with
  | [] => rfl
  | [_] => rfl
  | [a, b] =>
    simp only [numsW, nums2]
    cases numW a <;> cases numW b <;> simp
  | _ :: _ :: _ :: _ => simp [nums2]
theorem nums3_eq (l : List Bs) : (if l.length = 3 then numsW l else none) = (nums3 l).map fun m => [m.1, m.2.1, m.2.2] := by
  match l with
  | [] => rfl
  | [_] => rfl
  | [_, _] => rfl
  | [a, b, c] =>
    simp only [numsW, nums3]
    cases numW a <;> cases numW b <;> cases numW c <;> simp
  | _ :: _ :: _ :: _ :: _ => simp [nums3]
/-- What numbers answers. -/
def NumsPost (o : Option (List Int)) (e : Ending) (w' : World) : Prop := match o with
  | some ns => ∃ a c, e = .returned (.tuple #[.slice a ns.length c, .bool true]) ∧ IntRow w' a ns
  | none => e = .returned (.tuple #[.slice none 0 0, .bool false])
abbrev tInt : TypeId := 3
abbrev tInts : TypeId := 41
theorem undInts : Tryz.prog.underlying tInts = some (.slice tInt) := by kernel_rfl
theorem infoInt : (Tryz.prog.info? tInt).map (fun i => (i.zero, i.size, i.bytes)) = some (some (.int .i64 0), 1, 8) := by kernel_rfl

theorem numbers_spec (a : Option Addr) (c : Nat) (ws : List Bs) (many : Nat) (w : World) (h : StrRow w a ws) (hl : ∀ x ∈ ws, x.length ≤ 1000000) (hn : ws.length ≤ 1000000) (ht : Pow w) (he : Errs w) :
    Calls Tryz.prog 88 #[.slice a ws.length c, .int .i64 many] w fun e w' => NumsPost (if ws.length = many then numsW ws else none) e w' ∧ Below w.heap.size w w' := by
  refine calls_ret (vc88_calls a ws.length c many w (fun v w' => NumsPost (if ws.length = many then numsW ws else none) (.returned v) w' ∧ Below w.heap.size w w') ?_) (by rintro v w' h; exact h)
  refine CondP.mk ?_ ?_
  · intro hc
    have hc : (ws.length : Int) ≠ many := by simpa using hc
    rw [if_neg (by omega)]
    exact ⟨rfl, Below.refl _ _⟩
  · intro hc
    have hc : (ws.length : Int) = many := by simpa using hc
    rw [if_pos (by omega)]
    intro I hI
    refine climb2 (α := Option Addr × Nat × Nat × List Int × World) ws.length
      (fun i x => numsW ws = (numsW (ws.drop i)).map (x.2.2.2.1 ++ ·) ∧ x.2.2.2.2.ownsRow w.heap.size tInt 1 (.slice x.1 x.2.1 x.2.2.1) x.2.1 (x.2.2.2.1.flatMap encInt) ∧ x.2.2.2.1.length = i ∧ Below w.heap.size w x.2.2.2.2)
      (fun i x => I [.int .i64 (i : Int), .slice x.1 x.2.1 x.2.2.1, .bool false, .slice none 0 0] x.2.2.2.2) (none, 0, 0, [], w) ?_ ?_ ?_
    · refine ⟨?_, own_nil _ _ _ _, rfl, Below.refl _ _⟩
      cases hns : numsW ws <;> simp [hns]
    · rintro i hi ih ⟨oA, oN, oC, ns, w1⟩ ⟨hnum, hown, hlen, hB⟩
      dsimp only at hnum hown hlen hB
      refine hI _ _ _ _ _ _ _ _ _ (CondP.yes (by simp; omega) ?_)
      obtain ⟨x, hxa, _, hcx⟩ := (h.on hB) i _ (List.getElem?_eq_getElem hi)
      refine NilC.mk x hxa ⟨by omega, by omega, str ws[i], by simpa using hcx, ?_⟩
      refine (Parse_spec ws[i] maxId w1 (hl _ (List.getElem_mem hi)) (ht.on hB) (he.on hB)).mono ?_
      rintro e w2 ⟨rfl, h2⟩
      have hB2 := below_then hB h2
      rw [List.drop_eq_getElem_cons hi] at hnum
      have hw : numW ws[i] = (parseT ws[i] maxId).map fun u => (u : Int) := rfl
      cases hp : parseT ws[i] maxId with
      | none =>
        refine ⟨_, _, rfl, CondP.yes rfl ⟨?_, hB2⟩⟩
        rw [hnum, numsW, hw, hp]
        rfl
      | some u =>
        refine ⟨_, _, rfl, CondP.no rfl ?_⟩
        rintro w3 rfl
        have hoN : oN = i := by
          have := (Rw.of_own (s := ⟨oA, oN, oC⟩) hown (fun _ => rfl) (by decide)).2
          simp at this
          omega
        obtain ⟨a', c', w4, hr, hown4, hg, _⟩ := run_push (P := Tryz.prog) tInts tInt undInts infoInt rfl (by decide) (own_on hown h2) [.int .i64 (u : Int)] rfl (by intro v hv; simp at hv; subst hv; rfl) (by omega) (by omega) hB2.size
        refine ⟨a', oN + 1, c', w4, hr, Ar.ok64 (by omega) (by omega) ?_⟩
        refine ih (a', oN + 1, c', ns ++ [(u : Int)], w4) ⟨?_, ?_, by simp [hlen], below_push hB2 (own_on hown h2) hg hB2.size⟩
        · rw [hnum, numsW, hw, hp]
          dsimp only [Option.map_some]
          cases numsW (ws.drop (i + 1)) <;> simp
        · rw [List.flatMap_append]
          exact hown4
    · rintro ⟨oA, oN, oC, ns, w1⟩ ⟨hnum, hown, hlen, hB⟩
      dsimp only at hnum hown hlen hB
      refine hI _ _ _ _ _ _ _ _ _ (CondP.no (by simp) ⟨?_, hB⟩)
      rw [List.drop_length] at hnum
      rw [hnum]
      obtain ⟨h1, h2⟩ := Rw.of_own (s := ⟨oA, oN, oC⟩) hown (fun _ => rfl) (by decide)
      dsimp only at h1 h2
      simp only [numsW, Option.map_some, List.append_nil]
      exact ⟨oA, oC, by rw [h2], h1.ints⟩
end Go.Proofs.YtldgehlbicoedaaGreatDoor.Eng
