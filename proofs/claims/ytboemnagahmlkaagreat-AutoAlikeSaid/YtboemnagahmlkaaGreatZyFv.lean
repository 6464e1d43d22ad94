/- The fold's first offence; a nil fold; the laws on folds. -/
import Derived.Test.YtboemnagahmlkaaGreatZySo
import Derived.Test.YtboemnagahmlkaaGreatZyTab
set_option linter.unusedVariables false
set_option linter.unusedSimpArgs false
set_option maxRecDepth 100000
namespace Go.Proofs.YtboemnagahmlkaaGreat.Eng
open Go Go.RowKit
/-! ### A nil fold -/
/-! ### What is awake -/
abbrev V0 : Voc := vocOf sAw tAw
theorem aw_ms : V0.ms = [(97, 98)] := by decide +kernel
theorem aw_ex : ∀ i : Nat, i < 256 → V0.ex (i : Int) = [(i : Int)] := by decide +kernel
theorem aw_ex2 : V0.ex 256 = [97, 98] := by decide +kernel
theorem aw_cut (x y : Int) (hx : 0 ≤ x) (hy : 0 ≤ y) : V0.cut x y = false := by
  unfold Voc.cut
  rw [decide_eq_false (by omega), decide_eq_false (by omega), Bool.false_or, Bool.false_or]
  show cutB [] [] x y = false
  unfold cutB
  exact decide_eq_false fun e => e.1 rfl
theorem aw_chop : ∀ Z : List Int, Z ≠ [] → (∀ x ∈ Z, 0 ≤ x) → chop V0.cut Z = [Z]
  | [], h, _ => absurd rfl h
  | [x], _, _ => rfl
  | x :: y :: r, _, h => by
    have hx := h x (by simp)
    have hy := h y (by simp)
    rw [chop, if_neg (by rw [aw_cut x y hx hy]; exact Bool.false_ne_true), aw_chop (y :: r) (by simp) fun z hz => h z (List.mem_cons_of_mem _ hz)]
theorem aw_enc (Z : List Int) (h : Z ≠ []) (h0 : ∀ x ∈ Z, 0 ≤ x) : V0.encode Z = pass 97 98 256 Z := by
  unfold Voc.encode
  rw [aw_chop Z h h0, List.flatMap_cons, List.flatMap_nil, List.append_nil]
  cases Z with
  | nil => exact absurd rfl h
  | cons x r =>
    have := h0 x List.mem_cons_self
    show (if x < 0 then _ else after V0.ms V0.ms.length (x :: r)) = _
    rw [if_neg (by omega), aw_ms]
    rfl
theorem aw_items (t : Int) : V0.items t = V0.ex t := rfl
theorem aw_gid {i : Nat} (hi : i < 257) : (gids sAw tAw).getD i 0 = (i : Int) := by
  have h : ∀ i : Nat, i < 257 → (gids sAw tAw).getD i 0 = (i : Int) := by decide +kernel
  exact h i hi
theorem aw_ex3 {i : Nat} (hi : i < 257) : (i = 256 ∧ V0.ex (i : Int) = [97, 98]) ∨ (i < 256 ∧ V0.ex (i : Int) = [(i : Int)]) := by
  by_cases e : i = 256
  · subst e; exact .inl ⟨rfl, aw_ex2⟩
  · exact .inr ⟨by omega, aw_ex i (by omega)⟩
theorem rel_aw {i j : Nat} (hi : i < 257) (hj : j < 257) : relB sAw tAw i j = !(decide (i = 97) && decide (j = 98)) := by
  unfold relB
  rw [aw_gid hi, aw_gid hj]
  have e : (V0.Canon [(i : Int), (j : Int)]) ↔ pass 97 98 256 (V0.ex (i : Int) ++ V0.ex (j : Int)) = [(i : Int), (j : Int)] := by
    unfold Voc.Canon Voc.itemsAll
    simp only [List.flatMap_cons, List.flatMap_nil, List.append_nil, aw_items]
    rw [aw_enc]
    · rcases aw_ex3 hi with ⟨_, h⟩ | ⟨_, h⟩ <;> rw [h] <;> simp
    · intro x hx
      rcases aw_ex3 hi with ⟨_, h⟩ | ⟨_, h⟩ <;> rcases aw_ex3 hj with ⟨_, h'⟩ | ⟨_, h'⟩ <;> rw [h, h'] at hx <;> simp at hx <;> omega
  rw [Bool.eq_iff_iff, decide_eq_true_iff, e]
  rcases aw_ex3 hi with ⟨rfl, h⟩ | ⟨h1, h⟩ <;> rcases aw_ex3 hj with ⟨rfl, h'⟩ | ⟨h2, h'⟩ <;> simp only [h, h']
  · decide
  · have : pass 97 98 256 ([97, 98] ++ [(j : Int)]) = [256, (j : Int)] := by simp [pass]
    rw [this]
    simp
  · have : pass 97 98 256 ([(i : Int)] ++ [97, 98]) = [(i : Int), 256] := by
      show pass 97 98 256 ((i : Int) :: 97 :: [98]) = _
      rw [pass_no _ (by omega), pass_yes]
      rfl
    rw [this]
    simp
  · by_cases e1 : i = 97 ∧ j = 98
    · obtain ⟨rfl, rfl⟩ := e1
      decide
    · have : pass 97 98 256 ([(i : Int)] ++ [(j : Int)]) = [(i : Int), (j : Int)] := by
        show pass 97 98 256 ((i : Int) :: (j : Int) :: []) = _
        rw [pass_no _ (by omega)]
        rfl
      rw [this]
      have : (decide (i = 97) && decide (j = 98)) = false := by
        rw [← Bool.decide_and]
        exact decide_eq_false e1
      rw [this]
      simp
theorem al_aw {i : Nat} (hi : i < 257) : alB sAw tAw i = true := by
  unfold alB
  rw [aw_gid hi]
  refine decide_eq_true ?_
  show V0.encode (V0.itemsAll [(i : Int)]) = [(i : Int)]
  unfold Voc.itemsAll
  simp only [List.flatMap_cons, List.flatMap_nil, List.append_nil, aw_items]
  rcases aw_ex3 hi with ⟨rfl, h⟩ | ⟨h1, h⟩
  · rw [h, aw_enc _ (by simp) (by intro x hx; simp at hx; omega)]
    rfl
  · rw [h, aw_enc _ (by simp) (by intro x hx; simp at hx; omega)]
    rfl
theorem gN_aw : gN sAw tAw = 257 := gids_aw
theorem rise_aw : RiseG sAw tAw := gids_rising List.Pairwise.nil (by intro y hy; cases hy)
end Go.Proofs.YtboemnagahmlkaaGreat.Eng

/- Putting states together that are alike, and meeting them from the beginning; in plain Lean. -/
set_option linter.unusedVariables false
namespace Go.Proofs.YtboemnagahmlkaaGreat.Eng
/-! ### A finer grouping -/
theorem firsts_sub {κ κ' : Type} [DecidableEq κ] [DecidableEq κ'] {k : Nat → κ} {k' : Nat → κ'} : ∀ {N : Nat}, (∀ i j, i < N → j < N → k' i = k' j → k i = k j) → (firsts k N).Sublist (firsts k' N)
  | 0, _ => List.Sublist.refl _
  | N + 1, h => by
    have ih := firsts_sub (N := N) fun i j hi hj => h i j (by omega) (by omega)
    rcases firsts_step (k := k) N with ⟨c, _, h2, _, _⟩ | ⟨_, h2, _, h4⟩
    · rw [h2]
      rcases firsts_step (k := k') N with ⟨c', _, g2, _, _⟩ | ⟨_, g2, _, _⟩
      · rw [g2]; exact ih
      · rw [g2]; exact ih.trans (List.sublist_append_left _ _)
    · rw [h2]
      rcases firsts_step (k := k') N with ⟨c', _, g2, _, hc, e⟩ | ⟨_, g2, _, _⟩
      · exfalso
        have hm := List.getElem_mem hc
        have hl := firsts_lt hm
        obtain ⟨q1, q2⟩ := cls_in (k := k) hl
        exact h4 _ (List.getElem_mem q1) (q2.trans (h _ _ (by omega) (by omega) e))
      · rw [g2]; exact ih.append (List.Sublist.refl _)
theorem firsts_le {κ : Type} [DecidableEq κ] (k : Nat → κ) : ∀ i, (firsts k i).length ≤ i
  | 0 => Nat.le_refl _
  | i + 1 => by
    have h1 := cls_next (k := k) i
    have h2 := firsts_le k i
    omega
theorem same_kernel {κ κ' : Type} [DecidableEq κ] [DecidableEq κ'] {k : Nat → κ} {k' : Nat → κ'} {N : Nat} (h : ∀ i j, i < N → j < N → k' i = k' j → k i = k j) (hl : (firsts k' N).length = (firsts k N).length) {i j : Nat} (hi : i < N) (hj : j < N) : k i = k j → k' i = k' j := by
  have e := (firsts_sub h).eq_of_length hl.symm
  intro hk
  obtain ⟨i1, i2⟩ := cls_in (k := k') hi
  obtain ⟨j1, j2⟩ := cls_in (k := k') hj
  have mi := firsts_lt (List.getElem_mem i1)
  have mj := firsts_lt (List.getElem_mem j1)
  have ki := h _ _ mi hi i2
  have kj := h _ _ mj hj j2
  have : clsOf k' i = clsOf k' j := firsts_inj (k := k) _ _ (by rw [e]; exact i1) (by rw [e]; exact j1) (by simp only [e]; rw [ki, kj, hk])
  rw [← i2, ← j2]
  simp only [this]
/-! ### Numbers as texts -/
def num2 (x : Nat) : List UInt8 := [UInt8.ofNat x, UInt8.ofNat (x / 256)]
theorem num2_inj {x y : Nat} (hx : x < 65536) (hy : y < 65536) (h : num2 x = num2 y) : x = y := by
  unfold num2 at h
  simp only [List.cons.injEq, and_true] at h
  have a := congrArg UInt8.toNat h.1
  have b := congrArg UInt8.toNat h.2
  simp only [UInt8.toNat_ofNat'] at a b
  omega
theorem nums_inj : ∀ {l m : List Nat}, l.length = m.length → (∀ x ∈ l, x < 65536) → (∀ x ∈ m, x < 65536) → l.flatMap num2 = m.flatMap num2 → l = m
  | [], [], _, _, _, _ => rfl
  | x :: l, y :: m, hl, h1, h2, h => by
    have e : num2 x ++ l.flatMap num2 = num2 y ++ m.flatMap num2 := h
    have := List.append_inj e rfl
    rw [num2_inj (h1 x List.mem_cons_self) (h2 y List.mem_cons_self) this.1, nums_inj (by simpa using hl) (fun z hz => h1 z (List.mem_cons_of_mem _ hz)) (fun z hz => h2 z (List.mem_cons_of_mem _ hz)) this.2]
/-! ### An automaton -/
structure Aut where
  N : Nat
  n : Nat
  nxt : Nat → Nat → Nat
  good : Nat → Bool
structure Aut.Ok (M : Aut) : Prop where
  lt : ∀ i k, i < M.N → k < M.n → M.nxt i k < M.N
  pos : 0 < M.N
  few : M.N ≤ 60000
namespace Aut
variable (M : Aut)
/-- What a state's text is, by the classes so far. -/
def keyT (of : Nat → Nat) (i : Nat) : List UInt8 := num2 (of i) ++ ((List.range M.n).map fun k => of (M.nxt i k)).flatMap num2
/-- The classes behind some rounds. -/
def ofR : Nat → Nat → Nat
  | 0 => clsOf M.good
  | r + 1 => clsOf (M.keyT (ofR r))
def cntR : Nat → Nat
  | 0 => (firsts M.good M.N).length
  | r + 1 => (firsts (M.keyT (M.ofR r)) M.N).length
variable {M}
theorem keyT_iff {of : Nat → Nat} (h : ∀ i, i < M.N → of i < 65536) (hM : M.Ok) {i j : Nat} (hi : i < M.N) (hj : j < M.N) : M.keyT of i = M.keyT of j ↔ of i = of j ∧ ∀ k, k < M.n → of (M.nxt i k) = of (M.nxt j k) := by
  constructor
  · intro e
    have e : num2 (of i) ++ _ = num2 (of j) ++ _ := e
    have := List.append_inj e rfl
    refine ⟨num2_inj (h i hi) (h j hj) this.1, fun k hk => ?_⟩
    have l := nums_inj (by simp) (by intro x hx; obtain ⟨k, hk, rfl⟩ := List.mem_map.1 hx; exact h _ (hM.lt _ _ hi (List.mem_range.1 hk))) (by intro x hx; obtain ⟨k, hk, rfl⟩ := List.mem_map.1 hx; exact h _ (hM.lt _ _ hj (List.mem_range.1 hk))) this.2
    have := congrArg (fun l => l[k]?) l
    simpa [List.getElem?_range hk] using this
  · rintro ⟨h1, h2⟩
    unfold keyT
    rw [h1]
    congr 2
    apply List.map_congr_left
    intro k hk
    exact h2 k (List.mem_range.1 hk)
theorem cls_lt {κ : Type} [DecidableEq κ] (k : Nat → κ) (i : Nat) : clsOf k i ≤ i := Nat.le_trans (cls_next (k := k) i).1 (firsts_le k i)
theorem ofR_lt (hM : M.Ok) (r : Nat) {i : Nat} (hi : i < M.N) : M.ofR r i < 60000 := by
  have := hM.few
  cases r with
  | zero => have := cls_lt M.good i; unfold ofR; omega
  | succ r => have := cls_lt (M.keyT (M.ofR r)) i; unfold ofR; omega
theorem ofR_iff (hM : M.Ok) (r : Nat) {i j : Nat} (hi : i < M.N) (hj : j < M.N) : M.ofR (r + 1) i = M.ofR (r + 1) j ↔ M.ofR r i = M.ofR r j ∧ ∀ k, k < M.n → M.ofR r (M.nxt i k) = M.ofR r (M.nxt j k) := by
  rw [← keyT_iff (fun i hi => by have := ofR_lt hM r hi; omega) hM hi hj]
  exact cls_iff hi hj
theorem of0_iff {i j : Nat} (hi : i < M.N) (hj : j < M.N) : M.ofR 0 i = M.ofR 0 j ↔ M.good i = M.good j := cls_iff hi hj
theorem ofR_good (hM : M.Ok) : ∀ (r : Nat) {i j : Nat} (hi : i < M.N) (hj : j < M.N), M.ofR r i = M.ofR r j → M.good i = M.good j
  | 0, i, j, hi, hj, h => (of0_iff hi hj).1 h
  | r + 1, i, j, hi, hj, h => ofR_good hM r hi hj ((ofR_iff hM r hi hj).1 h).1
theorem cntR_le (r : Nat) : M.cntR r ≤ M.N := by
  cases r with
  | zero => exact firsts_le _ _
  | succ r => exact firsts_le _ _
/-- What stands at round r, as a key. -/
theorem cntR_key (r : Nat) : ∃ (κ : Type) (_ : DecidableEq κ) (k : Nat → κ), M.ofR r = clsOf k ∧ M.cntR r = (firsts k M.N).length := by
  cases r with
  | zero => exact ⟨Bool, inferInstance, M.good, rfl, rfl⟩
  | succ r => exact ⟨List UInt8, inferInstance, M.keyT (M.ofR r), rfl, rfl⟩
theorem firsts_cls {κ : Type} [DecidableEq κ] {k : Nat → κ} {N : Nat} : (firsts (clsOf k) N) = firsts k N := by
  have sub : ∀ {κ κ' : Type} [DecidableEq κ] [DecidableEq κ'] {k : Nat → κ} {k' : Nat → κ'}, (∀ i j, i < N → j < N → k' i = k' j → k i = k j) → (firsts k N).Sublist (firsts k' N) := fun h => firsts_sub h
  have a := sub (k := clsOf k) (k' := k) fun i j hi hj e => (cls_iff (k := k) hi hj).2 e
  have b := sub (k := k) (k' := clsOf k) fun i j hi hj e => (cls_iff (k := k) hi hj).1 e
  exact a.eq_of_length (Nat.le_antisymm a.length_le b.length_le)
theorem cntR_of (r : Nat) : M.cntR r = (firsts (M.ofR r) M.N).length := by
  obtain ⟨κ, _, k, h1, h2⟩ := cntR_key (M := M) r
  rw [h2, h1, firsts_cls]
theorem cntR_mono (hM : M.Ok) (r : Nat) : M.cntR r ≤ M.cntR (r + 1) := by
  rw [cntR_of, cntR_of]
  exact (firsts_sub fun i j hi hj h => ((ofR_iff hM r hi hj).1 h).1).length_le
/-- When no more classes come, they stay. -/
theorem ofR_stay (hM : M.Ok) {r : Nat} (h : M.cntR (r + 1) = M.cntR r) {i j : Nat} (hi : i < M.N) (hj : j < M.N) : M.ofR r i = M.ofR r j → M.ofR (r + 1) i = M.ofR (r + 1) j := by
  rw [cntR_of, cntR_of] at h
  exact same_kernel (fun i j hi hj h => ((ofR_iff hM r hi hj).1 h).1) h hi hj
/-- What keeps states together. -/
structure Bis (M : Aut) (R : Nat → Nat → Prop) : Prop where
  good : ∀ i j, i < M.N → j < M.N → R i j → M.good i = M.good j
  next : ∀ i j k, i < M.N → j < M.N → k < M.n → R i j → R (M.nxt i k) (M.nxt j k)
theorem ofR_coarse (hM : M.Ok) {R : Nat → Nat → Prop} (hR : Bis M R) : ∀ (r : Nat) {i j : Nat} (hi : i < M.N) (hj : j < M.N), R i j → M.ofR r i = M.ofR r j
  | 0, i, j, hi, hj, h => (of0_iff hi hj).2 (hR.good i j hi hj h)
  | r + 1, i, j, hi, hj, h => (ofR_iff hM r hi hj).2 ⟨ofR_coarse hM hR r hi hj h, fun k hk => ofR_coarse hM hR r (hM.lt _ _ hi hk) (hM.lt _ _ hj hk) (hR.next i j k hi hj hk h)⟩
/-- Classes of what is alike. -/
structure Cls (M : Aut) (of : Nat → Nat) : Prop where
  lt : ∀ i, i < M.N → of i < M.N
  bis : Bis M fun i j => of i = of j
  coarse : ∀ R, Bis M R → ∀ i j, i < M.N → j < M.N → R i j → of i = of j
theorem cls_done (hM : M.Ok) {r : Nat} (h : M.cntR (r + 1) = M.cntR r) : Cls M (M.ofR (r + 1)) := by
  refine ⟨fun i hi => Nat.lt_of_le_of_lt (cls_lt _ _) hi, ⟨fun i j hi hj e => ofR_good hM _ hi hj e, fun i j k hi hj hk e => ?_⟩, fun R hR i j hi hj e => ofR_coarse hM hR _ hi hj e⟩
  exact ofR_stay hM h (hM.lt _ _ hi hk) (hM.lt _ _ hj hk) (((ofR_iff hM r hi hj).1 e).2 k hk)
/-! ### Meeting states from the beginning -/
def visit (of : Nat → Nat) (l : List Nat) (x : Nat) : List Nat := if of x ∈ l.map of then l else l ++ [x]
/-- Behind the first letters of a state. -/
def scan (M : Aut) (of : Nat → Nat) (l : List Nat) (s : Nat) : Nat → List Nat
  | 0 => l
  | k + 1 => visit of (scan M of l s k) (M.nxt s k)
def metF (M : Aut) (of : Nat → Nat) : Nat → List Nat
  | 0 => [0]
  | i + 1 => match (metF M of i)[i]? with
    | some s => scan M of (metF M of i) s M.n
    | none => metF M of i
/-- What is met, some scanned: no two of one class, all there, each from the beginning. -/
inductive Reach (M : Aut) : Nat → Prop
  | zero : Reach M 0
  | next {i k : Nat} : Reach M i → k < M.n → Reach M (M.nxt i k)
structure Mid (M : Aut) (of : Nat → Nat) (l : List Nat) : Prop where
  nodup : (l.map of).Nodup
  lt : ∀ x ∈ l, x < M.N
  reach : ∀ x ∈ l, Reach M x
  zero : l[0]? = some 0
theorem visit_pre (of : Nat → Nat) (l : List Nat) (x : Nat) : l <+: visit of l x := by
  unfold visit
  split
  · exact List.prefix_refl _
  · exact List.prefix_append _ _
theorem visit_in (of : Nat → Nat) (l : List Nat) (x : Nat) : of x ∈ (visit of l x).map of := by
  unfold visit
  split
  · assumption
  · simp
theorem Mid.visit {of : Nat → Nat} {l : List Nat} (h : Mid M of l) {x : Nat} (hx : x < M.N) (hr : Reach M x) : Mid M of (visit of l x) := by
  unfold Aut.visit
  split
  · exact h
  · next hn =>
    refine ⟨?_, ?_, ?_, ?_⟩
    · rw [List.map_append, List.nodup_append]
      refine ⟨h.nodup, by simp, ?_⟩
      intro a ha b hb e
      simp at hb
      subst hb
      subst e
      exact hn ha
    · intro y hy
      rcases List.mem_append.1 hy with hy | hy
      · exact h.lt y hy
      · rw [List.mem_singleton.1 hy]; exact hx
    · intro y hy
      rcases List.mem_append.1 hy with hy | hy
      · exact h.reach y hy
      · rw [List.mem_singleton.1 hy]; exact hr
    · have := h.zero
      have hl := (List.getElem?_eq_some_iff.1 this).1
      rw [List.getElem?_append_left hl]
      exact this
theorem scan_pre (of : Nat → Nat) (l : List Nat) (s : Nat) : ∀ k, l <+: scan M of l s k
  | 0 => List.prefix_refl _
  | k + 1 => (scan_pre of l s k).trans (visit_pre _ _ _)
theorem scan_mono (of : Nat → Nat) (l : List Nat) (s k : Nat) : ∀ d, scan M of l s k <+: scan M of l s (k + d)
  | 0 => List.prefix_refl _
  | d + 1 => (scan_mono of l s k d).trans (visit_pre _ _ _)
theorem pre_map {of : Nat → Nat} {l m : List Nat} (h : l <+: m) {x : Nat} (hx : x ∈ l.map of) : x ∈ m.map of := by
  obtain ⟨t, rfl⟩ := h
  rw [List.map_append]
  exact List.mem_append_left _ hx
theorem scan_hit (of : Nat → Nat) (l : List Nat) (s : Nat) {k n : Nat} (hk : k < n) : of (M.nxt s k) ∈ (scan M of l s n).map of := by
  have := scan_mono (M := M) of l s (k + 1) (n - (k + 1))
  rw [show k + 1 + (n - (k + 1)) = n by omega] at this
  exact pre_map this (visit_in of _ _)
theorem Mid.scan (hM : M.Ok) {of : Nat → Nat} {l : List Nat} (h : Mid M of l) {s : Nat} (hs : s ∈ l) : ∀ {k : Nat}, k ≤ M.n → Mid M of (scan M of l s k)
  | 0, _ => h
  | k + 1, hk => (Mid.scan hM h hs (k := k) (by omega)).visit (hM.lt _ _ (h.lt s hs) (by omega)) (.next (h.reach s hs) (by omega))
theorem metF_pre (of : Nat → Nat) (i : Nat) : metF M of i <+: metF M of (i + 1) := by
  rw [metF]
  split
  · exact scan_pre _ _ _ _
  · exact List.prefix_refl _
theorem metF_mid (hM : M.Ok) (of : Nat → Nat) : ∀ i, Mid M of (metF M of i)
  | 0 => ⟨by simp [metF], by intro x hx; simp [metF] at hx; subst hx; exact hM.pos, by intro x hx; simp [metF] at hx; subst hx; exact .zero, rfl⟩
  | i + 1 => by
    rw [metF]
    split
    · next s hs => exact (metF_mid hM of i).scan hM (List.mem_of_getElem? hs) (Nat.le_refl _)
    · exact metF_mid hM of i
/-- Each of those that are scanned leads into those that are met. -/
theorem metF_in (of : Nat → Nat) : ∀ {i j s : Nat}, j < i → (metF M of i)[j]? = some s → ∀ {k}, k < M.n → of (M.nxt s k) ∈ (metF M of i).map of
  | 0, _, _, h, _, _, _ => absurd h (Nat.not_lt_zero _)
  | i + 1, j, s, hj, hs, k, hk => by
    by_cases e : j < (metF M of i).length
    · have hs' : (metF M of i)[j]? = some s := by
        obtain ⟨t, ht⟩ := metF_pre (M := M) of i
        rw [← ht, List.getElem?_append_left e] at hs
        exact hs
      by_cases ej : j = i
      · subst ej
        rw [metF, hs']
        exact scan_hit of _ _ hk
      · exact pre_map (metF_pre of i) (metF_in of (by omega) hs' hk)
    · have hn : (metF M of i)[i]? = none := List.getElem?_eq_none_iff.2 (by omega)
      have : metF M of (i + 1) = metF M of i := by rw [metF, hn]
      rw [this] at hs
      have := (List.getElem?_eq_some_iff.1 hs).1
      omega
theorem metF_end (of : Nat → Nat) {i : Nat} (h : (metF M of i).length ≤ i) : ∀ d, metF M of (i + d) = metF M of i
  | 0 => rfl
  | d + 1 => by
    have ih := metF_end of h d
    rw [← Nat.add_assoc, metF, ih, List.getElem?_eq_none_iff.2 (by omega)]
end Aut
theorem nodup_le {α : Type} [DecidableEq α] : ∀ {l m : List α}, l.Nodup → (∀ x ∈ l, x ∈ m) → l.length ≤ m.length
  | [], _, _, _ => Nat.zero_le _
  | x :: l, m, h, hs => by
    have hx := hs x List.mem_cons_self
    have h' := List.nodup_cons.1 h
    have := nodup_le (l := l) (m := m.erase x) h'.2 fun y hy => by
      have : y ≠ x := fun e => h'.1 (e ▸ hy)
      exact (List.mem_erase_of_ne this).2 (hs y (List.mem_cons_of_mem _ hy))
    rw [List.length_erase_of_mem hx] at this
    have := List.length_pos_of_mem hx
    rw [List.length_cons]
    omega
end Go.Proofs.YtboemnagahmlkaaGreat.Eng

/- The least automaton; in plain Lean. -/
set_option linter.unusedVariables false
namespace Go.Proofs.YtboemnagahmlkaaGreat.Eng
namespace Aut
variable {M : Aut}
/-- All that is met. -/
def metL (M : Aut) (of : Nat → Nat) : List Nat := metF M of M.N
theorem met_few (hM : M.Ok) {of : Nat → Nat} (h : ∀ i, i < M.N → of i < M.N) (i : Nat) : (metF M of i).length ≤ M.N := by
  have m := metF_mid hM of i
  have := nodup_le (m := List.range M.N) m.nodup fun x hx => by
    obtain ⟨y, hy, rfl⟩ := List.mem_map.1 hx
    exact List.mem_range.2 (h y (m.lt y hy))
  simpa using this
/-- Where as many are scanned as are met, all is met. -/
theorem met_done (hM : M.Ok) {of : Nat → Nat} (h : ∀ i, i < M.N → of i < M.N) {i : Nat} (hi : (metF M of i).length ≤ i) : metF M of i = metL M of := by
  unfold metL
  by_cases e : i ≤ M.N
  · have := metF_end (M := M) of hi (M.N - i)
    rw [show i + (M.N - i) = M.N by omega] at this
    exact this.symm
  · have := metF_end (M := M) of (met_few hM h M.N) (i - M.N)
    rw [show M.N + (i - M.N) = i by omega] at this
    exact this
theorem met_mid (hM : M.Ok) (of : Nat → Nat) : Mid M of (metL M of) := metF_mid hM of _
theorem met_in (hM : M.Ok) {of : Nat → Nat} (h : ∀ i, i < M.N → of i < M.N) {j s : Nat} (hs : (metL M of)[j]? = some s) {k : Nat} (hk : k < M.n) : of (M.nxt s k) ∈ (metL M of).map of := by
  have := met_few hM h M.N
  have hl := (List.getElem?_eq_some_iff.1 hs).1
  exact metF_in of (by unfold metL at hl; omega) hs hk
theorem met_pos (hM : M.Ok) (of : Nat → Nat) : 0 < (metL M of).length := (List.getElem?_eq_some_iff.1 (met_mid hM of).zero).1
/-- The least automaton, by classes. -/
def least (M : Aut) (of : Nat → Nat) : Aut where
  N := (metL M of).length
  n := M.n
  nxt p k := ((metL M of).map of).idxOf (of (M.nxt ((metL M of).getD p 0) k))
  good p := M.good ((metL M of).getD p 0)
theorem getD_at {l : List Nat} {p : Nat} (hp : p < l.length) : l.getD p 0 = l[p] := by simp [List.getD, hp]
theorem least_ok (hM : M.Ok) {of : Nat → Nat} (h : ∀ i, i < M.N → of i < M.N) : (least M of).Ok := by
  refine ⟨fun p k hp hk => ?_, met_pos hM of, Nat.le_trans (met_few hM h _) hM.few⟩
  change p < (metL M of).length at hp
  change k < M.n at hk
  show ((metL M of).map of).idxOf _ < (metL M of).length
  rw [getD_at hp]
  have := List.idxOf_lt_length_of_mem (met_in hM h (List.getElem?_eq_getElem hp) hk)
  rwa [List.length_map] at this
/-- A state and one of the least go together. -/
structure Sim (M : Aut) (of : Nat → Nat) (x p : Nat) : Prop where
  hx : x < M.N
  hp : p < (least M of).N
  e : of x = of ((metL M of).getD p 0)
end Aut
end Go.Proofs.YtboemnagahmlkaaGreat.Eng

/- The automaton by the last token, and how many states its least one has; in plain Lean. -/
set_option linter.unusedVariables false
namespace Go.Proofs.YtboemnagahmlkaaGreat.Eng
/-- Whether a letter leads from a state to a good one. -/
def mayA (n : Nat) (al : Nat → Bool) (rel : Nat → Nat → Bool) (i k : Nat) : Bool := if i = 0 then al k else if i ≤ n then rel (i - 1) k else false
def lastA (n : Nat) (al : Nat → Bool) (rel : Nat → Nat → Bool) : Aut where
  N := n + 2
  n := n
  nxt i k := if mayA n al rel i k then k + 1 else n + 1
  good i := decide (i ≤ n)
section
variable {n : Nat} {al : Nat → Bool} {rel : Nat → Nat → Bool}
open Aut
theorem last_ok (hn : n ≤ 50000) : (lastA n al rel).Ok := ⟨fun i k hi hk => by
  change i < n + 2 at hi
  change k < n at hk
  show (if mayA n al rel i k then k + 1 else n + 1) < n + 2
  split <;> omega, by show 0 < n + 2; omega, by show n + 2 ≤ 60000; omega⟩
theorem last_good_next (i : Nat) {k : Nat} (hk : k < n) : (lastA n al rel).good ((lastA n al rel).nxt i k) = mayA n al rel i k := by
  show decide ((if mayA n al rel i k then k + 1 else n + 1) ≤ n) = _
  cases mayA n al rel i k with
  | true => simp; omega
  | false => simp
/-- Of two good states the classes are the same just where their rows are. -/
theorem last_cls (hn : n ≤ 50000) {of : Nat → Nat} (hc : Cls (lastA n al rel) of) {i j : Nat} (hi : i ≤ n) (hj : j ≤ n) : of i = of j ↔ ∀ k, k < n → mayA n al rel i k = mayA n al rel j k := by
  have hM := last_ok (al := al) (rel := rel) hn
  constructor
  · intro e k hk
    have hi' : i < (lastA n al rel).N := by show i < n + 2; omega
    have hj' : j < (lastA n al rel).N := by show j < n + 2; omega
    have := hc.bis.good _ _ (hM.lt i k hi' hk) (hM.lt j k hj' hk) (hc.bis.next i j k hi' hj' hk e)
    rw [last_good_next i hk, last_good_next j hk] at this
    exact this
  · intro h
    refine hc.coarse (fun i j => i = j ∨ (i ≤ n ∧ j ≤ n ∧ ∀ k, k < n → mayA n al rel i k = mayA n al rel j k)) ⟨?_, ?_⟩ i j (by show i < n + 2; omega) (by show j < n + 2; omega) (.inr ⟨hi, hj, h⟩)
    · rintro a b ha hb (rfl | ⟨h1, h2, _⟩)
      · rfl
      · show decide (a ≤ n) = decide (b ≤ n)
        rw [decide_eq_true h1, decide_eq_true h2]
    · rintro a b k ha hb hk (rfl | ⟨h1, h2, h3⟩)
      · exact .inl rfl
      · refine .inl ?_
        show (if mayA n al rel a k then k + 1 else n + 1) = (if mayA n al rel b k then k + 1 else n + 1)
        rw [h3 k hk]
theorem last_bad {of : Nat → Nat} (hc : Cls (lastA n al rel) of) {i : Nat} (hi : i ≤ n) : of i ≠ of (n + 1) := by
  intro e
  have := hc.bis.good i (n + 1) (by show i < n + 2; omega) (by show n + 1 < n + 2; omega) e
  change decide (i ≤ n) = decide (n + 1 ≤ n) at this
  rw [decide_eq_true hi, decide_eq_false (by omega)] at this
  cases this
/-! ### How many states the least one has -/
def rowB (n : Nat) (al : Nat → Bool) (rel : Nat → Nat → Bool) (i : Nat) : List Bool := (List.range n).map (mayA n al rel i)
/-- The beginning, and what is alone. -/
def actA (al : Nat → Bool) (i : Nat) : Bool := i == 0 || al (i - 1)
def rowsA (n : Nat) (al : Nat → Bool) (rel : Nat → Nat → Bool) : Nat → List (List Bool)
  | 0 => []
  | i + 1 => if actA al i = true ∧ rowB n al rel i ∉ rowsA n al rel i then rowsA n al rel i ++ [rowB n al rel i] else rowsA n al rel i
def badA (n : Nat) (al : Nat → Bool) (rel : Nat → Nat → Bool) (m : Nat) : Bool := (List.range m).any fun i => actA al i && (rowB n al rel i).any (! ·)
theorem rowB_iff {i j : Nat} : rowB n al rel i = rowB n al rel j ↔ ∀ k, k < n → mayA n al rel i k = mayA n al rel j k := by
  constructor
  · intro h k hk
    have := congrArg (fun l => l[k]?) h
    simpa [rowB, List.getElem?_range hk] using this
  · intro h
    exact List.map_congr_left fun k hk => h k (List.mem_range.1 hk)
theorem rowsA_nodup : ∀ m, (rowsA n al rel m).Nodup
  | 0 => List.nodup_nil
  | m + 1 => by
    rw [rowsA]
    split
    · next h =>
      rw [List.nodup_append]
      refine ⟨rowsA_nodup m, by simp, fun a ha b hb e => ?_⟩
      rw [List.mem_singleton.1 hb] at e
      subst e
      exact h.2 ha
    · exact rowsA_nodup m
theorem rowsA_mem : ∀ m r, r ∈ rowsA n al rel m ↔ ∃ i, i < m ∧ actA al i = true ∧ rowB n al rel i = r
  | 0, r => ⟨fun h => (by cases h), fun ⟨i, h, _⟩ => absurd h (Nat.not_lt_zero i)⟩
  | m + 1, r => by
    have ih := rowsA_mem m r
    have ihm := rowsA_mem m (rowB n al rel m)
    rw [rowsA]
    split
    · next h =>
      rw [List.mem_append, ih, List.mem_singleton]
      constructor
      · rintro (⟨i, h1, h2, h3⟩ | rfl)
        · exact ⟨i, by omega, h2, h3⟩
        · exact ⟨m, by omega, h.1, rfl⟩
      · rintro ⟨i, h1, h2, h3⟩
        by_cases e : i = m
        · subst e; exact .inr h3.symm
        · exact .inl ⟨i, by omega, h2, h3⟩
    · next h =>
      rw [ih]
      constructor
      · rintro ⟨i, h1, h2, h3⟩
        exact ⟨i, by omega, h2, h3⟩
      · rintro ⟨i, h1, h2, h3⟩
        by_cases e : i = m
        · subst e
          by_cases hm : rowB n al rel i ∈ rowsA n al rel i
          · rw [h3] at hm
            exact ih.1 hm
          · exact absurd ⟨h2, hm⟩ h
        · exact ⟨i, by omega, h2, h3⟩
theorem badA_iff {m : Nat} : badA n al rel m = true ↔ ∃ i k, i < m ∧ actA al i = true ∧ k < n ∧ mayA n al rel i k = false := by
  unfold badA
  rw [List.any_eq_true]
  constructor
  · rintro ⟨i, hi, h⟩
    rw [Bool.and_eq_true, List.any_eq_true] at h
    obtain ⟨h1, b, hb, h2⟩ := h
    obtain ⟨k, hk, rfl⟩ := List.mem_map.1 hb
    exact ⟨i, k, List.mem_range.1 hi, h1, List.mem_range.1 hk, by simpa using h2⟩
  · rintro ⟨i, k, hi, h1, hk, h2⟩
    refine ⟨i, List.mem_range.2 hi, ?_⟩
    rw [Bool.and_eq_true, List.any_eq_true]
    exact ⟨h1, _, List.mem_map.2 ⟨k, List.mem_range.2 hk, rfl⟩, by rw [h2]; rfl⟩
theorem reach_last (hra : ∀ i k, i < n → k < n → rel i k = true → al k = true) {x : Nat} (h : Aut.Reach (lastA n al rel) x) : (x ≤ n ∧ actA al x = true) ∨ (x = n + 1 ∧ badA n al rel (n + 1) = true) := by
  induction h with
  | zero => exact .inl ⟨Nat.zero_le _, rfl⟩
  | @next i k h hk ih =>
    change k < n at hk
    show ((if mayA n al rel i k then k + 1 else n + 1) ≤ n ∧ _) ∨ _
    rw [show (lastA n al rel).nxt i k = (if mayA n al rel i k then k + 1 else n + 1) from rfl]
    cases hm : mayA n al rel i k with
    | true =>
      refine .inl ⟨by simp; omega, ?_⟩
      have : al k = true := by
        unfold mayA at hm
        split at hm
        · exact hm
        · split at hm
          · exact hra _ _ (by omega) hk hm
          · cases hm
      simp [actA, this]
    | false =>
      refine .inr ⟨by simp, ?_⟩
      rcases ih with ⟨h1, h2⟩ | ⟨_, h2⟩
      · exact badA_iff.2 ⟨i, k, by omega, h2, hk, hm⟩
      · exact h2
theorem filter_two {α : Type} (p : α → Bool) : ∀ l : List α, l.length = (l.filter p).length + (l.filter fun x => !p x).length
  | [] => rfl
  | x :: l => by
    have := filter_two p l
    cases h : p x <;> simp [h] <;> omega
theorem least_many (hn : n ≤ 50000) (hra : ∀ i k, i < n → k < n → rel i k = true → al k = true) {of : Nat → Nat} (hc : Cls (lastA n al rel) of) :
    (metL (lastA n al rel) of).length = (rowsA n al rel (n + 1)).length + (if badA n al rel (n + 1) then 1 else 0) := by
  have hM := last_ok (al := al) (rel := rel) hn
  have mid := met_mid hM of
  obtain ⟨l, hl⟩ : ∃ l, l = metL (lastA n al rel) of := ⟨_, rfl⟩
  have hin : ∀ x ∈ l, ∀ k, k < n → of ((lastA n al rel).nxt x k) ∈ l.map of := by
    intro x hx k hk
    rw [hl] at hx ⊢
    obtain ⟨j, hj⟩ := List.getElem?_of_mem hx
    exact met_in hM hc.lt hj hk
  rw [← hl] at mid ⊢
  have h0 : 0 ∈ l := List.mem_of_getElem? mid.zero
  have act : ∀ i, i ≤ n → actA al i = true → of i ∈ l.map of := by
    intro i hi ha
    by_cases e : i = 0
    · subst e; exact List.mem_map_of_mem h0
    · have hk : i - 1 < n := by omega
      have := hin 0 h0 (i - 1) hk
      have e2 : (lastA n al rel).nxt 0 (i - 1) = i := by
        show (if mayA n al rel 0 (i - 1) then i - 1 + 1 else n + 1) = i
        have : al (i - 1) = true := by simpa [actA, e] using ha
        rw [show mayA n al rel 0 (i - 1) = al (i - 1) from rfl, this]
        simp; omega
      rwa [e2] at this
  rw [filter_two (fun x => decide (x ≤ n)) l]
  congr 1
  · have e : (l.filter fun x => decide (x ≤ n)).length = ((l.filter fun x => decide (x ≤ n)).map (rowB n al rel)).length := by simp
    rw [e]
    apply Nat.le_antisymm
    · refine nodup_le ?_ ?_
      · have nd := (List.pairwise_map.1 mid.nodup).filter fun x => decide (x ≤ n)
        rw [List.Nodup, List.pairwise_map]
        refine nd.imp_of_mem ?_
        intro a b ha hb hne he
        have ha := of_decide_eq_true (List.mem_filter.1 ha).2
        have hb := of_decide_eq_true (List.mem_filter.1 hb).2
        exact hne ((last_cls hn hc ha hb).2 (rowB_iff.1 he))
      · intro r hr
        obtain ⟨x, hx, rfl⟩ := List.mem_map.1 hr
        obtain ⟨h1, h2⟩ := List.mem_filter.1 hx
        have h2 := of_decide_eq_true h2
        rcases reach_last hra (mid.reach x h1) with ⟨_, h⟩ | ⟨h, _⟩
        · exact (rowsA_mem _ _).2 ⟨x, by omega, h, rfl⟩
        · omega
    · refine nodup_le (rowsA_nodup _) ?_
      intro r hr
      obtain ⟨i, hi, ha, rfl⟩ := (rowsA_mem _ _).1 hr
      obtain ⟨x, hx, he⟩ := List.mem_map.1 (act i (by omega) ha)
      have hxn : x ≤ n := by
        have hlt := mid.lt x hx
        change x < n + 2 at hlt
        by_cases e : x = n + 1
        · subst e; exact absurd he.symm (last_bad hc (by omega))
        · omega
      exact List.mem_map.2 ⟨x, List.mem_filter.2 ⟨hx, decide_eq_true hxn⟩, rowB_iff.2 ((last_cls hn hc hxn (by omega)).1 he)⟩
  · have all : ∀ x ∈ l.filter fun x => !decide (x ≤ n), x = n + 1 := by
      intro x hx
      obtain ⟨h1, h2⟩ := List.mem_filter.1 hx
      have hlt := mid.lt x h1
      change x < n + 2 at hlt
      simp at h2
      omega
    have nd : (l.filter fun x => !decide (x ≤ n)).Nodup := by
      have nd := (List.pairwise_map.1 mid.nodup).filter fun x => !decide (x ≤ n)
      exact nd.imp fun hne e => hne (by rw [e])
    have le1 : (l.filter fun x => !decide (x ≤ n)).length ≤ 1 := nodup_le (m := [n + 1]) nd fun x hx => by rw [all x hx]; exact List.mem_singleton.2 rfl
    by_cases hb : badA n al rel (n + 1) = true
    · rw [if_pos hb]
      obtain ⟨i, k, hi, ha, hk, hm⟩ := badA_iff.1 hb
      obtain ⟨x, hx, he⟩ := List.mem_map.1 (act i (by omega) ha)
      have hxi : of ((lastA n al rel).nxt x k) = of ((lastA n al rel).nxt i k) := hc.bis.next x i k (mid.lt x hx) (by show i < n + 2; omega) hk he
      have hy := hin x hx k hk
      rw [hxi] at hy
      obtain ⟨y, hy1, hy2⟩ := List.mem_map.1 hy
      have e : (lastA n al rel).nxt i k = n + 1 := by
        show (if mayA n al rel i k then k + 1 else n + 1) = n + 1
        rw [hm]; rfl
      rw [e] at hy2
      have hyn : ¬ y ≤ n := fun h => last_bad hc h hy2
      have : y ∈ l.filter fun x => !decide (x ≤ n) := List.mem_filter.2 ⟨hy1, by simp; omega⟩
      have := List.length_pos_of_mem this
      omega
    · rw [if_neg hb]
      cases hf : l.filter fun x => !decide (x ≤ n) with
      | nil => rfl
      | cons y t =>
        exfalso
        have hy : y ∈ l.filter fun x => !decide (x ≤ n) := by rw [hf]; exact List.mem_cons_self
        obtain ⟨h1, h2⟩ := List.mem_filter.1 hy
        rcases reach_last hra (mid.reach y h1) with ⟨h, _⟩ | ⟨_, h⟩
        · simp at h2; omega
        · exact hb h
end
end Go.Proofs.YtboemnagahmlkaaGreat.Eng

/- What these functions owe, printed by a program of this repo out of the translation. -/
set_option linter.unusedVariables false
set_option maxRecDepth 100000
namespace Go.Proofs.YtboemnagahmlkaaGreat.Eng
open Go Go.Value
def vc7 (a : OA) (b c : Nat) (d : OA) (f g : Nat) (h : OA) (i j : Nat) (k : OA) (l m : Nat) (n o : Int) (w : World) (R : RW) : Prop :=
 ∀ p, p = w.alloc (.cells #[slice a b c, slice d f g, slice h i j, slice k l m] 27) →
 ∃ q r s t u x y z a1 b1 c1 d1, (p.cell? (nb w) = some (slice q r s) ∧ p.cell? ((nb w).add 1) = some (slice t u x) ∧ p.cell? ((nb w).add 2) = some (slice y z a1) ∧ p.cell? ((nb w).add 3) = some (slice b1 c1 d1) ∧ True) ∧
 Calls Tryz.prog 15 #[agg #[slice q r s, slice t u x, slice y z a1, slice b1 c1 d1]] p (fun e1 f1 =>
 ∃ g1, e1 = .returned (int .i64 g1) ∧
 CondP (decide (g1 > 0))
 (Calls Tryz.prog 38 #[] f1 (fun h1 i1 =>
 ∃ j1, h1 = .returned (bool j1) ∧
 R (bool j1) i1))
 (Calls Tryz.prog 38 #[] f1 (fun k1 l1 =>
 ∃ m1, k1 = .returned (bool m1) ∧
 CondP (!m1)
 (Calls Tryz.prog 38 #[] l1 (fun n1 o1 =>
 ∃ p1, n1 = .returned (bool p1) ∧
 R (bool p1) o1))
 (∃ q1 r1 s1 t1 u1 v1 x1 y1 z1 a2 b2 c2, (l1.cell? (nb w) = some (slice q1 r1 s1) ∧ l1.cell? ((nb w).add 1) = some (slice t1 u1 v1) ∧ l1.cell? ((nb w).add 2) = some (slice x1 y1 z1) ∧ l1.cell? ((nb w).add 3) = some (slice a2 b2 c2) ∧ True) ∧
 Calls Tryz.prog 39 #[agg #[slice q1 r1 s1, slice t1 u1 v1, slice x1 y1 z1, slice a2 b2 c2]] l1 (fun d2 e2 =>
 ∃ f2 g2 h2 i2 j2 k2 l2 m2 n2 o2 p2 q2 r2 s2 t2 u2 v2, d2 = .returned (tuple #[pointer f2, pointer g2, agg #[slice h2 i2 j2, slice k2 l2 m2, slice n2 o2 p2, slice q2 r2 s2, slice t2 u2 v2]]) ∧
 ∀ x2, x2 = e2.alloc (.cells #[slice none 0 0, slice none 0 0, slice none 0 0, slice none 0 0, slice none 0 0] 39) →
 StoreP x2 (nb e2) (fun y2 =>
 CondP (Option.isNone f2)
 (R (bool false) y2)
 (CondP (Option.isNone g2)
 (R (bool false) y2)
 (Calls Tryz.prog 24 #[pointer f2] y2 (fun z2 a3 =>
 ∃ b3, z2 = .returned (int .i64 b3) ∧
 Ar .i64 (b3 + 1) (fun c3 =>
 Calls Tryz.prog 40 #[pointer g2, int .i64 0, int .i64 c3] a3 (fun d3 e3 =>
 ∃ f3, d3 = .returned (bool f3) ∧
 CondP f3
 (R (bool false) e3)
 (Calls Tryz.prog 40 #[pointer g2, int .i64 (-1), int .i64 0] e3 (fun g3 h3 =>
 ∃ i3, g3 = .returned (bool i3) ∧
 CondP i3
 (R (bool false) h3)
 (Ar .i64 (b3 + 2) (fun j3 =>
 Calls Tryz.prog 40 #[pointer g2, int .i64 0, int .i64 j3] h3 (fun k3 l3 =>
 ∃ m3, k3 = .returned (bool m3) ∧
 CondP m3
 (R (bool false) l3)
 (Calls Tryz.prog 40 #[pointer g2, int .i64 0, int .i64 0] l3 (fun n3 o3 =>
 ∃ p3, n3 = .returned (bool p3) ∧
 CondP (!p3)
 (R (bool false) o3)
 (Calls Tryz.prog 41 #[pointer f2, int .i64 n] o3 (fun q3 r3 =>
 ∃ s3 t3, q3 = .returned (tuple #[int .i64 s3, bool t3]) ∧
 Calls Tryz.prog 41 #[pointer f2, int .i64 o] r3 (fun u3 v3 =>
 ∃ x3 y3, u3 = .returned (tuple #[int .i64 x3, bool y3]) ∧
 CondP (!t3)
 (R (bool true) v3)
 (CondP (!y3)
 (R (bool true) v3)
 (Calls Tryz.prog 31 #[pointer f2, int .i64 n] v3 (fun z3 a4 =>
 ∃ b4 c4 d4, z3 = .returned (slice b4 c4 d4) ∧
 Calls Tryz.prog 31 #[pointer f2, int .i64 o] a4 (fun e4 f4 =>
 ∃ g4 h4 i4, e4 = .returned (slice g4 h4 i4) ∧
 ∀ j4 : KW, (∀ (k4 : Int) (l4 : Bool) (m4 : World), (CondP (decide (k4 < (c4 : Int)))
 (∀ n4, n4 = m4.drew →
 CondP l4
 (NilC b4 (fun o4 =>
 (0 : Int) ≤ k4 ∧ k4 < (c4 : Int) ∧
 ∃ p4, n4.cell? (o4.add (k4.toNat * 1)) = some (int .u64 p4) ∧
 NilC g4 (fun q4 =>
 (0 : Int) ≤ k4 ∧ k4 < (h4 : Int) ∧
 ∃ r4, n4.cell? (q4.add (k4.toNat * 1)) = some (int .u64 r4) ∧
 Ar .i64 (k4 + 1) (fun s4 =>
 j4 [int .i64 s4, bool (p4 == r4)] n4))))
 (Ar .i64 (k4 + 1) (fun t4 =>
 j4 [int .i64 t4, bool false] n4)))
 (Ar .i64 (s3 + 1) (fun u4 =>
 Ar .i64 (x3 + 1) (fun v4 =>
 Calls Tryz.prog 40 #[pointer g2, int .i64 u4, int .i64 v4] m4 (fun x4 y4 =>
 ∃ z4, x4 = .returned (bool z4) ∧
 R (bool (z4 == l4)) y4))))) → j4 [int .i64 k4, bool l4] m4) →
 j4 [int .i64 0, bool true] f4)))))))))))))))))))) [slice h2 i2 j2, slice k2 l2 m2, slice n2 o2 p2, slice q2 r2 s2, slice t2 u2 v2] 0)))))
theorem vc7_calls (a : OA) (b c : Nat) (d : OA) (f g : Nat) (h : OA) (i j : Nat) (k : OA) (l m : Nat) (n o : Int) (w : World) (R : RW) (hh : vc7 a b c d f g h i j k l m n o w R) : Calls Tryz.prog 7 #[agg #[slice a b c, slice d f g, slice h i j, slice k l m], int .i64 n, int .i64 o] w fun e w' => ∃ v, e = .returned v ∧ R v w' :=
 calls_of_den ctxOk (fn := Tryz.f7) (by kernel_rfl) (body := bodyOf Tryz.f7) (by kernel_rfl) (by kernel_rfl) (by kernel_rfl) (Eq.mp (by kernel_rfl) hh)
def vc38 (w : World) (R : RW) : Prop :=
 ∀ a, a = w.alloc (.cells #[int .i64 97, int .i64 98] 98) →
 Calls Tryz.prog 64 #[agg #[bool false, slice (some (nb w)) 1 1, slice none 0 0, slice none 0 0, slice none 0 0, slice none 0 0]] a (fun b c =>
 ∃ d f g, b = .returned (tuple #[pointer d, int .i64 f, int .i64 g]) ∧
 Calls Tryz.prog 61 #[pointer d, int .i64 1048576] c (fun h i =>
 ∃ j k, h = .returned (tuple #[pointer j, int .i64 k]) ∧
 Calls Tryz.prog 42 #[pointer j, int .i64 1048576] i (fun l m =>
 ∃ n o, l = .returned (tuple #[pointer n, int .i64 o]) ∧
 CondP (o == 0)
 (Calls Tryz.prog 43 #[pointer n] m (fun p q =>
 ∃ r, p = .returned (int .i64 r) ∧
 CondP (r == 259)
 (Calls Tryz.prog 46 #[pointer n] q (fun s t =>
 ∃ u, s = .returned (pointer u) ∧
 Calls Tryz.prog 43 #[pointer u] t (fun x y =>
 ∃ z, x = .returned (int .i64 z) ∧
 R (bool (z == 3)) y)))
 (R (bool false) q)))
 (R (bool false) m))))
theorem vc38_calls (w : World) (R : RW) (hh : vc38 w R) : Calls Tryz.prog 38 #[] w fun e w' => ∃ v, e = .returned v ∧ R v w' :=
 calls_of_den ctxOk (fn := Tryz.f38) (by kernel_rfl) (body := bodyOf Tryz.f38) (by kernel_rfl) (by kernel_rfl) (by kernel_rfl) (Eq.mp (by kernel_rfl) hh)
def vc39 (a : OA) (b c : Nat) (d : OA) (f g : Nat) (h : OA) (i j : Nat) (k : OA) (l m : Nat) (w : World) (R : RW) : Prop :=
 ∀ n, n = w.alloc (.cells #[slice a b c, slice d f g, slice h i j, slice k l m] 27) →
 ∀ o, o = n.alloc (.cells #[slice none 0 0, slice none 0 0, slice none 0 0, slice none 0 0, slice none 0 0] 39) →
 ∃ p q r s t u x y z a1 b1 c1, (o.cell? (nb w) = some (slice p q r) ∧ o.cell? ((nb w).add 1) = some (slice s t u) ∧ o.cell? ((nb w).add 2) = some (slice x y z) ∧ o.cell? ((nb w).add 3) = some (slice a1 b1 c1) ∧ True) ∧
 Calls Tryz.prog 17 #[agg #[slice p q r, slice s t u, slice x y z, slice a1 b1 c1]] o (fun d1 e1 =>
 ∃ f1 g1 h1 i1 j1 k1 l1 m1 n1 o1 p1 q1 r1 s1 t1 u1, d1 = .returned (tuple #[pointer f1, agg #[slice g1 h1 i1, slice j1 k1 l1, slice m1 n1 o1, slice p1 q1 r1, slice s1 t1 u1]]) ∧
 ∀ v1, v1 = e1.alloc (.cells #[slice none 0 0, slice none 0 0, slice none 0 0, slice none 0 0, slice none 0 0] 39) →
 StoreP v1 (nb e1) (fun x1 =>
 Calls Tryz.prog 61 #[pointer f1, int .i64 1048576] x1 (fun y1 z1 =>
 ∃ a2 b2, y1 = .returned (tuple #[pointer a2, int .i64 b2]) ∧
 Calls Tryz.prog 42 #[pointer a2, int .i64 1048576] z1 (fun c2 d2 =>
 ∃ e2 f2, c2 = .returned (tuple #[pointer e2, int .i64 f2]) ∧
 CondP (b2 != 0)
 (∀ g2, g2 = d2.drew →
 ∃ h2 i2 j2 k2 l2 m2 n2 o2 p2 q2 r2 s2 t2 u2 v2, (g2.cell? (nb e1) = some (slice h2 i2 j2) ∧ g2.cell? ((nb e1).add 1) = some (slice k2 l2 m2) ∧ g2.cell? ((nb e1).add 2) = some (slice n2 o2 p2) ∧ g2.cell? ((nb e1).add 3) = some (slice q2 r2 s2) ∧ g2.cell? ((nb e1).add 4) = some (slice t2 u2 v2) ∧ True) ∧
 StoreP g2 (nb n) (fun x2 =>
 ∃ y2 z2 a3 b3 c3 d3 e3 f3 g3 h3 i3 j3 k3 l3 m3, (x2.cell? (nb n) = some (slice y2 z2 a3) ∧ x2.cell? ((nb n).add 1) = some (slice b3 c3 d3) ∧ x2.cell? ((nb n).add 2) = some (slice e3 f3 g3) ∧ x2.cell? ((nb n).add 3) = some (slice h3 i3 j3) ∧ x2.cell? ((nb n).add 4) = some (slice k3 l3 m3) ∧ True) ∧
 R (tuple #[pointer none, pointer none, agg #[slice y2 z2 a3, slice b3 c3 d3, slice e3 f3 g3, slice h3 i3 j3, slice k3 l3 m3]]) x2) [slice h2 i2 j2, slice k2 l2 m2, slice n2 o2 p2, slice q2 r2 s2, slice t2 u2 v2] 0)
 (CondP (f2 != 0)
 (∀ n3, n3 = d2.drew →
 ∃ o3 p3 q3 r3 s3 t3 u3 v3 x3 y3 z3 a4 b4 c4 d4, (n3.cell? (nb e1) = some (slice o3 p3 q3) ∧ n3.cell? ((nb e1).add 1) = some (slice r3 s3 t3) ∧ n3.cell? ((nb e1).add 2) = some (slice u3 v3 x3) ∧ n3.cell? ((nb e1).add 3) = some (slice y3 z3 a4) ∧ n3.cell? ((nb e1).add 4) = some (slice b4 c4 d4) ∧ True) ∧
 StoreP n3 (nb n) (fun e4 =>
 ∃ f4 g4 h4 i4 j4 k4 l4 m4 n4 o4 p4 q4 r4 s4 t4, (e4.cell? (nb n) = some (slice f4 g4 h4) ∧ e4.cell? ((nb n).add 1) = some (slice i4 j4 k4) ∧ e4.cell? ((nb n).add 2) = some (slice l4 m4 n4) ∧ e4.cell? ((nb n).add 3) = some (slice o4 p4 q4) ∧ e4.cell? ((nb n).add 4) = some (slice r4 s4 t4) ∧ True) ∧
 R (tuple #[pointer none, pointer none, agg #[slice f4 g4 h4, slice i4 j4 k4, slice l4 m4 n4, slice o4 p4 q4, slice r4 s4 t4]]) e4) [slice o3 p3 q3, slice r3 s3 t3, slice u3 v3 x3, slice y3 z3 a4, slice b4 c4 d4] 0)
 (∀ u4, u4 = d2.drew →
 ∃ v4 x4 y4 z4 a5 b5 c5 d5 e5 f5 g5 h5 i5 j5 k5, (u4.cell? (nb e1) = some (slice v4 x4 y4) ∧ u4.cell? ((nb e1).add 1) = some (slice z4 a5 b5) ∧ u4.cell? ((nb e1).add 2) = some (slice c5 d5 e5) ∧ u4.cell? ((nb e1).add 3) = some (slice f5 g5 h5) ∧ u4.cell? ((nb e1).add 4) = some (slice i5 j5 k5) ∧ True) ∧
 StoreP u4 (nb n) (fun l5 =>
 ∃ m5 n5 o5 p5 q5 r5 s5 t5 u5 v5 x5 y5 z5 a6 b6, (l5.cell? (nb n) = some (slice m5 n5 o5) ∧ l5.cell? ((nb n).add 1) = some (slice p5 q5 r5) ∧ l5.cell? ((nb n).add 2) = some (slice s5 t5 u5) ∧ l5.cell? ((nb n).add 3) = some (slice v5 x5 y5) ∧ l5.cell? ((nb n).add 4) = some (slice z5 a6 b6) ∧ True) ∧
 R (tuple #[pointer a2, pointer e2, agg #[slice m5 n5 o5, slice p5 q5 r5, slice s5 t5 u5, slice v5 x5 y5, slice z5 a6 b6]]) l5) [slice v4 x4 y4, slice z4 a5 b5, slice c5 d5 e5, slice f5 g5 h5, slice i5 j5 k5] 0))))) [slice g1 h1 i1, slice j1 k1 l1, slice m1 n1 o1, slice p1 q1 r1, slice s1 t1 u1] 0)
theorem vc39_calls (a : OA) (b c : Nat) (d : OA) (f g : Nat) (h : OA) (i j : Nat) (k : OA) (l m : Nat) (w : World) (R : RW) (hh : vc39 a b c d f g h i j k l m w R) : Calls Tryz.prog 39 #[agg #[slice a b c, slice d f g, slice h i j, slice k l m]] w fun e w' => ∃ v, e = .returned v ∧ R v w' :=
 calls_of_den ctxOk (fn := Tryz.f39) (by kernel_rfl) (body := bodyOf Tryz.f39) (by kernel_rfl) (by kernel_rfl) (by kernel_rfl) (Eq.mp (by kernel_rfl) hh)
def vc40 (a : OA) (b c : Int) (w : World) (R : RW) : Prop :=
 ∀ d, d = w.drew →
 Calls Tryz.prog 75 #[pointer a, int .i64 b] d (fun f g =>
 ∃ h, f = .returned (bool h) ∧
 CondP h
 (Calls Tryz.prog 75 #[pointer a, int .i64 c] g (fun i j =>
 ∃ k, i = .returned (bool k) ∧
 CondP k
 (Calls Tryz.prog 76 #[pointer a] j (fun l m =>
 ∃ n o p, l = .returned (slice n o p) ∧
 NilC n (fun q =>
 (0 : Int) ≤ b ∧ b < (o : Int) ∧
 ∃ r, m.cell? (q.add (b.toNat * 1)) = some (int .i64 r) ∧
 Calls Tryz.prog 76 #[pointer a] m (fun s t =>
 ∃ u x y, s = .returned (slice u x y) ∧
 (t.cell? (q.add (b.toNat * 1)) = some (int .i64 r) ∧ True) ∧
 NilC u (fun z =>
 (0 : Int) ≤ c ∧ c < (x : Int) ∧
 ∃ a1, t.cell? (z.add (c.toNat * 1)) = some (int .i64 a1) ∧
 R (bool (r == a1)) t)))))
 (R (bool false) j)))
 (R (bool false) g))
theorem vc40_calls (a : OA) (b c : Int) (w : World) (R : RW) (hh : vc40 a b c w R) : Calls Tryz.prog 40 #[pointer a, int .i64 b, int .i64 c] w fun e w' => ∃ v, e = .returned v ∧ R v w' :=
 calls_of_den ctxOk (fn := Tryz.f40) (by kernel_rfl) (body := bodyOf Tryz.f40) (by kernel_rfl) (by kernel_rfl) (by kernel_rfl) (Eq.mp (by kernel_rfl) hh)
def vc42 (a : OA) (b : Int) (w : World) (R : RW) : Prop :=
 ∀ c, c = w.alloc (.cells #[pointer a] 48) →
 ∃ d, c.cell? (nb w) = some (pointer d) ∧
 Calls Tryz.prog 24 #[pointer d] c (fun f g =>
 ∃ h, f = .returned (int .i64 h) ∧
 ∃ i, g.cell? (nb w) = some (pointer i) ∧
 CondP (Option.isNone i)
 (R (tuple #[pointer none, int .i64 1]) g)
 (Ar .i64 (h + 2) (fun j =>
 Ar .i64 (j * h) (fun k =>
 CondP (decide (k > b))
 (R (tuple #[pointer none, int .i64 5]) g)
 (∃ l, g.cell? (nb w) = some (pointer l) ∧
 ∀ m, m = g.alloc (.cells #[pointer l, slice none 0 0, slice none 0 0, int .u32 0, int .i32 0, int .u32 0, slice none 0 0] 136) →
 Ar .i64 (h + 1) (fun n =>
 ∀ o, o = m.alloc (.cells #[Value.nilFunc] 137) →
 (func (.func 77) #[] #[pointer (some (nb w))]).oneCell' = true ∧ (∃ u, o.cell? (nb m) = some u) ∧ o.frozen? (nb m) = false ∧
 ∀ p, p = (o.setCell (nb m) (func (.func 77) #[] #[pointer (some (nb w))])) →
 ∀ q, q = p.drew →
 ∃ r s t, q.cell? ((nb g).add 1) = some (slice r s t) ∧
 Calls Tryz.prog 78 #[int .i64 h, int .i64 n, func (.func 79) #[] #[pointer (some (nb w)), pointer (some (nb m))]] q (fun x y =>
 ∃ z a1 b1, x = .returned (slice z a1 b1) ∧
 (y.cell? ((nb g).add 1) = some (slice r s t) ∧ True) ∧
 ∀ c1, c1 = y.alloc (.cells #[slice z a1 b1] 28) →
 (c1.cell? ((nb g).add 1) = some (slice r s t) ∧ True) ∧
 ∃ d1 e1 f1 g1, (Builtin.append_ #[120, 120] 120 #[slice r s t, slice (some (nb y)) 1 1]).run Tryz.prog c1 = .ok (slice d1 e1 f1) g1 ∧
 (slice d1 e1 f1).oneCell' = true ∧ (∃ u, g1.cell? ((nb g).add 1) = some u) ∧ g1.frozen? ((nb g).add 1) = false ∧
 ∀ h1, h1 = (g1.setCell ((nb g).add 1) (slice d1 e1 f1)) →
 ∀ i1 : KW, (∀ (j1 : Int) (k1 : World), (CondP (decide (j1 < h))
 (∀ l1, l1 = k1.drew →
 ∃ m1, l1.cell? (nb w) = some (pointer m1) ∧
 ∃ n1, l1.cell? (nb m) = some (n1) ∧
 (CallG ctx n1 [int .i64 j1] l1 (fun o1 p1 =>
 ∃ q1, o1 = .returned (int .i64 q1) ∧
 (p1.cell? (nb w) = some (pointer m1) ∧ True) ∧
 (Calls Tryz.prog 31 #[pointer m1, int .i64 q1] p1 (fun r1 s1 =>
 ∃ t1 u1 v1, r1 = .returned (slice t1 u1 v1) ∧
 ∀ x1, x1 = s1.alloc (.cells #[slice none 0 0] 55) →
 (slice t1 u1 v1).oneCell' = true ∧ (∃ u, x1.cell? (nb s1) = some u) ∧ x1.frozen? (nb s1) = false ∧
 ∀ y1, y1 = (x1.setCell (nb s1) (slice t1 u1 v1)) →
 ∀ z1, z1 = y1.drew →
 ∃ a2 b2 c2, z1.cell? ((nb g).add 1) = some (slice a2 b2 c2) ∧
 Calls Tryz.prog 78 #[int .i64 h, int .i64 n, func (.func 80) #[] #[pointer (some (nb s1))]] z1 (fun d2 e2 =>
 ∃ f2 g2 h2, d2 = .returned (slice f2 g2 h2) ∧
 (e2.cell? ((nb g).add 1) = some (slice a2 b2 c2) ∧ True) ∧
 ∀ i2, i2 = e2.alloc (.cells #[slice f2 g2 h2] 28) →
 (i2.cell? ((nb g).add 1) = some (slice a2 b2 c2) ∧ True) ∧
 ∃ j2 k2 l2 m2, (Builtin.append_ #[120, 120] 120 #[slice a2 b2 c2, slice (some (nb e2)) 1 1]).run Tryz.prog i2 = .ok (slice j2 k2 l2) m2 ∧
 (slice j2 k2 l2).oneCell' = true ∧ (∃ u, m2.cell? ((nb g).add 1) = some u) ∧ m2.frozen? ((nb g).add 1) = false ∧
 ∀ n2, n2 = (m2.setCell ((nb g).add 1) (slice j2 k2 l2)) →
 Ar .i64 (j1 + 1) (fun o2 =>
 i1 [int .i64 o2] n2)))) ∧
 (∀ p2, p2 = p1.alloc (.cells #[slice none 0 0] 55) →
 (p2.cell? (nb w) = some (pointer m1) ∧ True) ∧
 Calls Tryz.prog 31 #[pointer m1, int .i64 q1] p2 (fun q2 r2 =>
 ∃ s2 t2 u2, q2 = .returned (slice s2 t2 u2) ∧
 (slice s2 t2 u2).oneCell' = true ∧ (∃ u, r2.cell? (nb p1) = some u) ∧ r2.frozen? (nb p1) = false ∧
 ∀ v2, v2 = (r2.setCell (nb p1) (slice s2 t2 u2)) →
 ∀ x2, x2 = v2.drew →
 ∃ y2 z2 a3, x2.cell? ((nb g).add 1) = some (slice y2 z2 a3) ∧
 Calls Tryz.prog 78 #[int .i64 h, int .i64 n, func (.func 80) #[] #[pointer (some (nb p1))]] x2 (fun b3 c3 =>
 ∃ d3 e3 f3, b3 = .returned (slice d3 e3 f3) ∧
 (c3.cell? ((nb g).add 1) = some (slice y2 z2 a3) ∧ True) ∧
 ∀ g3, g3 = c3.alloc (.cells #[slice d3 e3 f3] 28) →
 (g3.cell? ((nb g).add 1) = some (slice y2 z2 a3) ∧ True) ∧
 ∃ h3 i3 j3 k3, (Builtin.append_ #[120, 120] 120 #[slice y2 z2 a3, slice (some (nb c3)) 1 1]).run Tryz.prog g3 = .ok (slice h3 i3 j3) k3 ∧
 (slice h3 i3 j3).oneCell' = true ∧ (∃ u, k3.cell? ((nb g).add 1) = some u) ∧ k3.frozen? ((nb g).add 1) = false ∧
 ∀ l3, l3 = (k3.setCell ((nb g).add 1) (slice h3 i3 j3)) →
 Ar .i64 (j1 + 1) (fun m3 =>
 i1 [int .i64 m3] l3)))))) ∧
 (∀ n3, n3 = l1.alloc (.cells #[slice none 0 0] 55) →
 (n3.cell? (nb m) = some (n1) ∧ True) ∧
 (n3.cell? (nb w) = some (pointer m1) ∧ True) ∧
 CallG ctx n1 [int .i64 j1] n3 (fun o3 p3 =>
 ∃ q3, o3 = .returned (int .i64 q3) ∧
 (p3.cell? (nb w) = some (pointer m1) ∧ True) ∧
 Calls Tryz.prog 31 #[pointer m1, int .i64 q3] p3 (fun r3 s3 =>
 ∃ t3 u3 v3, r3 = .returned (slice t3 u3 v3) ∧
 (slice t3 u3 v3).oneCell' = true ∧ (∃ u, s3.cell? (nb l1) = some u) ∧ s3.frozen? (nb l1) = false ∧
 ∀ x3, x3 = (s3.setCell (nb l1) (slice t3 u3 v3)) →
 ∀ y3, y3 = x3.drew →
 ∃ z3 a4 b4, y3.cell? ((nb g).add 1) = some (slice z3 a4 b4) ∧
 Calls Tryz.prog 78 #[int .i64 h, int .i64 n, func (.func 80) #[] #[pointer (some (nb l1))]] y3 (fun c4 d4 =>
 ∃ e4 f4 g4, c4 = .returned (slice e4 f4 g4) ∧
 (d4.cell? ((nb g).add 1) = some (slice z3 a4 b4) ∧ True) ∧
 ∀ h4, h4 = d4.alloc (.cells #[slice e4 f4 g4] 28) →
 (h4.cell? ((nb g).add 1) = some (slice z3 a4 b4) ∧ True) ∧
 ∃ i4 j4 k4 l4, (Builtin.append_ #[120, 120] 120 #[slice z3 a4 b4, slice (some (nb d4)) 1 1]).run Tryz.prog h4 = .ok (slice i4 j4 k4) l4 ∧
 (slice i4 j4 k4).oneCell' = true ∧ (∃ u, l4.cell? ((nb g).add 1) = some u) ∧ l4.frozen? ((nb g).add 1) = false ∧
 ∀ m4, m4 = (l4.setCell ((nb g).add 1) (slice i4 j4 k4)) →
 Ar .i64 (j1 + 1) (fun n4 =>
 i1 [int .i64 n4] m4))))))
 (∀ o4, o4 = k1.drew →
 ∃ p4 q4 r4, o4.cell? ((nb g).add 1) = some (slice p4 q4 r4) ∧
 Calls Tryz.prog 78 #[int .i64 h, int .i64 n, func (.func 81) #[] #[]] o4 (fun s4 t4 =>
 ∃ u4 v4 x4, s4 = .returned (slice u4 v4 x4) ∧
 (t4.cell? ((nb g).add 1) = some (slice p4 q4 r4) ∧ True) ∧
 ∀ y4, y4 = t4.alloc (.cells #[slice u4 v4 x4] 28) →
 (y4.cell? ((nb g).add 1) = some (slice p4 q4 r4) ∧ True) ∧
 ∃ z4 a5 b5 c5, (Builtin.append_ #[120, 120] 120 #[slice p4 q4 r4, slice (some (nb t4)) 1 1]).run Tryz.prog y4 = .ok (slice z4 a5 b5) c5 ∧
 (slice z4 a5 b5).oneCell' = true ∧ (∃ u, c5.cell? ((nb g).add 1) = some u) ∧ c5.frozen? ((nb g).add 1) = false ∧
 ∀ d5, d5 = (c5.setCell ((nb g).add 1) (slice z4 a5 b5)) →
 ∀ e5, e5 = d5.alloc (.cells #[bool true] 4) →
 Ar .i64 (h + 2) (fun f5 =>
 Calls Tryz.prog 82 #[slice (some (nb d5)) 1 1, int .i64 f5] e5 (fun g5 h5 =>
 ∃ i5 j5 k5, g5 = .returned (slice i5 j5 k5) ∧
 (slice i5 j5 k5).oneCell' = true ∧ (∃ u, h5.cell? ((nb g).add 2) = some u) ∧ h5.frozen? ((nb g).add 2) = false ∧
 ∀ l5, l5 = (h5.setCell ((nb g).add 2) (slice i5 j5 k5)) →
 ∃ m5 n5 o5, l5.cell? ((nb g).add 2) = some (slice m5 n5 o5) ∧
 NilC m5 (fun p5 =>
 (0 : Int) ≤ n ∧ n < (n5 : Int) ∧
 (bool false).oneCell' = true ∧ (∃ u, l5.cell? (p5.add (n.toNat * 1)) = some u) ∧ l5.frozen? (p5.add (n.toNat * 1)) = false ∧
 ∀ q5, q5 = (l5.setCell (p5.add (n.toNat * 1)) (bool false)) →
 R (tuple #[pointer (some (nb g)), int .i64 0]) q5)))))) → i1 [int .i64 j1] k1) →
 i1 [int .i64 0] h1)))))))
theorem vc42_calls (a : OA) (b : Int) (w : World) (R : RW) (hh : vc42 a b w R) : Calls Tryz.prog 42 #[pointer a, int .i64 b] w fun e w' => ∃ v, e = .returned v ∧ R v w' :=
 calls_of_den ctxOk (fn := Tryz.f42) (by kernel_rfl) (body := bodyOf Tryz.f42) (by kernel_rfl) (by kernel_rfl) (by kernel_rfl) (Eq.mp (by kernel_rfl) hh)
def vc43 (a : OA) (w : World) (R : RW) : Prop :=
 CondP (Option.isNone a)
 (R (int .i64 0) w)
 (NilC a (fun b =>
 ∃ c d f, w.cell? (b.add 1) = some (slice c d f) ∧
 R (int .i64 (d : Int)) w))
theorem vc43_calls (a : OA) (w : World) (R : RW) (hh : vc43 a w R) : Calls Tryz.prog 43 #[pointer a] w fun e w' => ∃ v, e = .returned v ∧ R v w' :=
 calls_of_den ctxOk (fn := Tryz.f43) (by kernel_rfl) (body := bodyOf Tryz.f43) (by kernel_rfl) (by kernel_rfl) (by kernel_rfl) (Eq.mp (by kernel_rfl) hh)
def vc46 (a : OA) (w : World) (R : RW) : Prop :=
 CondP (Option.isNone a)
 (R (pointer none) w)
 (Calls Tryz.prog 76 #[pointer a] w (fun b c =>
 ∃ d f g, b = .returned (slice d f g) ∧
 ∀ h, h = c.alloc (.cells #[slice none 0 0] 28) →
 (slice d f g).oneCell' = true ∧ (∃ u, h.cell? (nb c) = some u) ∧ h.frozen? (nb c) = false ∧
 ∀ i, i = (h.setCell (nb c) (slice d f g)) →
 Calls Tryz.prog 83 #[pointer a, func (.func 84) #[] #[pointer (some (nb c))]] i (fun j k =>
 ∃ l m n o, j = .returned (tuple #[slice l m n, map o]) ∧
 NilC a (fun p =>
 ∃ q, k.cell? (p.add 0) = some (pointer q) ∧
 ∀ r, r = k.alloc (.cells #[pointer q, slice none 0 0, slice none 0 0, int .u32 0, int .i32 0, int .u32 0, slice none 0 0] 136) →
 ∀ s : KW, (∀ (t : Int) (x : World), (CondP (decide (t < (m : Int)))
 (NilC l (fun y =>
 (0 : Int) ≤ t ∧ t < (m : Int) ∧
 ∃ z, x.cell? (y.add (t.toNat * 1)) = some (int .i64 z) ∧
 NilC a (fun a1 =>
 ∃ b1 c1 d1, x.cell? (a1.add 1) = some (slice b1 c1 d1) ∧
 NilC b1 (fun e1 =>
 (0 : Int) ≤ z ∧ z < (c1 : Int) ∧
 ∃ f1 g1 h1, x.cell? (e1.add (z.toNat * 1)) = some (slice f1 g1 h1) ∧
 ∀ i1 : KW, (∀ (j1 : Int) (k1 : OA) (l1 m1 : Nat) (n1 : World), (CondP (decide (j1 < (g1 : Int)))
 (NilC f1 (fun o1 =>
 (0 : Int) ≤ j1 ∧ j1 < (g1 : Int) ∧
 ∃ p1, n1.cell? (o1.add (j1.toNat * 1)) = some (int .i64 p1) ∧
 ∃ q1 r1 s1, n1.cell? (nb c) = some (slice q1 r1 s1) ∧
 NilC q1 (fun t1 =>
 (0 : Int) ≤ p1 ∧ p1 < (r1 : Int) ∧
 ∃ u1, n1.cell? (t1.add (p1.toNat * 1)) = some (int .i64 u1) ∧
 ∃ v1 x1, (Instr.lookup 107 (map o) (int .i64 u1) false).run Tryz.prog n1 = .ok (int .i64 v1) x1 ∧
 ∀ y1, y1 = x1.alloc (.cells #[int .i64 v1] 3) →
 ∃ z1 a2 b2 c2, (Builtin.append_ #[28, 28] 28 #[slice k1 l1 m1, slice (some (nb x1)) 1 1]).run Tryz.prog y1 = .ok (slice z1 a2 b2) c2 ∧
 Ar .i64 (j1 + 1) (fun d2 =>
 i1 [int .i64 d2, slice z1 a2 b2] c2))))
 (∃ e2 f2 g2, n1.cell? ((nb k).add 1) = some (slice e2 f2 g2) ∧
 ∀ h2, h2 = n1.alloc (.cells #[slice k1 l1 m1] 28) →
 ∃ i2 j2 k2 l2, (Builtin.append_ #[120, 120] 120 #[slice e2 f2 g2, slice (some (nb n1)) 1 1]).run Tryz.prog h2 = .ok (slice i2 j2 k2) l2 ∧
 (slice i2 j2 k2).oneCell' = true ∧ (∃ u, l2.cell? ((nb k).add 1) = some u) ∧ l2.frozen? ((nb k).add 1) = false ∧
 ∀ m2, m2 = (l2.setCell ((nb k).add 1) (slice i2 j2 k2)) →
 ∀ n2, n2 = m2.drew →
 ∃ o2 p2 q2, n2.cell? ((nb k).add 2) = some (slice o2 p2 q2) ∧
 NilC a (fun r2 =>
 ∃ s2 t2 u2, n2.cell? (r2.add 2) = some (slice s2 t2 u2) ∧
 NilC s2 (fun v2 =>
 (0 : Int) ≤ z ∧ z < (t2 : Int) ∧
 ∃ x2, n2.cell? (v2.add (z.toNat * 1)) = some (bool x2) ∧
 ∀ y2, y2 = n2.alloc (.cells #[bool x2] 4) →
 (y2.cell? ((nb k).add 2) = some (slice o2 p2 q2) ∧ True) ∧
 ∃ z2 a3 b3 c3, (Builtin.append_ #[72, 72] 72 #[slice o2 p2 q2, slice (some (nb n2)) 1 1]).run Tryz.prog y2 = .ok (slice z2 a3 b3) c3 ∧
 (slice z2 a3 b3).oneCell' = true ∧ (∃ u, c3.cell? ((nb k).add 2) = some u) ∧ c3.frozen? ((nb k).add 2) = false ∧
 ∀ d3, d3 = (c3.setCell ((nb k).add 2) (slice z2 a3 b3)) →
 Ar .i64 (t + 1) (fun e3 =>
 s [int .i64 e3] d3))))) → i1 [int .i64 j1, slice k1 l1 m1] n1) →
 i1 [int .i64 0, slice none 0 0] x))))
 (R (pointer (some (nb k))) x)) → s [int .i64 t] x) →
 s [int .i64 0] r))))
theorem vc46_calls (a : OA) (w : World) (R : RW) (hh : vc46 a w R) : Calls Tryz.prog 46 #[pointer a] w fun e w' => ∃ v, e = .returned v ∧ R v w' :=
 calls_of_den ctxOk (fn := Tryz.f46) (by kernel_rfl) (body := bodyOf Tryz.f46) (by kernel_rfl) (by kernel_rfl) (by kernel_rfl) (Eq.mp (by kernel_rfl) hh)
def vc75 (a : OA) (b : Int) (w : World) (R : RW) : Prop :=
 CondP (decide (b ≥ 0))
 (Calls Tryz.prog 43 #[pointer a] w (fun c d =>
 ∃ f, c = .returned (int .i64 f) ∧
 R (bool (decide (b < f))) d))
 (R (bool false) w)
theorem vc75_calls (a : OA) (b : Int) (w : World) (R : RW) (hh : vc75 a b w R) : Calls Tryz.prog 75 #[pointer a, int .i64 b] w fun e w' => ∃ v, e = .returned v ∧ R v w' :=
 calls_of_den ctxOk (fn := Tryz.f75) (by kernel_rfl) (body := bodyOf Tryz.f75) (by kernel_rfl) (by kernel_rfl) (by kernel_rfl) (Eq.mp (by kernel_rfl) hh)
def vc76 (a : OA) (w : World) (R : RW) : Prop :=
 NilC a (fun b =>
 Calls Tryz.prog 113 #[pointer (some ((b.add 3).add 0)), func (.func 114) #[pointer a] #[]] w (fun c d =>
 c = .returned (tuple #[]) ∧
 NilC a (fun f =>
 ∃ g h i, d.cell? ((f.add 3).add 3) = some (slice g h i) ∧
 R (slice g h i) d)))
theorem vc76_calls (a : OA) (w : World) (R : RW) (hh : vc76 a w R) : Calls Tryz.prog 76 #[pointer a] w fun e w' => ∃ v, e = .returned v ∧ R v w' :=
 calls_of_den ctxOk (fn := Tryz.f76) (by kernel_rfl) (body := bodyOf Tryz.f76) (by kernel_rfl) (by kernel_rfl) (by kernel_rfl) (Eq.mp (by kernel_rfl) hh)
def vc77 (a : Int) (b : OA) (w : World) (R : RW) : Prop :=
 NilC b (fun c =>
 ∃ d, w.cell? c = some (pointer d) ∧
 Calls Tryz.prog 25 #[pointer d, int .i64 a] w (fun f g =>
 ∃ h i, f = .returned (tuple #[int .i64 h, bool i]) ∧
 R (int .i64 h) g))
theorem vc77_calls (a : Int) (b : OA) (w : World) (R : RW) (hh : vc77 a b w R) : Calls Tryz.prog 77 #[int .i64 a, pointer b] w fun e w' => ∃ v, e = .returned v ∧ R v w' :=
 calls_of_den ctxOk (fn := Tryz.f77) (by kernel_rfl) (body := bodyOf Tryz.f77) (by kernel_rfl) (by kernel_rfl) (by kernel_rfl) (Eq.mp (by kernel_rfl) hh)
def vc78 (a b : Int) (c : Value) (w : World) (R : RW) : Prop :=
 ∃ d f g h, (Instr.makeSlice 28 (int .i64 a) (int .i64 a)).run Tryz.prog w = .ok (slice d f g) h ∧
 ∀ i : KW, (∀ (j : Int) (k : World), (CondP (decide (j < (f : Int)))
 (∀ l : KW, (∀ m : World, (Ar .i64 (j + 1) (fun n =>
 i [int .i64 n] m)) → l [] m) →
 NilC d (fun o =>
 (0 : Int) ≤ j ∧ j < (f : Int) ∧
 (int .i64 b).oneCell' = true ∧ (∃ u, k.cell? (o.add (j.toNat * 1)) = some u) ∧ k.frozen? (o.add (j.toNat * 1)) = false ∧
 ∀ p, p = (k.setCell (o.add (j.toNat * 1)) (int .i64 b)) →
 CallG ctx c [int .i64 j] p (fun q r =>
 ∃ s, q = .returned (bool s) ∧
 CondP s
 (Ar .i64 (j + 1) (fun t =>
 NilC d (fun x =>
 (0 : Int) ≤ j ∧ j < (f : Int) ∧
 (int .i64 t).oneCell' = true ∧ (∃ u, r.cell? (x.add (j.toNat * 1)) = some u) ∧ r.frozen? (x.add (j.toNat * 1)) = false ∧
 ∀ y, y = (r.setCell (x.add (j.toNat * 1)) (int .i64 t)) →
 l [] y)))
 (l [] r))))
 (R (slice d f g) k)) → i [int .i64 j] k) →
 i [int .i64 0] h
theorem vc78_calls (a b : Int) (c : Value) (w : World) (R : RW) (hh : vc78 a b c w R) : Calls Tryz.prog 78 #[int .i64 a, int .i64 b, c] w fun e w' => ∃ v, e = .returned v ∧ R v w' :=
 calls_of_den ctxOk (fn := Tryz.f78) (by kernel_rfl) (body := bodyOf Tryz.f78) (by kernel_rfl) (by kernel_rfl) (by kernel_rfl) (Eq.mp (by kernel_rfl) hh)
def vc79 (a : Int) (b c : OA) (w : World) (R : RW) : Prop :=
 ∀ d, d = w.drew →
 NilC b (fun f =>
 ∃ g, d.cell? f = some (pointer g) ∧
 NilC c (fun h =>
 ∃ i, d.cell? h = some (i) ∧
 CallG ctx i [int .i64 a] d (fun j k =>
 ∃ l, j = .returned (int .i64 l) ∧
 (k.cell? f = some (pointer g) ∧ True) ∧
 Calls Tryz.prog 32 #[pointer g, int .i64 l] k (fun m n =>
 ∃ o, m = .returned (bool o) ∧
 R (bool o) n))))
theorem vc79_calls (a : Int) (b c : OA) (w : World) (R : RW) (hh : vc79 a b c w R) : Calls Tryz.prog 79 #[int .i64 a, pointer b, pointer c] w fun e w' => ∃ v, e = .returned v ∧ R v w' :=
 calls_of_den ctxOk (fn := Tryz.f79) (by kernel_rfl) (body := bodyOf Tryz.f79) (by kernel_rfl) (by kernel_rfl) (by kernel_rfl) (Eq.mp (by kernel_rfl) hh)
def vc80 (a : Int) (b : OA) (w : World) (R : RW) : Prop :=
 NilC b (fun c =>
 ∃ d f g, w.cell? c = some (slice d f g) ∧
 (64 : Int) ≠ 0 ∧
 NilC d (fun h =>
 (0 : Int) ≤ (IntKind.wrap .i64 (Int.tdiv a 64)) ∧ (IntKind.wrap .i64 (Int.tdiv a 64)) < (f : Int) ∧
 ∃ i, w.cell? (h.add ((IntKind.wrap .i64 (Int.tdiv a 64) : Int).toNat * 1)) = some (int .u64 i) ∧
 (64 : Int) ≠ 0 ∧
 (0 : Int) ≤ (Int.tmod a 64) ∧
 R (bool ((IntKind.wrap .u64 ((BitVec.ofInt (IntKind.bits .u64) (Int.fdiv i (2 ^ (min (Int.tmod a 64 : Int).toNat (IntKind.bits .u64)))) &&& BitVec.ofInt (IntKind.bits .u64) 1).toNat : Int) : Int) == 1)) w))
theorem vc80_calls (a : Int) (b : OA) (w : World) (R : RW) (hh : vc80 a b w R) : Calls Tryz.prog 80 #[int .i64 a, pointer b] w fun e w' => ∃ v, e = .returned v ∧ R v w' :=
 calls_of_den ctxOk (fn := Tryz.f80) (by kernel_rfl) (body := bodyOf Tryz.f80) (by kernel_rfl) (by kernel_rfl) (by kernel_rfl) (Eq.mp (by kernel_rfl) hh)
def vc81 (a : Int) (w : World) (R : RW) : Prop :=
 R (bool false) w
theorem vc81_calls (a : Int) (w : World) (R : RW) (hh : vc81 a w R) : Calls Tryz.prog 81 #[int .i64 a] w fun e w' => ∃ v, e = .returned v ∧ R v w' :=
 calls_of_den ctxOk (fn := Tryz.f81) (by kernel_rfl) (body := bodyOf Tryz.f81) (by kernel_rfl) (by kernel_rfl) (by kernel_rfl) (Eq.mp (by kernel_rfl) hh)
def vc82 (a : OA) (b c : Nat) (d : Int) (w : World) (R : RW) : Prop :=
 ∀ f : KW, (∀ g : World, (Calls Tryz.prog 115 #[int .u64 (IntKind.wrap .u64 (b : Int)), int .u64 (IntKind.wrap .u64 d)] g (fun h i =>
 ∃ j k, h = .returned (tuple #[int .u64 j, int .u64 k]) ∧
 ∀ l : KW, (∀ m : World, (∃ n o p q, (Instr.makeSlice 72 (int .i64 (IntKind.wrap .i64 k)) (int .i64 (IntKind.wrap .i64 k))).run Tryz.prog m = .ok (slice n o p) q ∧
 ∃ r s, (Builtin.copy_ #[72, 72] 3 #[slice n o p, slice a b c]).run Tryz.prog q = .ok (int .i64 r) s ∧
 ∀ t : KW, (∀ (u : Int) (x : World), (CondP (decide (u < (o : Int)))
 (∀ y, y = x.drew →
 (0 : Int) ≤ u ∧ u ≤ (o : Int) ∧ True ∧ True ∧ True ∧
 (0 : Int) ≤ (0 : Int) ∧ (0 : Int) ≤ u ∧ u ≤ (p : Int) ∧ True ∧ True ∧
 ∃ z a1, (Builtin.copy_ #[72, 72] 3 #[slice (slBase n u.toNat (p : Int).toNat 1) ((o : Int).toNat - u.toNat) ((p : Int).toNat - u.toNat), slice (slBase n (0 : Int).toNat (p : Int).toNat 1) (u.toNat - (0 : Int).toNat) ((p : Int).toNat - (0 : Int).toNat)]).run Tryz.prog y = .ok (int .i64 z) a1 ∧
 Ar .i64 (u + z) (fun b1 =>
 t [int .i64 b1] a1))
 (R (slice n o p) x)) → t [int .i64 u] x) →
 t [int .i64 r] s) → l [] m) →
 CondP (decide (j > 0))
 (False)
 (CondP (decide (k > 9223372036854775807))
 (False)
 (l [] i)))) → f [] g) →
 CondP (decide (d < 0))
 (False)
 (f [] w)
theorem vc82_calls (a : OA) (b c : Nat) (d : Int) (w : World) (R : RW) (hh : vc82 a b c d w R) : Calls Tryz.prog 82 #[slice a b c, int .i64 d] w fun e w' => ∃ v, e = .returned v ∧ R v w' :=
 calls_of_den ctxOk (fn := Tryz.f82) (by kernel_rfl) (body := bodyOf Tryz.f82) (by kernel_rfl) (by kernel_rfl) (by kernel_rfl) (Eq.mp (by kernel_rfl) hh)
def vc83 (a : OA) (b : Value) (w : World) (R : RW) : Prop :=
 ∀ c, c = w.alloc (.cells #[int .i64 0] 3) →
 ∃ d f, (Instr.makeMap 107 none).run Tryz.prog c = .ok (map d) f ∧
 CallG ctx b [int .i64 0] f (fun g h =>
 ∃ i, g = .returned (int .i64 i) ∧
 ∃ j, (Instr.mapUpdate 107 (map d) (int .i64 i) (int .i64 0)).run Tryz.prog h = .ok () j ∧
 ∀ k : KW, (∀ (l : Int) (m : OA) (n o : Nat) (p : World), (CondP (decide (l < (n : Int)))
 (∀ q, q = p.drew →
 NilC a (fun r =>
 ∃ s t u, q.cell? (r.add 1) = some (slice s t u) ∧
 NilC m (fun x =>
 (0 : Int) ≤ l ∧ l < (n : Int) ∧
 ∃ y, q.cell? (x.add (l.toNat * 1)) = some (int .i64 y) ∧
 NilC s (fun z =>
 (0 : Int) ≤ y ∧ y < (t : Int) ∧
 ∃ a1 b1 c1, q.cell? (z.add (y.toNat * 1)) = some (slice a1 b1 c1) ∧
 ∀ d1 : KW, (∀ (e1 : Int) (f1 : OA) (g1 h1 : Nat) (i1 : World), (CondP (decide (e1 < (b1 : Int)))
 (∀ j1 : KW, (∀ (k1 : OA) (l1 m1 : Nat) (n1 : World), (Ar .i64 (e1 + 1) (fun o1 =>
 d1 [int .i64 o1, slice k1 l1 m1] n1)) → j1 [slice k1 l1 m1] n1) →
 NilC a1 (fun p1 =>
 (0 : Int) ≤ e1 ∧ e1 < (b1 : Int) ∧
 ∃ q1, i1.cell? (p1.add (e1.toNat * 1)) = some (int .i64 q1) ∧
 CallG ctx b [int .i64 q1] i1 (fun r1 s1 =>
 ∃ t1, r1 = .returned (int .i64 t1) ∧
 ∃ u1 v1 x1, (Instr.lookup 107 (map d) (int .i64 t1) true).run Tryz.prog s1 = .ok (tuple #[int .i64 u1, bool v1]) x1 ∧
 CondP (!v1)
 (CallG ctx b [int .i64 q1] x1 (fun y1 z1 =>
 ∃ a2, y1 = .returned (int .i64 a2) ∧
 ∃ b2, (Instr.mapUpdate 107 (map d) (int .i64 a2) (int .i64 (g1 : Int))).run Tryz.prog z1 = .ok () b2 ∧
 ∀ c2, c2 = b2.alloc (.cells #[int .i64 q1] 3) →
 ∃ d2 e2 f2 g2, (Builtin.append_ #[28, 28] 28 #[slice f1 g1 h1, slice (some (nb b2)) 1 1]).run Tryz.prog c2 = .ok (slice d2 e2 f2) g2 ∧
 j1 [slice d2 e2 f2] g2))
 (j1 [slice f1 g1 h1] x1))))
 (Ar .i64 (l + 1) (fun h2 =>
 k [int .i64 h2, slice f1 g1 h1] i1))) → d1 [int .i64 e1, slice f1 g1 h1] i1) →
 d1 [int .i64 0, slice m n o] q))))
 (R (tuple #[slice m n o, map d]) p)) → k [int .i64 l, slice m n o] p) →
 k [int .i64 0, slice (some (nb w)) 1 1] j)
theorem vc83_calls (a : OA) (b : Value) (w : World) (R : RW) (hh : vc83 a b w R) : Calls Tryz.prog 83 #[pointer a, b] w fun e w' => ∃ v, e = .returned v ∧ R v w' :=
 calls_of_den ctxOk (fn := Tryz.f83) (by kernel_rfl) (body := bodyOf Tryz.f83) (by kernel_rfl) (by kernel_rfl) (by kernel_rfl) (Eq.mp (by kernel_rfl) hh)
def vc84 (a : Int) (b : OA) (w : World) (R : RW) : Prop :=
 NilC b (fun c =>
 ∃ d f g, w.cell? c = some (slice d f g) ∧
 NilC d (fun h =>
 (0 : Int) ≤ a ∧ a < (f : Int) ∧
 ∃ i, w.cell? (h.add (a.toNat * 1)) = some (int .i64 i) ∧
 R (int .i64 i) w))
theorem vc84_calls (a : Int) (b : OA) (w : World) (R : RW) (hh : vc84 a b w R) : Calls Tryz.prog 84 #[int .i64 a, pointer b] w fun e w' => ∃ v, e = .returned v ∧ R v w' :=
 calls_of_den ctxOk (fn := Tryz.f84) (by kernel_rfl) (body := bodyOf Tryz.f84) (by kernel_rfl) (by kernel_rfl) (by kernel_rfl) (Eq.mp (by kernel_rfl) hh)
def vc114 (a : OA) (w : World) (R : RW) : Prop :=
 ∀ b, b = w.alloc (.cells #[pointer a] 62) →
 ∃ c, b.cell? (nb w) = some (pointer c) ∧
 Calls Tryz.prog 43 #[pointer c] b (fun d f =>
 ∃ g, d = .returned (int .i64 g) ∧
 Calls Tryz.prog 161 #[int .i64 g, func (.func 162) #[] #[pointer (some (nb w))]] f (fun h i =>
 ∃ j k l m, h = .returned (tuple #[slice j k l, int .i64 m]) ∧
 ∀ n, n = i.alloc (.cells #[slice none 0 0] 28) →
 (slice j k l).oneCell' = true ∧ (∃ u, n.cell? (nb i) = some u) ∧ n.frozen? (nb i) = false ∧
 ∀ o, o = (n.setCell (nb i) (slice j k l)) →
 ∀ p : KW, (∀ (q : Int) (r : World), (∃ s, r.cell? (nb w) = some (pointer s) ∧
 Calls Tryz.prog 43 #[pointer s] r (fun t x =>
 ∃ y, t = .returned (int .i64 y) ∧
 Calls Tryz.prog 163 #[int .i64 y, func (.func 164) #[] #[pointer (some (nb i)), pointer (some (nb w))]] x (fun z a1 =>
 ∃ b1 c1 d1 e1, z = .returned (tuple #[slice b1 c1 d1, int .i64 e1]) ∧
 (slice b1 c1 d1).oneCell' = true ∧ (∃ u, a1.cell? (nb i) = some u) ∧ a1.frozen? (nb i) = false ∧
 ∀ f1, f1 = (a1.setCell (nb i) (slice b1 c1 d1)) →
 CondP (e1 == q)
 (∃ g1, f1.cell? (nb w) = some (pointer g1) ∧
 ∃ h1 i1 j1, f1.cell? (nb i) = some (slice h1 i1 j1) ∧
 NilC g1 (fun k1 =>
 (slice h1 i1 j1).oneCell' = true ∧ (∃ u, f1.cell? ((k1.add 3).add 3) = some u) ∧ f1.frozen? ((k1.add 3).add 3) = false ∧
 ∀ l1, l1 = (f1.setCell ((k1.add 3).add 3) (slice h1 i1 j1)) →
 R (tuple #[]) l1))
 (p [int .i64 e1] f1)))) → p [int .i64 q] r) →
 p [int .i64 m] o))
theorem vc114_calls (a : OA) (w : World) (R : RW) (hh : vc114 a w R) : Calls Tryz.prog 114 #[pointer a] w fun e w' => ∃ v, e = .returned v ∧ R v w' :=
 calls_of_den ctxOk (fn := Tryz.f114) (by kernel_rfl) (body := bodyOf Tryz.f114) (by kernel_rfl) (by kernel_rfl) (by kernel_rfl) (Eq.mp (by kernel_rfl) hh)
def vc115 (a b : Int) (w : World) (R : RW) : Prop :=
 Calls Tryz.prog 167 #[int .u64 a, int .u64 b] w (fun c d =>
 ∃ f g, c = .returned (tuple #[int .u64 f, int .u64 g]) ∧
 R (tuple #[int .u64 f, int .u64 g]) d)
theorem vc115_calls (a b : Int) (w : World) (R : RW) (hh : vc115 a b w R) : Calls Tryz.prog 115 #[int .u64 a, int .u64 b] w fun e w' => ∃ v, e = .returned v ∧ R v w' :=
 calls_of_den ctxOk (fn := Tryz.f115) (by kernel_rfl) (body := bodyOf Tryz.f115) (by kernel_rfl) (by kernel_rfl) (by kernel_rfl) (Eq.mp (by kernel_rfl) hh)
def vc161 (a : Int) (b : Value) (w : World) (R : RW) : Prop :=
 ∃ c d, (Instr.makeMap 299 none).run Tryz.prog w = .ok (map c) d ∧
 ∃ f g h i, (Instr.makeSlice 28 (int .i64 a) (int .i64 a)).run Tryz.prog d = .ok (slice f g h) i ∧
 ∀ j : KW, (∀ (k : Int) (l : World), (CondP (decide (k < a))
 (CallG ctx b [int .i64 k] l (fun m n =>
 ∃ o, m = .returned (bool o) ∧
 ∃ p q r, (Instr.lookup 299 (map c) (bool o) true).run Tryz.prog n = .ok (tuple #[int .i64 p, bool q]) r ∧
 ∀ s : KW, (∀ (t : Int) (x : World), (NilC f (fun y =>
 (0 : Int) ≤ k ∧ k < (g : Int) ∧
 (int .i64 t).oneCell' = true ∧ (∃ u, x.cell? (y.add (k.toNat * 1)) = some u) ∧ x.frozen? (y.add (k.toNat * 1)) = false ∧
 ∀ z, z = (x.setCell (y.add (k.toNat * 1)) (int .i64 t)) →
 Ar .i64 (k + 1) (fun a1 =>
 j [int .i64 a1] z))) → s [int .i64 t] x) →
 CondP (!q)
 (∃ b1 c1, (Builtin.len_ #[299] 3 #[map c]).run Tryz.prog r = .ok (int .i64 b1) c1 ∧
 ∃ d1, (Instr.mapUpdate 299 (map c) (bool o) (int .i64 b1)).run Tryz.prog c1 = .ok () d1 ∧
 s [int .i64 b1] d1)
 (s [int .i64 p] r)))
 (∃ e1 f1, (Builtin.len_ #[299] 3 #[map c]).run Tryz.prog l = .ok (int .i64 e1) f1 ∧
 R (tuple #[slice f g h, int .i64 e1]) f1)) → j [int .i64 k] l) →
 j [int .i64 0] i
theorem vc161_calls (a : Int) (b : Value) (w : World) (R : RW) (hh : vc161 a b w R) : Calls Tryz.prog 161 #[int .i64 a, b] w fun e w' => ∃ v, e = .returned v ∧ R v w' :=
 calls_of_den ctxOk (fn := Tryz.f161) (by kernel_rfl) (body := bodyOf Tryz.f161) (by kernel_rfl) (by kernel_rfl) (by kernel_rfl) (Eq.mp (by kernel_rfl) hh)
def vc162 (a : Int) (b : OA) (w : World) (R : RW) : Prop :=
 NilC b (fun c =>
 ∃ d, w.cell? c = some (pointer d) ∧
 NilC d (fun f =>
 ∃ g h i, w.cell? (f.add 2) = some (slice g h i) ∧
 NilC g (fun j =>
 (0 : Int) ≤ a ∧ a < (h : Int) ∧
 ∃ k, w.cell? (j.add (a.toNat * 1)) = some (bool k) ∧
 R (bool k) w)))
theorem vc162_calls (a : Int) (b : OA) (w : World) (R : RW) (hh : vc162 a b w R) : Calls Tryz.prog 162 #[int .i64 a, pointer b] w fun e w' => ∃ v, e = .returned v ∧ R v w' :=
 calls_of_den ctxOk (fn := Tryz.f162) (by kernel_rfl) (body := bodyOf Tryz.f162) (by kernel_rfl) (by kernel_rfl) (by kernel_rfl) (Eq.mp (by kernel_rfl) hh)
def vc163 (a : Int) (b : Value) (w : World) (R : RW) : Prop :=
 ∃ c d, (Instr.makeMap 177 none).run Tryz.prog w = .ok (map c) d ∧
 ∃ f g h i, (Instr.makeSlice 28 (int .i64 a) (int .i64 a)).run Tryz.prog d = .ok (slice f g h) i ∧
 ∀ j : KW, (∀ (k : Int) (l : World), (CondP (decide (k < a))
 (CallG ctx b [int .i64 k] l (fun m n =>
 ∃ o, m = .returned (string o) ∧
 ∃ p q r, (Instr.lookup 177 (map c) (string o) true).run Tryz.prog n = .ok (tuple #[int .i64 p, bool q]) r ∧
 ∀ s : KW, (∀ (t : Int) (x : World), (NilC f (fun y =>
 (0 : Int) ≤ k ∧ k < (g : Int) ∧
 (int .i64 t).oneCell' = true ∧ (∃ u, x.cell? (y.add (k.toNat * 1)) = some u) ∧ x.frozen? (y.add (k.toNat * 1)) = false ∧
 ∀ z, z = (x.setCell (y.add (k.toNat * 1)) (int .i64 t)) →
 Ar .i64 (k + 1) (fun a1 =>
 j [int .i64 a1] z))) → s [int .i64 t] x) →
 CondP (!q)
 (∃ b1 c1, (Builtin.len_ #[177] 3 #[map c]).run Tryz.prog r = .ok (int .i64 b1) c1 ∧
 ∃ d1, (Instr.mapUpdate 177 (map c) (string o) (int .i64 b1)).run Tryz.prog c1 = .ok () d1 ∧
 s [int .i64 b1] d1)
 (s [int .i64 p] r)))
 (∃ e1 f1, (Builtin.len_ #[177] 3 #[map c]).run Tryz.prog l = .ok (int .i64 e1) f1 ∧
 R (tuple #[slice f g h, int .i64 e1]) f1)) → j [int .i64 k] l) →
 j [int .i64 0] i
theorem vc163_calls (a : Int) (b : Value) (w : World) (R : RW) (hh : vc163 a b w R) : Calls Tryz.prog 163 #[int .i64 a, b] w fun e w' => ∃ v, e = .returned v ∧ R v w' :=
 calls_of_den ctxOk (fn := Tryz.f163) (by kernel_rfl) (body := bodyOf Tryz.f163) (by kernel_rfl) (by kernel_rfl) (by kernel_rfl) (Eq.mp (by kernel_rfl) hh)
def vc164 (a : Int) (b c : OA) (w : World) (R : RW) : Prop :=
 ∀ d, d = w.drew →
 NilC b (fun f =>
 ∃ g h i, d.cell? f = some (slice g h i) ∧
 NilC g (fun j =>
 (0 : Int) ≤ a ∧ a < (h : Int) ∧
 ∃ k, d.cell? (j.add (a.toNat * 1)) = some (int .i64 k) ∧
 NilC c (fun l =>
 ∃ m, d.cell? l = some (pointer m) ∧
 NilC m (fun n =>
 ∃ o p q, d.cell? (n.add 1) = some (slice o p q) ∧
 NilC o (fun r =>
 (0 : Int) ≤ a ∧ a < (p : Int) ∧
 ∃ s t u, d.cell? (r.add (a.toNat * 1)) = some (slice s t u) ∧
 NilC b (fun x =>
 ∃ y z a1, d.cell? x = some (slice y z a1) ∧
 Calls Tryz.prog 165 #[int .i64 k, slice s t u, slice y z a1] d (fun b1 c1 =>
 ∃ d1, b1 = .returned (string d1) ∧
 R (string d1) c1)))))))
theorem vc164_calls (a : Int) (b c : OA) (w : World) (R : RW) (hh : vc164 a b c w R) : Calls Tryz.prog 164 #[int .i64 a, pointer b, pointer c] w fun e w' => ∃ v, e = .returned v ∧ R v w' :=
 calls_of_den ctxOk (fn := Tryz.f164) (by kernel_rfl) (body := bodyOf Tryz.f164) (by kernel_rfl) (by kernel_rfl) (by kernel_rfl) (Eq.mp (by kernel_rfl) hh)
def vc165 (a : Int) (b : OA) (c d : Nat) (f : OA) (g h : Nat) (w : World) (R : RW) : Prop :=
 Ar .i64 ((2 : Int) * (c : Int)) (fun i =>
 Ar .i64 (i + 2) (fun j =>
 ∃ k l m n, (Instr.makeSlice 178 (int .i64 0) (int .i64 j)).run Tryz.prog w = .ok (slice k l m) n ∧
 (0 : Int) ≤ 8 ∧
 ∀ o, o = n.alloc (.cells #[int .u8 (IntKind.wrap .u8 a), int .u8 (IntKind.wrap .u8 (Int.fdiv a (2 ^ (min (8 : Int).toNat (IntKind.bits .i64)))))] 5) →
 ∃ p q r s, (Builtin.append_ #[178, 178] 178 #[slice k l m, slice (some (nb n)) 2 2]).run Tryz.prog o = .ok (slice p q r) s ∧
 ∀ t : KW, (∀ (u : Int) (x : OA) (y z : Nat) (a1 : World), (CondP (decide (u < (c : Int)))
 (NilC b (fun b1 =>
 (0 : Int) ≤ u ∧ u < (c : Int) ∧
 ∃ c1, a1.cell? (b1.add (u.toNat * 1)) = some (int .i64 c1) ∧
 ∀ d1, d1 = a1.drew →
 NilC f (fun e1 =>
 (0 : Int) ≤ c1 ∧ c1 < (g : Int) ∧
 ∃ f1, d1.cell? (e1.add (c1.toNat * 1)) = some (int .i64 f1) ∧
 NilC f (fun g1 =>
 (0 : Int) ≤ c1 ∧ c1 < (g : Int) ∧
 ∃ h1, d1.cell? (g1.add (c1.toNat * 1)) = some (int .i64 h1) ∧
 (0 : Int) ≤ 8 ∧
 ∀ i1, i1 = d1.alloc (.cells #[int .u8 (IntKind.wrap .u8 f1), int .u8 (IntKind.wrap .u8 (Int.fdiv h1 (2 ^ (min (8 : Int).toNat (IntKind.bits .i64)))))] 5) →
 ∃ j1 k1 l1 m1, (Builtin.append_ #[178, 178] 178 #[slice x y z, slice (some (nb d1)) 2 2]).run Tryz.prog i1 = .ok (slice j1 k1 l1) m1 ∧
 Ar .i64 (u + 1) (fun n1 =>
 t [int .i64 n1, slice j1 k1 l1] m1)))))
 (∃ o1 p1, (convert 178 9 (slice x y z)).run Tryz.prog a1 = .ok (string o1) p1 ∧
 R (string o1) p1)) → t [int .i64 u, slice x y z] a1) →
 t [int .i64 0, slice p q r] s))
theorem vc165_calls (a : Int) (b : OA) (c d : Nat) (f : OA) (g h : Nat) (w : World) (R : RW) (hh : vc165 a b c d f g h w R) : Calls Tryz.prog 165 #[int .i64 a, slice b c d, slice f g h] w fun e w' => ∃ v, e = .returned v ∧ R v w' :=
 calls_of_den ctxOk (fn := Tryz.f165) (by kernel_rfl) (body := bodyOf Tryz.f165) (by kernel_rfl) (by kernel_rfl) (by kernel_rfl) (Eq.mp (by kernel_rfl) hh)
def vc167 (a b : Int) (w : World) (R : RW) : Prop :=
 (0 : Int) ≤ 32 ∧
 (0 : Int) ≤ 32 ∧
 Ar .u64 ((IntKind.wrap .u64 ((BitVec.ofInt (IntKind.bits .u64) a &&& BitVec.ofInt (IntKind.bits .u64) 4294967295).toNat : Int) : Int) * (IntKind.wrap .u64 ((BitVec.ofInt (IntKind.bits .u64) b &&& BitVec.ofInt (IntKind.bits .u64) 4294967295).toNat : Int))) (fun c =>
 Ar .u64 ((Int.fdiv a (2 ^ (min (32 : Int).toNat (IntKind.bits .u64))) : Int) * (IntKind.wrap .u64 ((BitVec.ofInt (IntKind.bits .u64) b &&& BitVec.ofInt (IntKind.bits .u64) 4294967295).toNat : Int))) (fun d =>
 (0 : Int) ≤ 32 ∧
 Ar .u64 (d + (Int.fdiv c (2 ^ (min (32 : Int).toNat (IntKind.bits .u64))))) (fun f =>
 (0 : Int) ≤ 32 ∧
 Ar .u64 ((IntKind.wrap .u64 ((BitVec.ofInt (IntKind.bits .u64) a &&& BitVec.ofInt (IntKind.bits .u64) 4294967295).toNat : Int) : Int) * (Int.fdiv b (2 ^ (min (32 : Int).toNat (IntKind.bits .u64))))) (fun g =>
 Ar .u64 ((IntKind.wrap .u64 ((BitVec.ofInt (IntKind.bits .u64) f &&& BitVec.ofInt (IntKind.bits .u64) 4294967295).toNat : Int) : Int) + g) (fun h =>
 Ar .u64 ((Int.fdiv a (2 ^ (min (32 : Int).toNat (IntKind.bits .u64))) : Int) * (Int.fdiv b (2 ^ (min (32 : Int).toNat (IntKind.bits .u64))))) (fun i =>
 Ar .u64 (i + (Int.fdiv f (2 ^ (min (32 : Int).toNat (IntKind.bits .u64))))) (fun j =>
 (0 : Int) ≤ 32 ∧
 Ar .u64 (j + (Int.fdiv h (2 ^ (min (32 : Int).toNat (IntKind.bits .u64))))) (fun k =>
 Ar .u64 (a * b) (fun l =>
 R (tuple #[int .u64 k, int .u64 l]) w)))))))))
theorem vc167_calls (a b : Int) (w : World) (R : RW) (hh : vc167 a b w R) : Calls Tryz.prog 167 #[int .u64 a, int .u64 b] w fun e w' => ∃ v, e = .returned v ∧ R v w' :=
 calls_of_den ctxOk (fn := Tryz.f167) (by kernel_rfl) (body := bodyOf Tryz.f167) (by kernel_rfl) (by kernel_rfl) (by kernel_rfl) (Eq.mp (by kernel_rfl) hh)
end Go.Proofs.YtboemnagahmlkaaGreat.Eng

/- Where letters lead, texts, and groups, walked by the engine. -/
set_option linter.unusedVariables false
set_option linter.unusedSimpArgs false
set_option maxRecDepth 100000
namespace Go.Proofs.YtboemnagahmlkaaGreat.Eng
open Go Go.RowKit
/-! ### Lists that are made, and filled -/
theorem infoInt3 : ∃ i, Tryz.prog.info? tInt = some i ∧ i.zero = some (.int .i64 0) ∧ i.size = 1 ∧ i.bytes = 8 := by
  have h : (Tryz.prog.info? tInt).map (fun i => (i.zero, i.size, i.bytes)) = some (some (.int .i64 0), 1, 8) := by kernel_rfl
  obtain ⟨i, hi, he⟩ := Option.map_eq_some_iff.1 h
  simp only [Prod.mk.injEq] at he
  exact ⟨i, hi, he.1, he.2.1, he.2.2⟩
theorem run_makeInts (w : World) (n : Nat) (hn : n ≤ 1000000) : (Instr.makeSlice tInts (.int .i64 n) (.int .i64 n)).run Tryz.prog w = .ok (.slice (some (nb w)) n n) (w.alloc (.cells (Array.replicate n (.int .i64 0)) tInt)) := by
  obtain ⟨i, hi, hz, hs, hb⟩ := infoInt3
  have := Go.run_make (P := Tryz.prog) w tInts tInt i (.int .i64 0) (by kernel_rfl) hi hz .i64 .i64 (n : Int) (n : Int) (by omega) (Int.le_refl _) (by rw [hb]; omega) (by omega)
  rw [this]
  congr 3
  rw [hs]
  apply Array.ext
  · rw [size_madeCells]
    simp
  · intro j h1 h2
    simp only [madeCells, Array.getElem_map, Array.getElem_range, Array.getElem_replicate]
    show (#[Value.int .i64 0] : Array Value)[j % 1]! = _
    rw [Nat.mod_one]
    rfl
/-- A list of n things, of which the first i are there. -/
def part {α : Type} (z : α) (f : Nat → α) (n i : Nat) : List α := (List.range n).map fun j => if j < i then f j else z
theorem part_length {α : Type} (z : α) (f : Nat → α) (n i : Nat) : (part z f n i).length = n := by simp [part]
theorem part_get {α : Type} (z : α) (f : Nat → α) {n i j : Nat} (hj : j < n) : (part z f n i)[j]? = some (if j < i then f j else z) := by simp [part, List.getElem?_range hj]
theorem part_set {α : Type} (z : α) (f : Nat → α) {n i : Nat} (hi : i < n) : (part z f n i).set i (f i) = part z f n (i + 1) := by
  apply List.ext_getElem?
  intro j
  by_cases hj : j < n
  · rw [List.getElem?_set, part_get z f hj, part_get z f hj]
    by_cases e : i = j
    · subst e; simp [part_length, hi]
    · rw [if_neg e]
      by_cases h : j < i
      · rw [if_pos h, if_pos (by omega)]
      · rw [if_neg h, if_neg (by omega)]
  · rw [List.getElem?_eq_none_iff.2 (by rw [List.length_set, part_length]; omega), List.getElem?_eq_none_iff.2 (by rw [part_length]; omega)]
theorem part_none {α : Type} (z : α) (f : Nat → α) (n : Nat) : part z f n 0 = List.replicate n z := by
  apply List.ext_getElem?
  intro j
  by_cases hj : j < n
  · rw [part_get z f hj, List.getElem?_replicate, if_pos hj, if_neg (by omega)]
  · rw [List.getElem?_eq_none_iff.2 (by rw [part_length]; omega), List.getElem?_eq_none_iff.2 (by simp; omega)]
theorem part_all {α : Type} (z : α) (f : Nat → α) (n : Nat) : part z f n n = (List.range n).map f := by
  apply List.map_congr_left
  intro j hj
  rw [if_pos (List.mem_range.1 hj)]
theorem own_part {α : Type} {enc : α → List Value} (z : α) (zv : Value) (henc : enc z = [zv]) (e : TypeId) (f : Nat → α) (w : World) {n : Nat} (hn : n ≤ 1000000) : (w.alloc (.cells (Array.replicate n zv) e)).ownsRow w.heap.size e 1 (.slice (some (nb w)) n n) n ((part z f n 0).flatMap enc) := by
  have hf : (part z f n 0).flatMap enc = List.replicate n zv := by
    rw [part_none, List.flatMap_replicate, henc]
    simp
  rw [hf, show Array.replicate n zv = (List.replicate n zv).toArray by simp]
  exact own_made _ (by simp) hn (Nat.le_refl _)
/-! ### Where letters lead -/
theorem leads_spec (w : World) (n bad : Nat) (may : Value) (m : Nat → Bool) (hn : n ≤ 10000) (hm : ∀ k, k < n → ∀ w1, Below w.heap.size w w1 → CallG ctx may [.int .i64 (k : Int)] w1 (fun e w2 => e = .returned (.bool (m k)) ∧ Below w1.heap.size w1 w2)) :
    Calls Tryz.prog 78 #[.int .i64 (n : Int), .int .i64 (bad : Int), may] w fun e w' => ∃ l : Sl, e = .returned l.v ∧ l.n = n ∧ w'.ownsRow w.heap.size tInt 1 l.v l.n (((List.range n).map fun k => ((if m k then k + 1 else bad : Nat) : Int)).flatMap encInt) ∧ Below w.heap.size w w' := by
  refine calls_ret (vc78_calls n bad may w (fun u w' => ∃ l : Sl, u = l.v ∧ l.n = n ∧ w'.ownsRow w.heap.size tInt 1 l.v l.n (((List.range n).map fun k => ((if m k then k + 1 else bad : Nat) : Int)).flatMap encInt) ∧ Below w.heap.size w w') ?_) (by rintro v w' ⟨l, rfl, h⟩; exact ⟨l, rfl, h⟩)
  obtain ⟨f, hf⟩ : ∃ f : Nat → Int, f = fun k => ((if m k then k + 1 else bad : Nat) : Int) := ⟨_, rfl⟩
  refine ⟨some (nb w), n, n, _, run_makeInts w n (by omega), ?_⟩
  intro I hI
  have b0 := below_alloc w (.cells (Array.replicate n (.int .i64 0)) tInt)
  have o0 := own_part (enc := encInt) (0 : Int) (.int .i64 0) rfl tInt f w (n := n) (by omega)
  obtain ⟨l, hl⟩ : ∃ l : Sl, l = ⟨some (nb w), n, n⟩ := ⟨_, rfl⟩
  have key := climb2 (α := World) n (fun i q => q.ownsRow w.heap.size tInt 1 l.v l.n ((part 0 f n i).flatMap encInt) ∧ Below w.heap.size w q) (fun i q => I [.int .i64 (i : Int)] q) _ ⟨by subst hl; exact o0, b0⟩ ?_ ?_
  · exact key
  · rintro i hi ih q ⟨ho, hB⟩
    refine hI _ _ (CondP.yes (decide_eq_true (by omega)) ?_)
    intro J hJ
    have hln : l.n = n := by subst hl; rfl
    have hla : l.a = some (nb w) := by subst hl; rfl
    obtain ⟨u, fz, k⟩ := own_write (l := l) (enc := encInt) (sz := 1) (fun _ => rfl) (by decide) ho (by rw [part_length]; exact hln) hla (part_get 0 f hi) (k := 0) (by decide) (bad : Int) (.int .i64 (bad : Int)) rfl
    rw [add_zero] at u fz k
    refine NilC.mk _ rfl ⟨by omega, by omega, rfl, u, fz, ?_⟩
    intro w4 hw4
    obtain ⟨o4, _, _, b4⟩ := k w4 hw4
    have hB4 := b4 _ _ (Nat.le_refl _) hB
    refine (hm i hi w4 hB4).mono ?_
    rintro e w5 ⟨rfl, b5⟩
    have o5 := own_on o4 b5
    have hB5 := below_then hB4 b5
    refine ⟨_, rfl, CondP.mk (fun h => ?_) fun h => ?_⟩
    · have hget : ((part 0 f n i).set i (bad : Int))[i]? = some (bad : Int) := by rw [List.getElem?_set_self (by rw [part_length]; exact hi)]
      obtain ⟨u2, fz2, k2⟩ := own_write (l := l) (enc := encInt) (sz := 1) (fun _ => rfl) (by decide) o5 (by rw [List.length_set, part_length]; exact hln) hla hget (k := 0) (by decide) ((i + 1 : Nat) : Int) (.int .i64 ((i + 1 : Nat) : Int)) rfl
      rw [add_zero] at u2 fz2 k2
      refine Ar.nat (i + 1) rfl (by omega) (NilC.mk _ rfl ⟨by omega, by omega, rfl, u2, fz2, ?_⟩)
      intro w6 hw6
      obtain ⟨o6, _, _, b6⟩ := k2 w6 hw6
      refine hJ _ (Ar.nat (i + 1) rfl (by omega) (ih w6 ⟨?_, b6 _ _ (Nat.le_refl _) hB5⟩))
      rw [List.set_set] at o6
      have := part_set (0 : Int) f hi
      rw [show f i = ((i + 1 : Nat) : Int) by rw [hf]; show ((if m i then i + 1 else bad : Nat) : Int) = _; rw [if_pos h]] at this
      rw [this] at o6
      exact o6
    · refine hJ _ (Ar.nat (i + 1) rfl (by omega) (ih w5 ⟨?_, hB5⟩))
      have := part_set (0 : Int) f hi
      rw [show f i = (bad : Int) by rw [hf]; show ((if m i then i + 1 else bad : Nat) : Int) = _; rw [if_neg (by rw [h]; decide)]] at this
      rw [this] at o5
      exact o5
  · rintro q ⟨ho, hB⟩
    refine hI _ _ (CondP.no (decide_eq_false (by omega)) ⟨l, by subst hl; rfl, by subst hl; rfl, ?_, hB⟩)
    rw [part_all, hf] at ho
    exact ho
/-! ### Numbers as texts -/
theorem sh8 (x : Nat) : Int.fdiv (x : Int) (2 ^ (min (8 : Int).toNat (IntKind.bits .i64))) = ((x / 256 : Nat) : Int) := by
  rw [show (2 : Int) ^ (min (8 : Int).toNat (IntKind.bits .i64)) = ((256 : Nat) : Int) by decide, Int.fdiv_eq_ediv_of_nonneg _ (by omega)]
  rfl
theorem two_u8 (x : Nat) : (#[Value.int .u8 (IntKind.wrap .u8 (x : Int)), Value.int .u8 (IntKind.wrap .u8 (Int.fdiv (x : Int) (2 ^ (min (8 : Int).toNat (IntKind.bits .i64)))))] : Array Value) = ((num2 x).flatMap encU8).toArray := by
  rw [sh8, wrap_u8, wrap_u8]
  rfl
theorem run_make0 (w : World) (c : Nat) (hc : c ≤ 1000000) : ∃ w1, (Instr.makeSlice tBytes (.int .i64 0) (.int .i64 (c : Int))).run Tryz.prog w = .ok (.slice (some (nb w)) 0 c) w1 ∧ w1.ownsRow w.heap.size tU8 1 (.slice (some (nb w)) 0 c) 0 (([] : List UInt8).flatMap encU8) ∧ Below w.heap.size w w1 := by
  have h : (Tryz.prog.info? tU8).map (fun i => (i.zero, i.size, i.bytes)) = some (some (.int .u8 0), 1, 1) := by kernel_rfl
  obtain ⟨i, hi, he⟩ := Option.map_eq_some_iff.1 h
  simp only [Prod.mk.injEq] at he
  obtain ⟨hz, hs, hb⟩ := he
  have := Go.run_make (P := Tryz.prog) w tBytes tU8 i (.int .u8 0) (by kernel_rfl) hi hz .i64 .i64 0 (c : Int) (by omega) (by omega) (by rw [hb]; omega) (by omega)
  refine ⟨_, this, ?_, below_alloc _ _⟩
  refine ⟨rfl, .inr ⟨w.heap.size, c, _, rfl, Nat.le_refl _, alloc_new _ _, Nat.zero_le _, by unfold maxLen; omega, ?_, by simp⟩⟩
  rw [size_madeCells, hs]
  simp
theorem text17_spec (w : World) (x : Nat) (A A2 : Option Addr) (C C2 : Nat) (l of : List Nat) (hl : Rw encInt 1 w A (l.map fun i : Nat => (i : Int))) (ho : Rw encInt 1 w A2 (of.map fun i : Nat => (i : Int))) (hin : ∀ y ∈ l, y < of.length) (hn : l.length ≤ 10000) :
    Calls Tryz.prog 165 #[.int .i64 (x : Int), .slice A l.length C, .slice A2 of.length C2] w fun e w' => e = .returned (.string (str (num2 x ++ (l.map fun y => of.getD y 0).flatMap num2))) ∧ Below w.heap.size w w' := by
  refine calls_ret (vc165_calls x A l.length C A2 of.length C2 w (fun u w' => u = .string (str (num2 x ++ (l.map fun y => of.getD y 0).flatMap num2)) ∧ Below w.heap.size w w') ?_) (by rintro v w' ⟨rfl, h⟩; exact ⟨rfl, h⟩)
  obtain ⟨w1, hr1, o1, b1⟩ := run_make0 w (2 * l.length + 2) (by omega)
  refine Ar.nat (2 * l.length) (by omega) (by omega) (Ar.nat (2 * l.length + 2) (by omega) (by omega) ⟨_, _, _, w1, hr1, by decide, ?_⟩)
  intro w2 hw2
  rw [two_u8] at hw2
  have b2 : Below w1.heap.size w1 w2 := by subst hw2; exact below_alloc _ _
  have h2 : LsAt encU8 1 w2 ⟨some (nb w1), 2, 2⟩ (num2 x) := LsAt.of_own elU8 (B := 0) (by subst hw2; exact own_made (n := 2) _ rfl (by decide) (Nat.zero_le _))
  obtain ⟨f0, w3, f1, f2, f3, f4, _, _⟩ := elU8.spread (s := ⟨some (nb w), 0, 2 * l.length + 2⟩) (xs := []) (own_on o1 b2) h2 (below_then b1 b2).size (by show 0 ≤ _; omega) (by show 2 ≤ _; omega) (by decide)
  refine ⟨f0.a, f0.n, f0.c, w3, f2, ?_⟩
  intro I hI
  let g (y : Nat) : Nat := of.getD y 0
  have key := climb2 (α := Sl × World) l.length (fun i y => y.2.ownsRow w.heap.size tU8 1 y.1.v y.1.n ((num2 x ++ ((l.take i).map g).flatMap num2).flatMap encU8) ∧ y.1.n = 2 + 2 * i ∧ Below w.heap.size w y.2) (fun i y => I [.int .i64 (i : Int), y.1.v] y.2) (f0, w3) ⟨by simpa using f3, f1, f4 _ (below_then b1 b2)⟩ ?_ ?_
  · exact key
  · rintro i hi ih ⟨f, q⟩ ⟨hown, hfn, hB⟩
    change q.ownsRow w.heap.size tU8 1 f.v f.n _ at hown
    change f.n = 2 + 2 * i at hfn
    change Below w.heap.size w q at hB
    obtain ⟨p, hp, c0⟩ := cell_rw (hl.on hB) (show i < (l.map fun i : Nat => (i : Int)).length by simpa using hi) (v := .int .i64 ((l[i] : Nat) : Int)) (by simp [encInt])
    have hlt := hin _ (List.getElem_mem hi)
    refine hI _ f.a f.n f.c q (CondP.yes (decide_eq_true (by omega)) (NilC.mk p hp ⟨by omega, by omega, _, c0, ?_⟩))
    intro q1 hq1
    have bq1 : Below q.heap.size q q1 := by subst hq1; exact drew_on q
    have hB1 := below_then hB bq1
    obtain ⟨p2, hp2, c2⟩ := cell_rw (ho.on hB1) (show l[i] < (of.map fun i : Nat => (i : Int)).length by simpa using hlt) (v := .int .i64 ((of[l[i]] : Nat) : Int)) (by simp [encInt])
    refine NilC.mk p2 hp2 ⟨by omega, by omega, _, c2, NilC.mk p2 hp2 ⟨by omega, by omega, _, c2, by decide, ?_⟩⟩
    intro q2 hq2
    rw [two_u8] at hq2
    have bq2 : Below q1.heap.size q1 q2 := by subst hq2; exact below_alloc _ _
    have h3 : LsAt encU8 1 q2 ⟨some (nb q1), 2, 2⟩ (num2 of[l[i]]) := LsAt.of_own elU8 (B := 0) (by subst hq2; exact own_made (n := 2) _ rfl (by decide) (Nat.zero_le _))
    obtain ⟨f', q3, e1, e2, e3, e4, _, _⟩ := elU8.spread (own_on (own_on hown bq1) bq2) h3 (below_then hB1 bq2).size (by omega) (by show 2 ≤ _; omega) (by decide)
    refine ⟨f'.a, f'.n, f'.c, q3, e2, Ar.nat (i + 1) rfl (by omega) (ih (f', q3) ⟨?_, ?_, e4 _ (below_then hB1 bq2)⟩)⟩
    · have e : num2 x ++ ((l.take (i + 1)).map g).flatMap num2 = (num2 x ++ ((l.take i).map g).flatMap num2) ++ num2 of[l[i]] := by
        have hg : g l[i] = of[l[i]] := getD_of hlt 0
        rw [List.take_add_one, List.getElem?_eq_getElem hi, List.map_append, List.flatMap_append, List.append_assoc]
        simp [hg]
      show q3.ownsRow w.heap.size tU8 1 f'.v f'.n ((num2 x ++ ((l.take (i + 1)).map g).flatMap num2).flatMap encU8)
      rw [e]
      exact e3
    · show f'.n = 2 + 2 * (i + 1)
      change f'.n = f.n + 2 at e1
      omega
  · rintro ⟨f, q⟩ ⟨hown, hfn, hB⟩
    change q.ownsRow w.heap.size tU8 1 f.v f.n _ at hown
    rw [List.take_length] at hown
    exact hI _ f.a f.n f.c q (CondP.no (decide_eq_false (by omega)) ⟨_, q, run_str_own (P := Tryz.prog) undBytes undU8 undStr (by rw [← u8_cells]; exact hown), rfl, hB⟩)
end Go.Proofs.YtboemnagahmlkaaGreat.Eng
/- vc161 vc163 vc162 vc164 vc114 vc76 vc40 vc83 vc84 vc85 vc46 vc47 vc43 vc75 vc44 vc45 vc59 vc60 vc77 vc79 vc80 vc81 vc42 vc82 vc115 vc167 vc39 vc38 vc7 vc8 vc9 vc12 vc13 -/
