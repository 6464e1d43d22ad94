/- Classes of bytes: the table, walked by the engine. -/
import Derived.Test.YtpklkijdlnioaaaGreatZhMk
set_option linter.unusedVariables false
set_option linter.unusedSimpArgs false
set_option maxRecDepth 100000
namespace Go.Proofs.YtpklkijdlnioaaaGreat.Eng
open Go Go.RowKit
/-- A byte's class: that of the last span that holds it. -/
def clsAt (cls : List (Int × Int × Int)) (b : Int) : Int := cls.foldl (fun n c => if c.1 ≤ b ∧ b ≤ c.2.1 then c.2.2 else n) 0
theorem clsAt_snoc (cls : List (Int × Int × Int)) (c : Int × Int × Int) (b : Int) : clsAt (cls ++ [c]) b = if c.1 ≤ b ∧ b ≤ c.2.1 then c.2.2 else clsAt cls b := by simp [clsAt]
theorem clsAt_range {cls : List (Int × Int × Int)} (h : ∀ c ∈ cls, classOk c = true) (b : Int) : 0 ≤ clsAt cls b ∧ clsAt cls b < 16 := by
  have : ∀ (l : List (Int × Int × Int)) (n : Int), (∀ c ∈ l, classOk c = true) → 0 ≤ n ∧ n < 16 → 0 ≤ l.foldl (fun n c => if c.1 ≤ b ∧ b ≤ c.2.1 then c.2.2 else n) n ∧ l.foldl (fun n c => if c.1 ≤ b ∧ b ≤ c.2.1 then c.2.2 else n) n < 16 := by
    intro l
    induction l with
    | nil => intro n _ h; exact h
    | cons c l ih =>
      intro n hl hn
      refine ih _ (fun c hc => hl c (by simp [hc])) ?_
      have hc := of_decide_eq_true (by simpa [classOk] using hl c (by simp) : decide _ = true)
      show 0 ≤ (if c.1 ≤ b ∧ b ≤ c.2.1 then c.2.2 else n) ∧ (if c.1 ≤ b ∧ b ≤ c.2.1 then c.2.2 else n) < 16
      split
      · omega
      · exact hn
  exact this cls 0 h (by omega)
def cutB (cls : List (Int × Int × Int)) (js : List (Int × Int)) (a b : Int) : Bool := decide (clsAt cls a ≠ clsAt cls b ∧ (clsAt cls a, clsAt cls b) ∉ js)
abbrev tBound : TypeId := 229
structure BdC (c : Array Value) (f : Nat → Int) (g : Nat → Nat → Bool) : Prop where
  size : c.size = 512
  cls : ∀ b, b < 256 → c[b]? = some (.int .i64 (f b))
  join : ∀ x y, x < 16 → y < 16 → c[256 + x * 16 + y]? = some (.bool (g x y))
def joinAt (js : List (Int × Int)) (x y : Nat) : Bool := decide (((x : Int), (y : Int)) ∈ js)
def BdIs (w : World) (p : Nat) (cls : List (Int × Int × Int)) (js : List (Int × Int)) : Prop := ∃ c, w.heap[p]? = some (.cells c tBound (0, 0)) ∧ BdC c (fun b => clsAt cls b) (joinAt js)
theorem BdIs.on {w w' : World} {p : Nat} {cls : List (Int × Int × Int)} {js : List (Int × Int)} (h : BdIs w p cls js) (hb : Below w.heap.size w w') : BdIs w' p cls js := by
  obtain ⟨c, h1, h2⟩ := h
  exact ⟨c, held_on hb h1, h2⟩
theorem BdIs.lt {w : World} {p : Nat} {cls : List (Int × Int × Int)} {js : List (Int × Int)} (h : BdIs w p cls js) : p < w.heap.size := by
  obtain ⟨c, h1, _⟩ := h
  exact (Array.getElem?_eq_some_iff.1 h1).1
theorem boundClass_spec (n : Int) (w : World) : Calls Tryz.prog 156 #[.int .i64 n] w fun e w' => e = .returned (.bool (decide (0 ≤ n ∧ n ≤ 15))) ∧ w' = w := by
  refine calls_ret (vc156_calls n w (fun v w' => v = .bool (decide (0 ≤ n ∧ n ≤ 15)) ∧ w' = w) ?_) (by rintro v w' ⟨rfl, h⟩; exact ⟨rfl, h⟩)
  refine CondP.mk (fun h => ?_) fun h => ?_
  · have h := of_decide_eq_true h
    refine ⟨?_, rfl⟩
    congr 1
    exact decide_eq_decide.2 (by omega)
  · have h := of_decide_eq_false h
    refine ⟨?_, rfl⟩
    rw [decide_eq_false (by omega)]
theorem boundSpan_spec (c : Int × Int × Int) (w : World) : Calls Tryz.prog 155 #[.agg #[.int .i64 c.1, .int .i64 c.2.1, .int .i64 c.2.2]] w fun e w' => e = .returned (.bool (classOk c)) ∧ Below w.heap.size w w' := by
  refine calls_ret (vc155_calls c.1 c.2.1 c.2.2 w (fun v w' => v = .bool (classOk c) ∧ Below w.heap.size w w') ?_) (by rintro v w' ⟨rfl, h⟩; exact ⟨rfl, h⟩)
  intro w1 hw1
  have hb : Below w.heap.size w w1 := by subst hw1; exact below_alloc _ _
  have hc : ∀ j, w1.cell? ((nb w).add j) = (#[Value.int .i64 c.1, Value.int .i64 c.2.1, Value.int .i64 c.2.2] : Array Value)[j]? := by
    intro j
    subst hw1
    rw [add_lit, Nat.zero_add, cell_new]
  have off : classOk c = false → (Value.bool false = .bool (classOk c) ∧ Below w.heap.size w w1) := fun h => ⟨by rw [h], hb⟩
  refine ⟨c.1, hc 0, CondP.mk (fun h1 => ?_) fun h1 => off ?_⟩
  · have h1 := of_decide_eq_true h1
    refine ⟨c.1, hc 0, c.2.1, hc 1, CondP.mk (fun h2 => ?_) fun h2 => off ?_⟩
    · have h2 := of_decide_eq_true h2
      refine ⟨c.2.1, hc 1, CondP.mk (fun h3 => ?_) fun h3 => off ?_⟩
      · have h3 := of_decide_eq_true h3
        refine ⟨c.2.2, hc 2, ?_⟩
        refine (boundClass_spec c.2.2 w1).mono ?_
        rintro e w2 ⟨rfl, hw⟩
        subst hw
        refine ⟨_, rfl, ?_, hb⟩
        congr 1
        unfold classOk
        exact decide_eq_decide.2 (by omega)
      · have h3 := of_decide_eq_false h3
        unfold classOk
        exact decide_eq_false (by omega)
    · have h2 := of_decide_eq_false h2
      unfold classOk
      exact decide_eq_false (by omega)
  · have h1 := of_decide_eq_false h1
    unfold classOk
    exact decide_eq_false (by omega)
theorem ones_class (a b c : Int) : ∀ v ∈ [Value.int .i64 a, Value.int .i64 b, Value.int .i64 c], v.oneCell' = true := by
  intro v hv
  simp only [List.mem_cons, List.not_mem_nil, or_false] at hv
  rcases hv with rfl | rfl | rfl <;> rfl
theorem BdC.setCls {c : Array Value} {f : Nat → Int} {g : Nat → Nat → Bool} (h : BdC c f g) {b : Nat} (hb : b < 256) (n : Int) : BdC (c.setIfInBounds b (.int .i64 n)) (fun i => if i = b then n else f i) g := by
  refine ⟨by simp [h.size], fun i hi => ?_, fun x y hx hy => ?_⟩
  · by_cases he : i = b
    · subst he
      rw [Array.getElem?_setIfInBounds_self_of_lt (by have := h.size; omega), if_pos rfl]
    · rw [Array.getElem?_setIfInBounds_ne (fun e => he e.symm), if_neg he, h.cls i hi]
  · rw [Array.getElem?_setIfInBounds_ne (by omega)]
    exact h.join x y hx hy
theorem BdC.setJoin {c : Array Value} {f : Nat → Int} {g : Nat → Nat → Bool} (h : BdC c f g) {x y : Nat} (hx : x < 16) (hy : y < 16) : BdC (c.setIfInBounds (256 + x * 16 + y) (.bool true)) f (fun a b => g a b || decide (a = x ∧ b = y)) := by
  refine ⟨by simp [h.size], fun i hi => ?_, fun a b ha hb => ?_⟩
  · rw [Array.getElem?_setIfInBounds_ne (by omega)]
    exact h.cls i hi
  · by_cases he : a = x ∧ b = y
    · obtain ⟨rfl, rfl⟩ := he
      rw [Array.getElem?_setIfInBounds_self_of_lt (by have := h.size; omega)]
      simp
    · rw [Array.getElem?_setIfInBounds_ne (by omega), h.join a b ha hb, decide_eq_false he, Bool.or_false]
theorem BdC.congr {c : Array Value} {f f' : Nat → Int} {g g' : Nat → Nat → Bool} (h : BdC c f g) (hf : ∀ b, b < 256 → f b = f' b) (hg : ∀ x y, x < 16 → y < 16 → g x y = g' x y) : BdC c f' g' :=
  ⟨h.size, fun b hb => by rw [h.cls b hb, hf b hb], fun x y hx hy => by rw [h.join x y hx hy, hg x y hx hy]⟩
theorem boundNew_spec (w : World) (a1 a2 : Option Addr) (c1 c2 : Nat) (cls : List (Int × Int × Int)) (js : List (Int × Int)) (hr1 : Rw encClass 3 w a1 cls) (hr2 : Rw encPair 2 w a2 js) (hl1 : cls.length ≤ 1000000) (hl2 : js.length ≤ 1000000)
    (ok1 : ∀ c ∈ cls, classOk c = true) (ok2 : ∀ j ∈ js, joinOk j = true) :
    Calls Tryz.prog 119 #[.slice a1 cls.length c1, .slice a2 js.length c2] w fun e w' => ∃ p, e = .returned (.tuple #[.pointer (some ⟨p, 0, none⟩), .int .i64 0]) ∧ BdIs w' p cls js ∧ Below w.heap.size w w' ∧ w.heap.size ≤ p := by
  refine calls_ret (vc119_calls a1 cls.length c1 a2 js.length c2 w (fun v w' => ∃ p, v = .tuple #[.pointer (some ⟨p, 0, none⟩), .int .i64 0] ∧ BdIs w' p cls js ∧ Below w.heap.size w w' ∧ w.heap.size ≤ p) ?_) (by rintro v w' ⟨p, rfl, h⟩; exact ⟨p, rfl, h⟩)
  intro w1 hw1
  have hb1 : Below w.heap.size w w1 := by subst hw1; exact below_alloc _ _
  have h1 : ∃ c, w1.heap[w.heap.size]? = some (.cells c tBound (0, 0)) ∧ BdC c (fun b => clsAt (cls.take 0) b) (fun _ _ => false) := by
    subst hw1
    refine ⟨_, alloc_new _ _, by simp, fun b hb => ?_, fun x y hx hy => ?_⟩
    · rw [List.getElem?_toArray, List.getElem?_append_left (by rw [List.length_replicate]; exact hb), List.getElem?_replicate, if_pos hb]
      rfl
    · rw [List.getElem?_toArray, List.getElem?_append_right (by simp; omega), List.getElem?_replicate, if_pos (by simp; omega)]
  intro I hI
  have key := climb2 (α := Int × Option Addr × World) cls.length (fun i x => (∃ c, x.2.2.heap[w.heap.size]? = some (.cells c tBound (0, 0)) ∧ BdC c (fun b => clsAt (cls.take i) b) (fun _ _ => false)) ∧ Below w.heap.size w x.2.2) (fun i x => I [.int .i64 (i : Int), .int .i64 x.1, .pointer x.2.1] x.2.2) (0, none, w1) ⟨h1, hb1⟩ ?_ ?_
  · exact key
  · rintro i hi ih ⟨y5, y4, w2⟩ ⟨⟨c, hblk, hc⟩, hB⟩
    change w2.heap[w.heap.size]? = _ at hblk
    change Below w.heap.size w w2 at hB
    obtain ⟨q, hq, _, hcx⟩ := (hr1.on hB) i _ (List.getElem?_eq_getElem hi)
    have q0 := hcx 0 _ rfl
    rw [add_zero] at q0
    refine hI _ _ _ _ (CondP.yes (by simp; omega) (NilC.mk q hq ⟨by omega, by omega, _, _, _, ⟨q0, hcx 1 _ rfl, hcx 2 _ rfl, trivial⟩, ?_⟩))
    intro w3 hw3
    refine storeP_new [.int .i64 0, .int .i64 0, .int .i64 0] [.int .i64 cls[i].1, .int .i64 cls[i].2.1, .int .i64 cls[i].2.2] rfl (ones_class _ _ _) w3 hw3 ?_
    intro w4 h4 hz4 hB4
    refine ⟨_, _, _, ⟨by have := ptr_add0 _ _ h4 0; rw [add_zero] at this; exact this, ptr_add0 _ _ h4 1, ptr_add0 _ _ h4 2, trivial⟩, ?_⟩
    refine (boundSpan_spec cls[i] w4).mono ?_
    rintro e w5 ⟨rfl, hB5⟩
    have hok := ok1 cls[i] (List.getElem_mem hi)
    have hr := of_decide_eq_true (by simpa [classOk] using hok : decide _ = true)
    have h5 := held_on hB5 h4
    have hB52 : Below w2.heap.size w2 w5 := below_then hB4 hB5
    have hblk5 := held_on hB52 hblk
    have hne : w2.heap.size ≠ w.heap.size := by have := (Array.getElem?_eq_some_iff.1 hblk).1; omega
    refine ⟨_, rfl, CondP.no (by rw [hok]; rfl) ⟨_, ptr_add0 _ _ h5 0, ?_⟩⟩
    obtain ⟨lo, hlo⟩ : ∃ lo : Nat, cls[i].1 = (lo : Int) := ⟨cls[i].1.toNat, by omega⟩
    obtain ⟨hi', hhi⟩ : ∃ hi' : Nat, cls[i].2.1 = (hi' : Int) := ⟨cls[i].2.1.toNat, by omega⟩
    rw [hlo, hhi] at hr
    intro I5 hI5
    rw [hlo]
    have key5 := climb2 (α := World) (hi' + 1 - lo) (fun k x => (∃ c, x.heap[w.heap.size]? = some (.cells c tBound (0, 0)) ∧ BdC c (fun b => if lo ≤ b ∧ b < lo + k then cls[i].2.2 else clsAt (cls.take i) b) (fun _ _ => false)) ∧ Below w.heap.size w x ∧ x.heap[w2.heap.size]? = w5.heap[w2.heap.size]?) (fun k x => I5 [.int .i64 ((lo + k : Nat) : Int)] x) w5 ⟨⟨c, hblk5, hc.congr (fun b _ => by rw [if_neg (by omega)]) (fun _ _ _ _ => rfl)⟩, hB.trans (hB52.mono hB.size), rfl⟩ ?_ ?_
    · exact key5
    · rintro k hk ih5 w6 ⟨⟨c6, hblk6, hc6⟩, hB6, hs6⟩
      have hl6 : w6.heap[w2.heap.size]? = some (.cells #[Value.int .i64 cls[i].1, Value.int .i64 cls[i].2.1, Value.int .i64 cls[i].2.2] tCl (0, 0)) := by rw [hs6]; exact h5
      refine hI5 _ _ ⟨_, ptr_add0 _ _ hl6 1, CondP.yes (by rw [hhi]; simp; omega) ?_⟩
      intro w7 hw7
      have hblk7 : w7.heap[w.heap.size]? = some (.cells c6 tBound (0, 0)) := by subst hw7; exact hblk6
      have hl7 : w7.heap[w2.heap.size]? = some (.cells #[Value.int .i64 cls[i].1, Value.int .i64 cls[i].2.1, Value.int .i64 cls[i].2.2] tCl (0, 0)) := by subst hw7; exact hl6
      have hB7 : Below w.heap.size w w7 := by subst hw7; exact hB6.drew
      have hadr : ((nb w).add 0).add (((lo + k : Nat) : Int).toNat * 1) = (⟨w.heap.size, 0, none⟩ : Addr).add (lo + k) := by
        rw [add_lit, add_lit, add_lit]
        simp
      rw [hadr]
      refine ⟨_, ptr_add0 _ _ hl7 2, by omega, by omega, rfl, ⟨_, by rw [ptr_add0 _ _ hblk7]; exact hc6.cls (lo + k) (by omega)⟩, frozen_put hblk7, ?_⟩
      intro w8 hw8
      refine Ar.ok64 (by omega) (by omega) ?_
      rw [show ((lo + k : Nat) : Int) + 1 = ((lo + (k + 1) : Nat) : Int) by omega]
      refine ih5 w8 ⟨⟨_, by subst hw8; exact heap_put hblk7 _, (hc6.setCls (show lo + k < 256 by omega) cls[i].2.2).congr (fun b hb => ?_) (fun _ _ _ _ => rfl)⟩, by subst hw8; exact below_put hB7 (Nat.le_refl _) _, ?_⟩
      · by_cases he : b = lo + k
        · subst he
          rw [if_pos rfl, if_pos (by omega)]
        · rw [if_neg he]
          by_cases h2 : lo ≤ b ∧ b < lo + k
          · rw [if_pos h2, if_pos (by omega)]
          · rw [if_neg h2, if_neg (by omega)]
      · subst hw8
        rw [heap_setCell_ne (by rw [add_block]; exact hne), hl7, h5]
    · rintro w6 ⟨⟨c6, hblk6, hc6⟩, hB6, hs6⟩
      have hl6 : w6.heap[w2.heap.size]? = some (.cells #[Value.int .i64 cls[i].1, Value.int .i64 cls[i].2.1, Value.int .i64 cls[i].2.2] tCl (0, 0)) := by rw [hs6]; exact h5
      refine hI5 _ _ ⟨_, ptr_add0 _ _ hl6 1, CondP.no (by rw [hhi]; simp; omega) ?_⟩
      refine Ar.ok64 (by omega) (by omega) (ih (y5, y4, w6) ⟨⟨c6, hblk6, hc6.congr (fun b hb => ?_) (fun _ _ _ _ => rfl)⟩, hB6⟩)
      have htake : cls.take (i + 1) = cls.take i ++ [cls[i]] := by rw [List.take_add_one, List.getElem?_eq_getElem hi]; rfl
      rw [htake, clsAt_snoc, hlo, hhi]
      by_cases h2 : lo ≤ b ∧ b < lo + (hi' + 1 - lo)
      · rw [if_pos h2, if_pos (by omega)]
      · rw [if_neg h2, if_neg (by omega)]
  · rintro ⟨y5, y4, w2⟩ ⟨⟨c, hblk, hc⟩, hB⟩
    change w2.heap[w.heap.size]? = _ at hblk
    change Below w.heap.size w w2 at hB
    rw [List.take_length] at hc
    refine hI _ _ _ _ (CondP.no (by simp) ?_)
    intro I11 hI11
    have key := climb2 (α := Int × Option Addr × World) js.length (fun i x => (∃ c, x.2.2.heap[w.heap.size]? = some (.cells c tBound (0, 0)) ∧ BdC c (fun b => clsAt cls b) (joinAt (js.take i))) ∧ Below w.heap.size w x.2.2) (fun i x => I11 [.int .i64 (i : Int), .int .i64 x.1, .pointer x.2.1] x.2.2) (y5, y4, w2) ⟨⟨c, hblk, hc.congr (fun _ _ => rfl) (fun x y _ _ => by simp [joinAt])⟩, hB⟩ ?_ ?_
    · exact key
    · rintro i hi ih ⟨y5, y4, w9⟩ ⟨⟨c, hblk, hc⟩, hB⟩
      change w9.heap[w.heap.size]? = _ at hblk
      change Below w.heap.size w w9 at hB
      obtain ⟨q, hq, _, hcx⟩ := (hr2.on hB) i _ (List.getElem?_eq_getElem hi)
      have q0 := hcx 0 _ rfl
      rw [add_zero] at q0
      refine hI11 _ _ _ _ (CondP.yes (by simp; omega) (NilC.mk q hq ⟨by omega, by omega, _, _, ⟨q0, hcx 1 _ rfl, trivial⟩, ?_⟩))
      intro w10 hw10
      refine storeP_new [.int .i64 0, .int .i64 0] [.int .i64 js[i].1, .int .i64 js[i].2] rfl (ones_pair _ _) w10 hw10 ?_
      intro w11 h11 hz11 hB11
      have hok := ok2 js[i] (List.getElem_mem hi)
      have hr := of_decide_eq_true (by simpa [joinOk] using hok : decide _ = true)
      refine ⟨_, ptr_add0 _ _ h11 0, (boundClass_spec _ w11).mono ?_⟩
      rintro e w12 ⟨rfl, hw⟩
      subst hw
      refine ⟨_, rfl, CondP.no (by rw [decide_eq_true (by omega)]; rfl) ⟨_, ptr_add0 _ _ h11 1, (boundClass_spec _ w12).mono ?_⟩⟩
      rintro e w13 ⟨rfl, hw⟩
      subst hw
      refine ⟨_, rfl, CondP.no (by rw [decide_eq_true (by omega)]; rfl) ?_⟩
      intro w14 hw14
      have hh14 : w14.heap = w13.heap := by subst hw14; rfl
      have hl14 : w14.heap[w9.heap.size]? = some (.cells #[Value.int .i64 js[i].1, Value.int .i64 js[i].2] tJn (0, 0)) := by rw [hh14]; exact h11
      have hblk14 : w14.heap[w.heap.size]? = some (.cells c tBound (0, 0)) := by rw [hh14]; exact held_on hB11 hblk
      have hB14 : Below w.heap.size w w14 := by subst hw14; exact (hB.trans (hB11.mono hB.size)).drew
      obtain ⟨x, hx⟩ : ∃ x : Nat, js[i].1 = (x : Int) := ⟨js[i].1.toNat, by omega⟩
      obtain ⟨y, hy⟩ : ∃ y : Nat, js[i].2 = (y : Int) := ⟨js[i].2.toNat, by omega⟩
      have hadr : (((nb w).add 256).add ((js[i].1).toNat * 16)).add ((js[i].2).toNat * 1) = (⟨w.heap.size, 0, none⟩ : Addr).add (256 + x * 16 + y) := by
        rw [add_lit, add_lit, add_lit, add_lit, hx, hy]
        simp
      refine ⟨_, ptr_add0 _ _ hl14 0, _, ptr_add0 _ _ hl14 1, by omega, by omega, by omega, by omega, ?_⟩
      rw [hadr]
      refine ⟨rfl, ⟨_, by rw [ptr_add0 _ _ hblk14]; exact hc.join x y (by omega) (by omega)⟩, frozen_put hblk14, ?_⟩
      intro w15 hw15
      refine Ar.ok64 (by omega) (by omega) (ih (y5, y4, w15) ⟨⟨_, by subst hw15; exact heap_put hblk14 _, (hc.setJoin (show x < 16 by omega) (show y < 16 by omega)).congr (fun _ _ => rfl) (fun a b ha hb => ?_)⟩, by subst hw15; exact below_put hB14 (Nat.le_refl _) _⟩)
      have htake : js.take (i + 1) = js.take i ++ [js[i]] := by rw [List.take_add_one, List.getElem?_eq_getElem hi]; rfl
      rw [htake]
      have : js[i] = ((x : Int), (y : Int)) := Prod.ext hx hy
      rw [this]
      unfold joinAt
      rw [Bool.eq_iff_iff]
      simp only [Bool.or_eq_true, decide_eq_true_eq, List.mem_append, List.mem_singleton, Prod.mk.injEq]
      have : ((a : Int) = x ∧ (b : Int) = y) ↔ (a = x ∧ b = y) := by omega
      rw [this]
    · rintro ⟨y5, y4, w9⟩ ⟨⟨c, hblk, hc⟩, hB⟩
      rw [List.take_length] at hc
      exact hI11 _ _ _ _ (CondP.no (by simp) ⟨w.heap.size, rfl, ⟨c, hblk, hc⟩, hB, Nat.le_refl _⟩)
theorem cuts_spec (w : World) (p : Nat) (cls : List (Int × Int × Int)) (js : List (Int × Int)) (h : BdIs w p cls js) (ok1 : ∀ c ∈ cls, classOk c = true) (a b : Int) (ha : 0 ≤ a ∧ a < 256) (hb : 0 ≤ b ∧ b < 256) :
    Calls Tryz.prog 182 #[.pointer (some ⟨p, 0, none⟩), .int .u8 a, .int .u8 b] w fun e w' => e = .returned (.bool (cutB cls js a b)) ∧ Below w.heap.size w w' := by
  refine calls_ret (vc182_calls (some ⟨p, 0, none⟩) a b w (fun v w' => v = .bool (cutB cls js a b) ∧ Below w.heap.size w w') ?_) (by rintro v w' ⟨rfl, h⟩; exact ⟨rfl, h⟩)
  refine CondP.no rfl ?_
  intro w1 hw1
  have hB : Below w.heap.size w w1 := by subst hw1; exact (Below.refl _ _).drew
  obtain ⟨c, hblk, hc⟩ := h.on hB
  obtain ⟨a, rfl⟩ : ∃ n : Nat, a = n := ⟨a.toNat, by omega⟩
  obtain ⟨b, rfl⟩ : ∃ n : Nat, b = n := ⟨b.toNat, by omega⟩
  have adr : ∀ n : Nat, ((⟨p, 0, none⟩ : Addr).add 0).add ((n : Int).toNat * 1) = (⟨p, 0, none⟩ : Addr).add n := fun n => by
    rw [add_lit, add_lit, add_lit]
    simp
  have ra := clsAt_range ok1 a
  have rb := clsAt_range ok1 b
  refine NilC.mk _ rfl ⟨ha.1, ha.2, _, by rw [adr, ptr_add0 p _ hblk]; exact hc.cls a (by omega), NilC.mk _ rfl ⟨hb.1, hb.2, _, by rw [adr, ptr_add0 p _ hblk]; exact hc.cls b (by omega), CondP.mk (fun h0 => ?_) fun h0 => ?_⟩⟩
  · have h0 : clsAt cls a ≠ clsAt cls b := by simpa using h0
    obtain ⟨x, hx⟩ : ∃ x : Nat, clsAt cls a = (x : Int) := ⟨(clsAt cls a).toNat, by omega⟩
    obtain ⟨y, hy⟩ : ∃ y : Nat, clsAt cls b = (y : Int) := ⟨(clsAt cls b).toNat, by omega⟩
    have hadr : (((⟨p, 0, none⟩ : Addr).add 256).add ((clsAt cls a).toNat * 16)).add ((clsAt cls b).toNat * 1) = (⟨p, 0, none⟩ : Addr).add (256 + x * 16 + y) := by
      rw [add_lit, add_lit, add_lit, add_lit, hx, hy]
      simp
    refine NilC.mk _ rfl ⟨ra.1, ra.2, rb.1, rb.2, _, by rw [hadr, ptr_add0 p _ hblk]; exact hc.join x y (by omega) (by omega), ?_, hB⟩
    congr 1
    rw [cutB, joinAt, ← hx, ← hy]
    simp [h0]
  · have h0 : clsAt cls a = clsAt cls b := by simpa using h0
    refine ⟨?_, hB⟩
    rw [cutB, decide_eq_false (by simp [h0])]
/-- How often it is cut up to a place. -/
def cutsTo (f : Nat → Bool) : Nat → Nat
  | 0 => 0
  | i + 1 => cutsTo f i + if f i then 1 else 0
theorem cutsTo_none {f : Nat → Bool} : ∀ n, cutsTo f n = 0 ↔ ∀ i, i < n → f i = false
  | 0 => by simp [cutsTo]
  | n + 1 => by
    rw [cutsTo]
    have := cutsTo_none (f := f) n
    constructor
    · intro h i hi
      rcases Nat.lt_succ_iff_lt_or_eq.1 hi with h' | h'
      · exact this.1 (by omega) i h'
      · subst h'
        cases hf : f i with
        | false => rfl
        | true => rw [hf] at h; simp at h
    · intro h
      rw [this.2 fun i hi => h i (by omega), h n (by omega)]
      rfl
theorem cutsTo_le (f : Nat → Bool) : ∀ n, cutsTo f n ≤ n
  | 0 => Nat.le_refl _
  | n + 1 => by
    have := cutsTo_le f n
    rw [cutsTo]
    split <;> omega
def cutPos (cut : Int → Int → Bool) (s : Bs) (j : Nat) : Bool := if j = s.length then true else match s[j - 1]?, s[j]? with
  | some x, some y => decide (1 ≤ j) && cut x.toNat y.toNat
  | _, _ => false
theorem pieces_spec (w : World) (p : Nat) (cls : List (Int × Int × Int)) (js : List (Int × Int)) (h : BdIs w p cls js) (ok1 : ∀ c ∈ cls, classOk c = true) (s : Bs) (hs : s.length ≤ 1000000) :
    Calls Tryz.prog 181 #[.pointer (some ⟨p, 0, none⟩), .string (str s)] w fun e w' => ∃ a n c, e = .returned (.slice a n c) ∧ (n = if s = [] then 0 else cutsTo (cutPos (cutB cls js) s) (s.length + 1)) ∧ Below w.heap.size w w' := by
  refine calls_ret (vc181_calls (some ⟨p, 0, none⟩) (str s) w (fun v w' => ∃ a n c, v = .slice a n c ∧ (n = if s = [] then 0 else cutsTo (cutPos (cutB cls js) s) (s.length + 1)) ∧ Below w.heap.size w w') ?_) (by rintro v w' ⟨a, n, c, rfl, h⟩; exact ⟨a, n, c, rfl, h⟩)
  intro I hI
  have hz : (str s).size = s.length := str_size s
  by_cases hn : s = []
  · subst hn
    refine hI _ _ _ _ _ _ (CondP.no (by rw [hz]; simp) ⟨none, 0, 0, rfl, by simp, Below.refl _ _⟩)
  have hpos : 0 < s.length := List.length_pos_iff.2 hn
  have c1 : cutPos (cutB cls js) s 0 = false := by
    unfold cutPos
    rw [if_neg (by omega)]
    split <;> simp
  have key := climb2 (α := Int × Sl × List Value × World) s.length (fun k x => 0 ≤ x.1 ∧ x.1 ≤ k ∧ x.2.1.n = cutsTo (cutPos (cutB cls js) s) (k + 1) ∧ x.2.2.2.ownsRow w.heap.size tStr 1 x.2.1.v x.2.1.n x.2.2.1 ∧ Below w.heap.size w x.2.2.2) (fun k x => I [.int .i64 ((k : Int) + 1), .int .i64 x.1, x.2.1.v] x.2.2.2) (0, ⟨none, 0, 0⟩, [], w) ⟨by simp, by simp, by simp [cutsTo, c1], own_nil _ _ _ _, Below.refl _ _⟩ ?_ ?_
  · exact key
  · rintro k hk ih ⟨from_, l, xs, w1⟩ ⟨f0, f1, hl, hown, hB⟩
    change 0 ≤ from_ at f0
    change from_ ≤ (k : Int) at f1
    change l.n = _ at hl
    change w1.ownsRow w.heap.size tStr 1 l.v l.n xs at hown
    change Below w.heap.size w w1 at hB
    have hcl := cutsTo_le (cutPos (cutB cls js) s) (k + 1)
    refine hI _ _ _ _ _ _ (CondP.yes (by rw [hz]; simp; omega) ?_)
    intro J hJ w3 hw3
    have hB3 : Below w.heap.size w w3 := by subst hw3; exact hB.drew
    have hown3 : w3.ownsRow w.heap.size tStr 1 l.v l.n xs := by subst hw3; exact own_drew hown
    have push : ∀ (w4 : World), Below w.heap.size w w4 → w4.ownsRow w.heap.size tStr 1 l.v l.n xs → cutPos (cutB cls js) s (k + 1) = true →
        (0 : Int) ≤ from_ ∧ from_ ≤ (k : Int) + 1 ∧ (k : Int) + 1 ≤ ((str s).size : Int) ∧
          ∀ w5 : World, w5 = w4.alloc (.cells #[Value.string ((str s).extract from_.toNat ((k : Int) + 1).toNat)] tStr) →
          ∃ lA_8 : Option Addr, ∃ lN_9 : Nat, ∃ lC_10 : Nat, ∃ w6 : World, (Builtin.append_ #[tStrs, tStrs] tStrs #[Value.slice l.a l.n l.c, Value.slice (some (nb w4)) 1 1]).run Tryz.prog w5 = .ok (Value.slice lA_8 lN_9 lC_10) w6 ∧
          J [Value.int .i64 ((k : Int) + 1), Value.slice lA_8 lN_9 lC_10] w6 := by
      intro w4 hB4 hown4 hcut
      refine ⟨f0, by omega, by rw [hz]; omega, ?_⟩
      rintro w5 rfl
      obtain ⟨A, C, w6, hr, hown', hg, _⟩ := run_push (P := Tryz.prog) tStrs tStr undStrs infoStr rfl (by decide) hown4 [Value.string ((str s).extract from_.toNat ((k : Int) + 1).toNat)] rfl (by simp [Value.oneCell']) (by omega) (by omega) hB4.size
      refine ⟨A, l.n + 1, C, w6, hr, hJ _ _ _ _ _ ?_⟩
      refine Ar.ok64 (by omega) (by omega) (ih ((k : Int) + 1, ⟨A, l.n + 1, C⟩, _, w6) ⟨by show (0 : Int) ≤ (k : Int) + 1; omega, by show (k : Int) + 1 ≤ ((k + 1 : Nat) : Int); omega, ?_, hown', below_push hB4 hown4 hg hB4.size⟩)
      show l.n + 1 = _
      rw [cutsTo, hcut, hl]
      rfl
    refine CondP.mk (fun h0 => ?_) fun h0 => ?_
    · have h0 : (k : Int) + 1 = ((str s).size : Int) := by simpa using h0
      exact push w3 hB3 hown3 (by unfold cutPos; rw [if_pos (by omega)])
    · have h0 : (k : Int) + 1 ≠ ((str s).size : Int) := by simpa using h0
      have hk1 : k + 1 < s.length := by omega
      refine Ar.ok64 (by omega) (by omega) ⟨by omega, by rw [hz]; omega, by omega, by rw [hz]; omega, ?_⟩
      have e1 : btAt (str s) ((k : Int) + 1 - 1) = ((s[k]).toNat : Int) := by
        rw [show (k : Int) + 1 - 1 = ((k : Nat) : Int) by omega]
        exact btAt_str s k hk
      have e2 : btAt (str s) ((k : Int) + 1) = ((s[k + 1]).toNat : Int) := by
        rw [show (k : Int) + 1 = ((k + 1 : Nat) : Int) by omega]
        exact btAt_str s (k + 1) hk1
      rw [e1, e2]
      have b1 := (s[k]).toNat_lt
      have b2 := (s[k + 1]).toNat_lt
      refine (cuts_spec w3 p cls js (h.on (hB3.mono (by exact Nat.le_refl _))) ok1 _ _ (by omega) (by omega)).mono ?_
      rintro e w6 ⟨rfl, hB6⟩
      have hcp : cutPos (cutB cls js) s (k + 1) = cutB cls js (s[k]).toNat (s[k + 1]).toNat := by
        unfold cutPos
        rw [if_neg (by omega), Nat.add_sub_cancel, List.getElem?_eq_getElem hk, List.getElem?_eq_getElem hk1]
        simp
      have hB36 : Below w.heap.size w w6 := hB3.trans (hB6.mono hB3.size)
      refine ⟨_, rfl, CondP.mk (fun h1 => ?_) fun h1 => ?_⟩
      · exact push w6 hB36 (own_on hown3 hB6) (by rw [hcp, h1])
      · refine hJ _ _ _ _ _ (Ar.ok64 (by omega) (by omega) (ih (from_, l, xs, w6) ⟨f0, by show from_ ≤ ((k + 1 : Nat) : Int); omega, ?_, own_on hown3 hB6, hB36⟩))
        show l.n = _
        rw [cutsTo, hcp, h1, hl]
        rfl
  · rintro ⟨from_, l, xs, w1⟩ ⟨f0, f1, hl, hown, hB⟩
    refine hI _ _ _ _ _ _ (CondP.no (by rw [hz]; simp; omega) ⟨_, _, _, rfl, ?_, hB⟩)
    rw [if_neg hn]
    exact hl
/-- Bytes of one piece. -/
def wholeB (cut : Int → Int → Bool) (s : Bs) : Bool := decide (∀ j, j < s.length → cutPos cut s j = false)
theorem whole_spec (w : World) (p : Nat) (cls : List (Int × Int × Int)) (js : List (Int × Int)) (h : BdIs w p cls js) (ok1 : ∀ c ∈ cls, classOk c = true) (s : Bs) (hs : s.length ≤ 1000000) :
    Calls Tryz.prog 136 #[.pointer (some ⟨p, 0, none⟩), .string (str s)] w fun e w' => e = .returned (.bool (wholeB (cutB cls js) s)) ∧ Below w.heap.size w w' := by
  refine calls_ret (vc136_calls (some ⟨p, 0, none⟩) (str s) w (fun v w' => v = .bool (wholeB (cutB cls js) s) ∧ Below w.heap.size w w') ?_) (by rintro v w' ⟨rfl, h⟩; exact ⟨rfl, h⟩)
  refine (pieces_spec w p cls js h ok1 s hs).mono ?_
  rintro e w1 ⟨a, n, c, rfl, hn, hB⟩
  refine ⟨a, n, c, rfl, ?_, hB⟩
  congr 1
  unfold wholeB
  refine decide_eq_decide.2 ?_
  by_cases he : s = []
  · subst he
    rw [if_pos rfl] at hn
    subst hn
    simp
  · rw [if_neg he, cutsTo] at hn
    have : cutPos (cutB cls js) s s.length = true := by unfold cutPos; rw [if_pos rfl]
    rw [this] at hn
    rw [← cutsTo_none]
    simp only [if_true] at hn
    omega
def betweenB (cut : Int → Int → Bool) (a b : Bs) : Bool := match a.getLast?, b.head? with
  | some x, some y => cut x.toNat y.toNat
  | _, _ => false
theorem between_spec (w : World) (p : Nat) (cls : List (Int × Int × Int)) (js : List (Int × Int)) (h : BdIs w p cls js) (ok1 : ∀ c ∈ cls, classOk c = true) (a b : Bs) (ha : a.length ≤ 1000000) :
    Calls Tryz.prog 139 #[.pointer (some ⟨p, 0, none⟩), .string (str a), .string (str b)] w fun e w' => e = .returned (.bool (betweenB (cutB cls js) a b)) ∧ Below w.heap.size w w' := by
  refine calls_ret (vc139_calls (some ⟨p, 0, none⟩) (str a) (str b) w (fun v w' => v = .bool (betweenB (cutB cls js) a b) ∧ Below w.heap.size w w') ?_) (by rintro v w' ⟨rfl, h⟩; exact ⟨rfl, h⟩)
  intro w1 hw1
  have hB : Below w.heap.size w w1 := by subst hw1; exact (Below.refl _ _).drew
  cases a with
  | nil => exact CondP.no (by simp) ⟨rfl, hB⟩
  | cons x a =>
    refine CondP.yes (by rw [str_toList]; simp) ?_
    cases b with
    | nil => refine CondP.no (by simp) ⟨by simp [betweenB], hB⟩
    | cons y b =>
      refine CondP.yes (by rw [str_toList]; simp) ?_
      have hlt : (x :: a).length - 1 < (x :: a).length := by simp
      simp only [str_size, List.length_cons] at *
      refine Ar.ok64 (by omega) (by omega) ⟨by omega, by omega, Int.le_refl _, by omega, ?_⟩
      have e1 : btAt (str (x :: a)) (((a.length + 1 : Nat) : Int) - 1) = (((x :: a)[a.length]).toNat : Int) := by
        rw [show ((a.length + 1 : Nat) : Int) - 1 = ((a.length : Nat) : Int) by omega]
        exact btAt_str (x :: a) a.length (by simp)
      have e2 : btAt (str (y :: b)) 0 = (y.toNat : Int) := btAt_str (y :: b) 0 (by simp)
      rw [e1, e2]
      have b1 := ((x :: a)[a.length]).toNat_lt
      have b2 := y.toNat_lt
      refine (cuts_spec w1 p cls js (h.on hB) ok1 _ _ (by omega) (by omega)).mono ?_
      rintro e w2 ⟨rfl, hB2⟩
      refine ⟨_, rfl, ?_, below_then hB hB2⟩
      congr 1
      have : (x :: a).getLast? = some ((x :: a)[a.length]) := by
        rw [List.getLast?_eq_getElem?]
        simp
      rw [betweenB, this]
      rfl
end Go.Proofs.YtpklkijdlnioaaaGreat.Eng
