/- A heap: what is least, first; in plain Lean. -/
import Derived.Test.YtboemnagahmlkaaGreatZnBd
set_option linter.unusedVariables false
namespace Go.Proofs.YtboemnagahmlkaaGreat.Eng
/-- What a heap holds: rank, place, turn; and two nodes as they were: the first one's place, both tokens. -/
structure HE where
  r : Int
  p : Int
  t : Int
  f : Int
  a : Int
  b : Int
  deriving DecidableEq, Inhabited
def HE.lt (x y : HE) : Prop := x.r < y.r ∨ x.r = y.r ∧ (x.p < y.p ∨ x.p = y.p ∧ x.t < y.t)
instance (x y : HE) : Decidable (x.lt y) := by unfold HE.lt; infer_instance
theorem HE.asymm {x y : HE} (h : x.lt y) : ¬ y.lt x := by unfold HE.lt at *; omega
theorem HE.le_trans {x y z : HE} (h1 : ¬ y.lt x) (h2 : ¬ z.lt y) : ¬ z.lt x := by unfold HE.lt at *; omega
theorem HE.lt_le {x y z : HE} (h1 : x.lt y) (h2 : ¬ z.lt y) : ¬ z.lt x := HE.le_trans (HE.asymm h1) h2

abbrev hat (l : List HE) (j : Nat) : HE := l.getD j default
def swp (l : List HE) (i k : Nat) : List HE := (l.set i (hat l k)).set k (hat l i)
theorem swp_length (l : List HE) (i k : Nat) : (swp l i k).length = l.length := by simp [swp]
theorem hat_swp {l : List HE} {i k : Nat} (hi : i < l.length) (hk : k < l.length) (j : Nat) : hat (swp l i k) j = if j = k then hat l i else if j = i then hat l k else hat l j := by
  unfold hat swp
  simp only [List.getD_eq_getElem?_getD, List.getElem?_set, List.length_set]
  by_cases h1 : j = k
  · subst h1; simp [hk]
  · by_cases h2 : j = i
    · subst h2
      rw [if_neg (fun e => h1 e.symm), if_pos rfl, if_pos hi, if_neg h1, if_pos rfl]
      rfl
    · rw [if_neg (fun e => h1 e.symm), if_neg (fun e => h2 e.symm), if_neg h1, if_neg h2]
theorem mem_hat {l : List HE} {e : HE} : e ∈ l ↔ ∃ j, j < l.length ∧ hat l j = e := by
  constructor
  · intro h
    obtain ⟨j, hj, rfl⟩ := List.getElem_of_mem h
    exact ⟨j, hj, by simp [hat, hj]⟩
  · rintro ⟨j, hj, rfl⟩
    simp only [hat, List.getD_eq_getElem?_getD, List.getElem?_eq_getElem hj, Option.getD_some]
    exact List.getElem_mem hj
theorem mem_swp {l : List HE} {i k : Nat} (hi : i < l.length) (hk : k < l.length) (e : HE) : e ∈ swp l i k ↔ e ∈ l := by
  rw [mem_hat, mem_hat, swp_length]
  constructor
  · rintro ⟨j, hj, rfl⟩
    rw [hat_swp hi hk]
    split
    · exact ⟨i, hi, rfl⟩
    · split
      · exact ⟨k, hk, rfl⟩
      · exact ⟨j, hj, rfl⟩
  · rintro ⟨j, hj, rfl⟩
    by_cases h1 : j = i
    · subst h1; exact ⟨k, hk, by rw [hat_swp hi hk, if_pos rfl]⟩
    · by_cases h2 : j = k
      · subst h2; exact ⟨i, hi, by rw [hat_swp hi hk, if_neg (fun e => h1 e.symm), if_pos rfl]⟩
      · exact ⟨j, hj, by rw [hat_swp hi hk, if_neg h2, if_neg h1]⟩
def par (j : Nat) : Nat := (j - 1) / 2
theorem par_lt {j : Nat} (h : 0 < j) : par j < j := by unfold par; omega
def IsHeap (l : List HE) : Prop := ∀ j, 0 < j → j < l.length → ¬ (hat l j).lt (hat l (par j))
/-- All is in order, but perhaps one place and the one above it. -/
def UpAt (l : List HE) (i : Nat) : Prop := ∀ j, 0 < j → j < l.length → (j ≠ i → ¬ (hat l j).lt (hat l (par j))) ∧ (par j = i → 0 < i → ¬ (hat l j).lt (hat l (par i)))
theorem up_done {l : List HE} {i : Nat} (h : UpAt l i) (hi : i = 0 ∨ ¬ (hat l i).lt (hat l (par i))) : IsHeap l := by
  intro j h0 hj
  by_cases e : j = i
  · subst e
    rcases hi with hi | hi
    · omega
    · exact hi
  · exact (h j h0 hj).1 e
theorem up_step {l : List HE} {i : Nat} (h : UpAt l i) (h0 : 0 < i) (hi : i < l.length) (hl : (hat l i).lt (hat l (par i))) : UpAt (swp l i (par i)) (par i) := by
  have hp := par_lt h0
  have hpl : par i < l.length := by omega
  intro j j0 hj
  rw [swp_length] at hj
  have hjp := par_lt j0
  have at_ : ∀ x, hat (swp l i (par i)) x = if x = par i then hat l i else if x = i then hat l (par i) else hat l x := hat_swp hi hpl
  constructor
  · intro hne
    rw [at_ j, at_ (par j), if_neg hne]
    by_cases e1 : j = i
    · subst e1
      rw [if_pos rfl, if_pos rfl]
      exact HE.asymm hl
    · rw [if_neg e1]
      by_cases e2 : par j = par i
      · rw [if_pos e2]
        have h1 := (h j j0 hj).1 e1
        rw [e2] at h1
        exact HE.lt_le hl h1
      · rw [if_neg e2]
        by_cases e3 : par j = i
        · rw [if_pos e3]
          exact (h j j0 hj).2 e3 h0
        · rw [if_neg e3]
          exact (h j j0 hj).1 e1
  · intro e2 hp0
    have hpp := par_lt hp0
    have a1 : hat (swp l i (par i)) j = if j = i then hat l (par i) else hat l j := by rw [at_ j, if_neg (by omega)]
    have a2 : hat (swp l i (par i)) (par (par i)) = hat l (par (par i)) := by rw [at_ _, if_neg (by omega), if_neg (by omega)]
    rw [a1, a2]
    have h1 := (h (par i) hp0 hpl).1 (by omega)
    by_cases e1 : j = i
    · subst e1
      rw [if_pos rfl]
      exact h1
    · rw [if_neg e1]
      have h2 := (h j j0 hj).1 e1
      rw [e2] at h2
      exact HE.le_trans h1 h2
/-- All is in order, but perhaps one place and the ones below it. -/
def DownAt (l : List HE) (i : Nat) : Prop := ∀ j, 0 < j → j < l.length → (par j ≠ i → ¬ (hat l j).lt (hat l (par j))) ∧ (par j = i → 0 < i → ¬ (hat l j).lt (hat l (par i)))
theorem down_done {l : List HE} {i : Nat} (h : DownAt l i) (hc : ∀ j, 0 < j → j < l.length → par j = i → ¬ (hat l j).lt (hat l i)) : IsHeap l := by
  intro j h0 hj
  by_cases e : par j = i
  · rw [e]; exact hc j h0 hj e
  · exact (h j h0 hj).1 e
theorem down_step {l : List HE} {i c : Nat} (h : DownAt l i) (hc0 : 0 < c) (hc : c < l.length) (hpc : par c = i) (hl : (hat l c).lt (hat l i)) (ho : ∀ j, 0 < j → j < l.length → par j = i → ¬ (hat l j).lt (hat l c)) : DownAt (swp l i c) c := by
  have hp := par_lt hc0
  have hil : i < l.length := by omega
  have at_ : ∀ x, hat (swp l i c) x = if x = c then hat l i else if x = i then hat l c else hat l x := hat_swp hil hc
  intro j j0 hj
  rw [swp_length] at hj
  have hjp := par_lt j0
  constructor
  · intro hne
    rw [at_ j, at_ (par j), if_neg hne]
    by_cases e1 : j = c
    · subst e1
      rw [if_pos rfl, if_pos hpc]
      exact HE.asymm hl
    · rw [if_neg e1]
      by_cases e2 : j = i
      · subst e2
        rw [if_pos rfl, if_neg (by omega)]
        exact (h c hc0 hc).2 hpc j0
      · rw [if_neg e2]
        by_cases e3 : par j = i
        · rw [if_pos e3]
          exact ho j j0 hj e3
        · rw [if_neg e3]
          exact (h j j0 hj).1 e3
  · intro e1 _
    have a1 : hat (swp l i c) j = hat l j := by rw [at_ j, if_neg (by omega), if_neg (by omega)]
    have a2 : hat (swp l i c) i = hat l c := by rw [at_ i, if_neg (by omega), if_pos rfl]
    rw [hpc, a1, a2]
    have := (h j j0 hj).1 (by omega)
    rw [e1] at this
    exact this
theorem push_up {l : List HE} (h : IsHeap l) (x : HE) : UpAt (l ++ [x]) l.length := by
  intro j j0 hj
  have hjp := par_lt j0
  simp at hj
  constructor
  · intro hne
    have hlt : j < l.length := by omega
    have e : ∀ y, y < l.length → hat (l ++ [x]) y = hat l y := by
      intro y hy
      simp only [hat, List.getD_eq_getElem?_getD, List.getElem?_append_left hy]
    rw [e j hlt, e _ (by omega)]
    exact h j j0 hlt
  · intro e
    omega
theorem pop_down {l : List HE} (h : IsHeap l) (n : Nat) (hn : l.length = n + 1) : DownAt ((swp l 0 n).take n) 0 := by
  intro j j0 hj
  rw [List.length_take, swp_length, hn] at hj
  have hjn : j < n := by omega
  have hjp := par_lt j0
  have e : ∀ y, y < n → 0 < y → hat ((swp l 0 n).take n) y = hat l y := by
    intro y hy hy0
    have : hat ((swp l 0 n).take n) y = hat (swp l 0 n) y := by simp only [hat, List.getD_eq_getElem?_getD, List.getElem?_take_of_lt hy]
    rw [this, hat_swp (by omega) (by omega), if_neg (by omega), if_neg (by omega)]
  constructor
  · intro hne
    rw [e j hjn j0, e _ (by omega) (by omega)]
    exact h j j0 (by omega)
  · intro _ h0
    omega
theorem root_least {l : List HE} (h : IsHeap l) : ∀ j, j < l.length → ¬ (hat l j).lt (hat l 0) := by
  intro j
  induction j using Nat.strongRecOn with
  | ind j ih =>
    intro hj
    by_cases h0 : j = 0
    · subst h0; intro e; exact HE.asymm e e
    · have hp := par_lt (Nat.pos_of_ne_zero h0)
      exact HE.le_trans (ih (par j) hp (by omega)) (h j (Nat.pos_of_ne_zero h0) hj)
/-- What is left behind the least one. -/
theorem pop_mem {l : List HE} (n : Nat) (hn : l.length = n + 1) : (∀ e ∈ l, e = hat l 0 ∨ e ∈ (swp l 0 n).take n) ∧ ∀ e ∈ (swp l 0 n).take n, e ∈ l := by
  constructor
  · intro e he
    rw [← mem_swp (l := l) (i := 0) (k := n) (by omega) (by omega)] at he
    obtain ⟨j, hj, rfl⟩ := mem_hat.1 he
    rw [swp_length] at hj
    by_cases hjn : j = n
    · subst hjn
      rw [hat_swp (by omega) (by omega), if_pos rfl]
      exact .inl rfl
    · refine .inr (mem_hat.2 ⟨j, by rw [List.length_take, swp_length]; omega, ?_⟩)
      simp only [hat, List.getD_eq_getElem?_getD, List.getElem?_take_of_lt (show j < n by omega)]
  · intro e he
    exact (mem_swp (by omega) (by omega) e).1 (List.mem_of_mem_take he)
end Go.Proofs.YtboemnagahmlkaaGreat.Eng

/- The heap, walked by the engine. -/
set_option linter.unusedVariables false
set_option linter.unusedSimpArgs false
set_option maxRecDepth 100000
namespace Go.Proofs.YtboemnagahmlkaaGreat.Eng
open Go Go.RowKit
/-! ### A row's element, written over; a row, shortened -/
theorem layAt_flat {α : Type} {enc : α → List Value} {sz : Nat} (hsz : ∀ x, (enc x).length = sz) (m : α) (rest : List Value) : ∀ (xs : List α) (i : Nat), i < xs.length → layAt (xs.flatMap enc ++ rest) (i * sz) (enc m) = (xs.set i m).flatMap enc ++ rest
  | [], i, h => absurd h (Nat.not_lt_zero i)
  | x :: t, 0, h => by
    simp only [layAt, Nat.zero_mul, List.take_zero, List.nil_append, Nat.zero_add, List.flatMap_cons, List.set_cons_zero, List.append_assoc]
    rw [hsz, ← hsz x, List.drop_left]
  | x :: t, i + 1, h => by
    have ih := layAt_flat hsz m rest t i (by simpa using h)
    simp only [layAt, List.flatMap_cons, List.set_cons_succ, List.append_assoc] at ih ⊢
    rw [← ih]
    have e : (i + 1) * sz = (enc x).length + i * sz := by rw [hsz, Nat.add_mul, Nat.one_mul, Nat.add_comm]
    rw [e, List.take_length_add_append, Nat.add_assoc, List.drop_length_add_append, List.append_assoc]
theorem storeP_cells {b : Nat} {e : TypeId} {c : Array Value} {w2 : World} {k : World → Prop} (h : w2.heap[b]? = some (.cells c e (0, 0))) (vs : List Value) (hl : c.size = vs.length) (h1 : ∀ v ∈ vs, v.oneCell' = true)
    (hk : ∀ w', w'.heap[b]? = some (.cells vs.toArray e (0, 0)) → (∀ j, j ≠ b → w'.heap[j]? = w2.heap[j]?) → w'.heap.size = w2.heap.size → (∀ B w0, B ≤ b → Below B w0 w2 → Below B w0 w') → k w') : StoreP w2 ⟨b, 0, none⟩ k vs 0 := by
  refine storeP_block vs 0 w2 c 0 h (by omega) h1 fun w' h' hs hz hB => hk w' ?_ hs hz hB
  rw [h']
  congr 2
  simp [layAt, ← hl]
theorem own_set {w : World} {B : Nat} {e : TypeId} {sz : Nat} {l : Sl} {α : Type} {enc : α → List Value} {xs : List α} {k : World → Prop} (hsz : ∀ x, (enc x).length = sz) (h0 : 0 < sz) (h1 : ∀ x, ∀ u ∈ enc x, u.oneCell' = true) (h : w.ownsRow B e sz l.v l.n (xs.flatMap enc)) (hn : l.n = xs.length) {a : Addr} (ha : l.a = some a) (i : Nat) (hi : i < xs.length) (m : α)
    (hk : ∀ w', w'.ownsRow B e sz l.v l.n ((xs.set i m).flatMap enc) → (∀ j, l.v.ownBlock ≠ some j → w'.heap[j]? = w.heap[j]?) → w'.heap.size = w.heap.size → (∀ B0 w0, B0 ≤ B → Below B0 w0 w → Below B0 w0 w') → k w') : StoreP w (a.add (i * sz)) k (enc m) 0 := by
  rcases h.2 with ⟨hv, _⟩ | ⟨g, cap, cur, hv, hb, hg, hc, hm, hz, ht⟩
  · obtain ⟨la, ln, lc⟩ := l
    cases hv
    cases ha
  · obtain ⟨la, ln, lc⟩ := l
    cases hv
    cases ha
    simp only at hn
    change ln ≤ lc at hc
    change cur.size = lc * sz at hz
    change cur.toList.take (ln * sz) = _ at ht
    have hflat : (xs.flatMap enc).length = xs.length * sz := flatMap_length hsz xs
    have hle : (i + 1) * sz ≤ xs.length * sz := Nat.mul_le_mul_right sz hi
    have hle2 : xs.length * sz ≤ lc * sz := Nat.mul_le_mul_right sz (by omega)
    rw [Nat.add_mul, Nat.one_mul] at hle
    rw [add_lit, Nat.zero_add]
    refine storeP_block (enc m) 0 w cur (i * sz) hg (by rw [hsz]; omega) (h1 m) fun w' h' hs hz' hB => hk w' ⟨?_, .inr ⟨g, lc, _, rfl, hb, h', hc, hm, ?_, ?_⟩⟩ (fun j hj => hs j fun e => hj (by rw [e]; rfl)) hz' (fun B0 w0 h0 => hB B0 w0 (by omega))
    · show ((xs.set i m).flatMap enc).length = ln * sz
      rw [flatMap_length hsz, List.length_set, hn]
    · have : cur.toList.length = lc * sz := by rw [Array.length_toList]; exact hz
      simp only [layAt, List.size_toArray, List.length_append, List.length_take, List.length_drop, hsz]
      omega
    · have hsplit : cur.toList = xs.flatMap enc ++ cur.toList.drop (ln * sz) := by rw [← ht]; exact (List.take_append_drop _ _).symm
      rw [Nat.add_zero, hsplit, layAt_flat hsz m _ xs i hi]
      show List.take (ln * sz) _ = _
      rw [List.take_left' (by rw [flatMap_length hsz, List.length_set, hn])]
theorem own_short {w : World} {B : Nat} {e : TypeId} {sz : Nat} {l : Sl} {α : Type} {enc : α → List Value} {xs : List α} (hsz : ∀ x, (enc x).length = sz) (h : w.ownsRow B e sz l.v l.n (xs.flatMap enc)) (hn : l.n = xs.length) (n : Nat) (hle : n ≤ xs.length) :
    w.ownsRow B e sz (Value.slice l.a n l.c) n ((xs.take n).flatMap enc) := by
  rcases h.2 with ⟨hv, _⟩ | ⟨g, cap, cur, hv, hb, hg, hc, hm, hz, ht⟩
  · obtain ⟨la, ln, lc⟩ := l
    cases hv
    simp only at hn
    have : xs = [] := List.eq_nil_of_length_eq_zero hn.symm
    subst this
    have : n = 0 := by simpa using hle
    subst this
    exact own_nil _ _ _ _
  · obtain ⟨la, ln, lc⟩ := l
    cases hv
    simp only at hn
    change ln ≤ lc at hc
    change cur.size = lc * sz at hz
    change cur.toList.take (ln * sz) = _ at ht
    refine ⟨by rw [flatMap_length hsz, List.length_take, Nat.min_eq_left hle], .inr ⟨g, lc, cur, rfl, hb, hg, by omega, hm, hz, ?_⟩⟩
    have h2 : (xs.take n).flatMap enc = (xs.flatMap enc).take (n * sz) := by
      have e : xs.flatMap enc = (xs.take n).flatMap enc ++ (xs.drop n).flatMap enc := by rw [← List.flatMap_append, List.take_append_drop]
      rw [e, List.take_left' (by rw [flatMap_length hsz, List.length_take, Nat.min_eq_left hle])]
    have hle2 : n * sz ≤ ln * sz := Nat.mul_le_mul_right sz (by omega)
    rw [h2, ← ht, List.take_take, Nat.min_eq_left hle2]

/-! ### What changes where an object moves -/
structure Moves (B : Nat) (w w' : World) (p : Nat) (l l' : Sl) : Prop where
  keep : ∀ k, k < w.heap.size → k ≠ p → l.v.ownBlock ≠ some k → w'.heap[k]? = w.heap[k]?
  new : ∀ k, l'.v.ownBlock = some k → l.v.ownBlock = some k ∨ w.heap.size ≤ k
  size : w.heap.size ≤ w'.heap.size
  below : Below B w w'
theorem Moves.of_below {B : Nat} {w w' : World} (p : Nat) (l : Sl) (h : Below w.heap.size w w') (hB : B ≤ w.heap.size) : Moves B w w' p l l := ⟨fun k hk _ _ => h.block k hk, fun k hk => .inl hk, h.size, h.mono hB⟩
theorem Moves.trans {B : Nat} {w w' w'' : World} {p : Nat} {l l' l'' : Sl} (h : Moves B w w' p l l') (h' : Moves B w' w'' p l' l'') : Moves B w w'' p l l'' := by
  refine ⟨fun k hk hp hl => ?_, fun k hk => ?_, Nat.le_trans h.size h'.size, h.below.trans h'.below⟩
  · rw [h'.keep k (Nat.lt_of_lt_of_le hk h.size) hp fun e => ?_, h.keep k hk hp hl]
    rcases h.new k e with e | e
    · exact hl e
    · omega
  · rcases h'.new k hk with e | e
    · exact h.new k e
    · exact .inr (Nat.le_trans h.size e)

/-! ### The heap in memory -/
abbrev tHeap : TypeId := 358
abbrev tThing : TypeId := 364
abbrev tThings : TypeId := 356
theorem undThings : Tryz.prog.underlying tThings = some (.slice tThing) := by kernel_rfl
theorem infoThing : (Tryz.prog.info? tThing).map (fun i => (i.zero, i.size, i.bytes)) = some (some (.agg #[.int .i64 0, .int .i64 0, .int .i64 0, .int .i64 0, .int .i64 0, .int .i64 0]), 6, 48) := by kernel_rfl
def encHE (x : HE) : List Value := [.int .i64 x.r, .int .i64 x.p, .int .i64 x.t, .int .i64 x.f, .int .i64 x.a, .int .i64 x.b]
theorem encHE_len (x : HE) : (encHE x).length = 6 := rfl
theorem encHE_one (x : HE) : ∀ u ∈ encHE x, u.oneCell' = true := by
  intro v hv
  simp only [encHE, List.mem_cons, List.not_mem_nil, or_false] at hv
  rcases hv with rfl | rfl | rfl | rfl | rfl | rfl <;> rfl
structure HpRaw (w : World) (B p : Nat) (l : Sl) (turn : Nat) (es : List HE) : Prop where
  blk : w.heap[p]? = some (.cells #[l.v, .int .i64 (turn : Int)] tHeap (0, 0))
  row : w.ownsRow B tThing 6 l.v l.n (es.flatMap encHE)
  len : l.n = es.length
  off : l.v.ownBlock ≠ some p
  bp : B ≤ p
theorem HpRaw.on {w w' : World} {B p : Nat} {l : Sl} {turn : Nat} {es : List HE} (h : HpRaw w B p l turn es) (hb : Below w.heap.size w w') : HpRaw w' B p l turn es := ⟨held_on hb h.blk, own_on h.row hb, h.len, h.off, h.bp⟩
theorem HpRaw.lt {w : World} {B p : Nat} {l : Sl} {turn : Nat} {es : List HE} (h : HpRaw w B p l turn es) : p < w.heap.size := (Array.getElem?_eq_some_iff.1 h.blk).1
/-- The six cells of a place. -/
theorem HpRaw.cells {w : World} {B p : Nat} {l : Sl} {turn : Nat} {es : List HE} (h : HpRaw w B p l turn es) {i : Nat} (hi : i < es.length) : ∃ a, l.a = some a ∧ ∀ k v, (encHE (hat es i))[k]? = some v → w.cell? ((a.add (i * 6)).add k) = some v := by
  obtain ⟨a, ha, _, hc⟩ := (Rw.of_own h.row encHE_len (by decide)).1 i _ (List.getElem?_eq_getElem hi)
  refine ⟨a, ha, fun k v hk => hc k v ?_⟩
  have : hat es i = es[i] := by simp [hat, hi]
  rwa [this] at hk
theorem heapNew_spec (w : World) : Calls Tryz.prog 262 #[] w fun e w' => e = .returned (.pointer (some ⟨w.heap.size, 0, none⟩)) ∧ HpRaw w' w.heap.size w.heap.size ⟨none, 0, 0⟩ 0 [] ∧ Below w.heap.size w w' ∧ w'.heap.size = w.heap.size + 1 := by
  refine calls_ret (vc262_calls w (fun v w' => v = .pointer (some ⟨w.heap.size, 0, none⟩) ∧ HpRaw w' w.heap.size w.heap.size ⟨none, 0, 0⟩ 0 [] ∧ Below w.heap.size w w' ∧ w'.heap.size = w.heap.size + 1) ?_) (by rintro v w' ⟨rfl, h⟩; exact ⟨rfl, h⟩)
  rintro w1 rfl
  exact ⟨rfl, ⟨alloc_new _ _, own_nil _ _ _ _, rfl, by (intro h; cases h), Nat.le_refl _⟩, below_alloc _ _, alloc_size _ _⟩
theorem heapLen_spec (w : World) (B p : Nat) (l : Sl) (turn : Nat) (es : List HE) (h : HpRaw w B p l turn es) : Calls Tryz.prog 283 #[.pointer (some ⟨p, 0, none⟩)] w fun e w' => e = .returned (.int .i64 es.length) ∧ w' = w := by
  refine calls_ret (vc283_calls (some ⟨p, 0, none⟩) w (fun v w' => v = .int .i64 es.length ∧ w' = w) ?_) (by rintro v w' ⟨rfl, h⟩; exact ⟨rfl, h⟩)
  exact CondP.no rfl (NilC.mk _ rfl ⟨l.a, l.n, l.c, by rw [ptr_add0 p w h.blk]; rfl, by rw [h.len], rfl⟩)
theorem heapLess_spec (x y : HE) (w : World) : Calls Tryz.prog 284 #[.agg #[.int .i64 x.r, .int .i64 x.p, .int .i64 x.t], .agg #[.int .i64 y.r, .int .i64 y.p, .int .i64 y.t]] w fun e w' => e = .returned (.bool (decide (x.lt y))) ∧ Below w.heap.size w w' := by
  refine calls_ret (vc284_calls x.r x.p x.t y.r y.p y.t w (fun v w' => v = .bool (decide (x.lt y)) ∧ Below w.heap.size w w') ?_) (by rintro v w' ⟨rfl, h⟩; exact ⟨rfl, h⟩)
  intro w1 hw1 w2 hw2
  have hb : Below w.heap.size w w2 := by subst hw2; subst hw1; exact below_then (below_alloc _ _) (below_alloc _ _)
  have c1 : ∀ j, w2.cell? ((nb w).add j) = (#[Value.int .i64 x.r, Value.int .i64 x.p, Value.int .i64 x.t] : Array Value)[j]? := by
    intro j
    subst hw2
    rw [(below_alloc w1 _).cell (by rw [add_block]; subst hw1; rw [alloc_size]; exact Nat.lt_succ_self _)]
    subst hw1
    rw [add_lit, Nat.zero_add, cell_new]
  have c2 : ∀ j, w2.cell? ((nb w1).add j) = (#[Value.int .i64 y.r, Value.int .i64 y.p, Value.int .i64 y.t] : Array Value)[j]? := by
    intro j
    subst hw2
    rw [add_lit, Nat.zero_add, cell_new]
  refine ⟨_, c1 0, _, c2 0, CondP.mk (fun h0 => ?_) fun h0 => ?_⟩
  · have h0 : x.r ≠ y.r := by simpa using h0
    refine ⟨_, c1 0, _, c2 0, ?_, hb⟩
    congr 1
    exact decide_eq_decide.2 (by unfold HE.lt; omega)
  · have h0 : x.r = y.r := by simpa using h0
    refine ⟨_, c1 1, _, c2 1, CondP.mk (fun h1 => ?_) fun h1 => ?_⟩
    · have h1 : x.p ≠ y.p := by simpa using h1
      refine ⟨_, c1 1, _, c2 1, ?_, hb⟩
      congr 1
      exact decide_eq_decide.2 (by unfold HE.lt; omega)
    · have h1 : x.p = y.p := by simpa using h1
      refine ⟨_, c1 2, _, c2 2, ?_, hb⟩
      congr 1
      exact decide_eq_decide.2 (by unfold HE.lt; omega)
theorem heapSwap_spec (w : World) (B p : Nat) (l : Sl) (turn : Nat) (es : List HE) (h : HpRaw w B p l turn es) (hB : B ≤ w.heap.size) (i k : Nat) (hi : i < es.length) (hk : k < es.length) :
    Calls Tryz.prog 279 #[.pointer (some ⟨p, 0, none⟩), .int .i64 (i : Int), .int .i64 (k : Int)] w fun e w' => e = .returned (.tuple #[]) ∧ HpRaw w' B p l turn (swp es i k) ∧ Moves B w w' p l l := by
  refine calls_ret (vc279_calls (some ⟨p, 0, none⟩) i k w (fun v w' => v = .tuple #[] ∧ HpRaw w' B p l turn (swp es i k) ∧ Moves B w w' p l l) ?_) (by rintro v w' ⟨rfl, h⟩; exact ⟨rfl, h⟩)
  intro w1 hw1
  have hb1 : Below w.heap.size w w1 := by subst hw1; exact drew_on w
  have h1 := h.on hb1
  have hc : w1.cell? ((⟨p, 0, none⟩ : Addr).add 0) = some (.slice l.a l.n l.c) := by rw [ptr_add0 p _ h1.blk]; rfl
  obtain ⟨a, ha, ck⟩ := h1.cells hk
  obtain ⟨a2, ha2, ci⟩ := h1.cells hi
  have hea : a2 = a := by rw [ha] at ha2; exact (Option.some.inj ha2).symm
  subst hea
  have hlen := h1.len
  have e1 : ((k : Int)).toNat = k := by omega
  have e2 : ((i : Int)).toNat = i := by omega
  rw [e1, e2]
  have k0 := ck 0 _ rfl
  have i0 := ci 0 _ rfl
  rw [add_zero] at k0 i0
  refine NilC.mk _ rfl ⟨l.a, l.n, l.c, hc, NilC.mk _ rfl ⟨l.a, l.n, l.c, hc, NilC.mk _ rfl ⟨l.a, l.n, l.c, hc, NilC.mk a2 ha ⟨by omega, by omega, _, _, _, _, _, _, ⟨k0, ck 1 _ rfl, ck 2 _ rfl, ck 3 _ rfl, ck 4 _ rfl, ck 5 _ rfl, trivial⟩, NilC.mk _ rfl ⟨l.a, l.n, l.c, hc, NilC.mk a2 ha ⟨by omega, by omega, _, _, _, _, _, _, ⟨i0, ci 1 _ rfl, ci 2 _ rfl, ci 3 _ rfl, ci 4 _ rfl, ci 5 _ rfl, trivial⟩, NilC.mk a2 ha ⟨by omega, by omega, ?_⟩⟩⟩⟩⟩⟩⟩
  refine own_set encHE_len (by decide) encHE_one h1.row hlen ha i hi (hat es k) ?_
  intro w2 r2 s2 z2 b2
  refine NilC.mk a2 ha ⟨by omega, by omega, ?_⟩
  refine own_set encHE_len (by decide) encHE_one r2 (by rw [List.length_set]; exact hlen) ha k (by rw [List.length_set]; exact hk) (hat es i) ?_
  intro w3 r3 s3 z3 b3
  refine ⟨rfl, ⟨?_, r3, by rw [swp_length]; exact hlen, h.off, h.bp⟩, ⟨fun j hj hp hl => ?_, fun j hj => .inl hj, ?_, b3 _ _ (Nat.le_refl _) (b2 _ _ (Nat.le_refl _) (hb1.mono hB))⟩⟩
  · rw [s3 p h.off, s2 p h.off]
    exact h1.blk
  · rw [s3 j hl, s2 j hl, hb1.block j hj]
  · rw [z3, z2]
    exact hb1.size
theorem heapUp_spec (B p : Nat) (l : Sl) (turn : Nat) : ∀ (n : Nat) (i : Nat) (es : List HE) (w : World), i ≤ n → HpRaw w B p l turn es → B ≤ w.heap.size → i < es.length → es.length ≤ 1000000 → UpAt es i →
    ∀ (R : Value → World → Prop) (I : List Value → World → Prop), (∀ (i_2 : Int) (w1 : World), (CondP (decide ((i_2 : Int) > 0))
      (Ar .i64 ((i_2 : Int) - 1) (fun n =>
       (2 : Int) ≠ 0 ∧
       ∀ w2 : World, w2 = w1.drew →
       NilC (some ⟨p, 0, none⟩) (fun pa =>
       ∃ lA : Option Addr, ∃ lN : Nat, ∃ lC : Nat, w2.cell? (pa.add 0) = some (Value.slice lA lN lC) ∧
       NilC lA (fun pa_3 =>
       (0 : Int) ≤ i_2 ∧ i_2 < ((lN : Nat) : Int) ∧
       ∃ g0 : Int, ∃ g1 : Int, ∃ g2 : Int, (w2.cell? ((pa_3.add ((i_2 : Int).toNat * 6)).add 0) = some (Value.int .i64 g0) ∧ w2.cell? (((pa_3.add ((i_2 : Int).toNat * 6)).add 0).add 1) = some (Value.int .i64 g1) ∧ w2.cell? (((pa_3.add ((i_2 : Int).toNat * 6)).add 0).add 2) = some (Value.int .i64 g2) ∧ True) ∧
       NilC (some ⟨p, 0, none⟩) (fun pa_4 =>
       ∃ lA_5 : Option Addr, ∃ lN_6 : Nat, ∃ lC_7 : Nat, w2.cell? (pa_4.add 0) = some (Value.slice lA_5 lN_6 lC_7) ∧
       NilC lA_5 (fun pa_8 =>
       (0 : Int) ≤ (IntKind.wrap .i64 (Int.tdiv n 2)) ∧ (IntKind.wrap .i64 (Int.tdiv n 2)) < ((lN_6 : Nat) : Int) ∧
       ∃ g0_9 : Int, ∃ g1_10 : Int, ∃ g2_11 : Int, (w2.cell? ((pa_8.add ((IntKind.wrap .i64 (Int.tdiv n 2) : Int).toNat * 6)).add 0) = some (Value.int .i64 g0_9) ∧ w2.cell? (((pa_8.add ((IntKind.wrap .i64 (Int.tdiv n 2) : Int).toNat * 6)).add 0).add 1) = some (Value.int .i64 g1_10) ∧ w2.cell? (((pa_8.add ((IntKind.wrap .i64 (Int.tdiv n 2) : Int).toNat * 6)).add 0).add 2) = some (Value.int .i64 g2_11) ∧ True) ∧
       Calls Tryz.prog 284 #[Value.agg #[Value.int .i64 g0, Value.int .i64 g1, Value.int .i64 g2], Value.agg #[Value.int .i64 g0_9, Value.int .i64 g1_10, Value.int .i64 g2_11]] w2 (fun e3 w3 =>
       ∃ b : Bool, e3 = .returned (Value.bool b) ∧
       CondP (!b)
         (R (Value.tuple #[]) w3)
         (Calls Tryz.prog 279 #[Value.pointer (some ⟨p, 0, none⟩), Value.int .i64 i_2, Value.int .i64 (IntKind.wrap .i64 (Int.tdiv n 2))] w3 (fun e4 w4 =>
          e4 = .returned (Value.tuple #[]) ∧
          I [Value.int .i64 (IntKind.wrap .i64 (Int.tdiv n 2))] w4)))))))))
      (R (Value.tuple #[]) w1)) → I [Value.int .i64 i_2] w1) →
    (∀ (es' : List HE) (w' : World), HpRaw w' B p l turn es' → IsHeap es' → es'.length = es.length → (∀ e, e ∈ es' ↔ e ∈ es) → Moves B w w' p l l → R (.tuple #[]) w') →
    I [Value.int .i64 (i : Int)] w := by
  intro n
  induction n with
  | zero =>
    intro i es w hin h hB hi hl hu R I hI hR
    have : i = 0 := by omega
    subst this
    refine hI _ _ (CondP.no (by simp) (hR es w h (up_done hu (.inl rfl)) rfl (fun _ => Iff.rfl) (Moves.of_below p l (Below.refl _ _) hB)))
  | succ n ih =>
    intro i es w hin h hB hi hl hu R I hI hR
    by_cases h0 : i = 0
    · subst h0
      exact hI _ _ (CondP.no (by simp) (hR es w h (up_done hu (.inl rfl)) rfl (fun _ => Iff.rfl) (Moves.of_below p l (Below.refl _ _) hB)))
    · have hpos : 0 < i := Nat.pos_of_ne_zero h0
      have hwr : IntKind.wrap .i64 (Int.tdiv ((i : Int) - 1) 2) = ((par i : Nat) : Int) := by
        have e : Int.tdiv ((i : Int) - 1) 2 = ((par i : Nat) : Int) := by
          rw [Int.tdiv_eq_ediv_of_nonneg (by omega)]
          unfold par
          omega
        rw [e]
        have := par_lt hpos
        exact wrap_in (by show (-9223372036854775808 : Int) ≤ _; omega) (by show _ ≤ (9223372036854775807 : Int); omega)
      have hpi := par_lt hpos
      refine hI _ _ (CondP.yes (by simp; omega) (Ar.ok64 (by omega) (by omega) ⟨by decide, ?_⟩))
      rw [hwr]
      intro w2 hw2
      have hb2 : Below w.heap.size w w2 := by subst hw2; exact drew_on w
      have h2 := h.on hb2
      have hc : w2.cell? ((⟨p, 0, none⟩ : Addr).add 0) = some (.slice l.a l.n l.c) := by rw [ptr_add0 p _ h2.blk]; rfl
      obtain ⟨a, ha, ci⟩ := h2.cells hi
      obtain ⟨a', ha', cp⟩ := h2.cells (show par i < es.length by omega)
      have hea : a' = a := by rw [ha] at ha'; exact (Option.some.inj ha').symm
      subst hea
      have hlen := h2.len
      have e1 : ((i : Int)).toNat = i := by omega
      have e2 : ((par i : Nat) : Int).toNat = par i := by omega
      rw [e1, e2]
      simp only [add_zero]
      have i0 := ci 0 _ rfl
      have p0 := cp 0 _ rfl
      rw [add_zero] at i0 p0
      refine NilC.mk _ rfl ⟨l.a, l.n, l.c, by rw [← hc, add_zero], NilC.mk a' ha ⟨by omega, by omega, _, _, _, ⟨i0, ci 1 _ rfl, ci 2 _ rfl, trivial⟩, NilC.mk _ rfl ⟨l.a, l.n, l.c, by rw [← hc, add_zero], NilC.mk a' ha ⟨by omega, by omega, _, _, _, ⟨p0, cp 1 _ rfl, cp 2 _ rfl, trivial⟩, ?_⟩⟩⟩⟩
      refine (heapLess_spec (hat es i) (hat es (par i)) w2).mono ?_
      rintro e w3 ⟨rfl, hB3⟩
      have h3 := h2.on hB3
      have hb3 := below_then hb2 hB3
      refine ⟨_, rfl, CondP.mk (fun hlt => ?_) fun hlt => ?_⟩
      · have hlt : ¬ (hat es i).lt (hat es (par i)) := by simpa using hlt
        exact hR es w3 h3 (up_done hu (.inr hlt)) rfl (fun _ => Iff.rfl) (Moves.of_below p l hb3 hB)
      · have hlt : (hat es i).lt (hat es (par i)) := by simpa using hlt
        refine (heapSwap_spec w3 B p l turn es h3 (Nat.le_trans hB hb3.size) i (par i) hi (by omega)).mono ?_
        rintro e w4 ⟨rfl, h4, m4⟩
        refine ⟨rfl, ih (par i) (swp es i (par i)) w4 (by omega) h4 (Nat.le_trans hB (Nat.le_trans hb3.size m4.size)) (by rw [swp_length]; omega) (by rw [swp_length]; exact hl) (up_step hu hpos hi hlt) R I hI ?_⟩
        intro es' w' h' hh' hl' hm' mv'
        exact hR es' w' h' hh' (by rw [hl', swp_length]) (fun e => (hm' e).trans (mem_swp hi (by omega) e)) (((Moves.of_below p l hb3 hB).trans m4).trans mv')
/-- What is left in a heap behind a change. -/
structure Heaped (w w' : World) (B p : Nat) (l l' : Sl) (turn : Nat) (es' : List HE) : Prop where
  raw : HpRaw w' B p l' turn es'
  heap : IsHeap es'
  moves : Moves B w w' p l l'
theorem heapUp_call (w : World) (B p : Nat) (l : Sl) (turn : Nat) (es : List HE) (h : HpRaw w B p l turn es) (hB : B ≤ w.heap.size) (i : Nat) (hi : i < es.length) (hl : es.length ≤ 1000000) (hu : UpAt es i) :
    Calls Tryz.prog 282 #[.pointer (some ⟨p, 0, none⟩), .int .i64 (i : Int)] w fun e w' => e = .returned (.tuple #[]) ∧ ∃ es', Heaped w w' B p l l turn es' ∧ es'.length = es.length ∧ ∀ e, e ∈ es' ↔ e ∈ es := by
  refine calls_ret (vc282_calls (some ⟨p, 0, none⟩) i w (fun v w' => v = .tuple #[] ∧ ∃ es', Heaped w w' B p l l turn es' ∧ es'.length = es.length ∧ ∀ e, e ∈ es' ↔ e ∈ es) ?_) (by rintro v w' ⟨rfl, h⟩; exact ⟨rfl, h⟩)
  intro I hI
  exact heapUp_spec B p l turn i i es w (Nat.le_refl _) h hB hi hl hu (fun v w' => v = .tuple #[] ∧ ∃ es', Heaped w w' B p l l turn es' ∧ es'.length = es.length ∧ ∀ e, e ∈ es' ↔ e ∈ es) I hI fun es' w' h1 h2 h3 h4 h5 => ⟨rfl, es', ⟨h1, h2, h5⟩, h3, h4⟩
theorem run_index20 (a b : Int) (w : World) : (Instr.index 365 (.agg #[.int .i64 a, .int .i64 b]) (.int .i64 0)).run Tryz.prog w = .ok (.int .i64 a) w := by kernel_rfl
theorem run_index21 (a b : Int) (w : World) : (Instr.index 365 (.agg #[.int .i64 a, .int .i64 b]) (.int .i64 1)).run Tryz.prog w = .ok (.int .i64 b) w := by kernel_rfl
theorem run_index2 (a b : Int) (y : Nat) (hy : y < 2) (w : World) : (Instr.index 365 (.agg #[.int .i64 a, .int .i64 b]) (.int .i64 (y : Int))).run Tryz.prog w = .ok (.int .i64 (if y = 0 then a else b)) w := by
  match y, hy with
  | 0, _ => exact run_index20 a b w
  | 1, _ => exact run_index21 a b w
theorem heapDown_call (w : World) (B p : Nat) (l : Sl) (turn : Nat) (es : List HE) (h : HpRaw w B p l turn es) (hB : B ≤ w.heap.size) (hl : es.length ≤ 1000000) (hd : DownAt es 0) :
    Calls Tryz.prog 280 #[.pointer (some ⟨p, 0, none⟩), .int .i64 0] w fun e w' => e = .returned (.tuple #[]) ∧ ∃ es', Heaped w w' B p l l turn es' ∧ es'.length = es.length ∧ ∀ e, e ∈ es' ↔ e ∈ es := by
  refine calls_ret (vc280_calls (some ⟨p, 0, none⟩) 0 w (fun v w' => v = .tuple #[] ∧ ∃ es', Heaped w w' B p l l turn es' ∧ es'.length = es.length ∧ ∀ e, e ∈ es' ↔ e ∈ es) ?_) (by rintro v w' ⟨rfl, h⟩; exact ⟨rfl, h⟩)
  intro I hI
  have atEnd : ∀ (i : Nat) (es1 : List HE) (w1 : World), es.length ≤ i → i ≤ es.length → HpRaw w1 B p l turn es1 → es1.length = es.length → (∀ e, e ∈ es1 ↔ e ∈ es) → DownAt es1 i → Moves B w w1 p l l → I [.int .i64 (i : Int)] w1 := by
    intro i es1 w1 hn hi h1 hle hm hd1 mv
    refine hI _ _ (Ar.ok64 (by omega) (by omega) (Ar.ok64 (by omega) (by omega) (Ar.ok64 (by omega) (by omega) (Ar.ok64 (by omega) (by omega) ?_))))
    intro I6 hI6
    have hlen := h1.len
    have inner := climb2 (α := World) 2 (fun _ x => ∃ _ : Unit, HpRaw x B p l turn es1 ∧ Moves B w x p l l) (fun y x => I6 [.int .i64 (y : Int), .int .i64 (i : Int)] x) w1 ⟨(), h1, mv⟩ ?_ ?_
    · exact inner
    · rintro y hy ih w2 ⟨_, h2, mv2⟩
      refine hI6 _ _ _ (CondP.yes (by simp; omega) ?_)
      intro J hJ
      refine ⟨_, w2, run_index2 _ _ y hy w2, ?_⟩
      intro w5 hw5
      have hb5 : Below w2.heap.size w2 w5 := by subst hw5; exact drew_on w2
      have h5 := h2.on hb5
      refine NilC.mk _ rfl ⟨l.a, l.n, l.c, by rw [ptr_add0 p _ h5.blk]; rfl, CondP.no (by simp only [decide_eq_false_iff_not]; split <;> omega) ?_⟩
      exact hJ _ _ (Ar.ok64 (by omega) (by omega) (ih w5 ⟨(), h5, mv2.trans (Moves.of_below p l hb5 (Nat.le_trans hB mv2.size))⟩))
    · rintro w2 ⟨_, h2, mv2⟩
      refine hI6 _ _ _ (CondP.no (by simp) (CondP.yes (by simp) ⟨rfl, es1, ⟨h2, down_done hd1 fun j j0 hj hp => ?_, mv2⟩, hle, hm⟩))
      unfold par at hp
      omega
  have key : ∀ (n i : Nat) (es1 : List HE) (w1 : World), es.length ≤ i + n → i ≤ es.length → HpRaw w1 B p l turn es1 → es1.length = es.length → (∀ e, e ∈ es1 ↔ e ∈ es) → DownAt es1 i → Moves B w w1 p l l → I [.int .i64 (i : Int)] w1 := by
    intro n
    induction n with
    | zero =>
      intro i es1 w1 hn hi h1 hle hm hd1 mv
      exact atEnd i es1 w1 (by omega) hi h1 hle hm hd1 mv
    | succ n ihn =>
      intro i es1 w1 hn hi h1 hle hm hd1 mv
      by_cases hil : i < es1.length
      · refine hI _ _ (Ar.ok64 (by omega) (by omega) (Ar.ok64 (by omega) (by omega) (Ar.ok64 (by omega) (by omega) (Ar.ok64 (by omega) (by omega) ?_))))
        intro I6 hI6
        have inner := climb2 (α := Nat × World) 2 (fun y x => HpRaw x.2 B p l turn es1 ∧ Moves B w x.2 p l l ∧ x.1 < es1.length ∧ (x.1 = i ∨ (0 < x.1 ∧ par x.1 = i ∧ (hat es1 x.1).lt (hat es1 i))) ∧ ∀ j, 0 < j → j < es1.length → par j = i → j < 2 * i + 1 + y → ¬ (hat es1 j).lt (hat es1 x.1)) (fun y x => I6 [.int .i64 (y : Int), .int .i64 (x.1 : Int)] x.2) (i, w1) ⟨h1, mv, hil, .inl rfl, fun j j0 hj hp hlt => by unfold par at hp; omega⟩ ?_ ?_
        · exact inner
        · rintro y hy ih ⟨least, w2⟩ ⟨h2, mv2, hll, hor, hall⟩
          change HpRaw w2 B p l turn es1 at h2
          change Moves B w w2 p l l at mv2
          change least < es1.length at hll
          refine hI6 _ _ _ (CondP.yes (by simp; omega) ?_)
          intro J hJ
          refine ⟨_, w2, run_index2 _ _ y hy w2, ?_⟩
          have hk : (if y = 0 then (2 * (i : Int) + 1) else (2 * (i : Int) + 2)) = ((2 * i + 1 + y : Nat) : Int) := by split <;> omega
          rw [hk]
          intro w5 hw5
          have hb5 : Below w2.heap.size w2 w5 := by subst hw5; exact drew_on w2
          have h5 := h2.on hb5
          have mv5 := mv2.trans (Moves.of_below p l hb5 (Nat.le_trans hB mv2.size))
          have hlen := h5.len
          have hc : w5.cell? ((⟨p, 0, none⟩ : Addr).add 0) = some (.slice l.a l.n l.c) := by rw [ptr_add0 p _ h5.blk]; rfl
          refine NilC.mk _ rfl ⟨l.a, l.n, l.c, hc, CondP.mk (fun hlt => ?_) fun hlt => ?_⟩
          · have hlt : 2 * i + 1 + y < es1.length := by have := of_decide_eq_true hlt; omega
            obtain ⟨a, ha, ck⟩ := h5.cells hlt
            obtain ⟨a2, ha2, cl⟩ := h5.cells hll
            have hea : a2 = a := by rw [ha] at ha2; exact (Option.some.inj ha2).symm
            subst hea
            have k0 := ck 0 _ rfl
            have l0 := cl 0 _ rfl
            rw [add_zero] at k0 l0
            have e1 : (((2 * i + 1 + y : Nat) : Int)).toNat = 2 * i + 1 + y := by omega
            have e2 : ((least : Int)).toNat = least := by omega
            rw [e1]
            dsimp only
            rw [e2]
            simp only [add_zero]
            refine NilC.mk _ rfl ⟨l.a, l.n, l.c, by rw [← hc, add_zero], NilC.mk a2 ha ⟨by omega, by omega, _, _, _, ⟨k0, ck 1 _ rfl, ck 2 _ rfl, trivial⟩, NilC.mk _ rfl ⟨l.a, l.n, l.c, by rw [← hc, add_zero], NilC.mk a2 ha ⟨by omega, by omega, _, _, _, ⟨l0, cl 1 _ rfl, cl 2 _ rfl, trivial⟩, ?_⟩⟩⟩⟩
            refine (heapLess_spec (hat es1 (2 * i + 1 + y)) (hat es1 least) w5).mono ?_
            rintro e w6 ⟨rfl, hB6⟩
            have h6 := h5.on hB6
            have mv6 := mv5.trans (Moves.of_below p l hB6 (Nat.le_trans hB mv5.size))
            have hpar : par (2 * i + 1 + y) = i := by unfold par; omega
            refine ⟨_, rfl, CondP.mk (fun hls => ?_) fun hls => ?_⟩
            · have hls := of_decide_eq_true hls
              refine hJ _ _ (Ar.ok64 (by omega) (by omega) (ih (2 * i + 1 + y, w6) ⟨h6, mv6, hlt, .inr ⟨by show 0 < 2 * i + 1 + y; omega, hpar, ?_⟩, ?_⟩))
              · rcases hor with e | ⟨_, _, e⟩
                · change least = i at e
                  show (hat es1 (2 * i + 1 + y)).lt (hat es1 i)
                  rw [e] at hls
                  exact hls
                · show (hat es1 (2 * i + 1 + y)).lt (hat es1 i)
                  change (hat es1 least).lt (hat es1 i) at e
                  unfold HE.lt at *
                  omega
              · intro j j0 hj hp hjl
                show ¬ (hat es1 j).lt (hat es1 (2 * i + 1 + y))
                by_cases e : j = 2 * i + 1 + y
                · rw [e]
                  intro h
                  exact HE.asymm h h
                · exact HE.lt_le hls (hall j j0 hj hp (by omega))
            · have hls := of_decide_eq_false hls
              refine hJ _ _ (Ar.ok64 (by omega) (by omega) (ih (least, w6) ⟨h6, mv6, hll, hor, ?_⟩))
              intro j j0 hj hp hjl
              by_cases e : j = 2 * i + 1 + y
              · rw [e]
                exact hls
              · exact hall j j0 hj hp (by omega)
          · have hlt : ¬ 2 * i + 1 + y < es1.length := by have := of_decide_eq_false hlt; omega
            refine hJ _ _ (Ar.ok64 (by omega) (by omega) (ih (least, w5) ⟨h5, mv5, hll, hor, ?_⟩))
            intro j j0 hj hp hjl
            exact hall j j0 hj hp (by omega)
        · rintro ⟨least, w2⟩ ⟨h2, mv2, hll, hor, hall⟩
          change HpRaw w2 B p l turn es1 at h2
          change Moves B w w2 p l l at mv2
          change least < es1.length at hll
          have hall' : ∀ j, 0 < j → j < es1.length → par j = i → ¬ (hat es1 j).lt (hat es1 least) := fun j j0 hj hp => hall j j0 hj hp (by unfold par at hp; omega)
          refine hI6 _ _ _ (CondP.no (by simp) ?_)
          rcases hor with e | ⟨e0, ep, el⟩
          · change least = i at e
            subst e
            exact CondP.yes (by simp) ⟨rfl, es1, ⟨h2, down_done hd1 hall', mv2⟩, hle, hm⟩
          · change 0 < least at e0
            change par least = i at ep
            have := par_lt e0
            refine CondP.no (by simp; omega) ?_
            refine (heapSwap_spec w2 B p l turn es1 h2 (Nat.le_trans hB mv2.size) i least hil hll).mono ?_
            rintro e w7 ⟨rfl, h7, mv7⟩
            refine ⟨rfl, ihn least (swp es1 i least) w7 (by omega) (by omega) h7 (by rw [swp_length]; exact hle) (fun e => (mem_swp hil hll e).trans (hm e)) (down_step hd1 e0 hll ep el hall') (mv2.trans mv7)⟩
      · exact atEnd i es1 w1 (by omega) hi h1 hle hm hd1 mv
  exact key es.length 0 es w (by omega) (by omega) h rfl (fun _ => Iff.rfl) hd (Moves.of_below p l (Below.refl _ _) hB)
theorem ones_triple (a b c : Int) : ∀ v ∈ [Value.int .i64 a, Value.int .i64 b, Value.int .i64 c], v.oneCell' = true := ones_class a b c
theorem heapPush_spec (w : World) (B p : Nat) (l : Sl) (turn : Nat) (es : List HE) (h : HpRaw w B p l turn es) (hB : B ≤ w.heap.size) (hh : IsHeap es) (hl : es.length ≤ 900000) (ht : turn ≤ 1000000000) (r q f a b : Int) :
    Calls Tryz.prog 277 #[.pointer (some ⟨p, 0, none⟩), .int .i64 r, .int .i64 q, .agg #[.int .i64 f, .int .i64 a, .int .i64 b]] w fun e w' => e = .returned (.tuple #[]) ∧ ∃ l' es', Heaped w w' B p l l' (turn + 1) es' ∧ es'.length = es.length + 1 ∧ ∀ e, e ∈ es' ↔ e ∈ es ∨ e = ⟨r, q, turn, f, a, b⟩ := by
  refine calls_ret (vc277_calls (some ⟨p, 0, none⟩) r q f a b w (fun v w' => v = .tuple #[] ∧ ∃ l' es', Heaped w w' B p l l' (turn + 1) es' ∧ es'.length = es.length + 1 ∧ ∀ e, e ∈ es' ↔ e ∈ es ∨ e = ⟨r, q, turn, f, a, b⟩) ?_) (by rintro v w' ⟨rfl, h⟩; exact ⟨rfl, h⟩)
  intro w1 hw1
  have hb1 : Below w.heap.size w w1 := by subst hw1; exact below_alloc _ _
  refine CondP.no rfl ?_
  intro w2 hw2
  have hb2 : Below w.heap.size w w2 := by subst hw2; exact hb1.drew
  have hz2 : w2.heap.size = w.heap.size + 1 := by subst hw2; subst hw1; exact alloc_size _ _
  have h2 := h.on hb2
  have hloc : w2.heap[w.heap.size]? = some (.cells #[Value.int .i64 f, Value.int .i64 a, Value.int .i64 b] 343) := by subst hw2; subst hw1; exact alloc_new _ _
  have hlen := h2.len
  have hc : w2.cell? ((⟨p, 0, none⟩ : Addr).add 0) = some (.slice l.a l.n l.c) := by rw [ptr_add0 p _ h2.blk]; rfl
  obtain ⟨a', c', w4, hr4, hu4, hf4, h5⟩ := obj_push1 (P := Tryz.prog) (s := l) 0 h2.blk (show 0 < 2 by decide) h2.row h2.off h2.bp tThings undThings infoThing rfl (by decide) (encHE ⟨r, q, turn, f, a, b⟩) rfl (encHE_one _) (by omega) (by omega)
  refine NilC.mk _ rfl ⟨l.a, l.n, l.c, hc, NilC.mk _ rfl ⟨(turn : Int), by rw [ptr_add0 p _ h2.blk]; rfl, _, _, _, ⟨by have := ptr_add0 _ _ hloc 0; rw [add_zero] at this; exact this, ptr_add0 _ _ hloc 1, ptr_add0 _ _ hloc 2, trivial⟩, ?_⟩⟩
  rintro w3 rfl
  refine ⟨⟨by rw [(below_alloc w2 _).cell (by rw [add_block]; exact h2.lt)]; exact hc, trivial⟩, a', l.n + 1, c', w4, hr4, NilC.mk _ rfl ⟨rfl, hu4, hf4, ?_⟩⟩
  intro w5 hw5
  obtain ⟨hblk5, hrow5, hoff5, hB5, hkeep5, hsz5, hnew5⟩ := h5 w5 hw5
  refine NilC.mk _ rfl ⟨(turn : Int), by rw [ptr_add0 p _ hblk5]; rfl, Ar.ok64 (by omega) (by omega) (NilC.mk _ rfl ⟨rfl, ⟨_, by rw [ptr_add0 p _ hblk5]; rfl⟩, frozen_put hblk5, ?_⟩)⟩
  intro w6 hw6
  have hblk6 : w6.heap[p]? = some (.cells #[.slice a' (l.n + 1) c', .int .i64 ((turn + 1 : Nat) : Int)] tHeap (0, 0)) := by subst hw6; exact heap_put hblk5 _
  have hs6 : ∀ k, k ≠ p → w6.heap[k]? = w5.heap[k]? := fun k hk => by subst hw6; exact heap_setCell_ne (by rw [add_block]; exact hk)
  have hz6 : w6.heap.size = w5.heap.size := by subst hw6; exact size_setCell _ _ _
  have hB6 : Below B w w6 := by subst hw6; exact below_put (hB5 w (hb2.mono hB)) h2.bp _
  have hflat : (es ++ [(⟨r, q, turn, f, a, b⟩ : HE)]).flatMap encHE = es.flatMap encHE ++ encHE ⟨r, q, turn, f, a, b⟩ := by simp
  have hraw : HpRaw w6 B p ⟨a', l.n + 1, c'⟩ (turn + 1) (es ++ [(⟨r, q, turn, f, a, b⟩ : HE)]) := ⟨hblk6, by rw [hflat]; exact own_same hrow5 fun k hk => hs6 k fun e => hoff5 (by rw [hk, e]), by simp; omega, hoff5, h2.bp⟩
  have hnew : ∀ k, (Value.slice a' (l.n + 1) c').ownBlock = some k → l.v.ownBlock = some k ∨ w.heap.size ≤ k := by
    intro k hk
    rcases hnew5 k hk with e | e
    · exact .inl e
    · exact .inr (by omega)
  have mv6 : Moves B w w6 p l ⟨a', l.n + 1, c'⟩ := ⟨fun k hk hp hlb => by rw [hs6 k hp, hkeep5 k (by omega) hp hlb, hb2.block k hk], hnew, by omega, hB6⟩
  refine NilC.mk _ rfl ⟨a', l.n + 1, c', by rw [ptr_add0 p _ hblk6]; rfl, Ar.ok64 (by omega) (by omega) ?_⟩
  have hln : (((l.n + 1 : Nat) : Int) - 1) = ((es.length : Nat) : Int) := by omega
  rw [hln]
  refine (heapUp_call w6 B p ⟨a', l.n + 1, c'⟩ (turn + 1) _ hraw (by omega) es.length (by simp) (by simp; omega) (push_up hh _)).mono ?_
  rintro e w7 ⟨rfl, es', ⟨h7, hh7, mv7⟩, hl7, hm7⟩
  exact ⟨rfl, rfl, _, es', ⟨h7, hh7, mv6.trans mv7⟩, by rw [hl7]; simp, fun e => by rw [hm7 e]; simp⟩
theorem own_slice (a : Option Addr) (n c n' c' k : Nat) : (Value.slice a n c).ownBlock = some k ↔ (Value.slice a n' c').ownBlock = some k := by cases a <;> simp [Value.ownBlock]
def topV (es : List HE) : Value := match es with
  | [] => .tuple #[.agg #[.int .i64 0, .int .i64 0, .int .i64 0], .int .i64 0, .int .i64 0, .bool false]
  | x :: _ => .tuple #[.agg #[.int .i64 x.f, .int .i64 x.a, .int .i64 x.b], .int .i64 x.r, .int .i64 x.p, .bool true]
theorem agg3 {w : World} {b : Nat} {x y z : Value} {e : TypeId} {fz : Nat × Nat} (h : w.heap[b]? = some (.cells #[x, y, z] e fz)) : w.cell? ⟨b, 0, none⟩ = some x ∧ w.cell? ((⟨b, 0, none⟩ : Addr).add 1) = some y ∧ w.cell? ((⟨b, 0, none⟩ : Addr).add 2) = some z ∧ True :=
  ⟨by have := ptr_add0 _ _ h 0; rw [add_zero] at this; exact this, ptr_add0 _ _ h 1, ptr_add0 _ _ h 2, trivial⟩
theorem heapPeek_spec (w : World) (B p : Nat) (l : Sl) (turn : Nat) (es : List HE) (h : HpRaw w B p l turn es) :
    Calls Tryz.prog 278 #[.pointer (some ⟨p, 0, none⟩)] w fun e w' => e = .returned (topV es) ∧ Below w.heap.size w w' := by
  refine calls_ret (vc278_calls (some ⟨p, 0, none⟩) w (fun v w' => v = topV es ∧ Below w.heap.size w w') ?_) (by rintro v w' ⟨rfl, h⟩; exact ⟨rfl, h⟩)
  intro w1 hw1
  have hb1 : Below w.heap.size w w1 := by subst hw1; exact below_alloc _ _
  have hz1 : w1.heap.size = w.heap.size + 1 := by subst hw1; exact alloc_size _ _
  have hl1 : w1.heap[w.heap.size]? = some (.cells #[Value.int .i64 0, Value.int .i64 0, Value.int .i64 0] 343) := by subst hw1; exact alloc_new _ _
  have h1 := h.on hb1
  refine (heapLen_spec w1 B p l turn es h1).mono ?_
  rintro e w2 ⟨rfl, hw⟩
  subst hw
  refine ⟨_, rfl, CondP.mk (fun h0 => ?_) fun h0 => ?_⟩
  · have h0 : es = [] := List.eq_nil_of_length_eq_zero (by have : (es.length : Int) = 0 := by simpa using h0
                                                           omega)
    subst h0
    intro w3 hw3
    have hb3 : Below w2.heap.size w2 w3 := by subst hw3; exact below_alloc _ _
    have hl3 : w3.heap[w2.heap.size]? = some (.cells #[Value.int .i64 0, Value.int .i64 0, Value.int .i64 0] 343) := by subst hw3; exact alloc_new _ _
    refine ⟨_, _, _, agg3 hl3, ?_⟩
    refine storeP_cells (held_on hb3 hl1) [.int .i64 0, .int .i64 0, .int .i64 0] rfl (ones_triple _ _ _) ?_
    intro w4 h4 _ _ hB4
    exact ⟨_, _, _, agg3 h4, rfl, hB4 _ _ (Nat.le_refl _) (below_then hb1 hb3)⟩
  · cases es with
    | nil => simp at h0
    | cons x t =>
      obtain ⟨a, ha, hc⟩ := h1.cells (i := 0) (by simp)
      have hlen := h1.len
      have c0 := hc 0 _ rfl
      simp only [Nat.zero_mul, add_zero] at c0
      have hh : hat (x :: t) 0 = x := rfl
      rw [hh] at hc c0
      simp only [Nat.zero_mul, add_zero] at hc
      refine NilC.mk _ rfl ⟨l.a, l.n, l.c, by rw [ptr_add0 p _ h1.blk]; rfl, NilC.mk a ha ⟨Int.le_refl _, by rw [hlen]; simp, ?_⟩⟩
      simp only [Int.toNat_zero, Nat.zero_mul, add_zero]
      refine ⟨_, _, _, _, _, _, ⟨c0, hc 1 _ rfl, hc 2 _ rfl, hc 3 _ rfl, hc 4 _ rfl, hc 5 _ rfl, trivial⟩, ?_⟩
      intro w5 hw5
      refine storeP_new [.int .i64 0, .int .i64 0, .int .i64 0, .int .i64 0, .int .i64 0, .int .i64 0] (encHE x) rfl (encHE_one x) w5 hw5 ?_
      intro w6 h6 hz6 hB6 w7 hw7
      have h7 : w7.heap[w2.heap.size]? = some (.cells (encHE x).toArray tThing (0, 0)) := by subst hw7; exact h6
      have hb7 : Below w2.heap.size w2 w7 := by subst hw7; exact hB6.drew
      refine ⟨_, _, _, ⟨ptr_add0 _ _ h7 3, by rw [Addr.add_add]; exact ptr_add0 _ _ h7 4, by rw [Addr.add_add]; exact ptr_add0 _ _ h7 5, trivial⟩, _, by have := ptr_add0 _ _ h7 0; rw [add_zero] at this; exact this, _, ptr_add0 _ _ h7 1, ?_⟩
      refine storeP_cells (held_on hb7 hl1) [.int .i64 x.f, .int .i64 x.a, .int .i64 x.b] rfl (ones_triple _ _ _) ?_
      intro w8 h8 hs8 _ hB8
      have h8' : w8.heap[w2.heap.size]? = some (.cells (encHE x).toArray tThing (0, 0)) := by rw [hs8 _ (by omega)]; exact h7
      exact ⟨⟨ptr_add0 _ _ h8' 1, trivial⟩, ⟨by have := ptr_add0 _ _ h8' 0; rw [add_zero] at this; exact this, trivial⟩, _, _, _, agg3 h8, rfl, hB8 _ _ (Nat.le_refl _) (below_then hb1 hb7)⟩
theorem heapPop_spec (w : World) (B p : Nat) (l : Sl) (turn : Nat) (es : List HE) (h : HpRaw w B p l turn es) (hB : B ≤ w.heap.size) (hh : IsHeap es) (hl : es.length ≤ 900000) :
    Calls Tryz.prog 264 #[.pointer (some ⟨p, 0, none⟩)] w fun e w' => e = .returned (topV es) ∧ ∃ l' es', Heaped w w' B p l l' turn es' ∧ es'.length = es.length - 1 ∧ (∀ e ∈ es, e = hat es 0 ∨ e ∈ es') ∧ ∀ e ∈ es', e ∈ es := by
  refine calls_ret (vc264_calls (some ⟨p, 0, none⟩) w (fun v w' => v = topV es ∧ ∃ l' es', Heaped w w' B p l l' turn es' ∧ es'.length = es.length - 1 ∧ (∀ e ∈ es, e = hat es 0 ∨ e ∈ es') ∧ ∀ e ∈ es', e ∈ es) ?_) (by rintro v w' ⟨rfl, h⟩; exact ⟨rfl, h⟩)
  intro w1 hw1
  have hb1 : Below w.heap.size w w1 := by subst hw1; exact below_alloc _ _
  have hz1 : w1.heap.size = w.heap.size + 1 := by subst hw1; exact alloc_size _ _
  have hl1 : w1.heap[w.heap.size]? = some (.cells #[Value.int .i64 0, Value.int .i64 0, Value.int .i64 0] 343) := by subst hw1; exact alloc_new _ _
  have h1 := h.on hb1
  refine (heapPeek_spec w1 B p l turn es h1).mono ?_
  rintro e w2 ⟨rfl, hb2⟩
  have h2 := h1.on hb2
  have hl2 := held_on hb2 hl1
  have hb12 := below_then hb1 hb2
  -- what is left to do with the answer x
  have rest : ∀ (f a b r q : Int) (ok : Bool), topV es = .tuple #[.agg #[.int .i64 f, .int .i64 a, .int .i64 b], .int .i64 r, .int .i64 q, .bool ok] → (ok = true ↔ es ≠ []) → ∀ w3 : World, w3 = w2.alloc (.cells #[Value.int .i64 0, Value.int .i64 0, Value.int .i64 0] 343) →
      StoreP w3 (nb w2) (fun w4 =>
      ∀ J1 : List Value → World → Prop, (∀ w5 : World, (∃ g0 : Int, ∃ g1 : Int, ∃ g2 : Int, (w5.cell? (nb w2) = some (Value.int .i64 g0) ∧ w5.cell? ((nb w2).add 1) = some (Value.int .i64 g1) ∧ w5.cell? ((nb w2).add 2) = some (Value.int .i64 g2) ∧ True) ∧
        StoreP w5 (nb w) (fun w6 =>
        ∃ res0 : Int, ∃ res1 : Int, ∃ res2 : Int, (w6.cell? (nb w) = some (Value.int .i64 res0) ∧ w6.cell? ((nb w).add 1) = some (Value.int .i64 res1) ∧ w6.cell? ((nb w).add 2) = some (Value.int .i64 res2) ∧ True) ∧
        (Value.tuple #[Value.agg #[Value.int .i64 res0, Value.int .i64 res1, Value.int .i64 res2], Value.int .i64 r, Value.int .i64 q, Value.bool ok] = topV es ∧ ∃ l' es', Heaped w w6 B p l l' turn es' ∧ es'.length = es.length - 1 ∧ (∀ e ∈ es, e = hat es 0 ∨ e ∈ es') ∧ ∀ e ∈ es', e ∈ es)) [Value.int .i64 g0, Value.int .i64 g1, Value.int .i64 g2] 0) → J1 [] w5) →
      CondP ok
        (NilC (some ⟨p, 0, none⟩) (fun pa =>
         ∃ lA : Option Addr, ∃ lN : Nat, ∃ lC : Nat, w4.cell? (pa.add 0) = some (Value.slice lA lN lC) ∧
         Ar .i64 ((((lN : Nat) : Int) : Int) - 1) (fun n =>
         Calls Tryz.prog 279 #[Value.pointer (some ⟨p, 0, none⟩), Value.int .i64 0, Value.int .i64 n] w4 (fun e7 w7 =>
         e7 = .returned (Value.tuple #[]) ∧
         NilC (some ⟨p, 0, none⟩) (fun pa_2 =>
         ∃ lA_3 : Option Addr, ∃ lN_4 : Nat, ∃ lC_5 : Nat, w7.cell? (pa_2.add 0) = some (Value.slice lA_3 lN_4 lC_5) ∧
         (0 : Int) ≤ ((0 : Nat) : Int) ∧ ((0 : Nat) : Int) ≤ (n : Int) ∧ (n : Int) ≤ ((lC_5 : Nat) : Int) ∧ True ∧ True ∧
         NilC (some ⟨p, 0, none⟩) (fun pa_6 =>
         (Value.slice (slBase lA_3 ((0 : Nat) : Int).toNat ((lC_5 : Nat) : Int).toNat 6) ((n : Int).toNat - ((0 : Nat) : Int).toNat) (((lC_5 : Nat) : Int).toNat - ((0 : Nat) : Int).toNat)).oneCell' = true ∧ (∃ u, w7.cell? (pa_6.add 0) = some u) ∧ w7.frozen? (pa_6.add 0) = false ∧
         ∀ w8 : World, w8 = (w7.setCell (pa_6.add 0) (Value.slice (slBase lA_3 ((0 : Nat) : Int).toNat ((lC_5 : Nat) : Int).toNat 6) ((n : Int).toNat - ((0 : Nat) : Int).toNat) (((lC_5 : Nat) : Int).toNat - ((0 : Nat) : Int).toNat))) →
         Calls Tryz.prog 280 #[Value.pointer (some ⟨p, 0, none⟩), Value.int .i64 0] w8 (fun e9 w9 =>
         e9 = .returned (Value.tuple #[]) ∧
         J1 [] w9)))))))
        (J1 [] w4)) [Value.int .i64 f, Value.int .i64 a, Value.int .i64 b] 0 := by
    intro f a b r q ok htop hok w3 hw3
    refine storeP_new [.int .i64 0, .int .i64 0, .int .i64 0] [.int .i64 f, .int .i64 a, .int .i64 b] rfl (ones_triple _ _ _) w3 hw3 ?_
    intro w4 hx4 hz4 hB4
    have h4 := h2.on hB4
    have hl4 := held_on hB4 hl2
    have hb14 := below_then hb12 hB4
    have hpw : p < w.heap.size := h.lt
    have hlw : ∀ k, l.v.ownBlock = some k → k < w.heap.size := fun k hk => (own_lt h.row k hk).2
    intro J hJ
    -- the end of it: from a world in which the heap has moved
    have fin : ∀ (w5 : World) (l' : Sl) (es' : List HE), HpRaw w5 B p l' turn es' → IsHeap es' → Moves B w4 w5 p l l' → (∀ k, l'.v.ownBlock = some k → l.v.ownBlock = some k) → es'.length = es.length - 1 → (∀ e ∈ es, e = hat es 0 ∨ e ∈ es') → (∀ e ∈ es', e ∈ es) → J [] w5 := by
      intro w5 l' es' h5 hh5 mv5 hown5 hlen5 hm1 hm2
      have hz14 := hb14.size
      have hz12 := hb12.size
      have hx5 : w5.heap[w2.heap.size]? = some (.cells #[Value.int .i64 f, Value.int .i64 a, Value.int .i64 b] 343) := by
        rw [mv5.keep _ (by omega) (by omega) fun e => by have := hlw _ e; omega]
        exact hx4
      have hr5 : w5.heap[w.heap.size]? = some (.cells #[Value.int .i64 0, Value.int .i64 0, Value.int .i64 0] 343) := by
        rw [mv5.keep _ (by have := hb2.size; omega) (by omega) fun e => by have := hlw _ e; omega]
        exact hl4
      refine hJ _ ⟨_, _, _, agg3 hx5, ?_⟩
      refine storeP_cells hr5 [.int .i64 f, .int .i64 a, .int .i64 b] rfl (ones_triple _ _ _) ?_
      intro w6 hr6 hs6 hz6 hB6
      refine ⟨_, _, _, agg3 hr6, htop.symm, l', es', ⟨⟨by rw [hs6 p (by omega)]; exact h5.blk, own_same h5.row fun k hk => hs6 k fun e => by have := hlw _ (hown5 _ hk); omega, h5.len, h5.off, h5.bp⟩, hh5, ⟨fun k hk hp hlb => ?_, fun k hk => .inl (hown5 k hk), ?_, ?_⟩⟩, hlen5, hm1, hm2⟩
      · rw [hs6 k (by omega), mv5.keep k (by omega) hp hlb, hb14.block k hk]
      · have := mv5.size
        omega
      · exact hB6 _ _ hB ((hb14.mono hB).trans mv5.below)
    refine CondP.mk (fun h0 => ?_) fun h0 => ?_
    · have hne : es ≠ [] := hok.1 h0
      obtain ⟨n, hn⟩ : ∃ n, es.length = n + 1 := ⟨es.length - 1, by have := List.length_pos_iff.2 hne; omega⟩
      have hlen := h4.len
      refine NilC.mk _ rfl ⟨l.a, l.n, l.c, by rw [ptr_add0 p _ h4.blk]; rfl, Ar.ok64 (by omega) (by omega) ?_⟩
      have e1 : (((l.n : Nat) : Int) - 1) = ((n : Nat) : Int) := by omega
      rw [e1]
      have hz14 := hb14.size
      refine (heapSwap_spec w4 B p l turn es h4 (by omega) 0 n (by omega) (by omega)).mono ?_
      rintro e w7 ⟨rfl, h7, mv7⟩
      obtain ⟨a0, c0, hv, hle⟩ := own_form h7.row
      have hlc : l.n ≤ l.c := by
        rcases h7.row.2 with ⟨hv, _⟩ | ⟨g, cap, cur, hv, _, _, hc, _⟩
        · obtain ⟨la, ln, lc⟩ := l
          cases hv
          exact Nat.le_refl _
        · obtain ⟨la, ln, lc⟩ := l
          cases hv
          exact hc
      refine ⟨rfl, NilC.mk _ rfl ⟨l.a, l.n, l.c, by rw [ptr_add0 p _ h7.blk]; rfl, by omega, by omega, by omega, trivial, trivial, NilC.mk _ rfl ?_⟩⟩
      have hsl : slBase l.a ((0 : Nat) : Int).toNat ((l.c : Nat) : Int).toNat 6 = l.a := by
        unfold slBase
        split
        · rfl
        · cases l.a with
          | none => rfl
          | some a => simp [add_zero]
      have e3 : ((n : Nat) : Int).toNat - ((0 : Nat) : Int).toNat = n := by omega
      have e4 : ((l.c : Nat) : Int).toNat - ((0 : Nat) : Int).toNat = l.c := by omega
      rw [hsl, e3, e4]
      refine ⟨rfl, ⟨_, by rw [ptr_add0 p _ h7.blk]; rfl⟩, frozen_put h7.blk, ?_⟩
      intro w8 hw8
      have hblk8 : w8.heap[p]? = some (.cells #[.slice l.a n l.c, .int .i64 (turn : Int)] tHeap (0, 0)) := by subst hw8; exact heap_put h7.blk _
      have hown8 : ∀ k, (Value.slice l.a n l.c).ownBlock = some k ↔ l.v.ownBlock = some k := by
        intro k
        exact own_slice _ _ _ _ _ k
      have hrow8 : w8.ownsRow B tThing 6 (Value.slice l.a n l.c) n (((swp es 0 n).take n).flatMap encHE) := by
        have := own_short encHE_len h7.row (by rw [swp_length]; exact hlen) n (by rw [swp_length]; omega)
        subst hw8
        exact own_setCell this _ (by rw [add_block]; exact fun e => h7.off ((hown8 _).1 e))
      have hraw8 : HpRaw w8 B p ⟨l.a, n, l.c⟩ turn ((swp es 0 n).take n) := ⟨hblk8, hrow8, by rw [List.length_take, swp_length]; show n = _; omega, fun e => h7.off ((hown8 _).1 e), h7.bp⟩
      have mv8 : Moves B w4 w8 p l ⟨l.a, n, l.c⟩ := by
        refine ⟨fun k hk hp hlb => ?_, fun k hk => .inl ((hown8 k).1 hk), ?_, ?_⟩
        · rw [← mv7.keep k hk hp hlb]
          subst hw8
          exact heap_setCell_ne (by rw [add_block]; exact hp)
        · subst hw8
          rw [size_setCell]
          exact mv7.size
        · subst hw8
          exact below_put mv7.below h7.bp _
      refine (heapDown_call w8 B p ⟨l.a, n, l.c⟩ turn _ hraw8 (by have := mv8.size; omega) (by rw [List.length_take, swp_length]; omega) (pop_down hh n hn)).mono ?_
      rintro e w9 ⟨rfl, es', ⟨h9, hh9, mv9⟩, hl9, hm9⟩
      obtain ⟨p1, p2⟩ := pop_mem n hn
      exact ⟨rfl, fin w9 ⟨l.a, n, l.c⟩ es' h9 hh9 (mv8.trans mv9) (fun k hk => (hown8 k).1 hk) (by rw [hl9, List.length_take, swp_length]; omega) (fun e he => (p1 e he).imp id fun h => (hm9 e).2 h) fun e he => p2 e ((hm9 e).1 he)⟩
    · have hnil : es = [] := by
        rcases Classical.em (es = []) with h | h
        · exact h
        · rw [hok.2 h] at h0; cases h0
      refine fin w4 l es h4 hh (Moves.of_below p l (Below.refl _ _) (Nat.le_trans hB hb14.size)) (fun _ h => h) (by rw [hnil]; rfl) (fun e he => .inr he) fun e he => he
  cases hes : es with
  | nil =>
    subst hes
    exact ⟨_, _, _, _, _, _, rfl, rest 0 0 0 0 0 false rfl (by simp)⟩
  | cons x t =>
    subst hes
    exact ⟨_, _, _, _, _, _, rfl, rest x.f x.a x.b x.r x.p true rfl (by simp)⟩
end Go.Proofs.YtboemnagahmlkaaGreat.Eng

/- The chain and its queue, in plain Lean: joining what is least comes to what the passes make. -/
set_option linter.unusedVariables false
namespace Go.Proofs.YtboemnagahmlkaaGreat.Eng
structure Nd where
  id : Int
  ahead : Int
  next : Int
  deriving Inhabited
abbrev ndAt (ns : List Nd) (p : Nat) : Nd := ns.getD p default
theorem ndAt_set {ns : List Nd} {q : Nat} (hq : q < ns.length) (x : Nd) (p : Nat) : ndAt (ns.set q x) p = if p = q then x else ndAt ns p := by
  unfold ndAt
  simp only [List.getD_eq_getElem?_getD, List.getElem?_set]
  by_cases h : q = p
  · subst h; simp [hq]
  · rw [if_neg h, if_neg (fun e => h e.symm)]
def hd (vs : List Nat) (nxt : Int) : Int := match vs with
  | [] => nxt
  | p :: _ => p
def lst : List Nat → Int → Int
  | [], prev => prev
  | p :: r, _ => lst r p
/-- These places stand one behind another. -/
def Ch (ns : List Nd) : Int → List Nat → Int → Prop
  | _, [], _ => True
  | prev, p :: r, nxt => (ndAt ns p).ahead = prev ∧ (ndAt ns p).next = hd r nxt ∧ Ch ns p r nxt
theorem ch_append {ns : List Nd} {vs : List Nat} {nxt : Int} : ∀ (us : List Nat) (prev : Int), Ch ns prev (us ++ vs) nxt ↔ Ch ns prev us (hd vs nxt) ∧ Ch ns (lst us prev) vs nxt
  | [], prev => by simp [Ch, lst]
  | p :: r, prev => by
    have hh : hd (r ++ vs) nxt = hd r (hd vs nxt) := by cases r <;> rfl
    simp only [List.cons_append, Ch, lst, ch_append r p, hh, and_assoc]
theorem ch_congr {ns ns' : List Nd} : ∀ (ps : List Nat) (prev nxt : Int), (∀ p ∈ ps, (ndAt ns' p).ahead = (ndAt ns p).ahead ∧ (ndAt ns' p).next = (ndAt ns p).next) → Ch ns prev ps nxt → Ch ns' prev ps nxt
  | [], _, _, _, _ => trivial
  | p :: r, prev, nxt, h, hc => ⟨(h p (by simp)).1.trans hc.1, (h p (by simp)).2.trans hc.2.1, ch_congr r p nxt (fun q hq => h q (by simp [hq])) hc.2.2⟩
structure LinkS (ns : List Nd) (ps : List Nat) : Prop where
  ch : Ch ns (-1) ps (-1)
  sorted : ps.Pairwise (· < ·)
  lt : ∀ p ∈ ps, p < ns.length
  alive : ∀ p ∈ ps, 0 ≤ (ndAt ns p).id
  dead : ∀ p, p < ns.length → p ∉ ps → (ndAt ns p).id = -2
  head : ns ≠ [] → hd ps (-1) = 0
def idsOf (ns : List Nd) (ps : List Nat) : List Int := ps.map fun p => (ndAt ns p).id
/-- What stands where two became one. -/
def joinW (ns : List Nd) (i q : Nat) (a c : Int) : List Nd :=
  if a = -1 then (ns.set q ⟨-2, (ndAt ns q).ahead, (ndAt ns q).next⟩).set i ⟨c, (ndAt ns i).ahead, a⟩
  else ((ns.set q ⟨-2, (ndAt ns q).ahead, (ndAt ns q).next⟩).set i ⟨c, (ndAt ns i).ahead, a⟩).set a.toNat ⟨(ndAt ((ns.set q ⟨-2, (ndAt ns q).ahead, (ndAt ns q).next⟩).set i ⟨c, (ndAt ns i).ahead, a⟩) a.toNat).id, (i : Int), (ndAt ((ns.set q ⟨-2, (ndAt ns q).ahead, (ndAt ns q).next⟩).set i ⟨c, (ndAt ns i).ahead, a⟩) a.toNat).next⟩
def joinN (ns : List Nd) (i : Nat) (c : Int) : List Nd := joinW ns i (ndAt ns i).next.toNat (ndAt ns (ndAt ns i).next.toNat).next c
theorem joinN_length (ns : List Nd) (i : Nat) (c : Int) : (joinN ns i c).length = ns.length := by
  unfold joinN joinW
  split <;> simp
theorem joinW_at {ns : List Nd} {i q : Nat} {c z : Int} (hi : i < ns.length) (hq : q < ns.length) (hiq : i < q) (hz : z = -1 ∨ ∃ a : Nat, z = a ∧ q < a ∧ a < ns.length) (p : Nat) :
    ndAt (joinW ns i q z c) p = if p = i then ⟨c, (ndAt ns i).ahead, z⟩ else if p = q then ⟨-2, (ndAt ns q).ahead, (ndAt ns q).next⟩ else if z = (p : Int) then ⟨(ndAt ns p).id, (i : Int), (ndAt ns p).next⟩ else ndAt ns p := by
  have n2 : ∀ (a : Int) (p : Nat), ndAt ((ns.set q ⟨-2, (ndAt ns q).ahead, (ndAt ns q).next⟩).set i ⟨c, (ndAt ns i).ahead, a⟩) p = if p = i then ⟨c, (ndAt ns i).ahead, a⟩ else if p = q then ⟨-2, (ndAt ns q).ahead, (ndAt ns q).next⟩ else ndAt ns p := by
    intro a p
    rw [ndAt_set (by simpa using hi), ndAt_set hq]
  unfold joinW
  rcases hz with rfl | ⟨a, rfl, ha1, ha2⟩
  · rw [if_pos rfl, n2]
    have : ¬ ((-1 : Int) = (p : Int)) := by omega
    rw [if_neg this]
  · rw [if_neg (by omega), Int.toNat_natCast, ndAt_set (by simp; exact ha2), n2, n2]
    by_cases e : p = a
    · subst e
      rw [if_pos rfl, if_neg (by omega), if_neg (by omega), if_neg (by omega), if_neg (by omega), if_pos rfl]
    · rw [if_neg e]
      have : ¬ ((a : Int) = (p : Int)) := by omega
      rw [if_neg this]
theorem join_link {ns : List Nd} {us vs : List Nat} {i q : Nat} {c : Int} (h : LinkS ns (us ++ i :: q :: vs)) (hc : 0 ≤ c) :
    LinkS (joinN ns i c) (us ++ i :: vs) ∧ idsOf (joinN ns i c) (us ++ i :: vs) = idsOf ns us ++ c :: idsOf ns vs ∧ (ndAt ns i).next = q ∧ (ndAt ns i).ahead = lst us (-1) ∧ (∀ p, p ∈ us ∨ p ∈ vs → (ndAt (joinN ns i c) p).id = (ndAt ns p).id) ∧ (ndAt (joinN ns i c) i).id = c ∧ (ndAt (joinN ns i c) i).ahead = lst us (-1) ∧ (ndAt (joinN ns i c) i).next = hd vs (-1) := by
  obtain ⟨c1, c2⟩ := (ch_append us (-1)).1 h.ch
  obtain ⟨a1, a2, a3, a4, c3⟩ := c2
  simp only [hd] at a2
  have hs := h.sorted
  rw [List.pairwise_append, List.pairwise_cons, List.pairwise_cons] at hs
  obtain ⟨s1, ⟨s2, s3, s4⟩, s5⟩ := hs
  have hi : i < ns.length := h.lt i (by simp)
  have hq : q < ns.length := h.lt q (by simp)
  have hiq : i < q := s2 q (by simp)
  have hus : ∀ p ∈ us, p < i := fun p hp => s5 p hp i (by simp)
  have hvs : ∀ p ∈ vs, q < p := s3
  have hvl : ∀ p ∈ vs, p < ns.length := fun p hp => h.lt p (by simp [hp])
  -- the node of a place, behind the join
  have at_ : ∀ p, ndAt (joinN ns i c) p = if p = i then ⟨c, (ndAt ns i).ahead, hd vs (-1)⟩ else if p = q then ⟨-2, (ndAt ns q).ahead, (ndAt ns q).next⟩ else if hd vs (-1) = (p : Int) then ⟨(ndAt ns p).id, (i : Int), (ndAt ns p).next⟩ else ndAt ns p := by
    intro p
    unfold joinN
    rw [a2, Int.toNat_natCast, a4]
    refine (joinW_at hi hq hiq ?_ p).trans (by rw [a4])
    cases hv : vs with
    | nil => exact .inl rfl
    | cons a r => exact .inr ⟨a, rfl, hvs a (by simp [hv]), hvl a (by simp [hv])⟩
  have hvh : ∀ p : Nat, hd vs (-1) = (p : Int) → p ∈ vs := fun p hp => by
    cases hv : vs with
    | nil =>
      rw [hv] at hp
      simp only [hd] at hp
      omega
    | cons a r =>
      rw [hv] at hp
      simp only [hd] at hp
      have : a = p := by omega
      simp [this]
  have atU : ∀ p ∈ us, ndAt (joinN ns i c) p = ndAt ns p := by
    intro p hp
    have h1 := hus p hp
    rw [at_, if_neg (by omega), if_neg (by omega), if_neg fun e => by have := hvs p (hvh p e); omega]
  have atV : ∀ p ∈ vs, (ndAt (joinN ns i c) p).id = (ndAt ns p).id ∧ (ndAt (joinN ns i c) p).next = (ndAt ns p).next ∧ (ndAt (joinN ns i c) p).ahead = if hd vs (-1) = (p : Int) then (i : Int) else (ndAt ns p).ahead := by
    intro p hp
    have h1 := hvs p hp
    rw [at_, if_neg (by omega), if_neg (by omega)]
    by_cases e : hd vs (-1) = (p : Int)
    · rw [if_pos e, if_pos e]; exact ⟨rfl, rfl, rfl⟩
    · rw [if_neg e, if_neg e]; exact ⟨rfl, rfl, rfl⟩
  have atI : ndAt (joinN ns i c) i = ⟨c, (ndAt ns i).ahead, hd vs (-1)⟩ := by rw [at_, if_pos rfl]
  refine ⟨⟨(ch_append us (-1)).2 ⟨ch_congr us _ _ (fun p hp => by rw [atU p hp]; exact ⟨rfl, rfl⟩) c1, ?_⟩, ?_, ?_, ?_, ?_, ?_⟩, ?_, a2, a1, fun p hp => ?_, by rw [atI], by rw [atI]; exact a1, by rw [atI]⟩
  · refine ⟨by rw [atI]; exact a1, by rw [atI], ?_⟩
    cases hv : vs with
    | nil => trivial
    | cons a r =>
      rw [hv] at c3
      obtain ⟨b1, b2, b3⟩ := c3
      have ha := atV a (by rw [hv]; simp)
      have hrs : ∀ p ∈ r, a < p := by
        rw [hv] at s4
        exact (List.pairwise_cons.1 s4).1
      refine ⟨by rw [ha.2.2, hv]; simp [hd], by rw [ha.2.1]; exact b2, ch_congr r _ _ (fun p hp => ?_) b3⟩
      have h2 := atV p (by rw [hv]; simp [hp])
      refine ⟨?_, h2.2.1⟩
      rw [h2.2.2, hv, if_neg fun e => by have := hrs p hp; simp only [hd] at e; omega]
  · rw [List.pairwise_append, List.pairwise_cons]
    exact ⟨s1, ⟨fun p hp => s2 p (by simp [hp]), s4⟩, fun p hp x hx => s5 p hp x (by
      rcases List.mem_cons.1 hx with rfl | hx
      · simp
      · simp [hx])⟩
  · intro p hp
    rw [joinN_length]
    exact h.lt p (by
      rcases List.mem_append.1 hp with hp | hp
      · simp [hp]
      · rcases List.mem_cons.1 hp with rfl | hp
        · simp
        · simp [hp])
  · intro p hp
    rcases List.mem_append.1 hp with hp | hp
    · rw [atU p hp]; exact h.alive p (by simp [hp])
    · rcases List.mem_cons.1 hp with rfl | hp
      · rw [atI]; exact hc
      · rw [(atV p hp).1]; exact h.alive p (by simp [hp])
  · intro p hp hn
    rw [joinN_length] at hp
    simp only [List.mem_append, List.mem_cons, not_or] at hn
    rw [at_, if_neg hn.2.1]
    by_cases e : p = q
    · rw [if_pos e]
    · rw [if_neg e, if_neg fun e => hn.2.2 (hvh p e)]
      exact h.dead p hp (by simp [hn.1, hn.2.1, hn.2.2, e])
  · intro hne
    have hne' : ns ≠ [] := fun e => by rw [e] at hi; simp at hi
    have := h.head hne'
    cases us with
    | nil => exact this
    | cons u us => exact this
  · rw [idsOf, List.map_append, List.map_cons, atI]
    congr 1
    · exact List.map_congr_left fun p hp => by rw [atU p hp]
    · congr 1
      exact List.map_congr_left fun p hp => (atV p hp).1
  · rcases hp with hp | hp
    · rw [atU p hp]
    · exact (atV p hp).1

/-! ### The queue -/
/-- What waits stands for two that may become one. -/
def GoodE (ms : List (Int × Int)) (below : Int) (n : Nat) (e : HE) : Prop := ∃ (i f : Nat), ms.idxOf? (e.a, e.b) = some i ∧ e.r = ((256 + i : Nat) : Int) ∧ e.r < below ∧ e.f = (f : Int) ∧ e.p = (f : Int) ∧ f < n
structure Waits (ms : List (Int × Int)) (below : Int) (ns : List Nd) (ps : List Nat) (es : List HE) : Prop where
  good : ∀ e ∈ es, GoodE ms below ns.length e
  all : ∀ us p q vs, ps = us ++ p :: q :: vs → ∀ i, ms.idxOf? ((ndAt ns p).id, (ndAt ns q).id) = some i → ((256 + i : Nat) : Int) < below → ∃ e ∈ es, e.f = (p : Int) ∧ e.a = (ndAt ns p).id ∧ e.b = (ndAt ns q).id
def Stale (ns : List Nd) (e : HE) : Prop := (ndAt ns e.f.toNat).id ≠ e.a ∨ (ndAt ns e.f.toNat).next = -1 ∨ (ndAt ns (ndAt ns e.f.toNat).next.toNat).id ≠ e.b
instance (ns : List Nd) (e : HE) : Decidable (Stale ns e) := by unfold Stale; infer_instance
/-- Two tokens of a chain that stand side by side. -/
theorem beside_ids {ns : List Nd} {ps : List Nat} {a b : Int} (h : Beside a b (idsOf ns ps)) : ∃ us p q vs, ps = us ++ p :: q :: vs ∧ (ndAt ns p).id = a ∧ (ndAt ns q).id = b := by
  obtain ⟨u, v, he⟩ := h
  obtain ⟨us, rest, rfl, h1, h2⟩ := List.map_eq_append_iff.1 he
  obtain ⟨p, r1, rfl, h3, h4⟩ := List.map_eq_cons_iff.1 h2
  obtain ⟨q, vs, rfl, h5, h6⟩ := List.map_eq_cons_iff.1 h4
  exact ⟨us, p, q, vs, rfl, h3, h5⟩
theorem not_stale_split {ms : List (Int × Int)} {below : Int} {ns : List Nd} {ps : List Nat} {e : HE} (hL : LinkS ns ps) (hg : GoodE ms below ns.length e) (hpos : ∀ m ∈ ms, 0 ≤ m.1) (hs : ¬ Stale ns e) :
    ∃ (us : List Nat) (f q : Nat) (vs : List Nat), ps = us ++ f :: q :: vs ∧ e.f = (f : Int) ∧ (ndAt ns f).id = e.a ∧ (ndAt ns q).id = e.b ∧ (ndAt ns f).next = (q : Int) := by
  obtain ⟨i, f, hi, hr, hb, hf, hp, hn⟩ := hg
  simp only [Stale, not_or, Classical.not_not] at hs
  obtain ⟨h1, h2, h3⟩ := hs
  rw [hf, Int.toNat_natCast] at h1 h2 h3
  have hmem : (e.a, e.b) ∈ ms := by
    rcases Classical.em ((e.a, e.b) ∈ ms) with h | h
    · exact h
    · rw [List.idxOf?_eq_none_iff.2 h] at hi; cases hi
  have h0 := hpos _ hmem
  have hfm : f ∈ ps := by
    rcases Classical.em (f ∈ ps) with h | h
    · exact h
    · have := hL.dead f hn h
      omega
  obtain ⟨us, rest, rfl⟩ := List.append_of_mem hfm
  obtain ⟨_, c2⟩ := (ch_append us (-1)).1 hL.ch
  obtain ⟨_, a2, _⟩ := c2
  cases rest with
  | nil => exact absurd a2 h2
  | cons q vs =>
    simp only [hd] at a2
    rw [a2, Int.toNat_natCast] at h3
    exact ⟨us, f, q, vs, rfl, hf, h1, h3, a2⟩
theorem take_sound {k : Int} : ∀ {ms : List (Int × Int)} {k : Int} (n : Nat), Sound k ms → Sound k (ms.take n)
  | [], _, n, _ => by simp [Sound]
  | m :: ms, k, 0, _ => by simp [Sound]
  | m :: ms, k, n + 1, h => ⟨h.1, h.2.1, take_sound (k := k) n h.2.2⟩
theorem idx_take {ms : List (Int × Int)} {i : Nat} {m : Int × Int} (h : m ∈ ms.take i) : ∃ j, j < i ∧ ms.idxOf? m = some j := by
  have hm : m ∈ ms := List.mem_of_mem_take h
  cases hx : ms.idxOf? m with
  | none => exact absurd hm (List.idxOf?_eq_none_iff.1 hx)
  | some j =>
    refine ⟨j, ?_, rfl⟩
    obtain ⟨hj, he, hb⟩ := List.findIdx?_eq_some_iff_getElem.1 hx
    obtain ⟨k, hk, rfl⟩ := List.getElem_of_mem h
    simp only [List.length_take] at hk
    rcases Nat.lt_or_ge j i with h' | h'
    · exact h'
    · exfalso
      have := hb k (by omega)
      simp at this
/-- **What is least may be joined.** -/
theorem least_join {ms : List (Int × Int)} {below : Int} {ns : List Nd} {ps : List Nat} {es : List HE} {e : HE} (hL : LinkS ns ps) (hW : Waits ms below ns ps es) (hS : Sound 256 ms) (hpos : ∀ m ∈ ms, 0 ≤ m.1) (he : e ∈ es) (hmin : ∀ x ∈ es, ¬ x.lt e) {us : List Nat} {f q : Nat} {vs : List Nat} (hps : ps = us ++ f :: q :: vs) (hf : e.f = (f : Int)) (ha : (ndAt ns f).id = e.a) (hb : (ndAt ns q).id = e.b) :
    encB ms below (idsOf ns ps) = encB ms below (idsOf ns us ++ e.r :: idsOf ns vs) := by
  obtain ⟨i, f', hi, hr, hlt, hf', hp, hn⟩ := hW.good e he
  have hff : f' = f := by omega
  subst hff
  obtain ⟨hil, hie, hib⟩ := List.findIdx?_eq_some_iff_getElem.1 hi
  have hie : ms[i] = (e.a, e.b) := by simpa using hie
  have hi2 : i < (below - 256).toNat := by omega
  have hsplit : ms.take (below - 256).toNat = ms.take i ++ (e.a, e.b) :: (ms.drop (i + 1)).take ((below - 256).toNat - (i + 1)) := by
    have h1 : ms.take (below - 256).toNat = (ms.take (below - 256).toNat).take i ++ (ms.take (below - 256).toNat).drop i := (List.take_append_drop _ _).symm
    rw [h1, List.take_take, Nat.min_eq_left (by omega)]
    congr 1
    rw [List.drop_take, List.drop_eq_getElem_cons hil, hie]
    rw [show (below - 256).toNat - i = ((below - 256).toNat - (i + 1)) + 1 by omega, List.take_succ_cons]
  have hids : idsOf ns ps = idsOf ns us ++ e.a :: e.b :: idsOf ns vs := by rw [hps, idsOf, List.map_append, List.map_cons, List.map_cons, ha, hb]; rfl
  -- an entry for each pair that stands there
  have entry : ∀ (us' : List Nat) (p q' : Nat) (vs' : List Nat), ps = us' ++ p :: q' :: vs' → ∀ j, ms.idxOf? ((ndAt ns p).id, (ndAt ns q').id) = some j → j ≤ i → ¬ (j < i ∨ p < f') := by
    intro us' p q' vs' hps' j hj hji hor
    obtain ⟨x, hx, hxf, hxa, hxb⟩ := hW.all us' p q' vs' hps' j hj (by omega)
    obtain ⟨j', fx, hj', hxr, _, hxf', hxp, _⟩ := hW.good x hx
    rw [hxa, hxb, hj] at hj'
    cases hj'
    apply hmin x hx
    unfold HE.lt
    omega
  unfold encB
  rw [hsplit, hids]
  have hlen : (ms.take i).length = i := by rw [List.length_take]; omega
  have := enc_join (k := 256) (low := ms.take i) (high := (ms.drop (i + 1)).take ((below - 256).toNat - (i + 1))) (m := (e.a, e.b)) (u := idsOf ns us) (v := idsOf ns vs) (by rw [← hsplit]; exact take_sound (k := 0) _ hS) ?_ ?_
  · rw [hlen] at this
    rw [this]
    congr 2
    congr 1
    omega
  · intro m hm hbs
    have hbs : Beside m.1 m.2 (idsOf ns ps) := by rw [hids]; exact hbs
    obtain ⟨us', p, q', vs', hps', h1, h2⟩ := beside_ids hbs
    obtain ⟨j, hj, hjx⟩ := idx_take hm
    exact entry us' p q' vs' hps' j (by rw [h1, h2]; exact hjx) (by omega) (.inl hj)
  · intro hbs
    have hbs : Beside e.a e.b (idsOf ns (us ++ [f'])) := by
      have : idsOf ns (us ++ [f']) = idsOf ns us ++ [e.a] := by rw [idsOf, List.map_append, List.map_cons, ha]; rfl
      rw [this]
      exact hbs
    obtain ⟨us', p, q', vs', hps', h1, h2⟩ := beside_ids hbs
    have hps2 : ps = us' ++ p :: q' :: (vs' ++ q :: vs) := by
      rw [hps]
      have : us ++ f' :: q :: vs = (us ++ [f']) ++ q :: vs := by simp
      rw [this, hps']
      simp
    have hpf : p < f' := by
      have hs := hL.sorted
      rw [hps, show us ++ f' :: q :: vs = (us ++ [f']) ++ q :: vs by simp] at hs
      have hs := (List.pairwise_append.1 hs).1
      have hq : q' ∈ us ++ [f'] := by rw [hps']; simp
      have hpq : p < q' := by
        rw [hps', List.pairwise_append, List.pairwise_cons] at hs
        exact hs.2.1.1 q' (by simp)
      rcases List.mem_append.1 hq with hq | hq
      · have hs2 := (List.pairwise_append.1 ((by
          have h0 := hL.sorted
          rw [hps] at h0
          exact h0) : (us ++ f' :: q :: vs).Pairwise (· < ·))).2.2 q' hq f' (by simp)
        omega
      · have := List.mem_singleton.1 hq
        omega
    exact entry us' p q' _ hps2 i (by rw [h1, h2]; exact hi) (Nat.le_refl _) (.inr hpf)
theorem waits_stale {ms : List (Int × Int)} {below : Int} {ns : List Nd} {ps : List Nat} {es es' : List HE} {e : HE} (hL : LinkS ns ps) (hW : Waits ms below ns ps es) (h1 : ∀ x ∈ es, x = e ∨ x ∈ es') (h2 : ∀ x ∈ es', x ∈ es) (hs : Stale ns e) : Waits ms below ns ps es' := by
  refine ⟨fun x hx => hW.good x (h2 x hx), fun us p q vs hps i hi hb => ?_⟩
  obtain ⟨x, hx, hf, ha, hb'⟩ := hW.all us p q vs hps i hi hb
  rcases h1 x hx with rfl | hx
  · exfalso
    have hc := hL.ch
    rw [hps] at hc
    obtain ⟨_, _, a2, _⟩ := (ch_append us (-1)).1 hc
    simp only [hd] at a2
    unfold Stale at hs
    rw [hf, Int.toNat_natCast, a2, Int.toNat_natCast] at hs
    rcases hs with h | h | h
    · exact h ha.symm
    · omega
    · exact h hb'.symm
  · exact ⟨x, hx, hf, ha, hb'⟩
/-- Does a place and the next one wait? -/
def Asked (ms : List (Int × Int)) (below : Int) (ns : List Nd) (j : Int) (es : List HE) : Prop := ∀ (p q : Nat) (i : Nat), j = (p : Int) → (ndAt ns p).next = (q : Int) → ms.idxOf? ((ndAt ns p).id, (ndAt ns q).id) = some i → ((256 + i : Nat) : Int) < below → ∃ e ∈ es, e.f = (p : Int) ∧ e.a = (ndAt ns p).id ∧ e.b = (ndAt ns q).id
theorem lst_last : ∀ (us : List Nat) (p : Nat) (prev : Int), lst (us ++ [p]) prev = p
  | [], p, prev => rfl
  | u :: us, p, prev => lst_last us p u
theorem waits_join {ms : List (Int × Int)} {below : Int} {ns : List Nd} {us vs : List Nat} {i q : Nat} {c : Int} {es es1 es' : List HE} {e : HE} (hL : LinkS ns (us ++ i :: q :: vs)) (hc : 0 ≤ c) (hW : Waits ms below ns (us ++ i :: q :: vs) es) (hei : e.f = (i : Int)) (h1 : ∀ x ∈ es, x = e ∨ x ∈ es1) (h2 : ∀ x ∈ es1, x ∈ es)
    (g1 : ∀ x ∈ es1, x ∈ es') (g2 : ∀ x ∈ es', x ∈ es1 ∨ GoodE ms below ns.length x) (q1 : Asked ms below (joinN ns i c) (lst us (-1)) es') (q2 : Asked ms below (joinN ns i c) i es') : Waits ms below (joinN ns i c) (us ++ i :: vs) es' := by
  obtain ⟨hL', _, hnx, hah, hid, hidi, hahi, hnxi⟩ := join_link hL hc
  have hs := hL.sorted
  rw [List.pairwise_append, List.pairwise_cons] at hs
  have hiu : i ∉ us := fun h => by have := hs.2.2 i h i (by simp); omega
  have hiv : i ∉ vs := fun h => by have := hs.2.1.1 i (by simp [h]); omega
  refine ⟨fun x hx => ?_, fun us' p r vs' hps j hj hb => ?_⟩
  · rw [joinN_length]
    rcases g2 x hx with h | h
    · exact hW.good x (h2 x h)
    · exact h
  · have hch := hL'.ch
    rw [hps] at hch
    obtain ⟨_, b1, b2, _⟩ := (ch_append us' (-1)).1 hch
    simp only [hd] at b2
    -- where the pair stands
    have old : (∃ us0 vs0, us ++ i :: q :: vs = us0 ++ p :: r :: vs0) → p ≠ i → (p ∈ us ∨ p ∈ vs) → (r ∈ us ∨ r ∈ vs) → ∃ x ∈ es', x.f = (p : Int) ∧ x.a = (ndAt (joinN ns i c) p).id ∧ x.b = (ndAt (joinN ns i c) r).id := by
      rintro ⟨us0, vs0, h0⟩ hpi hp hr
      rw [hid p hp, hid r hr] at hj ⊢
      obtain ⟨x, hx, hf, ha, hb'⟩ := hW.all us0 p r vs0 h0 j hj hb
      refine ⟨x, ?_, hf, ha, hb'⟩
      rcases h1 x hx with rfl | h
      · exfalso
        omega
      · exact g1 x h
    rcases List.append_eq_append_iff.1 hps with ⟨t, ht, hc'⟩ | ⟨t, ht, hc'⟩
    · -- us' = us ++ t, i :: vs = t ++ p :: r :: vs'
      cases t with
      | nil =>
        simp only [List.nil_append, List.cons.injEq] at hc'
        obtain ⟨rfl, _⟩ := hc'
        exact q2 i r j rfl b2 hj hb
      | cons t0 t =>
        simp only [List.cons_append, List.cons.injEq] at hc'
        obtain ⟨rfl, hv⟩ := hc'
        have hpv : p ∈ vs := by rw [hv]; simp
        refine old ⟨us ++ i :: q :: t, vs', by rw [hv]; simp⟩ (fun e => hiv (e ▸ hpv)) (.inr hpv) (.inr (by rw [hv]; simp))
    · -- us = us' ++ t, p :: r :: vs' = t ++ i :: vs
      match t, hc' with
      | [], hc' =>
        simp only [List.nil_append, List.cons.injEq] at hc'
        obtain ⟨rfl, _⟩ := hc'
        exact q2 p r j rfl b2 hj hb
      | [t0], hc' =>
        simp only [List.cons_append, List.nil_append, List.cons.injEq] at hc'
        obtain ⟨rfl, rfl, _⟩ := hc'
        have : lst us (-1) = (p : Int) := by rw [ht]; exact lst_last us' p (-1)
        rw [this] at q1
        exact q1 p r j rfl b2 hj hb
      | t0 :: t1 :: t, hc' =>
        simp only [List.cons_append, List.cons.injEq] at hc'
        obtain ⟨rfl, rfl, _⟩ := hc'
        have hpu : p ∈ us := by rw [ht]; simp
        have hru : r ∈ us := by rw [ht]; simp
        exact old ⟨us', t ++ i :: q :: vs, by rw [ht]; simp⟩ (fun e => hiu (e ▸ hpu)) (.inl hpu) (.inl hru)
/-- Nothing waits: nothing more is made. -/
theorem waits_none {ms : List (Int × Int)} {below : Int} {ns : List Nd} {ps : List Nat} (hW : Waits ms below ns ps []) : encB ms below (idsOf ns ps) = idsOf ns ps := by
  refine encFrom_none _ _ _ fun m hm hb => ?_
  obtain ⟨us, p, q, vs, hps, h1, h2⟩ := beside_ids hb
  obtain ⟨j, hj, hjx⟩ := idx_take hm
  obtain ⟨x, hx, _⟩ := hW.all us p q vs hps j (by rw [h1, h2]; exact hjx) (by omega)
  cases hx
/-! ### The beginning -/
def begN (bs : List Int) : List Nd := bs.zipIdx.map fun x => { id := x.1, ahead := (x.2 : Int) - 1, next := if x.2 + 1 = bs.length then -1 else (x.2 : Int) + 1 }
theorem begN_length (bs : List Int) : (begN bs).length = bs.length := by simp [begN]
theorem begN_at {bs : List Int} {p : Nat} (hp : p < bs.length) : ndAt (begN bs) p = { id := bs[p], ahead := (p : Int) - 1, next := if p + 1 = bs.length then -1 else (p : Int) + 1 } := by
  simp [ndAt, begN, List.getD_eq_getElem?_getD, hp]
theorem beg_ch (bs : List Int) : ∀ (k p : Nat), p + k = bs.length → Ch (begN bs) ((p : Int) - 1) (List.range' p k) (-1)
  | 0, p, h => trivial
  | k + 1, p, h => by
    simp only [List.range'_succ, Ch]
    rw [begN_at (show p < bs.length by omega)]
    refine ⟨rfl, ?_, ?_⟩
    · cases k with
      | zero => simp [hd]; omega
      | succ k =>
        rw [if_neg (by omega)]
        simp [List.range'_succ, hd]
    · have := beg_ch bs k (p + 1) (by omega)
      rw [show ((p + 1 : Nat) : Int) - 1 = (p : Int) by omega] at this
      exact this
theorem beg_link {bs : List Int} (h : ∀ b ∈ bs, 0 ≤ b) : LinkS (begN bs) (List.range' 0 bs.length) ∧ idsOf (begN bs) (List.range' 0 bs.length) = bs := by
  refine ⟨⟨by have := beg_ch bs bs.length 0 (by omega); simpa using this, ?_, fun p hp => ?_, fun p hp => ?_, fun p hp hn => ?_, fun hne => ?_⟩, ?_⟩
  · exact List.pairwise_lt_range' (s := 0) (n := bs.length)
  · rw [begN_length]
    have := List.mem_range'_1.1 hp
    omega
  · have := List.mem_range'_1.1 hp
    rw [begN_at (by omega)]
    exact h _ (List.getElem_mem _)
  · rw [begN_length] at hp
    exact absurd (List.mem_range'_1.2 ⟨by omega, by omega⟩) hn
  · cases bs with
    | nil => exact absurd rfl hne
    | cons b bs => rfl
  · apply List.ext_getElem
    · simp [idsOf]
    · intro i h1 h2
      simp only [idsOf, List.getElem_map, List.getElem_range']
      rw [show 0 + 1 * i = i by omega, begN_at h2]
theorem beg_waits {ms : List (Int × Int)} {below : Int} {bs : List Int} {es : List HE} (hg : ∀ e ∈ es, GoodE ms below bs.length e) (ha : ∀ p, p < bs.length → Asked ms below (begN bs) p es) : Waits ms below (begN bs) (List.range' 0 bs.length) es := by
  refine ⟨by rw [begN_length]; exact hg, fun us p q vs hps i hi hb => ?_⟩
  have hpm : p ∈ List.range' 0 bs.length := by rw [hps]; simp
  have hp : p < bs.length := by have := List.mem_range'_1.1 hpm; omega
  refine ha p hp p q i rfl ?_ hi hb
  have hc := beg_ch bs bs.length 0 (by omega)
  rw [hps] at hc
  obtain ⟨_, _, a2, _⟩ := (ch_append us _).1 hc
  exact a2
end Go.Proofs.YtboemnagahmlkaaGreat.Eng
