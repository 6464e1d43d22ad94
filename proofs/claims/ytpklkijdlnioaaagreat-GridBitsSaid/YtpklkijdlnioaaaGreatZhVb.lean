/- Vocabularies: how they are made, walked by the engine. -/
import Derived.Test.YtpklkijdlnioaaaGreatZhCh
set_option linter.unusedVariables false
set_option linter.unusedSimpArgs false
set_option maxRecDepth 100000
namespace Go.Proofs.YtpklkijdlnioaaaGreat.Eng
open Go Go.RowKit
theorem cloneM_spec (w : World) (a : Option Addr) (c : Nat) (xs : List (Int × Int)) (hr : Rw encPair 2 w a xs) (hl : xs.length ≤ 1000000000) :
    Calls Tryz.prog 157 #[.slice a xs.length c] w fun e w' => ∃ s : Sl, e = .returned s.v ∧ s.n = xs.length ∧ w'.ownsRow w.heap.size tMg 2 s.v s.n (xs.flatMap encPair) ∧ Below w.heap.size w w' := by
  refine calls_ret (vc157_calls a xs.length c w (fun v w' => ∃ s : Sl, v = s.v ∧ s.n = xs.length ∧ w'.ownsRow w.heap.size tMg 2 s.v s.n (xs.flatMap encPair) ∧ Below w.heap.size w w') ?_) (by rintro v w' ⟨s, rfl, h⟩; exact ⟨s, rfl, h⟩)
  refine CondP.mk (fun h0 => ?_) fun h0 => ?_
  · have hx : xs = [] := by
      cases xs with
      | nil => rfl
      | cons x t =>
        obtain ⟨p, hp, _⟩ := hr 0 x rfl
        rw [hp] at h0
        cases h0
    subst hx
    exact ⟨⟨none, 0, 0⟩, rfl, rfl, own_nil _ _ _ _, Below.refl _ _⟩
  · obtain ⟨p, rfl⟩ : ∃ p, a = some p := by
      cases a with
      | none => cases h0
      | some p => exact ⟨p, rfl⟩
    intro w1 hw1
    obtain ⟨A, C, w2, h2, h3, h4⟩ := copy_row (enc := encPair) (sz := 2) (fun _ => rfl) (by decide) (fun x => ones_pair _ _) 33 tMg undMgs infoMg rfl w ⟨some p, xs.length, c⟩ xs (.inr ⟨p, rfl⟩) hr rfl (by simp only; omega) (by simp only; omega) w1 hw1
    exact ⟨A, xs.length, C, w2, h2, ⟨A, xs.length, C⟩, rfl, rfl, h3, h4⟩
theorem cloneT_spec (w : World) (a : Option Addr) (c : Nat) (xs : List (Bs)) (hr : Rw encStr 1 w a xs) (hl : xs.length ≤ 1000000000) :
    Calls Tryz.prog 158 #[.slice a xs.length c] w fun e w' => ∃ s : Sl, e = .returned s.v ∧ s.n = xs.length ∧ w'.ownsRow w.heap.size tStr 1 s.v s.n (xs.flatMap encStr) ∧ Below w.heap.size w w' := by
  refine calls_ret (vc158_calls a xs.length c w (fun v w' => ∃ s : Sl, v = s.v ∧ s.n = xs.length ∧ w'.ownsRow w.heap.size tStr 1 s.v s.n (xs.flatMap encStr) ∧ Below w.heap.size w w') ?_) (by rintro v w' ⟨s, rfl, h⟩; exact ⟨s, rfl, h⟩)
  refine CondP.mk (fun h0 => ?_) fun h0 => ?_
  · have hx : xs = [] := by
      cases xs with
      | nil => rfl
      | cons x t =>
        obtain ⟨p, hp, _⟩ := hr 0 x rfl
        rw [hp] at h0
        cases h0
    subst hx
    exact ⟨⟨none, 0, 0⟩, rfl, rfl, own_nil _ _ _ _, Below.refl _ _⟩
  · obtain ⟨p, rfl⟩ : ∃ p, a = some p := by
      cases a with
      | none => cases h0
      | some p => exact ⟨p, rfl⟩
    intro w1 hw1
    obtain ⟨A, C, w2, h2, h3, h4⟩ := copy_row (enc := encStr) (sz := 1) (fun _ => rfl) (by decide) (fun x u hu => by rw [List.mem_singleton.1 hu]; rfl) tStrs tStr undStrs infoStr rfl w ⟨some p, xs.length, c⟩ xs (.inr ⟨p, rfl⟩) hr rfl (by simp only; omega) (by simp only; omega) w1 hw1
    exact ⟨A, xs.length, C, w2, h2, ⟨A, xs.length, C⟩, rfl, rfl, h3, h4⟩
theorem cloneS_spec (w : World) (a : Option Addr) (c : Nat) (xs : List (Int × Bs)) (hr : Rw encSpecial 2 w a xs) (hl : xs.length ≤ 1000000000) :
    Calls Tryz.prog 128 #[.slice a xs.length c] w fun e w' => ∃ s : Sl, e = .returned s.v ∧ s.n = xs.length ∧ w'.ownsRow w.heap.size tSp 2 s.v s.n (xs.flatMap encSpecial) ∧ Below w.heap.size w w' := by
  refine calls_ret (vc128_calls a xs.length c w (fun v w' => ∃ s : Sl, v = s.v ∧ s.n = xs.length ∧ w'.ownsRow w.heap.size tSp 2 s.v s.n (xs.flatMap encSpecial) ∧ Below w.heap.size w w') ?_) (by rintro v w' ⟨s, rfl, h⟩; exact ⟨s, rfl, h⟩)
  refine CondP.mk (fun h0 => ?_) fun h0 => ?_
  · have hx : xs = [] := by
      cases xs with
      | nil => rfl
      | cons x t =>
        obtain ⟨p, hp, _⟩ := hr 0 x rfl
        rw [hp] at h0
        cases h0
    subst hx
    exact ⟨⟨none, 0, 0⟩, rfl, rfl, own_nil _ _ _ _, Below.refl _ _⟩
  · obtain ⟨p, rfl⟩ : ∃ p, a = some p := by
      cases a with
      | none => cases h0
      | some p => exact ⟨p, rfl⟩
    intro w1 hw1
    obtain ⟨A, C, w2, h2, h3, h4⟩ := copy_row (enc := encSpecial) (sz := 2) (fun _ => rfl) (by decide) (fun x => ones_special _ _) 25 tSp undSps infoSp rfl w ⟨some p, xs.length, c⟩ xs (.inr ⟨p, rfl⟩) hr rfl (by simp only; omega) (by simp only; omega) w1 hw1
    exact ⟨A, xs.length, C, w2, h2, ⟨A, xs.length, C⟩, rfl, rfl, h3, h4⟩
theorem cloneC_spec (w : World) (a : Option Addr) (c : Nat) (xs : List (Int × Int × Int)) (hr : Rw encClass 3 w a xs) (hl : xs.length ≤ 1000000000) :
    Calls Tryz.prog 159 #[.slice a xs.length c] w fun e w' => ∃ s : Sl, e = .returned s.v ∧ s.n = xs.length ∧ w'.ownsRow w.heap.size tCl 3 s.v s.n (xs.flatMap encClass) ∧ Below w.heap.size w w' := by
  refine calls_ret (vc159_calls a xs.length c w (fun v w' => ∃ s : Sl, v = s.v ∧ s.n = xs.length ∧ w'.ownsRow w.heap.size tCl 3 s.v s.n (xs.flatMap encClass) ∧ Below w.heap.size w w') ?_) (by rintro v w' ⟨s, rfl, h⟩; exact ⟨s, rfl, h⟩)
  refine CondP.mk (fun h0 => ?_) fun h0 => ?_
  · have hx : xs = [] := by
      cases xs with
      | nil => rfl
      | cons x t =>
        obtain ⟨p, hp, _⟩ := hr 0 x rfl
        rw [hp] at h0
        cases h0
    subst hx
    exact ⟨⟨none, 0, 0⟩, rfl, rfl, own_nil _ _ _ _, Below.refl _ _⟩
  · obtain ⟨p, rfl⟩ : ∃ p, a = some p := by
      cases a with
      | none => cases h0
      | some p => exact ⟨p, rfl⟩
    intro w1 hw1
    obtain ⟨A, C, w2, h2, h3, h4⟩ := copy_row (enc := encClass) (sz := 3) (fun _ => rfl) (by decide) (fun x => ones_class _ _ _) 23 tCl undCls infoCl rfl w ⟨some p, xs.length, c⟩ xs (.inr ⟨p, rfl⟩) hr rfl (by simp only; omega) (by simp only; omega) w1 hw1
    exact ⟨A, xs.length, C, w2, h2, ⟨A, xs.length, C⟩, rfl, rfl, h3, h4⟩
theorem cloneJ_spec (w : World) (a : Option Addr) (c : Nat) (xs : List (Int × Int)) (hr : Rw encPair 2 w a xs) (hl : xs.length ≤ 1000000000) :
    Calls Tryz.prog 160 #[.slice a xs.length c] w fun e w' => ∃ s : Sl, e = .returned s.v ∧ s.n = xs.length ∧ w'.ownsRow w.heap.size tJn 2 s.v s.n (xs.flatMap encPair) ∧ Below w.heap.size w w' := by
  refine calls_ret (vc160_calls a xs.length c w (fun v w' => ∃ s : Sl, v = s.v ∧ s.n = xs.length ∧ w'.ownsRow w.heap.size tJn 2 s.v s.n (xs.flatMap encPair) ∧ Below w.heap.size w w') ?_) (by rintro v w' ⟨s, rfl, h⟩; exact ⟨s, rfl, h⟩)
  refine CondP.mk (fun h0 => ?_) fun h0 => ?_
  · have hx : xs = [] := by
      cases xs with
      | nil => rfl
      | cons x t =>
        obtain ⟨p, hp, _⟩ := hr 0 x rfl
        rw [hp] at h0
        cases h0
    subst hx
    exact ⟨⟨none, 0, 0⟩, rfl, rfl, own_nil _ _ _ _, Below.refl _ _⟩
  · obtain ⟨p, rfl⟩ : ∃ p, a = some p := by
      cases a with
      | none => cases h0
      | some p => exact ⟨p, rfl⟩
    intro w1 hw1
    obtain ⟨A, C, w2, h2, h3, h4⟩ := copy_row (enc := encPair) (sz := 2) (fun _ => rfl) (by decide) (fun x => ones_pair _ _) 24 tJn undJns infoJn rfl w ⟨some p, xs.length, c⟩ xs (.inr ⟨p, rfl⟩) hr rfl (by simp only; omega) (by simp only; omega) w1 hw1
    exact ⟨A, xs.length, C, w2, h2, ⟨A, xs.length, C⟩, rfl, rfl, h3, h4⟩
/-! ### Merges as they stand in a table -/
theorem sound_of : ∀ {ms : List (Int × Int)} {k : Int}, (∀ (i : Nat) (m : Int × Int), ms[i]? = some m → m.1 < k + i ∧ m.2 < k + i) → Sound k ms
  | [], _, _ => trivial
  | m :: ms, k, h => by
    have h0 := h 0 m rfl
    refine ⟨by omega, by omega, sound_of fun i x hi => ?_⟩
    have := h (i + 1) x (by simpa using hi)
    omega
theorem merges_at {T : List Ent} (h : TOk T) {i : Nat} {m : Int × Int} (hi : (mergesOf T)[i]? = some m) : (0 ≤ m.1 ∧ m.1 < 256 + i) ∧ (0 ≤ m.2 ∧ m.2 < 256 + i) := by
  simp only [mergesOf, List.getElem?_map, List.getElem?_drop] at hi
  obtain ⟨e, he, rfl⟩ := Option.map_eq_some_iff.1 hi
  obtain ⟨h1, h2, _⟩ := h.step (256 + i) e he (by omega)
  exact ⟨⟨h1.1, by have := h1.2; omega⟩, ⟨h2.1, by have := h2.2; omega⟩⟩
theorem TOk.sound {T : List Ent} (h : TOk T) : Sound 256 (mergesOf T) := sound_of fun i m hi => ⟨(merges_at h hi).1.2, (merges_at h hi).2.2⟩
theorem TOk.pos {T : List Ent} (h : TOk T) : ∀ m ∈ mergesOf T, 0 ≤ m.1 := fun m hm => by
  obtain ⟨i, hi, rfl⟩ := List.getElem_of_mem hm
  exact (merges_at h (List.getElem?_eq_getElem hi)).1.1

/-! ### grow -/
def pairOf (l : List Int) : Option (Int × Int) := match l with
  | [a, b] => some (a, b)
  | _ => none
def parV2 (o : Option (Int × Int)) : Value := match o with
  | some m => .tuple #[.agg #[.int .i64 m.1, .int .i64 m.2], .bool true]
  | none => .tuple #[.agg #[.int .i64 0, .int .i64 0], .bool false]
theorem parents_spec (w : World) (tp : Nat) (T : List Ent) (hT : TabIs w tp T) (hok : TOk T) (s : Bs) (hs : s.length ≤ 100000) :
    Calls Tryz.prog 190 #[.pointer (some ⟨tp, 0, none⟩), .string (str s)] w fun e w' => e = .returned (parV2 (pairOf (encAll T s))) ∧ Below w.heap.size w w' := by
  refine calls_ret (vc190_calls (some ⟨tp, 0, none⟩) (str s) w (fun v w' => v = parV2 (pairOf (encAll T s)) ∧ Below w.heap.size w w') ?_) (by rintro v w' ⟨rfl, h⟩; exact ⟨rfl, h⟩)
  intro w1 hw1
  have hb1 : Below w.heap.size w w1 := by subst hw1; exact below_alloc _ _
  have hl1 : w1.heap[w.heap.size]? = some (.cells #[Value.int .i64 0, Value.int .i64 0] tMg) := by subst hw1; exact alloc_new _ _
  refine (encode_spec w1 tp T (hT.on hb1) hok.sound hok.pos s hs).mono ?_
  rintro e w2 ⟨a, n, c, rfl, hown, hn, hb2⟩
  have hl2 := held_on hb2 hl1
  have hb12 := below_then hb1 hb2
  refine ⟨a, n, c, rfl, CondP.mk (fun h0 => ?_) fun h0 => ?_⟩
  · have h0 : n ≠ 2 := by intro e; rw [e] at h0; simp at h0
    have hp : pairOf (encAll T s) = none := by
      rw [hn] at h0
      match hx : encAll T s with
      | [] => rfl
      | [x] => rfl
      | [x, y] => rw [hx] at h0; exact absurd rfl h0
      | x :: y :: z :: t => rfl
    refine storeP_cells hl2 [.int .i64 0, .int .i64 0] rfl (ones_pair _ _) ?_
    intro w3 h3 _ _ hB3
    exact ⟨0, 0, ⟨by have := ptr_add0 _ _ h3 0; rw [add_zero] at this; exact this, ptr_add0 _ _ h3 1, trivial⟩, by rw [hp]; rfl, hB3 _ _ (Nat.le_refl _) hb12⟩
  · have h0 : n = 2 := by have : ((n : Nat) : Int) = 2 := by simpa using h0
                          omega
    rw [h0] at hn
    match hx : encAll T s with
    | [] => rw [hx] at hn; simp at hn
    | [x] => rw [hx] at hn; simp at hn
    | x :: y :: z :: t => rw [hx] at hn; simp at hn
    | [x, y] =>
      rw [hx] at hown
      intro w4 hw4
      have hb4 : Below w2.heap.size w2 w4 := by subst hw4; exact drew_on w2
      obtain ⟨p, hp, hc⟩ := own_read (l := ⟨a, n, c⟩) (enc := encInt) (sz := 1) (fun _ => rfl) (by decide) (own_on hown hb4) (i := 0) (x := x) rfl
      obtain ⟨p', hp', hc'⟩ := own_read (l := ⟨a, n, c⟩) (enc := encInt) (sz := 1) (fun _ => rfl) (by decide) (own_on hown hb4) (i := 1) (x := y) rfl
      have hc0 := hc 0 _ rfl
      have hc1 := hc' 0 _ rfl
      rw [add_zero] at hc0 hc1
      refine NilC.mk p hp ⟨Int.le_refl _, by omega, x, hc0, NilC.mk p' hp' ⟨by omega, by omega, y, hc1, ?_⟩⟩
      refine storeP_cells (held_on hb4 hl2) [.int .i64 x, .int .i64 y] rfl (ones_pair _ _) ?_
      intro w5 h5 _ _ hB5
      exact ⟨x, y, ⟨by have := ptr_add0 _ _ h5 0; rw [add_zero] at this; exact this, ptr_add0 _ _ h5 1, trivial⟩, rfl, hB5 _ _ (Nat.le_refl _) (below_then hb12 hb4)⟩
def importT : List Ent → Nat → List Bs → Except (Nat × Int) (List Ent)
  | es, _, [] => .ok es
  | es, i, t :: r => match pairOf (encAll es t) with
    | none => .error (i, 2)
    | some m => match tokAdd es m with
      | .error n => .error (i, n)
      | .ok x => importT (es ++ [x]) (i + 1) r
def LoadPost (w : World) (o : Except (Nat × Int) (List Ent)) (k : Nat) (v : Value) (w' : World) : Prop := Below w.heap.size w w' ∧ match o with
  | .error q => v = .tuple #[.pointer none, .int .i64 q.1, .int .i64 q.2] ∧ q.2 ≠ 0
  | .ok es => ∃ p, v = .tuple #[.pointer (some ⟨p, 0, none⟩), .int .i64 (k : Int), .int .i64 0] ∧ TabIs w' p es ∧ TOk es
theorem tokNew_err {ms : List (Int × Int)} : ∀ {es : List Ent} {i : Nat} {q : Nat × Int}, tokNew es i ms = .error q → q.2 ≠ 0 := by
  induction ms with
  | nil => intro es i q h; cases h
  | cons m ms ih =>
    intro es i q h
    rw [tokNew] at h
    cases hx : tokAdd es m with
    | error n => rw [hx] at h; cases h; exact tokAdd_err hx
    | ok x => rw [hx] at h; exact ih h
theorem import_spec (w : World) (a : Option Addr) (c : Nat) (ts : List Bs) (hr : Rw encStr 1 w a ts) (hl : ts.length ≤ 1000000) (hts : ∀ t ∈ ts, t.length ≤ 100000) :
    Calls Tryz.prog 152 #[.slice a ts.length c] w fun e w' => ∃ v, e = .returned v ∧ LoadPost w (importT begins 0 ts) ts.length v w' := by
  refine vc152_calls a ts.length c w (LoadPost w (importT begins 0 ts) ts.length) ?_
  refine (tokNew_spec w none 0 [] (by intro j x hj; simp at hj) (by simp)).mono ?_
  rintro e w1 ⟨v, rfl, hB, p, rfl, hT, hok⟩
  refine ⟨_, _, _, rfl, CondP.no rfl ?_⟩
  intro I hI
  have key := climb2 (α := Int × Int × Option Addr × World) ts.length (fun i x => ∃ es, TabAt x.2.2.2 w.heap.size p es ∧ TOk es ∧ importT begins 0 ts = importT es i (ts.drop i) ∧ Below w.heap.size w x.2.2.2) (fun i x => I [.int .i64 (i : Int), .int .i64 x.1, .int .i64 x.2.1, .pointer x.2.2.1] x.2.2.2) (0, 0, none, w1) ⟨begins, hT, hok, by rw [List.drop_zero], hB⟩ ?_ ?_
  · exact key
  · rintro i hi ih ⟨y4, y3, y2, w2⟩ ⟨es, hT, hok, heq, hB⟩
    change TabAt w2 _ _ _ at hT
    change Below w.heap.size w w2 at hB
    obtain ⟨q, hq, _, hc⟩ := (hr.on hB) i _ (List.getElem?_eq_getElem hi)
    have h0 := hc 0 _ rfl
    rw [add_zero] at h0
    have hdrop : ts.drop i = ts[i] :: ts.drop (i + 1) := List.drop_eq_getElem_cons hi
    refine hI _ _ _ _ _ (CondP.yes (by simp; omega) (NilC.mk q hq ⟨by omega, by omega, _, h0, ?_⟩))
    refine (parents_spec w2 p es hT.is hok ts[i] (hts _ (List.getElem_mem hi))).mono ?_
    rintro e w3 ⟨rfl, hB3⟩
    have hz : w.heap.size ≤ w2.heap.size := hB.size
    have fin : ∀ (o : Option (Int × Int)), pairOf (encAll es ts[i]) = o → ∀ (x y : Int) (b : Bool), parV2 o = .tuple #[.agg #[.int .i64 x, .int .i64 y], .bool b] → (b = true → o = some (x, y)) → (b = false → o = none) → ∀ w4 : World, w4 = w3.alloc (.cells #[Value.int .i64 0, Value.int .i64 0] tMg) →
          StoreP w4 (nb w3) (fun w5 =>
          CondP (!b)
            (LoadPost w (importT begins 0 ts) ts.length (Value.tuple #[Value.pointer none, Value.int .i64 (i : Int), Value.int .i64 2]) w5)
            (∃ g0 : Int, ∃ g1 : Int, (w5.cell? (nb w3) = some (Value.int .i64 g0) ∧ w5.cell? ((nb w3).add 1) = some (Value.int .i64 g1) ∧ True) ∧
             Calls Tryz.prog 191 #[Value.pointer (some ⟨p, 0, none⟩), Value.agg #[Value.int .i64 g0, Value.int .i64 g1]] w5 (fun e6 w6 =>
             ∃ r0_3 : Int, ∃ r1_4 : Int, e6 = .returned (Value.tuple #[Value.int .i64 r0_3, Value.int .i64 r1_4]) ∧
             CondP ((r1_4 : Int) != 0)
               (LoadPost w (importT begins 0 ts) ts.length (Value.tuple #[Value.pointer none, Value.int .i64 (i : Int), Value.int .i64 r1_4]) w6)
               (Ar .i64 ((i : Int) + 1) (fun n =>
                I [Value.int .i64 n, Value.int .i64 y4, Value.int .i64 y3, Value.pointer y2] w6))))) [Value.int .i64 x, Value.int .i64 y] 0 := by
      intro o ho x y b _ hb1 hb0 w4 hw4
      refine storeP_new [.int .i64 0, .int .i64 0] [.int .i64 x, .int .i64 y] rfl (ones_pair _ _) w4 hw4 ?_
      intro w5 h5 hz5 hB5
      have hB35 : Below w2.heap.size w2 w5 := below_then hB3 hB5
      have hB05 : Below w.heap.size w w5 := hB.trans (hB35.mono hz)
      refine CondP.mk (fun hb => ?_) fun hb => ?_
      · have hn := hb0 (by simpa using hb)
        rw [hn] at ho
        refine ⟨hB05, ?_⟩
        rw [heq, hdrop, importT, ho]
        exact ⟨rfl, show (2 : Int) ≠ 0 by decide⟩
      · have hs := hb1 (by simpa using hb)
        rw [hs] at ho
        refine ⟨x, y, ⟨by have := ptr_add0 _ _ h5 0; rw [add_zero] at this; exact this, ptr_add0 _ _ h5 1, trivial⟩, ?_⟩
        refine (tokAdd_spec w5 w.heap.size p es (hT.on hB35) hok hB05.size (x, y)).mono ?_
        rintro e w6 ⟨v, rfl, hB6, hpost⟩
        have hB06 : Below w.heap.size w w6 := hB05.trans hB6
        cases hx : tokAdd es (x, y) with
        | error n =>
          rw [hx] at hpost
          obtain ⟨rfl, _⟩ := hpost
          refine ⟨_, _, rfl, CondP.yes (by simpa using tokAdd_err hx) ⟨hB06, ?_⟩⟩
          rw [heq, hdrop, importT, ho]
          simp only [hx]
          exact ⟨trivial, tokAdd_err hx⟩
        | ok z =>
          rw [hx] at hpost
          obtain ⟨rfl, hT'⟩ := hpost
          refine ⟨_, _, rfl, CondP.no (by simp) (Ar.ok64 (by omega) (by omega) (ih (y4, y3, y2, w6) ⟨_, hT', (tokAdd_ok hok hx).1, ?_, hB06⟩))⟩
          rw [heq, hdrop, importT, ho]
          simp only [hx]
    cases ho : pairOf (encAll es ts[i]) with
    | none => exact ⟨0, 0, false, rfl, fin none ho 0 0 false rfl (by simp) (fun _ => rfl)⟩
    | some m => exact ⟨m.1, m.2, true, rfl, fin (some m) ho m.1 m.2 true rfl (fun _ => rfl) (by simp)⟩
  · rintro ⟨y4, y3, y2, w2⟩ ⟨es, hT, hok, heq, hB⟩
    refine hI _ _ _ _ _ (CondP.no (by simp) ⟨hB, ?_⟩)
    rw [heq, List.drop_length, importT]
    exact ⟨p, rfl, hT.is, hok⟩
def loadT (s : SpecV) : Except (Nat × Int) (List Ent) := if s.ranked then importT begins 0 s.tokens else tokNew begins 0 s.merges
def loadN (s : SpecV) : Nat := if s.ranked then s.tokens.length else s.merges.length
theorem load_spec (w : World) (x : SpecW) (s : SpecV) (h : SpecAt w x s) (hs : SmallS s) (hts : ∀ t ∈ s.tokens, t.length ≤ 100000) :
    Calls Tryz.prog 114 #[x.v] w fun e w' => ∃ v, e = .returned v ∧ LoadPost w (loadT s) (loadN s) v w' := by
  refine vc114_calls x.ranked x.s1.a x.s1.n x.s1.c x.s2.a x.s2.n x.s2.c x.s3.a x.s3.n x.s3.c x.s4.a x.s4.n x.s4.c x.s5.a x.s5.n x.s5.c w (LoadPost w (loadT s) (loadN s)) ?_
  rintro w1 rfl
  have hb := below_alloc w (.cells x.cells tSpec)
  have h1 := h.on hb
  have c0 : ∀ j, (w.alloc (.cells x.cells tSpec)).cell? ((nb w).add j) = x.cells[j]? := fun j => by rw [add_lit, Nat.zero_add, cell_new]
  have shape : ∀ (o : Except (Nat × Int) (List Ent)) (k : Nat) (v : Value) (w2 : World), LoadPost (w.alloc (.cells x.cells tSpec)) o k v w2 → ∃ (r0 : Option Addr) (r1 r2 : Int), v = .tuple #[.pointer r0, .int .i64 r1, .int .i64 r2] ∧ LoadPost w o k v w2 := by
    intro o k v w2 hp
    obtain ⟨hB, hm⟩ := hp
    have hB' := below_then hb hB
    cases o with
    | error q => obtain ⟨rfl, hq⟩ := hm; exact ⟨_, _, _, rfl, hB', rfl, hq⟩
    | ok es => obtain ⟨p, rfl, hT⟩ := hm; exact ⟨_, _, _, rfl, hB', p, rfl, hT⟩
  refine ⟨_, c0 0, CondP.mk (fun h0 => ?_) fun h0 => ?_⟩
  · have h0 : s.ranked = true := by rw [← h.ranked]; exact h0
    refine ⟨_, _, _, c0 2, ?_⟩
    have hI := import_spec (w.alloc (.cells x.cells tSpec)) x.s2.a x.s2.c s.tokens h1.r2 hs.2.1 hts
    rw [← h.n2] at hI
    refine hI.mono ?_
    rintro e w2 ⟨v, rfl, hp⟩
    rw [h.n2] at hp
    obtain ⟨r0, r1, r2, rfl, hp'⟩ := shape _ _ _ _ hp
    refine ⟨r0, r1, r2, rfl, ?_⟩
    rw [loadT, loadN, if_pos h0, if_pos h0]
    exact hp'
  · have h0 : s.ranked = false := by rw [← h.ranked]; exact h0
    refine ⟨_, _, _, c0 1, ?_⟩
    have hI := tokNew_spec (w.alloc (.cells x.cells tSpec)) x.s1.a x.s1.c s.merges h1.r1 (by have := hs.1; omega)
    rw [← h.n1] at hI
    refine hI.mono ?_
    rintro e w2 ⟨v, rfl, hB, hp⟩
    have hp2 : LoadPost (w.alloc (.cells x.cells tSpec)) (tokNew begins 0 s.merges) s.merges.length v w2 := by
      refine ⟨hB, ?_⟩
      cases hx : tokNew begins 0 s.merges with
      | error q => rw [hx] at hp; exact ⟨hp, tokNew_err hx⟩
      | ok es => rw [hx] at hp; obtain ⟨p, hv, hT, hok⟩ := hp; exact ⟨p, hv, hT.is, hok⟩
    obtain ⟨r0, r1, r2, rfl, hp'⟩ := shape _ _ _ _ hp2
    refine ⟨r0, r1, r2, rfl, ?_⟩
    rw [loadT, loadN, if_neg (by rw [h0]; simp), if_neg (by rw [h0]; simp)]
    exact hp'

/-! ### All but some blocks stay -/
def Off (S : List Nat) (w w' : World) : Prop := w.heap.size ≤ w'.heap.size ∧ ∀ k, k < w.heap.size → k ∉ S → w'.heap[k]? = w.heap[k]?
theorem Off.trans {S : List Nat} {a b c : World} (h : Off S a b) (k : Off S b c) : Off S a c := ⟨Nat.le_trans h.1 k.1, fun i hi hS => (k.2 i (Nat.lt_of_lt_of_le hi h.1) hS).trans (h.2 i hi hS)⟩
theorem Off.of_below {S : List Nat} {a b : World} (h : Below a.heap.size a b) : Off S a b := ⟨h.size, fun k hk _ => h.block k hk⟩
theorem Off.setCell {S : List Nat} {w : World} {a : Addr} (u : Value) (ha : a.block ∈ S) : Off S w (w.setCell a u) := ⟨by rw [size_setCell]; exact Nat.le_refl _, fun k _ hS => heap_setCell_ne fun e => hS (e ▸ ha)⟩
theorem own_off {S : List Nat} {w w' : World} {B : Nat} {e : TypeId} {sz n : Nat} {v : Value} {xs : List Value} (h : w.ownsRow B e sz v n xs) (hS : ∀ k, B ≤ k → k ∉ S) (ho : Off S w w') : w'.ownsRow B e sz v n xs :=
  own_same h fun k hk => ho.2 k (own_lt h k hk).2 (hS k (own_lt h k hk).1)
theorem copied_spec (w : World) (x : SpecW) (s : SpecV) (h : SpecAt w x s) (hs : SmallS s) :
    Calls Tryz.prog 120 #[x.v] w fun e w' => ∃ x' : SpecW, e = .returned x'.v ∧ SpecAt w' x' s ∧ Below w.heap.size w w' := by
  refine calls_ret (vc120_calls x.ranked x.s1.a x.s1.n x.s1.c x.s2.a x.s2.n x.s2.c x.s3.a x.s3.n x.s3.c x.s4.a x.s4.n x.s4.c x.s5.a x.s5.n x.s5.c w (fun v w' => ∃ x' : SpecW, v = x'.v ∧ SpecAt w' x' s ∧ Below w.heap.size w w') ?_) (by rintro v w' ⟨x', rfl, h⟩; exact ⟨x', rfl, h⟩)
  intro w1 hw1 w2 hw2 w3 hw3
  obtain ⟨n1, n2, n3, n4, n5⟩ := hs
  have hz1 : w1.heap.size = w.heap.size + 1 := by subst hw1; exact alloc_size _ _
  have hz2 : w2.heap.size = w.heap.size + 2 := by subst hw2; rw [alloc_size, hz1]
  have hz3 : w3.heap.size = w.heap.size + 2 := by subst hw3; exact hz2
  have hB3 : Below w.heap.size w w3 := by
    subst hw3
    subst hw2
    subst hw1
    exact (((Below.refl _ _).alloc (Nat.le_refl _) _).alloc (by rw [alloc_size]; omega) _).drew
  have p3 : w3.heap[w.heap.size]? = some (.cells x.cells tSpec (0, 0)) := by
    subst hw3
    show w2.heap[w.heap.size]? = _
    rw [hw2, alloc_old _ _ (by omega)]
    subst hw1
    exact alloc_new _ _
  have q3 : w3.heap[w1.heap.size]? = some (.cells zeroX.cells tSpec (0, 0)) := by
    subst hw3
    show w2.heap[w1.heap.size]? = _
    rw [hw2]
    exact alloc_new _ _
  have h3 := h.on hB3
  have c3 : ∀ {w' : World}, w'.heap[w.heap.size]? = some (.cells x.cells tSpec (0, 0)) → ∀ j, w'.cell? ((nb w).add j) = x.cells[j]? := fun hw' j => ptr_add0 _ _ hw' j
  refine ⟨_, _, _, c3 p3 1, _, _, _, c3 p3 2, _, _, _, c3 p3 3, ?_⟩
  have k1 := cloneM_spec w3 x.s1.a x.s1.c s.merges h3.r1 (by omega)
  rw [← h.n1] at k1
  refine k1.mono ?_
  rintro e w4 ⟨t1, rfl, e1, o1, b4⟩
  have p4 := held_on b4 p3
  have z4 := b4.size
  refine ⟨_, _, _, rfl, ⟨c3 p4 3, trivial⟩, ⟨c3 p4 2, trivial⟩, ?_⟩
  have k2 := cloneT_spec w4 x.s2.a x.s2.c s.tokens (h3.on b4).r2 (by omega)
  rw [← h.n2] at k2
  refine k2.mono ?_
  rintro e w5 ⟨t2, rfl, e2, o2, b5⟩
  have p5 := held_on b5 p4
  have z5 := b5.size
  refine ⟨_, _, _, rfl, ⟨c3 p5 3, trivial⟩, ?_⟩
  have k3 := cloneS_spec w5 x.s3.a x.s3.c s.specials ((h3.on b4).on b5).r3 (by omega)
  rw [← h.n3] at k3
  refine k3.mono ?_
  rintro e w6 ⟨t3, rfl, e3, o3, b6⟩
  have p6 := held_on b6 p5
  have z6 := b6.size
  have hB6 : Below w.heap.size w w6 := ((hB3.trans (b4.mono hB3.size)).trans (b5.mono (by omega))).trans (b6.mono (by omega))
  refine ⟨_, _, _, rfl, rfl, ⟨_, c3 p6 1⟩, frozen_put p6, ?_⟩
  intro w7 hw7
  have p7 : w7.heap[w.heap.size]? = some (.cells #[.bool x.ranked, t1.v, x.s2.v, x.s3.v, x.s4.v, x.s5.v] tSpec (0, 0)) := by subst hw7; exact heap_put p6 _
  refine ⟨rfl, ⟨_, by rw [ptr_add0 _ _ p7]; rfl⟩, frozen_put p7, ?_⟩
  intro w8 hw8
  have p8 : w8.heap[w.heap.size]? = some (.cells #[.bool x.ranked, t1.v, t2.v, x.s3.v, x.s4.v, x.s5.v] tSpec (0, 0)) := by subst hw8; exact heap_put p7 _
  refine ⟨rfl, ⟨_, by rw [ptr_add0 _ _ p8]; rfl⟩, frozen_put p8, ?_⟩
  intro w9 hw9
  have p9 : w9.heap[w.heap.size]? = some (.cells #[.bool x.ranked, t1.v, t2.v, t3.v, x.s4.v, x.s5.v] tSpec (0, 0)) := by subst hw9; exact heap_put p8 _
  intro w10 hw10
  have p10 : w10.heap[w.heap.size]? = some (.cells #[.bool x.ranked, t1.v, t2.v, t3.v, x.s4.v, x.s5.v] tSpec (0, 0)) := by subst hw10; exact p9
  have hB10 : Below w.heap.size w w10 := by
    subst hw10
    subst hw9
    subst hw8
    subst hw7
    exact (below_put (below_put (below_put hB6 (Nat.le_refl _) _) (Nat.le_refl _) _) (Nat.le_refl _) _).drew
  have off10 : Off [w.heap.size, w1.heap.size] w6 w10 := by
    have a1 : Off [w.heap.size, w1.heap.size] w6 w7 := by subst hw7; exact Off.setCell _ (by rw [add_block]; simp)
    have a2 : Off [w.heap.size, w1.heap.size] w7 w8 := by subst hw8; exact Off.setCell _ (by rw [add_block]; simp)
    have a3 : Off [w.heap.size, w1.heap.size] w8 w9 := by subst hw9; exact Off.setCell _ (by rw [add_block]; simp)
    have a4 : Off [w.heap.size, w1.heap.size] w9 w10 := by subst hw10; exact Off.of_below (drew_on _)
    exact ((a1.trans a2).trans a3).trans a4
  have z10 := off10.1
  have h10 := h.on hB10
  refine ⟨_, _, _, by rw [ptr_add0 _ _ p10]; rfl, _, _, _, by rw [ptr_add0 _ _ p10]; rfl, ?_⟩
  have k4 := cloneC_spec w10 x.s4.a x.s4.c s.classes h10.r4 (by omega)
  rw [← h.n4] at k4
  refine k4.mono ?_
  rintro e w11 ⟨t4, rfl, e4, o4, b11⟩
  have p11 := held_on b11 p10
  have z11 := b11.size
  refine ⟨_, _, _, rfl, ⟨by rw [ptr_add0 _ _ p11]; rfl, trivial⟩, ?_⟩
  have k5 := cloneJ_spec w11 x.s5.a x.s5.c s.joins (h10.on b11).r5 (by omega)
  rw [← h.n5] at k5
  refine k5.mono ?_
  rintro e w12 ⟨t5, rfl, e5, o5, b12⟩
  have p12 := held_on b12 p11
  have z12 := b12.size
  refine ⟨_, _, _, rfl, rfl, ⟨_, by rw [ptr_add0 _ _ p12]; rfl⟩, frozen_put p12, ?_⟩
  intro w13 hw13
  have p13 : w13.heap[w.heap.size]? = some (.cells #[.bool x.ranked, t1.v, t2.v, t3.v, t4.v, x.s5.v] tSpec (0, 0)) := by subst hw13; exact heap_put p12 _
  refine ⟨rfl, ⟨_, by rw [ptr_add0 _ _ p13]; rfl⟩, frozen_put p13, ?_⟩
  intro w14 hw14
  have p14 : w14.heap[w.heap.size]? = some (.cells (⟨x.ranked, t1, t2, t3, t4, t5⟩ : SpecW).cells tSpec (0, 0)) := by subst hw14; exact heap_put p13 _
  have hB14 : Below w.heap.size w w14 := by
    subst hw14
    subst hw13
    exact below_put (below_put ((hB10.trans (b11.mono hB10.size)).trans (b12.mono (Nat.le_trans hB10.size z11))) (Nat.le_refl _) _) (Nat.le_refl _) _
  have off14 : Off [w.heap.size, w1.heap.size] w12 w14 := by
    have a1 : Off [w.heap.size, w1.heap.size] w12 w13 := by subst hw13; exact Off.setCell _ (by rw [add_block]; simp)
    have a2 : Off [w.heap.size, w1.heap.size] w13 w14 := by subst hw14; exact Off.setCell _ (by rw [add_block]; simp)
    exact a1.trans a2
  have off6 : Off [w.heap.size, w1.heap.size] w6 w14 := ((off10.trans (Off.of_below b11)).trans (Off.of_below b12)).trans off14
  have q14 : w14.heap[w1.heap.size]? = some (.cells zeroX.cells tSpec (0, 0)) := by
    have e0 : ∀ w' : World, w1.heap.size ≠ w.heap.size := fun _ => by omega
    have q6 := held_on b6 (held_on b5 (held_on b4 q3))
    have q7 : w7.heap[w1.heap.size]? = some (.cells zeroX.cells tSpec (0, 0)) := by subst hw7; rw [heap_setCell_ne (by rw [add_block]; exact e0 w)]; exact q6
    have q8 : w8.heap[w1.heap.size]? = some (.cells zeroX.cells tSpec (0, 0)) := by subst hw8; rw [heap_setCell_ne (by rw [add_block]; exact e0 w)]; exact q7
    have q9 : w9.heap[w1.heap.size]? = some (.cells zeroX.cells tSpec (0, 0)) := by subst hw9; rw [heap_setCell_ne (by rw [add_block]; exact e0 w)]; exact q8
    have q10 : w10.heap[w1.heap.size]? = some (.cells zeroX.cells tSpec (0, 0)) := by subst hw10; exact q9
    have q12 := held_on b12 (held_on b11 q10)
    have q13 : w13.heap[w1.heap.size]? = some (.cells zeroX.cells tSpec (0, 0)) := by subst hw13; rw [heap_setCell_ne (by rw [add_block]; exact e0 w)]; exact q12
    subst hw14
    rw [heap_setCell_ne (by rw [add_block]; exact e0 w)]
    exact q13
  have notin : ∀ (B k : Nat), w.heap.size + 2 ≤ B → B ≤ k → k ∉ [w.heap.size, w1.heap.size] := by
    intro B k h1 h2
    simp
    omega
  refine ⟨_, _, _, _, _, _, _, _, _, _, _, _, _, _, _, _, agg_cells p14, ?_⟩
  refine ret_specK (w := w1) (fun x' w' => ∃ x'' : SpecW, x'.v = x''.v ∧ SpecAt w' x'' s ∧ Below w.heap.size w w') ⟨x.ranked, t1, t2, t3, t4, t5⟩ q14 rfl ?_
  intro w15 hB15 hs15
  have off15 : Off [w.heap.size, w1.heap.size] w14 w15 := ⟨(hB15 w14 (Below.refl _ _)).size, fun k hk hS => hs15 k fun e => hS (by rw [e]; simp)⟩
  have b15 : Below w.heap.size w w15 := (hB14.trans ((hB15 w14 (Below.refl _ _)).mono (by omega)))
  have o1' := own_off (own_on (own_on o1 b5) b6) (fun k hk => notin _ k (by omega) hk) (off6.trans off15)
  have o2' := own_off (own_on o2 b6) (fun k hk => notin _ k (by omega) hk) (off6.trans off15)
  have o3' := own_off o3 (fun k hk => notin _ k (by omega) hk) (off6.trans off15)
  have o4' := own_off (own_on o4 b12) (fun k hk => notin _ k (by omega) hk) (off14.trans off15)
  have o5' := own_off o5 (fun k hk => notin _ k (by omega) hk) (off14.trans off15)
  exact ⟨⟨x.ranked, t1, t2, t3, t4, t5⟩, rfl, ⟨h.ranked, e1.trans h.n1, (Rw.of_own o1' (fun _ => rfl) (by decide)).1, e2.trans h.n2, (Rw.of_own o2' (fun _ => rfl) (by decide)).1, e3.trans h.n3, (Rw.of_own o3' (fun _ => rfl) (by decide)).1, e4.trans h.n4, (Rw.of_own o4' (fun _ => rfl) (by decide)).1, e5.trans h.n5, (Rw.of_own o5' (fun _ => rfl) (by decide)).1⟩, b15⟩
end Go.Proofs.YtpklkijdlnioaaaGreat.Eng
