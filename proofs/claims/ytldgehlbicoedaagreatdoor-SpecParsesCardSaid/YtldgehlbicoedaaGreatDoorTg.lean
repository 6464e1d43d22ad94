/- The example of layer 6's laws, and SpecPrints, walked by the engine. -/
import Derived.Test.YtldgehlbicoedaaGreatDoorTa
import Derived.Test.YtldgehlbicoedaaGreatDoorLib
import Derived.WideShapes
import Derived.ChangeSame
set_option linter.unusedVariables false
set_option linter.unusedSimpArgs false
set_option maxRecDepth 100000
namespace Go.Proofs.YtldgehlbicoedaaGreatDoor.Eng
open Go Go.RowKit

theorem decDigits_more {i : Nat} (h : ¬ i < 10) : Lib.decDigits i = Lib.decDigits (i / 10) ++ [UInt8.ofNat (48 + i % 10)] := by rw [Lib.decDigits, dif_neg h]
theorem itoa_97 : Lib.itoa 97 = [57, 55] := by
  unfold Lib.itoa
  rw [if_neg (by decide), show (97 : Int).toNat = 97 from rfl, decDigits_more (by decide), Lib.decDigits_one (by decide)]
  rfl
theorem itoa_98 : Lib.itoa 98 = [57, 56] := by
  unfold Lib.itoa
  rw [if_neg (by decide), show (98 : Int).toNat = 98 from rfl, decDigits_more (by decide), Lib.decDigits_one (by decide)]
  rfl
theorem itoa_300 : Lib.itoa 300 = [51, 48, 48] := by
  unfold Lib.itoa
  rw [if_neg (by decide), show (300 : Int).toNat = 300 from rfl, decDigits_more (by decide), decDigits_more (by decide), Lib.decDigits_one (by decide)]
  rfl
def sEx : SpecV := { merges := [(97, 98)], specials := [(300, [60, 124, 62])] }
def tEx : Bs := [118, 111, 99, 97, 98, 32, 109, 101, 114, 103, 101, 115, 10, 109, 101, 114, 103, 101, 32, 57, 55, 32, 57, 56, 10, 115, 112, 101, 99, 105, 97, 108, 32, 51, 48, 48, 32, 51, 99, 55, 99, 51, 101, 10]
theorem hexT_ex : hexT [60, 124, 62] = [51, 99, 55, 99, 51, 101] := by decide +kernel
theorem text_ex : sEx.text = tEx := by
  unfold SpecV.text SpecV.lines SpecV.tail sEx mergeL specialL headL
  simp only [List.map_cons, List.map_nil, List.nil_append, List.append_nil, List.cons_append, itoa_97, itoa_98, itoa_300, hexT_ex]
  decide +kernel
theorem right_ex : sEx.right = true := by decide +kernel
theorem parse_ex : parseS tEx = .ok sEx := by rw [← text_ex]; exact parse_text sEx right_ex

/-! ### Structs in blocks of their own -/
theorem store_spec {w2 : World} {k : World → Prop} (x : SpecW) (w3 : World) (hw3 : w3 = w2.alloc (.cells zeroX.cells tSpec)) (hk : ∀ w4, w4.heap[w2.heap.size]? = some (.cells x.cells tSpec (0, 0)) → Below w2.heap.size w2 w4 → k w4) :
    StoreP w3 (nb w2) k [Value.bool x.ranked, Value.slice x.s1.a x.s1.n x.s1.c, Value.slice x.s2.a x.s2.n x.s2.c, Value.slice x.s3.a x.s3.n x.s3.c, Value.slice x.s4.a x.s4.n x.s4.c, Value.slice x.s5.a x.s5.n x.s5.c] 0 := by
  refine storeP_new [.bool false, .slice none 0 0, .slice none 0 0, .slice none 0 0, .slice none 0 0, .slice none 0 0] [.bool x.ranked, x.s1.v, x.s2.v, x.s3.v, x.s4.v, x.s5.v] rfl (by intro v hv; simp at hv; rcases hv with rfl | rfl | rfl | rfl | rfl | rfl <;> rfl) w3 hw3 ?_
  intro w4 h4 _ hB
  exact hk w4 h4 hB
theorem agg_cells {w : World} {b : Nat} {x : SpecW} {T : TypeId} {fz : Nat × Nat} (h : w.heap[b]? = some (.cells x.cells T fz)) :
    w.cell? ⟨b, 0, none⟩ = some (Value.bool x.ranked) ∧ w.cell? ((⟨b, 0, none⟩ : Addr).add 1) = some x.s1.v ∧ w.cell? ((⟨b, 0, none⟩ : Addr).add 2) = some x.s2.v ∧ w.cell? ((⟨b, 0, none⟩ : Addr).add 3) = some x.s3.v ∧ w.cell? ((⟨b, 0, none⟩ : Addr).add 4) = some x.s4.v ∧ w.cell? ((⟨b, 0, none⟩ : Addr).add 5) = some x.s5.v ∧ True := by
  have hc : ∀ j, w.cell? ((⟨b, 0, none⟩ : Addr).add j) = x.cells[j]? := fun j => by rw [add_lit, Nat.zero_add, cell_heap h]
  exact ⟨by have := hc 0; rw [add_zero] at this; exact this, hc 1, hc 2, hc 3, hc 4, hc 5, trivial⟩
theorem Below.keeps {B : Nat} {w w' : World} (h : Below B w w') {b : Nat} (hb : b < B) {o : Obj} (ho : w.heap[b]? = some o) : w'.heap[b]? = some o := by rw [h.block b hb, ho]
theorem held_on {w w' : World} (h : Below w.heap.size w w') {b : Nat} {o : Obj} (ho : w.heap[b]? = some o) : w'.heap[b]? = some o := by rw [h.block b (Array.getElem?_eq_some_iff.1 ho).1, ho]
/-- What the laws lean on. -/
structure Laid6 (w : World) : Prop where
  pow : Pow w
  errs : Errs w
  mx : Mx w
theorem Laid6.on {w w' : World} (h : Laid6 w) (hb : Below w.heap.size w w') : Laid6 w' := ⟨h.pow.on hb, h.errs.on hb, h.mx.on hb⟩

theorem awake_spec (w : World) (h : Laid6 w) :
    Calls Tryz.prog 7 #[] w fun e w' => e = .returned (.bool true) ∧ Below w.heap.size w w' := by
  refine calls_ret (vc7_calls w (fun v w' => v = .bool true ∧ Below w.heap.size w w') ?_) (by rintro v w' ⟨rfl, h⟩; exact ⟨rfl, h⟩)
  refine (specParse_spec tEx w h.pow h.errs h.mx).mono ?_
  rintro e w1 ⟨v, rfl, hp, hB1⟩
  unfold ParsePost at hp
  rw [if_neg (by decide), parse_ex] at hp
  obtain ⟨x, rfl, hx⟩ := hp
  refine ⟨x.ranked, x.s1.a, x.s1.n, x.s1.c, x.s2.a, x.s2.n, x.s2.c, x.s3.a, x.s3.n, x.s3.c, x.s4.a, x.s4.n, x.s4.c, x.s5.a, x.s5.n, x.s5.c, 0, 0, rfl, ?_⟩
  intro w2 hw2
  refine store_spec x w2 hw2 ?_
  intro w3 h3 hB3
  have hx3 := hx.on hB3
  refine ⟨x.ranked, _, _, _, _, _, _, _, _, _, _, _, _, _, _, _, agg_cells h3, ?_⟩
  refine (Print_spec x sEx w3 hx3 ((h.on hB1).on hB3).pow).mono ?_
  rintro e w4 ⟨rfl, hB4⟩
  have hpv : printV sEx = .tuple #[.string (str tEx), .int .i64 0] := by
    unfold printV
    rw [if_pos right_ex, text_ex, if_neg (by decide)]
  rw [hpv]
  have h4 := held_on hB4 h3
  have hx4 := hx3.on hB4
  refine ⟨str tEx, 0, rfl, CondP.yes rfl (CondP.yes rfl ⟨_, _, _, (agg_cells h4).2.1, CondP.yes (by rw [hx4.n1]; rfl) ?_⟩)⟩
  obtain ⟨p, hpa, _, _⟩ := hx4.r3 0 _ rfl
  refine ⟨_, _, _, (agg_cells h4).2.2.2.1, NilC.mk p hpa ⟨by decide, by rw [hx4.n3]; decide, 300, str [60, 124, 62], ⟨by have := hx4.r3.at hpa (j := 0) rfl 0 _ rfl; rwa [add_zero] at this, hx4.r3.at hpa (j := 0) rfl 1 _ rfl, trivial⟩, ?_⟩⟩
  refine CondP.yes (by rw [show (⟨#[60, 124, 62]⟩ : ByteArray) = str [60, 124, 62] from rfl, beq_str]; rfl) (CondP.yes rfl ⟨?_, below_then hB1 (below_then hB3 hB4)⟩)
  rfl

/-! ### SpecPrints -/
theorem text_shorter {s : SpecV} (h : s.right = true) (hg : greatV s = false) : s.text.length ≤ 45241 := by
  obtain ⟨_, p1, p2, p3, p4, p5⟩ := right_parts h
  have l1 := allOk_len p1
  have l2 := allOk_len p2
  have l3 := allOk_len p3
  have l4 := allOk_len p4
  have l5 := allOk_len p5
  have hg := of_decide_eq_false hg
  have key : ∀ ws : List Bs, (∀ w ∈ ws, w.length ≤ 21) → ws.length ≤ 4 → (lineOf ws).length ≤ 160 := by
    intro ws hw hn
    cases ws with
    | nil => simp [lineOf, Lib.join_nil]
    | cons w r =>
      unfold lineOf
      rw [Lib.join_length]
      have := lens_le 21 (w :: r) hw
      simp at this hn ⊢
      omega
  have hl : ∀ l ∈ s.lines, l.length ≤ 160 := by
    intro l hl
    simp only [SpecV.lines, SpecV.tail, List.mem_cons, List.mem_append, List.mem_map] at hl
    rcases hl with rfl | ⟨m, hm, rfl⟩ | ⟨m, hm, rfl⟩ | ⟨m, hm, rfl⟩ | ⟨m, hm, rfl⟩ | ⟨m, hm, rfl⟩
    · cases s.ranked <;> decide +kernel
    · have := of_decide_eq_true (all_mem p1 hm)
      refine key _ ?_ (by simp)
      intro w hw
      simp at hw
      rcases hw with rfl | rfl | rfl
      · decide
      · exact itoa_length _ (by unfold I64; omega)
      · exact itoa_length _ (by unfold I64; omega)
    · have := of_decide_eq_true (all_mem p2 hm)
      have h2 := hexT_length m
      unfold tokenL
      rw [lineOf_cons, lineOf_one]
      simp [wToken]
      omega
    · have := of_decide_eq_true (all_mem p3 hm)
      have h2 := hexT_length m.2
      have h3 := itoa_length m.1 (by unfold I64; omega)
      unfold specialL
      rw [lineOf_cons, lineOf_cons, lineOf_one]
      simp [wSpecial]
      omega
    · have := of_decide_eq_true (all_mem p4 hm)
      refine key _ ?_ (by simp)
      intro w hw
      simp at hw
      rcases hw with rfl | rfl | rfl | rfl
      · decide
      · exact itoa_length _ (by unfold I64; omega)
      · exact itoa_length _ (by unfold I64; omega)
      · exact itoa_length _ (by unfold I64; omega)
    · have := of_decide_eq_true (all_mem p5 hm)
      refine key _ ?_ (by simp)
      intro w hw
      simp at hw
      rcases hw with rfl | rfl | rfl
      · decide
      · exact itoa_length _ (by unfold I64; omega)
      · exact itoa_length _ (by unfold I64; omega)
  have hsum : ∀ ls : List Bs, (∀ l ∈ ls, l.length ≤ 160) → (textOf ls).length ≤ 161 * ls.length := by
    intro ls
    induction ls with
    | nil => intro _; simp [textOf]
    | cons l r ih =>
      intro h
      have h1 := h l (by simp)
      have h2 := ih fun y hy => h y (by simp [hy])
      simp [textOf, Nat.mul_add] at *
      omega
  have := hsum s.lines hl
  have hcnt : s.lines.length ≤ 281 := by
    simp only [SpecV.lines, SpecV.tail, List.length_cons, List.length_append, List.length_map]
    omega
  unfold SpecV.text
  omega
theorem text_short {s : SpecV} (h : s.right = true) (hg : greatV s = false) : s.text.length ≤ 60000 := by
  have := text_shorter h hg
  omega
theorem lines_small {s : SpecV} (h : s.right = true) : ∀ l ∈ s.lines, l.length ≤ 10000 := by
  obtain ⟨_, p1, p2, p3, p4, p5⟩ := right_parts h
  intro l hl
  simp only [SpecV.lines, SpecV.tail, List.mem_cons, List.mem_append, List.mem_map] at hl
  rcases hl with rfl | ⟨m, hm, rfl⟩ | ⟨m, hm, rfl⟩ | ⟨m, hm, rfl⟩ | ⟨m, hm, rfl⟩ | ⟨m, hm, rfl⟩
  · cases s.ranked <;> decide +kernel
  · have := of_decide_eq_true (all_mem p1 hm)
    have h1 := itoa_length m.1 (by unfold I64; omega)
    have h2 := itoa_length m.2 (by unfold I64; omega)
    exact lineOf_small _ _ (by decide) (by intro w hw; simp at hw; rcases hw with rfl | rfl <;> omega) (by simp)
  · have := of_decide_eq_true (all_mem p2 hm)
    have h2 := hexT_length m
    exact lineOf_small _ _ (by decide) (by intro w hw; simp at hw; subst hw; omega) (by simp)
  · have := of_decide_eq_true (all_mem p3 hm)
    have h1 := itoa_length m.1 (by unfold I64; omega)
    have h2 := hexT_length m.2
    exact lineOf_small _ _ (by decide) (by intro w hw; simp at hw; rcases hw with rfl | rfl <;> omega) (by simp)
  · have := of_decide_eq_true (all_mem p4 hm)
    have h1 := itoa_length m.1 (by unfold I64; omega)
    have h2 := itoa_length m.2.1 (by unfold I64; omega)
    have h3 := itoa_length m.2.2 (by unfold I64; omega)
    exact lineOf_small _ _ (by decide) (by intro w hw; simp at hw; rcases hw with rfl | rfl | rfl <;> omega) (by simp)
  · have := of_decide_eq_true (all_mem p5 hm)
    have h1 := itoa_length m.1 (by unfold I64; omega)
    have h2 := itoa_length m.2 (by unfold I64; omega)
    exact lineOf_small _ _ (by decide) (by intro w hw; simp at hw; rcases hw with rfl | rfl <;> omega) (by simp)
theorem great_small {s : SpecV} (h : greatV s = false) : SmallS s := by
  have hg := of_decide_eq_false h
  unfold SmallS
  omega
theorem small_fits {s : SpecV} (h : SmallS s) : Fits s := by
  unfold SmallS at h
  unfold Fits
  omega

theorem Prints_spec (x y : SpecW) (a b : SpecV) (w : World) (hx : SpecAt w x a) (hy : SpecAt w y b) (h : Laid6 w) :
    Calls Tryz.prog 6 #[x.v, y.v] w fun e w' => e = .returned (.bool true) ∧ Below w.heap.size w w' := by
  refine calls_ret (vc6_calls x.ranked x.s1.a x.s1.n x.s1.c x.s2.a x.s2.n x.s2.c x.s3.a x.s3.n x.s3.c x.s4.a x.s4.n x.s4.c x.s5.a x.s5.n x.s5.c y.ranked y.s1.a y.s1.n y.s1.c y.s2.a y.s2.n y.s2.c y.s3.a y.s3.n y.s3.c y.s4.a y.s4.n y.s4.c y.s5.a y.s5.n y.s5.c w (fun v w' => v = .bool true ∧ Below w.heap.size w w') ?_) (by rintro v w' ⟨rfl, h⟩; exact ⟨rfl, h⟩)
  intro w1 hw1 w2 hw2
  have hb1 : Below w.heap.size w w1 := by rw [hw1]; exact below_alloc _ _
  have hb2 : Below w1.heap.size w1 w2 := by rw [hw2]; exact below_alloc _ _
  have hb := below_then hb1 hb2
  have kx : w2.heap[w.heap.size]? = some (.cells x.cells tSpec (0, 0)) := held_on hb2 (by rw [hw1]; exact alloc_new w _)
  have ky : w2.heap[w1.heap.size]? = some (.cells y.cells tSpec (0, 0)) := by rw [hw2]; exact alloc_new w1 _
  have hx2 := hx.on hb
  have hy2 := hy.on hb
  have h2 := h.on hb
  -- the example, at any later world
  have wake : ∀ {w3 : World} , Below w2.heap.size w2 w3 → Calls Tryz.prog 7 #[] w3 fun e w4 => ∃ q : Bool, e = .returned (.bool q) ∧ (Value.bool q = .bool true ∧ Below w.heap.size w w4) := by
    intro w3 hB
    refine (awake_spec w3 (h2.on hB)).mono ?_
    rintro e w4 ⟨rfl, hB4⟩
    exact ⟨true, rfl, rfl, below_then hb (below_then hB hB4)⟩
  refine ⟨x.ranked, _, _, _, _, _, _, _, _, _, _, _, _, _, _, _, agg_cells kx, ?_⟩
  refine (Great_spec x a w2 hx2).mono ?_
  rintro e w3 ⟨rfl, hB3⟩
  refine ⟨_, rfl, CondP.mk (fun _ => wake hB3) (fun hga => ?_)⟩
  refine ⟨y.ranked, _, _, _, _, _, _, _, _, _, _, _, _, _, _, _, agg_cells (held_on hB3 ky), ?_⟩
  refine (Great_spec y b w3 (hy2.on hB3)).mono ?_
  rintro e w5 ⟨rfl, hB5⟩
  replace hB5 := below_then hB3 hB5
  refine ⟨_, rfl, CondP.mk (fun _ => wake hB5) (fun hgb => ?_)⟩
  refine ⟨x.ranked, _, _, _, _, _, _, _, _, _, _, _, _, _, _, _, agg_cells (held_on hB5 kx), ?_⟩
  refine (Print_spec x a w5 (hx2.on hB5) (h2.on hB5).pow).mono ?_
  rintro e w7 ⟨rfl, hB7⟩
  replace hB7 := below_then hB5 hB7
  obtain ⟨r, q, hv, hright, hwrong⟩ : ∃ (r : ByteArray) (q : Int), printV a = .tuple #[.string r, .int .i64 q] ∧ (a.right = true → r = str a.text ∧ q = 0) ∧ (a.right = false → r = str [] ∧ q = 1) := by
    unfold printV
    by_cases hr : a.right = true
    · rw [if_pos hr, if_neg (by have := text_short hr hga; omega)]
      exact ⟨_, _, rfl, fun _ => ⟨rfl, rfl⟩, fun e => by rw [hr] at e; cases e⟩
    · rw [if_neg hr]
      exact ⟨_, _, rfl, fun e => absurd e hr, fun _ => ⟨rfl, rfl⟩⟩
  refine ⟨r, q, by rw [hv], ?_⟩
  refine ⟨x.ranked, _, _, _, _, _, _, _, _, _, _, _, _, _, _, _, agg_cells (held_on hB7 kx), ?_⟩
  refine (refRight_spec x a w7 (hx2.on hB7)).mono ?_
  rintro e w8 ⟨rfl, hB8⟩
  replace hB8 := below_then hB7 hB8
  refine ⟨_, rfl, ?_⟩
  rintro w9 rfl
  have hB9 := hB8.drew
  refine ⟨x.ranked, _, _, _, _, _, _, _, _, _, _, _, _, _, _, _, agg_cells (held_on hB9 kx), ?_⟩
  refine (Right_spec x a w8.drew (hx2.on hB9)).mono ?_
  rintro e w10 ⟨rfl, hB10⟩
  replace hB10 := below_then hB9 hB10
  refine ⟨_, rfl, CondP.no (by simp) ?_⟩
  refine ⟨x.ranked, _, _, _, _, _, _, _, _, _, _, _, _, _, _, _, agg_cells (held_on hB10 kx), y.ranked, _, _, _, _, _, _, _, _, _, _, _, _, _, _, _, agg_cells (held_on hB10 ky), x.ranked, _, _, _, _, _, _, _, _, _, _, _, _, _, _, _, agg_cells (held_on hB10 kx), y.ranked, _, _, _, _, _, _, _, _, _, _, _, _, _, _, _, agg_cells (held_on hB10 ky), ?_⟩
  have hsa := great_small hga
  refine (Same_spec x y a b w10 (hx2.on hB10) (hy2.on hB10) (small_fits hsa)).mono ?_
  rintro e w11 ⟨rfl, hB11⟩
  replace hB11 := below_then hB10 hB11
  refine ⟨_, rfl, agg_cells (held_on hB11 ky), agg_cells (held_on hB11 kx), ?_⟩
  refine (refSame_spec x y a b w11 (hx2.on hB11) (hy2.on hB11) hsa).mono ?_
  rintro e w12 ⟨rfl, hB12⟩
  replace hB12 := below_then hB11 hB12
  refine ⟨_, rfl, CondP.no (by simp) ?_⟩
  refine ⟨x.ranked, _, _, _, _, _, _, _, _, _, _, _, _, _, _, _, agg_cells (held_on hB12 kx), x.ranked, _, _, _, _, _, _, _, _, _, _, _, _, _, _, _, agg_cells (held_on hB12 kx), ?_⟩
  refine (Same_spec x x a a w12 (hx2.on hB12) (hx2.on hB12) (small_fits hsa)).mono ?_
  rintro e w13 ⟨rfl, hB13⟩
  replace hB13 := below_then hB12 hB13
  refine ⟨_, rfl, CondP.no (by simp) (CondP.mk ?_ ?_)⟩
  · intro hr
    have hr : a.right = false := by simpa using hr
    obtain ⟨rfl, rfl⟩ := hwrong hr
    exact CondP.yes (by rw [beq_nil]; rfl) (CondP.yes rfl (wake hB13))
  · intro hr
    have hr : a.right = true := by simpa using hr
    obtain ⟨rfl, rfl⟩ := hright hr
    refine ⟨x.ranked, _, _, _, _, _, _, _, _, _, _, _, _, _, _, _, agg_cells (held_on hB13 kx), ?_⟩
    refine (refPrint_spec x a w13 (hx2.on hB13) (fit_of (.inl hr)).1 (lines_small hr)).mono ?_
    rintro e w15 ⟨rfl, hB15⟩
    exact ⟨_, rfl, CondP.yes (by rw [beq_str]; simp) (CondP.yes rfl (wake (below_then hB13 hB15)))⟩
end Go.Proofs.YtldgehlbicoedaaGreatDoor.Eng

/- SpecParses, SpecBack and SpecLines, walked by the engine. -/
set_option linter.unusedVariables false
set_option linter.unusedSimpArgs false
set_option maxRecDepth 100000
namespace Go.Proofs.YtldgehlbicoedaaGreatDoor.Eng
open Go Go.RowKit

theorem readAll_err : ∀ (ls : List Bs) (s : SpecV) (k n m : Nat), readAll s k n ls = .error m → n < m
  | [], s, k, n, m, h => by cases h
  | l :: r, s, k, n, m, h => by
    simp only [readAll] at h
    cases hr : readLn s k n l with
    | none => rw [hr] at h; cases h; omega
    | some z =>
      rw [hr] at h
      have := readAll_err r z.1 z.2 (n + 1) m h
      omega
theorem parse_err {t : Bs} {m : Nat} (h : parseS t = .error m) : 0 < m := by
  unfold parseS at h
  cases hr : readAll {} 0 0 (cutL 10 t).dropLast with
  | error q => rw [hr] at h; cases h; have := readAll_err _ _ _ _ _ hr; omega
  | ok z =>
    rw [hr] at h
    dsimp only at h
    split at h
    · cases h
    · cases h; exact List.length_pos_iff.2 (cutL_ne 10 t)
theorem parse_small {t : Bs} {s : SpecV} (h : parseS t = .ok s) : SmallS s := right_small (text_parse t s h).2
theorem small_empty : SmallS {} := by simp [SmallS]

theorem Parses_spec (t : Bs) (w : World) (h : Laid6 w) :
    Calls Tryz.prog 3 #[.string (str t)] w fun e w' => e = .returned (.bool true) ∧ Below w.heap.size w w' := by
  refine calls_ret (vc3_calls (str t) w (fun v w' => v = .bool true ∧ Below w.heap.size w w') ?_) (by rintro v w' ⟨rfl, h⟩; exact ⟨rfl, h⟩)
  have wake : ∀ {w3 : World} , Below w.heap.size w w3 → Calls Tryz.prog 7 #[] w3 fun e w4 => ∃ q : Bool, e = .returned (.bool q) ∧ (Value.bool q = .bool true ∧ Below w.heap.size w w4) := by
    intro w3 hB
    refine (awake_spec w3 (h.on hB)).mono ?_
    rintro e w4 ⟨rfl, hB4⟩
    exact ⟨true, rfl, rfl, below_then hB hB4⟩
  unfold vc3
  rw [str_size]
  refine CondP.mk (fun hc => CondP.mk (fun hd => wake (Below.refl _ _)) (fun hd => ?_)) (fun hc => ?_)
  all_goals
    have hlen : 60000 < t.length ∨ t.length ≤ 3000 := by
      first
        | (have hd := of_decide_eq_false hd; omega)
        | (have hc := of_decide_eq_false hc; omega)
    refine (specParse_spec t w h.pow h.errs h.mx).mono ?_
    rintro e w2 ⟨v, rfl, hp, hB2⟩
    obtain ⟨x, r1, r2, rfl, hcase⟩ : ∃ (x : SpecW) (r1 r2 : Int), v = .tuple #[x.v, .int .i64 r1, .int .i64 r2] ∧ ((60000 < t.length ∧ r1 = 0 ∧ r2 = 3 ∧ SpecAt w2 x {}) ∨ (t.length ≤ 3000 ∧ ((∃ s, parseS t = .ok s ∧ r1 = 0 ∧ r2 = 0 ∧ SpecAt w2 x s) ∨ (∃ m, parseS t = .error m ∧ r1 = (m : Int) ∧ r2 = 2 ∧ SpecAt w2 x {})))) := by
      unfold ParsePost at hp
      rcases hlen with hl | hl
      · rw [if_pos hl] at hp
        obtain ⟨x, rfl, hx⟩ := hp
        exact ⟨x, 0, 3, rfl, .inl ⟨hl, rfl, rfl, hx⟩⟩
      · rw [if_neg (by omega)] at hp
        cases hq : parseS t with
        | ok s => rw [hq] at hp; obtain ⟨x, rfl, hx⟩ := hp; exact ⟨x, 0, 0, rfl, .inr ⟨hl, .inl ⟨s, rfl, rfl, rfl, hx⟩⟩⟩
        | error m => rw [hq] at hp; obtain ⟨x, rfl, hx⟩ := hp; exact ⟨x, m, 2, rfl, .inr ⟨hl, .inr ⟨m, rfl, rfl, rfl, hx⟩⟩⟩
    refine ⟨x.ranked, x.s1.a, x.s1.n, x.s1.c, x.s2.a, x.s2.n, x.s2.c, x.s3.a, x.s3.n, x.s3.c, x.s4.a, x.s4.n, x.s4.c, x.s5.a, x.s5.n, x.s5.c, r1, r2, rfl, ?_⟩
    intro w3 hw3
    refine store_spec x w3 hw3 ?_
    intro w4 h4 hB24
    have hB4 := below_then hB2 hB24
    rcases hcase with ⟨hl, rfl, rfl, hx⟩ | ⟨hl, hcase⟩
    · refine CondP.yes (decide_eq_true (by omega)) (CondP.yes rfl (CondP.yes rfl ?_))
      refine ⟨x.ranked, _, _, _, _, _, _, _, _, _, _, _, _, _, _, _, agg_cells h4, ?_⟩
      refine (refSame_spec x zeroX {} {} w4 (hx.on hB24) (zero_at _) small_empty).mono ?_
      rintro e w5 ⟨rfl, hB5⟩
      exact ⟨_, rfl, CondP.yes (by decide) (wake (below_then hB4 hB5))⟩
    · refine CondP.no (decide_eq_false (by omega)) ?_
      refine (refSpecParse_spec t w4 (by omega)).mono ?_
      rintro e w7 ⟨y, rfl, hy, hB47⟩
      refine ⟨y.ranked, y.s1.a, y.s1.n, y.s1.c, y.s2.a, y.s2.n, y.s2.c, y.s3.a, y.s3.n, y.s3.c, y.s4.a, y.s4.n, y.s4.c, y.s5.a, y.s5.n, y.s5.c, _, rfl, ?_⟩
      intro w8 hw8
      refine store_spec y w8 hw8 ?_
      intro w9 h9 hB79
      have hB49 := below_then hB47 hB79
      have hB9 := below_then hB4 hB49
      have h49 := held_on hB49 h4
      rcases hcase with ⟨s, hs, rfl, rfl, hx⟩ | ⟨m, hm, rfl, rfl, hx⟩
      · have e1 : parseNum t = 0 := by unfold parseNum; rw [hs]
        have e2 : parseGot t = s := by unfold parseGot; rw [hs]
        rw [e1]
        rw [e2] at hy
        refine CondP.no (by decide) (CondP.yes rfl (CondP.yes rfl ?_))
        refine ⟨x.ranked, _, _, _, _, _, _, _, _, _, _, _, _, _, _, _, agg_cells h49, y.ranked, _, _, _, _, _, _, _, _, _, _, _, _, _, _, _, agg_cells h9, ?_⟩
        refine (refSame_spec x y s s w9 ((hx.on hB24).on hB49) (hy.on hB79) (parse_small hs)).mono ?_
        rintro e w5 ⟨rfl, hB5⟩
        exact ⟨_, rfl, CondP.yes (by simp) (wake (below_then hB9 hB5))⟩
      · have e1 : parseNum t = (m : Int) := by unfold parseNum; rw [hm]
        rw [e1]
        have hpos := parse_err hm
        refine CondP.yes (decide_eq_true (by omega)) (CondP.yes (by simp) (CondP.yes rfl ?_))
        refine ⟨x.ranked, _, _, _, _, _, _, _, _, _, _, _, _, _, _, _, agg_cells h49, ?_⟩
        refine (refSame_spec x zeroX {} {} w9 ((hx.on hB24).on hB49) (zero_at _) small_empty).mono ?_
        rintro e w5 ⟨rfl, hB5⟩
        exact ⟨_, rfl, CondP.yes (by decide) (wake (below_then hB9 hB5))⟩

theorem Back_spec (x : SpecW) (s : SpecV) (t : Bs) (w : World) (hx : SpecAt w x s) (h : Laid6 w) :
    Calls Tryz.prog 4 #[x.v, .string (str t)] w fun e w' => e = .returned (.bool true) ∧ Below w.heap.size w w' := by
  refine calls_ret (vc4_calls x.ranked x.s1.a x.s1.n x.s1.c x.s2.a x.s2.n x.s2.c x.s3.a x.s3.n x.s3.c x.s4.a x.s4.n x.s4.c x.s5.a x.s5.n x.s5.c (str t) w (fun v w' => v = .bool true ∧ Below w.heap.size w w') ?_) (by rintro v w' ⟨rfl, h⟩; exact ⟨rfl, h⟩)
  have wake : ∀ {w3 : World} , Below w.heap.size w w3 → Calls Tryz.prog 7 #[] w3 fun e w4 => ∃ q : Bool, e = .returned (.bool q) ∧ (Value.bool q = .bool true ∧ Below w.heap.size w w4) := by
    intro w3 hB
    refine (awake_spec w3 (h.on hB)).mono ?_
    rintro e w4 ⟨rfl, hB4⟩
    exact ⟨true, rfl, rfl, below_then hB hB4⟩
  intro w1 hw1
  have hB1 : Below w.heap.size w w1 := by rw [hw1]; exact below_alloc _ _
  have kx : w1.heap[w.heap.size]? = some (.cells x.cells tSpec (0, 0)) := by rw [hw1]; exact alloc_new w _
  have hx1 := hx.on hB1
  refine ⟨x.ranked, _, _, _, _, _, _, _, _, _, _, _, _, _, _, _, agg_cells kx, ?_⟩
  refine (Great_spec x s w1 hx1).mono ?_
  rintro e w2 ⟨rfl, hB2⟩
  refine ⟨_, rfl, CondP.mk (fun _ => wake (below_then hB1 hB2)) (fun hg => ?_)⟩
  rw [str_size]
  refine CondP.mk (fun _ => wake (below_then hB1 hB2)) (fun hl => ?_)
  have hl := of_decide_eq_false hl
  refine ⟨x.ranked, _, _, _, _, _, _, _, _, _, _, _, _, _, _, _, agg_cells (held_on hB2 kx), ?_⟩
  refine (Print_spec x s w2 (hx1.on hB2) ((h.on hB1).on hB2).pow).mono ?_
  rintro e w5 ⟨rfl, hB5⟩
  replace hB5 := below_then hB2 hB5
  have hall := below_then hB1 hB5
  obtain ⟨r, q, hv, hright, hwrong⟩ : ∃ (r : ByteArray) (q : Int), printV s = .tuple #[.string r, .int .i64 q] ∧ (s.right = true → r = str s.text ∧ q = 0) ∧ (s.right = false → q = 1) := by
    unfold printV
    by_cases hr : s.right = true
    · rw [if_pos hr, if_neg (by have := text_short hr hg; omega)]
      exact ⟨_, _, rfl, fun _ => ⟨rfl, rfl⟩, fun e => by rw [hr] at e; cases e⟩
    · rw [if_neg hr]
      exact ⟨_, _, rfl, fun e => absurd e hr, fun _ => rfl⟩
  refine ⟨r, q, by rw [hv], ?_⟩
  intro J hJ
  have tail : ∀ w6, Below w.heap.size w w6 → J [.bool false] w6 := by
    intro w6 hB6
    refine hJ false w6 ?_
    refine (specParse_spec t w6 (h.on hB6).pow (h.on hB6).errs (h.on hB6).mx).mono ?_
    rintro e w7 ⟨v, rfl, hp, hB7⟩
    unfold ParsePost at hp
    rw [if_neg (by omega)] at hp
    cases hq : parseS t with
    | error m =>
      rw [hq] at hp
      obtain ⟨y, rfl, hy⟩ := hp
      refine ⟨y.ranked, y.s1.a, y.s1.n, y.s1.c, y.s2.a, y.s2.n, y.s2.c, y.s3.a, y.s3.n, y.s3.c, y.s4.a, y.s4.n, y.s4.c, y.s5.a, y.s5.n, y.s5.c, _, _, rfl, ?_⟩
      intro w8 hw8
      refine store_spec y w8 hw8 ?_
      intro w9 h9 hB79
      exact CondP.no rfl (wake (below_then hB6 (below_then hB7 hB79)))
    | ok z =>
      rw [hq] at hp
      obtain ⟨y, rfl, hy⟩ := hp
      refine ⟨y.ranked, y.s1.a, y.s1.n, y.s1.c, y.s2.a, y.s2.n, y.s2.c, y.s3.a, y.s3.n, y.s3.c, y.s4.a, y.s4.n, y.s4.c, y.s5.a, y.s5.n, y.s5.c, _, _, rfl, ?_⟩
      intro w8 hw8
      refine store_spec y w8 hw8 ?_
      intro w9 h9 hB79
      have hB9 := below_then hB6 (below_then hB7 hB79)
      refine CondP.yes rfl ⟨y.ranked, _, _, _, _, _, _, _, _, _, _, _, _, _, _, _, agg_cells h9, ?_⟩
      refine (Print_spec y z w9 (hy.on hB79) (h.on hB9).pow).mono ?_
      rintro e w10 ⟨rfl, hB10⟩
      obtain ⟨htx, hrt⟩ := text_parse t z hq
      have hpv : printV z = .tuple #[.string (str t), .int .i64 0] := by
        unfold printV
        rw [if_pos hrt, htx, if_neg (by omega)]
      rw [hpv]
      exact ⟨_, _, rfl, CondP.yes rfl (CondP.yes (by rw [beq_str]; simp) (wake (below_then hB9 hB10)))⟩
  refine CondP.mk ?_ (fun _ => tail w5 hall)
  intro hq
  have hq : q = 0 := by simpa using hq
  have hr : s.right = true := by
    cases hr : s.right with
    | true => rfl
    | false => have := hwrong hr; omega
  obtain ⟨rfl, _⟩ := hright hr
  have htl := text_short hr hg
  refine (specParse_spec s.text w5 (h.on hall).pow (h.on hall).errs (h.on hall).mx).mono ?_
  rintro e w13 ⟨v, rfl, hp, hB13⟩
  unfold ParsePost at hp
  rw [if_neg (by omega), parse_text s hr] at hp
  obtain ⟨y, rfl, hy⟩ := hp
  refine ⟨y.ranked, y.s1.a, y.s1.n, y.s1.c, y.s2.a, y.s2.n, y.s2.c, y.s3.a, y.s3.n, y.s3.c, y.s4.a, y.s4.n, y.s4.c, y.s5.a, y.s5.n, y.s5.c, _, _, rfl, ?_⟩
  intro w14 hw14
  refine store_spec y w14 hw14 ?_
  intro w15 h15 hB15
  have hB515 := below_then hB13 hB15
  refine CondP.no rfl (CondP.no rfl ⟨y.ranked, _, _, _, _, _, _, _, _, _, _, _, _, _, _, _, agg_cells h15, x.ranked, _, _, _, _, _, _, _, _, _, _, _, _, _, _, _, agg_cells (held_on (below_then hB5 hB515) kx), ?_⟩)
  refine (refSame_spec y x s s w15 (hy.on hB15) (hx1.on (below_then hB5 hB515)) (right_small hr)).mono ?_
  rintro e w16 ⟨rfl, hB16⟩
  exact ⟨_, rfl, CondP.no (by simp) (tail w16 (below_then hall (below_then hB515 hB16)))⟩

/-! ### SpecLines -/
def endsFrom (k : Nat) : Bs → List Int
  | [] => []
  | b :: r => if b = 10 then ((k + 1 : Nat) : Int) :: endsFrom (k + 1) r else endsFrom (k + 1) r
theorem endsFrom_snoc (k : Nat) (l : Bs) (b : UInt8) : endsFrom k (l ++ [b]) = endsFrom k l ++ (if b = 10 then [((k + l.length + 1 : Nat) : Int)] else []) := by
  induction l generalizing k with
  | nil => simp only [List.nil_append, endsFrom, List.length_nil, Nat.add_zero]
  | cons c l ih =>
    simp only [List.cons_append, endsFrom, ih (k + 1), List.length_cons]
    rw [show k + 1 + l.length + 1 = k + (l.length + 1) + 1 by omega]
    split <;> simp
theorem endsFrom_line (k : Nat) (l r : Bs) (h : 10 ∉ l) : endsFrom k (l ++ 10 :: r) = ((k + l.length + 1 : Nat) : Int) :: endsFrom (k + l.length + 1) r := by
  induction l generalizing k with
  | nil => simp [endsFrom]
  | cons c l ih =>
    have h1 : c ≠ 10 := fun e => h (by simp [e])
    have h2 : 10 ∉ l := fun e => h (by simp [e])
    simp only [List.cons_append, endsFrom, if_neg h1, ih (k + 1) h2, List.length_cons]
    rw [show k + 1 + l.length + 1 = k + (l.length + 1) + 1 by omega]
theorem ends_text : ∀ (ls : List Bs) (k : Nat), (∀ l ∈ ls, 10 ∉ l) → (endsFrom k (textOf ls)).length = ls.length ∧ ∀ j, j < ls.length → (endsFrom k (textOf ls))[j]? = some (((k + (textOf (ls.take (j + 1))).length : Nat) : Int))
  | [], k, h => ⟨rfl, fun j hj => by simp at hj⟩
  | l :: r, k, h => by
    have e : textOf (l :: r) = l ++ 10 :: textOf r := by simp [textOf]
    obtain ⟨h1, h2⟩ := ends_text r (k + l.length + 1) fun y hy => h y (by simp [hy])
    rw [e, endsFrom_line k l _ (h l (by simp))]
    refine ⟨by simp [h1], ?_⟩
    intro j hj
    cases j with
    | zero => simp [textOf, Nat.add_assoc]
    | succ j =>
      rw [List.getElem?_cons_succ, h2 j (by simpa using hj), List.take_succ_cons]
      have : textOf (l :: r.take (j + 1)) = l ++ 10 :: textOf (r.take (j + 1)) := by simp [textOf]
      rw [this]
      congr 2
      simp
      omega
theorem line_ne {s : SpecV} : ∀ l ∈ s.lines, l ≠ [] := by
  intro l hl
  simp only [SpecV.lines, SpecV.tail, List.mem_cons, List.mem_append, List.mem_map] at hl
  rcases hl with rfl | ⟨m, _, rfl⟩ | ⟨m, _, rfl⟩ | ⟨m, _, rfl⟩ | ⟨m, _, rfl⟩ | ⟨m, _, rfl⟩
  · cases s.ranked <;> decide +kernel
  · unfold mergeL; rw [lineOf_cons]; simp [wMerge]
  · unfold tokenL; rw [lineOf_cons]; simp [wToken]
  · unfold specialL; rw [lineOf_cons]; simp [wSpecial]
  · unfold classL; rw [lineOf_cons]; simp [wClass]
  · unfold joinL; rw [lineOf_cons]; simp [wJoin]
/-- The first lines of a right spec's text are a right spec's. -/
theorem read_prefix {s : SpecV} (h : s.right = true) (n : Nat) : ∃ x k, readAll {} 0 0 (s.lines.take n) = .ok (x, k) := by
  obtain ⟨k, hk⟩ := read_lines s h
  rw [← List.take_append_drop n s.lines, readAll_append] at hk
  cases hr : readAll {} 0 0 (s.lines.take n) with
  | ok z => exact ⟨z.1, z.2, rfl⟩
  | error m => rw [hr] at hk; cases hk
theorem parse_lines {ls : List Bs} (hf : ∀ l ∈ ls, 10 ∉ l) : parseS (textOf ls) = match readAll {} 0 0 ls with | .error n => .error n | .ok s => if ls ≠ [] then .ok s.1 else .error 1 := by
  unfold parseS
  rw [cut_textOf ls hf, List.dropLast_concat]
  cases readAll {} 0 0 ls with
  | error n => rfl
  | ok z =>
    dsimp only
    by_cases h : ls = []
    · subst h; rw [if_neg (by simp), if_neg (by simp)]; rfl
    · rw [if_pos ⟨by simp, h⟩, if_pos h]
def wNothing : Bs := [110, 111, 116, 104, 105, 110, 103]
theorem parse_more {s : SpecV} (h : s.right = true) (n : Nat) (hn : n ≤ s.lines.length) : parseS (textOf (s.lines.take n) ++ (wNothing ++ [10])) = .error (n + 1) := by
  obtain ⟨x, k, hk⟩ := read_prefix h n
  have e : textOf (s.lines.take n) ++ (wNothing ++ [10]) = textOf (s.lines.take n ++ [wNothing]) := (textOf_snoc _ _).symm
  rw [e, parse_lines]
  · rw [readAll_append, hk]
    have : readAll x k (0 + (s.lines.take n).length) [wNothing] = .error (n + 1) := by
      have hl : (s.lines.take n).length = n := by rw [List.length_take]; omega
      rw [hl, Nat.zero_add]
      have hc : cutL 32 wNothing = [wNothing] := by decide +kernel
      simp only [readAll, readLn, hc]
      rw [addW_cases, if_neg (by decide), if_neg (by decide), if_neg (by decide), if_neg (by decide), if_neg (by decide), if_neg (by decide)]
      rfl
    dsimp only
    rw [this]
  · intro l hl
    rcases List.mem_append.1 hl with e | e
    · exact lines_free s l (List.mem_of_mem_take e)
    · simp at e; subst e; decide
theorem parse_cut {s : SpecV} (h : s.right = true) (n : Nat) (hn : n < s.lines.length) : parseS (textOf (s.lines.take n) ++ s.lines[n]) = .error (n + 1) := by
  obtain ⟨x, k, hk⟩ := read_prefix h n
  have hc : cutL 10 (textOf (s.lines.take n) ++ s.lines[n]) = s.lines.take n ++ [s.lines[n]] := by
    have : ∀ ls : List Bs, (∀ l ∈ ls, 10 ∉ l) → ∀ u : Bs, 10 ∉ u → cutL 10 (textOf ls ++ u) = ls ++ [u] := by
      intro ls
      induction ls with
      | nil => intro _ u hu; simp [textOf]; exact cutL_last 10 u hu
      | cons l r ih =>
        intro hl u hu
        have e : textOf (l :: r) ++ u = l ++ 10 :: (textOf r ++ u) := by simp [textOf]
        rw [e, cutL_app 10 l _ (hl l (by simp)), ih (fun y hy => hl y (by simp [hy])) u hu]
        rfl
    exact this _ (fun l hl => lines_free s l (List.mem_of_mem_take hl)) _ (lines_free s _ (List.getElem_mem hn))
  unfold parseS
  rw [hc, List.dropLast_concat, hk]
  dsimp only
  rw [if_neg (by rintro ⟨e, _⟩; rw [List.getLast?_concat] at e; exact line_ne _ (List.getElem_mem hn) (Option.some.inj e))]
  congr 1
  rw [List.length_append, List.length_take]
  simp
  omega
theorem wrap_u64_range (z : Int) : 0 ≤ IntKind.wrap .u64 z ∧ IntKind.wrap .u64 z < 18446744073709551616 := by
  simp only [IntKind.wrap, IntKind.signed, IntKind.bits]
  simp
  omega
/-- A number taken apart by a count lies below it. -/
theorem mod_at (k : Int) (m : Nat) (hm : m ≤ 1000000) : ∃ n : Nat, n ≤ m ∧ IntKind.wrap .u64 ((m : Int) + 1) ≠ 0 ∧ IntKind.wrap .i64 (Int.tmod (IntKind.wrap .u64 k) (IntKind.wrap .u64 ((m : Int) + 1))) = (n : Int) := by
  have h1 : IntKind.wrap .u64 ((m : Int) + 1) = (m : Int) + 1 := wrap_in (k := .u64) (by simp [IntKind.min, IntKind.signed]; omega) (by simp [IntKind.max, IntKind.signed, IntKind.bits]; omega)
  have h2 := wrap_u64_range k
  rw [h1]
  have h3 : 0 ≤ Int.tmod (IntKind.wrap .u64 k) ((m : Int) + 1) := Int.tmod_nonneg _ h2.1
  have h4 : Int.tmod (IntKind.wrap .u64 k) ((m : Int) + 1) < (m : Int) + 1 := Int.tmod_lt_of_pos _ (by omega)
  refine ⟨(Int.tmod (IntKind.wrap .u64 k) ((m : Int) + 1)).toNat, by omega, by omega, ?_⟩
  rw [wrap_in (k := .i64) (by simp [IntKind.min, IntKind.signed, IntKind.bits]; omega) (by simp [IntKind.max, IntKind.signed, IntKind.bits]; omega)]
  omega
end Go.Proofs.YtldgehlbicoedaaGreatDoor.Eng

/- SpecLines, walked by the engine. -/
set_option linter.unusedVariables false
set_option linter.unusedSimpArgs false
set_option maxRecDepth 100000
namespace Go.Proofs.YtldgehlbicoedaaGreatDoor.Eng
open Go Go.RowKit

theorem tmod_text (s : SpecV) (hr : s.right = true) : (endsFrom 0 s.text).length = s.lines.length ∧ ∀ j, j < s.lines.length → (endsFrom 0 s.text)[j]? = some (((textOf (s.lines.take (j + 1))).length : Nat) : Int) := by
  have := ends_text s.lines 0 (lines_free s)
  simpa [SpecV.text] using this
theorem textOf_append (a b : List Bs) : textOf (a ++ b) = textOf a ++ textOf b := by simp [textOf]
theorem text_take (s : SpecV) (n : Nat) (hn : n ≤ s.lines.length) : s.text.take (textOf (s.lines.take n)).length = textOf (s.lines.take n) := by
  have : s.text = textOf (s.lines.take n) ++ textOf (s.lines.drop n) := by
    unfold SpecV.text
    rw [← textOf_append, List.take_append_drop]
  rw [this, List.take_left']
  rfl
theorem ends_count (k : Nat) (l : Bs) : (endsFrom k l).length ≤ l.length := by
  induction l generalizing k with
  | nil => simp [endsFrom]
  | cons b l ih =>
    simp only [endsFrom]
    have := ih (k + 1)
    split <;> simp <;> omega
theorem parse_nil : parseS [] = .error 1 := by
  unfold parseS
  rw [show cutL 10 ([] : Bs) = [[]] from rfl]
  rfl

theorem LinesLaw_spec (x : SpecW) (s : SpecV) (k : Int) (w : World) (hx : SpecAt w x s) (h : Laid6 w) :
    Calls Tryz.prog 5 #[x.v, .int .i64 k] w fun e w' => e = .returned (.bool true) ∧ Below w.heap.size w w' := by
  refine calls_ret (vc5_calls x.ranked x.s1.a x.s1.n x.s1.c x.s2.a x.s2.n x.s2.c x.s3.a x.s3.n x.s3.c x.s4.a x.s4.n x.s4.c x.s5.a x.s5.n x.s5.c k w (fun v w' => v = .bool true ∧ Below w.heap.size w w') ?_) (by rintro v w' ⟨rfl, h⟩; exact ⟨rfl, h⟩)
  have wake : ∀ {w3 : World} , Below w.heap.size w w3 → Calls Tryz.prog 7 #[] w3 fun e w4 => ∃ q : Bool, e = .returned (.bool q) ∧ (Value.bool q = .bool true ∧ Below w.heap.size w w4) := by
    intro w3 hB
    refine (awake_spec w3 (h.on hB)).mono ?_
    rintro e w4 ⟨rfl, hB4⟩
    exact ⟨true, rfl, rfl, below_then hB hB4⟩
  intro w1 hw1
  have hB1 : Below w.heap.size w w1 := by rw [hw1]; exact below_alloc _ _
  have kx : w1.heap[w.heap.size]? = some (.cells x.cells tSpec (0, 0)) := by rw [hw1]; exact alloc_new w _
  have hx1 := hx.on hB1
  refine ⟨x.ranked, _, _, _, _, _, _, _, _, _, _, _, _, _, _, _, agg_cells kx, ?_⟩
  refine (Print_spec x s w1 hx1 (h.on hB1).pow).mono ?_
  rintro e w2 ⟨rfl, hB2⟩
  have hv0 : ∃ (r : ByteArray) (q : Int), printV s = .tuple #[.string r, .int .i64 q] := by
    unfold printV
    split
    · split <;> exact ⟨_, _, rfl⟩
    · exact ⟨_, _, rfl⟩
  obtain ⟨r, q, hv⟩ := hv0
  refine ⟨r, q, by rw [hv], ?_⟩
  refine ⟨x.ranked, _, _, _, _, _, _, _, _, _, _, _, _, _, _, _, agg_cells (held_on hB2 kx), ?_⟩
  refine (Great_spec x s w2 (hx1.on hB2)).mono ?_
  rintro e w3 ⟨rfl, hB3⟩
  have hall := below_then hB1 (below_then hB2 hB3)
  refine ⟨_, rfl, CondP.mk (fun _ => wake hall) (fun hg => ?_)⟩
  refine CondP.mk (fun _ => wake hall) (fun hq => ?_)
  have hq : q = 0 := by simpa using hq
  obtain ⟨hr, rfl⟩ : s.right = true ∧ r = str s.text := by
    unfold printV at hv
    cases hr : s.right with
    | false => rw [hr, if_neg (by simp)] at hv; cases hv; cases hq
    | true =>
      rw [hr, if_pos rfl, if_neg (by have := text_short hr hg; omega)] at hv
      cases hv
      exact ⟨rfl, rfl⟩
  have htl := text_short hr hg
  refine (awake_spec w3 (h.on hall)).mono ?_
  rintro e w6 ⟨rfl, hB6⟩
  replace hall := below_then hall hB6
  refine ⟨_, rfl, CondP.no rfl ?_⟩
  intro I hI
  rw [str_size] at hI
  obtain ⟨hel, hej⟩ := tmod_text s hr
  have hcnt : s.lines.length ≤ 60000 := by rw [← hel]; have := ends_count 0 s.text; omega
  refine climb2 (α := Option Addr × Nat × Nat × World) s.text.length
    (fun i y => y.2.2.2.ownsRow w6.heap.size tInt 1 (.slice y.1 y.2.1 y.2.2.1) y.2.1 ((endsFrom 0 (s.text.take i)).flatMap encInt) ∧ Below w6.heap.size w6 y.2.2.2)
    (fun i y => I [.int .i64 (i : Int), .slice y.1 y.2.1 y.2.2.1] y.2.2.2) (none, 0, 0, w6) ⟨own_nil _ _ _ _, Below.refl _ _⟩ ?_ ?_
  · rintro i hi ih ⟨oA, oN, oC, w8⟩ ⟨hown, hB⟩
    dsimp only at hown hB
    refine hI _ _ _ _ _ (CondP.yes (decide_eq_true (by omega)) ?_)
    intro J hJ
    refine ⟨by omega, by omega, ?_⟩
    rw [btAt_str _ _ hi]
    have hstep : s.text.take (i + 1) = s.text.take i ++ [s.text[i]] := by rw [List.take_add_one, List.getElem?_eq_getElem hi]; rfl
    have hlen : (s.text.take i).length = i := by rw [List.length_take]; omega
    have hn : oN = (endsFrom 0 (s.text.take i)).length := (Rw.of_own (s := ⟨oA, oN, oC⟩) hown (fun _ => rfl) (Nat.succ_pos _)).2
    have hnl := ends_count 0 (s.text.take i)
    refine CondP.mk ?_ ?_
    · intro hc
      have hc : s.text[i] = 10 := by
        have : (s.text[i].toNat : Int) = 10 := by simpa using hc
        exact UInt8.toNat_inj.1 (by show _ = 10; omega)
      refine Ar.ok64 (by omega) (by omega) ?_
      rintro w10 rfl
      obtain ⟨a', c', w11, hr11, hown11, hg11, _⟩ := run_push (P := Tryz.prog) tInts tInt undInts infoInt rfl (by decide) hown [.int .i64 ((i : Int) + 1)] rfl (by intro v hv; simp at hv; subst hv; rfl) (by omega) (by omega) hB.size
      refine ⟨a', oN + 1, c', w11, hr11, hJ _ _ _ _ (Ar.ok64 (by omega) (by omega) (ih (a', oN + 1, c', w11) ⟨?_, below_push hB hown hg11 hB.size⟩))⟩
      dsimp only
      rw [hstep, endsFrom_snoc, hc, if_pos rfl, hlen, List.flatMap_append]
      have e : [((0 + i + 1 : Nat) : Int)].flatMap encInt = [Value.int .i64 ((i : Int) + 1)] := by simp [encInt]
      rw [e]
      exact hown11
    · intro hc
      have hc : s.text[i] ≠ 10 := by
        intro e
        rw [e] at hc
        simp at hc
      refine hJ _ _ _ _ (Ar.ok64 (by omega) (by omega) (ih (oA, oN, oC, w8) ⟨?_, hB⟩))
      dsimp only
      rw [hstep, endsFrom_snoc, if_neg hc, List.append_nil]
      exact hown
  rintro ⟨oA, oN, oC, w8⟩ ⟨hown, hB8⟩
  dsimp only at hown hB8
  rw [List.take_length] at hown
  obtain ⟨hrow, hn⟩ := Rw.of_own (s := ⟨oA, oN, oC⟩) hown (fun _ => rfl) (Nat.succ_pos _)
  dsimp only at hn hrow
  have hints := hrow.ints
  rw [hel] at hn
  replace hall := below_then hall hB8
  refine hI _ _ _ _ _ (CondP.no (decide_eq_false (by omega)) ?_)
  dsimp only
  refine Ar.ok64 (by omega) (by omega) ?_
  obtain ⟨n, hnle, hnz, hmod⟩ := mod_at k oN (by omega)
  refine ⟨hnz, ?_⟩
  rw [hmod]
  have at_ : ∀ {w9 : World}, Below w8.heap.size w8 w9 → ∀ j, j < s.lines.length → ∃ p, oA = some p ∧ w9.cell? (p.add (j * 1)) = some (.int .i64 (((textOf (s.lines.take (j + 1))).length : Nat) : Int)) := by
    intro w9 hB j hj
    obtain ⟨p, hp, _, hc⟩ := (hints.on hB) j _ (hej j hj)
    exact ⟨p, hp, by rw [Nat.mul_one]; exact hc⟩
  have hle : ∀ j, j ≤ s.lines.length → (textOf (s.lines.take j)).length ≤ s.text.length := by
    intro j hj
    have := congrArg List.length (text_take s j hj)
    rw [List.length_take] at this
    omega
  have hext : ∀ j, j ≤ s.lines.length → (str s.text).extract 0 ((textOf (s.lines.take j)).length) = str (textOf (s.lines.take j)) := by
    intro j hj
    rw [str_extract, List.drop_zero, Nat.sub_zero, text_take s j hj]
  refine CondP.mk ?_ ?_
  · intro hc
    refine (specParse_spec [] w8 (h.on hall).pow (h.on hall).errs (h.on hall).mx).mono ?_
    rintro e w12 ⟨v, rfl, hp, hB12⟩
    unfold ParsePost at hp
    rw [if_neg (by simp), parse_nil] at hp
    obtain ⟨y, rfl, hy⟩ := hp
    refine ⟨y.ranked, y.s1.a, y.s1.n, y.s1.c, y.s2.a, y.s2.n, y.s2.c, y.s3.a, y.s3.n, y.s3.c, y.s4.a, y.s4.n, y.s4.c, y.s5.a, y.s5.n, y.s5.c, _, _, rfl, ?_⟩
    intro w13 hw13
    refine store_spec y w13 hw13 ?_
    intro w14 h14 hB14
    exact CondP.yes rfl ⟨rfl, below_then hall (below_then hB12 hB14)⟩
  intro hc
  have hn0 : n ≠ 0 := by
    intro e
    subst e
    simp at hc
  obtain ⟨m, rfl⟩ : ∃ m, n = m + 1 := ⟨n - 1, by omega⟩
  have hml : m < s.lines.length := by omega
  refine Ar.ok64 (by omega) (by omega) ?_
  have em : ((m + 1 : Nat) : Int) - 1 = (m : Int) := by omega
  rw [em]
  obtain ⟨p, hpa, hcp⟩ := at_ (Below.refl _ _) m hml
  have hlm := hle (m + 1) (by omega)
  refine NilC.mk p hpa ⟨by omega, by omega, _, by simpa using hcp, by omega, by omega, by omega, ?_⟩
  rw [Int.toNat_natCast, Int.toNat_natCast, hext (m + 1) (by omega)]
  refine (specParse_spec (textOf (s.lines.take (m + 1))) w8 (h.on hall).pow (h.on hall).errs (h.on hall).mx).mono ?_
  rintro e w15 ⟨v, rfl, hp, hB15⟩
  obtain ⟨z, j, hz⟩ := read_prefix hr (m + 1)
  have hps : parseS (textOf (s.lines.take (m + 1))) = .ok z := by
    rw [parse_lines (fun l hl => lines_free s l (List.mem_of_mem_take hl)), hz]
    dsimp only
    rw [if_pos]
    intro e
    have hl : (s.lines.take (m + 1)).length = m + 1 := by rw [List.length_take]; omega
    rw [e] at hl
    simp at hl
  unfold ParsePost at hp
  rw [if_neg (by omega), hps] at hp
  obtain ⟨y, rfl, hy⟩ := hp
  refine ⟨y.ranked, y.s1.a, y.s1.n, y.s1.c, y.s2.a, y.s2.n, y.s2.c, y.s3.a, y.s3.n, y.s3.c, y.s4.a, y.s4.n, y.s4.c, y.s5.a, y.s5.n, y.s5.c, _, _, rfl, ?_⟩
  intro w16 hw16
  refine store_spec y w16 hw16 ?_
  intro w17 h17 hB17
  have hB817 := below_then hB15 hB17
  refine CondP.no rfl (CondP.no rfl ⟨y.ranked, _, _, _, _, _, _, _, _, _, _, _, _, _, _, _, agg_cells h17, ?_⟩)
  refine (Right_spec y z w17 (hy.on hB17)).mono ?_
  rintro e w18 ⟨rfl, hB18⟩
  replace hB818 := below_then hB817 hB18
  refine ⟨_, rfl, CondP.no (by rw [(text_parse _ z hps).2]; rfl) (Ar.ok64 (by omega) (by omega) ?_)⟩
  obtain ⟨p2, hpa2, hcp2⟩ := at_ hB818 m hml
  refine NilC.mk p2 hpa2 ⟨by omega, by omega, _, by simpa using hcp2, by omega, by omega, by omega, ?_⟩
  rw [Int.toNat_natCast, hext (m + 1) (by omega)]
  refine ⟨?_, ?_⟩
  · refine sz_ok _ _ (by rw [str_size]; omega) (by decide)
  rw [show (⟨#[110, 111, 116, 104, 105, 110, 103, 10]⟩ : ByteArray) = str (wNothing ++ [10]) from rfl, str_append]
  have hall18 := below_then hall hB818
  refine (specParse_spec _ w18 (h.on hall18).pow (h.on hall18).errs (h.on hall18).mx).mono ?_
  rintro e w19 ⟨v, rfl, hp, hB19⟩
  unfold ParsePost at hp
  rw [if_neg (by
    have hw : (wNothing ++ [10]).length = 8 := rfl
    have htl' : s.text.length ≤ 45241 := text_shorter hr hg
    rw [List.length_append, hw]; omega), parse_more hr (m + 1) (by omega)] at hp
  obtain ⟨y2, rfl, hy2⟩ := hp
  refine ⟨y2.ranked, y2.s1.a, y2.s1.n, y2.s1.c, y2.s2.a, y2.s2.n, y2.s2.c, y2.s3.a, y2.s3.n, y2.s3.c, y2.s4.a, y2.s4.n, y2.s4.c, y2.s5.a, y2.s5.n, y2.s5.c, _, _, rfl, Ar.ok64 (by omega) (by omega) ?_⟩
  replace hB819 := below_then hB818 hB19
  obtain ⟨p3, hpa3, hcp3⟩ := at_ hB819 m hml
  have hlast : textOf (s.lines.take (m + 1)) = (textOf (s.lines.take m) ++ s.lines[m]) ++ [10] := by
    rw [List.take_add_one, List.getElem?_eq_getElem hml]
    have := textOf_snoc (s.lines.take m) s.lines[m]
    simpa using this
  have hlen2 : (textOf (s.lines.take (m + 1))).length = (textOf (s.lines.take m) ++ s.lines[m]).length + 1 := by rw [hlast, List.length_append]; rfl
  have hext2 : (str s.text).extract 0 ((textOf (s.lines.take m) ++ s.lines[m]).length) = str (textOf (s.lines.take m) ++ s.lines[m]) := by
    rw [str_extract, List.drop_zero, Nat.sub_zero]
    congr 1
    have h1 := text_take s (m + 1) (by omega)
    have h2 : s.text.take (textOf (s.lines.take m) ++ s.lines[m]).length = (s.text.take (textOf (s.lines.take (m + 1))).length).take (textOf (s.lines.take m) ++ s.lines[m]).length := by
      rw [List.take_take, hlen2, Nat.min_eq_left (by omega)]
    rw [h2, h1, hlast, List.take_left']
    rfl
  refine NilC.mk p3 hpa3 ⟨by omega, by omega, _, by simpa using hcp3, Ar.ok64 (by omega) (by omega) ?_⟩
  have e3 : (((textOf (s.lines.take (m + 1))).length : Nat) : Int) - 1 = (((textOf (s.lines.take m) ++ s.lines[m]).length : Nat) : Int) := by rw [hlen2]; omega
  rw [e3]
  refine ⟨by omega, by omega, by omega, ?_⟩
  rw [Int.toNat_natCast, hext2]
  have hall19 := below_then hall hB819
  refine (specParse_spec _ w19 (h.on hall19).pow (h.on hall19).errs (h.on hall19).mx).mono ?_
  rintro e w20 ⟨v, rfl, hp, hB20⟩
  unfold ParsePost at hp
  rw [if_neg (by omega), parse_cut hr m hml] at hp
  obtain ⟨y3, rfl, hy3⟩ := hp
  refine ⟨y3.ranked, y3.s1.a, y3.s1.n, y3.s1.c, y3.s2.a, y3.s2.n, y3.s2.c, y3.s3.a, y3.s3.n, y3.s3.c, y3.s4.a, y3.s4.n, y3.s4.c, y3.s5.a, y3.s5.n, y3.s5.c, _, _, rfl, ?_⟩
  intro w21 hw21
  refine store_spec y3 w21 hw21 ?_
  intro w22 h22 hB22
  refine Ar.ok64 (by omega) (by omega) (CondP.yes (by simp) (CondP.yes rfl (CondP.yes (by simp) ⟨rfl, below_then hall19 (below_then hB20 hB22)⟩)))
end Go.Proofs.YtldgehlbicoedaaGreatDoor.Eng

/- A spec among the arguments, opened. -/
set_option linter.unusedVariables false
set_option linter.unusedSimpArgs false
set_option maxRecDepth 100000
namespace Go.Proofs.YtldgehlbicoedaaGreatDoor.Eng
open Go Go.RowKit Go.ChangeShapes Go.WideShapes

section
variable {H : Type} {enc0 : TypeId × Value → H} {w : World} {base : Nat} {spare : Nat → Bool} {held : Bool}
theorem elem_pair {e : TypeId} {f0 f1 : Field} (he : Tryz.prog.underlying e = some (.struct #[f0, f1])) (o0 : f0.offset = 0) (o1 : f1.offset = 1) (t0 : Tryz.prog.underlying f0.type = some (.int .i64)) (t1 : Tryz.prog.underlying f1.type = some (.int .i64)) (c0 : Tryz.prog.cellsOf f0.type = 1) (c1 : Tryz.prog.cellsOf f1.type = 1) (hc : Tryz.prog.cellsOf e = 2) :
    ∀ n cs' y, DataW.trod enc0 Tryz.prog w base spare held n e cs' = some y → ∃ m : Int × Int, cs' = encPair m := by
  intro n cs' y h
  obtain ⟨y0, y1, k, _, hl, h0, h1⟩ := trod_struct2 he h
  rw [o0, c0] at h0
  rw [o1, c1] at h1
  rw [hc] at hl
  match cs', hl with
  | [a, b], _ =>
    obtain ⟨i, hi, _⟩ := DataW.trod_int t0 h0
    obtain ⟨j, hj, _⟩ := DataW.trod_int t1 h1
    simp at hi hj
    subst hi hj
    exact ⟨(i, j), rfl⟩
theorem elem_special {e : TypeId} {f0 f1 : Field} (he : Tryz.prog.underlying e = some (.struct #[f0, f1])) (o0 : f0.offset = 0) (o1 : f1.offset = 1) (t0 : Tryz.prog.underlying f0.type = some (.int .i64)) (t1 : Tryz.prog.underlying f1.type = some .string) (c0 : Tryz.prog.cellsOf f0.type = 1) (c1 : Tryz.prog.cellsOf f1.type = 1) (hc : Tryz.prog.cellsOf e = 2) :
    ∀ n cs' y, DataW.trod enc0 Tryz.prog w base spare held n e cs' = some y → ∃ m : Int × Bs, cs' = encSpecial m := by
  intro n cs' y h
  obtain ⟨y0, y1, k, _, hl, h0, h1⟩ := trod_struct2 he h
  rw [o0, c0] at h0
  rw [o1, c1] at h1
  rw [hc] at hl
  match cs', hl with
  | [a, b], _ =>
    obtain ⟨i, hi, _⟩ := DataW.trod_int t0 h0
    obtain ⟨j, hj, _⟩ := DataW.trod_string t1 h1
    simp at hi hj
    subst hi hj
    exact ⟨(i, j.data.toList), by simp [encSpecial, ← str_eta]⟩
theorem elem_class {e : TypeId} {f0 f1 f2 : Field} (he : Tryz.prog.underlying e = some (.struct #[f0, f1, f2])) (o0 : f0.offset = 0) (o1 : f1.offset = 1) (o2 : f2.offset = 2) (t0 : Tryz.prog.underlying f0.type = some (.int .i64)) (t1 : Tryz.prog.underlying f1.type = some (.int .i64)) (t2 : Tryz.prog.underlying f2.type = some (.int .i64)) (c0 : Tryz.prog.cellsOf f0.type = 1) (c1 : Tryz.prog.cellsOf f1.type = 1) (c2 : Tryz.prog.cellsOf f2.type = 1) (hc : Tryz.prog.cellsOf e = 3) :
    ∀ n cs' y, DataW.trod enc0 Tryz.prog w base spare held n e cs' = some y → ∃ m : Int × Int × Int, cs' = encClass m := by
  intro n cs' y h
  obtain ⟨xs, k, _, _, hl, hlen, hF⟩ := DataW.trod_struct he h
  have h0 := hF 0 f0 rfl
  have h1 := hF 1 f1 rfl
  have h2 := hF 2 f2 rfl
  rw [o0, c0] at h0
  rw [o1, c1] at h1
  rw [o2, c2] at h2
  rw [hc] at hl
  match cs', hl, xs, hlen with
  | [a, b, c], _, [y0, y1, y2], _ =>
    obtain ⟨i, hi, _⟩ := DataW.trod_int t0 h0
    obtain ⟨j, hj, _⟩ := DataW.trod_int t1 h1
    obtain ⟨k, hk, _⟩ := DataW.trod_int t2 h2
    simp at hi hj hk
    subst hi hj hk
    exact ⟨(i, j, k), rfl⟩
theorem elem_str : ∀ n cs' y, DataW.trod enc0 Tryz.prog w base spare held n tStr cs' = some y → ∃ m : Bs, cs' = encStr m := by
  intro n cs' y h
  obtain ⟨s, rfl, _⟩ := DataW.trod_string undStr h
  exact ⟨s.data.toList, by simp [encStr, ← str_eta]⟩
theorem open_spec {b0 : Nat} {v : Value} {d : DataW H} {p : List MemPlace} (hv : Value.okWide Tryz.prog w .any b0 tSpec v) (h : DataW.Trod enc0 Tryz.prog w base spare held tSpec v d p) : ∃ (x : SpecW) (s : SpecV), v = x.v ∧ SpecAt w x s := by
  obtain ⟨cs, rfl, hsz⟩ := okWide_struct Tryz.underlying29 hv
  rw [show Tryz.prog.cellsOf tSpec = 6 by kernel_rfl] at hsz
  obtain ⟨fuel, hf⟩ := h
  obtain ⟨xs, n, _, _, _, hlen, hF⟩ := DataW.trod_struct Tryz.underlying29 hf
  have h0 : DataW.trod enc0 Tryz.prog w base spare held n 4 ((cs.toList.drop 0).take (Tryz.prog.cellsOf 4)) = xs[0]? := hF 0 _ rfl
  have h1 : DataW.trod enc0 Tryz.prog w base spare held n 23 ((cs.toList.drop 1).take (Tryz.prog.cellsOf 23)) = xs[1]? := hF 1 _ rfl
  have h2 : DataW.trod enc0 Tryz.prog w base spare held n 24 ((cs.toList.drop 2).take (Tryz.prog.cellsOf 24)) = xs[2]? := hF 2 _ rfl
  have h3 : DataW.trod enc0 Tryz.prog w base spare held n 25 ((cs.toList.drop 3).take (Tryz.prog.cellsOf 25)) = xs[3]? := hF 3 _ rfl
  have h4 : DataW.trod enc0 Tryz.prog w base spare held n 26 ((cs.toList.drop 4).take (Tryz.prog.cellsOf 26)) = xs[4]? := hF 4 _ rfl
  have h5 : DataW.trod enc0 Tryz.prog w base spare held n 27 ((cs.toList.drop 5).take (Tryz.prog.cellsOf 27)) = xs[5]? := hF 5 _ rfl
  rw [show Tryz.prog.cellsOf 4 = 1 by kernel_rfl] at h0
  rw [show Tryz.prog.cellsOf 23 = 1 by kernel_rfl] at h1
  rw [show Tryz.prog.cellsOf 24 = 1 by kernel_rfl] at h2
  rw [show Tryz.prog.cellsOf 25 = 1 by kernel_rfl] at h3
  rw [show Tryz.prog.cellsOf 26 = 1 by kernel_rfl] at h4
  rw [show Tryz.prog.cellsOf 27 = 1 by kernel_rfl] at h5
  have hl6 : cs.toList.length = 6 := by simpa using hsz
  obtain ⟨l, hl⟩ : ∃ l, cs.toList = l := ⟨_, rfl⟩
  obtain rfl : cs = l.toArray := by rw [← hl]
  rw [hl] at h0 h1 h2 h3 h4 h5 hl6
  match l, hl6, xs, hlen with
  | [a0, a1, a2, a3, a4, a5], _, [y0, y1, y2, y3, y4, y5], _ =>
    obtain ⟨rk, hr, _⟩ := DataW.trod_bool Tryz.underlying4 h0
    obtain ⟨s1, l1, e1, n1, _, _, _, r1⟩ := open_list (enc := encPair) (sz := 2) undMgs (by kernel_rfl) (fun _ => rfl) (Nat.succ_pos _) (elem_pair Tryz.underlying55 rfl rfl Tryz.underlying3 Tryz.underlying3 (by kernel_rfl) (by kernel_rfl) (by kernel_rfl)) h1
    obtain ⟨s2, l2, e2, n2, _, _, _, r2⟩ := open_list (enc := encStr) (sz := 1) undStrs (by kernel_rfl) (fun _ => rfl) (Nat.succ_pos _) elem_str h2
    obtain ⟨s3, l3, e3, n3, _, _, _, r3⟩ := open_list (enc := encSpecial) (sz := 2) undSps (by kernel_rfl) (fun _ => rfl) (Nat.succ_pos _) (elem_special Tryz.underlying46 rfl rfl Tryz.underlying3 undStr (by kernel_rfl) (by kernel_rfl) (by kernel_rfl)) h3
    obtain ⟨s4, l4, e4, n4, _, _, _, r4⟩ := open_list (enc := encClass) (sz := 3) undCls (by kernel_rfl) (fun _ => rfl) (Nat.succ_pos _) (elem_class Tryz.underlying57 rfl rfl rfl Tryz.underlying3 Tryz.underlying3 Tryz.underlying3 (by kernel_rfl) (by kernel_rfl) (by kernel_rfl) (by kernel_rfl)) h4
    obtain ⟨s5, l5, e5, n5, _, _, _, r5⟩ := open_list (enc := encPair) (sz := 2) undJns (by kernel_rfl) (fun _ => rfl) (Nat.succ_pos _) (elem_pair Tryz.underlying58 rfl rfl Tryz.underlying3 Tryz.underlying3 (by kernel_rfl) (by kernel_rfl) (by kernel_rfl)) h5
    simp at hr e1 e2 e3 e4 e5
    subst hr e1 e2 e3 e4 e5
    exact ⟨⟨rk, s1, s2, s3, s4, s5⟩, ⟨rk, l1, l2, l3, l4, l5⟩, rfl, rfl, n1, r1, n2, r2, n3, r3, n4, r4, n5, r5⟩
end
end Go.Proofs.YtldgehlbicoedaaGreatDoor.Eng
