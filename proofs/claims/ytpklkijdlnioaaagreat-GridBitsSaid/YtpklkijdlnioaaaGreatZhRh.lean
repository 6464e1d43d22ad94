/- What the reference makes of items, walked by the engine. -/
import Derived.Test.YtpklkijdlnioaaaGreatZhRe
set_option linter.unusedVariables false
set_option linter.unusedSimpArgs false
set_option maxRecDepth 100000
namespace Go.Proofs.YtpklkijdlnioaaaGreat.Eng
open Go Go.RowKit
def encU8 (b : UInt8) : List Value := [.int .u8 ((b.toNat : Nat) : Int)]
theorem u8_cells (l : List UInt8) : l.flatMap encU8 = Lib.byteCells l := by
  induction l with
  | nil => rfl
  | cons b l ih => rw [List.flatMap_cons, ih]; rfl
theorem elU8 : ElT encU8 1 tBytes tU8 1 := ⟨fun _ => rfl, by decide, fun x u hu => by rw [List.mem_singleton.1 hu]; rfl, undBytes, _, infoU8, rfl⟩
theorem own_zero {w : World} {B : Nat} {e : TypeId} {sz : Nat} {k : Nat} (h : w.heap[k]? = some (.cells #[] e (0, 0))) (hB : B ≤ k) : w.ownsRow B e sz (.slice (some ⟨k, 0, none⟩) 0 0) 0 [] :=
  ⟨by simp, .inr ⟨k, 0, #[], rfl, hB, h, Nat.le_refl _, by simp⟩⟩
theorem chop_split {cut : Int → Int → Bool} {A B : List Int} (h : A = [] ∨ B = [] ∨ ∃ x y, A.getLast? = some x ∧ B.head? = some y ∧ cut x y = true) : chop cut (A ++ B) = chop cut A ++ chop cut B := by
  rcases h with rfl | rfl | ⟨x, y, hx, hy, hc⟩
  · rfl
  · simp [chop]
  · obtain ⟨a1, a2⟩ := chop_is (cut := cut) A
    obtain ⟨b1, b2⟩ := chop_is (cut := cut) B
    rcases List.eq_nil_or_concat (chop cut A) with e | ⟨a, p, e⟩
    · rw [e] at a2
      rw [← a2] at hx
      cases hx
    · rw [List.concat_eq_append] at e
      rw [e] at a1 a2 ⊢
      have hp := (a1.append).2.head.1
      have hlast : p.getLast? = some x := by
        rw [← a2, List.flatten_append, List.flatten_cons, List.flatten_nil, List.append_nil, getLast_app _ hp] at hx
        exact hx
      have := chop_unique (cut := cut) (a ++ p :: chop cut B) (a1.glue b1 fun q r hq => by
        rw [hq] at b1 b2
        have hqn := b1.head.1
        rw [← b2, List.flatten_cons, head_app _ hqn] at hy
        exact ⟨x, y, hlast, hy, hc⟩)
      rw [show (a ++ p :: chop cut B).flatten = A ++ B by rw [← a2]; conv => rhs; rw [← b2]
                                                          simp] at this
      rw [this]
      simp
theorem chop_congr {c c' : Int → Int → Bool} : ∀ l : List Int, (∀ x ∈ l, ∀ y ∈ l, c x y = c' x y) → chop c l = chop c' l
  | [], _ => rfl
  | [x], _ => rfl
  | x :: y :: r, h => by
    have ih := chop_congr (c := c) (c' := c') (y :: r) fun a ha b hb => h a (by simp [ha]) b (by simp [hb])
    simp only [chop]
    rw [h x (by simp) y (by simp), ih]
theorem Voc.encode_split (V : Voc) {A B : List Int} (h : A = [] ∨ B = [] ∨ ∃ x y, A.getLast? = some x ∧ B.head? = some y ∧ V.cut x y = true) : V.encode (A ++ B) = V.encode A ++ V.encode B := by
  unfold Voc.encode
  rw [chop_split h, List.flatMap_append]
/-- Bytes behind nothing, or behind a mark. -/
def AtMark (P : List Int) : Prop := P = [] ∨ ∃ x, P.getLast? = some x ∧ x < 0
theorem Voc.encode_after (V : Voc) {P R : List Int} (h : AtMark P) : V.encode (P ++ R) = V.encode P ++ V.encode R := by
  refine V.encode_split ?_
  rcases h with h | ⟨x, hx, h0⟩
  · exact .inl h
  · cases R with
    | nil => exact .inr (.inl rfl)
    | cons y R => exact .inr (.inr ⟨x, y, hx, rfl, by simp [Voc.cut, h0]⟩)
theorem Voc.encode_mark (V : Voc) {P : List Int} {x : Int} (hx : x < 0) : V.encode (P ++ [x]) = V.encode P ++ [V.sp.getD (-1 - x).toNat 0] := by
  rw [V.encode_split (A := P) (B := [x])]
  · congr 1
    unfold Voc.encode
    simp [chop, Voc.encP, hx]
  · rcases List.eq_nil_or_concat P with e | ⟨a, b, e⟩
    · exact .inl e
    · exact .inr (.inr ⟨b, x, by rw [e]; simp, rfl, by simp [Voc.cut, hx]⟩)
theorem Voc.encode_bytes (V : Voc) {b : Bs} {ps : List Bs} (h : ps.map ints = chop V.cutB (ints b)) : V.encode (ints b) = ps.flatMap fun p => after V.ms V.ms.length (ints p) := by
  unfold Voc.encode
  rw [chop_congr (c := V.cut) (c' := V.cutB) _ fun x hx y hy => cut_byte V (ints_byte _ x hx).1 (ints_byte _ y hy).1]
  obtain ⟨h1, h2⟩ := chop_is (cut := V.cutB) (ints b)
  have hne : ∀ p ∈ ps, ints p ≠ [] := by
    intro p hp
    have hm : ints p ∈ chop V.cutB (ints b) := by rw [← h]; exact List.mem_map_of_mem hp
    clear h h2 hp
    revert hm
    generalize chop V.cutB (ints b) = c at h1
    induction c with
    | nil => intro hm; cases hm
    | cons q c ih =>
      intro hm
      rcases List.mem_cons.1 hm with e | hm
      · rw [e]; exact h1.head.1
      · exact ih h1.tail hm
  rw [← h]
  clear h h1 h2
  induction ps with
  | nil => rfl
  | cons p ps ih =>
    rw [List.map_cons, List.flatMap_cons, List.flatMap_cons, ih fun q hq => hne q (by simp [hq])]
    congr 1
    have := hne p (by simp)
    cases hp : ints p with
    | nil => exact absurd hp this
    | cons x r =>
      have hx := (ints_byte p x (by rw [hp]; simp)).1
      unfold Voc.encP
      dsimp only
      rw [if_neg (by omega)]
theorem chop_length {cut : Int → Int → Bool} : ∀ l : List Int, (chop cut l).length ≤ l.length
  | [] => Nat.le_refl _
  | [x] => Nat.le_refl _
  | x :: y :: r => by
    have ih := chop_length (cut := cut) (y :: r)
    simp only [chop]
    split
    · simp only [List.length_cons] at ih ⊢
      omega
    · cases hc : chop cut (y :: r) with
      | nil => simp
      | cons p ps =>
        rw [hc] at ih
        simp only [List.length_cons] at ih ⊢
        omega
theorem flat_len {α : Type} {f : List Int → List α} (hf : ∀ p, (f p).length ≤ p.length) : ∀ l : List (List Int), (l.flatMap f).length ≤ l.flatten.length
  | [] => Nat.le_refl _
  | p :: l => by
    have := hf p
    have := flat_len hf l
    rw [List.flatMap_cons, List.flatten_cons, List.length_append, List.length_append]
    omega
theorem refVEncode_spec (w : World) (x : RvW) (s : SpecV) (T : List Ent) (h : RvAt w x s T) (A : Option Addr) (C : Nat) (Z : List Int) (hr : Rw encInt 1 w A Z) (hl : Z.length ≤ 1000000) (hZ : (vocOf s T).Items Z) : Calls Tryz.prog 21 #[x.v, .slice A Z.length C] w fun e w' => ∃ l : Sl, e = .returned l.v ∧ LsAt encInt 1 w' l ((vocOf s T).encode Z) ∧ Below w.heap.size w w' ∧ ∀ p, l.a = some p → w.heap.size ≤ p.block := by
  refine calls_ret (vc21_calls x.t.b.a x.t.b.n x.t.b.c x.t.m.a x.t.m.n x.t.m.c x.b.b.a x.b.b.n x.b.b.c x.b.m.a x.b.m.n x.b.m.c x.sp.a x.sp.n x.sp.c A Z.length C w (fun u w' => ∃ l : Sl, u = l.v ∧ LsAt encInt 1 w' l ((vocOf s T).encode Z) ∧ Below w.heap.size w w' ∧ ∀ p, l.a = some p → w.heap.size ≤ p.block) ?_) (by rintro v w' ⟨l, rfl, h⟩; exact ⟨l, rfl, h⟩)
  intro w1 hw1 w2 hw2
  have hb1 : Below w.heap.size w w1 := by subst hw1; exact below_alloc _ _
  have b2 : Below w1.heap.size w1 w2 := by subst hw2; exact below_alloc _ _
  have l1 : w1.heap[w.heap.size]? = some (.cells x.cells tRv (0, 0)) := by subst hw1; exact alloc_new _ _
  have l2 : w2.heap[w1.heap.size]? = some (.cells #[] tU8 (0, 0)) := by subst hw2; exact alloc_new _ _
  have hfew := h.few
  have hvok := h.vok
  have hsn := h.sn
  intro I hI
  let V := vocOf s T
  let Mid (i : Nat) (y : Sl × Sl × World) : Prop := ∃ (P : List Int) (r : Bs), Z.take i = P ++ ints r ∧ AtMark P ∧ y.2.2.ownsRow w1.heap.size tInt 1 y.2.1.v y.2.1.n ((V.encode P).flatMap encInt) ∧ y.2.1.n ≤ P.length ∧ y.2.2.ownsRow w1.heap.size tU8 1 y.1.v y.1.n (r.flatMap encU8) ∧ Below w1.heap.size w1 y.2.2
  let End (y : Sl × Sl × World) : Prop := y.2.2.ownsRow w1.heap.size tInt 1 y.2.1.v y.2.1.n ((V.encode Z).flatMap encInt) ∧ Below w1.heap.size w1 y.2.2
  let Inv (i : Nat) (y : Sl × Sl × World) : Prop := (i ≤ Z.length ∧ Mid i y) ∨ (i = Z.length + 1 ∧ End y)
  have key := climb2 (α := Sl × Sl × World) (Z.length + 1) Inv (fun i y => I [.int .i64 (i : Int), y.1.v, y.2.1.v] y.2.2) (⟨some (nb w1), 0, 0⟩, sl0, w2) (.inl ⟨Nat.zero_le _, [], [], rfl, .inl rfl, own_none _ _ _ _ encInt, Nat.le_refl _, own_zero l2 (Nat.le_refl _), b2⟩) ?_ ?_
  · exact key
  · rintro i hi ih ⟨run, out, q⟩ hinv
    obtain ⟨P, r, hP, hPm, hout, hon, hrun, hB⟩ : Mid i (run, out, q) := by
      rcases hinv with ⟨_, h⟩ | ⟨e, _⟩
      · exact h
      · omega
    change q.ownsRow w1.heap.size tInt 1 out.v out.n _ at hout
    change out.n ≤ P.length at hon
    change q.ownsRow w1.heap.size tU8 1 run.v run.n _ at hrun
    change Below w1.heap.size w1 q at hB
    have hrn := (LsAt.of_own elU8 hrun).n
    have hPr : P.length + r.length = i := by
      have := congrArg List.length hP
      rw [List.length_take, List.length_append, Nat.min_eq_left (by omega)] at this
      simpa [ints] using this.symm
    have hw := below_then hb1 hB
    refine hI _ run.a run.n run.c out.a out.n out.c q (CondP.yes (by simp; omega) ?_)
    intro J hJ
    have hJ' : ∀ (r' o' : Sl) (v : World), Inv (i + 1) (r', o', v) → J [.slice r'.a r'.n r'.c, .slice o'.a o'.n o'.c] v := fun r' o' v hv => hJ r'.a r'.n r'.c o'.a o'.n o'.c v (Ar.nat (i + 1) rfl (by omega) (ih (r', o', v) hv))
    have flushed : (i < Z.length → ∃ z, Z[i]? = some z ∧ z < 0) →
        ∃ g0A : Option Addr, ∃ g0N : Nat, ∃ g0C : Nat, ∃ g1A : Option Addr, ∃ g1N : Nat, ∃ g1C : Nat, (q.cell? ((nb w).add 2) = some (Value.slice g0A g0N g0C) ∧ q.cell? (((nb w).add 2).add 1) = some (Value.slice g1A g1N g1C) ∧ True) ∧
        ∃ s_1 : ByteArray, ∃ w7 : World, (convert tBytes tStr (Value.slice run.a run.n run.c)).run Tryz.prog q = .ok (Value.string s_1) w7 ∧
        Calls Tryz.prog 58 #[Value.agg #[Value.slice g0A g0N g0C, Value.slice g1A g1N g1C], Value.string s_1] w7 (fun e8 w8 =>
        ∃ lA : Option Addr, ∃ lN : Nat, ∃ lC : Nat, e8 = .returned (Value.slice lA lN lC) ∧
        ∀ I15 : List Value → World → Prop, (∀ k : Int, ∀ oA : Option Addr, ∀ oN : Nat, ∀ oC : Nat, ∀ w9 : World, (CondP (decide ((k : Int) < ((lN : Nat) : Int)))
          (∀ w10 : World, w10 = w9.drew →
            ∃ h0A : Option Addr, ∃ h0N : Nat, ∃ h0C : Nat, ∃ h1A : Option Addr, ∃ h1N : Nat, ∃ h1C : Nat, (w10.cell? ((nb w).add 0) = some (Value.slice h0A h0N h0C) ∧ w10.cell? (((nb w).add 0).add 1) = some (Value.slice h1A h1N h1C) ∧ True) ∧
            NilC lA (fun pa => (0 : Int) ≤ k ∧ k < ((lN : Nat) : Int) ∧
            ∃ s_2 : ByteArray, w10.cell? (pa.add ((k : Int).toNat * 1)) = some (Value.string s_2) ∧
            Calls Tryz.prog 59 #[Value.agg #[Value.slice h0A h0N h0C, Value.slice h1A h1N h1C], Value.string s_2] w10 (fun e11 w11 =>
            ∃ mA : Option Addr, ∃ mN : Nat, ∃ mC : Nat, e11 = .returned (Value.slice mA mN mC) ∧
            ∃ nA : Option Addr, ∃ nN : Nat, ∃ nC : Nat, ∃ w12 : World, (Builtin.append_ #[tInts, tInts] tInts #[Value.slice oA oN oC, Value.slice mA mN mC]).run Tryz.prog w11 = .ok (Value.slice nA nN nC) w12 ∧
            Ar .i64 ((k : Int) + 1) (fun n => I15 [Value.int .i64 n, Value.slice nA nN nC] w12))))
          (∀ w13 : World, w13 = w9.alloc (.cells #[] tU8) →
            CondP (decide ((i : Int) < ((Z.length : Nat) : Int)))
              (∀ w14 : World, w14 = w13.drew →
                ∃ lA : Option Addr, ∃ lN : Nat, ∃ lC : Nat, w14.cell? ((nb w).add 4) = some (Value.slice lA lN lC) ∧
                NilC A (fun pa => (0 : Int) ≤ (i : Int) ∧ (i : Int) < ((Z.length : Nat) : Int) ∧
                ∃ n_38 : Int, w14.cell? (pa.add ((i : Int).toNat * 1)) = some (Value.int .i64 n_38) ∧
                Ar .i64 ((-1 : Int) - n_38) (fun n_39 =>
                NilC lA (fun pb => (0 : Int) ≤ n_39 ∧ n_39 < ((lN : Nat) : Int) ∧
                ∃ n_41 : Int, w14.cell? ((pb.add ((n_39 : Int).toNat * 2)).add 0) = some (Value.int .i64 n_41) ∧
                ∀ w15 : World, w15 = w14.alloc (.cells #[Value.int .i64 n_41] tInt) →
                ∃ nA : Option Addr, ∃ nN : Nat, ∃ nC : Nat, ∃ w16 : World, (Builtin.append_ #[tInts, tInts] tInts #[Value.slice oA oN oC, Value.slice (some (nb w14)) 1 1]).run Tryz.prog w15 = .ok (Value.slice nA nN nC) w16 ∧
                J [Value.slice (some (nb w9)) 0 0, Value.slice nA nN nC] w16))))
              (J [Value.slice (some (nb w9)) 0 0, Value.slice oA oN oC] w13))) → I15 [Value.int .i64 k, Value.slice oA oN oC] w9) →
        I15 [Value.int .i64 0, Value.slice out.a out.n out.c] w8) := by
      intro hcase
      refine ⟨_, _, _, _, _, _, agg_in (held_on hB l1) 2 rfl rfl, str r, q, run_str_own (P := Tryz.prog) undBytes undU8 undStr (by rw [← u8_cells]; exact hrun), ?_⟩
      refine (refPieces_spec q x.b s.classes s.joins (h.on hw).b hfew.2.1 hfew.2.2 r (by omega)).mono ?_
      rintro e w8 ⟨l, ps, rfl, hlo, hps, b8⟩
      have hB8 := below_then hB b8
      have henc : V.encode (P ++ ints r) = V.encode P ++ ps.flatMap fun p => after V.ms V.ms.length (ints p) := by rw [V.encode_after hPm, V.encode_bytes hps]
      have hall := (chop_is (cut := cutB s.classes s.joins) (ints r)).2
      rw [← hps] at hall
      have hplen : ∀ p ∈ ps, p.length ≤ r.length := by
        intro p hp
        have h1 := congrArg List.length hall
        obtain ⟨a, b, e⟩ := List.append_of_mem hp
        rw [e] at h1
        simp [ints] at h1
        omega
      have hflat : ∀ k, ((ps.take k).flatMap fun p => after V.ms V.ms.length (ints p)).length ≤ r.length := by
        intro k
        have h1 := congrArg List.length hall
        have h2 := flat_len (f := after V.ms V.ms.length) (fun p => after_len V.ms p _ (Nat.le_refl _)) ((ps.take k).map ints)
        have h3 : ((ps.take k).map ints).flatten.length ≤ ((ps.map ints).flatten).length := by
          conv => rhs; rw [← List.take_append_drop k ps]
          rw [List.map_append, List.flatten_append, List.length_append]
          omega
        rw [List.flatMap_map] at h2
        have h4 : (ints r).length = r.length := by simp [ints]
        exact Nat.le_trans h2 (by omega)
      have hln := (LsAt.of_own elStr hlo).n
      have hpsl : ps.length ≤ r.length := by
        have := chop_length (cut := cutB s.classes s.joins) (ints r)
        rw [← hps] at this
        simpa [ints] using this
      refine ⟨l.a, l.n, l.c, rfl, ?_⟩
      intro I15 hI15
      have key2 := climb2 (α := Sl × World) ps.length (fun k y => y.2.ownsRow w1.heap.size tInt 1 y.1.v y.1.n ((V.encode P ++ (ps.take k).flatMap fun p => after V.ms V.ms.length (ints p)).flatMap encInt) ∧ y.2.ownsRow w1.heap.size tStr 1 l.v l.n (ps.flatMap encStr) ∧ Below w1.heap.size w1 y.2) (fun k y => I15 [.int .i64 (k : Int), y.1.v] y.2) (out, w8) ⟨by simpa using own_on hout b8, own_base hlo hB.size, hB8⟩ ?_ ?_
      · exact key2
      · rintro k hk ih2 ⟨o, v⟩ ⟨ho, hlv, hBv⟩
        change v.ownsRow w1.heap.size tInt 1 o.v o.n _ at ho
        change v.ownsRow w1.heap.size tStr 1 l.v l.n _ at hlv
        change Below w1.heap.size w1 v at hBv
        have hon' := (LsAt.of_own elInt ho).n
        have hk2 := hflat k
        have hk3 := (LsAt.of_own elInt hout).n
        rw [List.length_append] at hon'
        refine hI15 _ o.a o.n o.c v (CondP.yes (by simp; omega) ?_)
        intro w10 hw10
        have b10 : Below v.heap.size v w10 := by subst hw10; exact drew_on v
        have hB10 := below_then hBv b10
        have hlv10 := own_on hlv b10
        obtain ⟨p, hp, c0⟩ := cell_rw ((LsAt.of_own elStr hlv10).r) hk rfl
        refine ⟨_, _, _, _, _, _, agg_in (held_on hB10 l1) 0 rfl rfl, NilC.mk p hp ⟨by omega, by omega, _, c0, ?_⟩⟩
        have hpk := hplen _ (List.getElem_mem hk)
        refine (refAll_spec w10 x.t T (h.on (below_then hb1 hB10)).t h.ok ps[k] (by omega)).mono ?_
        rintro e w11 ⟨m, rfl, hm, b11⟩
        have hB11 := below_then hB10 b11
        have hmn := hm.n
        have hal := after_len (mergesOf T) (ints ps[k]) _ (Nat.le_refl _)
        have : (ints ps[k]).length = ps[k].length := by simp [ints]
        obtain ⟨n', w12, hn', hrun', hown', hB', hkeep, _⟩ := elInt.spread (own_on (own_on ho b10) b11) hm hB11.size (by omega) (by omega) (by decide)
        have hl11 := own_on hlv10 b11
        refine ⟨m.a, m.n, m.c, rfl, n'.a, n'.n, n'.c, w12, hrun', Ar.nat (k + 1) rfl (by omega) (ih2 (n', w12) ⟨?_, own_same hl11 fun j hj => hkeep j (own_lt hl11 j hj).2 (row_ne_row hl11 (own_on (own_on ho b10) b11) (by decide) j hj), hB' _ hB11⟩)⟩
        have e : (V.encode P ++ (ps.take (k + 1)).flatMap fun p => after V.ms V.ms.length (ints p)) = (V.encode P ++ (ps.take k).flatMap fun p => after V.ms V.ms.length (ints p)) ++ after V.ms V.ms.length (ints ps[k]) := by
          rw [List.take_add_one, List.getElem?_eq_getElem hk]
          simp only [List.flatMap_append, Option.toList_some, List.flatMap_cons, List.flatMap_nil, List.append_nil, List.append_assoc]
        show w12.ownsRow w1.heap.size tInt 1 n'.v n'.n _
        rw [e]
        exact hown'
      · rintro ⟨o, v⟩ ⟨ho, hlv, hBv⟩
        change v.ownsRow w1.heap.size tInt 1 o.v o.n _ at ho
        change Below w1.heap.size w1 v at hBv
        rw [List.take_length, ← henc] at ho
        have hon' := (LsAt.of_own elInt ho).n
        have honP : o.n ≤ i := by
          have h1 := hflat ps.length
          have h2 := (LsAt.of_own elInt hout).n
          rw [hon', henc, List.length_append]
          rw [List.take_length] at h1
          omega
        refine hI15 _ o.a o.n o.c v (CondP.no (by simp; omega) ?_)
        intro w13 hw13
        have b13 : Below v.heap.size v w13 := by subst hw13; exact below_alloc _ _
        have n13 : w13.heap[v.heap.size]? = some (.cells #[] tU8 (0, 0)) := by subst hw13; exact alloc_new _ _
        have hB13 := below_then hBv b13
        have ho13 := own_on ho b13
        refine CondP.mk (fun hlt => ?_) fun hlt => ?_
        · have hlt : i < Z.length := by have := of_decide_eq_true hlt; omega
          obtain ⟨z, hz, hz0⟩ := hcase hlt
          intro w14 hw14
          have b14 : Below w13.heap.size w13 w14 := by subst hw14; exact drew_on w13
          have hB14 := below_then hB13 b14
          have hw14' := below_then hb1 hB14
          have hgz : Z[i] = z := by rw [List.getElem?_eq_getElem hlt] at hz; exact Option.some.inj hz
          obtain ⟨p, hp, c0⟩ := cell_rw (hr.on hw14') hlt rfl
          have hlow := (hZ z (by rw [← hgz]; exact List.getElem_mem hlt)).1
          have hspl : V.sp.length = s.specials.length := by simp [V, vocOf]
          have hlow : -(s.specials.length : Int) ≤ z := by rw [← hspl]; exact hlow
          have hkz : (-1 - z).toNat < s.specials.length := by omega
          obtain ⟨ps', hps', _, hc'⟩ := ((h.on hw14').sr) (-1 - z).toNat _ (List.getElem?_eq_getElem hkz)
          rw [hgz] at c0
          refine ⟨_, _, _, ptr_add0 _ _ (held_on hB14 l1) 4, NilC.mk p hp ⟨by omega, by omega, z, c0, Ar.nat (-1 - z).toNat (by omega) (by omega) (NilC.mk ps' hps' ⟨by omega, by omega, _, hc' 0 _ rfl, ?_⟩)⟩⟩
          intro w15 hw15
          have ho14 := own_on ho13 b14
          obtain ⟨n', w16, hn', hrun', hown', hB', hkeep⟩ := elInt.push ho14 _ hw15 rfl hB14.size (by omega) (by decide)
          have n14 := held_on b14 n13
          refine ⟨n'.a, n'.n, n'.c, w16, hrun', hJ' ⟨some (nb v), 0, 0⟩ n' w16 (.inl ⟨hlt, P ++ ints r ++ [z], [], ?_, .inr ⟨z, by simp, hz0⟩, ?_, ?_, ?_, hB' _ hB14⟩)⟩
          · rw [List.take_add_one, hz, hP]
            simp [ints]
          · show w16.ownsRow w1.heap.size tInt 1 n'.v n'.n _
            rw [V.encode_mark hz0]
            have hget : V.sp.getD (-1 - z).toNat 0 = s.specials[(-1 - z).toNat].1 := by
              show (s.specials.map (·.1)).getD _ 0 = _
              simp [List.getD, List.getElem?_eq_getElem hkz]
            rw [hget]
            exact hown'
          · show n'.n ≤ _
            simp [ints]
            omega
          · refine own_zero ?_ hBv.size
            rw [hkeep _ (Array.getElem?_eq_some_iff.1 n14).1 (row_ne_blk ho14 n14 (by decide))]
            exact n14
        · have hlt : i = Z.length := by have := of_decide_eq_false hlt; omega
          refine hJ' ⟨some (nb v), 0, 0⟩ o w13 (.inr ⟨by omega, ?_, hB13⟩)
          show w13.ownsRow w1.heap.size tInt 1 o.v o.n _
          rw [← hP, hlt, List.take_length] at ho13
          exact ho13
    refine CondP.mk (fun hlt => ?_) fun hlt => flushed (fun e => absurd (show (i : Int) < (Z.length : Int) by omega) (of_decide_eq_false hlt))
    have hlt : i < Z.length := by have := of_decide_eq_true hlt; omega
    obtain ⟨p, hp, c0⟩ := cell_rw (hr.on hw) hlt rfl
    refine NilC.mk p hp ⟨by omega, by omega, _, c0, CondP.mk (fun hge => ?_) fun hge => flushed fun _ => ⟨Z[i], List.getElem?_eq_getElem hlt, by have := of_decide_eq_false hge; omega⟩⟩
    have hge : 0 ≤ Z[i] := of_decide_eq_true hge
    have hup := (hZ _ (List.getElem_mem hlt)).2
    have hwr : IntKind.wrap .u8 Z[i] = Z[i] := wrap_in (by show (0 : Int) ≤ _; omega) (by show _ ≤ (255 : Int); omega)
    refine NilC.mk p hp ⟨by omega, by omega, _, c0, ?_⟩
    intro w5 hw5
    rw [hwr] at hw5
    have hbyte : Z[i] = (((UInt8.ofNat Z[i].toNat).toNat : Nat) : Int) := by
      rw [UInt8.toNat_ofNat', Nat.mod_eq_of_lt (show Z[i].toNat < 256 by omega)]
      omega
    obtain ⟨n', w6, hn', hrun', hown', hB', hkeep⟩ := elU8.push hrun (UInt8.ofNat Z[i].toNat) hw5 (by show _ = [Value.int .u8 (((UInt8.ofNat Z[i].toNat).toNat : Nat) : Int)].toArray; rw [← hbyte]) hB.size (by omega) (by decide)
    refine ⟨n'.a, n'.n, n'.c, w6, hrun', hJ' n' out w6 (.inl ⟨hlt, P, r ++ [UInt8.ofNat Z[i].toNat], ?_, hPm, ?_, hon, hown', hB' _ hB⟩)⟩
    · rw [List.take_add_one, List.getElem?_eq_getElem hlt, hP, ints_append, ← List.append_assoc]
      congr 1
      show [Z[i]] = [(((UInt8.ofNat Z[i].toNat).toNat : Nat) : Int)]
      rw [← hbyte]
    · exact own_same hout fun j hj => hkeep j (own_lt hout j hj).2 (row_ne_row hout hrun (by decide) j hj)
  · rintro ⟨run, out, q⟩ hinv
    obtain ⟨ho, hB⟩ : End (run, out, q) := by
      rcases hinv with ⟨e, _⟩ | ⟨_, h⟩
      · omega
      · exact h
    exact hI _ run.a run.n run.c out.a out.n out.c q (CondP.no (by simp; omega) ⟨out, rfl, LsAt.of_own elInt ho, below_then hb1 hB, fun p hp => Nat.le_trans hb1.size (own_fresh ho p hp)⟩)
end Go.Proofs.YtpklkijdlnioaaaGreat.Eng
