/- CanonFeeds walked: tokens that are fed in any portions. -/
import Derived.Test.YtpklkijdlnioaaaGreatFs
set_option linter.unusedVariables false
set_option linter.unusedSimpArgs false
set_option maxRecDepth 100000
namespace Go.Proofs.YtpklkijdlnioaaaGreat.Eng
open Go Go.RowKit

def encSl (m : Sl × List Int) : List Value := [m.1.v]
/-- A slice of numbers among others. -/
structure Portion (w : World) (m : Sl × List Int) : Prop where
  n : m.1.n = m.2.length
  k : SlOk m.1
  c : m.1.n ≤ m.1.c
  r : Rw encInt 1 w m.1.a m.2
theorem Touch.then_below {v : Nat} {a b c : World} (t : Touch v a b) (hb : Below a.heap.size b c) : Touch v a c :=
  ⟨hb.os.trans t.os, hb.tape.trans t.tape, hb.output.trans t.output, Nat.le_trans t.size hb.size, fun k hk hv => (hb.block k hk).trans (t.block k hk hv)⟩
theorem VocIs.grow {w w' : World} {v : Nat} {s : SpecV} {T : List Ent} (h : VocIs w v s T) {B : Nat} (hb : Below B w w') (hv : v < B) {B' n : Nat} {u : Value} {xs : List Value} (ho : w.ownsRow B' tInt 1 u n xs) (hk : ∀ k, k < w.heap.size → u.ownBlock ≠ some k → w'.heap[k]? = w.heap[k]?) : VocIs w' v s T := by
  obtain ⟨w0, x, tp, bp, mp, d, l, uses, hR⟩ := h
  have hlt := hR.lt
  refine ⟨w0, x, tp, bp, mp, d, l, uses, hR.parts, hR.below.trans (hb.mono (by omega)), hlt, by rw [hb.block v hv]; exact hR.blk, ?_⟩
  rcases hR.once with h | ⟨h1, h2, h3⟩
  · exact .inl h
  · exact .inr ⟨h1, h2, own_same h3 fun k hk3 => hk k (own_lt h3 k hk3).2 (row_ne_row h3 ho (by decide) k hk3)⟩
theorem CanonFeeds_spec (w : World) (y : CsW) (ls : List Int) (cs : List (Int × Int × Int)) (js : List (Int × Int)) (xs : List (Int × Bs)) (h : CsAt w y ls cs js xs) (A : Option Addr) (C : Nat) (ll : List (Sl × List Int)) (hr : Rw encSl 1 w A ll) (hp : ∀ m ∈ ll, Portion w m) (again : Int) :
    Calls Tryz.prog 6 #[y.v, .slice A ll.length C, .int .u8 again] w fun e w' => e = .returned (.bool true) ∧ Below w.heap.size w w' := by
  refine calls_ret (vc6_calls y.l.a y.l.n y.l.c y.c.a y.c.n y.c.c y.j.a y.j.n y.j.c y.x.a y.x.n y.x.c A ll.length C again w (fun u w' => u = .bool true ∧ Below w.heap.size w w') ?_) (by rintro v w' ⟨rfl, h⟩; exact ⟨rfl, h⟩)
  intro w1 hw1
  have hb1 : Below w.heap.size w w1 := by subst hw1; exact below_alloc _ _
  have l1 : w1.heap[w.heap.size]? = some (.cells y.cells tCs (0, 0)) := by subst hw1; exact alloc_new _ _
  refine ⟨_, _, _, _, _, _, _, _, _, _, _, _, agg4 l1, ?_⟩
  refine (lawGreat_spec w1 y ls cs js xs (h.on hb1)).mono ?_
  rintro e w2 ⟨n, rfl, b2⟩
  have hb2 := below_then hb1 b2
  have aw : ∀ {q : World}, Below w.heap.size w q → Calls Tryz.prog 16 #[] q fun e w' => ∃ b : Bool, e = .returned (.bool b) ∧ (Value.bool b = Value.bool true ∧ Below w.heap.size w w') := by
    intro q hq
    refine (awake18_spec q).mono ?_
    rintro e w3 ⟨rfl, b3⟩
    exact ⟨true, rfl, rfl, below_then hq b3⟩
  refine ⟨n, rfl, CondP.mk (fun _ => aw hb2) fun _ => CondP.mk (fun _ => aw hb2) fun h12 => ?_⟩
  have h12 := of_decide_eq_false h12
  refine (awake18_spec w2).mono ?_
  rintro e w6 ⟨rfl, b6⟩
  have hb6 := below_then hb2 b6
  refine ⟨_, rfl, CondP.no rfl ⟨_, _, _, _, _, _, _, _, _, _, _, _, agg4 (held_on b6 (held_on b2 l1)), ?_⟩⟩
  refine (lawOf_spec w6 y ls cs js xs (h.on hb6)).mono ?_
  rintro e w7 ⟨u, rfl, v, r, s, T, rfl, hB7, hv, b7⟩
  have hb7 := below_then hb6 b7
  refine ⟨_, _, _, _, _, _, _, _, _, _, _, _, _, _, _, _, rfl, ?_⟩
  intro w8 hw8
  refine storeP_new (slRv rv0) (slRv r) rfl (ones_rv r) w8 hw8 ?_
  intro w0 h0 hz0 b0
  have hB := hB7.on b0
  have hb0 := below_then hb7 b0
  have hvl := hB7.voc.lt
  have hz1 := hb6.size
  have hok := hB.now.ok
  have hVok := hB.now.vok
  have hlt7 : w7.heap.size < w0.heap.size := (Array.getElem?_eq_some_iff.1 h0).1
  refine CondP.no rfl ?_
  refine (detNew_spec w0 v).mono ?_
  rintro e q0 ⟨rfl, hq0⟩
  have hd0 := det_new w0 hB.voc q0 hq0
  obtain ⟨d, hd⟩ : ∃ d, d = w0.heap.size := ⟨_, rfl⟩
  rw [← hd] at hd0 ⊢
  refine ⟨_, rfl, ?_⟩
  have mcells : ∀ {q : World}, Touch v w0 q → q.heap[w7.heap.size]? = some (.cells r.cells tRv (0, 0)) := fun t => t.held (by omega) h0
  have below : ∀ {q : World}, Touch v w0 q → Below w.heap.size w q := fun t => hb0.trans (t.below (by omega) hb0.size)
  have rv : ∀ {q : World}, Touch v w0 q → RvAt q r s T := fun t => hB.rv _ t
  intro I hI
  let Inv (i : Nat) (z : Sl × Bool × World) : Prop := ∃ (all : List Int) (o : Option Nat) (last : Sl), DetAt w0 z.2.2 d v s T all o last ∧ (∀ k, z.1.v.ownBlock = some k → last.v.ownBlock ≠ some k) ∧ z.2.2.ownsRow w0.heap.size tInt 1 z.1.v z.1.n (all.flatMap encInt) ∧ all.length ≤ 30 * i
  have key := climb2 (α := Sl × Bool × World) ll.length Inv (fun i z => I [.int .i64 (i : Int), z.1.v, .bool z.2.1] z.2.2) (sl0, false, q0) ⟨[], none, sl0, hd0, fun k hk => (by cases hk), own_none _ _ _ _ encInt, Nat.zero_le _⟩ ?_ ?_
  · exact key
  · rintro i hi ih ⟨a, y6, q⟩ ⟨all, o, last, hD, hap, hown, hal⟩
    change DetAt w0 q d v s T all o last at hD
    change ∀ k, a.v.ownBlock = some k → last.v.ownBlock ≠ some k at hap
    change q.ownsRow w0.heap.size tInt 1 a.v a.n _ at hown
    have han := (LsAt.of_own elInt hown).n
    have hq := hD.t
    refine hI _ a.a a.n a.c y6 q (CondP.yes (by simp; omega) ?_)
    intro J hJ
    have hJ' : ∀ (a2 : Sl) (y2 : Bool) (z : World), Inv (i + 1) (a2, y2, z) → J [.slice a2.a a2.n a2.c, .bool y2] z := fun a2 y2 z hz => hJ _ _ _ _ _ (Ar.nat (i + 1) rfl (by omega) (ih (a2, y2, z) hz))
    have hpi := hp _ (List.getElem_mem hi)
    obtain ⟨p, hpA, c0⟩ := cell_rw (hr.on (below hq)) hi rfl
    have cellP : ∀ {z : World}, Touch v w0 z → z.cell? (p.add (i * 1)) = some ll[i].1.v := by
      intro z hz
      obtain ⟨p', hp', c0'⟩ := cell_rw (hr.on (below hz)) hi rfl
      have : p' = p := by rw [hpA] at hp'; exact (Option.some.inj hp').symm
      subst this
      exact c0'
    obtain ⟨pn, pk, pc, pr⟩ := hpi
    obtain ⟨⟨⟨pA, pN, pC⟩, ids⟩, hm⟩ : ∃ m, m = ll[i] := ⟨_, rfl⟩
    rw [← hm] at pn pk pc pr cellP
    change pN = ids.length at pn
    change pN ≤ pC at pc
    change Rw encInt 1 w pA ids at pr
    subst pn
    refine NilC.mk p hpA ⟨by omega, by omega, pA, _, pC, cellP hq, CondP.mk (fun _ => ⟨rfl, below hq⟩) fun h30 => NilC.mk p hpA ⟨by omega, by omega, pA, _, pC, cellP hq, ?_⟩⟩
    have h30 : ids.length ≤ 30 := by
      have h30 : ¬ ((ids.length : Nat) : Int) > 30 := of_decide_eq_false h30
      omega
    have pr0 := pr.on hb0
    refine (feed_spec hD hVok hok (by omega) pA pC ids pr0 (pr.far (by omega)) pk pc (by omega)).mono ?_
    rintro e w13 ⟨u, rfl, z13, k13, last', hlast, hcase⟩
    obtain ⟨r0, r1, rfl, hshape⟩ : ∃ r0 r1, u = .tuple #[.int .i64 r0, .int .i64 r1] ∧ ((badId s T ids ≥ 0 ∧ r0 = badId s T ids ∧ r1 = 4 ∧ DetAt w0 w13 d v s T all o last') ∨ (¬ badId s T ids ≥ 0 ∧ ∃ o', r0 = placeV o' ∧ r1 = 0 ∧ DetAt w0 w13 d v s T (all ++ ids) o' last')) := by
      rcases hcase with ⟨h1, rfl, h2⟩ | ⟨h1, o', rfl, h2⟩
      · exact ⟨_, _, rfl, .inl ⟨h1, rfl, rfl, h2⟩⟩
      · exact ⟨_, _, rfl, .inr ⟨h1, o', rfl, rfl, h2⟩⟩
    have t13 : Touch v w0 w13 := by
      rcases hshape with ⟨_, _, _, h2⟩ | ⟨_, o', _, _, h2⟩
      · exact h2.t
      · exact h2.t
    have offd : a.v.ownBlock ≠ some d := row_ne_blk hown hD.raw.blk (by decide)
    have offv : a.v.ownBlock ≠ some v := hD.raw.voc.blk_row hown (by decide)
    have hap' : ∀ k, a.v.ownBlock = some k → last'.v.ownBlock ≠ some k := by
      intro k hk
      rcases hlast with e | e
      · rw [e]
        exact hap k hk
      · intro hk2
        have := e k hk2
        have := (own_lt hown k hk).2
        omega
    have keepRow : ∀ {z : World}, Keeps v d q z → z.ownsRow w0.heap.size tInt 1 a.v a.n (all.flatMap encInt) := fun hk => own_same hown fun k hkk => hk k (own_lt hown k hkk).2 (fun e => offv (by rw [← e]; exact hkk)) (fun e => offd (by rw [← e]; exact hkk))
    refine ⟨_, _, rfl, ?_⟩
    intro w14 hw14
    have b14 : Below w13.heap.size w13 w14 := by subst hw14; exact drew_on w13
    have t14 := t13.trans (Touch.of_below b14)
    refine ⟨_, _, _, _, _, _, _, _, _, _, _, _, _, _, _, agg5 (x := r) (mcells t14), NilC.mk p hpA ⟨by omega, by omega, pA, _, pC, cellP t14, ?_⟩⟩
    refine (refBad_spec w14 r s T (rv t14) pA pC ids (pr.on (below t14)) (by omega)).mono ?_
    rintro e w15 ⟨rfl, b15⟩
    have t15 := t14.trans (Touch.of_below b15)
    have b1315 := below_then b14 b15
    refine ⟨_, rfl, CondP.mk (fun hbad => ?_) fun hbad => ?_⟩
    · have hbad := of_decide_eq_true hbad
      obtain ⟨_, rfl, rfl, hD13⟩ := hshape.resolve_right fun e => e.1 hbad
      have hD15 := hD13.on b1315
      intro w16 hw16
      have b16 : Below w15.heap.size w15 w16 := by subst hw16; exact drew_on w15
      have hD16 := hD15.on b16
      have t16 := hD16.t
      refine CondP.no (by simp) (CondP.no rfl ?_)
      refine (detCount_spec hD16).mono ?_
      rintro e w17 ⟨rfl, hw⟩
      subst hw
      refine ⟨_, rfl, CondP.no (by rw [han]; simp) ⟨_, _, _, _, _, _, _, _, _, _, _, _, _, _, _, agg5 (x := r) (mcells t16), ?_⟩⟩
      refine (detOffence_spec hD16).mono ?_
      rintro e w18 ⟨rfl, hw⟩
      subst hw
      refine ⟨_, rfl, agg5 (x := r) (mcells t16), ?_⟩
      have k1316 := k13.trans z13 (Keeps.of_below (below_then b1315 b16))
      have ho16 := keepRow k1316
      have hls := LsAt.of_own elInt ho16
      obtain ⟨_, _, e1, hac⟩ := own_form ho16
      refine (refFirstIs_spec w18 r s T (rv t16) a.a a.n a.c all hls.n hls.r (by cases e1; exact hac) (by omega) hD.has hD.first).mono ?_
      rintro e w19 ⟨rfl, b19⟩
      refine ⟨_, rfl, CondP.no (by simp) (hJ' a y6 w19 ⟨all, o, last', hD16.on b19, hap', own_on ho16 b19, by omega⟩)⟩
    · have hbad := of_decide_eq_false hbad
      obtain ⟨_, o', rfl, rfl, hD13⟩ := hshape.resolve_left fun e => hbad e.1
      have hD15 := hD13.on b1315
      have k15 := k13.trans z13 (Keeps.of_below b1315)
      have ho15 := keepRow k15
      have hids : LsAt encInt 1 w15 ⟨pA, ids.length, pC⟩ ids := ⟨rfl, pr.on (below t15), pk⟩
      obtain ⟨f, w20, g1, g2, g3, g4, g5, g6⟩ := elInt.spread ho15 hids hD15.t.size (by omega) (by show ids.length ≤ _; omega) (by decide)
      have offd15 : a.v.ownBlock ≠ some d := row_ne_blk ho15 hD15.raw.blk (by decide)
      have offv15 : a.v.ownBlock ≠ some v := hD15.raw.voc.blk_row ho15 (by decide)
      have b20 : Below w0.heap.size w15 w20 := g4 w15 (Below.refl _ _)
      have hD20 : DetAt w0 w20 d v s T (all ++ ids) o' last' := by
        obtain ⟨⟨h1, h2, h3, h4, h5, h6⟩, h7, h8⟩ := hD15
        refine ⟨⟨h1.grow b20 h4 ho15 g5, h2.then_below b20, h3, h4, ?_, own_same h6 fun k hk => g5 k (own_lt h6 k hk).2 fun e => hap' k e hk⟩, h7, h8⟩
        rw [g5 d (Array.getElem?_eq_some_iff.1 h5).1 offd15]
        exact h5
      have hap2 : ∀ k, f.v.ownBlock = some k → last'.v.ownBlock ≠ some k := by
        intro k hk hk2
        rcases g6 k hk with e | e
        · exact hap' k e hk2
        · have := (own_lt hD15.raw.own k hk2).2
          omega
      have t20 := hD20.t
      have hls := LsAt.of_own elInt g3
      have hfn := hls.n
      obtain ⟨_, _, e1, hfc⟩ := own_form g3
      have hlen2 : (all ++ ids).length ≤ 30 * (i + 1) := by rw [List.length_append]; omega
      refine NilC.mk p hpA ⟨by omega, by omega, pA, _, pC, cellP t15, f.a, f.n, f.c, w20, g2, _, _, _, _, _, _, _, _, _, _, _, _, _, _, _, agg5 (x := r) (mcells t20), ?_⟩
      refine (refFirstIs_spec w20 r s T (rv t20) f.a f.n f.c (all ++ ids) hfn hls.r (by cases e1; exact hfc) (by omega) hD20.has hD20.first).mono ?_
      rintro e w21 ⟨rfl, b21⟩
      have hD21 := hD20.on b21
      have ho21 := own_on g3 b21
      refine ⟨_, rfl, CondP.no (by simp) (CondP.no rfl ?_)⟩
      refine (detOffence_spec hD21).mono ?_
      rintro e w22 ⟨rfl, hw⟩
      subst hw
      refine ⟨_, rfl, CondP.no (by simp) ?_⟩
      refine (detCount_spec hD21).mono ?_
      rintro e w23 ⟨rfl, hw⟩
      subst hw
      refine ⟨_, rfl, CondP.no (by rw [hfn]; simp) ⟨by decide, CondP.mk (fun _ => ?_) fun _ => hJ' f y6 w23 ⟨all ++ ids, o', last', hD21, hap2, ho21, hlen2⟩⟩⟩
      refine (detReset_spec hD21).mono ?_
      rintro e w24 ⟨rfl, z24, k24, hD24⟩
      refine ⟨rfl, ?_⟩
      refine (detCount_spec hD24).mono ?_
      rintro e w25 ⟨rfl, hw⟩
      subst hw
      refine ⟨_, rfl, CondP.no rfl ?_⟩
      refine (detOffence_spec hD24).mono ?_
      rintro e w26 ⟨rfl, hw⟩
      subst hw
      exact ⟨_, rfl, CondP.no rfl (hJ' sl0 y6 w26 ⟨[], none, sl0, hD24, fun k hk => (by cases hk), own_none _ _ _ _ encInt, Nat.zero_le _⟩)⟩
  · rintro ⟨a, y6, q⟩ ⟨all, o, last, hD, hap, hown, hal⟩
    exact hI _ a.a a.n a.c y6 q (CondP.no (by simp) ⟨rfl, below hD.t⟩)

/-! ### Portions, opened -/
section
open Go.ChangeShapes Go.WideShapes
variable {H : Type} {enc0 : TypeId × Value → H} {w : World} {base : Nat} {spare : Nat → Bool} {held : Bool}
theorem open_portions {A : Option Addr} {N C : Nat} {d : DataW H} {p : List MemPlace} (h : DataW.Trod enc0 Tryz.prog w base spare held 51 (.slice A N C) d p) : ∃ ll : List (Sl × List Int), N = ll.length ∧ Rw encSl 1 w A ll ∧ ∀ m ∈ ll, Portion w m := by
  obtain ⟨fuel, hf⟩ := h
  obtain ⟨s, xs, e, n, k, c, m, r⟩ := open_list (α := {m : Sl × List Int // Portion w m}) (enc := fun m => encSl m.1) (sz := 1) Tryz.underlying51 (by kernel_rfl) (fun _ => rfl) (Nat.succ_pos _) (by
    intro n cs' y h
    obtain ⟨s, xs, e, n, k, c, m, r⟩ := open_list (enc := encInt) (sz := 1) undInts (by kernel_rfl) (fun _ => rfl) (Nat.succ_pos _) (elem_int Tryz.underlying3) h
    exact ⟨⟨(s, xs), n, k, c, r⟩, e⟩) hf
  obtain ⟨sa, sn, sc⟩ := s
  simp [Value.cells] at e
  obtain ⟨rfl, rfl, rfl⟩ := e
  refine ⟨xs.map (·.1), by rw [List.length_map]; exact n, fun j x hj => ?_, fun x hx => ?_⟩
  · rw [List.getElem?_map] at hj
    obtain ⟨y, hy, rfl⟩ := Option.map_eq_some_iff.1 hj
    exact r j y hy
  · obtain ⟨y, _, rfl⟩ := List.mem_map.1 hx
    exact y.2
end
end Go.Proofs.YtpklkijdlnioaaaGreat.Eng
