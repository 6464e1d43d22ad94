/- Some right spec: the reference's vocabularies of a statement, walked by the engine. -/
import Derived.Test.YtpklkijdlnioaaaGreatZhRi
set_option linter.unusedVariables false
set_option linter.unusedSimpArgs false
set_option maxRecDepth 100000
namespace Go.Proofs.YtpklkijdlnioaaaGreat.Eng
open Go Go.RowKit
abbrev tSps : TypeId := 25
abbrev tCls : TypeId := 23
abbrev tJns : TypeId := 24
theorem elSpecial : ElT encSpecial 2 tSps tSp 24 := ⟨fun _ => rfl, by decide, fun x => ones_special _ _, undSps, _, infoSp, rfl⟩
theorem ElT.pushAt {α : Type} {enc : α → List Value} {sz bytes : Nat} {t e : TypeId} (E : ElT enc sz t e bytes) {B : Nat} {w : World} {s : Sl} {xs : List α} (hown : w.ownsRow B e sz s.v s.n (xs.flatMap enc)) (x : α) {b : Nat} {T : TypeId} {fz : Nat × Nat} (hx : w.heap[b]? = some (.cells (enc x).toArray T fz)) (hB : B ≤ w.heap.size) (hn : s.n ≤ 1000000000) (hb : bytes ≤ 1000) :
    ∃ (l : Sl) (w4 : World), l.n = s.n + 1 ∧ (Builtin.append_ #[t, t] t #[.slice s.a s.n s.c, .slice (some ⟨b, 0, none⟩) 1 1]).run Tryz.prog w = .ok (.slice l.a l.n l.c) w4 ∧ w4.ownsRow B e sz l.v l.n ((xs ++ [x]).flatMap enc) ∧ (∀ w0, Below B w0 w → Below B w0 w4) ∧ (∀ k, k < w.heap.size → s.v.ownBlock ≠ some k → w4.heap[k]? = w.heap[k]?) := by
  obtain ⟨z, hi, hzs⟩ := E.hz
  have hmul : (s.n + 1) * bytes ≤ (1000000000 + 1) * 1000 := Nat.mul_le_mul (by omega) hb
  obtain ⟨A, C, w4, h1, h2, h3, h4⟩ := push_any (enc := enc) (sz := sz) E.hsz E.h0 E.h1 t e E.ht hi hzs hown x hx hB (by omega) (by omega)
  exact ⟨⟨A, s.n + 1, C⟩, w4, rfl, h1, h2, h3, h4⟩
theorem Rw.cut {α : Type} {enc : α → List Value} {sz : Nat} {w : World} {a : Option Addr} {xs : List α} (h : Rw enc sz w a xs) (i m : Nat) (hm : xs.length ≤ m) : Rw enc sz w (slBase a i m sz) (xs.drop i) := by
  intro j x hj
  rw [List.getElem?_drop] at hj
  have hlt := (List.getElem?_eq_some_iff.1 hj).1
  obtain ⟨p, rfl, hp, hc⟩ := h _ _ hj
  unfold slBase
  rw [if_neg (by omega)]
  refine ⟨p.add (i * sz), rfl, by rw [add_block]; exact hp, fun k v hk => ?_⟩
  rw [Addr.add_add p, ← Nat.add_mul]
  exact hc k v hk
theorem Rw.take {α : Type} {enc : α → List Value} {sz : Nat} {w : World} {a : Option Addr} {xs : List α} (h : Rw enc sz w a xs) (n : Nat) : Rw enc sz w a (xs.take n) := by
  intro j x hj
  rw [List.getElem?_take] at hj
  split at hj
  · exact h j x hj
  · cases hj
theorem markErr_ok : ∀ (xs ys : List (Int × Bs)) (i : Nat), markErr ys i xs = none → ∀ x ∈ xs, specialOk x = true
  | [], _, _, _, x, hx => by cases hx
  | y :: xs, ys, i, h, x, hx => by
    rw [markErr] at h
    split at h
    · rename_i h0
      rcases List.mem_cons.1 hx with rfl | hx
      · cases hs : specialOk x with
        | true => rfl
        | false => rw [markAdd, if_pos hs] at h0; cases h0
      · exact markErr_ok xs _ _ h x hx
    · cases h
/-- How far a spec is made. -/
structure SomeSt (w4 q : World) (m : Sl) (sp cl jn : Sl) (xs : List (Int × Bs)) (cls : List (Int × Int × Int)) (js : List (Int × Int)) : Prop where
  blk : q.heap[w4.heap.size]? = some (.cells #[.bool false, m.v, sl0.v, sp.v, cl.v, jn.v] tSpec (0, 0))
  o1 : q.ownsRow w4.heap.size tSp 2 sp.v sp.n (xs.flatMap encSpecial)
  o2 : q.ownsRow w4.heap.size tCl 3 cl.v cl.n (cls.flatMap encClass)
  o3 : q.ownsRow w4.heap.size tJn 2 jn.v jn.n (js.flatMap encPair)
  cok : cls.all classOk = true
  jok : js.all joinOk = true
  mrk : markErr [] 0 xs = none
  xid : ∀ y ∈ xs, 1000 ≤ y.1 ∧ y.1 < 1006
  asc : (xs.map (·.1)).Pairwise (· < ·)
  l1 : xs.length ≤ 6
  l2 : cls.length ≤ 8
  l3 : js.length ≤ 8
  B : Below w4.heap.size w4 q
theorem SomeSt.on {w4 q q' : World} {m sp cl jn : Sl} {xs : List (Int × Bs)} {cls : List (Int × Int × Int)} {js : List (Int × Int)} (h : SomeSt w4 q m sp cl jn xs cls js) (hb : Below q.heap.size q q') : SomeSt w4 q' m sp cl jn xs cls js :=
  ⟨held_on hb h.blk, own_on h.o1 hb, own_on h.o2 hb, own_on h.o3 hb, h.cok, h.jok, h.mrk, h.xid, h.asc, h.l1, h.l2, h.l3, h.B.trans (hb.mono h.B.size)⟩
def someS (es : List Ent) (xs : List (Int × Bs)) (cls : List (Int × Int × Int)) (js : List (Int × Int)) : SpecV := { merges := mergesOf es, specials := xs, classes := cls, joins := js }
theorem some_right {es : List Ent} (h : TOk es) {xs : List (Int × Bs)} {cls : List (Int × Int × Int)} {js : List (Int × Int)} (cok : cls.all classOk = true) (jok : js.all joinOk = true) (mk : markErr [] 0 xs = none) (l1 : xs.length ≤ 6) (l2 : cls.length ≤ 8) (l3 : js.length ≤ 8) : (someS es xs cls js).right = true := by
  have hm := h.most
  have hml := merges_length h
  have e1 : allOk (mergesOf es) 744 mergeOk = true := by
    rw [allOk, decide_eq_true (by omega), Bool.true_and, List.all_eq_true]
    intro m hm
    obtain ⟨k, hk⟩ := List.getElem?_of_mem hm
    have hkl := (List.getElem?_eq_some_iff.1 hk).1
    obtain ⟨h1, h2⟩ := merges_at h hk
    exact decide_eq_true (by omega)
  have e2 : allOk xs 32 specialOk = true := by
    rw [allOk, decide_eq_true (by omega), Bool.true_and, List.all_eq_true]
    exact markErr_ok xs [] 0 mk
  have e3 : allOk cls 64 classOk = true := by rw [allOk, decide_eq_true (by omega), cok]; rfl
  have e4 : allOk js 64 joinOk = true := by rw [allOk, decide_eq_true (by omega), jok]; rfl
  show (((((true && allOk (mergesOf es) 744 mergeOk) && allOk ([] : List Bs) 744 thingOk) && allOk xs 32 specialOk) && allOk cls 64 classOk) && allOk js 64 joinOk) = true
  rw [e1, e2, e3, e4]
  rfl
theorem some_build {es : List Ent} (h : TOk es) (hnew : tokNew begins 0 (mergesOf es) = .ok es) {xs : List (Int × Bs)} {cls : List (Int × Int × Int)} {js : List (Int × Int)} (mk : markErr [] 0 xs = none) (xid : ∀ y ∈ xs, 1000 ≤ y.1 ∧ y.1 < 1006) : buildV (someS es xs cls js) = .ok es := by
  have hm := h.most
  unfold buildV loadT someS
  simp only [Bool.false_eq_true, if_false, hnew, mk]
  have : xs.findIdx? (fun y => decide (y.1 < (es.length : Int))) = none := by
    rw [List.findIdx?_eq_none_iff]
    intro y hy
    have := xid y hy
    exact decide_eq_false (by omega)
  rw [this]
def SomeR (w : World) (u : Value) (w' : World) : Prop := ∃ (x : SpecW) (s : SpecV) (T : List Ent), u = x.v ∧ SpecAt w' x s ∧ s.ranked = false ∧ s.right = true ∧ buildV s = .ok T ∧ TOk T ∧ s.specials.length ≤ 6 ∧ (∀ y ∈ s.specials, 1000 ≤ y.1 ∧ y.1 < 1006) ∧ (s.specials.map (·.1)).Pairwise (· < ·) ∧ Below w.heap.size w w'
theorem refSome_spec (w : World) (A1 : Option Addr) (C1 : Nat) (l : List Int) (h1 : Rw enc16 1 w A1 l) (A2 : Option Addr) (C2 : Nat) (cs : List (Int × Int × Int)) (h2 : Rw encClass 3 w A2 cs) (A3 : Option Addr) (C3 : Nat) (gs : List (Int × Int)) (h3 : Rw encPair 2 w A3 gs) (A4 : Option Addr) (C4 : Nat) (ys : List (Int × Bs)) (h4 : Rw encSpecial 2 w A4 ys)
    (hc2 : cs.length ≤ C2) (hc3 : gs.length ≤ C3) :
    Calls Tryz.prog 54 #[.slice A1 l.length C1, .slice A2 cs.length C2, .slice A3 gs.length C3, .slice A4 ys.length C4] w fun e w' => ∃ u, e = .returned u ∧ SomeR w u w' := by
  refine vc54_calls A1 l.length C1 A2 cs.length C2 A3 gs.length C3 A4 ys.length C4 w (SomeR w) ?_
  intro w1 hw1
  have hb1 : Below w.heap.size w w1 := by subst hw1; exact below_alloc _ _
  have z1 : w1.heap[w.heap.size]? = some (.cells zeroX.cells tSpec (0, 0)) := by subst hw1; exact alloc_new _ _
  refine (refGrow_spec w1 A1 C1 l (h1.on hb1)).mono ?_
  rintro e w2 ⟨t, es, rfl, ht, htok, hnew, b2⟩
  refine ⟨_, _, _, _, _, _, rfl, ?_⟩
  intro w3 hw3
  refine storeP_new [sl0.v, sl0.v] [t.b.v, t.m.v] rfl (ones_slices _ _) w3 hw3 ?_
  intro w4 h4' hz4 b4
  have b14 := below_then b2 b4
  have hb4 := below_then hb1 b14
  have z4 := held_on b14 z1
  have hlt4 : w.heap.size < w4.heap.size := (Array.getElem?_eq_some_iff.1 z4).1
  refine ⟨_, _, _, ptr_add0 _ _ h4' 1, ?_⟩
  intro w5 hw5
  refine store_spec ⟨false, t.m, sl0, sl0, sl0, sl0⟩ w5 hw5 ?_
  intro w6 h6 b6
  have ht4 := ht.on b4
  have fin : ∀ (q : World) (sp cl jn : Sl) (xs : List (Int × Bs)) (cls : List (Int × Int × Int)) (js : List (Int × Int)), SomeSt w4 q t.m sp cl jn xs cls js →
      StoreP q (nb w) (fun w7 => ∃ res0 : Bool, ∃ res1A : Option Addr, ∃ res1N : Nat, ∃ res1C : Nat, ∃ res2A : Option Addr, ∃ res2N : Nat, ∃ res2C : Nat, ∃ res3A : Option Addr, ∃ res3N : Nat, ∃ res3C : Nat, ∃ res4A : Option Addr, ∃ res4N : Nat, ∃ res4C : Nat, ∃ res5A : Option Addr, ∃ res5N : Nat, ∃ res5C : Nat, (w7.cell? (nb w) = some (Value.bool res0) ∧ w7.cell? ((nb w).add 1) = some (Value.slice res1A res1N res1C) ∧ w7.cell? ((nb w).add 2) = some (Value.slice res2A res2N res2C) ∧ w7.cell? ((nb w).add 3) = some (Value.slice res3A res3N res3C) ∧ w7.cell? ((nb w).add 4) = some (Value.slice res4A res4N res4C) ∧ w7.cell? ((nb w).add 5) = some (Value.slice res5A res5N res5C) ∧ True) ∧
        SomeR w (SpecW.v ⟨res0, ⟨res1A, res1N, res1C⟩, ⟨res2A, res2N, res2C⟩, ⟨res3A, res3N, res3C⟩, ⟨res4A, res4N, res4C⟩, ⟨res5A, res5N, res5C⟩⟩) w7)
      [Value.bool false, Value.slice t.m.a t.m.n t.m.c, Value.slice none 0 0, Value.slice sp.a sp.n sp.c, Value.slice cl.a cl.n cl.c, Value.slice jn.a jn.n jn.c] 0 := by
    intro q sp cl jn xs cls js hq
    have zq := Below.keeps hq.B hlt4 z4
    have hbq : Below w.heap.size w q := hb4.trans (hq.B.mono (by omega))
    have r1 := LsAt.of_own elSpecial hq.o1
    have r2 := Rw.of_own hq.o2 (fun _ => rfl) (by decide)
    have r3 := Rw.of_own hq.o3 (fun _ => rfl) (by decide)
    have htq := ht4.on hq.B
    have hS : SpecAt q ⟨false, t.m, sl0, sp, cl, jn⟩ (someS es xs cls js) := ⟨rfl, htq.n2, htq.r2, rfl, fun j x hj => (by cases hj), r1.n, r1.r, r2.2, r2.1, r3.2, r3.1⟩
    refine ret_specK (w := w) (w6 := q) (fun x w7 => SomeR w x.v w7) ⟨false, t.m, sl0, sp, cl, jn⟩ zq rfl ?_
    intro w7 hB7 hs7
    have hz7 : q.heap.size ≤ w7.heap.size := (hB7 q (Below.refl _ _)).size
    exact ⟨⟨false, t.m, sl0, sp, cl, jn⟩, someS es xs cls js, es, rfl, hS.past zq (by
      intro v hv
      simp only [List.mem_toArray, List.mem_cons, List.not_mem_nil, or_false] at hv
      rcases hv with rfl | rfl | rfl | rfl | rfl | rfl <;> (rintro (⟨k, n, h⟩ | ⟨s, h⟩) <;> cases h)) (fun j _ hj => hs7 j hj) hz7, rfl, some_right htok hq.cok hq.jok hq.mrk hq.l1 hq.l2 hq.l3, some_build htok hnew hq.mrk hq.xid, htok, hq.l1, hq.xid, hq.asc, hB7 w hbq⟩
  have start : SomeSt w4 w6 t.m sl0 sl0 sl0 [] [] [] := ⟨h6, own_none _ _ _ _ encSpecial, own_none _ _ _ _ encClass, own_none _ _ _ _ encPair, rfl, rfl, rfl, fun y hy => (by cases hy), List.Pairwise.nil, Nat.zero_le _, Nat.zero_le _, Nat.zero_le _, b6⟩
  have soft : ∀ {q : World} {sp cl jn : Sl} {xs : List (Int × Bs)} {cls : List (Int × Int × Int)} {js : List (Int × Int)}, SomeSt w4 q t.m sp cl jn xs cls js → sp.v.ownBlock ≠ some w4.heap.size ∧ cl.v.ownBlock ≠ some w4.heap.size ∧ jn.v.ownBlock ≠ some w4.heap.size := fun h => ⟨row_ne_blk h.o1 h.blk (by decide), row_ne_blk h.o2 h.blk (by decide), row_ne_blk h.o3 h.blk (by decide)⟩
  intro I4 hI4
  have key := climb2 (α := World) (min cs.length 8) (fun i q => ∃ (cl : Sl) (cls : List (Int × Int × Int)), SomeSt w4 q t.m sl0 cl sl0 [] cls [] ∧ cls.length ≤ i) (fun i q => I4 [.int .i64 (i : Int)] q) w6 ⟨sl0, [], start, Nat.zero_le _⟩ ?_ ?_
  · exact key
  · rintro i hi ih q ⟨cl, cls, hst, hcl⟩
    have hi1 : i < cs.length := by omega
    have hi2 : i < 8 := by omega
    refine hI4 _ _ (CondP.yes (by simp; omega) (CondP.yes (by simp; omega) ?_))
    intro J hJ
    have hJ' : ∀ (v : World) (cl : Sl) (cls : List (Int × Int × Int)), SomeSt w4 v t.m sl0 cl sl0 [] cls [] → cls.length ≤ i + 1 → J [] v := fun v cl cls h1 h2 => hJ v (Ar.nat (i + 1) rfl (by omega) (ih v ⟨cl, cls, h1, h2⟩))
    have hbq : Below w.heap.size w q := hb4.trans (hst.B.mono (by omega))
    have hbt : BtAt q ⟨⟨slBase A2 i C2 3, i + 1 - i, C2 - i⟩, sl0⟩ [cs[i]] [] := by
      refine ⟨by show i + 1 - i = 1; omega, ?_, rfl, fun j x hj => by cases hj⟩
      have := ((h2.on hbq).cut i C2 hc2).take 1
      rw [List.drop_eq_getElem_cons hi1] at this
      exact this
    refine Ar.nat (i + 1) rfl (by omega) ⟨by omega, by omega, by omega, trivial, trivial, ?_⟩
    refine (refRight_spec q ⟨⟨slBase A2 i C2 3, i + 1 - i, C2 - i⟩, sl0⟩ [cs[i]] [] hbt (by simp) (by simp)).mono ?_
    rintro e w9 ⟨rfl, b9⟩
    have hst9 := hst.on b9
    refine ⟨_, rfl, CondP.mk (fun hok => ?_) fun _ => hJ' w9 cl cls hst9 (by omega)⟩
    intro w10 hw10
    have b10 : Below w9.heap.size w9 w10 := by subst hw10; exact drew_on w9
    have hst10 := hst9.on b10
    have hb10 := hbq.trans ((below_then b9 b10).mono hbq.size)
    obtain ⟨p, hp, _, hc⟩ := (h2.on hb10) i _ (List.getElem?_eq_getElem hi1)
    have c0 := hc 0 _ rfl
    rw [add_zero] at c0
    refine ⟨_, _, _, ptr_add0 _ _ hst10.blk 4, NilC.mk p hp ⟨by omega, by omega, _, _, _, ⟨c0, hc 1 _ rfl, hc 2 _ rfl, trivial⟩, ?_⟩⟩
    intro w11 hw11
    have b11 : Below w10.heap.size w10 w11 := by subst hw11; exact below_alloc _ _
    refine ⟨⟨ptr_add0 _ _ (hst10.on b11).blk 4, trivial⟩, ?_⟩
    obtain ⟨a', c', w12, hr12, hu12, hf12, h13⟩ := obj_push1 (P := Tryz.prog) (s := cl) 4 hst10.blk (show 4 < 6 by decide) hst10.o2 (soft hst10).2.1 (Nat.le_refl _) tCls undCls infoCl rfl (by decide) (encClass cs[i]) rfl (ones_class _ _ _) (by have := (Rw.of_own hst10.o2 (fun _ => rfl) (by decide)).2; have := hst10.l2; omega) (by have := (Rw.of_own hst10.o2 (fun _ => rfl) (by decide)).2; have := hst10.l2; omega)
    subst hw11
    refine ⟨a', cl.n + 1, c', w12, hr12, rfl, hu12, hf12, ?_⟩
    intro w13 hw13
    obtain ⟨g1, g2, g3, g4, g5, g6, g7⟩ := h13 w13 hw13
    have hok : classOk cs[i] = true := by simpa using hok
    refine hJ' w13 ⟨a', cl.n + 1, c'⟩ (cls ++ [cs[i]]) ⟨g1, own_none _ _ _ _ encSpecial, by rw [List.flatMap_append]; simpa using g2, own_none _ _ _ _ encPair, by rw [List.all_append, hst10.cok]; simpa using hok, rfl, rfl, fun y hy => (by cases hy), List.Pairwise.nil, Nat.zero_le _, by rw [List.length_append]; simp; omega, Nat.zero_le _, g4 _ hst10.B⟩ (by rw [List.length_append]; simp; omega)
  rintro q ⟨cl, cls, hst, hcl⟩
  refine hI4 _ _ (CondP.mk (fun hlt => CondP.no ?_ ?_) fun hlt => ?_)
  · have := of_decide_eq_true hlt
    exact decide_eq_false (by omega)
  all_goals
    clear hlt
    intro I13 hI13
    have key2 := climb2 (α := World) (min gs.length 8) (fun i q => ∃ (jn : Sl) (js : List (Int × Int)), SomeSt w4 q t.m sl0 cl jn [] cls js ∧ js.length ≤ i) (fun i q => I13 [.int .i64 (i : Int)] q) q ⟨sl0, [], hst, Nat.zero_le _⟩ ?_ ?_
    · exact key2
    · rintro i hi ih q ⟨jn, js, hst, hjn⟩
      have hi1 : i < gs.length := by omega
      have hi2 : i < 8 := by omega
      refine hI13 _ _ (CondP.yes (by simp; omega) (CondP.yes (by simp; omega) ?_))
      intro J hJ
      have hJ' : ∀ (v : World) (jn : Sl) (js : List (Int × Int)), SomeSt w4 v t.m sl0 cl jn [] cls js → js.length ≤ i + 1 → J [] v := fun v jn js h1 h2 => hJ v (Ar.nat (i + 1) rfl (by omega) (ih v ⟨jn, js, h1, h2⟩))
      have hbq : Below w.heap.size w q := hb4.trans (hst.B.mono (by omega))
      have hbt : BtAt q ⟨sl0, ⟨slBase A3 i C3 2, i + 1 - i, C3 - i⟩⟩ [] [gs[i]] := by
        refine ⟨rfl, fun j x hj => (by cases hj), by show i + 1 - i = 1; omega, ?_⟩
        have := ((h3.on hbq).cut i C3 hc3).take 1
        rw [List.drop_eq_getElem_cons hi1] at this
        exact this
      refine Ar.nat (i + 1) rfl (by omega) ⟨by omega, by omega, by omega, trivial, trivial, ?_⟩
      refine (refRight_spec q ⟨sl0, ⟨slBase A3 i C3 2, i + 1 - i, C3 - i⟩⟩ [] [gs[i]] hbt (by simp) (by simp)).mono ?_
      rintro e w9 ⟨rfl, b9⟩
      have hst9 := hst.on b9
      refine ⟨_, rfl, CondP.mk (fun hok => ?_) fun _ => hJ' w9 jn js hst9 (by omega)⟩
      intro w10 hw10
      have b10 : Below w9.heap.size w9 w10 := by subst hw10; exact drew_on w9
      have hst10 := hst9.on b10
      have hb10 := hbq.trans ((below_then b9 b10).mono hbq.size)
      obtain ⟨p, hp, _, hc⟩ := (h3.on hb10) i _ (List.getElem?_eq_getElem hi1)
      have c0 := hc 0 _ rfl
      rw [add_zero] at c0
      refine ⟨_, _, _, ptr_add0 _ _ hst10.blk 5, NilC.mk p hp ⟨by omega, by omega, _, _, ⟨c0, hc 1 _ rfl, trivial⟩, ?_⟩⟩
      intro w11 hw11
      have b11 : Below w10.heap.size w10 w11 := by subst hw11; exact below_alloc _ _
      refine ⟨⟨ptr_add0 _ _ (hst10.on b11).blk 5, trivial⟩, ?_⟩
      obtain ⟨a', c', w12, hr12, hu12, hf12, h13⟩ := obj_push1 (P := Tryz.prog) (s := jn) 5 hst10.blk (show 5 < 6 by decide) hst10.o3 (soft hst10).2.2 (Nat.le_refl _) tJns undJns infoJn rfl (by decide) (encPair gs[i]) rfl (ones_pair _ _) (by have := (Rw.of_own hst10.o3 (fun _ => rfl) (by decide)).2; have := hst10.l3; omega) (by have := (Rw.of_own hst10.o3 (fun _ => rfl) (by decide)).2; have := hst10.l3; omega)
      subst hw11
      refine ⟨a', jn.n + 1, c', w12, hr12, rfl, hu12, hf12, ?_⟩
      intro w13 hw13
      obtain ⟨g1, g2, g3, g4, g5, g6, g7⟩ := h13 w13 hw13
      have hok : joinOk gs[i] = true := by simpa using hok
      have k2 : w13.ownsRow w4.heap.size tCl 3 cl.v cl.n (cls.flatMap encClass) := own_same hst10.o2 fun k hk => g5 k (own_lt hst10.o2 k hk).2 (fun e => (soft hst10).2.1 (by rw [← e]; exact hk)) (row_ne_row hst10.o2 hst10.o3 (by decide) k hk)
      refine hJ' w13 ⟨a', jn.n + 1, c'⟩ (js ++ [gs[i]]) ⟨g1, own_none _ _ _ _ encSpecial, k2, by rw [List.flatMap_append]; simpa using g2, hst10.cok, by rw [List.all_append, hst10.jok]; simpa using hok, rfl, fun y hy => (by cases hy), List.Pairwise.nil, Nat.zero_le _, hst10.l2, by rw [List.length_append]; simp; omega, g4 _ hst10.B⟩ (by rw [List.length_append]; simp; omega)
    rintro q ⟨jn, js, hst, hjn⟩
    refine hI13 _ _ (CondP.mk (fun hlt => CondP.no ?_ ?_) fun hlt => ?_)
    · have := of_decide_eq_true hlt
      exact decide_eq_false (by omega)
    all_goals
      clear hlt
      intro I28 hI28
      have key3 := climb2 (α := World) (min ys.length 6) (fun i q => ∃ (sp : Sl) (xs : List (Int × Bs)), SomeSt w4 q t.m sp cl jn xs cls js ∧ xs.length ≤ i ∧ ∀ y ∈ xs, y.1 < 1000 + (i : Int)) (fun i q => I28 [.int .i64 (i : Int)] q) q ⟨sl0, [], hst, Nat.zero_le _, fun y hy => (by cases hy)⟩ ?_ ?_
      · exact key3
      · rintro i hi ih q ⟨sp, xs, hst, hxl, hxb⟩
        have hi1 : i < ys.length := by omega
        have hi2 : i < 6 := by omega
        refine hI28 _ _ (CondP.yes (by simp; omega) (CondP.yes (by simp; omega) ?_))
        intro J hJ
        have hJ' : ∀ (v : World) (sp : Sl) (xs : List (Int × Bs)), SomeSt w4 v t.m sp cl jn xs cls js → xs.length ≤ i + 1 → (∀ y ∈ xs, y.1 < 1000 + ((i + 1 : Nat) : Int)) → J [] v := fun v sp xs h1 h2 h3 => hJ v (Ar.nat (i + 1) rfl (by omega) (ih v ⟨sp, xs, h1, h2, h3⟩))
        intro w23 hw23
        have b23 : Below q.heap.size q w23 := by subst hw23; exact drew_on q
        have hst23 := hst.on b23
        have hb23 : Below w.heap.size w w23 := hb4.trans (hst23.B.mono (by omega))
        obtain ⟨p, hp, _, _⟩ := (h4.on hb23) i _ (List.getElem?_eq_getElem hi1)
        have cellS : ∀ v : World, Below w23.heap.size w23 v → v.cell? ((p.add (i * 2)).add 1) = some (.string (str ys[i].2)) := by
          intro v hv
          obtain ⟨p', hp', _, hc⟩ := (h4.on (below_then hb23 hv)) i _ (List.getElem?_eq_getElem hi1)
          have : p' = p := by rw [hp] at hp'; exact (Option.some.inj hp').symm
          subst this
          exact hc 1 _ rfl
        have cell3 : ∀ v : World, Below w23.heap.size w23 v → v.cell? ((nb w4).add 3) = some sp.v := fun v hv => ptr_add0 _ _ (hst23.on hv).blk 3
        have hspn := (LsAt.of_own elSpecial hst23.o1).n
        have hl1 := hst23.l1
        have check : ∀ (y : Sl) (v : World), Below w23.heap.size w23 v → v.ownsRow w23.heap.size tSp 2 y.v y.n ((xs ++ [(((1000 + i : Nat) : Int), ys[i].2)]).flatMap encSpecial) →
            Calls Tryz.prog 86 #[Value.slice y.a y.n y.c] v (fun e28 w28 => ∃ r0 : Int, ∃ r1 : Int, e28 = .returned (Value.tuple #[Value.int .i64 r0, Value.int .i64 r1]) ∧
              CondP ((r1 : Int) == 0)
                ((Value.slice y.a y.n y.c).oneCell' = true ∧ (∃ u, w28.cell? ((nb w4).add 3) = some u) ∧ w28.frozen? ((nb w4).add 3) = false ∧
                 ∀ w29 : World, w29 = (w28.setCell ((nb w4).add 3) (Value.slice y.a y.n y.c)) → J [] w29)
                (J [] w28)) := by
          intro y v hv hy
          have hls := LsAt.of_own elSpecial hy
          have hyn := hls.n
          obtain ⟨ya, yn, yc⟩ := y
          change yn = _ at hyn
          subst hyn
          refine (refCheck_spec v ya yc _ hls.r (by rw [List.length_append]; simp; omega)).mono ?_
          rintro e w28 ⟨rfl, b28⟩
          have hb28 := below_then hv b28
          have st28 := hst23.on hb28
          have hy28 := own_base (own_on hy b28) hst23.B.size
          cases hm : markErr [] 0 (xs ++ [(((1000 + i : Nat) : Int), ys[i].2)]) with
          | some z =>
            refine ⟨_, _, by rw [checkV, hm], CondP.no (by simpa using markErr_ne hm) (hJ' w28 sp xs st28 (by omega) (fun y hy => by have := hxb y hy; omega))⟩
          | none =>
            refine ⟨_, _, by rw [checkV, hm], CondP.yes rfl ⟨rfl, ⟨_, cell3 w28 hb28⟩, frozen_put st28.blk, ?_⟩⟩
            intro w29 hw29
            subst hw29
            have s28 := soft st28
            refine hJ' _ ⟨ya, _, yc⟩ (xs ++ [(((1000 + i : Nat) : Int), ys[i].2)]) ⟨heap_put st28.blk _, own_setCell hy28 _ (by rw [add_block]; exact row_ne_blk hy28 st28.blk (by decide)), own_setCell st28.o2 _ (by rw [add_block]; exact s28.2.1), own_setCell st28.o3 _ (by rw [add_block]; exact s28.2.2), st28.cok, st28.jok, hm, ?_, ?_, by rw [List.length_append]; simp; omega, st28.l2, st28.l3, below_put st28.B (Nat.le_refl _) _⟩ (by rw [List.length_append]; simp; omega) ?_
            · intro z hz
              rcases List.mem_append.1 hz with hz | hz
              · exact st28.xid z hz
              · rw [List.mem_singleton.1 hz]
                show (1000 : Int) ≤ ((1000 + i : Nat) : Int) ∧ ((1000 + i : Nat) : Int) < 1006
                omega
            · rw [List.map_append, List.pairwise_append]
              refine ⟨st28.asc, List.pairwise_singleton _ _, fun a ha b hb => ?_⟩
              obtain ⟨y, hy, rfl⟩ := List.mem_map.1 ha
              have := hxb y hy
              simp at hb
              omega
            · intro y hy
              rcases List.mem_append.1 hy with hy | hy
              · have := hxb y hy
                omega
              · rw [List.mem_singleton.1 hy]
                show ((1000 + i : Nat) : Int) < 1000 + ((i + 1 : Nat) : Int)
                omega
        have spr : ∀ (v : World) (k : Nat), Below w23.heap.size w23 v → v.heap[k]? = some (.cells #[] tSp (0, 0)) → w23.heap.size ≤ k → ∃ (r : Sl) (v' : World), r.n = sp.n ∧ (Builtin.append_ #[tSps, tSps] tSps #[.slice (some ⟨k, 0, none⟩) 0 0, .slice sp.a sp.n sp.c]).run Tryz.prog v = .ok (.slice r.a r.n r.c) v' ∧ v'.ownsRow w23.heap.size tSp 2 r.v r.n (xs.flatMap encSpecial) ∧ Below w23.heap.size w23 v' ∧ (∀ j, j < v.heap.size → j ≠ k → v'.heap[j]? = v.heap[j]?) := by
          intro v k hv hk hle
          have hls := LsAt.of_own elSpecial (hst23.on hv).o1
          obtain ⟨r, v', g1, g2, g3, g4, g5, _⟩ := elSpecial.spread (s := ⟨some ⟨k, 0, none⟩, 0, 0⟩) (xs := []) (own_zero hk hle) hls hv.size (Nat.zero_le _) (by omega) (by decide)
          refine ⟨r, v', by rw [g1]; show 0 + sp.n = sp.n; omega, g2, g3, g4 _ hv, fun j hj hjk => g5 j hj fun e => hjk ?_⟩
          have : k = j := by simpa [Value.ownBlock] using e
          exact this.symm
        refine ⟨_, _, _, cell3 w23 (Below.refl _ _), Ar.nat (1000 + i) (by omega) (by omega) (NilC.mk p hp ⟨by omega, by omega, _, cellS w23 (Below.refl _ _), ?_, ?_⟩)⟩
        · intro w24 hw24
          have b24 : Below w23.heap.size w23 w24 := by subst hw24; exact below_alloc _ _
          have n24 : w24.heap[w23.heap.size]? = some (.cells #[] tSp (0, 0)) := by subst hw24; exact alloc_new _ _
          refine ⟨⟨cellS w24 b24, trivial⟩, ⟨cell3 w24 b24, trivial⟩, ?_, ?_⟩
          · obtain ⟨r, w25, g1, g2, g3, g4, g5⟩ := spr w24 _ b24 n24 (Nat.le_refl _)
            refine ⟨r.a, r.n, r.c, w25, g2, ⟨cellS w25 g4, trivial⟩, ?_⟩
            intro w26 hw26
            obtain ⟨y, w27, f1, f2, f3, f4, f5⟩ := elSpecial.push g3 (((1000 + i : Nat) : Int), ys[i].2) hw26 rfl g4.size (by omega) (by decide)
            exact ⟨y.a, y.n, y.c, w27, f2, check y w27 (f4 _ g4) f3⟩
          · intro w30 hw30
            have b30 : Below w24.heap.size w24 w30 := by subst hw30; exact below_alloc _ _
            have e30 : w30.heap[w24.heap.size]? = some (.cells (encSpecial (((1000 + i : Nat) : Int), ys[i].2)).toArray tSp (0, 0)) := by subst hw30; exact alloc_new _ _
            have b2330 := below_then b24 b30
            refine ⟨⟨cell3 w30 b2330, trivial⟩, ?_⟩
            obtain ⟨r, w31, g1, g2, g3, g4, g5⟩ := spr w30 _ b2330 (held_on b30 n24) (Nat.le_refl _)
            have hz24 := (Array.getElem?_eq_some_iff.1 n24).1
            have e31 : w31.heap[w24.heap.size]? = some (.cells (encSpecial (((1000 + i : Nat) : Int), ys[i].2)).toArray tSp (0, 0)) := by
              rw [g5 _ (Array.getElem?_eq_some_iff.1 e30).1 (by omega)]
              exact e30
            obtain ⟨y, w32, f1, f2, f3, f4, f5⟩ := elSpecial.pushAt g3 (((1000 + i : Nat) : Int), ys[i].2) e31 g4.size (by omega) (by decide)
            exact ⟨r.a, r.n, r.c, w31, g2, y.a, y.n, y.c, w32, f2, check y w32 (f4 _ g4) f3⟩
        · intro w86 hw86
          have b86 : Below w23.heap.size w23 w86 := by subst hw86; exact below_alloc _ _
          have e86 : w86.heap[w23.heap.size]? = some (.cells (encSpecial (((1000 + i : Nat) : Int), ys[i].2)).toArray tSp (0, 0)) := by subst hw86; exact alloc_new _ _
          refine ⟨⟨cell3 w86 b86, trivial⟩, ?_⟩
          intro w87 hw87
          have b87 : Below w86.heap.size w86 w87 := by subst hw87; exact below_alloc _ _
          have n87 : w87.heap[w86.heap.size]? = some (.cells #[] tSp (0, 0)) := by subst hw87; exact alloc_new _ _
          have b2387 := below_then b86 b87
          have hz86 := (Array.getElem?_eq_some_iff.1 e86).1
          refine ⟨⟨cell3 w87 b2387, trivial⟩, ?_⟩
          obtain ⟨r, w88, g1, g2, g3, g4, g5⟩ := spr w87 _ b2387 n87 (by omega)
          have e88 : w88.heap[w23.heap.size]? = some (.cells (encSpecial (((1000 + i : Nat) : Int), ys[i].2)).toArray tSp (0, 0)) := by
            rw [g5 _ (Array.getElem?_eq_some_iff.1 (held_on b87 e86)).1 (by omega)]
            exact held_on b87 e86
          obtain ⟨y, w89, f1, f2, f3, f4, f5⟩ := elSpecial.pushAt g3 (((1000 + i : Nat) : Int), ys[i].2) e88 g4.size (by omega) (by decide)
          exact ⟨r.a, r.n, r.c, w88, g2, y.a, y.n, y.c, w89, f2, check y w89 (f4 _ g4) f3⟩
      · rintro q ⟨sp, xs, hst, hxl, _⟩
        have done := fin q sp cl jn xs cls js hst
        have cells := agg_cells (x := ⟨false, t.m, sl0, sp, cl, jn⟩) hst.blk
        refine hI28 _ _ (CondP.mk (fun hlt => CondP.no ?_ ⟨_, _, _, _, _, _, _, _, _, _, _, _, _, _, _, _, cells, done⟩) fun hlt => ⟨_, _, _, _, _, _, _, _, _, _, _, _, _, _, _, _, cells, done⟩)
        have := of_decide_eq_true hlt
        exact decide_eq_false (by omega)
end Go.Proofs.YtpklkijdlnioaaaGreat.Eng
