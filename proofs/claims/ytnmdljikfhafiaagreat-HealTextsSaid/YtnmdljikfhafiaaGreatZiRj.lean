/- Some right spec: the reference's vocabularies of a statement, walked by the engine. -/
import Derived.Test.YtnmdljikfhafiaaGreatZiRa
import Derived.Test.YtnmdljikfhafiaaGreatZiTab
import Derived.Test.YtnmdljikfhafiaaGreatZiSp
import Derived.RangeFuncFrom
import Derived.RangeFuncCalls
import Derived.RangeFuncLeaves
import Derived.RangeFuncBox
import Derived.Shelf.Abstract
import Derived.Shelf.RegionOpen
import Derived.OwnWalkIn
import Derived.TacticsInMore
import Derived.LoopNIn
import Derived.LoopIn
set_option linter.unusedVariables false
set_option linter.unusedSimpArgs false
set_option maxRecDepth 100000
namespace Go.Proofs.YtnmdljikfhafiaaGreat.Eng
open Go Go.RowKit
abbrev tSps : TypeId := 25
abbrev tCls : TypeId := 23
abbrev tJns : TypeId := 24
theorem elSpecial : ElT encSpecial 2 tSps tSp 24 := ⟨fun _ => rfl, by decide, fun x => ones_special _ _, undSps, _, infoSp, rfl⟩
theorem ElT.pushAt {α : Type} {enc : α → List Value} {sz bytes : Nat} {t e : TypeId} (E : ElT enc sz t e bytes) {B : Nat} {w : World} {s : Sl} {xs : List α} (hown : w.ownsRow B e sz s.v s.n (xs.flatMap enc)) (x : α) {b : Nat} {T : TypeId} {fz : Nat × Nat} (hx : w.heap[b]? = some (.cells (enc x).toArray T fz)) (hB : B ≤ w.heap.size) (hn : s.n ≤ 1000000000) (hb : bytes ≤ 1000) :
  ∃ (l : Sl) (w4 : World), l.n = s.n + 1 ∧ (Builtin.append_ #[t, t] t #[.slice s.a s.n s.c, .slice (some ⟨b, 0, none⟩) 1 1]).run Tryz.prog w = .ok (.slice l.a l.n l.c) w4 ∧ w4.ownsRow B e sz l.v l.n ((xs ++ [x]).flatMap enc) ∧ (∀ w0, Below B w0 w → Below B w0 w4) ∧ (∀ k, k < w.heap.size → s.v.ownBlock ≠ some k → w4.heap[k]? = w.heap[k]?) := by
 obtain ⟨z, hi, hzs⟩ := E.hz
 have hmul : (s.n + 1) * bytes ≤ (1000000000 + 1) * 1000 := Nat.mul_le_mul (by omega) hb
 obtain ⟨A, C, w4, h1, h2, h3, h4⟩ := push_any (enc := enc) (sz := sz) E.hsz E.h0 E.h1 t e E.ht hi hzs hown x hx hB (by omega) (by omega)
 exact ⟨⟨A, s.n + 1, C⟩, w4, rfl, h1, h2, h3, h4⟩
theorem Rw.cut {α : Type} {enc : α → List Value} {sz : Nat} {w : World} {a : Option Addr} {xs : List α} (h : Rw enc sz w a xs) (i m : Nat) (hm : xs.length ≤ m) : Rw enc sz w (slBase a i m sz) (xs.drop i) := by
 intro j x hj
 rw [List.getElem?_drop] at hj
 have hlt := (List.getElem?_eq_some_iff.1 hj).1
 obtain ⟨p, rfl, hp, hc⟩ := h _ _ hj
 unfold slBase
 rw [if_neg (by omega)]
 refine ⟨p.add (i * sz), rfl, by rw [add_block]; exact hp, fun k v hk => ?_⟩
 rw [Addr.add_add p, ← Nat.add_mul]
 exact hc k v hk
theorem Rw.take {α : Type} {enc : α → List Value} {sz : Nat} {w : World} {a : Option Addr} {xs : List α} (h : Rw enc sz w a xs) (n : Nat) : Rw enc sz w a (xs.take n) := by
 intro j x hj
 rw [List.getElem?_take] at hj
 split at hj
 ·exact h j x hj
 ·cases hj
theorem markErr_ok : ∀ (xs ys : List (Int × Bs)) (i : Nat), markErr ys i xs = none → ∀ x ∈ xs, specialOk x = true
 | [], _, _, _, x, hx => by cases hx
 | y :: xs, ys, i, h, x, hx => by
  rw [markErr] at h
  split at h
  ·rename_i h0
   rcases List.mem_cons.1 hx with rfl | hx
   ·cases hs : specialOk x with
    | true => rfl
    | false => rw [markAdd, if_pos hs] at h0; cases h0
   ·exact markErr_ok xs _ _ h x hx
  ·cases h
structure SomeSt (w4 q : World) (m : Sl) (sp cl jn : Sl) (xs : List (Int × Bs)) (cls : List (Int × Int × Int)) (js : List (Int × Int)) : Prop where
 blk : q.heap[w4.heap.size]? = some (.cells #[.bool false, m.v, sl0.v, sp.v, cl.v, jn.v] tSpec (0, 0))
 o1 : q.ownsRow w4.heap.size tSp 2 sp.v sp.n (xs.flatMap encSpecial)
 o2 : q.ownsRow w4.heap.size tCl 3 cl.v cl.n (cls.flatMap encClass)
 o3 : q.ownsRow w4.heap.size tJn 2 jn.v jn.n (js.flatMap encPair)
 cok : cls.all classOk = true
 jok : js.all joinOk = true
 mrk : markErr [] 0 xs = none
 xid : ∀ y ∈ xs, 1000 ≤ y.1 ∧ y.1 < 1006
 asc : (xs.map (·.1)).Pairwise (· < ·)
 l1 : xs.length ≤ 6
 l2 : cls.length ≤ 8
 l3 : js.length ≤ 8
 B : Below w4.heap.size w4 q
theorem SomeSt.on {w4 q q' : World} {m sp cl jn : Sl} {xs : List (Int × Bs)} {cls : List (Int × Int × Int)} {js : List (Int × Int)} (h : SomeSt w4 q m sp cl jn xs cls js) (hb : Below q.heap.size q q') : SomeSt w4 q' m sp cl jn xs cls js :=
 ⟨held_on hb h.blk, own_on h.o1 hb, own_on h.o2 hb, own_on h.o3 hb, h.cok, h.jok, h.mrk, h.xid, h.asc, h.l1, h.l2, h.l3, h.B.trans (hb.mono h.B.size)⟩
def someS (es : List Ent) (xs : List (Int × Bs)) (cls : List (Int × Int × Int)) (js : List (Int × Int)) : SpecV := { merges := mergesOf es, specials := xs, classes := cls, joins := js }
theorem some_right {es : List Ent} (h : TOk es) {xs : List (Int × Bs)} {cls : List (Int × Int × Int)} {js : List (Int × Int)} (cok : cls.all classOk = true) (jok : js.all joinOk = true) (mk : markErr [] 0 xs = none) (l1 : xs.length ≤ 6) (l2 : cls.length ≤ 8) (l3 : js.length ≤ 8) : (someS es xs cls js).right = true := by
 have hm := h.most
 have hml := merges_length h
 have e1 : allOk (mergesOf es) 744 mergeOk = true := by
  rw [allOk, decide_eq_true (by omega), Bool.true_and, List.all_eq_true]
  intro m hm
  obtain ⟨k, hk⟩ := List.getElem?_of_mem hm
  have hkl := (List.getElem?_eq_some_iff.1 hk).1
  obtain ⟨h1, h2⟩ := merges_at h hk
  exact decide_eq_true (by omega)
 have e2 : allOk xs 32 specialOk = true := by
  rw [allOk, decide_eq_true (by omega), Bool.true_and, List.all_eq_true]
  exact markErr_ok xs [] 0 mk
 have e3 : allOk cls 64 classOk = true := by rw [allOk, decide_eq_true (by omega), cok]; rfl
 have e4 : allOk js 64 joinOk = true := by rw [allOk, decide_eq_true (by omega), jok]; rfl
 show (((((true && allOk (mergesOf es) 744 mergeOk) && allOk ([] : List Bs) 744 thingOk) && allOk xs 32 specialOk) && allOk cls 64 classOk) && allOk js 64 joinOk) = true
 rw [e1, e2, e3, e4]
 rfl
theorem some_build {es : List Ent} (h : TOk es) (hnew : tokNew begins 0 (mergesOf es) = .ok es) {xs : List (Int × Bs)} {cls : List (Int × Int × Int)} {js : List (Int × Int)} (mk : markErr [] 0 xs = none) (xid : ∀ y ∈ xs, 1000 ≤ y.1 ∧ y.1 < 1006) : buildV (someS es xs cls js) = .ok es := by
 have hm := h.most
 unfold buildV loadT someS
 simp only [Bool.false_eq_true, if_false, hnew, mk]
 have : xs.findIdx? (fun y => decide (y.1 < (es.length : Int))) = none := by
  rw [List.findIdx?_eq_none_iff]
  intro y hy
  have := xid y hy
  exact decide_eq_false (by omega)
 rw [this]
def someX (ys : List (Int × Bs)) : Nat → List (Int × Bs)
 | 0 => []
 | i + 1 => match markErr [] 0 (someX ys i ++ [(((1000 + i : Nat) : Int), (ys.getD i (0, [])).2)]) with
  | none => someX ys i ++ [(((1000 + i : Nat) : Int), (ys.getD i (0, [])).2)]
  | some _ => someX ys i
theorem someX_step {ys : List (Int × Bs)} {i : Nat} (hi : i < ys.length) : someX ys (i + 1) = match markErr [] 0 (someX ys i ++ [(((1000 + i : Nat) : Int), ys[i].2)]) with
  | none => someX ys i ++ [(((1000 + i : Nat) : Int), ys[i].2)]
  | some _ => someX ys i := by
 have e : ys.getD i (0, []) = ys[i] := by simp [List.getD, hi]
 rw [someX, e]
theorem filter_next {α : Type} (p : α → Bool) (xs : List α) {i : Nat} (hi : i < xs.length) : (xs.take (i + 1)).filter p = (xs.take i).filter p ++ (if p xs[i] = true then [xs[i]] else []) := by
 rw [List.take_add_one, List.getElem?_eq_getElem hi, List.filter_append]
 cases h : p xs[i] <;> simp [h]
def someV (l : List Int) (cs : List (Int × Int × Int)) (gs : List (Int × Int)) (ys : List (Int × Bs)) : SpecV :=
 someS (growV l 30) (someX ys (min ys.length 6)) ((cs.take (min cs.length 8)).filter classOk) ((gs.take (min gs.length 8)).filter joinOk)
def SomeR (s0 : SpecV) (w : World) (u : Value) (w' : World) : Prop := ∃ (x : SpecW) (s : SpecV) (T : List Ent), u = x.v ∧ SpecAt w' x s ∧ s.ranked = false ∧ s.right = true ∧ buildV s = .ok T ∧ TOk T ∧ s.specials.length ≤ 6 ∧ (∀ y ∈ s.specials, 1000 ≤ y.1 ∧ y.1 < 1006) ∧ (s.specials.map (·.1)).Pairwise (· < ·) ∧ s = s0 ∧ Below w.heap.size w w'
theorem refSome_spec (w : World) (A1 : Option Addr) (C1 : Nat) (l : List Int) (h1 : Rw enc16 1 w A1 l) (A2 : Option Addr) (C2 : Nat) (cs : List (Int × Int × Int)) (h2 : Rw encClass 3 w A2 cs) (A3 : Option Addr) (C3 : Nat) (gs : List (Int × Int)) (h3 : Rw encPair 2 w A3 gs) (A4 : Option Addr) (C4 : Nat) (ys : List (Int × Bs)) (h4 : Rw encSpecial 2 w A4 ys)
  (hc2 : cs.length ≤ C2) (hc3 : gs.length ≤ C3) :
  CP 54 #[.slice A1 l.length C1, .slice A2 cs.length C2, .slice A3 gs.length C3, .slice A4 ys.length C4] w fun e w' => ∃ u, e = .returned u ∧ SomeR (someV l cs gs ys) w u w' := by
 refine vc54_calls A1 l.length C1 A2 cs.length C2 A3 gs.length C3 A4 ys.length C4 w (SomeR (someV l cs gs ys) w) ?_
 intro w1 hw1
 have hb1 : Below w.heap.size w w1 := by subst hw1; exact below_alloc _ _
 have z1 : w1.heap[w.heap.size]? = some (.cells zeroX.cells tSpec (0, 0)) := by subst hw1; exact alloc_new _ _
 refine (refGrow_spec w1 A1 C1 l (h1.on hb1)).mono ?_
 rintro e w2 ⟨t, es, rfl, ht, htok, hnew, hes, b2⟩
 refine ⟨_, _, _, _, _, _, rfl, ?_⟩
 intro w3 hw3
 refine storeP_new [sl0.v, sl0.v] [t.b.v, t.m.v] rfl (ones_slices _ _) w3 hw3 ?_
 intro w4 h4' hz4 b4
 have b14 := below_then b2 b4
 have hb4 := below_then hb1 b14
 have z4 := held_on b14 z1
 have hlt4 : w.heap.size < w4.heap.size := (Array.getElem?_eq_some_iff.1 z4).1
 refine ⟨_, _, _, ptr_add0 _ _ h4' 1, ?_⟩
 intro w5 hw5
 refine store_spec ⟨false, t.m, sl0, sl0, sl0, sl0⟩ w5 hw5 ?_
 intro w6 h6 b6
 have ht4 := ht.on b4
 have fin : ∀ (q : World) (sp cl jn : Sl) (xs : List (Int × Bs)) (cls : List (Int × Int × Int)) (js : List (Int × Int)), SomeSt w4 q t.m sp cl jn xs cls js → xs = someX ys (min ys.length 6) → cls = (cs.take (min cs.length 8)).filter classOk → js = (gs.take (min gs.length 8)).filter joinOk →
   StoreP q (nb w) (fun w7 => ∃ res0 : Bool, ∃ res1A : Option Addr, ∃ res1N : Nat, ∃ res1C : Nat, ∃ res2A : Option Addr, ∃ res2N : Nat, ∃ res2C : Nat, ∃ res3A : Option Addr, ∃ res3N : Nat, ∃ res3C : Nat, ∃ res4A : Option Addr, ∃ res4N : Nat, ∃ res4C : Nat, ∃ res5A : Option Addr, ∃ res5N : Nat, ∃ res5C : Nat, (w7.cell? (nb w) = some (Value.bool res0) ∧ w7.cell? ((nb w).add 1) = some (Value.slice res1A res1N res1C) ∧ w7.cell? ((nb w).add 2) = some (Value.slice res2A res2N res2C) ∧ w7.cell? ((nb w).add 3) = some (Value.slice res3A res3N res3C) ∧ w7.cell? ((nb w).add 4) = some (Value.slice res4A res4N res4C) ∧ w7.cell? ((nb w).add 5) = some (Value.slice res5A res5N res5C) ∧ True) ∧
    SomeR (someV l cs gs ys) w (SpecW.v ⟨res0, ⟨res1A, res1N, res1C⟩, ⟨res2A, res2N, res2C⟩, ⟨res3A, res3N, res3C⟩, ⟨res4A, res4N, res4C⟩, ⟨res5A, res5N, res5C⟩⟩) w7)
   [Value.bool false, Value.slice t.m.a t.m.n t.m.c, Value.slice none 0 0, Value.slice sp.a sp.n sp.c, Value.slice cl.a cl.n cl.c, Value.slice jn.a jn.n jn.c] 0 := by
  intro q sp cl jn xs cls js hq ex ec ej
  have zq := Below.keeps hq.B hlt4 z4
  have hbq : Below w.heap.size w q := hb4.trans (hq.B.mono (by omega))
  have r1 := LsAt.of_own elSpecial hq.o1
  have r2 := Rw.of_own hq.o2 (fun _ => rfl) (by decide)
  have r3 := Rw.of_own hq.o3 (fun _ => rfl) (by decide)
  have htq := ht4.on hq.B
  have hS : SpecAt q ⟨false, t.m, sl0, sp, cl, jn⟩ (someS es xs cls js) := ⟨rfl, htq.n2, htq.r2, rfl, fun j x hj => (by cases hj), r1.n, r1.r, r2.2, r2.1, r3.2, r3.1⟩
  refine ret_specK (w := w) (w6 := q) (fun x w7 => SomeR (someV l cs gs ys) w x.v w7) ⟨false, t.m, sl0, sp, cl, jn⟩ zq rfl ?_
  intro w7 hB7 hs7
  have hz7 : q.heap.size ≤ w7.heap.size := (hB7 q (Below.refl _ _)).size
  exact ⟨⟨false, t.m, sl0, sp, cl, jn⟩, someS es xs cls js, es, rfl, hS.past zq (by
   intro v hv
   simp only [List.mem_toArray, List.mem_cons, List.not_mem_nil, or_false] at hv
   rcases hv with rfl | rfl | rfl | rfl | rfl | rfl <;> (rintro (⟨k, n, h⟩ | ⟨s, h⟩) <;> cases h)) (fun j _ hj => hs7 j hj) hz7, rfl, some_right htok hq.cok hq.jok hq.mrk hq.l1 hq.l2 hq.l3, some_build htok hnew hq.mrk hq.xid, htok, hq.l1, hq.xid, hq.asc, by rw [someV, ← hes, ← ex, ← ec, ← ej], hB7 w hbq⟩
 have start : SomeSt w4 w6 t.m sl0 sl0 sl0 [] [] [] := ⟨h6, own_none _ _ _ _ encSpecial, own_none _ _ _ _ encClass, own_none _ _ _ _ encPair, rfl, rfl, rfl, fun y hy => (by cases hy), List.Pairwise.nil, Nat.zero_le _, Nat.zero_le _, Nat.zero_le _, b6⟩
 have soft : ∀ {q : World} {sp cl jn : Sl} {xs : List (Int × Bs)} {cls : List (Int × Int × Int)} {js : List (Int × Int)}, SomeSt w4 q t.m sp cl jn xs cls js → sp.v.ownBlock ≠ some w4.heap.size ∧ cl.v.ownBlock ≠ some w4.heap.size ∧ jn.v.ownBlock ≠ some w4.heap.size := fun h => ⟨row_ne_blk h.o1 h.blk (by decide), row_ne_blk h.o2 h.blk (by decide), row_ne_blk h.o3 h.blk (by decide)⟩
 intro I4 hI4
 have key := climb2 (α := World) (min cs.length 8) (fun i q => ∃ (cl : Sl) (cls : List (Int × Int × Int)), SomeSt w4 q t.m sl0 cl sl0 [] cls [] ∧ cls.length ≤ i ∧ cls = (cs.take i).filter classOk) (fun i q => I4 [.int .i64 (i : Int)] q) w6 ⟨sl0, [], start, Nat.zero_le _, rfl⟩ ?_ ?_
 ·exact key
 ·rintro i hi ih q ⟨cl, cls, hst, hcl, hce⟩
  have hi1 : i < cs.length := by omega
  have hi2 : i < 8 := by omega
  refine hI4 _ _ (CondP.yes (by simp; omega) (CondP.yes (by simp; omega) ?_))
  intro J hJ
  have hJ' : ∀ (v : World) (cl : Sl) (cls : List (Int × Int × Int)), SomeSt w4 v t.m sl0 cl sl0 [] cls [] → cls.length ≤ i + 1 → cls = (cs.take (i + 1)).filter classOk → J [] v := fun v cl cls h1 h2 h3 => hJ v (Ar.nat (i + 1) rfl (by omega) (ih v ⟨cl, cls, h1, h2, h3⟩))
  have hbq : Below w.heap.size w q := hb4.trans (hst.B.mono (by omega))
  have hbt : BtAt q ⟨⟨slBase A2 i C2 3, i + 1 - i, C2 - i⟩, sl0⟩ [cs[i]] [] := by
   refine ⟨by show i + 1 - i = 1; omega, ?_, rfl, fun j x hj => by cases hj⟩
   have := ((h2.on hbq).cut i C2 hc2).take 1
   rw [List.drop_eq_getElem_cons hi1] at this
   exact this
  refine Ar.nat (i + 1) rfl (by omega) ⟨by omega, by omega, by omega, trivial, trivial, ?_⟩
  refine (refRight_spec q ⟨⟨slBase A2 i C2 3, i + 1 - i, C2 - i⟩, sl0⟩ [cs[i]] [] hbt (by simp) (by simp)).mono ?_
  rintro e w9 ⟨rfl, b9⟩
  have hst9 := hst.on b9
  refine ⟨_, rfl, CondP.mk (fun hok => ?_) fun hno => hJ' w9 cl cls hst9 (by omega) (by rw [filter_next classOk cs hi1, if_neg (by intro h; simp [h] at hno), List.append_nil]; exact hce)⟩
  intro w10 hw10
  have b10 : Below w9.heap.size w9 w10 := by subst hw10; exact drew_on w9
  have hst10 := hst9.on b10
  have hb10 := hbq.trans ((below_then b9 b10).mono hbq.size)
  obtain ⟨p, hp, _, hc⟩ := (h2.on hb10) i _ (List.getElem?_eq_getElem hi1)
  have c0 := hc 0 _ rfl
  rw [add_zero] at c0
  refine ⟨_, _, _, ptr_add0 _ _ hst10.blk 4, NilC.mk p hp ⟨by omega, by omega, _, _, _, ⟨c0, hc 1 _ rfl, hc 2 _ rfl, trivial⟩, ?_⟩⟩
  intro w11 hw11
  have b11 : Below w10.heap.size w10 w11 := by subst hw11; exact below_alloc _ _
  refine ⟨⟨ptr_add0 _ _ (hst10.on b11).blk 4, trivial⟩, ?_⟩
  obtain ⟨a', c', w12, hr12, hu12, hf12, h13⟩ := obj_push1 (P := Tryz.prog) (s := cl) 4 hst10.blk (show 4 < 6 by decide) hst10.o2 (soft hst10).2.1 (Nat.le_refl _) tCls undCls infoCl rfl (by decide) (encClass cs[i]) rfl (ones_class _ _ _) (by have := (Rw.of_own hst10.o2 (fun _ => rfl) (by decide)).2; have := hst10.l2; omega) (by have := (Rw.of_own hst10.o2 (fun _ => rfl) (by decide)).2; have := hst10.l2; omega)
  subst hw11
  refine ⟨a', cl.n + 1, c', w12, hr12, rfl, hu12, hf12, ?_⟩
  intro w13 hw13
  obtain ⟨g1, g2, g3, g4, g5, g6, g7⟩ := h13 w13 hw13
  have hok : classOk cs[i] = true := by simpa using hok
  refine hJ' w13 ⟨a', cl.n + 1, c'⟩ (cls ++ [cs[i]])  ⟨g1, own_none _ _ _ _ encSpecial, by rw [List.flatMap_append]; simpa using g2, own_none _ _ _ _ encPair, by rw [List.all_append, hst10.cok]; simpa using hok, rfl, rfl, fun y hy => (by cases hy), List.Pairwise.nil, Nat.zero_le _, by rw [List.length_append]; simp; omega, Nat.zero_le _, g4 _ hst10.B⟩ (by rw [List.length_append]; simp; omega) (by rw [filter_next classOk cs hi1, if_pos hok, ← hce])
 rintro q ⟨cl, cls, hst, hcl, hce⟩
 refine hI4 _ _ (CondP.mk (fun hlt => CondP.no ?_ ?_) fun hlt => ?_)
 ·have := of_decide_eq_true hlt
  exact decide_eq_false (by omega)
 all_goals
  clear hlt
  intro I13 hI13
  have key2 := climb2 (α := World) (min gs.length 8) (fun i q => ∃ (jn : Sl) (js : List (Int × Int)), SomeSt w4 q t.m sl0 cl jn [] cls js ∧ js.length ≤ i ∧ js = (gs.take i).filter joinOk) (fun i q => I13 [.int .i64 (i : Int)] q) q ⟨sl0, [], hst, Nat.zero_le _, rfl⟩ ?_ ?_
  ·exact key2
  ·rintro i hi ih q ⟨jn, js, hst, hjn, hje⟩
   have hi1 : i < gs.length := by omega
   have hi2 : i < 8 := by omega
   refine hI13 _ _ (CondP.yes (by simp; omega) (CondP.yes (by simp; omega) ?_))
   intro J hJ
   have hJ' : ∀ (v : World) (jn : Sl) (js : List (Int × Int)), SomeSt w4 v t.m sl0 cl jn [] cls js → js.length ≤ i + 1 → js = (gs.take (i + 1)).filter joinOk → J [] v := fun v jn js h1 h2 h3 => hJ v (Ar.nat (i + 1) rfl (by omega) (ih v ⟨jn, js, h1, h2, h3⟩))
   have hbq : Below w.heap.size w q := hb4.trans (hst.B.mono (by omega))
   have hbt : BtAt q ⟨sl0, ⟨slBase A3 i C3 2, i + 1 - i, C3 - i⟩⟩ [] [gs[i]] := by
    refine ⟨rfl, fun j x hj => (by cases hj), by show i + 1 - i = 1; omega, ?_⟩
    have := ((h3.on hbq).cut i C3 hc3).take 1
    rw [List.drop_eq_getElem_cons hi1] at this
    exact this
   refine Ar.nat (i + 1) rfl (by omega) ⟨by omega, by omega, by omega, trivial, trivial, ?_⟩
   refine (refRight_spec q ⟨sl0, ⟨slBase A3 i C3 2, i + 1 - i, C3 - i⟩⟩ [] [gs[i]] hbt (by simp) (by simp)).mono ?_
   rintro e w9 ⟨rfl, b9⟩
   have hst9 := hst.on b9
   refine ⟨_, rfl, CondP.mk (fun hok => ?_) fun hno => hJ' w9 jn js hst9 (by omega) (by rw [filter_next joinOk gs hi1, if_neg (by intro h; simp [h] at hno), List.append_nil]; exact hje)⟩
   intro w10 hw10
   have b10 : Below w9.heap.size w9 w10 := by subst hw10; exact drew_on w9
   have hst10 := hst9.on b10
   have hb10 := hbq.trans ((below_then b9 b10).mono hbq.size)
   obtain ⟨p, hp, _, hc⟩ := (h3.on hb10) i _ (List.getElem?_eq_getElem hi1)
   have c0 := hc 0 _ rfl
   rw [add_zero] at c0
   refine ⟨_, _, _, ptr_add0 _ _ hst10.blk 5, NilC.mk p hp ⟨by omega, by omega, _, _, ⟨c0, hc 1 _ rfl, trivial⟩, ?_⟩⟩
   intro w11 hw11
   have b11 : Below w10.heap.size w10 w11 := by subst hw11; exact below_alloc _ _
   refine ⟨⟨ptr_add0 _ _ (hst10.on b11).blk 5, trivial⟩, ?_⟩
   obtain ⟨a', c', w12, hr12, hu12, hf12, h13⟩ := obj_push1 (P := Tryz.prog) (s := jn) 5 hst10.blk (show 5 < 6 by decide) hst10.o3 (soft hst10).2.2 (Nat.le_refl _) tJns undJns infoJn rfl (by decide) (encPair gs[i]) rfl (ones_pair _ _) (by have := (Rw.of_own hst10.o3 (fun _ => rfl) (by decide)).2; have := hst10.l3; omega) (by have := (Rw.of_own hst10.o3 (fun _ => rfl) (by decide)).2; have := hst10.l3; omega)
   subst hw11
   refine ⟨a', jn.n + 1, c', w12, hr12, rfl, hu12, hf12, ?_⟩
   intro w13 hw13
   obtain ⟨g1, g2, g3, g4, g5, g6, g7⟩ := h13 w13 hw13
   have hok : joinOk gs[i] = true := by simpa using hok
   have k2 : w13.ownsRow w4.heap.size tCl 3 cl.v cl.n (cls.flatMap encClass) := own_same hst10.o2 fun k hk => g5 k (own_lt hst10.o2 k hk).2 (fun e => (soft hst10).2.1 (by rw [← e]; exact hk)) (row_ne_row hst10.o2 hst10.o3 (by decide) k hk)
   refine hJ' w13 ⟨a', jn.n + 1, c'⟩ (js ++ [gs[i]]) ⟨g1, own_none _ _ _ _ encSpecial, k2, by rw [List.flatMap_append]; simpa using g2, hst10.cok, by rw [List.all_append, hst10.jok]; simpa using hok, rfl, fun y hy => (by cases hy), List.Pairwise.nil, Nat.zero_le _, hst10.l2, by rw [List.length_append]; simp; omega, g4 _ hst10.B⟩ (by rw [List.length_append]; simp; omega) (by rw [filter_next joinOk gs hi1, if_pos hok, ← hje])
  rintro q ⟨jn, js, hst, hjn, hje⟩
  refine hI13 _ _ (CondP.mk (fun hlt => CondP.no ?_ ?_) fun hlt => ?_)
  ·have := of_decide_eq_true hlt
   exact decide_eq_false (by omega)
  all_goals
   clear hlt
   intro I28 hI28
   have key3 := climb2 (α := World) (min ys.length 6) (fun i q => ∃ (sp : Sl) (xs : List (Int × Bs)), SomeSt w4 q t.m sp cl jn xs cls js ∧ xs.length ≤ i ∧ (∀ y ∈ xs, y.1 < 1000 + (i : Int)) ∧ xs = someX ys i) (fun i q => I28 [.int .i64 (i : Int)] q) q ⟨sl0, [], hst, Nat.zero_le _, fun y hy => (by cases hy), rfl⟩ ?_ ?_
   ·exact key3
   ·rintro i hi ih q ⟨sp, xs, hst, hxl, hxb, hxe⟩
    have hi1 : i < ys.length := by omega
    have hi2 : i < 6 := by omega
    refine hI28 _ _ (CondP.yes (by simp; omega) (CondP.yes (by simp; omega) ?_))
    intro J hJ
    have hJ' : ∀ (v : World) (sp : Sl) (xs : List (Int × Bs)), SomeSt w4 v t.m sp cl jn xs cls js → xs.length ≤ i + 1 → (∀ y ∈ xs, y.1 < 1000 + ((i + 1 : Nat) : Int)) → xs = someX ys (i + 1) → J [] v := fun v sp xs h1 h2 h3 h4 => hJ v (Ar.nat (i + 1) rfl (by omega) (ih v ⟨sp, xs, h1, h2, h3, h4⟩))
    intro w23 hw23
    have b23 : Below q.heap.size q w23 := by subst hw23; exact drew_on q
    have hst23 := hst.on b23
    have hb23 : Below w.heap.size w w23 := hb4.trans (hst23.B.mono (by omega))
    obtain ⟨p, hp, _, _⟩ := (h4.on hb23) i _ (List.getElem?_eq_getElem hi1)
    have cellS : ∀ v : World, Below w23.heap.size w23 v → v.cell? ((p.add (i * 2)).add 1) = some (.string (str ys[i].2)) := by
     intro v hv
     obtain ⟨p', hp', _, hc⟩ := (h4.on (below_then hb23 hv)) i _ (List.getElem?_eq_getElem hi1)
     have : p' = p := by rw [hp] at hp'; exact (Option.some.inj hp').symm
     subst this
     exact hc 1 _ rfl
    have cell3 : ∀ v : World, Below w23.heap.size w23 v → v.cell? ((nb w4).add 3) = some sp.v := fun v hv => ptr_add0 _ _ (hst23.on hv).blk 3
    have hspn := (LsAt.of_own elSpecial hst23.o1).n
    have hl1 := hst23.l1
    have check : ∀ (y : Sl) (v : World), Below w23.heap.size w23 v → v.ownsRow w23.heap.size tSp 2 y.v y.n ((xs ++ [(((1000 + i : Nat) : Int), ys[i].2)]).flatMap encSpecial) →
      CP 90 #[Value.slice y.a y.n y.c] v (fun e28 w28 => ∃ r0 : Int, ∃ r1 : Int, e28 = .returned (Value.tuple #[Value.int .i64 r0, Value.int .i64 r1]) ∧
       CondP ((r1 : Int) == 0)
        ((Value.slice y.a y.n y.c).oneCell' = true ∧ (∃ u, w28.cell? ((nb w4).add 3) = some u) ∧ w28.frozen? ((nb w4).add 3) = false ∧
         ∀ w29 : World, w29 = (w28.setCell ((nb w4).add 3) (Value.slice y.a y.n y.c)) → J [] w29)
        (J [] w28)) := by
     intro y v hv hy
     have hls := LsAt.of_own elSpecial hy
     have hyn := hls.n
     obtain ⟨ya, yn, yc⟩ := y
     change yn = _ at hyn
     subst hyn
     refine (refCheck_spec v ya yc _ hls.r (by rw [List.length_append]; simp; omega)).mono ?_
     rintro e w28 ⟨rfl, b28⟩
     have hb28 := below_then hv b28
     have st28 := hst23.on hb28
     have hy28 := own_base (own_on hy b28) hst23.B.size
     cases hm : markErr [] 0 (xs ++ [(((1000 + i : Nat) : Int), ys[i].2)]) with
     | some z =>
      refine ⟨_, _, by rw [checkV, hm], CondP.no (by simpa using markErr_ne hm) (hJ' w28 sp xs st28 (by omega) (fun y hy => by have := hxb y hy; omega) (by rw [someX_step hi1, ← hxe, hm]))⟩
     | none =>
      refine ⟨_, _, by rw [checkV, hm], CondP.yes rfl ⟨rfl, ⟨_, cell3 w28 hb28⟩, frozen_put st28.blk, ?_⟩⟩
      intro w29 hw29
      subst hw29
      have s28 := soft st28
      refine hJ' _ ⟨ya, _, yc⟩ (xs ++ [(((1000 + i : Nat) : Int), ys[i].2)]) ⟨heap_put st28.blk _, own_setCell hy28 _ (by rw [add_block]; exact row_ne_blk hy28 st28.blk (by decide)), own_setCell st28.o2 _ (by rw [add_block]; exact s28.2.1), own_setCell st28.o3 _ (by rw [add_block]; exact s28.2.2), st28.cok, st28.jok, hm, ?_, ?_, by rw [List.length_append]; simp; omega, st28.l2, st28.l3, below_put st28.B (Nat.le_refl _) _⟩ (by rw [List.length_append]; simp; omega) ?_ (by rw [someX_step hi1, ← hxe, hm])
      ·intro z hz
       rcases List.mem_append.1 hz with hz | hz
       ·exact st28.xid z hz
       ·rw [List.mem_singleton.1 hz]
        show (1000 : Int) ≤ ((1000 + i : Nat) : Int) ∧ ((1000 + i : Nat) : Int) < 1006
        omega
      ·rw [List.map_append, List.pairwise_append]
       refine ⟨st28.asc, List.pairwise_singleton _ _, fun a ha b hb => ?_⟩
       obtain ⟨y, hy, rfl⟩ := List.mem_map.1 ha
       have := hxb y hy
       simp at hb
       omega
      ·intro y hy
       rcases List.mem_append.1 hy with hy | hy
       ·have := hxb y hy
        omega
       ·rw [List.mem_singleton.1 hy]
        show ((1000 + i : Nat) : Int) < 1000 + ((i + 1 : Nat) : Int)
        omega
    have spr : ∀ (v : World) (k : Nat), Below w23.heap.size w23 v → v.heap[k]? = some (.cells #[] tSp (0, 0)) → w23.heap.size ≤ k → ∃ (r : Sl) (v' : World), r.n = sp.n ∧ (Builtin.append_ #[tSps, tSps] tSps #[.slice (some ⟨k, 0, none⟩) 0 0, .slice sp.a sp.n sp.c]).run Tryz.prog v = .ok (.slice r.a r.n r.c) v' ∧ v'.ownsRow w23.heap.size tSp 2 r.v r.n (xs.flatMap encSpecial) ∧ Below w23.heap.size w23 v' ∧ (∀ j, j < v.heap.size → j ≠ k → v'.heap[j]? = v.heap[j]?) := by
     intro v k hv hk hle
     have hls := LsAt.of_own elSpecial (hst23.on hv).o1
     obtain ⟨r, v', g1, g2, g3, g4, g5, _⟩ := elSpecial.spread (s := ⟨some ⟨k, 0, none⟩, 0, 0⟩) (xs := []) (own_zero hk hle) hls hv.size (Nat.zero_le _) (by omega) (by decide)
     refine ⟨r, v', by rw [g1]; show 0 + sp.n = sp.n; omega, g2, g3, g4 _ hv, fun j hj hjk => g5 j hj fun e => hjk ?_⟩
     have : k = j := by simpa [Value.ownBlock] using e
     exact this.symm
    refine ⟨_, _, _, cell3 w23 (Below.refl _ _), Ar.nat (1000 + i) (by omega) (by omega) (NilC.mk p hp ⟨by omega, by omega, _, cellS w23 (Below.refl _ _), ?_, ?_⟩)⟩
    ·intro w24 hw24
     have b24 : Below w23.heap.size w23 w24 := by subst hw24; exact below_alloc _ _
     have n24 : w24.heap[w23.heap.size]? = some (.cells #[] tSp (0, 0)) := by subst hw24; exact alloc_new _ _
     refine ⟨⟨cellS w24 b24, trivial⟩, ⟨cell3 w24 b24, trivial⟩, ?_, ?_⟩
     ·obtain ⟨r, w25, g1, g2, g3, g4, g5⟩ := spr w24 _ b24 n24 (Nat.le_refl _)
      refine ⟨r.a, r.n, r.c, w25, g2, ⟨cellS w25 g4, trivial⟩, ?_⟩
      intro w26 hw26
      obtain ⟨y, w27, f1, f2, f3, f4, f5⟩ := elSpecial.push g3 (((1000 + i : Nat) : Int), ys[i].2) hw26 rfl g4.size (by omega) (by decide)
      exact ⟨y.a, y.n, y.c, w27, f2, check y w27 (f4 _ g4) f3⟩
     ·intro w30 hw30
      have b30 : Below w24.heap.size w24 w30 := by subst hw30; exact below_alloc _ _
      have e30 : w30.heap[w24.heap.size]? = some (.cells (encSpecial (((1000 + i : Nat) : Int), ys[i].2)).toArray tSp (0, 0)) := by subst hw30; exact alloc_new _ _
      have b2330 := below_then b24 b30
      refine ⟨⟨cell3 w30 b2330, trivial⟩, ?_⟩
      obtain ⟨r, w31, g1, g2, g3, g4, g5⟩ := spr w30 _ b2330 (held_on b30 n24) (Nat.le_refl _)
      have hz24 := (Array.getElem?_eq_some_iff.1 n24).1
      have e31 : w31.heap[w24.heap.size]? = some (.cells (encSpecial (((1000 + i : Nat) : Int), ys[i].2)).toArray tSp (0, 0)) := by
       rw [g5 _ (Array.getElem?_eq_some_iff.1 e30).1 (by omega)]
       exact e30
      obtain ⟨y, w32, f1, f2, f3, f4, f5⟩ := elSpecial.pushAt g3 (((1000 + i : Nat) : Int), ys[i].2) e31 g4.size (by omega) (by decide)
      exact ⟨r.a, r.n, r.c, w31, g2, y.a, y.n, y.c, w32, f2, check y w32 (f4 _ g4) f3⟩
    ·intro w86 hw86
     have b86 : Below w23.heap.size w23 w86 := by subst hw86; exact below_alloc _ _
     have e86 : w86.heap[w23.heap.size]? = some (.cells (encSpecial (((1000 + i : Nat) : Int), ys[i].2)).toArray tSp (0, 0)) := by subst hw86; exact alloc_new _ _
     refine ⟨⟨cell3 w86 b86, trivial⟩, ?_⟩
     intro w87 hw87
     have b87 : Below w86.heap.size w86 w87 := by subst hw87; exact below_alloc _ _
     have n87 : w87.heap[w86.heap.size]? = some (.cells #[] tSp (0, 0)) := by subst hw87; exact alloc_new _ _
     have b2387 := below_then b86 b87
     have hz86 := (Array.getElem?_eq_some_iff.1 e86).1
     refine ⟨⟨cell3 w87 b2387, trivial⟩, ?_⟩
     obtain ⟨r, w88, g1, g2, g3, g4, g5⟩ := spr w87 _ b2387 n87 (by omega)
     have e88 : w88.heap[w23.heap.size]? = some (.cells (encSpecial (((1000 + i : Nat) : Int), ys[i].2)).toArray tSp (0, 0)) := by
      rw [g5 _ (Array.getElem?_eq_some_iff.1 (held_on b87 e86)).1 (by omega)]
      exact held_on b87 e86
     obtain ⟨y, w89, f1, f2, f3, f4, f5⟩ := elSpecial.pushAt g3 (((1000 + i : Nat) : Int), ys[i].2) e88 g4.size (by omega) (by decide)
     exact ⟨r.a, r.n, r.c, w88, g2, y.a, y.n, y.c, w89, f2, check y w89 (f4 _ g4) f3⟩
   ·rintro q ⟨sp, xs, hst, hxl, _, hxe⟩
    have done := fin q sp cl jn xs cls js hst hxe hce hje
    have cells := agg_cells (x := ⟨false, t.m, sl0, sp, cl, jn⟩) hst.blk
    refine hI28 _ _ (CondP.mk (fun hlt => CondP.no ?_ ⟨_, _, _, _, _, _, _, _, _, _, _, _, _, _, _, _, cells, done⟩) fun hlt => ⟨_, _, _, _, _, _, _, _, _, _, _, _, _, _, _, _, cells, done⟩)
    have := of_decide_eq_true hlt
    exact decide_eq_false (by omega)
structure CsW where
 l : Sl
 c : Sl
 j : Sl
 x : Sl
abbrev CsW.cells (y : CsW) : Array Value := #[y.l.v, y.c.v, y.j.v, y.x.v]
abbrev CsW.v (y : CsW) : Value := .agg y.cells
structure CsAt (w : World) (y : CsW) (ls : List Int) (cs : List (Int × Int × Int)) (js : List (Int × Int)) (xs : List (Int × Bs)) : Prop where
 n1 : y.l.n = ls.length
 r1 : Rw enc16 1 w y.l.a ls
 n2 : y.c.n = cs.length
 r2 : Rw encClass 3 w y.c.a cs
 n3 : y.j.n = js.length
 r3 : Rw encPair 2 w y.j.a js
 n4 : y.x.n = xs.length
 r4 : Rw encSpecial 2 w y.x.a xs
 c2 : y.c.n ≤ y.c.c
 c3 : y.j.n ≤ y.j.c
 most : xs.length ≤ 9223372036854775807
theorem CsAt.on {w w' : World} {y : CsW} {ls : List Int} {cs : List (Int × Int × Int)} {js : List (Int × Int)} {xs : List (Int × Bs)} (h : CsAt w y ls cs js xs) (hb : Below w.heap.size w w') : CsAt w' y ls cs js xs := ⟨h.n1, h.r1.on hb, h.n2, h.r2.on hb, h.n3, h.r3.on hb, h.n4, h.r4.on hb, h.c2, h.c3, h.most⟩
abbrev tCs : TypeId := 27
theorem agg4 {w : World} {b : Nat} {y : CsW} {T : TypeId} {fz : Nat × Nat} (h : w.heap[b]? = some (.cells y.cells T fz)) :
  w.cell? ⟨b, 0, none⟩ = some y.l.v ∧ w.cell? ((⟨b, 0, none⟩ : Addr).add 1) = some y.c.v ∧ w.cell? ((⟨b, 0, none⟩ : Addr).add 2) = some y.j.v ∧ w.cell? ((⟨b, 0, none⟩ : Addr).add 3) = some y.x.v ∧ True := by
 have hc : ∀ j, w.cell? ((⟨b, 0, none⟩ : Addr).add j) = y.cells[j]? := fun j => ptr_add0 _ _ h j
 exact ⟨by have := hc 0; rw [add_zero] at this; exact this, hc 1, hc 2, hc 3, trivial⟩
theorem lawGreat_spec (w : World) (y : CsW) (ls : List Int) (cs : List (Int × Int × Int)) (js : List (Int × Int)) (xs : List (Int × Bs)) (h : CsAt w y ls cs js xs) : CP 13 #[y.v] w fun e w' => ∃ n : Int, e = .returned (.int .i64 n) ∧ Below w.heap.size w w' := by
 refine calls_ret (vc13_calls y.l.a y.l.n y.l.c y.c.a y.c.n y.c.c y.j.a y.j.n y.j.c y.x.a y.x.n y.x.c w (fun u w' => ∃ n : Int, u = .int .i64 n ∧ Below w.heap.size w w') ?_) (by rintro v w' ⟨n, rfl, h⟩; exact ⟨n, rfl, h⟩)
 intro w1 hw1
 have hb1 : Below w.heap.size w w1 := by subst hw1; exact below_alloc _ _
 have l1 : w1.heap[w.heap.size]? = some (.cells y.cells tCs (0, 0)) := by subst hw1; exact alloc_new _ _
 refine ⟨_, _, _, ptr_add0 _ _ l1 0, _, _, _, ptr_add0 _ _ l1 1, _, _, _, ptr_add0 _ _ l1 2, _, _, _, ptr_add0 _ _ l1 3, ?_⟩
 have h4 := (h.on hb1).r4
 have n4 := h.n4
 obtain ⟨⟨l1', l2', l3'⟩, ⟨c1', c2', c3'⟩, ⟨j1', j2', j3'⟩, ⟨x1', x2', x3'⟩⟩ := y
 change x2' = xs.length at n4
 subst n4
 refine (refGreat_spec w1 l1' l2' l3' c1' c2' c3' j1' j2' j3' x1' x3' xs h4 h.most).mono ?_
 rintro e w2 ⟨rfl, hw⟩
 subst hw
 exact ⟨_, rfl, CondP.mk (fun _ => ⟨1, rfl, hb1⟩) fun _ => ⟨0, rfl, hb1⟩⟩
structure Both (w : World) (v : Nat) (y : RvW) (s : SpecV) (T : List Ent) : Prop where
 voc : VocIs w v s T
 rv : ∀ w', Touch v w w' → RvAt w' y s T
 few : s.specials.length ≤ 6
 ids : ∀ z ∈ s.specials, 1000 ≤ z.1 ∧ z.1 < 1006
 asc : (s.specials.map (·.1)).Pairwise (· < ·)
theorem Both.now {w : World} {v : Nat} {y : RvW} {s : SpecV} {T : List Ent} (h : Both w v y s T) : RvAt w y s T := h.rv w (Touch.of_below (Below.refl _ _))
theorem Both.on {w w' : World} {v : Nat} {y : RvW} {s : SpecV} {T : List Ent} (h : Both w v y s T) (hb : Below w.heap.size w w') : Both w' v y s T := ⟨h.voc.on hb, fun w2 t => h.rv w2 ((Touch.of_below hb).trans t), h.few, h.ids, h.asc⟩
theorem Both.touch {w w' : World} {v : Nat} {y : RvW} {s : SpecV} {T : List Ent} (h : Both w v y s T) (t : Touch v w w') (hV : VocIs w' v s T) : Both w' v y s T := ⟨hV, fun w2 t2 => h.rv w2 (t.trans t2), h.few, h.ids, h.asc⟩
theorem VocIs.lt {w : World} {v : Nat} {s : SpecV} {T : List Ent} (h : VocIs w v s T) : v < w.heap.size := by
 obtain ⟨w0, x, tp, bp, mp, d, l, uses, hR⟩ := h
 exact (Array.getElem?_eq_some_iff.1 hR.blk).1
theorem Rw.far {α : Type} {enc : α → List Value} {sz : Nat} {w : World} {a : Option Addr} {xs : List α} (h : Rw enc sz w a xs) {v : Nat} (hv : w.heap.size ≤ v) : xs ≠ [] → ∀ p, a = some p → p.block ≠ v := by
 intro hne p hp e
 cases xs with
 | nil => exact hne rfl
 | cons x xs =>
  obtain ⟨q, hq, hlt, _⟩ := h 0 x rfl
  rw [hp] at hq
  cases hq
  omega
theorem RtAt.touch {w w' : World} {x : RtW} {es : List Ent} {B v : Nat} (h : RtAt w x es) (hf : Fresh B x) (hB : v < B) (t : Touch v w w') : RtAt w' x es :=
 ⟨h.n1, h.r1.touch t fun _ p hp e => by have := hf.1 p hp; omega, h.k1, h.n2, h.r2.touch t fun _ p hp e => by have := hf.2 p hp; omega, h.k2⟩
structure Past (b : Nat) (e : TypeId) (w w' : World) : Prop where
 blk : ∃ c fz, w.heap[b]? = some (.cells c e fz) ∧ ∀ v ∈ c, ¬ Solid v
 ne : ∀ j, j ≠ b → w'.heap[j]? = w.heap[j]?
 size : w'.heap.size = w.heap.size
theorem Past.row {α : Type} {enc : α → List Value} {sz : Nat} {w w' : World} {b : Nat} {e : TypeId} {a : Option Addr} {xs : List α} (t : Past b e w w') (h : Rw enc sz w a xs) (henc : ∀ x, ∃ v, (enc x)[0]? = some v ∧ Solid v) : Rw enc sz w' a xs := by
 obtain ⟨c, fz, hb, hc⟩ := t.blk
 exact h.past henc hb hc (fun j _ hj => t.ne j hj) (Nat.le_of_eq t.size.symm)
theorem Past.cells {w w' : World} {b k : Nat} {e e' : TypeId} {c : Array Value} {fz : Nat × Nat} (t : Past b e w w') (h : w.heap[k]? = some (.cells c e' fz)) (hne : e ≠ e') : w'.heap[k]? = some (.cells c e' fz) := by
 obtain ⟨c', fz', hb, _⟩ := t.blk
 rw [t.ne k fun e => ?_]
 ·exact h
 ·subst e
  rw [hb] at h
  cases h
  exact hne rfl
theorem Past.map {κ : Type} [DecidableEq κ] {kv : κ → Value} {w w' : World} {b r : Nat} {e : TypeId} {m : List (κ × Value)} (t : Past b e w w') (h : MapIs kv w r m) : MapIs kv w' r m := by
 obtain ⟨c', fz', hb, _⟩ := t.blk
 refine h.same (t.ne r fun e => ?_)
 subst e
 obtain ⟨es, k, hm, _⟩ := h
 rw [hb] at hm
 cases hm
theorem Past.parts {w w' : World} {b : Nat} {e : TypeId} {s : SpecV} {T : List Ent} {x : SpecW} {tp bp mp : Nat} (t : Past b e w w') (h : VocParts w s T x tp bp mp) (n1 : e ≠ tTable) (n2 : e ≠ tBound) (n3 : e ≠ tSet) : VocParts w' s T x tp bp mp := by
 obtain ⟨h1, h2, h3, h4, h5, h6, h7, h8⟩ := h
 refine ⟨?_, ?_, h3, ?_, ?_, h6, h7, h8⟩
 ·exact ⟨h1.ranked, h1.n1, t.row h1.r1 fun m => ⟨_, rfl, solid_int _ _⟩, h1.n2, t.row h1.r2 fun m => ⟨_, rfl, .inr ⟨_, rfl⟩⟩, h1.n3, t.row h1.r3 fun m => ⟨_, rfl, solid_int _ _⟩, h1.n4, t.row h1.r4 fun m => ⟨_, rfl, solid_int _ _⟩, h1.n5, t.row h1.r5 fun m => ⟨_, rfl, solid_int _ _⟩⟩
 ·obtain ⟨l, mb, mp, most, g1, g2, g3, g4, g5, g6⟩ := h2
  exact ⟨l, mb, mp, most, t.cells g1 n1, g2, t.row g3 fun m => ⟨_, rfl, .inr ⟨_, rfl⟩⟩, t.map g4, t.map g5, g6⟩
 ·obtain ⟨c, g1, g2⟩ := h4
  exact ⟨c, t.cells g1 n2, g2⟩
 ·obtain ⟨l, mi, mt, c, g1, g2, g3, g4, g5, g6⟩ := h5
  exact ⟨l, mi, mt, c, t.cells g1 n3, g2, g3, t.row g4 fun m => ⟨_, rfl, solid_int _ _⟩, t.map g5, t.map g6⟩
theorem Past.voc {w w' : World} {b v : Nat} {e : TypeId} {s : SpecV} {T : List Ent} (t : Past b e w w') (h : VocIs w v s T) (n1 : e ≠ tTable) (n2 : e ≠ tBound) (n3 : e ≠ tSet) (n4 : e ≠ tVocab) (n5 : e ≠ tBool) (hB : Below b w w') : VocIs w' v s T := by
 obtain ⟨w0, x, tp, bp, mp, d, l, uses, hR⟩ := h
 have blk := t.cells hR.blk n4
 have once : (d = 0 ∧ l = ⟨none, 0, 0⟩) ∨ (d = 1 ∧ l.n = T.length ∧ w'.ownsRow (v + 1) tBool 1 l.v l.n ((aloneL s T).flatMap encB1)) := by
  rcases hR.once with h | ⟨h1, h2, h3⟩
  ·exact .inl h
  ·refine .inr ⟨h1, h2, own_same h3 fun k hk => t.ne k fun e => ?_⟩
   obtain ⟨c, fz, hb, _⟩ := t.blk
   exact row_ne_blk h3 hb (fun e => n5 e.symm) (by rw [hk, e])
 have hbel := hR.below
 by_cases hlt : b < w0.heap.size
 ·obtain ⟨c, fz, hb, hc⟩ := t.blk
  have hb0 : w0.heap[b]? = some (.cells c e fz) := by rw [← hbel.block b hlt]; exact hb
  have hbl : b < w.heap.size := (Array.getElem?_eq_some_iff.1 hb).1
  have hbl' : b < w'.heap.size := by rw [t.size]; exact hbl
  let w1 : World := { w0 with heap := w0.heap.setIfInBounds b w'.heap[b] }
  have hz : w1.heap.size = w0.heap.size := by simp [w1]
  have same : ∀ j, j ≠ b → w1.heap[j]? = w0.heap[j]? := fun j hj => by
   show (w0.heap.setIfInBounds b w'.heap[b])[j]? = _
   rw [Array.getElem?_setIfInBounds_ne (fun e => hj e.symm)]
  have t0 : Past b e w0 w1 := ⟨⟨c, fz, hb0, hc⟩, same, hz⟩
  refine ⟨w1, x, tp, bp, mp, d, l, uses, t0.parts hR.parts n1 n2 n3, ?_, by rw [hz]; exact hR.lt, blk, once⟩
  refine ⟨hB.os.trans hbel.os, hB.tape.trans hbel.tape, hB.output.trans hbel.output, by rw [hz, t.size]; exact hbel.size, fun k hk => ?_⟩
  by_cases hkb : k = b
  ·subst hkb
   show w'.heap[k]? = (w0.heap.setIfInBounds k w'.heap[k])[k]?
   rw [Array.getElem?_setIfInBounds_self_of_lt hlt, Array.getElem?_eq_getElem hbl']
  ·rw [same k hkb, t.ne k hkb]
   exact hbel.block k (by rw [hz] at hk; exact hk)
 ·refine ⟨w0, x, tp, bp, mp, d, l, uses, hR.parts, ?_, hR.lt, blk, once⟩
  exact ⟨hB.os.trans hbel.os, hB.tape.trans hbel.tape, hB.output.trans hbel.output, by rw [t.size]; exact hbel.size, fun k hk => by rw [t.ne k (by omega)]; exact hbel.block k hk⟩
def OfR (w : World) (u : Value) (w' : World) : Prop := ∃ (v : Nat) (y : RvW) (s : SpecV) (T : List Ent), u = .tuple #[.pointer (some ⟨v, 0, none⟩), y.v] ∧ Both w' v y s T ∧ w.heap.size ≤ v ∧ Below w.heap.size w w'
def OfR2 (s0 : SpecV) (w : World) (u : Value) (w' : World) : Prop := ∃ (v : Nat) (y : RvW) (s : SpecV) (T : List Ent), u = .tuple #[.pointer (some ⟨v, 0, none⟩), y.v] ∧ Both w' v y s T ∧ w.heap.size ≤ v ∧ Below w.heap.size w w' ∧ s = s0 ∧ buildV s = .ok T
theorem lawOf_spec2 (w : World) (y : CsW) (ls : List Int) (cs : List (Int × Int × Int)) (js : List (Int × Int)) (xs : List (Int × Bs)) (h : CsAt w y ls cs js xs) : CP 15 #[y.v] w fun e w' => ∃ u, e = .returned u ∧ OfR2 (someV ls cs js xs) w u w' := by
 refine vc15_calls y.l.a y.l.n y.l.c y.c.a y.c.n y.c.c y.j.a y.j.n y.j.c y.x.a y.x.n y.x.c w (OfR2 (someV ls cs js xs) w) ?_
 intro w1 hw1 w2 hw2
 have hb1 : Below w.heap.size w w1 := by subst hw1; exact below_alloc _ _
 have b2 : Below w1.heap.size w1 w2 := by subst hw2; exact below_alloc _ _
 have hb2 := below_then hb1 b2
 have l2 : w2.heap[w.heap.size]? = some (.cells y.cells tCs (0, 0)) := held_on b2 (by subst hw1; exact alloc_new _ _)
 have z2 : w2.heap[w1.heap.size]? = some (.cells rv0.cells tRv (0, 0)) := by subst hw2; exact alloc_new _ _
 refine ⟨_, _, _, ptr_add0 _ _ l2 0, _, _, _, ptr_add0 _ _ l2 1, _, _, _, ptr_add0 _ _ l2 2, _, _, _, ptr_add0 _ _ l2 3, ?_⟩
 have h2 := h.on hb2
 clear l2
 clear hw1
 have some2 : CP 54 #[y.l.v, y.c.v, y.j.v, y.x.v] w2 fun e w' => ∃ u, e = .returned u ∧ SomeR (someV ls cs js xs) w2 u w' := by
  obtain ⟨n1, r1, n2, r2, n3, r3, n4, r4, c2, c3, most⟩ := h2
  obtain ⟨⟨l1', l2', l3'⟩, ⟨c1', c2', c3'⟩, ⟨j1', j2', j3'⟩, ⟨x1', x2', x3'⟩⟩ := y
  change l2' = ls.length at n1
  change c2' = cs.length at n2
  change j2' = js.length at n3
  change x2' = xs.length at n4
  subst n1 n2 n3 n4
  exact refSome_spec w2 l1' l3' ls r1 c1' c3' cs r2 j1' j3' js r3 x1' x3' xs r4 c2 c3
 refine some2.mono ?_
 rintro e w3 ⟨u, rfl, x, s, T, rfl, hS, hrk, hright, hT, htok, hfew, hids, hasc, hs0, b3⟩
 refine ⟨_, _, _, _, _, _, _, _, _, _, _, _, _, _, _, _, rfl, ?_⟩
 intro w4 hw4
 refine store_spec x w4 hw4 ?_
 intro w5 h5 b5
 have b35 := below_then b3 b5
 have hb5 := below_then hb2 b35
 have hS5 := hS.on b5
 refine ⟨_, _, _, _, _, _, _, _, _, _, _, _, _, _, _, _, agg_cells h5, ?_⟩
 refine (vocabNew_spec w5 x s hS5).mono ?_
 rintro e w6 ⟨u, rfl, b6, hp⟩
 rw [if_pos hright, hT] at hp
 obtain ⟨v, rfl, hV, hv⟩ := hp
 have hb6 := below_then hb5 b6
 have h6 := held_on b6 h5
 refine ⟨_, _, _, rfl, CondP.no rfl ⟨_, _, _, _, _, _, _, _, _, _, _, _, _, _, _, _, agg_cells h6, ?_⟩⟩
 refine (refOf_spec w6 x s (hS5.on b6) hrk hright T hT).mono ?_
 rintro e w8 ⟨r, rfl, hr, b8, hf, eb, esp⟩
 have hb8 := below_then hb6 b8
 have z8 := held_on b8 (held_on b6 (held_on b35 z2))
 refine ⟨_, _, _, _, _, _, _, _, _, _, _, _, _, _, _, rfl, ?_⟩
 refine storeP_cells z8 (slRv r) rfl (ones_rv r) ?_
 intro w9 h9 hs9 hz9 hB9
 have hvl := hV.lt
 have hz5 := hb5.size
 have hz1 := hb1.size
 have tp : Past w1.heap.size tRv w8 w9 := ⟨⟨_, _, z8, soft_rv rv0⟩, hs9, hz9⟩
 have hV9 : VocIs w9 v s T := tp.voc (hV.on b8) (by decide) (by decide) (by decide) (by decide) (by decide) (hB9 _ _ (Nat.le_refl _) (Below.refl _ _))
 have hr9 : RvAt w9 r s T := hr.past z8 (soft_rv rv0) (fun j _ hj => hs9 j hj) (Nat.le_of_eq hz9.symm)
 have f3 := hS5.r3.far hv
 have f4 := hS5.r4.far hv
 have f5 := hS5.r5.far hv
 refine ⟨_, _, _, _, _, _, _, _, _, _, _, _, _, _, _, agg5 (x := r) h9, v, r, s, T, rfl, ⟨hV9, fun w' t => ?_, hfew, hids, hasc⟩, by omega, hB9 _ _ hz1 hb8, hs0, hT⟩
 obtain ⟨g1, ⟨g2, g3, g4, g5⟩, g6, g7, g8, g9, g10, g11⟩ := hr9
 refine ⟨g1.touch hf hvl t, ⟨g2, g3.touch t (by rw [eb]; exact f4), g4, g5.touch t (by rw [eb]; exact f5)⟩, g6, g7.touch t (by rw [esp]; exact f3), g8, g9, g10, g11⟩
theorem lawOf_spec (w : World) (y : CsW) (ls : List Int) (cs : List (Int × Int × Int)) (js : List (Int × Int)) (xs : List (Int × Bs)) (h : CsAt w y ls cs js xs) : CP 15 #[y.v] w fun e w' => ∃ u, e = .returned u ∧ OfR w u w' :=
 (lawOf_spec2 w y ls cs js xs h).mono fun _ _ ⟨u, e, v, r, s, T, h1, h2, h3, h4, _⟩ => ⟨u, e, v, r, s, T, h1, h2, h3, h4⟩
open Go.ChangeShapes Go.WideShapes
section
variable {H : Type} {enc0 : TypeId × Value → H} {w : World} {base : Nat} {spare : Nat → Bool} {held : Bool}
theorem elem_u16 {e : TypeId} (he : Tryz.prog.underlying e = some (.int .u16)) : ∀ n cs' y, DataW.trod enc0 Tryz.prog w base spare held n e cs' = some y → ∃ m : Int, cs' = enc16 m := by
 intro n cs' y h
 obtain ⟨i, hi, _⟩ := DataW.trod_int he h
 exact ⟨i, hi⟩
theorem open_case {b0 : Nat} {v : Value} {d : DataW H} {p : List MemPlace} (hv : Value.okWide Tryz.prog w .any b0 tCs v) (h : DataW.Trod enc0 Tryz.prog w base spare held tCs v d p) : ∃ (y : CsW) (ls : List Int) (cs : List (Int × Int × Int)) (js : List (Int × Int)) (xs : List (Int × Bs)), v = y.v ∧ CsAt w y ls cs js xs := by
 obtain ⟨cs, rfl, hsz⟩ := okWide_struct Tryz.underlying27 hv
 rw [show Tryz.prog.cellsOf tCs = 4 by kernel_rfl] at hsz
 obtain ⟨fuel, hf⟩ := h
 obtain ⟨xs, n, _, _, _, hlen, hF⟩ := DataW.trod_struct Tryz.underlying27 hf
 have h0 : DataW.trod enc0 Tryz.prog w base spare held n 22 ((cs.toList.drop 0).take (Tryz.prog.cellsOf 22)) = xs[0]? := hF 0 _ rfl
 have h1 : DataW.trod enc0 Tryz.prog w base spare held n 23 ((cs.toList.drop 1).take (Tryz.prog.cellsOf 23)) = xs[1]? := hF 1 _ rfl
 have h2 : DataW.trod enc0 Tryz.prog w base spare held n 24 ((cs.toList.drop 2).take (Tryz.prog.cellsOf 24)) = xs[2]? := hF 2 _ rfl
 have h3 : DataW.trod enc0 Tryz.prog w base spare held n 25 ((cs.toList.drop 3).take (Tryz.prog.cellsOf 25)) = xs[3]? := hF 3 _ rfl
 rw [show Tryz.prog.cellsOf 22 = 1 by kernel_rfl] at h0
 rw [show Tryz.prog.cellsOf 23 = 1 by kernel_rfl] at h1
 rw [show Tryz.prog.cellsOf 24 = 1 by kernel_rfl] at h2
 rw [show Tryz.prog.cellsOf 25 = 1 by kernel_rfl] at h3
 have hl4 : cs.toList.length = 4 := by simpa using hsz
 obtain ⟨l, hl⟩ : ∃ l, cs.toList = l := ⟨_, rfl⟩
 obtain rfl : cs = l.toArray := by rw [← hl]
 rw [hl] at h0 h1 h2 h3 hl4
 match l, hl4, xs, hlen with
 | [a0, a1, a2, a3], _, [y0, y1, y2, y3], _ =>
  obtain ⟨s1, l1, e1, n1, k1, c1, m1, r1⟩ := open_list (enc := enc16) (sz := 1) Tryz.underlying22 (by kernel_rfl) (fun _ => rfl) (Nat.succ_pos _) (elem_u16 Tryz.underlying245) h0
  obtain ⟨s2, l2, e2, n2, k2, c2, m2, r2⟩ := open_list (enc := encClass) (sz := 3) undCls (by kernel_rfl) (fun _ => rfl) (Nat.succ_pos _) (elem_class Tryz.underlying158 rfl rfl rfl Tryz.underlying3 Tryz.underlying3 Tryz.underlying3 (by kernel_rfl) (by kernel_rfl) (by kernel_rfl) (by kernel_rfl)) h1
  obtain ⟨s3, l3, e3, n3, k3, c3, m3, r3⟩ := open_list (enc := encPair) (sz := 2) undJns (by kernel_rfl) (fun _ => rfl) (Nat.succ_pos _) (elem_pair Tryz.underlying159 rfl rfl Tryz.underlying3 Tryz.underlying3 (by kernel_rfl) (by kernel_rfl) (by kernel_rfl)) h2
  obtain ⟨s4, l4, e4, n4, k4, c4, m4, r4⟩ := open_list (enc := encSpecial) (sz := 2) undSps (by kernel_rfl) (fun _ => rfl) (Nat.succ_pos _) (elem_special Tryz.underlying105 rfl rfl Tryz.underlying3 undStr (by kernel_rfl) (by kernel_rfl) (by kernel_rfl)) h3
  simp at e1 e2 e3 e4
  subst e1 e2 e3 e4
  exact ⟨⟨s1, s2, s3, s4⟩, l1, l2, l3, l4, rfl, n1, r1, n2, r2, n3, r3, n4, r4, c2, c3, by unfold maxLen at m4; omega⟩
end
open Go Go.Value
def vc76 (a b : OA) (c d : Nat) (w : World) (R : RW) : Prop :=
 ∀ f, f = w.alloc (.cells #[pointer a] 31) →
 ∃ g, f.cell? (nb w) = some (pointer g) ∧
 CondP (Option.isNone g)
 (R (slice none 0 0) f)
 (CP 137 #[slice b c d, func (.func 138) #[] #[pointer (some (nb w))]] f (fun h i =>
 ∃ j, h = .returned (bool j) ∧
 CondP j
 (R (slice none 0 0) i)
 (∃ k, i.cell? (nb w) = some (pointer k) ∧
 CP 140 #[pointer k, slice b c d] i (fun l m =>
 ∃ n o p, l = .returned (slice n o p) ∧
 R (slice n o p) m))))
theorem vc76_calls (a b : OA) (c d : Nat) (w : World) (R : RW) (hh : vc76 a b c d w R) : CR 76 #[pointer a, slice b c d] w R :=
 cden (fn := Tryz.f76) (by kernel_rfl) (by kernel_rfl) (by kernel_rfl) (by kernel_rfl) (by kernel_rfl) hh
def vc137 (a : OA) (b c : Nat) (d : Value) (w : World) (R : RW) : Prop :=
 CP 94 #[slice a b c, d] w (fun f g =>
 ∃ h, f = .returned (int .i64 h) ∧
 R (bool (decide (h ≥ 0))) g)
theorem vc137_calls (a : OA) (b c : Nat) (d : Value) (w : World) (R : RW) (hh : vc137 a b c d w R) : CR 137 #[slice a b c, d] w R :=
 cden (fn := Tryz.f137) (by kernel_rfl) (by kernel_rfl) (by kernel_rfl) (by kernel_rfl) (by kernel_rfl) hh
def vc138 (a : Int) (b : OA) (w : World) (R : RW) : Prop :=
 NilC b (fun c =>
 ∃ d, w.cell? c = some (pointer d) ∧
 CP 139 #[pointer d, int .i64 a] w (fun f g =>
 ∃ h, f = .returned (bool h) ∧
 R (bool (!h)) g))
theorem vc138_calls (a : Int) (b : OA) (w : World) (R : RW) (hh : vc138 a b w R) : CR 138 #[int .i64 a, pointer b] w R :=
 cden (fn := Tryz.f138) (by kernel_rfl) (by kernel_rfl) (by kernel_rfl) (by kernel_rfl) (by kernel_rfl) hh
def vc139 (a : OA) (b : Int) (w : World) (R : RW) : Prop :=
 CondP (decide (b ≥ 0))
 (CondP (decide (b < 256))
 (R (bool true) w)
 (CondP (decide (b < 0))
 (CP 73 #[pointer a] w (fun c d =>
 ∃ f, c = .returned (pointer f) ∧
 CP 184 #[pointer f] d (fun g h =>
 ∃ i, g = .returned (int .i64 i) ∧
 Ar .i64 (0 - i) (fun j =>
 R (bool (decide (b ≥ j))) h))))
 (R (bool false) w)))
 (CondP (decide (b < 0))
 (CP 73 #[pointer a] w (fun k l =>
 ∃ m, k = .returned (pointer m) ∧
 CP 184 #[pointer m] l (fun n o =>
 ∃ p, n = .returned (int .i64 p) ∧
 Ar .i64 (0 - p) (fun q =>
 R (bool (decide (b ≥ q))) o))))
 (R (bool false) w))
theorem vc139_calls (a : OA) (b : Int) (w : World) (R : RW) (hh : vc139 a b w R) : CR 139 #[pointer a, int .i64 b] w R :=
 cden (fn := Tryz.f139) (by kernel_rfl) (by kernel_rfl) (by kernel_rfl) (by kernel_rfl) (by kernel_rfl) hh
def vc185 (a b : OA) (c d : Nat) (w : World) (R : RW) : Prop :=
 ∀ f, f = w.alloc (.cells #[pointer a] 31) →
 ∀ g, g = f.alloc (.cells #[slice b c d] 28) →
 R (func (.func 219) #[] #[pointer (some (nb f)), pointer (some (nb w))]) g
theorem vc185_calls (a b : OA) (c d : Nat) (w : World) (R : RW) (hh : vc185 a b c d w R) : CR 185 #[pointer a, slice b c d] w R :=
 cden (fn := Tryz.f185) (by kernel_rfl) (by kernel_rfl) (by kernel_rfl) (by kernel_rfl) (by kernel_rfl) hh
def vc186 (a b : OA) (c d : Nat) (w : World) (R : RW) : Prop :=
 NilC b (fun f =>
 (0 : Int) ≤ 0 ∧ 0 < (c : Int) ∧
 ∃ g, w.cell? (f.add ((0 : Int).toNat * 1)) = some (int .i64 g) ∧
 CondP (decide (g < 0))
 (∀ h, h = w.drew →
 NilC b (fun i =>
 (0 : Int) ≤ 0 ∧ 0 < (c : Int) ∧
 ∃ j, h.cell? (i.add ((0 : Int).toNat * 1)) = some (int .i64 j) ∧
 CP 73 #[pointer a] h (fun k l =>
 ∃ m, k = .returned (pointer m) ∧
 (l.cell? (i.add ((0 : Int).toNat * 1)) = some (int .i64 j) ∧ True) ∧
 CP 221 #[pointer m, int .i64 j] l (fun n o =>
 ∃ p q, n = .returned (tuple #[int .i64 p, bool q]) ∧
 ∀ r, r = o.alloc (.cells #[int .i64 p] 3) →
 R (slice (some (nb o)) 1 1) r))))
 (CP 67 #[pointer a] w (fun s t =>
 ∃ u, s = .returned (pointer u) ∧
 CP 222 #[slice b c d] t (fun x y =>
 ∃ z, x = .returned (string z) ∧
 CP 191 #[pointer u, string z] y (fun a1 b1 =>
 ∃ c1 d1 e1, a1 = .returned (slice c1 d1 e1) ∧
 R (slice c1 d1 e1) b1)))))
theorem vc186_calls (a b : OA) (c d : Nat) (w : World) (R : RW) (hh : vc186 a b c d w R) : CR 186 #[pointer a, slice b c d] w R :=
 cden (fn := Tryz.f186) (by kernel_rfl) (by kernel_rfl) (by kernel_rfl) (by kernel_rfl) (by kernel_rfl) hh
def vc220 (a b : OA) (c d : Nat) (w : World) (R : RW) : Prop :=
 NilC b (fun f =>
 (0 : Int) ≤ 0 ∧ 0 < (c : Int) ∧
 ∃ g, w.cell? (f.add ((0 : Int).toNat * 1)) = some (int .i64 g) ∧
 CondP (decide (g < 0))
 (R (int .i64 1) w)
 (∀ h : KW, (∀ (i j : Int) (k : World), (CondP (decide (i < (c : Int)))
 (∀ l, l = k.drew →
 NilC b (fun m =>
 (0 : Int) ≤ i ∧ i < (c : Int) ∧
 ∃ n, l.cell? (m.add (i.toNat * 1)) = some (int .i64 n) ∧
 CondP (decide (n < 0))
 (R (int .i64 i) l)
 (Ar .i64 (i - 1) (fun o =>
 NilC b (fun p =>
 (0 : Int) ≤ o ∧ o < (c : Int) ∧
 ∃ q, l.cell? (p.add (o.toNat * 1)) = some (int .i64 q) ∧
 NilC b (fun r =>
 (0 : Int) ≤ i ∧ i < (c : Int) ∧
 ∃ s, l.cell? (r.add (i.toNat * 1)) = some (int .i64 s) ∧
 CP 194 #[pointer a] l (fun t u =>
 ∃ x, t = .returned (pointer x) ∧
 (u.cell? (r.add (i.toNat * 1)) = some (int .i64 s) ∧ True) ∧
 (u.cell? (p.add (o.toNat * 1)) = some (int .i64 q) ∧ True) ∧
 CP 229 #[pointer x, int .u8 (IntKind.wrap .u8 q), int .u8 (IntKind.wrap .u8 s)] u (fun y z =>
 ∃ a1, y = .returned (bool a1) ∧
 CondP a1
 (R (int .i64 i) z)
 (Ar .i64 (i + 1) (fun b1 =>
 h [int .i64 b1, int .i64 j] z))))))))))
 (R (int .i64 (c : Int)) k)) → h [int .i64 i, int .i64 j] k) →
 h [int .i64 1, int .i64 0] w))
theorem vc220_calls (a b : OA) (c d : Nat) (w : World) (R : RW) (hh : vc220 a b c d w R) : CR 220 #[pointer a, slice b c d] w R :=
 cden (fn := Tryz.f220) (by kernel_rfl) (by kernel_rfl) (by kernel_rfl) (by kernel_rfl) (by kernel_rfl) hh
def vc222 (a : OA) (b c : Nat) (w : World) (R : RW) : Prop :=
 ∃ d f g h, (Instr.makeSlice 134 (int .i64 0) (int .i64 (b : Int))).run Tryz.prog w = .ok (slice d f g) h ∧
 ∀ i : KW, (∀ (j : Int) (k : OA) (l m : Nat) (n : World), (CondP (decide (j < (b : Int)))
 (NilC a (fun o =>
 (0 : Int) ≤ j ∧ j < (b : Int) ∧
 ∃ p, n.cell? (o.add (j.toNat * 1)) = some (int .i64 p) ∧
 ∀ q, q = n.alloc (.cells #[int .u8 (IntKind.wrap .u8 p)] 5) →
 ∃ r s t u, (Builtin.append_ #[134, 134] 134 #[slice k l m, slice (some (nb n)) 1 1]).run Tryz.prog q = .ok (slice r s t) u ∧
 Ar .i64 (j + 1) (fun x =>
 i [int .i64 x, slice r s t] u)))
 (∃ y z, (convert 134 9 (slice k l m)).run Tryz.prog n = .ok (string y) z ∧
 R (string y) z)) → i [int .i64 j, slice k l m] n) →
 i [int .i64 0, slice d f g] h
theorem vc222_calls (a : OA) (b c : Nat) (w : World) (R : RW) (hh : vc222 a b c w R) : CR 222 #[slice a b c] w R :=
 cden (fn := Tryz.f222) (by kernel_rfl) (by kernel_rfl) (by kernel_rfl) (by kernel_rfl) (by kernel_rfl) hh
def itemOk (s : SpecV) (x : Int) : Bool := decide ((0 ≤ x ∧ x < 256) ∨ (x < 0 ∧ -(s.specials.length : Int) ≤ x))
theorem encRight_spec (w : World) (v : Nat) (c : Array Value) (tp bp mp : Nat) (h : VBlk w v c tp bp mp) (s : SpecV) (hM : MkIs w mp s.specials) (hl : s.specials.length ≤ 1000000) (x : Int) :
  CP 139 #[.pointer (some ⟨v, 0, none⟩), .int .i64 x] w fun e w' => e = .returned (.bool (itemOk s x)) ∧ w' = w := by
 refine calls_ret (vc139_calls (some ⟨v, 0, none⟩) x w (fun u w' => u = .bool (itemOk s x) ∧ w' = w) ?_) (by rintro v w' ⟨rfl, h⟩; exact ⟨rfl, h⟩)
 have neg : x < 0 → CP 73 #[.pointer (some ⟨v, 0, none⟩)] w (fun e1 w1 =>
          ∃ p : Option Addr, e1 = .returned (Value.pointer p) ∧
          CP 184 #[Value.pointer p] w1 (fun e2 w2 =>
          ∃ n : Int, e2 = .returned (Value.int .i64 n) ∧
          Ar .i64 (0 - n) (fun n_1 => Value.bool (decide ((x : Int) ≥ n_1)) = .bool (itemOk s x) ∧ w2 = w))) := by
  intro hx
  refine (vocMarks_spec h).mono ?_
  rintro e w1 ⟨rfl, hw⟩
  subst w1
  refine ⟨_, rfl, (markLen_spec w mp s.specials hM).mono ?_⟩
  rintro e w2 ⟨rfl, hw⟩
  subst w2
  refine ⟨_, rfl, Ar.ok64 (by omega) (by omega) ⟨?_, rfl⟩⟩
  congr 1
  exact decide_eq_decide.2 (by omega)
 refine CondP.mk (fun h0 => CondP.mk (fun h1 => ⟨?_, rfl⟩) fun h1 => CondP.no ?_ ⟨?_, rfl⟩) fun h0 => CondP.yes ?_ (neg ?_)
 ·have h0 := of_decide_eq_true h0
  have h1 := of_decide_eq_true h1
  rw [itemOk, decide_eq_true (.inl ⟨h0, h1⟩)]
 ·have h0 := of_decide_eq_true h0
  exact decide_eq_false (by omega)
 ·have h0 := of_decide_eq_true h0
  have h1 := of_decide_eq_false h1
  rw [itemOk, decide_eq_false (by omega)]
 ·have h0 := of_decide_eq_false h0
  exact decide_eq_true (by omega)
 ·have h0 := of_decide_eq_false h0
  omega
def cutN (cut : Int → Int → Bool) : List Int → Nat
 | [] => 0
 | [_] => 1
 | x :: y :: r => if cut x y = true then 1 else cutN cut (y :: r) + 1
theorem cutN_le (cut : Int → Int → Bool) : ∀ l, cutN cut l ≤ l.length
 | [] => Nat.le_refl _
 | [_] => Nat.le_refl _
 | x :: y :: r => by
  have := cutN_le cut (y :: r)
  rw [cutN]
  split
  ·simp
  ·simp at this ⊢; omega
theorem cutN_pos (cut : Int → Int → Bool) {l : List Int} (h : l ≠ []) : 1 ≤ cutN cut l := by
 match l, h with
 | [_], _ => exact Nat.le_refl _
 | x :: y :: r, _ =>
  rw [cutN]
  split <;> omega
theorem chop_cutN (cut : Int → Int → Bool) : ∀ {l : List Int}, l ≠ [] → chop cut l = l.take (cutN cut l) :: chop cut (l.drop (cutN cut l))
 | [_], _ => rfl
 | x :: y :: r, _ => by
  rw [chop, cutN]
  split
  ·rfl
  ·rw [chop_cutN cut (l := y :: r) (by simp)]
   rfl
theorem cutN_of {cut : Int → Int → Bool} : ∀ {l : List Int} {n : Nat}, 1 ≤ n → n ≤ l.length → (∀ j, j + 1 < n → ∀ a b, l[j]? = some a → l[j + 1]? = some b → cut a b = false) → (n = l.length ∨ ∃ a b, l[n - 1]? = some a ∧ l[n]? = some b ∧ cut a b = true) → cutN cut l = n
 | [], n, h1, h2, _, _ => by simp at h2; omega
 | [x], n, h1, h2, _, _ => by simp at h2; rw [cutN]; omega
 | x :: y :: r, n, h1, h2, h3, h4 => by
  rw [cutN]
  by_cases hn : n = 1
  ·subst hn
   rcases h4 with h4 | ⟨a, b, ha, hb, hc⟩
   ·simp at h4
   ·simp at ha hb
    subst ha hb
    rw [if_pos hc]
  ·have hc := h3 0 (by omega) x y rfl rfl
   rw [if_neg (by rw [hc]; decide)]
   have := cutN_of (cut := cut) (l := y :: r) (n := n - 1) (by omega) (by simp at h2 ⊢; omega) (fun j hj a b ha hb => h3 (j + 1) (by omega) a b (by simpa using ha) (by simpa using hb)) (by
    rcases h4 with h4 | ⟨a, b, ha, hb, hc⟩
    ·exact .inl (by simp at h4 ⊢; omega)
    ·refine .inr ⟨a, b, ?_, ?_, hc⟩
     ·rw [show n - 1 = (n - 1 - 1) + 1 by omega] at ha
      simpa using ha
     ·rw [show n = (n - 1) + 1 by omega] at hb
      simpa using hb)
   omega
theorem encCut_spec (w : World) (v : Nat) (c : Array Value) (tp bp mp : Nat) (h : VBlk w v c tp bp mp) (s : SpecV) (T : List Ent) (hB : BdIs w bp s.classes s.joins) (hcl : ∀ c ∈ s.classes, classOk c = true) (A : Option Addr) (C : Nat) (items : List Int) (hr : Rw encInt 1 w A items) (hne : items ≠ []) (hl : items.length ≤ 1000000) (hok : ∀ x ∈ items, x < 256) :
  CP 220 #[.pointer (some ⟨v, 0, none⟩), .slice A items.length C] w fun e w' => e = .returned (.int .i64 ((cutN (vocOf s T).cut items : Nat) : Int)) ∧ Below w.heap.size w w' := by
 refine calls_ret (vc220_calls (some ⟨v, 0, none⟩) A items.length C w (fun u w' => u = .int .i64 ((cutN (vocOf s T).cut items : Nat) : Int) ∧ Below w.heap.size w w') ?_) (by rintro v w' ⟨rfl, h⟩; exact ⟨rfl, h⟩)
 have hpos : 0 < items.length := List.length_pos_iff.2 hne
 obtain ⟨p, hp, c0⟩ := cell_rw hr hpos rfl
 have out : ∀ (n : Nat) (q : World), Below w.heap.size w q → 1 ≤ n → n ≤ items.length → (∀ j, j + 1 < n → ∀ a b, items[j]? = some a → items[j + 1]? = some b → (vocOf s T).cut a b = false) → (n = items.length ∨ ∃ a b, items[n - 1]? = some a ∧ items[n]? = some b ∧ (vocOf s T).cut a b = true) → Value.int .i64 (n : Int) = .int .i64 ((cutN (vocOf s T).cut items : Nat) : Int) ∧ Below w.heap.size w q := fun n q hq h1 h2 h3 h4 => ⟨by rw [cutN_of h1 h2 h3 h4], hq⟩
 refine NilC.mk p hp ⟨by decide, by omega, _, c0, CondP.mk (fun h0 => ?_) fun h0 => ?_⟩
 ·have h0 := of_decide_eq_true h0
  refine out 1 w (Below.refl _ _) (Nat.le_refl _) hpos (fun j hj => by omega) ?_
  by_cases e : items.length = 1
  ·exact .inl e.symm
  ·refine .inr ⟨items[0], items[1], List.getElem?_eq_getElem hpos, List.getElem?_eq_getElem (by omega), ?_⟩
   unfold Voc.cut
   rw [decide_eq_true h0]
   rfl
 ·have h0 := of_decide_eq_false h0
  intro I hI
  have key := climb2 (α := World) (items.length - 1) (fun i q => (∀ (j : Nat) (hj : j < items.length), j ≤ i → 0 ≤ items[j]) ∧ (∀ j, j + 1 < i + 1 → ∀ a b, items[j]? = some a → items[j + 1]? = some b → (vocOf s T).cut a b = false) ∧ Below w.heap.size w q) (fun i q => ∀ y4, I [.int .i64 ((i + 1 : Nat) : Int), .int .i64 y4] q) w ⟨fun j hj hj0 => by obtain rfl : j = 0 := (by omega); omega, fun j hj => by omega, Below.refl _ _⟩ ?_ ?_
  ·exact key _
  ·rintro i hi ih q ⟨hnn, hnc, hq⟩ y4
   refine hI _ y4 q (CondP.yes (decide_eq_true (by omega)) ?_)
   intro q1 hq1
   have hq1' := below_then hq (show Below q.heap.size q q1 by subst hq1; exact drew_on q)
   obtain ⟨p1, hp1, c1⟩ := cell_rw (hr.on hq1') (show i + 1 < items.length by omega) rfl
   obtain ⟨p2, hp2, c2⟩ := cell_rw (hr.on hq1') (show i < items.length by omega) rfl
   refine NilC.mk p1 hp1 ⟨by omega, by omega, _, c1, CondP.mk (fun hneg => ?_) fun hneg => ?_⟩
   ·have hneg := of_decide_eq_true hneg
    refine out (i + 1) q1 hq1' (by omega) (by omega) hnc (.inr ⟨items[i], items[i + 1], List.getElem?_eq_getElem (by omega), List.getElem?_eq_getElem (by omega), ?_⟩)
    unfold Voc.cut
    rw [decide_eq_true hneg]
    simp
   ·have hneg := of_decide_eq_false hneg
    have ha := hnn i (by omega) (Nat.le_refl _)
    have ha2 := hok _ (List.getElem_mem (show i < items.length by omega))
    have hb2 := hok _ (List.getElem_mem (show i + 1 < items.length by omega))
    have wa : IntKind.wrap .u8 items[i] = items[i] := wrap_in (by show (0 : Int) ≤ _; omega) (by show _ ≤ (255 : Int); omega)
    have wb : IntKind.wrap .u8 items[i + 1] = items[i + 1] := wrap_in (by show (0 : Int) ≤ _; omega) (by show _ ≤ (255 : Int); omega)
    refine Ar.nat i (by omega) (by omega) (NilC.mk p2 hp2 ⟨by omega, by omega, _, c2, NilC.mk p1 hp1 ⟨by omega, by omega, _, c1, (vocBounds_spec (h.on hq1')).mono ?_⟩⟩)
    rintro e q2 ⟨rfl, hw⟩
    subst q2
    refine ⟨_, rfl, ⟨c1, trivial⟩, ⟨c2, trivial⟩, ?_⟩
    rw [wa, wb]
    refine (cuts_spec q1 bp s.classes s.joins (hB.on hq1') hcl _ _ ⟨ha, ha2⟩ ⟨by omega, hb2⟩).mono ?_
    rintro e q3 ⟨rfl, b3⟩
    have hq3 := below_then hq1' b3
    have hcut : (vocOf s T).cut items[i] items[i + 1] = cutB s.classes s.joins items[i] items[i + 1] := by
     unfold Voc.cut
     rw [decide_eq_false (by omega), decide_eq_false (by omega)]
     rfl
    refine ⟨_, rfl, CondP.mk (fun hc => ?_) fun hc => ?_⟩
    ·exact out (i + 1) q3 hq3 (by omega) (by omega) hnc (.inr ⟨items[i], items[i + 1], List.getElem?_eq_getElem (by omega), List.getElem?_eq_getElem (by omega), by rw [hcut]; exact hc⟩)
    ·refine Ar.nat (i + 1 + 1) rfl (by omega) (ih q3 ⟨fun j hj hji => ?_, fun j hj a b h1 h2 => ?_, hq3⟩ _)
     ·by_cases e : j = i + 1
      ·subst e; omega
      ·exact hnn j hj (by omega)
     ·by_cases e : j = i
      ·subst e
       rw [List.getElem?_eq_getElem (by omega)] at h1 h2
       cases h1
       cases h2
       rw [hcut]
       exact hc
      ·exact hnc j (by omega) a b h1 h2
  ·rintro q ⟨hnn, hnc, hq⟩ y4
   refine hI _ y4 q (CondP.no (decide_eq_false (by omega)) (out items.length q hq hpos (Nat.le_refl _) (fun j hj => hnc j (by omega)) (.inl rfl)))
theorem run_makeB0 (w : World) (c : Nat) (hc : c ≤ 1000000) : ∃ w1, (Instr.makeSlice tBytes (.int .i64 0) (.int .i64 (c : Int))).run Tryz.prog w = .ok (.slice (some (nb w)) 0 c) w1 ∧ w1.ownsRow w.heap.size tU8 1 (.slice (some (nb w)) 0 c) 0 (([] : List UInt8).flatMap encU8) ∧ Below w.heap.size w w1 := by
 have h : (Tryz.prog.info? tU8).map (fun i => (i.zero, i.size, i.bytes)) = some (some (.int .u8 0), 1, 1) := by kernel_rfl
 obtain ⟨i, hi, he⟩ := Option.map_eq_some_iff.1 h
 simp only [Prod.mk.injEq] at he
 obtain ⟨hz, hs, hb⟩ := he
 have := Go.run_make (P := Tryz.prog) w tBytes tU8 i (.int .u8 0) (by kernel_rfl) hi hz .i64 .i64 0 (c : Int) (by omega) (by omega) (by rw [hb]; omega) (by omega)
 refine ⟨_, this, ?_, below_alloc _ _⟩
 refine ⟨rfl, .inr ⟨w.heap.size, c, _, rfl, Nat.le_refl _, alloc_new _ _, Nat.zero_le _, by unfold maxLen; omega, ?_, by simp⟩⟩
 rw [size_madeCells, hs]
 simp
def toBs (l : List Int) : Bs := l.map fun x => UInt8.ofNat x.toNat
theorem toBs_ints {l : List Int} (h : ∀ x ∈ l, 0 ≤ x ∧ x < 256) : ints (toBs l) = l := by
 unfold ints toBs
 rw [List.map_map]
 conv => rhs; rw [← List.map_id l]
 apply List.map_congr_left
 intro x hx
 obtain ⟨h1, h2⟩ := h x hx
 show ((UInt8.ofNat x.toNat).toNat : Int) = x
 rw [UInt8.toNat_ofNat']
 omega
theorem one_u8 {x : Int} (h : 0 ≤ x ∧ x < 256) : (#[Value.int .u8 (IntKind.wrap .u8 x)] : Array Value) = (encU8 (UInt8.ofNat x.toNat)).toArray := by
 rw [wrap_in (by show (0 : Int) ≤ _; omega) (by show _ ≤ (255 : Int); omega)]
 unfold encU8
 rw [UInt8.toNat_ofNat', show ((x.toNat % 2 ^ 8 : Nat) : Int) = x by omega]
theorem encText_spec (w : World) (A : Option Addr) (C : Nat) (items : List Int) (hr : Rw encInt 1 w A items) (hl : items.length ≤ 100000) (hb : ∀ x ∈ items, 0 ≤ x ∧ x < 256) :
  CP 222 #[.slice A items.length C] w fun e w' => e = .returned (.string (str (toBs items))) ∧ Below w.heap.size w w' := by
 refine calls_ret (vc222_calls A items.length C w (fun u w' => u = .string (str (toBs items)) ∧ Below w.heap.size w w') ?_) (by rintro v w' ⟨rfl, h⟩; exact ⟨rfl, h⟩)
 obtain ⟨w1, hr1, o1, b1⟩ := run_makeB0 w items.length (by omega)
 refine ⟨_, _, _, w1, hr1, ?_⟩
 intro I hI
 have key := climb2 (α := Sl × World) items.length (fun i y => y.2.ownsRow w.heap.size tU8 1 y.1.v y.1.n ((toBs (items.take i)).flatMap encU8) ∧ y.1.n = i ∧ Below w.heap.size w y.2) (fun i y => I [.int .i64 (i : Int), y.1.v] y.2) (⟨some (nb w), 0, items.length⟩, w1) ⟨o1, rfl, b1⟩ ?_ ?_
 ·exact key
 ·rintro i hi ih ⟨f, q⟩ ⟨hown, hfn, hB⟩
  change q.ownsRow w.heap.size tU8 1 f.v f.n _ at hown
  change f.n = i at hfn
  change Below w.heap.size w q at hB
  obtain ⟨p, hp, c0⟩ := cell_rw (hr.on hB) hi rfl
  refine hI _ f.a f.n f.c q (CondP.yes (decide_eq_true (by omega)) (NilC.mk p hp ⟨by omega, by omega, _, c0, ?_⟩))
  intro q2 hq2
  rw [one_u8 (hb _ (List.getElem_mem hi))] at hq2
  obtain ⟨f', q3, e1, e2, e3, e4, _⟩ := elU8.push hown (UInt8.ofNat items[i].toNat) hq2 rfl hB.size (by omega) (by decide)
  refine ⟨f'.a, f'.n, f'.c, q3, e2, Ar.nat (i + 1) rfl (by omega) (ih (f', q3) ⟨?_, by show f'.n = i + 1; omega, e4 _ hB⟩)⟩
  have e : toBs (items.take (i + 1)) = toBs (items.take i) ++ [UInt8.ofNat items[i].toNat] := by
   unfold toBs
   rw [List.take_add_one, List.getElem?_eq_getElem hi, List.map_append]
   rfl
  rw [e]
  exact e3
 ·rintro ⟨f, q⟩ ⟨hown, hfn, hB⟩
  change q.ownsRow w.heap.size tU8 1 f.v f.n _ at hown
  rw [List.take_length] at hown
  exact hI _ f.a f.n f.c q (CondP.no (decide_eq_false (by omega)) ⟨_, q, run_str_own (P := Tryz.prog) undBytes undU8 undStr (by rw [← u8_cells]; exact hown), rfl, hB⟩)
theorem encP_cons (V : Voc) (x : Int) (r : List Int) : V.encP (x :: r) = if x < 0 then [V.sp.getD (-1 - x).toNat 0] else after V.ms V.ms.length (x :: r) := rfl
def PieceOk (s : SpecV) (p : List Int) : Prop := (∃ x, p = [x] ∧ x < 0 ∧ -(s.specials.length : Int) ≤ x) ∨ (p ≠ [] ∧ ∀ x ∈ p, 0 ≤ x ∧ x < 256)
theorem encPiece_spec (w : World) (v : Nat) (c : Array Value) (tp bp mp : Nat) (h : VBlk w v c tp bp mp) (s : SpecV) (T : List Ent) (x : SpecW) (hP : VocParts w s T x tp bp mp) (A : Option Addr) (C : Nat) (p : List Int) (hr : Rw encInt 1 w A p) (hp : PieceOk s p) (hl : p.length ≤ 100000) :
  CP 186 #[.pointer (some ⟨v, 0, none⟩), .slice A p.length C] w fun e w' => ∃ l : Sl, e = .returned l.v ∧ l.n = ((vocOf s T).encP p).length ∧ w'.ownsRow w.heap.size tInt 1 l.v l.n (((vocOf s T).encP p).flatMap encInt) ∧ Below w.heap.size w w' := by
 refine calls_ret (vc186_calls (some ⟨v, 0, none⟩) A p.length C w (fun u w' => ∃ l : Sl, u = l.v ∧ l.n = ((vocOf s T).encP p).length ∧ w'.ownsRow w.heap.size tInt 1 l.v l.n (((vocOf s T).encP p).flatMap encInt) ∧ Below w.heap.size w w') ?_) (by rintro v w' ⟨l, rfl, h⟩; exact ⟨l, rfl, h⟩)
 have hne : 0 < p.length := by
  rcases hp with ⟨x, rfl, _⟩ | ⟨h, _⟩
  ·exact Nat.succ_pos _
  ·exact List.length_pos_iff.2 h
 obtain ⟨a, ha, c0⟩ := cell_rw hr hne rfl
 refine NilC.mk a ha ⟨by decide, by omega, _, c0, CondP.mk (fun h0 => ?_) fun h0 => ?_⟩
 ·have h0 := of_decide_eq_true h0
  rcases hp with ⟨y, rfl, hy, hy2⟩ | ⟨_, hb⟩
  ·intro w1 hw1
   have b1 : Below w.heap.size w w1 := by subst hw1; exact drew_on w
   obtain ⟨a1, ha1, c1⟩ := cell_rw (hr.on b1) hne rfl
   have hfew := hP.few
   refine NilC.mk a1 ha1 ⟨by decide, by simp, _, c1, (vocMarks_spec (h.on b1)).mono ?_⟩
   rintro e w2 ⟨rfl, hw⟩
   subst w2
   refine ⟨_, rfl, ⟨c1, trivial⟩, (markId_spec w1 mp s.specials (hP.on b1).marks (by omega) _ (by show -1000000000000 ≤ y; omega)).mono ?_⟩
   rintro e w3 ⟨rfl, b3⟩
   refine ⟨_, _, rfl, ?_⟩
   intro w4 hw4
   have b4 : Below w3.heap.size w3 w4 := by subst hw4; exact below_alloc _ _
   have hb := below_then (below_then b1 b3) b4
   have eP : (vocOf s T).encP [y] = [((markAt s.specials y).map (·.1)).getD 0] := by
    rw [encP_cons, if_pos hy, markAt, if_pos hy]
    show [(s.specials.map (·.1)).getD (-1 - y).toNat 0] = _
    rw [List.getD, List.getElem?_map]
   refine ⟨⟨some (nb w3), 1, 1⟩, rfl, by rw [eP]; rfl, ?_, hb⟩
   rw [eP]
   have hz := (below_then b1 b3).size
   subst hw4
   exact ⟨rfl, .inr ⟨w3.heap.size, 1, _, rfl, hz, alloc_new _ _, Nat.le_refl _, by unfold maxLen; omega, rfl, rfl⟩⟩
  ·exact absurd (hb _ (List.getElem_mem hne)).1 (by omega)
 ·have h0 := of_decide_eq_false h0
  rcases hp with ⟨y, rfl, hy, _⟩ | ⟨hne2, hb⟩
  ·exact absurd hy h0
  ·refine (vocTable_spec h).mono ?_
   rintro e w2 ⟨rfl, hw⟩
   subst w2
   refine ⟨_, rfl, (encText_spec w A C p hr hl hb).mono ?_⟩
   rintro e w3 ⟨rfl, b3⟩
   have hP3 := hP.on b3
   have hgood := good_of hP.ok
   refine ⟨_, rfl, (encode_spec w3 tp T hP3.tab hP3.ok.sound hP3.ok.pos (toBs p) (by unfold toBs; rw [List.length_map]; exact hl)).mono ?_⟩
   rintro e w4 ⟨A4, n4, C4, rfl, ho, hn, b4⟩
   have eP : encAll T (toBs p) = (vocOf s T).encP p := by
    rw [encAll_after hP.ok, toBs_ints hb]
    match p, hne2, hb with
    | y :: r, _, hb =>
     rw [encP_cons, if_neg (by have := (hb y List.mem_cons_self).1; omega)]
     rfl
   rw [eP] at ho hn
   exact ⟨_, _, _, rfl, ⟨A4, n4, C4⟩, rfl, hn, own_base ho b3.size, below_then b3 b4⟩
theorem rangeFunc_state {α : Type} {P : Program} {g : Operand} {ps : Array Tmp} {assign body : Code} {Q : Exit → Act → World → Prop} {a : Act} {w : World} {n : Nat}
  {gf : Nat} {lb : Array Value} (hg : a.eval g = .func (.func gf) #[] lb) (eg : ∀ args w, (callFunc gf args).run P w = .ok (.enter gf args) w)
  {encs : α → Array Value} (x0 : α) (last : α → Prop) (hps : ∀ i, (encs i).size = ps.size)
  (R R' : α → World → Prop) (hRp : ∀ i W k o o', R i W → w.heap.size ≤ k → W.heap[k]? = some o → o.isCells = false → R i (W.putObj k o'))
  (hRp' : ∀ i W k o o', R' i W → w.heap.size ≤ k → W.heap[k]? = some o → o.isCells = false → R' i (W.putObj k o'))
  (h0 : ∀ o o', R x0 ((w.alloc o).alloc o'))
  (hseq : ∀ (l : Nat) (W : World) (Keep : World → Prop), (∀ W W', Keep W → KeepsOthers W W' → Keep W') →
   (∀ i W1, ¬ last i → R i W1 → Keep W1 → YieldAt Fence.wide 0 P l (encs i) W1 fun e W' => e = .returned (.bool true) ∧ R' i W' ∧ Keep W') → R x0 W → Keep W →
   CallsIn Fence.wide 0 P gf (#[.func (.yield l) #[] #[]] ++ lb) W fun e W' => (∃ v, e = .returned v) ∧ (∃ x, last x ∧ R x W') ∧ Keep W')
  (a₁ : α → Act)
  (hassign : ∀ (l : Nat) (i : α) (W : World) (K : Act → World → Prop), K (a₁ i) W →
   assign.wpIn (Fence.wide.inRound l) 0 P (Exit.then K (fun _ _ _ => False)) { tmps := (ps.zip (encs i)).foldl (fun t (p, v) => t.setIfInBounds p v) a.tmps, defers := [] } W)
  (hbody : ∀ (l : Nat) (i : α) (W : World), ¬ last i → R i W → body.wpIn (Fence.wide.inRound l) 0 P (fun e _ W' => e = .normal ∧ KeepsOthers W W' ∧ R' i W') (a₁ i) W)
  (hdone : ∀ (D : Nat) (x : α) (W : World), w.heap.size ≤ D → last x → R x W → W.heap[D]? = some (.deferred (some [])) → Q .normal { a with defers := { target := .collected D, args := #[] } :: a.defers } W) :
  (Code.rangeFunc g ps assign body).wpIn Fence.wide 0 P Q a w := by
 refine wpIn_rangeFunc ?_
 intro fn hfn
 obtain ⟨rec, hrec⟩ : ∃ rec : LoopState → Loop, rec = fun st => { state := st, pending := none, fn, tmps := a.tmps, params := ps, assign, body, defers := w.heap.size } := ⟨_, rfl⟩
 obtain ⟨W1, hW1⟩ : ∃ W1, (w.alloc (.deferred (some []))).alloc (.loop (rec .ready)) = W1 := ⟨_, rfl⟩
 have hL1 : W1.heap[w.heap.size + 1]? = some (.loop (rec .ready)) := by
  rw [← hW1]
  have := World.alloc_heap_new (w.alloc (.deferred (some []))) (.loop (rec .ready))
  rwa [World.size_alloc] at this
 have hK1 : W1.heap[w.heap.size]? = some (.deferred (some [])) := by
  rw [← hW1]
  exact (Below.heap_alloc _ _ _ (by simp)).trans (World.alloc_heap_new w _)
 refine ⟨w.heap.size + 1, [{ target := .collected w.heap.size, args := #[] }], W1, { target := .fn (.func gf) lb, args := #[.func (.yield (w.heap.size + 1)) #[] #[]] }, W1, gf,
  #[.func (.yield (w.heap.size + 1)) #[] #[]] ++ lb, W1, ?_, ?_, ?_, ?_, fun h => (by cases h), ?_⟩
 ·rw [← hW1, hrec]
  exact run_enterLoop_outer _ _ _ _ _
 ·simp only [resolve, hg]
  simp [go_sem]
 ·intro f' _
  trivial
 ·simp [invoke, go_sem, eg]
 ·refine (hseq (w.heap.size + 1) W1 (fun W => W.heap[w.heap.size + 1]? = some (.loop (rec .ready)) ∧ W.heap[w.heap.size]? = some (.deferred (some [])))
   (fun W W' h k => ⟨k.same _ _ h.1 rfl, k.same _ _ h.2 rfl⟩) ?_ (by rw [← hW1]; exact h0 _ _) ⟨hL1, hK1⟩).mono ?_
  ·rintro i W hi hr ⟨hl, hk⟩
   have hlt : w.heap.size + 1 < W.heap.size := (Array.getElem?_eq_some_iff.1 hl).1
   have hy := run_yield (P := P) (args := encs i) hl (by rw [hrec]; exact hps i)
   rw [hrec] at hy
   refine ⟨fn, _, assign, body, hy, roundIn_of_wpIn hfn (hassign _ i W _ ⟨_, run_beginRound hl (by rw [hrec]), ?_⟩)⟩
   have hl2 : (W.putObj (w.heap.size + 1) (.loop { rec .ready with state := .busy })).heap[w.heap.size + 1]? = some (.loop { rec .ready with state := .busy }) := World.putObj_heap_same hlt
   have hk2 : (W.putObj (w.heap.size + 1) (.loop { rec .ready with state := .busy })).heap[w.heap.size]? = some (.deferred (some [])) := (World.putObj_heap_other (by omega)).trans hk
   refine wpIn_mono (hbody _ i _ hi (hRp _ _ _ _ _ hr (by omega) hl rfl)) ?_
   rintro e a3 W3 ⟨rfl, hk3, hr3⟩
   have hl3 := hk3.same _ _ hl2 rfl
   refine ⟨_, _, run_endRound none hl3, rfl, hRp' _ _ _ _ _ hr3 (by omega) hl3 rfl, ?_, (World.putObj_heap_other (by omega)).trans (hk3.same _ _ hk2 rfl)⟩
   rw [hrec]
   exact World.putObj_heap_same (Array.getElem?_eq_some_iff.1 hl3).1
  ·rintro e W2 ⟨⟨v, rfl⟩, ⟨x, hx, hr⟩, hl, hk⟩
   have he := run_endLoop (P := P) hl (by rw [hrec]; simp)
   rw [hrec] at he
   exact ⟨none, _, he, hdone _ x _ (Nat.le_refl _) hx (hRp _ _ _ _ _ hr (by omega) hl rfl) ((World.putObj_heap_other (by omega)).trans hk)⟩
open Go Go.RowKit Go.Shelf
attribute [local go_sem] Oper.semAt_some
abbrev Pl := Nat × Sl
def nextPl (k : Nat) (x : Pl) : Pl := (x.1 + k, ⟨slBase x.2.a k x.2.c 1, x.2.n - k, x.2.c - k⟩)
structure RestIs (w : World) (v tp bp mp Bi Bv : Nat) (c : Array Value) (s : SpecV) (items : List Int) (x : Pl) : Prop where
 box : w.heap[Bi]? = some (.cells #[x.2.v] tInts (0, 0))
 vbox : w.heap[Bv]? = some (.cells #[.pointer (some ⟨v, 0, none⟩)] 31 (0, 0))
 blk : VBlk w v c tp bp mp
 bd : BdIs w bp s.classes s.joins
 row : Rw encInt 1 w x.2.a (items.drop x.1)
 len : x.2.n = (items.drop x.1).length
 cap : x.2.n ≤ x.2.c
set_option maxHeartbeats 2000000 in
theorem pieces1_spec (v tp bp mp Bi Bv : Nat) (c : Array Value) (s : SpecV) (T : List Ent) (hcl : ∀ c ∈ s.classes, classOk c = true) (items : List Int) (hl : items.length ≤ 1000000) (hok : ∀ x ∈ items, x < 256)
  (l : Nat) (R R' : Pl → World → Prop) (Keep : World → Prop) (hK : ∀ W W', Keep W → KeepsOthers W W' → Keep W')
  (hR : ∀ x W, R x W → RestIs W v tp bp mp Bi Bv c s items x)
  (hRb : ∀ x W W', R x W → Below W.heap.size W W' → R x W')
  (hR' : ∀ x W, R' x W → W.heap[Bi]? = some (.cells #[x.2.v] tInts (0, 0)))
  (hRn : ∀ x W k, k = cutN (vocOf s T).cut (items.drop x.1) → R' x W → R (nextPl k x) (W.setCell ⟨Bi, 0, none⟩ (nextPl k x).2.v))
  (hY : ∀ x W1 k, k = cutN (vocOf s T).cut (items.drop x.1) → R x W1 → x.2.n ≠ 0 → Keep W1 → YieldAt Fence.wide 0 Tryz.prog l #[.slice x.2.a k k] W1 fun e W' => e = .returned (.bool true) ∧ R' x W' ∧ Keep W')
  (x0 : Pl) (W : World) (h0 : R x0 W) (hk0 : Keep W) :
  CallsIn Fence.wide 0 Tryz.prog 219 #[.func (.yield l) #[] #[], .pointer (some ⟨Bi, 0, none⟩), .pointer (some ⟨Bv, 0, none⟩)] W fun e W' => (∃ v, e = .returned v) ∧ (∃ x : Pl, x.2.n = 0 ∧ R x W') ∧ Keep W' := by
 refine callsIn_of_wp Tryz.func219 rfl trivial ?_ rfl
 simp only [Tryz.ntmps219, List.size_toArray, List.length_cons, List.length_nil, Nat.reduceAdd, Nat.reduceSub, Array.replicate_succ, Array.replicate_zero, List.push_toArray, List.append_toArray, List.nil_append, List.cons_append]
 gi_wp2
 gi_loopw [4] (fun _ wr => ∃ x : Pl, R x wr ∧ Keep wr) (fun _ wr => match wr.cell? ⟨Bi, 0, none⟩ with | some (.slice _ n _) => n | _ => 0)
 case atStart => exact ⟨x0, h0, hk0⟩
 case round =>
  obtain ⟨x, hx, hk⟩ := hrel
  have hI := hR x wr hx
  obtain ⟨i, ⟨a, n, cp⟩⟩ := x
  have hb1 : wr.cell? ⟨Bi, 0, none⟩ = some (.slice a n cp) := by simp [World.cell?, hI.box, Sl.v]
  have hb2 : wr.cell? ⟨Bv, 0, none⟩ = some (.pointer (some ⟨v, 0, none⟩)) := by simp [World.cell?, hI.vbox]
  by_cases hn : n = 0
  ·subst hn
   gi_wp2
   go_end0
   exact ⟨⟨_, rfl⟩, ⟨_, rfl, hx⟩, hk⟩
  ·have hlen : (items.drop i).length = n := hI.len.symm
   have hn0 : 0 < n := by omega
   obtain ⟨k, hkk⟩ : ∃ k, cutN (vocOf s T).cut (items.drop i) = k := ⟨_, rfl⟩
   have hne : items.drop i ≠ [] := fun e => hn (by rw [← hlen, e]; rfl)
   have hk1 := cutN_pos (vocOf s T).cut hne
   have hk2 := cutN_le (vocOf s T).cut (items.drop i)
   have hcap : n ≤ cp := hI.cap
   have hnl : n ≤ 1000000 := by rw [← hlen, List.length_drop]; omega
   rw [hkk] at hk1
   rw [hkk, hlen] at hk2
   have hc := encCut_spec wr v c tp bp mp hI.blk s T hI.bd hcl a cp (items.drop i) hI.row hne (by omega) (fun x hx => hok x (List.mem_of_mem_drop hx))
   rw [hkk, hlen] at hc
   have hc := (callsIn_wide (n := 0)).2 hc
   gi_wp2
   refine ⟨trivial, rfl, ?_⟩
   refine CallsIn.mono hc ?_
   rintro e w1 ⟨rfl, b1⟩
   have hx1 := hRb _ _ _ hx b1
   have hI1 := hR _ _ hx1
   have hkp1 := hK _ _ hk (KeepsOthers.of_grownBy (row := none) ⟨b1.os, b1.tape, b1.output, b1.size, fun j hj _ => b1.block j hj⟩ (fun j o e => by cases e))
   have hb0 := hb1
   have hb1 : w1.cell? ⟨Bi, 0, none⟩ = some (.slice a n cp) := by simp [World.cell?, hI1.box, Sl.v]
   obtain ⟨fn, tmps, assign, body, hy, hRd⟩ := hY _ w1 k hkk.symm hx1 hn hkp1
   dsimp only at hy
   gi_wp2
   refine ⟨rfl, hRd.mono ?_⟩
   rintro e W3 ⟨rfl, hR3, hk3⟩
   have hb3 := hR' _ _ hR3
   have hc3 : W3.cell? ⟨Bi, 0, none⟩ = some (.slice a n cp) := by simp [World.cell?, hb3, Sl.v]
   have hf3 : W3.frozen? ⟨Bi, 0, none⟩ = false := by simp [World.frozen?, hb3]
   gi_wp2
   have hR4 := hRn _ _ k hkk.symm hR3
   have hk4 := hK _ _ hk3 (KeepsOthers.setCell W3 ⟨Bi, 0, none⟩ (nextPl k (i, ⟨a, n, cp⟩)).2.v)
   have e4 : (nextPl k (i, ⟨a, n, cp⟩)).2.v = Value.slice (if cp = k then a else Option.map (fun x => x.add k) a) (n - k) (cp - k) := by
    unfold nextPl slBase Sl.v
    dsimp only
    rw [Nat.mul_one]
   rw [e4] at hR4 hk4
   refine ⟨⟨_, hR4, hk4⟩, ?_⟩
   obtain ⟨b', hb'⟩ : ∃ b', Value.slice b' (n - k) (cp - k) = Value.slice (if cp = k then a else Option.map (fun x => x.add k) a) (n - k) (cp - k) := ⟨_, rfl⟩
   rw [← hb', World.cell?_setCell_same' _ _ _ (by rw [hc3]; rfl), hb0]
   show n - k < n
   omega
theorem encP_len (V : Voc) (p : List Int) : (V.encP p).length ≤ p.length := by
 cases p with
 | nil => exact Nat.le_refl _
 | cons x r =>
  rw [encP_cons]
  split
  ·simp
  ·exact after_len V.ms (x :: r) _ (Nat.le_refl _)
theorem encode_short (V : Voc) (Z : List Int) : (V.encode Z).length ≤ Z.length := by
 have := flat_len (f := V.encP) (encP_len V) (chop V.cut Z)
 rw [(chop_is Z).2] at this
 exact this
theorem encode_cut (V : Voc) {l : List Int} (hne : l ≠ []) : V.encode l = V.encP (l.take (cutN V.cut l)) ++ V.encode (l.drop (cutN V.cut l)) := by
 unfold Voc.encode
 rw [chop_cutN _ hne, List.flatMap_cons]
theorem uncut_bytes {V : Voc} : ∀ {x y : Int} {r : List Int}, Uncut V.cut (x :: y :: r) → ∀ z ∈ x :: y :: r, 0 ≤ z
 | x, y, [], ⟨h, _⟩, z, hz => by
  unfold Voc.cut at h
  simp at h hz
  rcases hz with rfl | rfl <;> omega
 | x, y, u :: r, ⟨h, h2⟩, z, hz => by
  have ih := uncut_bytes (V := V) h2
  rcases List.mem_cons.1 hz with rfl | hz
  ·unfold Voc.cut at h
   simp at h
   omega
  ·exact ih z hz
theorem piece_ok {s : SpecV} {T : List Ent} {l : List Int} (hne : l ≠ []) (hok : ∀ x ∈ l, itemOk s x = true) : PieceOk s (l.take (cutN (vocOf s T).cut l)) := by
 have hc := (chop_is (cut := (vocOf s T).cut) l).1
 rw [chop_cutN _ hne] at hc
 obtain ⟨h1, h2⟩ := hc.head
 have hmem : ∀ x ∈ l.take (cutN (vocOf s T).cut l), itemOk s x = true := fun x hx => hok x (List.mem_of_mem_take hx)
 revert h1 h2 hmem
 generalize l.take (cutN (vocOf s T).cut l) = p
 intro h1 h2 hmem
 match p, h1 with
 | [x], _ =>
  have := hmem x List.mem_cons_self
  unfold itemOk at this
  have := of_decide_eq_true this
  rcases this with h | h
  ·exact .inr ⟨by simp, fun y hy => by simp at hy; subst hy; exact h⟩
  ·exact .inl ⟨x, rfl, h.1, h.2⟩
 | x :: y :: r, _ =>
  refine .inr ⟨by simp, fun z hz => ?_⟩
  have h0 := uncut_bytes (V := vocOf s T) h2 z hz
  have := hmem z hz
  unfold itemOk at this
  have := of_decide_eq_true this
  omega
attribute [local go_sem] Oper.semAt_some
abbrev tVP : TypeId := 31
theorem encPieces_spec (w : World) (v : Option Addr) (A : Option Addr) (N C : Nat) :
  CP 185 #[.pointer v, .slice A N C] w fun e w' => e = .returned (.func (.func 219) #[] #[.pointer (some ⟨w.heap.size + 1, 0, none⟩), .pointer (some ⟨w.heap.size, 0, none⟩)]) ∧ w' = (w.alloc (.cells #[.pointer v] tVP)).alloc (.cells #[.slice A N C] tInts) := by
 refine calls_ret (vc185_calls v A N C w (fun u w' => u = .func (.func 219) #[] #[.pointer (some ⟨w.heap.size + 1, 0, none⟩), .pointer (some ⟨w.heap.size, 0, none⟩)] ∧ w' = (w.alloc (.cells #[.pointer v] tVP)).alloc (.cells #[.slice A N C] tInts)) ?_) (by rintro v w' ⟨rfl, h⟩; exact ⟨rfl, h⟩)
 intro w1 hw1 w2 hw2
 subst hw1 hw2
 refine ⟨?_, rfl⟩
 unfold nb
 rw [World.size_alloc]
structure TkR (w W : World) (v : Nat) (s : SpecV) (T : List Ent) (Z : List Int) (i : Nat) (x : Pl) : Prop where
 vb0 : W.heap[w.heap.size]? = some (.cells #[.pointer (some ⟨v, 0, none⟩)] tVP (0, 0))
 vb : W.heap[w.heap.size + 2]? = some (.cells #[.pointer (some ⟨v, 0, none⟩)] tVP (0, 0))
 bx : W.heap[w.heap.size + 3]? = some (.cells #[x.2.v] tInts (0, 0))
 row : Rw encInt 1 w x.2.a (Z.drop x.1)
 len : x.2.n = (Z.drop x.1).length
 cap : x.2.n ≤ x.2.c
 out : ∃ (ys : List Int) (o : Sl), Boxed W (w.heap.size + 1) tInts o.v ∧ W.ownsRow w.heap.size tInt 1 o.v o.n (ys.flatMap encInt) ∧ ys ++ (vocOf s T).encode (Z.drop i) = (vocOf s T).encode Z
 le : Below w.heap.size w W
theorem TkR.on {w W W' : World} {v : Nat} {s : SpecV} {T : List Ent} {Z : List Int} {i : Nat} {x : Pl} (h : TkR w W v s T Z i x) (hb : Below W.heap.size W W') : TkR w W' v s T Z i x := by
 obtain ⟨ys, o, h1, h2, h3⟩ := h.out
 exact ⟨held_on hb h.vb0, held_on hb h.vb, held_on hb h.bx, h.row, h.len, h.cap, ⟨ys, o, held_on hb h1, own_on h2 hb, h3⟩, below_then h.le hb⟩
theorem TkR.put {w W : World} {v : Nat} {s : SpecV} {T : List Ent} {Z : List Int} {i : Nat} {x : Pl} (h : TkR w W v s T Z i x) {k : Nat} {o o' : Obj} (hk : w.heap.size ≤ k) (ho : W.heap[k]? = some o) (hc : o.isCells = false) : TkR w (W.putObj k o') v s T Z i x := by
 have keep : ∀ {j : Nat} {c : Array Value} {t : TypeId} {f : Nat × Nat}, W.heap[j]? = some (.cells c t f) → (W.putObj k o').heap[j]? = some (.cells c t f) := by
  intro j c t f hj
  rw [World.putObj_heap_other fun e => ?_]
  ·exact hj
  ·subst e
   rw [hj] at ho
   cases ho
   cases hc
 obtain ⟨ys, y, h1, h2, h3⟩ := h.out
 exact ⟨keep h.vb0, keep h.vb, keep h.bx, h.row, h.len, h.cap, ⟨ys, y, keep h1, ownsRow_putObj h2 o' ho hc, h3⟩, h.le.trans ((Below.refl _ W).grown (grownBy_putObj' W k o') h.le.size (fun j e => by cases e; exact hk))⟩
theorem TkR.step {w W : World} {v : Nat} {s : SpecV} {T : List Ent} {Z : List Int} {k : Nat} {x : Pl} (hk : k ≤ (Z.drop x.1).length) (h : TkR w W v s T Z (x.1 + k) x) : TkR w (W.setCell ⟨w.heap.size + 3, 0, none⟩ (nextPl k x).2.v) v s T Z (nextPl k x).1 (nextPl k x) := by
 have hb : Boxed W (w.heap.size + 3) tInts x.2.v := h.bx
 have keep : ∀ {j : Nat} {c : Array Value} {t : TypeId} {f : Nat × Nat}, j ≠ w.heap.size + 3 → W.heap[j]? = some (.cells c t f) → (W.setCell ⟨w.heap.size + 3, 0, none⟩ (nextPl k x).2.v).heap[j]? = some (.cells c t f) := by
  intro j c t f hne hj
  rw [(grownBy_setCell' W (w.heap.size + 3) _).block j (Array.getElem?_eq_some_iff.1 hj).1 (fun e => hne (Option.some.inj e))]
  exact hj
 obtain ⟨ys, y, h1, h2, h3⟩ := h.out
 have hlen := h.len
 have hcap := h.cap
 obtain ⟨i, ⟨a, n, cp⟩⟩ := x
 change n = (Z.drop i).length at hlen
 change n ≤ cp at hcap
 change k ≤ (Z.drop i).length at hk
 refine ⟨keep (by omega) h.vb0, keep (by omega) h.vb, hb.set _, ?_, ?_, ?_, ⟨ys, y, keep (by omega) h1, h2.kept (grownBy_setCell' W _ _) (.inr (hb.not_row (by decide) h2).symm), h3⟩, h.le.trans ((Below.refl _ W).setCell (p := ⟨w.heap.size + 3, 0, none⟩) (by show w.heap.size ≤ w.heap.size + 3; omega) _)⟩
 ·have := h.row.cut k cp (by show (Z.drop i).length ≤ cp; omega)
  rw [List.drop_drop] at this
  exact this
 ·show n - k = (Z.drop (i + k)).length
  rw [List.length_drop] at hlen ⊢
  omega
 ·show n - k ≤ cp - k
  omega
theorem wpIn_append_run {F : Fence} {n : Nat} {P : Program} {o : Oper} {a : Act} {w w' : World} {K : Act → World → Prop} {Q : Exit → Act → World → Prop} (s x : Operand) (t : TypeId)
  (hop : o.op = Op.call { callee := Callee.builtin Builtin.append, args := #[s, x], argTypes := #[t, t] }) {vs vx v' : Value} (hs : a.eval s = vs) (hx : a.eval x = vx)
  (hrun : (Builtin.append_ #[t, t] o.type #[vs, vx]).run P w = .ok v' w') (h : K (a.put o.dst v') w') : Oper.wpIn F n P o a w K Q := by
 unfold Oper.wpIn
 refine ⟨?_, ?_⟩
 ·simp [Oper.about, hop, resolve, Target.leads, Sem.run_pure]
 ·rw [Oper.semAt_plain F _ _ (by rw [hop]; intro c hc'; cases hc')]
  simp [execOp, hop, resolve, invoke, builtin, hs, hx, hrun, Result.andThen]
  exact h
set_option maxHeartbeats 4000000 in
theorem tokens_spec (w : World) (v : Nat) (c : Array Value) (tp bp mp : Nat) (h : VBlk w v c tp bp mp) (s : SpecV) (T : List Ent) (x : SpecW) (hP : VocParts w s T x tp bp mp) (A : Option Addr) (C : Nat) (Z : List Int) (hr : Rw encInt 1 w A Z) (hC : Z.length ≤ C) (hl : Z.length ≤ 100000) (hZ : ∀ y ∈ Z, itemOk s y = true) :
  CP 140 #[.pointer (some ⟨v, 0, none⟩), .slice A Z.length C] w fun e w' => ∃ l : Sl, e = .returned l.v ∧ l.n = ((vocOf s T).encode Z).length ∧ w'.ownsRow w.heap.size tInt 1 l.v l.n (((vocOf s T).encode Z).flatMap encInt) ∧ Below w.heap.size w w' := by
 obtain ⟨N, hN⟩ : ∃ N, Z.length = N := ⟨_, rfl⟩
 rw [hN]
 refine (callsIn_wide (n := 0)).1 ?_
 refine callsIn_of_wp_marks Tryz.func140 rfl trivial ?_ rfl
 simp only [Tryz.ntmps140, List.size_toArray, List.length_cons, List.length_nil, Nat.reduceAdd, Nat.reduceSub, Array.replicate_succ, Array.replicate_zero, List.push_toArray, List.append_toArray, List.nil_append, List.cons_append]
 gi_wp2_with (refine ⟨trivial, rfl, ?_⟩; refine CallsIn.mono (callsIn_wide.2 (encPieces_spec _ _ _ _ _)) ?_; rintro e w' ⟨rfl, rfl⟩)
 obtain ⟨W0, hW0⟩ : ∃ W0, ((((w.alloc (.cells #[.pointer (some ⟨v, 0, none⟩)] tVP)).alloc (.cells #[.slice none 0 0] tInts)).alloc (.cells #[.pointer (some ⟨v, 0, none⟩)] tVP)).alloc (.cells #[.slice A N C] tInts)) = W0 := ⟨_, rfl⟩
 rw [hW0]
 have hz0 : W0.heap.size = w.heap.size + 4 := by rw [← hW0]; simp only [World.size_alloc]
 have hT0 : TkR w W0 v s T Z 0 (0, ⟨A, N, C⟩) := by
  rw [← hW0]
  have e1 := Boxed.new w tVP (.pointer (some ⟨v, 0, none⟩))
  have e2 := Boxed.new (w.alloc (.cells #[.pointer (some ⟨v, 0, none⟩)] tVP)) tInts (.slice none 0 0)
  have e3 := Boxed.new ((w.alloc (.cells #[.pointer (some ⟨v, 0, none⟩)] tVP)).alloc (.cells #[.slice none 0 0] tInts)) tVP (.pointer (some ⟨v, 0, none⟩))
  have e4 := Boxed.new (((w.alloc (.cells #[.pointer (some ⟨v, 0, none⟩)] tVP)).alloc (.cells #[.slice none 0 0] tInts)).alloc (.cells #[.pointer (some ⟨v, 0, none⟩)] tVP)) tInts (.slice A N C)
  simp only [World.size_alloc] at e2 e3 e4
  exact ⟨((e1.alloc _).alloc _).alloc _, e3.alloc _, e4, by rw [List.drop_zero]; exact hr, hN.symm, by show N ≤ C; omega, ⟨[], sl0, (e2.alloc _).alloc _, own_none _ _ _ _ encInt, rfl⟩, ((((Below.refl w.heap.size w).alloc (Nat.le_refl _) _).alloc (by simp only [World.size_alloc]; omega) _).alloc (by simp only [World.size_alloc]; omega) _).alloc (by simp only [World.size_alloc]; omega) _⟩
 have hlt : ∀ y ∈ Z, y < 256 := by
  intro y hy
  have := hZ y hy
  unfold itemOk at this
  have := of_decide_eq_true this
  omega
 have hcl : ∀ c ∈ s.classes, classOk c = true := (right_ok hP.right).1
 obtain ⟨cut, hcut⟩ : ∃ cut, (vocOf s T).cut = cut := ⟨_, rfl⟩
 refine rangeFunc_state (n := 0) (gf := 219) (lb := #[.pointer (some ⟨w.heap.size + 3, 0, none⟩), .pointer (some ⟨w.heap.size + 2, 0, none⟩)]) rfl (enters_of Tryz.func219 (by kernel_rfl) rfl)
  (encs := fun y : Pl => #[.slice y.2.a (cutN cut (Z.drop y.1)) (cutN cut (Z.drop y.1))]) ((0, ⟨A, N, C⟩) : Pl) (fun y : Pl => y.2.n = 0) (fun _ => rfl)
  (fun y W => TkR w W v s T Z y.1 y) (fun y W => TkR w W v s T Z (y.1 + cutN cut (Z.drop y.1)) y)
  (fun y W k o o' hy hk ho hc => hy.put (by omega) ho hc) (fun y W k o o' hy hk ho hc => hy.put (by omega) ho hc)
  (fun o o' => (hT0.on (below_alloc _ _)).on (below_alloc _ _)) ?seq
  (fun y => { tmps := #[.pointer (some ⟨v, 0, none⟩), .slice A N C, .pointer (some ⟨w.heap.size, 0, none⟩), undef, .slice none 0 0, .pointer (some ⟨w.heap.size + 1, 0, none⟩), .slice y.2.a (cutN cut (Z.drop y.1)) (cutN cut (Z.drop y.1)), .pointer (some ⟨v, 0, none⟩), .slice A N C, .func (.func 219) #[] #[.pointer (some ⟨w.heap.size + 1 + 1 + 1, 0, none⟩), .pointer (some ⟨w.heap.size + 1 + 1, 0, none⟩)], .slice y.2.a (cutN cut (Z.drop y.1)) (cutN cut (Z.drop y.1)), undef, undef, undef, undef, undef, undef], defers := [] }) ?assign ?body ?done
 case seq =>
  intro l W Keep hK hY h0 hk0
  refine pieces1_spec v tp bp mp (w.heap.size + 3) (w.heap.size + 2) c s T hcl Z (by omega) hlt l (fun y W => TkR w W v s T Z y.1 y) (fun y W => TkR w W v s T Z (y.1 + cutN cut (Z.drop y.1)) y) Keep hK ?_ ?_ ?_ ?_ ?_ (0, ⟨A, N, C⟩) W h0 hk0
  ·exact fun y W hy => ⟨hy.bx, hy.vb, h.on hy.le, hP.bound.on hy.le, hy.row.on hy.le, hy.len, hy.cap⟩
  ·exact fun y W W' hy hb => hy.on hb
  ·exact fun y W hy => hy.bx
  ·intro y W k hk hy
   rw [← hcut, ← hk] at hy
   exact hy.step (by rw [hk]; exact cutN_le _ _)
  ·intro y W1 k hk hy hn hkp
   have := hY y W1 hn hy hkp
   rw [← hcut] at this
   rw [hk, ← hcut]
   exact this
 case assign =>
  intro l y W K hK
  gi_wp2
  exact hK
 case body =>
  intro l y W hy hR
  obtain ⟨ys, ⟨oa, on, oc⟩, hb, ho, he⟩ := hR.out
  have hc1 : W.cell? ⟨w.heap.size + 1, 0, none⟩ = some (.slice oa on oc) := hb.cell
  have hc2 : W.cell? ⟨w.heap.size, 0, none⟩ = some (.pointer (some ⟨v, 0, none⟩)) := (show Boxed W w.heap.size tVP _ from hR.vb0).cell
  have hmx : Tryz.prog.follows .mixedOrders = true := by kernel_rfl
  obtain ⟨k, hk⟩ : ∃ k, cutN cut (Z.drop y.1) = k := ⟨_, rfl⟩
  have hpc : ∀ q, Below W.heap.size W q → CallsIn (Fence.wide.inRound l) 0 Tryz.prog 186 #[.pointer (some ⟨v, 0, none⟩), .slice y.2.a k k] q fun e q' => ∃ la ln lc, e = .returned (.slice la ln lc) ∧ ln = ((vocOf s T).encP ((Z.drop y.1).take k)).length ∧ q'.ownsRow q.heap.size tInt 1 (.slice la ln lc) ln (((vocOf s T).encP ((Z.drop y.1).take k)).flatMap encInt) ∧ Below q.heap.size q q' := by
   intro q hq
   have hle := hR.le
   have hne : Z.drop y.1 ≠ [] := by
    intro e
    have := hR.len
    rw [e] at this
    exact hy this
   have hk2 : k ≤ (Z.drop y.1).length := by rw [← hk]; exact cutN_le _ _
   have hq' := below_then hle hq
   have hpo := piece_ok (s := s) (T := T) hne (fun z hz => hZ z (List.mem_of_mem_drop hz))
   rw [hcut, hk] at hpo
   have hkl : ((Z.drop y.1).take k).length = k := by rw [List.length_take, Nat.min_eq_left hk2]
   have := encPiece_spec q v c tp bp mp (h.on hq') s T x (hP.on hq') y.2.a k ((Z.drop y.1).take k) ((hR.row.on hq').take k) hpo (by rw [hkl]; rw [List.length_drop] at hk2; omega)
   rw [hkl] at this
   refine CallsIn.inRound l (callsIn_wide.2 (this.mono ?_))
   rintro e q' ⟨r, rfl, h1, h2, h3⟩
   exact ⟨_, _, _, rfl, h1, h2, h3⟩
  rw [hk]
  gi_wp2
  have hd := drew_on W
  have hoD := own_on ho hd
  have hbD : Boxed W.drew (w.heap.size + 1) tInts (.slice oa on oc) := held_on hd hb
  have hc1D : W.drew.cell? ⟨w.heap.size + 1, 0, none⟩ = some (.slice oa on oc) := hbD.cell
  have hc2D : W.drew.cell? ⟨w.heap.size, 0, none⟩ = some (.pointer (some ⟨v, 0, none⟩)) := (show Boxed W.drew w.heap.size tVP _ from held_on hd hR.vb0).cell
  have hys : ys.length ≤ 100000 := by
   have h1 := congrArg List.length he
   rw [List.length_append] at h1
   have h2 := encode_short (vocOf s T) Z
   omega
  have hps : ((vocOf s T).encP ((Z.drop y.1).take k)).length ≤ 100000 := by
   have h1 := encP_len (vocOf s T) ((Z.drop y.1).take k)
   rw [List.length_take, List.length_drop] at h1
   omega
  have hon : on = ys.length := (Rw.of_own (s := ⟨oa, on, oc⟩) ho (fun _ => rfl) (by decide)).2
  have happ : ∀ (W3 : World) (la : Option Addr) (ln lc : Nat), Below W.drew.heap.size W.drew W3 → ln = ((vocOf s T).encP ((Z.drop y.1).take k)).length → W3.ownsRow W.drew.heap.size tInt 1 (.slice la ln lc) ln (((vocOf s T).encP ((Z.drop y.1).take k)).flatMap encInt) →
    ∃ ra rn rc W4, (Builtin.append_ #[tInts, tInts] tInts #[.slice oa on oc, .slice la ln lc]).run Tryz.prog W3 = .ok (.slice ra rn rc) W4 ∧ W4.frozen? ⟨w.heap.size + 1, 0, none⟩ = false ∧ W4.cell? ⟨w.heap.size + 1, 0, none⟩ = some (.slice oa on oc) ∧ KeepsOthers W (W4.setCell ⟨w.heap.size + 1, 0, none⟩ (.slice ra rn rc)) ∧ TkR w (W4.setCell ⟨w.heap.size + 1, 0, none⟩ (.slice ra rn rc)) v s T Z (y.1 + k) y := by
   intro W3 la ln lc hlb hln hlo
   have hle3 : Below w.heap.size w W3 := below_then (below_then hR.le hd) hlb
   have hb3 : Boxed W3 (w.heap.size + 1) tInts (.slice oa on oc) := held_on hlb hbD
   have hb30 : Boxed W3 w.heap.size tVP (.pointer (some ⟨v, 0, none⟩)) := held_on hlb (held_on hd hR.vb0)
   have hb32 : Boxed W3 (w.heap.size + 2) tVP (.pointer (some ⟨v, 0, none⟩)) := held_on hlb (held_on hd hR.vb)
   have hb33 : Boxed W3 (w.heap.size + 3) tInts y.2.v := held_on hlb (held_on hd hR.bx)
   have ho3 : W3.ownsRow w.heap.size tInt 1 (Sl.v ⟨oa, on, oc⟩) on (ys.flatMap encInt) := own_on hoD hlb
   obtain ⟨r, W4, hrn, hrun, ho4, hbel, hkeep, _⟩ := elInt.spread (s := ⟨oa, on, oc⟩) (l := ⟨la, ln, lc⟩) ho3 (LsAt.of_own elInt hlo) hle3.size (by show on ≤ _; omega) (by show ln ≤ _; omega) (by decide)
   have hB34 := hbel W3 (Below.refl _ _)
   have hg4 : W3.grownBy W4 (Sl.v ⟨oa, on, oc⟩).ownBlock := ⟨hB34.os, hB34.tape, hB34.output, hB34.size, fun j hj hne => hkeep j hj fun e => hne e.symm⟩
   have hb4 := hb3.kept hg4 (hb3.not_row (by decide) ho3)
   have hg5 := grownBy_setCell' W4 (w.heap.size + 1) r.v
   have to5 : ∀ {B : Nat} {t : TypeId} {u : Value}, B ≠ w.heap.size + 1 → t ≠ tInt → Boxed W3 B t u → Boxed (W4.setCell ⟨w.heap.size + 1, 0, none⟩ r.v) B t u := fun hB ht hb => (hb.kept hg4 (hb.not_row ht ho3)).kept hg5 (fun e => hB (Option.some.inj e))
   have hne : Z.drop y.1 ≠ [] := by
    intro e
    have := hR.len
    rw [e] at this
    exact hy this
   refine ⟨r.a, r.n, r.c, W4, hrun, hb4.frozen, hb4.cell, ?_, ?_⟩
   ·refine (((KeepsOthers.drew W).trans (KeepsOthers.of_grownBy (row := none) ⟨hlb.os, hlb.tape, hlb.output, hlb.size, fun j hj _ => hlb.block j hj⟩ (fun j o e => by cases e))).trans (KeepsOthers.of_grownBy hg4 fun j o ej hj => ?_)).trans (KeepsOthers.setCell _ _ _)
    rcases ho3.2 with ⟨e0, _⟩ | ⟨g, cap, cur, e0, _, hgb, _⟩
    ·rw [e0] at ej
     simp [Value.ownBlock] at ej
    ·rw [e0] at ej
     obtain rfl : g = j := by simpa [Value.ownBlock] using ej
     rw [hgb] at hj
     cases hj
     rfl
   ·refine ⟨to5 (by omega) (by decide) hb30, to5 (by omega) (by decide) hb32, to5 (by omega) (by decide) hb33, hR.row, hR.len, hR.cap, ⟨ys ++ (vocOf s T).encP ((Z.drop y.1).take k), r, hb4.set r.v, ho4.kept hg5 (.inr (hb4.not_row (by decide) ho4).symm), ?_⟩, (hbel w hle3).trans ((Below.refl _ W4).setCell (p := ⟨w.heap.size + 1, 0, none⟩) (by show w.heap.size ≤ w.heap.size + 1; omega) _)⟩
    rw [← he, encode_cut _ hne, hcut, hk, List.drop_drop, List.append_assoc]
  have hcs : ∀ W3, Below W.drew.heap.size W.drew W3 → W3.cell? ⟨w.heap.size + 1, 0, none⟩ = some (.slice oa on oc) := by
   intro W3 hlb
   have : Boxed W3 (w.heap.size + 1) tInts (.slice oa on oc) := held_on hlb hbD
   exact this.cell
  have hcall := hpc _ hd
  clear hon
  refine wpIn_region_any hmx ?_
  change wpAnyIn _ _ _ _ _ _ _ _ _ (World.drew _)
  refine wpAnyIn_ready (rs := [0, 1, 2]) (by kernel_rfl) (by simp) ?_
  refine AllReadyIn.cons rfl (fun K hK => ?_) ?_
  ·go_simp
   refine hK _ _ ?_
   clear hK K
   refine wpAnyIn_ready (rs := [1, 2]) (by kernel_rfl) (by simp) ?_
   refine AllReadyIn.cons rfl (fun K hK => ?_) ?_
   ·go_simp
    refine hK _ _ ?_
    clear hK K
    refine wpAnyIn_ready (rs := [2]) (by kernel_rfl) (by simp) ?_
    refine AllReadyIn.cons rfl (fun K hK => ?_) ?_
    ·go_simp
     refine hK _ _ ?_
     clear hK K
     refine wpAnyIn_ready (rs := [3]) (by kernel_rfl) (by simp) ?_
     refine AllReadyIn.cons rfl (fun K hK => ?_) ?_
     ·go_simp
      refine ⟨trivial, rfl, ?_⟩
      refine CallsIn.mono hcall ?_
      rintro e W3 ⟨la, ln, lc, rfl, hln, hlo, hlb⟩
      obtain ⟨ra, rn, rc, W4, hrn, hf4, hc4, hkk4, hR4⟩ := happ W3 la ln lc hlb hln hlo
      have hc3 := hcs W3 hlb
      clear hln hlo hlb
      dsimp only
      refine hK _ _ ?_
      clear hK K
      refine wpAnyIn_ready (rs := [4]) (by kernel_rfl) (by simp) ?_
      refine AllReadyIn.cons rfl (fun K hK => ?_) ?_
      ·rw [if_pos (by rfl)]
       refine wpIn_append_run _ _ _ rfl rfl rfl hrn ?_
       clear hrn
       go_simp
       refine hK _ _ ?_
       clear hK K
       refine wpAnyIn_ready (rs := [5]) (by kernel_rfl) (by simp) ?_
       refine AllReadyIn.cons rfl (fun K hK => ?_) ?_
       ·go_simp
        refine hK _ _ ?_
        clear hK K
        refine wpAnyIn_done (by kernel_rfl) ?_ _
        exact ⟨rfl, hkk4, hR4⟩
       exact AllReadyIn.nil
      exact AllReadyIn.nil
     exact AllReadyIn.nil
    exact AllReadyIn.nil
   refine AllReadyIn.cons rfl (fun K hK => ?_) ?_
   ·go_simp
    refine hK _ _ ?_
    clear hK K
    refine wpAnyIn_ready (rs := [1]) (by kernel_rfl) (by simp) ?_
    refine AllReadyIn.cons rfl (fun K hK => ?_) ?_
    ·go_simp
     refine hK _ _ ?_
     clear hK K
     refine wpAnyIn_ready (rs := [3]) (by kernel_rfl) (by simp) ?_
     refine AllReadyIn.cons rfl (fun K hK => ?_) ?_
     ·go_simp
      refine ⟨trivial, rfl, ?_⟩
      refine CallsIn.mono hcall ?_
      rintro e W3 ⟨la, ln, lc, rfl, hln, hlo, hlb⟩
      obtain ⟨ra, rn, rc, W4, hrn, hf4, hc4, hkk4, hR4⟩ := happ W3 la ln lc hlb hln hlo
      have hc3 := hcs W3 hlb
      clear hln hlo hlb
      dsimp only
      refine hK _ _ ?_
      clear hK K
      refine wpAnyIn_ready (rs := [4]) (by kernel_rfl) (by simp) ?_
      refine AllReadyIn.cons rfl (fun K hK => ?_) ?_
      ·rw [if_pos (by rfl)]
       refine wpIn_append_run _ _ _ rfl rfl rfl hrn ?_
       clear hrn
       go_simp
       refine hK _ _ ?_
       clear hK K
       refine wpAnyIn_ready (rs := [5]) (by kernel_rfl) (by simp) ?_
       refine AllReadyIn.cons rfl (fun K hK => ?_) ?_
       ·go_simp
        refine hK _ _ ?_
        clear hK K
        refine wpAnyIn_done (by kernel_rfl) ?_ _
        exact ⟨rfl, hkk4, hR4⟩
       exact AllReadyIn.nil
      exact AllReadyIn.nil
     exact AllReadyIn.nil
    exact AllReadyIn.nil
   exact AllReadyIn.nil
  refine AllReadyIn.cons rfl (fun K hK => ?_) ?_
  ·go_simp
   refine hK _ _ ?_
   clear hK K
   refine wpAnyIn_ready (rs := [0, 2]) (by kernel_rfl) (by simp) ?_
   refine AllReadyIn.cons rfl (fun K hK => ?_) ?_
   ·go_simp
    refine hK _ _ ?_
    clear hK K
    refine wpAnyIn_ready (rs := [2]) (by kernel_rfl) (by simp) ?_
    refine AllReadyIn.cons rfl (fun K hK => ?_) ?_
    ·go_simp
     refine hK _ _ ?_
     clear hK K
     refine wpAnyIn_ready (rs := [3]) (by kernel_rfl) (by simp) ?_
     refine AllReadyIn.cons rfl (fun K hK => ?_) ?_
     ·go_simp
      refine ⟨trivial, rfl, ?_⟩
      refine CallsIn.mono hcall ?_
      rintro e W3 ⟨la, ln, lc, rfl, hln, hlo, hlb⟩
      obtain ⟨ra, rn, rc, W4, hrn, hf4, hc4, hkk4, hR4⟩ := happ W3 la ln lc hlb hln hlo
      have hc3 := hcs W3 hlb
      clear hln hlo hlb
      dsimp only
      refine hK _ _ ?_
      clear hK K
      refine wpAnyIn_ready (rs := [4]) (by kernel_rfl) (by simp) ?_
      refine AllReadyIn.cons rfl (fun K hK => ?_) ?_
      ·rw [if_pos (by rfl)]
       refine wpIn_append_run _ _ _ rfl rfl rfl hrn ?_
       clear hrn
       go_simp
       refine hK _ _ ?_
       clear hK K
       refine wpAnyIn_ready (rs := [5]) (by kernel_rfl) (by simp) ?_
       refine AllReadyIn.cons rfl (fun K hK => ?_) ?_
       ·go_simp
        refine hK _ _ ?_
        clear hK K
        refine wpAnyIn_done (by kernel_rfl) ?_ _
        exact ⟨rfl, hkk4, hR4⟩
       exact AllReadyIn.nil
      exact AllReadyIn.nil
     exact AllReadyIn.nil
    exact AllReadyIn.nil
   refine AllReadyIn.cons rfl (fun K hK => ?_) ?_
   ·go_simp
    refine hK _ _ ?_
    clear hK K
    refine wpAnyIn_ready (rs := [0, 3]) (by kernel_rfl) (by simp) ?_
    refine AllReadyIn.cons rfl (fun K hK => ?_) ?_
    ·go_simp
     refine hK _ _ ?_
     clear hK K
     refine wpAnyIn_ready (rs := [3]) (by kernel_rfl) (by simp) ?_
     refine AllReadyIn.cons rfl (fun K hK => ?_) ?_
     ·go_simp
      refine ⟨trivial, rfl, ?_⟩
      refine CallsIn.mono hcall ?_
      rintro e W3 ⟨la, ln, lc, rfl, hln, hlo, hlb⟩
      obtain ⟨ra, rn, rc, W4, hrn, hf4, hc4, hkk4, hR4⟩ := happ W3 la ln lc hlb hln hlo
      have hc3 := hcs W3 hlb
      clear hln hlo hlb
      dsimp only
      refine hK _ _ ?_
      clear hK K
      refine wpAnyIn_ready (rs := [4]) (by kernel_rfl) (by simp) ?_
      refine AllReadyIn.cons rfl (fun K hK => ?_) ?_
      ·rw [if_pos (by rfl)]
       refine wpIn_append_run _ _ _ rfl rfl rfl hrn ?_
       clear hrn
       go_simp
       refine hK _ _ ?_
       clear hK K
       refine wpAnyIn_ready (rs := [5]) (by kernel_rfl) (by simp) ?_
       refine AllReadyIn.cons rfl (fun K hK => ?_) ?_
       ·go_simp
        refine hK _ _ ?_
        clear hK K
        refine wpAnyIn_done (by kernel_rfl) ?_ _
        exact ⟨rfl, hkk4, hR4⟩
       exact AllReadyIn.nil
      exact AllReadyIn.nil
     exact AllReadyIn.nil
    refine AllReadyIn.cons rfl (fun K hK => ?_) ?_
    ·go_simp
     refine ⟨trivial, rfl, ?_⟩
     refine CallsIn.mono hcall ?_
     rintro e W3 ⟨la, ln, lc, rfl, hln, hlo, hlb⟩
     obtain ⟨ra, rn, rc, W4, hrn, hf4, hc4, hkk4, hR4⟩ := happ W3 la ln lc hlb hln hlo
     have hc3 := hcs W3 hlb
     clear hln hlo hlb
     dsimp only
     refine hK _ _ ?_
     clear hK K
     refine wpAnyIn_ready (rs := [0]) (by kernel_rfl) (by simp) ?_
     refine AllReadyIn.cons rfl (fun K hK => ?_) ?_
     ·go_simp
      refine hK _ _ ?_
      clear hK K
      refine wpAnyIn_ready (rs := [4]) (by kernel_rfl) (by simp) ?_
      refine AllReadyIn.cons rfl (fun K hK => ?_) ?_
      ·rw [if_pos (by rfl)]
       refine wpIn_append_run _ _ _ rfl rfl rfl hrn ?_
       clear hrn
       go_simp
       refine hK _ _ ?_
       clear hK K
       refine wpAnyIn_ready (rs := [5]) (by kernel_rfl) (by simp) ?_
       refine AllReadyIn.cons rfl (fun K hK => ?_) ?_
       ·go_simp
        refine hK _ _ ?_
        clear hK K
        refine wpAnyIn_done (by kernel_rfl) ?_ _
        exact ⟨rfl, hkk4, hR4⟩
       exact AllReadyIn.nil
      exact AllReadyIn.nil
     exact AllReadyIn.nil
    exact AllReadyIn.nil
   exact AllReadyIn.nil
  refine AllReadyIn.cons rfl (fun K hK => ?_) ?_
  ·go_simp
   refine hK _ _ ?_
   clear hK K
   refine wpAnyIn_ready (rs := [0, 1]) (by kernel_rfl) (by simp) ?_
   refine AllReadyIn.cons rfl (fun K hK => ?_) ?_
   ·go_simp
    refine hK _ _ ?_
    clear hK K
    refine wpAnyIn_ready (rs := [1]) (by kernel_rfl) (by simp) ?_
    refine AllReadyIn.cons rfl (fun K hK => ?_) ?_
    ·go_simp
     refine hK _ _ ?_
     clear hK K
     refine wpAnyIn_ready (rs := [3]) (by kernel_rfl) (by simp) ?_
     refine AllReadyIn.cons rfl (fun K hK => ?_) ?_
     ·go_simp
      refine ⟨trivial, rfl, ?_⟩
      refine CallsIn.mono hcall ?_
      rintro e W3 ⟨la, ln, lc, rfl, hln, hlo, hlb⟩
      obtain ⟨ra, rn, rc, W4, hrn, hf4, hc4, hkk4, hR4⟩ := happ W3 la ln lc hlb hln hlo
      have hc3 := hcs W3 hlb
      clear hln hlo hlb
      dsimp only
      refine hK _ _ ?_
      clear hK K
      refine wpAnyIn_ready (rs := [4]) (by kernel_rfl) (by simp) ?_
      refine AllReadyIn.cons rfl (fun K hK => ?_) ?_
      ·rw [if_pos (by rfl)]
       refine wpIn_append_run _ _ _ rfl rfl rfl hrn ?_
       clear hrn
       go_simp
       refine hK _ _ ?_
       clear hK K
       refine wpAnyIn_ready (rs := [5]) (by kernel_rfl) (by simp) ?_
       refine AllReadyIn.cons rfl (fun K hK => ?_) ?_
       ·go_simp
        refine hK _ _ ?_
        clear hK K
        refine wpAnyIn_done (by kernel_rfl) ?_ _
        exact ⟨rfl, hkk4, hR4⟩
       exact AllReadyIn.nil
      exact AllReadyIn.nil
     exact AllReadyIn.nil
    exact AllReadyIn.nil
   refine AllReadyIn.cons rfl (fun K hK => ?_) ?_
   ·go_simp
    refine hK _ _ ?_
    clear hK K
    refine wpAnyIn_ready (rs := [0, 3]) (by kernel_rfl) (by simp) ?_
    refine AllReadyIn.cons rfl (fun K hK => ?_) ?_
    ·go_simp
     refine hK _ _ ?_
     clear hK K
     refine wpAnyIn_ready (rs := [3]) (by kernel_rfl) (by simp) ?_
     refine AllReadyIn.cons rfl (fun K hK => ?_) ?_
     ·go_simp
      refine ⟨trivial, rfl, ?_⟩
      refine CallsIn.mono hcall ?_
      rintro e W3 ⟨la, ln, lc, rfl, hln, hlo, hlb⟩
      obtain ⟨ra, rn, rc, W4, hrn, hf4, hc4, hkk4, hR4⟩ := happ W3 la ln lc hlb hln hlo
      have hc3 := hcs W3 hlb
      clear hln hlo hlb
      dsimp only
      refine hK _ _ ?_
      clear hK K
      refine wpAnyIn_ready (rs := [4]) (by kernel_rfl) (by simp) ?_
      refine AllReadyIn.cons rfl (fun K hK => ?_) ?_
      ·rw [if_pos (by rfl)]
       refine wpIn_append_run _ _ _ rfl rfl rfl hrn ?_
       clear hrn
       go_simp
       refine hK _ _ ?_
       clear hK K
       refine wpAnyIn_ready (rs := [5]) (by kernel_rfl) (by simp) ?_
       refine AllReadyIn.cons rfl (fun K hK => ?_) ?_
       ·go_simp
        refine hK _ _ ?_
        clear hK K
        refine wpAnyIn_done (by kernel_rfl) ?_ _
        exact ⟨rfl, hkk4, hR4⟩
       exact AllReadyIn.nil
      exact AllReadyIn.nil
     exact AllReadyIn.nil
    refine AllReadyIn.cons rfl (fun K hK => ?_) ?_
    ·go_simp
     refine ⟨trivial, rfl, ?_⟩
     refine CallsIn.mono hcall ?_
     rintro e W3 ⟨la, ln, lc, rfl, hln, hlo, hlb⟩
     obtain ⟨ra, rn, rc, W4, hrn, hf4, hc4, hkk4, hR4⟩ := happ W3 la ln lc hlb hln hlo
     have hc3 := hcs W3 hlb
     clear hln hlo hlb
     dsimp only
     refine hK _ _ ?_
     clear hK K
     refine wpAnyIn_ready (rs := [0]) (by kernel_rfl) (by simp) ?_
     refine AllReadyIn.cons rfl (fun K hK => ?_) ?_
     ·go_simp
      refine hK _ _ ?_
      clear hK K
      refine wpAnyIn_ready (rs := [4]) (by kernel_rfl) (by simp) ?_
      refine AllReadyIn.cons rfl (fun K hK => ?_) ?_
      ·rw [if_pos (by rfl)]
       refine wpIn_append_run _ _ _ rfl rfl rfl hrn ?_
       clear hrn
       go_simp
       refine hK _ _ ?_
       clear hK K
       refine wpAnyIn_ready (rs := [5]) (by kernel_rfl) (by simp) ?_
       refine AllReadyIn.cons rfl (fun K hK => ?_) ?_
       ·go_simp
        refine hK _ _ ?_
        clear hK K
        refine wpAnyIn_done (by kernel_rfl) ?_ _
        exact ⟨rfl, hkk4, hR4⟩
       exact AllReadyIn.nil
      exact AllReadyIn.nil
     exact AllReadyIn.nil
    exact AllReadyIn.nil
   exact AllReadyIn.nil
  exact AllReadyIn.nil
 case done =>
  intro D y W hD hy hR hK
  obtain ⟨ys, ⟨oa, on, oc⟩, hb, ho, he⟩ := hR.out
  have hc1 : W.cell? ⟨w.heap.size + 1, 0, none⟩ = some (.slice oa on oc) := hb.cell
  gi_wp2
  refine ⟨by simp, .inl ⟨_, _, rfl, run_takeDeferred hK, ?_⟩⟩
  refine ⟨_, results_tmp rfl _ _ _, ?_⟩
  have hnil : Z.drop y.1 = [] := List.eq_nil_of_length_eq_zero (by rw [← hR.len]; exact hy)
  rw [hnil] at he
  have he : ys = (vocOf s T).encode Z := by rw [← he]; exact (List.append_nil ys).symm
  subst he
  exact ⟨⟨oa, on, oc⟩, rfl, (Rw.of_own (s := ⟨oa, on, oc⟩) ho (fun _ => rfl) (by decide)).2, ownsRow_putObj ho _ hK rfl, hR.le.trans ((Below.refl _ W).grown (grownBy_putObj' W D _) hR.le.size (fun j e => by cases e; omega))⟩
theorem own_le {w : World} {B : Nat} {e : TypeId} {sz : Nat} {l : Sl} {xs : List Value} (h : w.ownsRow B e sz l.v l.n xs) : l.n ≤ l.c := by
 obtain ⟨a, c, e, hc⟩ := own_form h
 have e : Value.slice l.a l.n l.c = .slice a l.n c := e
 simp only [Value.slice.injEq] at e
 omega
theorem containsI_spec (a : Option Addr) (c : Nat) (xs : List Int) (f : Value) (p : Int → Bool) (w : World) (hr : Rw encInt 1 w a xs) (hl : xs.length ≤ 1000000000000000)
  (hf : ∀ x ∈ xs, ∀ w1, Below w.heap.size w w1 → CallG ctx f [.int .i64 x] w1 (fun e w2 => e = .returned (.bool (p x)) ∧ Below w1.heap.size w1 w2)) :
  CP 137 #[.slice a xs.length c, f] w fun e w' => e = .returned (.bool (decide (idx p xs ≥ 0))) ∧ Below w.heap.size w w' := by
 refine calls_ret (vc137_calls a xs.length c f w (fun v w' => v = .bool (decide (idx p xs ≥ 0)) ∧ Below w.heap.size w w') ?_) (by rintro v w' ⟨rfl, h⟩; exact ⟨rfl, h⟩)
 refine (indexI_spec a c xs f p w hr hl hf).mono ?_
 rintro e w1 ⟨rfl, b1⟩
 exact ⟨_, rfl, rfl, b1⟩
theorem encMade_spec (w : World) (v : Nat) (c : Array Value) (tp bp mp : Nat) (h : VBlk w v c tp bp mp) (s : SpecV) (T : List Ent) (x : SpecW) (hP : VocParts w s T x tp bp mp) (A : Option Addr) (C : Nat) (Z : List Int) (hr : Rw encInt 1 w A Z) (hC : Z.length ≤ C) (hl : Z.length ≤ 100000) (hZ : ∀ y ∈ Z, itemOk s y = true) :
  CP 76 #[.pointer (some ⟨v, 0, none⟩), .slice A Z.length C] w fun e w' => ∃ l : Sl, e = .returned l.v ∧ l.n = ((vocOf s T).encode Z).length ∧ w'.ownsRow w.heap.size tInt 1 l.v l.n (((vocOf s T).encode Z).flatMap encInt) ∧ Below w.heap.size w w' := by
 refine calls_ret (vc76_calls (some ⟨v, 0, none⟩) A Z.length C w (fun u w' => ∃ l : Sl, u = l.v ∧ l.n = ((vocOf s T).encode Z).length ∧ w'.ownsRow w.heap.size tInt 1 l.v l.n (((vocOf s T).encode Z).flatMap encInt) ∧ Below w.heap.size w w') ?_) (by rintro v w' ⟨l, rfl, h⟩; exact ⟨l, rfl, h⟩)
 intro w1 hw1
 have b1 : Below w.heap.size w w1 := by subst hw1; exact below_alloc _ _
 have l1 : w1.heap[w.heap.size]? = some (.cells #[.pointer (some ⟨v, 0, none⟩)] 31 (0, 0)) := by subst hw1; exact alloc_new _ _
 have pc : ∀ {w' : World}, w'.heap[w.heap.size]? = some (.cells #[.pointer (some ⟨v, 0, none⟩)] 31 (0, 0)) → w'.cell? (nb w) = some (.pointer (some ⟨v, 0, none⟩)) := fun h => cell_heap h
 have hfew := hP.few
 refine ⟨_, pc l1, CondP.no rfl ?_⟩
 refine (containsI_spec A C Z _ (fun y => !itemOk s y) w1 (hr.on b1) (by omega) ?_).mono ?_
 ·intro y hy w2 b2
  refine callG_of (by kernel_rfl) ?_
  refine calls_ret (vc138_calls y (some (nb w)) w2 (fun u w' => u = .bool (!itemOk s y) ∧ Below w2.heap.size w2 w') ?_) (by rintro v w' ⟨rfl, h⟩; exact ⟨rfl, h⟩)
  have b12 := below_then b1 b2
  refine NilC.mk _ rfl ⟨_, pc (held_on b2 l1), ?_⟩
  refine (encRight_spec w2 v c tp bp mp (h.on b12) s (hP.on b12).marks (by omega) y).mono ?_
  rintro e w3 ⟨rfl, hw⟩
  subst hw
  exact ⟨_, rfl, rfl, Below.refl _ _⟩
 ·rintro e w2 ⟨rfl, b2⟩
  have b12 := below_then b1 b2
  have hno : idx (fun y => !itemOk s y) Z = -1 := idx_none fun j hj => by rw [hZ _ (List.getElem_mem hj)]; rfl
  refine ⟨_, rfl, CondP.no (by rw [hno]; rfl) ⟨_, pc (held_on b2 l1), ?_⟩⟩
  refine (tokens_spec w2 v c tp bp mp (h.on b12) s T x (hP.on b12) A C Z (hr.on b12) hC hl hZ).mono ?_
  rintro e w3 ⟨l, rfl, hln, ho, b3⟩
  exact ⟨_, _, _, rfl, l, rfl, hln, own_base ho b12.size, below_then b12 b3⟩
end Go.Proofs.YtnmdljikfhafiaaGreat.Eng
