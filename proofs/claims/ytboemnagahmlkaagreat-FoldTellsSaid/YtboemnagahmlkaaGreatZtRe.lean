/- The reference's vocabulary, walked by the engine. -/
import Derived.Test.YtboemnagahmlkaaGreatZtRa
set_option linter.unusedVariables false
set_option linter.unusedSimpArgs false
set_option maxRecDepth 100000
namespace Go.Proofs.YtboemnagahmlkaaGreat.Eng
open Go Go.RowKit
/-- The reference's vocabulary: five slices. -/
structure RvW where
  t : RtW
  b : RtW
  sp : Sl
abbrev RvW.cells (x : RvW) : Array Value := #[x.t.b.v, x.t.m.v, x.b.b.v, x.b.m.v, x.sp.v]
abbrev RvW.v (x : RvW) : Value := .agg x.cells
structure RvAt (w : World) (x : RvW) (s : SpecV) (T : List Ent) : Prop where
  t : RtAt w x.t T
  b : BtAt w x.b s.classes s.joins
  sn : x.sp.n = s.specials.length
  sr : Rw encSpecial 2 w x.sp.a s.specials
  ok : TOk T
  right : s.right = true
  ids : ∀ y ∈ s.specials, (T.length : Int) ≤ y.1
  nodup : (s.specials.map (·.1)).Nodup
theorem RvAt.on {w w' : World} {x : RvW} {s : SpecV} {T : List Ent} (h : RvAt w x s T) (hb : Below w.heap.size w w') : RvAt w' x s T := ⟨h.t.on hb, h.b.on hb, h.sn, h.sr.on hb, h.ok, h.right, h.ids, h.nodup⟩
theorem RvAt.vok {w : World} {x : RvW} {s : SpecV} {T : List Ent} (h : RvAt w x s T) : (vocOf s T).Ok := by
  have ml := merges_length h.ok
  refine ⟨good_of h.ok, h.nodup, fun t ht => ?_⟩
  obtain ⟨y, hy, rfl⟩ := List.mem_map.1 ht
  have := h.ids y hy
  show 256 + ((mergesOf T).length : Int) ≤ y.1
  omega
theorem RvAt.few {w : World} {x : RvW} {s : SpecV} {T : List Ent} (h : RvAt w x s T) : s.specials.length ≤ 1000000 ∧ s.classes.length ≤ 1000000 ∧ s.joins.length ≤ 1000000 := ⟨(right_small h.right).2.2.1, (right_small h.right).2.2.2.1, (right_small h.right).2.2.2.2⟩
abbrev tRv : TypeId := 39
theorem agg5 {w : World} {b : Nat} {x : RvW} {T : TypeId} {fz : Nat × Nat} (h : w.heap[b]? = some (.cells x.cells T fz)) :
    w.cell? ⟨b, 0, none⟩ = some x.t.b.v ∧ w.cell? ((⟨b, 0, none⟩ : Addr).add 1) = some x.t.m.v ∧ w.cell? ((⟨b, 0, none⟩ : Addr).add 2) = some x.b.b.v ∧ w.cell? ((⟨b, 0, none⟩ : Addr).add 3) = some x.b.m.v ∧ w.cell? ((⟨b, 0, none⟩ : Addr).add 4) = some x.sp.v ∧ True := by
  have hc : ∀ j, w.cell? ((⟨b, 0, none⟩ : Addr).add j) = x.cells[j]? := fun j => ptr_add0 _ _ h j
  exact ⟨by have := hc 0; rw [add_zero] at this; exact this, hc 1, hc 2, hc 3, hc 4, trivial⟩
/-- Two cells of a struct within one. -/
theorem agg_in {w : World} {b : Nat} {c : Array Value} {T : TypeId} {fz : Nat × Nat} (h : w.heap[b]? = some (.cells c T fz)) (j : Nat) {x y : Value} (hx : c[j]? = some x) (hy : c[j + 1]? = some y) : w.cell? ((⟨b, 0, none⟩ : Addr).add j) = some x ∧ w.cell? (((⟨b, 0, none⟩ : Addr).add j).add 1) = some y ∧ True := by
  refine ⟨by rw [ptr_add0 _ _ h, hx], ?_, trivial⟩
  rw [Addr.add_add, ptr_add0 _ _ h, hy]
theorem idxOf_at {α : Type} [BEq α] [LawfulBEq α] {l : List α} {x : α} {i : Nat} (hi : i < l.length) (hx : l[i] = x) (hn : x ∉ l.take i) : l.idxOf? x = some i := by
  rw [List.idxOf?, List.findIdx?_eq_some_iff_getElem]
  refine ⟨hi, by simp [hx], fun j hj => ?_⟩
  simp only [beq_iff_eq]
  intro e
  exact hn (List.mem_take_iff_getElem.2 ⟨j, by omega, e⟩)
def refMarkV (s : SpecV) (id : Int) : Int := ((markOf s.specials id).map fun i : Nat => -1 - (i : Int)).getD 0
theorem refMark_spec (w : World) (x : RvW) (s : SpecV) (T : List Ent) (h : RvAt w x s T) (id : Int) : Calls Tryz.prog 93 #[x.v, .int .i64 id] w fun e w' => e = .returned (.int .i64 (refMarkV s id)) ∧ Below w.heap.size w w' := by
  refine calls_ret (vc93_calls x.t.b.a x.t.b.n x.t.b.c x.t.m.a x.t.m.n x.t.m.c x.b.b.a x.b.b.n x.b.b.c x.b.m.a x.b.m.n x.b.m.c x.sp.a x.sp.n x.sp.c id w (fun u w' => u = .int .i64 (refMarkV s id) ∧ Below w.heap.size w w') ?_) (by rintro v w' ⟨rfl, h⟩; exact ⟨rfl, h⟩)
  intro w1 hw1
  have hb1 : Below w.heap.size w w1 := by subst hw1; exact below_alloc _ _
  have l1 : w1.heap[w.heap.size]? = some (.cells x.cells tRv (0, 0)) := by subst hw1; exact alloc_new _ _
  have hn := h.sn
  have hfew := h.few.1
  intro I hI
  have key := climb2 (α := Int) s.specials.length (fun i _ => id ∉ (s.specials.map (·.1)).take i) (fun i y => I [.int .i64 (i : Int), .int .i64 y] w1) 0 (by simp) ?_ ?_
  · exact key
  · rintro i hi ih y hinv
    obtain ⟨q, hq, _, hc⟩ := (h.sr.on hb1) i _ (List.getElem?_eq_getElem hi)
    have hi' : i < (s.specials.map (·.1)).length := by rw [List.length_map]; exact hi
    have hget : (s.specials.map (·.1))[i] = s.specials[i].1 := by simp
    refine hI _ y w1 ⟨_, _, _, ptr_add0 _ _ l1 4, CondP.yes (by simp; omega) ⟨_, _, _, ptr_add0 _ _ l1 4, NilC.mk q hq ⟨by omega, by omega, _, hc 0 _ rfl, CondP.mk (fun h0 => Ar.ok64 (by omega) (by omega) ⟨?_, hb1⟩) fun h0 => Ar.nat (i + 1) rfl (by omega) (ih y ?_)⟩⟩⟩
    · have h0 : s.specials[i].1 = id := by simpa using h0
      have : markOf s.specials id = some i := idxOf_at hi' (by rw [hget, h0]) hinv
      rw [refMarkV, this]
      rfl
    · have h0 : ¬ s.specials[i].1 = id := by simpa using h0
      rw [List.take_add_one, List.getElem?_eq_getElem hi', hget]
      simp only [Option.toList_some, List.mem_append, List.mem_singleton, not_or]
      exact ⟨hinv, fun e => h0 e.symm⟩
  · rintro y hinv
    refine hI _ y w1 ⟨_, _, _, ptr_add0 _ _ l1 4, CondP.no (by simp; omega) ⟨?_, hb1⟩⟩
    rw [List.take_of_length_le (by simp)] at hinv
    have : markOf s.specials id = none := List.idxOf?_eq_none_iff.2 hinv
    rw [refMarkV, this]
    rfl
theorem refMark_neg (s : SpecV) (id : Int) : decide (refMarkV s id < 0) = decide (id ∈ s.specials.map (·.1)) := by
  apply decide_eq_decide.2
  unfold refMarkV
  cases hm : markOf s.specials id with
  | none =>
    have : id ∉ s.specials.map (·.1) := List.idxOf?_eq_none_iff.1 hm
    simp only [Option.map_none, Option.getD_none]
    exact ⟨fun e => by omega, fun e => absurd e this⟩
  | some i =>
    have : id ∈ s.specials.map (·.1) := by
      apply Classical.byContradiction
      intro e
      have e2 : markOf s.specials id = none := List.idxOf?_eq_none_iff.2 e
      rw [hm] at e2
      cases e2
    simp only [Option.map_some, Option.getD_some]
    exact ⟨fun _ => this, fun _ => by omega⟩
theorem refVHas_spec (w : World) (x : RvW) (s : SpecV) (T : List Ent) (h : RvAt w x s T) (id : Int) : Calls Tryz.prog 53 #[x.v, .int .i64 id] w fun e w' => e = .returned (.bool (hasV2 s T id)) ∧ Below w.heap.size w w' := by
  refine calls_ret (vc53_calls x.t.b.a x.t.b.n x.t.b.c x.t.m.a x.t.m.n x.t.m.c x.b.b.a x.b.b.n x.b.b.c x.b.m.a x.b.m.n x.b.m.c x.sp.a x.sp.n x.sp.c id w (fun u w' => u = .bool (hasV2 s T id) ∧ Below w.heap.size w w') ?_) (by rintro v w' ⟨rfl, h⟩; exact ⟨rfl, h⟩)
  intro w1 hw1
  have hb1 : Below w.heap.size w w1 := by subst hw1; exact below_alloc _ _
  have l1 : w1.heap[w.heap.size]? = some (.cells x.cells tRv (0, 0)) := by subst hw1; exact alloc_new _ _
  refine ⟨_, _, _, _, _, _, agg_in l1 0 rfl rfl, ?_⟩
  refine (refHas_spec w1 x.t T (h.t.on hb1) id).mono ?_
  rintro e w2 ⟨rfl, b2⟩
  have hb2 := below_then hb1 b2
  refine ⟨_, rfl, CondP.mk (fun h0 => ⟨?_, hb2⟩) fun h0 => ?_⟩
  · have h0 := of_decide_eq_true h0
    rw [hasV2, decide_eq_true (.inr h0)]
  · have h0 := of_decide_eq_false h0
    refine ⟨_, _, _, _, _, _, _, _, _, _, _, _, _, _, _, agg5 (held_on b2 l1), ?_⟩
    refine (refMark_spec w2 x s T (h.on hb2) id).mono ?_
    rintro e w3 ⟨rfl, b3⟩
    refine ⟨_, rfl, ?_, below_then hb2 b3⟩
    rw [refMark_neg, hasV2]
    congr 1
    exact decide_eq_decide.2 ⟨.inl, fun e => e.resolve_right h0⟩
theorem items_len {s : SpecV} {T : List Ent} (hok : TOk T) (t : Int) : ((vocOf s T).items t).length ≤ 64 := by
  unfold Voc.items
  cases (vocOf s T).place t with
  | some i => exact Nat.le_of_ble_eq_true rfl
  | none =>
    show (ints (bytesOf T t)).length ≤ 64
    have : (ints (bytesOf T t)).length = (bytesOf T t).length := by simp [ints]
    rw [this, bytesOf]
    cases he : T[t.toNat]? with
    | none => exact Nat.zero_le _
    | some e => exact hok.short e (List.mem_of_getElem? he)
theorem itemsAll_len {s : SpecV} {T : List Ent} (hok : TOk T) : ∀ ids : List Int, ((vocOf s T).itemsAll ids).length ≤ 64 * ids.length
  | [] => Nat.le_refl _
  | t :: ids => by
    have h1 := items_len (s := s) hok t
    have h2 := itemsAll_len (s := s) hok ids
    unfold Voc.itemsAll at h2 ⊢
    rw [List.flatMap_cons, List.length_append, List.length_cons]
    omega
theorem refItems_spec (w : World) (x : RvW) (s : SpecV) (T : List Ent) (h : RvAt w x s T) (A : Option Addr) (C : Nat) (ids : List Int) (hr : Rw encInt 1 w A ids) (hl : ids.length ≤ 1000000) (hh : ∀ t ∈ ids, (vocOf s T).Has t) : Calls Tryz.prog 112 #[x.v, .slice A ids.length C] w fun e w' => ∃ l : Sl, e = .returned l.v ∧ LsAt encInt 1 w' l ((vocOf s T).itemsAll ids) ∧ Below w.heap.size w w' := by
  refine calls_ret (vc112_calls x.t.b.a x.t.b.n x.t.b.c x.t.m.a x.t.m.n x.t.m.c x.b.b.a x.b.b.n x.b.b.c x.b.m.a x.b.m.n x.b.m.c x.sp.a x.sp.n x.sp.c A ids.length C w (fun u w' => ∃ l : Sl, u = l.v ∧ LsAt encInt 1 w' l ((vocOf s T).itemsAll ids) ∧ Below w.heap.size w w') ?_) (by rintro v w' ⟨l, rfl, h⟩; exact ⟨l, rfl, h⟩)
  intro w1 hw1
  have hb1 : Below w.heap.size w w1 := by subst hw1; exact below_alloc _ _
  have l1 : w1.heap[w.heap.size]? = some (.cells x.cells tRv (0, 0)) := by subst hw1; exact alloc_new _ _
  intro I hI
  have key := climb2 (α := Sl × World) ids.length (fun i y => y.2.ownsRow w1.heap.size tInt 1 y.1.v y.1.n (((vocOf s T).itemsAll (ids.take i)).flatMap encInt) ∧ Below w1.heap.size w1 y.2) (fun i y => I [.int .i64 (i : Int), y.1.v] y.2) (sl0, w1) ⟨own_none _ _ _ _ encInt, Below.refl _ _⟩ ?_ ?_
  · exact key
  · rintro i hi ih ⟨out, q⟩ ⟨hown, hB⟩
    change q.ownsRow w1.heap.size tInt 1 out.v out.n _ at hown
    change Below w1.heap.size w1 q at hB
    have hon := (LsAt.of_own elInt hown).n
    have hlen := itemsAll_len (s := s) h.ok (ids.take i)
    rw [List.length_take, Nat.min_eq_left (by omega)] at hlen
    have hsnoc : (vocOf s T).itemsAll (ids.take (i + 1)) = (vocOf s T).itemsAll (ids.take i) ++ (vocOf s T).items ids[i] := by
      rw [List.take_add_one, List.getElem?_eq_getElem hi, Voc.itemsAll_append]
      simp [Voc.itemsAll]
    rw [hsnoc] at ih
    generalize (vocOf s T).itemsAll (ids.take i) = o at hown hon hlen ih
    refine hI _ out.a out.n out.c q (CondP.yes (by simp; omega) ?_)
    intro J hJ w4 hw4
    have hJ' : ∀ (l : Sl) (v : World), v.ownsRow w1.heap.size tInt 1 l.v l.n ((o ++ (vocOf s T).items ids[i]).flatMap encInt) → Below w1.heap.size w1 v → J [.slice l.a l.n l.c] v := fun l v h1 h2 => hJ l.a l.n l.c v (Ar.nat (i + 1) rfl (by omega) (ih (l, v) ⟨h1, h2⟩))
    have b4 : Below q.heap.size q w4 := by subst hw4; exact drew_on q
    have hB4 := below_then hB b4
    have hown4 : w4.ownsRow w1.heap.size tInt 1 out.v out.n (o.flatMap encInt) := by subst hw4; exact own_drew hown
    have hw := below_then hb1 hB4
    obtain ⟨p, hp, c0⟩ := cell_rw (hr.on hw) hi rfl
    refine ⟨_, _, _, _, _, _, _, _, _, _, _, _, _, _, _, agg5 (held_on hB4 l1), NilC.mk p hp ⟨by omega, by omega, _, c0, ?_⟩⟩
    refine (refMark_spec w4 x s T (h.on hw) ids[i]).mono ?_
    rintro e w5 ⟨rfl, b5⟩
    have hB5 := below_then hB4 b5
    have hown5 := own_on hown4 b5
    have hw5 := below_then hb1 hB5
    refine ⟨_, rfl, ?_⟩
    cases hm : markOf s.specials ids[i] with
    | some k =>
      have hv : refMarkV s ids[i] = -1 - (k : Int) := by rw [refMarkV, hm]; rfl
      have hit : (vocOf s T).items ids[i] = [-1 - (k : Int)] := by
        unfold Voc.items Voc.place
        rw [show (vocOf s T).sp.idxOf? ids[i] = some k from hm]
      rw [hv]
      refine CondP.yes (decide_eq_true (by omega)) ?_
      intro w6 hw6
      obtain ⟨l', w7, hl', hrun, hown', hB', _⟩ := elInt.push hown5 (-1 - (k : Int)) hw6 rfl hB5.size (by omega) (by decide)
      exact ⟨l'.a, l'.n, l'.c, w7, hrun, hJ' l' w7 (by rw [hit]; exact hown') (hB' _ hB5)⟩
    | none =>
      have hv : refMarkV s ids[i] = 0 := by rw [refMarkV, hm]; rfl
      have hit : (vocOf s T).items ids[i] = ints (bytesOf T ids[i]) := by
        unfold Voc.items Voc.place
        rw [show (vocOf s T).sp.idxOf? ids[i] = none from hm]
        rfl
      have hin : inTab T ids[i] := by
        rcases hh _ (List.getElem_mem hi) with ht | ht
        · exact (tok_iff h.ok _).2 ht
        · exact absurd ht (List.idxOf?_eq_none_iff.1 hm)
      rw [hv]
      refine CondP.no rfl ?_
      intro w8 hw8
      have b8 : Below w5.heap.size w5 w8 := by subst hw8; exact drew_on w5
      have hB8 := below_then hB5 b8
      have hw8' := below_then hb1 hB8
      have hown8 : w8.ownsRow w1.heap.size tInt 1 out.v out.n (o.flatMap encInt) := by subst hw8; exact own_drew hown5
      obtain ⟨p', hp', c0'⟩ := cell_rw (hr.on hw8') hi rfl
      obtain ⟨ent, he, hbe⟩ := bytesOf_at hin
      have hin1 := hin.1
      have hin2 := hin.2
      have ht1 := h.t.n1
      obtain ⟨pb, hpb, _, hcb⟩ := ((h.on hw8').t.r1) ids[i].toNat ent.1 (by rw [List.getElem?_map, he]; rfl)
      have cb := hcb 0 _ rfl
      rw [add_zero] at cb
      have hshort := h.ok.short ent (List.mem_of_getElem? he)
      rw [hit, hbe] at hJ'
      refine ⟨x.t.b.a, x.t.b.n, x.t.b.c, by rw [Addr.add_add]; exact ptr_add0 _ _ (held_on hB8 l1) 0, NilC.mk p' hp' ⟨by omega, by omega, _, c0', NilC.mk pb hpb ⟨by omega, by omega, _, cb, ?_⟩⟩⟩
      intro I2 hI2
      have key2 := climb2 (α := Sl × World) ent.1.length (fun k y => y.2.ownsRow w1.heap.size tInt 1 y.1.v y.1.n ((o ++ ints (ent.1.take k)).flatMap encInt) ∧ Below w1.heap.size w1 y.2) (fun k y => I2 [.int .i64 (k : Int), y.1.v] y.2) (out, w8) ⟨by simpa [ints] using hown8, hB8⟩ ?_ ?_
      · exact key2
      · rintro k hk ih2 ⟨l, v⟩ ⟨hv, hBv⟩
        change v.ownsRow w1.heap.size tInt 1 l.v l.n _ at hv
        change Below w1.heap.size w1 v at hBv
        have hln := (LsAt.of_own elInt hv).n
        rw [List.length_append] at hln
        have : (ints (ent.1.take k)).length ≤ 64 := by simp [ints]; omega
        refine hI2 _ l.a l.n l.c v (CondP.yes (by rw [str_size]; simp; omega) ⟨by omega, by rw [str_size]; omega, ?_⟩)
        intro w10 hw10
        rw [btAt_str _ k hk, wrap_byte] at hw10
        obtain ⟨l', w11, hl', hrun, hown', hB', _⟩ := elInt.push hv ((ent.1[k].toNat : Nat) : Int) hw10 rfl hBv.size (by omega) (by decide)
        refine ⟨l'.a, l'.n, l'.c, w11, hrun, Ar.nat (k + 1) rfl (by omega) (ih2 (l', w11) ⟨?_, hB' _ hBv⟩)⟩
        rw [ints_take _ k hk, ← List.append_assoc]
        exact hown'
      · rintro ⟨l, v⟩ ⟨hv, hBv⟩
        change v.ownsRow w1.heap.size tInt 1 l.v l.n _ at hv
        change Below w1.heap.size w1 v at hBv
        rw [List.take_length] at hv
        exact hI2 _ l.a l.n l.c v (CondP.no (by rw [str_size]; simp) (hJ' l v hv hBv))
  · rintro ⟨out, q⟩ ⟨hown, hB⟩
    rw [List.take_length] at hown
    exact hI _ out.a out.n out.c q (CondP.no (by simp) ⟨out, rfl, LsAt.of_own elInt hown, below_then hb1 hB⟩)
end Go.Proofs.YtboemnagahmlkaaGreat.Eng

/- What the reference makes of items, walked by the engine. -/
set_option linter.unusedVariables false
set_option linter.unusedSimpArgs false
set_option maxRecDepth 100000
namespace Go.Proofs.YtboemnagahmlkaaGreat.Eng
open Go Go.RowKit
def encU8 (b : UInt8) : List Value := [.int .u8 ((b.toNat : Nat) : Int)]
theorem u8_cells (l : List UInt8) : l.flatMap encU8 = Lib.byteCells l := by
  induction l with
  | nil => rfl
  | cons b l ih => rw [List.flatMap_cons, ih]; rfl
theorem elU8 : ElT encU8 1 tBytes tU8 1 := ⟨fun _ => rfl, by decide, fun x u hu => by rw [List.mem_singleton.1 hu]; rfl, undBytes, _, infoU8, rfl⟩
theorem own_zero {w : World} {B : Nat} {e : TypeId} {sz : Nat} {k : Nat} (h : w.heap[k]? = some (.cells #[] e (0, 0))) (hB : B ≤ k) : w.ownsRow B e sz (.slice (some ⟨k, 0, none⟩) 0 0) 0 [] :=
  ⟨by simp, .inr ⟨k, 0, #[], rfl, hB, h, Nat.le_refl _, by simp⟩⟩
theorem chop_split {cut : Int → Int → Bool} {A B : List Int} (h : A = [] ∨ B = [] ∨ ∃ x y, A.getLast? = some x ∧ B.head? = some y ∧ cut x y = true) : chop cut (A ++ B) = chop cut A ++ chop cut B := by
  rcases h with rfl | rfl | ⟨x, y, hx, hy, hc⟩
  · rfl
  · simp [chop]
  · obtain ⟨a1, a2⟩ := chop_is (cut := cut) A
    obtain ⟨b1, b2⟩ := chop_is (cut := cut) B
    rcases List.eq_nil_or_concat (chop cut A) with e | ⟨a, p, e⟩
    · rw [e] at a2
      rw [← a2] at hx
      cases hx
    · rw [List.concat_eq_append] at e
      rw [e] at a1 a2 ⊢
      have hp := (a1.append).2.head.1
      have hlast : p.getLast? = some x := by
        rw [← a2, List.flatten_append, List.flatten_cons, List.flatten_nil, List.append_nil, getLast_app _ hp] at hx
        exact hx
      have := chop_unique (cut := cut) (a ++ p :: chop cut B) (a1.glue b1 fun q r hq => by
        rw [hq] at b1 b2
        have hqn := b1.head.1
        rw [← b2, List.flatten_cons, head_app _ hqn] at hy
        exact ⟨x, y, hlast, hy, hc⟩)
      rw [show (a ++ p :: chop cut B).flatten = A ++ B by rw [← a2]; conv => rhs; rw [← b2]
                                                          simp] at this
      rw [this]
      simp
theorem chop_congr {c c' : Int → Int → Bool} : ∀ l : List Int, (∀ x ∈ l, ∀ y ∈ l, c x y = c' x y) → chop c l = chop c' l
  | [], _ => rfl
  | [x], _ => rfl
  | x :: y :: r, h => by
    have ih := chop_congr (c := c) (c' := c') (y :: r) fun a ha b hb => h a (by simp [ha]) b (by simp [hb])
    simp only [chop]
    rw [h x (by simp) y (by simp), ih]
theorem Voc.encode_split (V : Voc) {A B : List Int} (h : A = [] ∨ B = [] ∨ ∃ x y, A.getLast? = some x ∧ B.head? = some y ∧ V.cut x y = true) : V.encode (A ++ B) = V.encode A ++ V.encode B := by
  unfold Voc.encode
  rw [chop_split h, List.flatMap_append]
/-- Bytes behind nothing, or behind a mark. -/
def AtMark (P : List Int) : Prop := P = [] ∨ ∃ x, P.getLast? = some x ∧ x < 0
theorem Voc.encode_after (V : Voc) {P R : List Int} (h : AtMark P) : V.encode (P ++ R) = V.encode P ++ V.encode R := by
  refine V.encode_split ?_
  rcases h with h | ⟨x, hx, h0⟩
  · exact .inl h
  · cases R with
    | nil => exact .inr (.inl rfl)
    | cons y R => exact .inr (.inr ⟨x, y, hx, rfl, by simp [Voc.cut, h0]⟩)
theorem Voc.encode_mark (V : Voc) {P : List Int} {x : Int} (hx : x < 0) : V.encode (P ++ [x]) = V.encode P ++ [V.sp.getD (-1 - x).toNat 0] := by
  rw [V.encode_split (A := P) (B := [x])]
  · congr 1
    unfold Voc.encode
    simp [chop, Voc.encP, hx]
  · rcases List.eq_nil_or_concat P with e | ⟨a, b, e⟩
    · exact .inl e
    · exact .inr (.inr ⟨b, x, by rw [e]; simp, rfl, by simp [Voc.cut, hx]⟩)
theorem Voc.encode_bytes (V : Voc) {b : Bs} {ps : List Bs} (h : ps.map ints = chop V.cutB (ints b)) : V.encode (ints b) = ps.flatMap fun p => after V.ms V.ms.length (ints p) := by
  unfold Voc.encode
  rw [chop_congr (c := V.cut) (c' := V.cutB) _ fun x hx y hy => cut_byte V (ints_byte _ x hx).1 (ints_byte _ y hy).1]
  obtain ⟨h1, h2⟩ := chop_is (cut := V.cutB) (ints b)
  have hne : ∀ p ∈ ps, ints p ≠ [] := by
    intro p hp
    have hm : ints p ∈ chop V.cutB (ints b) := by rw [← h]; exact List.mem_map_of_mem hp
    clear h h2 hp
    revert hm
    generalize chop V.cutB (ints b) = c at h1
    induction c with
    | nil => intro hm; cases hm
    | cons q c ih =>
      intro hm
      rcases List.mem_cons.1 hm with e | hm
      · rw [e]; exact h1.head.1
      · exact ih h1.tail hm
  rw [← h]
  clear h h1 h2
  induction ps with
  | nil => rfl
  | cons p ps ih =>
    rw [List.map_cons, List.flatMap_cons, List.flatMap_cons, ih fun q hq => hne q (by simp [hq])]
    congr 1
    have := hne p (by simp)
    cases hp : ints p with
    | nil => exact absurd hp this
    | cons x r =>
      have hx := (ints_byte p x (by rw [hp]; simp)).1
      unfold Voc.encP
      dsimp only
      rw [if_neg (by omega)]
theorem chop_length {cut : Int → Int → Bool} : ∀ l : List Int, (chop cut l).length ≤ l.length
  | [] => Nat.le_refl _
  | [x] => Nat.le_refl _
  | x :: y :: r => by
    have ih := chop_length (cut := cut) (y :: r)
    simp only [chop]
    split
    · simp only [List.length_cons] at ih ⊢
      omega
    · cases hc : chop cut (y :: r) with
      | nil => simp
      | cons p ps =>
        rw [hc] at ih
        simp only [List.length_cons] at ih ⊢
        omega
theorem flat_len {α : Type} {f : List Int → List α} (hf : ∀ p, (f p).length ≤ p.length) : ∀ l : List (List Int), (l.flatMap f).length ≤ l.flatten.length
  | [] => Nat.le_refl _
  | p :: l => by
    have := hf p
    have := flat_len hf l
    rw [List.flatMap_cons, List.flatten_cons, List.length_append, List.length_append]
    omega
theorem refVEncode_spec (w : World) (x : RvW) (s : SpecV) (T : List Ent) (h : RvAt w x s T) (A : Option Addr) (C : Nat) (Z : List Int) (hr : Rw encInt 1 w A Z) (hl : Z.length ≤ 1000000) (hZ : (vocOf s T).Items Z) : Calls Tryz.prog 111 #[x.v, .slice A Z.length C] w fun e w' => ∃ l : Sl, e = .returned l.v ∧ LsAt encInt 1 w' l ((vocOf s T).encode Z) ∧ Below w.heap.size w w' ∧ ∀ p, l.a = some p → w.heap.size ≤ p.block := by
  refine calls_ret (vc111_calls x.t.b.a x.t.b.n x.t.b.c x.t.m.a x.t.m.n x.t.m.c x.b.b.a x.b.b.n x.b.b.c x.b.m.a x.b.m.n x.b.m.c x.sp.a x.sp.n x.sp.c A Z.length C w (fun u w' => ∃ l : Sl, u = l.v ∧ LsAt encInt 1 w' l ((vocOf s T).encode Z) ∧ Below w.heap.size w w' ∧ ∀ p, l.a = some p → w.heap.size ≤ p.block) ?_) (by rintro v w' ⟨l, rfl, h⟩; exact ⟨l, rfl, h⟩)
  intro w1 hw1 w2 hw2
  have hb1 : Below w.heap.size w w1 := by subst hw1; exact below_alloc _ _
  have b2 : Below w1.heap.size w1 w2 := by subst hw2; exact below_alloc _ _
  have l1 : w1.heap[w.heap.size]? = some (.cells x.cells tRv (0, 0)) := by subst hw1; exact alloc_new _ _
  have l2 : w2.heap[w1.heap.size]? = some (.cells #[] tU8 (0, 0)) := by subst hw2; exact alloc_new _ _
  have hfew := h.few
  have hvok := h.vok
  have hsn := h.sn
  intro I hI
  let V := vocOf s T
  let Mid (i : Nat) (y : Sl × Sl × World) : Prop := ∃ (P : List Int) (r : Bs), Z.take i = P ++ ints r ∧ AtMark P ∧ y.2.2.ownsRow w1.heap.size tInt 1 y.2.1.v y.2.1.n ((V.encode P).flatMap encInt) ∧ y.2.1.n ≤ P.length ∧ y.2.2.ownsRow w1.heap.size tU8 1 y.1.v y.1.n (r.flatMap encU8) ∧ Below w1.heap.size w1 y.2.2
  let End (y : Sl × Sl × World) : Prop := y.2.2.ownsRow w1.heap.size tInt 1 y.2.1.v y.2.1.n ((V.encode Z).flatMap encInt) ∧ Below w1.heap.size w1 y.2.2
  let Inv (i : Nat) (y : Sl × Sl × World) : Prop := (i ≤ Z.length ∧ Mid i y) ∨ (i = Z.length + 1 ∧ End y)
  have key := climb2 (α := Sl × Sl × World) (Z.length + 1) Inv (fun i y => I [.int .i64 (i : Int), y.1.v, y.2.1.v] y.2.2) (⟨some (nb w1), 0, 0⟩, sl0, w2) (.inl ⟨Nat.zero_le _, [], [], rfl, .inl rfl, own_none _ _ _ _ encInt, Nat.le_refl _, own_zero l2 (Nat.le_refl _), b2⟩) ?_ ?_
  · exact key
  · rintro i hi ih ⟨run, out, q⟩ hinv
    obtain ⟨P, r, hP, hPm, hout, hon, hrun, hB⟩ : Mid i (run, out, q) := by
      rcases hinv with ⟨_, h⟩ | ⟨e, _⟩
      · exact h
      · omega
    change q.ownsRow w1.heap.size tInt 1 out.v out.n _ at hout
    change out.n ≤ P.length at hon
    change q.ownsRow w1.heap.size tU8 1 run.v run.n _ at hrun
    change Below w1.heap.size w1 q at hB
    have hrn := (LsAt.of_own elU8 hrun).n
    have hPr : P.length + r.length = i := by
      have := congrArg List.length hP
      rw [List.length_take, List.length_append, Nat.min_eq_left (by omega)] at this
      simpa [ints] using this.symm
    have hw := below_then hb1 hB
    refine hI _ run.a run.n run.c out.a out.n out.c q (CondP.yes (by simp; omega) ?_)
    intro J hJ
    have hJ' : ∀ (r' o' : Sl) (v : World), Inv (i + 1) (r', o', v) → J [.slice r'.a r'.n r'.c, .slice o'.a o'.n o'.c] v := fun r' o' v hv => hJ r'.a r'.n r'.c o'.a o'.n o'.c v (Ar.nat (i + 1) rfl (by omega) (ih (r', o', v) hv))
    have flushed : (i < Z.length → ∃ z, Z[i]? = some z ∧ z < 0) →
        ∃ g0A : Option Addr, ∃ g0N : Nat, ∃ g0C : Nat, ∃ g1A : Option Addr, ∃ g1N : Nat, ∃ g1C : Nat, (q.cell? ((nb w).add 2) = some (Value.slice g0A g0N g0C) ∧ q.cell? (((nb w).add 2).add 1) = some (Value.slice g1A g1N g1C) ∧ True) ∧
        ∃ s_1 : ByteArray, ∃ w7 : World, (convert tBytes tStr (Value.slice run.a run.n run.c)).run Tryz.prog q = .ok (Value.string s_1) w7 ∧
        Calls Tryz.prog 157 #[Value.agg #[Value.slice g0A g0N g0C, Value.slice g1A g1N g1C], Value.string s_1] w7 (fun e8 w8 =>
        ∃ lA : Option Addr, ∃ lN : Nat, ∃ lC : Nat, e8 = .returned (Value.slice lA lN lC) ∧
        ∀ I15 : List Value → World → Prop, (∀ k : Int, ∀ oA : Option Addr, ∀ oN : Nat, ∀ oC : Nat, ∀ w9 : World, (CondP (decide ((k : Int) < ((lN : Nat) : Int)))
          (∀ w10 : World, w10 = w9.drew →
            ∃ h0A : Option Addr, ∃ h0N : Nat, ∃ h0C : Nat, ∃ h1A : Option Addr, ∃ h1N : Nat, ∃ h1C : Nat, (w10.cell? ((nb w).add 0) = some (Value.slice h0A h0N h0C) ∧ w10.cell? (((nb w).add 0).add 1) = some (Value.slice h1A h1N h1C) ∧ True) ∧
            NilC lA (fun pa => (0 : Int) ≤ k ∧ k < ((lN : Nat) : Int) ∧
            ∃ s_2 : ByteArray, w10.cell? (pa.add ((k : Int).toNat * 1)) = some (Value.string s_2) ∧
            Calls Tryz.prog 158 #[Value.agg #[Value.slice h0A h0N h0C, Value.slice h1A h1N h1C], Value.string s_2] w10 (fun e11 w11 =>
            ∃ mA : Option Addr, ∃ mN : Nat, ∃ mC : Nat, e11 = .returned (Value.slice mA mN mC) ∧
            ∃ nA : Option Addr, ∃ nN : Nat, ∃ nC : Nat, ∃ w12 : World, (Builtin.append_ #[tInts, tInts] tInts #[Value.slice oA oN oC, Value.slice mA mN mC]).run Tryz.prog w11 = .ok (Value.slice nA nN nC) w12 ∧
            Ar .i64 ((k : Int) + 1) (fun n => I15 [Value.int .i64 n, Value.slice nA nN nC] w12))))
          (∀ w13 : World, w13 = w9.alloc (.cells #[] tU8) →
            CondP (decide ((i : Int) < ((Z.length : Nat) : Int)))
              (∀ w14 : World, w14 = w13.drew →
                ∃ lA : Option Addr, ∃ lN : Nat, ∃ lC : Nat, w14.cell? ((nb w).add 4) = some (Value.slice lA lN lC) ∧
                NilC A (fun pa => (0 : Int) ≤ (i : Int) ∧ (i : Int) < ((Z.length : Nat) : Int) ∧
                ∃ n_38 : Int, w14.cell? (pa.add ((i : Int).toNat * 1)) = some (Value.int .i64 n_38) ∧
                Ar .i64 ((-1 : Int) - n_38) (fun n_39 =>
                NilC lA (fun pb => (0 : Int) ≤ n_39 ∧ n_39 < ((lN : Nat) : Int) ∧
                ∃ n_41 : Int, w14.cell? ((pb.add ((n_39 : Int).toNat * 2)).add 0) = some (Value.int .i64 n_41) ∧
                ∀ w15 : World, w15 = w14.alloc (.cells #[Value.int .i64 n_41] tInt) →
                ∃ nA : Option Addr, ∃ nN : Nat, ∃ nC : Nat, ∃ w16 : World, (Builtin.append_ #[tInts, tInts] tInts #[Value.slice oA oN oC, Value.slice (some (nb w14)) 1 1]).run Tryz.prog w15 = .ok (Value.slice nA nN nC) w16 ∧
                J [Value.slice (some (nb w9)) 0 0, Value.slice nA nN nC] w16))))
              (J [Value.slice (some (nb w9)) 0 0, Value.slice oA oN oC] w13))) → I15 [Value.int .i64 k, Value.slice oA oN oC] w9) →
        I15 [Value.int .i64 0, Value.slice out.a out.n out.c] w8) := by
      intro hcase
      refine ⟨_, _, _, _, _, _, agg_in (held_on hB l1) 2 rfl rfl, str r, q, run_str_own (P := Tryz.prog) undBytes undU8 undStr (by rw [← u8_cells]; exact hrun), ?_⟩
      refine (refPieces_spec q x.b s.classes s.joins (h.on hw).b hfew.2.1 hfew.2.2 r (by omega)).mono ?_
      rintro e w8 ⟨l, ps, rfl, hlo, hps, b8⟩
      have hB8 := below_then hB b8
      have henc : V.encode (P ++ ints r) = V.encode P ++ ps.flatMap fun p => after V.ms V.ms.length (ints p) := by rw [V.encode_after hPm, V.encode_bytes hps]
      have hall := (chop_is (cut := cutB s.classes s.joins) (ints r)).2
      rw [← hps] at hall
      have hplen : ∀ p ∈ ps, p.length ≤ r.length := by
        intro p hp
        have h1 := congrArg List.length hall
        obtain ⟨a, b, e⟩ := List.append_of_mem hp
        rw [e] at h1
        simp [ints] at h1
        omega
      have hflat : ∀ k, ((ps.take k).flatMap fun p => after V.ms V.ms.length (ints p)).length ≤ r.length := by
        intro k
        have h1 := congrArg List.length hall
        have h2 := flat_len (f := after V.ms V.ms.length) (fun p => after_len V.ms p _ (Nat.le_refl _)) ((ps.take k).map ints)
        have h3 : ((ps.take k).map ints).flatten.length ≤ ((ps.map ints).flatten).length := by
          conv => rhs; rw [← List.take_append_drop k ps]
          rw [List.map_append, List.flatten_append, List.length_append]
          omega
        rw [List.flatMap_map] at h2
        have h4 : (ints r).length = r.length := by simp [ints]
        exact Nat.le_trans h2 (by omega)
      have hln := (LsAt.of_own elStr hlo).n
      have hpsl : ps.length ≤ r.length := by
        have := chop_length (cut := cutB s.classes s.joins) (ints r)
        rw [← hps] at this
        simpa [ints] using this
      refine ⟨l.a, l.n, l.c, rfl, ?_⟩
      intro I15 hI15
      have key2 := climb2 (α := Sl × World) ps.length (fun k y => y.2.ownsRow w1.heap.size tInt 1 y.1.v y.1.n ((V.encode P ++ (ps.take k).flatMap fun p => after V.ms V.ms.length (ints p)).flatMap encInt) ∧ y.2.ownsRow w1.heap.size tStr 1 l.v l.n (ps.flatMap encStr) ∧ Below w1.heap.size w1 y.2) (fun k y => I15 [.int .i64 (k : Int), y.1.v] y.2) (out, w8) ⟨by simpa using own_on hout b8, own_base hlo hB.size, hB8⟩ ?_ ?_
      · exact key2
      · rintro k hk ih2 ⟨o, v⟩ ⟨ho, hlv, hBv⟩
        change v.ownsRow w1.heap.size tInt 1 o.v o.n _ at ho
        change v.ownsRow w1.heap.size tStr 1 l.v l.n _ at hlv
        change Below w1.heap.size w1 v at hBv
        have hon' := (LsAt.of_own elInt ho).n
        have hk2 := hflat k
        have hk3 := (LsAt.of_own elInt hout).n
        rw [List.length_append] at hon'
        refine hI15 _ o.a o.n o.c v (CondP.yes (by simp; omega) ?_)
        intro w10 hw10
        have b10 : Below v.heap.size v w10 := by subst hw10; exact drew_on v
        have hB10 := below_then hBv b10
        have hlv10 := own_on hlv b10
        obtain ⟨p, hp, c0⟩ := cell_rw ((LsAt.of_own elStr hlv10).r) hk rfl
        refine ⟨_, _, _, _, _, _, agg_in (held_on hB10 l1) 0 rfl rfl, NilC.mk p hp ⟨by omega, by omega, _, c0, ?_⟩⟩
        have hpk := hplen _ (List.getElem_mem hk)
        refine (refAll_spec w10 x.t T (h.on (below_then hb1 hB10)).t h.ok ps[k] (by omega)).mono ?_
        rintro e w11 ⟨m, rfl, hm, b11⟩
        have hB11 := below_then hB10 b11
        have hmn := hm.n
        have hal := after_len (mergesOf T) (ints ps[k]) _ (Nat.le_refl _)
        have : (ints ps[k]).length = ps[k].length := by simp [ints]
        obtain ⟨n', w12, hn', hrun', hown', hB', hkeep, _⟩ := elInt.spread (own_on (own_on ho b10) b11) hm hB11.size (by omega) (by omega) (by decide)
        have hl11 := own_on hlv10 b11
        refine ⟨m.a, m.n, m.c, rfl, n'.a, n'.n, n'.c, w12, hrun', Ar.nat (k + 1) rfl (by omega) (ih2 (n', w12) ⟨?_, own_same hl11 fun j hj => hkeep j (own_lt hl11 j hj).2 (row_ne_row hl11 (own_on (own_on ho b10) b11) (by decide) j hj), hB' _ hB11⟩)⟩
        have e : (V.encode P ++ (ps.take (k + 1)).flatMap fun p => after V.ms V.ms.length (ints p)) = (V.encode P ++ (ps.take k).flatMap fun p => after V.ms V.ms.length (ints p)) ++ after V.ms V.ms.length (ints ps[k]) := by
          rw [List.take_add_one, List.getElem?_eq_getElem hk]
          simp only [List.flatMap_append, Option.toList_some, List.flatMap_cons, List.flatMap_nil, List.append_nil, List.append_assoc]
        show w12.ownsRow w1.heap.size tInt 1 n'.v n'.n _
        rw [e]
        exact hown'
      · rintro ⟨o, v⟩ ⟨ho, hlv, hBv⟩
        change v.ownsRow w1.heap.size tInt 1 o.v o.n _ at ho
        change Below w1.heap.size w1 v at hBv
        rw [List.take_length, ← henc] at ho
        have hon' := (LsAt.of_own elInt ho).n
        have honP : o.n ≤ i := by
          have h1 := hflat ps.length
          have h2 := (LsAt.of_own elInt hout).n
          rw [hon', henc, List.length_append]
          rw [List.take_length] at h1
          omega
        refine hI15 _ o.a o.n o.c v (CondP.no (by simp; omega) ?_)
        intro w13 hw13
        have b13 : Below v.heap.size v w13 := by subst hw13; exact below_alloc _ _
        have n13 : w13.heap[v.heap.size]? = some (.cells #[] tU8 (0, 0)) := by subst hw13; exact alloc_new _ _
        have hB13 := below_then hBv b13
        have ho13 := own_on ho b13
        refine CondP.mk (fun hlt => ?_) fun hlt => ?_
        · have hlt : i < Z.length := by have := of_decide_eq_true hlt; omega
          obtain ⟨z, hz, hz0⟩ := hcase hlt
          intro w14 hw14
          have b14 : Below w13.heap.size w13 w14 := by subst hw14; exact drew_on w13
          have hB14 := below_then hB13 b14
          have hw14' := below_then hb1 hB14
          have hgz : Z[i] = z := by rw [List.getElem?_eq_getElem hlt] at hz; exact Option.some.inj hz
          obtain ⟨p, hp, c0⟩ := cell_rw (hr.on hw14') hlt rfl
          have hlow := (hZ z (by rw [← hgz]; exact List.getElem_mem hlt)).1
          have hspl : V.sp.length = s.specials.length := by simp [V, vocOf]
          have hlow : -(s.specials.length : Int) ≤ z := by rw [← hspl]; exact hlow
          have hkz : (-1 - z).toNat < s.specials.length := by omega
          obtain ⟨ps', hps', _, hc'⟩ := ((h.on hw14').sr) (-1 - z).toNat _ (List.getElem?_eq_getElem hkz)
          rw [hgz] at c0
          refine ⟨_, _, _, ptr_add0 _ _ (held_on hB14 l1) 4, NilC.mk p hp ⟨by omega, by omega, z, c0, Ar.nat (-1 - z).toNat (by omega) (by omega) (NilC.mk ps' hps' ⟨by omega, by omega, _, hc' 0 _ rfl, ?_⟩)⟩⟩
          intro w15 hw15
          have ho14 := own_on ho13 b14
          obtain ⟨n', w16, hn', hrun', hown', hB', hkeep⟩ := elInt.push ho14 _ hw15 rfl hB14.size (by omega) (by decide)
          have n14 := held_on b14 n13
          refine ⟨n'.a, n'.n, n'.c, w16, hrun', hJ' ⟨some (nb v), 0, 0⟩ n' w16 (.inl ⟨hlt, P ++ ints r ++ [z], [], ?_, .inr ⟨z, by simp, hz0⟩, ?_, ?_, ?_, hB' _ hB14⟩)⟩
          · rw [List.take_add_one, hz, hP]
            simp [ints]
          · show w16.ownsRow w1.heap.size tInt 1 n'.v n'.n _
            rw [V.encode_mark hz0]
            have hget : V.sp.getD (-1 - z).toNat 0 = s.specials[(-1 - z).toNat].1 := by
              show (s.specials.map (·.1)).getD _ 0 = _
              simp [List.getD, List.getElem?_eq_getElem hkz]
            rw [hget]
            exact hown'
          · show n'.n ≤ _
            simp [ints]
            omega
          · refine own_zero ?_ hBv.size
            rw [hkeep _ (Array.getElem?_eq_some_iff.1 n14).1 (row_ne_blk ho14 n14 (by decide))]
            exact n14
        · have hlt : i = Z.length := by have := of_decide_eq_false hlt; omega
          refine hJ' ⟨some (nb v), 0, 0⟩ o w13 (.inr ⟨by omega, ?_, hB13⟩)
          show w13.ownsRow w1.heap.size tInt 1 o.v o.n _
          rw [← hP, hlt, List.take_length] at ho13
          exact ho13
    refine CondP.mk (fun hlt => ?_) fun hlt => flushed (fun e => absurd (show (i : Int) < (Z.length : Int) by omega) (of_decide_eq_false hlt))
    have hlt : i < Z.length := by have := of_decide_eq_true hlt; omega
    obtain ⟨p, hp, c0⟩ := cell_rw (hr.on hw) hlt rfl
    refine NilC.mk p hp ⟨by omega, by omega, _, c0, CondP.mk (fun hge => ?_) fun hge => flushed fun _ => ⟨Z[i], List.getElem?_eq_getElem hlt, by have := of_decide_eq_false hge; omega⟩⟩
    have hge : 0 ≤ Z[i] := of_decide_eq_true hge
    have hup := (hZ _ (List.getElem_mem hlt)).2
    have hwr : IntKind.wrap .u8 Z[i] = Z[i] := wrap_in (by show (0 : Int) ≤ _; omega) (by show _ ≤ (255 : Int); omega)
    refine NilC.mk p hp ⟨by omega, by omega, _, c0, ?_⟩
    intro w5 hw5
    rw [hwr] at hw5
    have hbyte : Z[i] = (((UInt8.ofNat Z[i].toNat).toNat : Nat) : Int) := by
      rw [UInt8.toNat_ofNat', Nat.mod_eq_of_lt (show Z[i].toNat < 256 by omega)]
      omega
    obtain ⟨n', w6, hn', hrun', hown', hB', hkeep⟩ := elU8.push hrun (UInt8.ofNat Z[i].toNat) hw5 (by show _ = [Value.int .u8 (((UInt8.ofNat Z[i].toNat).toNat : Nat) : Int)].toArray; rw [← hbyte]) hB.size (by omega) (by decide)
    refine ⟨n'.a, n'.n, n'.c, w6, hrun', hJ' n' out w6 (.inl ⟨hlt, P, r ++ [UInt8.ofNat Z[i].toNat], ?_, hPm, ?_, hon, hown', hB' _ hB⟩)⟩
    · rw [List.take_add_one, List.getElem?_eq_getElem hlt, hP, ints_append, ← List.append_assoc]
      congr 1
      show [Z[i]] = [(((UInt8.ofNat Z[i].toNat).toNat : Nat) : Int)]
      rw [← hbyte]
    · exact own_same hout fun j hj => hkeep j (own_lt hout j hj).2 (row_ne_row hout hrun (by decide) j hj)
  · rintro ⟨run, out, q⟩ hinv
    obtain ⟨ho, hB⟩ : End (run, out, q) := by
      rcases hinv with ⟨e, _⟩ | ⟨_, h⟩
      · omega
      · exact h
    exact hI _ run.a run.n run.c out.a out.n out.c q (CondP.no (by simp; omega) ⟨out, rfl, LsAt.of_own elInt ho, below_then hb1 hB, fun p hp => Nat.le_trans hb1.size (own_fresh ho p hp)⟩)
end Go.Proofs.YtboemnagahmlkaaGreat.Eng

/- Whether tokens are canonical, and the reference's vocabulary made of a spec, walked by the engine. -/
set_option linter.unusedVariables false
set_option linter.unusedSimpArgs false
set_option maxRecDepth 100000
namespace Go.Proofs.YtboemnagahmlkaaGreat.Eng
open Go Go.RowKit
theorem encode_len {s : SpecV} {T : List Ent} {Z : List Int} : ((vocOf s T).encode Z).length ≤ Z.length := by
  have h := flat_len (f := (vocOf s T).encP) (fun p => by
    cases p with
    | nil => exact Nat.le_refl _
    | cons x r =>
      unfold Voc.encP
      dsimp only
      split
      · simp
      · exact after_len _ _ _ (Nat.le_refl _)) (chop (vocOf s T).cut Z)
  rwa [(chop_is Z).2] at h
theorem refCanon_spec (w : World) (x : RvW) (s : SpecV) (T : List Ent) (h : RvAt w x s T) (A : Option Addr) (C : Nat) (ids : List Int) (hr : Rw encInt 1 w A ids) (hl : ids.length ≤ 10000) (hh : ∀ t ∈ ids, (vocOf s T).Has t) : Calls Tryz.prog 67 #[x.v, .slice A ids.length C] w fun e w' => e = .returned (.bool (decide ((vocOf s T).Canon ids))) ∧ Below w.heap.size w w' := by
  refine calls_ret (vc67_calls x.t.b.a x.t.b.n x.t.b.c x.t.m.a x.t.m.n x.t.m.c x.b.b.a x.b.b.n x.b.b.c x.b.m.a x.b.m.n x.b.m.c x.sp.a x.sp.n x.sp.c A ids.length C w (fun u w' => u = .bool (decide ((vocOf s T).Canon ids)) ∧ Below w.heap.size w w') ?_) (by rintro v w' ⟨rfl, h⟩; exact ⟨rfl, h⟩)
  intro w1 hw1 w2 hw2
  have hb1 : Below w.heap.size w w1 := by subst hw1; exact below_alloc _ _
  have b2 : Below w1.heap.size w1 w2 := by subst hw2; exact drew_on w1
  have hb2 := below_then hb1 b2
  have l2 : w2.heap[w.heap.size]? = some (.cells x.cells tRv (0, 0)) := held_on b2 (by subst hw1; exact alloc_new _ _)
  refine ⟨_, _, _, _, _, _, _, _, _, _, _, _, _, _, _, agg5 l2, _, _, _, _, _, _, _, _, _, _, _, _, _, _, _, agg5 l2, ?_⟩
  refine (refItems_spec w2 x s T (h.on hb2) A C ids (hr.on hb2) (by omega) hh).mono ?_
  rintro e w3 ⟨⟨a, n, c⟩, rfl, hi, b3⟩
  have hb3 := below_then hb2 b3
  have hn := hi.n
  change n = _ at hn
  subst hn
  have hlen := itemsAll_len (s := s) h.ok ids
  refine ⟨_, _, _, rfl, agg5 (held_on b3 l2), ?_⟩
  refine (refVEncode_spec w3 x s T (h.on hb3) a c _ hi.r (by omega) (Voc.itemsAll_ok h.vok hh)).mono ?_
  rintro e w4 ⟨l, rfl, he, b4, _⟩
  have hb4 := below_then hb3 b4
  have hel := encode_len (s := s) (T := T) (Z := (vocOf s T).itemsAll ids)
  have hln := he.n
  have hlr := he.r
  refine ⟨l.a, l.n, l.c, rfl, ?_⟩
  have hcan : (vocOf s T).Canon ids ↔ (vocOf s T).encode ((vocOf s T).itemsAll ids) = ids := Iff.rfl
  generalize (vocOf s T).encode ((vocOf s T).itemsAll ids) = E at hln hlr hel hcan
  refine CondP.mk (fun h0 => ⟨?_, hb4⟩) fun h0 => ?_
  · have h0 : ¬ (l.n : Int) = (ids.length : Int) := by simpa using h0
    rw [decide_eq_false fun hc => h0 (by have := hcan.1 hc; rw [hln, this])]
  · have h0 : (l.n : Int) = (ids.length : Int) := by simpa using h0
    intro I hI
    have key := climb2 (α := Bool × World) E.length (fun i y => (∀ j (h1 : j < E.length) (h2 : j < ids.length), j < i → E[j] = ids[j]) ∧ Below w4.heap.size w4 y.2) (fun i y => I [.int .i64 (i : Int), .bool y.1] y.2) (false, w4) ⟨fun j _ _ hj => absurd hj (Nat.not_lt_zero j), Below.refl _ _⟩ ?_ ?_
    · exact key
    · rintro i hi2 ih ⟨y, q⟩ ⟨hinv, hB⟩
      change Below w4.heap.size w4 q at hB
      have hi3 : i < ids.length := by omega
      refine hI _ y q (CondP.yes (by simp; omega) ?_)
      intro w6 hw6
      have b6 : Below q.heap.size q w6 := by subst hw6; exact drew_on q
      have hB6 := below_then hB b6
      have hw6' := below_then hb4 hB6
      obtain ⟨p, hp, c0⟩ := cell_rw (hlr.on hB6) hi2 rfl
      obtain ⟨p', hp', c0'⟩ := cell_rw (hr.on hw6') hi3 rfl
      refine NilC.mk p hp ⟨by omega, by omega, _, c0, NilC.mk p' hp' ⟨by omega, by omega, _, c0', CondP.mk (fun hne => ⟨?_, hw6'⟩) fun hne => Ar.nat (i + 1) rfl (by omega) (ih (y, w6) ⟨fun j h1 h2 hj => ?_, hB6⟩)⟩⟩
      · have hne : ¬ E[i] = ids[i] := by simpa using hne
        rw [decide_eq_false fun hc => ?_]
        have e := hcan.1 hc
        subst e
        exact hne rfl
      · by_cases e : j = i
        · subst e
          simpa using hne
        · exact hinv j h1 h2 (by omega)
    · rintro ⟨y, q⟩ ⟨hinv, hB⟩
      refine hI _ y q (CondP.no (by simp; omega) ⟨?_, below_then hb4 hB⟩)
      rw [decide_eq_true (hcan.2 (List.ext_getElem (by omega) fun j h1 h2 => hinv j h1 h2 h1))]
abbrev slRv (x : RvW) : List Value := [x.t.b.v, x.t.m.v, x.b.b.v, x.b.m.v, x.sp.v]
theorem ones_rv (x : RvW) : ∀ v ∈ slRv x, v.oneCell' = true := by
  intro v hv
  simp only [slRv, List.mem_cons, List.not_mem_nil, or_false] at hv
  rcases hv with rfl | rfl | rfl | rfl | rfl <;> rfl
theorem soft_rv (x : RvW) : ∀ v ∈ x.cells, ¬ Solid v := by
  intro v hv
  simp only [List.mem_toArray, List.mem_cons, List.not_mem_nil, or_false] at hv
  rcases hv with rfl | rfl | rfl | rfl | rfl <;> (rintro (⟨k, n, h⟩ | ⟨s, h⟩) <;> cases h)
theorem BtAt.past {w w' : World} {x : RtW} {cls : List (Int × Int × Int)} {js : List (Int × Int)} {b : Nat} {c : Array Value} {T : TypeId} {fz : Nat × Nat} (h : BtAt w x cls js) (hb : w.heap[b]? = some (.cells c T fz)) (hc : ∀ v ∈ c, ¬ Solid v) (hne : ∀ j, j < w.heap.size → j ≠ b → w'.heap[j]? = w.heap[j]?) (hs : w.heap.size ≤ w'.heap.size) : BtAt w' x cls js :=
  ⟨h.n1, h.r1.past (fun y => ⟨_, rfl, solid_int _ _⟩) hb hc hne hs, h.n2, h.r2.past (fun y => ⟨_, rfl, solid_int _ _⟩) hb hc hne hs⟩
theorem RvAt.past {w w' : World} {x : RvW} {s : SpecV} {T : List Ent} {b : Nat} {c : Array Value} {ty : TypeId} {fz : Nat × Nat} (h : RvAt w x s T) (hb : w.heap[b]? = some (.cells c ty fz)) (hc : ∀ v ∈ c, ¬ Solid v) (hne : ∀ j, j < w.heap.size → j ≠ b → w'.heap[j]? = w.heap[j]?) (hs : w.heap.size ≤ w'.heap.size) : RvAt w' x s T :=
  ⟨⟨h.t.n1, h.t.r1.past (fun y => ⟨_, rfl, .inr ⟨_, rfl⟩⟩) hb hc hne hs, h.t.k1, h.t.n2, h.t.r2.past (fun y => ⟨_, rfl, solid_int _ _⟩) hb hc hne hs, h.t.k2⟩, h.b.past hb hc hne hs, h.sn, h.sr.past (fun y => ⟨_, rfl, solid_int _ _⟩) hb hc hne hs, h.ok, h.right, h.ids, h.nodup⟩
abbrev rv0 : RvW := ⟨⟨sl0, sl0⟩, ⟨sl0, sl0⟩, sl0⟩
theorem build_parts {s : SpecV} {T : List Ent} (h : buildV s = .ok T) (hr : s.ranked = false) : tokNew begins 0 s.merges = .ok T ∧ markErr [] 0 s.specials = none ∧ (∀ y ∈ s.specials, (T.length : Int) ≤ y.1) := by
  unfold buildV loadT at h
  rw [hr] at h
  simp only [Bool.false_eq_true, if_false] at h
  cases ht : tokNew begins 0 s.merges with
  | error q => rw [ht] at h; cases h
  | ok T' =>
    rw [ht] at h
    dsimp only at h
    cases hm : markErr [] 0 s.specials with
    | some q => rw [hm] at h; cases h
    | none =>
      rw [hm] at h
      dsimp only at h
      cases hf : s.specials.findIdx? (fun y => decide (y.1 < (T'.length : Int))) with
      | some i => rw [hf] at h; cases h
      | none =>
        rw [hf] at h
        cases h
        refine ⟨rfl, rfl, fun y hy => ?_⟩
        have := List.findIdx?_eq_none_iff.1 hf y hy
        simpa using this
theorem refVNew_spec (w : World) (x : SpecW) (s : SpecV) (h : SpecAt w x s) (hr : s.ranked = false) (hright : s.right = true) (T : List Ent) (hT : buildV s = .ok T) :
    Calls Tryz.prog 110 #[x.v] w fun e w' => ∃ y : RvW, e = .returned (.tuple #[y.v, .int .i64 0, .int .i64 0, .int .i64 0]) ∧ RvAt w' y s T ∧ Below w.heap.size w w' ∧ Fresh w.heap.size y.t ∧ y.b = ⟨x.s4, x.s5⟩ ∧ y.sp = x.s3 := by
  obtain ⟨hT1, hT2, hT3⟩ := build_parts hT hr
  have hsm := right_small hright
  have hnd : (s.specials.map (·.1)).Nodup := by simpa using markErr_nodup hT2 (by simp)
  refine calls_ret (vc110_calls x.ranked x.s1.a x.s1.n x.s1.c x.s2.a x.s2.n x.s2.c x.s3.a x.s3.n x.s3.c x.s4.a x.s4.n x.s4.c x.s5.a x.s5.n x.s5.c w (fun u w' => ∃ y : RvW, u = .tuple #[y.v, .int .i64 0, .int .i64 0, .int .i64 0] ∧ RvAt w' y s T ∧ Below w.heap.size w w' ∧ Fresh w.heap.size y.t ∧ y.b = ⟨x.s4, x.s5⟩ ∧ y.sp = x.s3) ?_) (by rintro v w' ⟨y, rfl, h⟩; exact ⟨y, rfl, h⟩)
  intro w1 hw1 w2 hw2
  have hb1 : Below w.heap.size w w1 := by subst hw1; exact below_alloc _ _
  have b2 : Below w1.heap.size w1 w2 := by subst hw2; exact below_alloc _ _
  have hb2 := below_then hb1 b2
  have p2 : w2.heap[w.heap.size]? = some (.cells x.cells tSpec (0, 0)) := held_on b2 (by subst hw1; exact alloc_new _ _)
  have z2 : w2.heap[w1.heap.size]? = some (.cells rv0.cells tRv (0, 0)) := by subst hw2; exact alloc_new _ _
  refine ⟨_, _, _, _, _, _, _, _, _, _, _, _, _, _, _, _, agg_cells p2, ?_⟩
  refine (refLoad_spec w2 x s (h.on hb2) hr hsm.1).mono ?_
  rintro e w3 ⟨u, rfl, t, n, e, rfl, b3, hp⟩
  rw [hT1] at hp
  obtain ⟨rfl, rfl, ht, htok, hfr⟩ := hp
  refine ⟨_, _, _, _, _, _, _, _, rfl, ?_⟩
  intro w4 hw4
  refine storeP_new [sl0.v, sl0.v] [t.b.v, t.m.v] rfl (ones_slices _ _) w4 hw4 ?_
  intro w5 h5 hz5 b5
  have b35 := below_then b3 b5
  have hb5 := below_then hb2 b35
  have p5 := held_on b35 p2
  have z5 := held_on b35 z2
  refine CondP.no rfl ⟨_, _, _, ptr_add0 _ _ p5 3, ?_⟩
  have hn3 := h.n3
  have hS := (h.on hb5).r3
  obtain ⟨⟨a3, n3, c3⟩, hx3⟩ : ∃ y : Sl, y = x.s3 := ⟨_, rfl⟩
  have e3 : n3 = s.specials.length := by rw [← hx3] at hn3; exact hn3
  have hS' : Rw encSpecial 2 w5 a3 s.specials := by rw [← hx3] at hS; exact hS
  rw [show x.s3.a = a3 by rw [← hx3], show x.s3.n = s.specials.length from hn3, show x.s3.c = c3 by rw [← hx3]]
  refine (refCheck_spec w5 a3 c3 s.specials hS' hsm.2.2.1).mono ?_
  rintro e w7 ⟨rfl, b7⟩
  have hck : checkV s.specials = .tuple #[.int .i64 (s.specials.length : Int), .int .i64 0] := by rw [checkV, hT2]
  refine ⟨_, _, by rw [hck], CondP.no rfl ?_⟩
  have hb7 := below_then hb5 b7
  intro I hI
  have key := climb2 (α := Int × Int × Int × World) s.specials.length (fun i y => Below w7.heap.size w7 y.2.2.2) (fun i y => I [.int .i64 (i : Int), .int .i64 y.1, .int .i64 y.2.1, .int .i64 y.2.2.1] y.2.2.2) (0, 0, 0, w7) (Below.refl _ _) ?_ ?_
  · exact key
  · rintro i hi ih ⟨y5, y4, y3, q⟩ hB
    change Below w7.heap.size w7 q at hB
    have pq := held_on hB (held_on b7 p5)
    have hfew := hsm.2.2.1
    refine hI _ y5 y4 y3 q ⟨_, _, _, ptr_add0 _ _ pq 3, CondP.yes (by simp; omega) ?_⟩
    intro w10 hw10
    have b10 : Below q.heap.size q w10 := by subst hw10; exact drew_on q
    have hB10 := below_then hB b10
    obtain ⟨p, hp, _, hc⟩ := ((h.on (below_then hb7 hB10)).r3) i _ (List.getElem?_eq_getElem hi)
    refine ⟨_, _, _, ptr_add0 _ _ (held_on b10 pq) 3, NilC.mk p hp ⟨by omega, by omega, _, hc 0 _ rfl, _, _, _, ptr_add0 _ _ (held_on hB10 (held_on b7 h5)) 0, CondP.no ?_ (Ar.nat (i + 1) rfl (by omega) (ih (y5, y4, y3, w10) hB10))⟩⟩
    have := hT3 _ (List.getElem_mem hi)
    have := ht.n1
    exact decide_eq_false (by omega)
  · rintro ⟨y5, y4, y3, q⟩ hB
    change Below w7.heap.size w7 q at hB
    have pq := held_on hB (held_on b7 p5)
    have zq := held_on hB (held_on b7 z5)
    have tq := held_on hB (held_on b7 h5)
    have hbq := below_then hb7 hB
    have hq := h.on hbq
    refine hI _ y5 y4 y3 q ⟨_, _, _, ptr_add0 _ _ pq 3, CondP.no (by simp; omega) ⟨_, _, _, _, _, _, agg2 tq, _, _, _, ptr_add0 _ _ pq 4, _, _, _, ptr_add0 _ _ pq 5, _, _, _, ptr_add0 _ _ pq 3, ?_⟩⟩
    refine storeP_cells zq (slRv ⟨t, ⟨x.s4, x.s5⟩, x.s3⟩) rfl (ones_rv ⟨t, ⟨x.s4, x.s5⟩, x.s3⟩) ?_
    intro w12 h12 hs12 hz12 hB12
    have hv : RvAt q ⟨t, ⟨x.s4, x.s5⟩, x.s3⟩ s T := ⟨((ht.on b5).on b7).on hB, ⟨hq.n4, hq.r4, hq.n5, hq.r5⟩, hq.n3, hq.r3, htok, hright, hT3, hnd⟩
    exact ⟨_, _, _, _, _, _, _, _, _, _, _, _, _, _, _, agg5 (x := ⟨t, ⟨x.s4, x.s5⟩, x.s3⟩) h12, ⟨t, ⟨x.s4, x.s5⟩, x.s3⟩, rfl, hv.past zq (soft_rv rv0) (fun j _ hj => hs12 j hj) (Nat.le_of_eq hz12.symm), hB12 _ _ hb1.size hbq, hfr.mono hb2.size, rfl, rfl⟩
theorem refOf_spec (w : World) (x : SpecW) (s : SpecV) (h : SpecAt w x s) (hr : s.ranked = false) (hright : s.right = true) (T : List Ent) (hT : buildV s = .ok T) :
    Calls Tryz.prog 66 #[x.v] w fun e w' => ∃ y : RvW, e = .returned y.v ∧ RvAt w' y s T ∧ Below w.heap.size w w' ∧ Fresh w.heap.size y.t ∧ y.b = ⟨x.s4, x.s5⟩ ∧ y.sp = x.s3 := by
  refine calls_ret (vc66_calls x.ranked x.s1.a x.s1.n x.s1.c x.s2.a x.s2.n x.s2.c x.s3.a x.s3.n x.s3.c x.s4.a x.s4.n x.s4.c x.s5.a x.s5.n x.s5.c w (fun u w' => ∃ y : RvW, u = y.v ∧ RvAt w' y s T ∧ Below w.heap.size w w' ∧ Fresh w.heap.size y.t ∧ y.b = ⟨x.s4, x.s5⟩ ∧ y.sp = x.s3) ?_) (by rintro v w' ⟨y, rfl, h⟩; exact ⟨y, rfl, h⟩)
  intro w1 hw1 w2 hw2
  have hb1 : Below w.heap.size w w1 := by subst hw1; exact below_alloc _ _
  have b2 : Below w1.heap.size w1 w2 := by subst hw2; exact below_alloc _ _
  have hb2 := below_then hb1 b2
  have p2 : w2.heap[w.heap.size]? = some (.cells x.cells tSpec (0, 0)) := held_on b2 (by subst hw1; exact alloc_new _ _)
  have z2 : w2.heap[w1.heap.size]? = some (.cells rv0.cells tRv (0, 0)) := by subst hw2; exact alloc_new _ _
  refine ⟨_, _, _, _, _, _, _, _, _, _, _, _, _, _, _, _, agg_cells p2, ?_⟩
  refine (refVNew_spec w2 x s (h.on hb2) hr hright T hT).mono ?_
  rintro e w3 ⟨y, rfl, hy, b3, f3, e1, e2⟩
  refine ⟨_, _, _, _, _, _, _, _, _, _, _, _, _, _, _, _, _, _, rfl, ?_⟩
  intro w4 hw4
  refine storeP_new (slRv rv0) (slRv y) rfl (ones_rv y) w4 hw4 ?_
  intro w5 h5 hz5 b5
  have b35 := below_then b3 b5
  have z5 := held_on b35 z2
  refine ⟨_, _, _, _, _, _, _, _, _, _, _, _, _, _, _, agg5 (x := y) h5, ?_⟩
  refine storeP_cells z5 (slRv y) rfl (ones_rv y) ?_
  intro w6 h6 hs6 hz6 hB6
  exact ⟨_, _, _, _, _, _, _, _, _, _, _, _, _, _, _, agg5 (x := y) h6, y, rfl, (hy.on b5).past z5 (soft_rv rv0) (fun j _ hj => hs6 j hj) (Nat.le_of_eq hz6.symm), hB6 _ _ hb1.size (below_then hb2 b35), f3.mono hb2.size, e1, e2⟩
end Go.Proofs.YtboemnagahmlkaaGreat.Eng

/- Some right spec: the reference's vocabularies of a statement, walked by the engine. -/
set_option linter.unusedVariables false
set_option linter.unusedSimpArgs false
set_option maxRecDepth 100000
namespace Go.Proofs.YtboemnagahmlkaaGreat.Eng
open Go Go.RowKit
abbrev tSps : TypeId := 25
abbrev tCls : TypeId := 23
abbrev tJns : TypeId := 24
theorem elSpecial : ElT encSpecial 2 tSps tSp 24 := ⟨fun _ => rfl, by decide, fun x => ones_special _ _, undSps, _, infoSp, rfl⟩
theorem ElT.pushAt {α : Type} {enc : α → List Value} {sz bytes : Nat} {t e : TypeId} (E : ElT enc sz t e bytes) {B : Nat} {w : World} {s : Sl} {xs : List α} (hown : w.ownsRow B e sz s.v s.n (xs.flatMap enc)) (x : α) {b : Nat} {T : TypeId} {fz : Nat × Nat} (hx : w.heap[b]? = some (.cells (enc x).toArray T fz)) (hB : B ≤ w.heap.size) (hn : s.n ≤ 1000000000) (hb : bytes ≤ 1000) :
    ∃ (l : Sl) (w4 : World), l.n = s.n + 1 ∧ (Builtin.append_ #[t, t] t #[.slice s.a s.n s.c, .slice (some ⟨b, 0, none⟩) 1 1]).run Tryz.prog w = .ok (.slice l.a l.n l.c) w4 ∧ w4.ownsRow B e sz l.v l.n ((xs ++ [x]).flatMap enc) ∧ (∀ w0, Below B w0 w → Below B w0 w4) ∧ (∀ k, k < w.heap.size → s.v.ownBlock ≠ some k → w4.heap[k]? = w.heap[k]?) := by
  obtain ⟨z, hi, hzs⟩ := E.hz
  have hmul : (s.n + 1) * bytes ≤ (1000000000 + 1) * 1000 := Nat.mul_le_mul (by omega) hb
  obtain ⟨A, C, w4, h1, h2, h3, h4⟩ := push_any (enc := enc) (sz := sz) E.hsz E.h0 E.h1 t e E.ht hi hzs hown x hx hB (by omega) (by omega)
  exact ⟨⟨A, s.n + 1, C⟩, w4, rfl, h1, h2, h3, h4⟩
theorem Rw.cut {α : Type} {enc : α → List Value} {sz : Nat} {w : World} {a : Option Addr} {xs : List α} (h : Rw enc sz w a xs) (i m : Nat) (hm : xs.length ≤ m) : Rw enc sz w (slBase a i m sz) (xs.drop i) := by
  intro j x hj
  rw [List.getElem?_drop] at hj
  have hlt := (List.getElem?_eq_some_iff.1 hj).1
  obtain ⟨p, rfl, hp, hc⟩ := h _ _ hj
  unfold slBase
  rw [if_neg (by omega)]
  refine ⟨p.add (i * sz), rfl, by rw [add_block]; exact hp, fun k v hk => ?_⟩
  rw [Addr.add_add p, ← Nat.add_mul]
  exact hc k v hk
theorem Rw.take {α : Type} {enc : α → List Value} {sz : Nat} {w : World} {a : Option Addr} {xs : List α} (h : Rw enc sz w a xs) (n : Nat) : Rw enc sz w a (xs.take n) := by
  intro j x hj
  rw [List.getElem?_take] at hj
  split at hj
  · exact h j x hj
  · cases hj
theorem markErr_ok : ∀ (xs ys : List (Int × Bs)) (i : Nat), markErr ys i xs = none → ∀ x ∈ xs, specialOk x = true
  | [], _, _, _, x, hx => by cases hx
  | y :: xs, ys, i, h, x, hx => by
    rw [markErr] at h
    split at h
    · rename_i h0
      rcases List.mem_cons.1 hx with rfl | hx
      · cases hs : specialOk x with
        | true => rfl
        | false => rw [markAdd, if_pos hs] at h0; cases h0
      · exact markErr_ok xs _ _ h x hx
    · cases h
/-- How far a spec is made. -/
structure SomeSt (w4 q : World) (m : Sl) (sp cl jn : Sl) (xs : List (Int × Bs)) (cls : List (Int × Int × Int)) (js : List (Int × Int)) : Prop where
  blk : q.heap[w4.heap.size]? = some (.cells #[.bool false, m.v, sl0.v, sp.v, cl.v, jn.v] tSpec (0, 0))
  o1 : q.ownsRow w4.heap.size tSp 2 sp.v sp.n (xs.flatMap encSpecial)
  o2 : q.ownsRow w4.heap.size tCl 3 cl.v cl.n (cls.flatMap encClass)
  o3 : q.ownsRow w4.heap.size tJn 2 jn.v jn.n (js.flatMap encPair)
  cok : cls.all classOk = true
  jok : js.all joinOk = true
  mrk : markErr [] 0 xs = none
  xid : ∀ y ∈ xs, 1000 ≤ y.1 ∧ y.1 < 1006
  asc : (xs.map (·.1)).Pairwise (· < ·)
  l1 : xs.length ≤ 6
  l2 : cls.length ≤ 8
  l3 : js.length ≤ 8
  B : Below w4.heap.size w4 q
theorem SomeSt.on {w4 q q' : World} {m sp cl jn : Sl} {xs : List (Int × Bs)} {cls : List (Int × Int × Int)} {js : List (Int × Int)} (h : SomeSt w4 q m sp cl jn xs cls js) (hb : Below q.heap.size q q') : SomeSt w4 q' m sp cl jn xs cls js :=
  ⟨held_on hb h.blk, own_on h.o1 hb, own_on h.o2 hb, own_on h.o3 hb, h.cok, h.jok, h.mrk, h.xid, h.asc, h.l1, h.l2, h.l3, h.B.trans (hb.mono h.B.size)⟩
def someS (es : List Ent) (xs : List (Int × Bs)) (cls : List (Int × Int × Int)) (js : List (Int × Int)) : SpecV := { merges := mergesOf es, specials := xs, classes := cls, joins := js }
theorem some_right {es : List Ent} (h : TOk es) {xs : List (Int × Bs)} {cls : List (Int × Int × Int)} {js : List (Int × Int)} (cok : cls.all classOk = true) (jok : js.all joinOk = true) (mk : markErr [] 0 xs = none) (l1 : xs.length ≤ 6) (l2 : cls.length ≤ 8) (l3 : js.length ≤ 8) : (someS es xs cls js).right = true := by
  have hm := h.most
  have hml := merges_length h
  have e1 : allOk (mergesOf es) 744 mergeOk = true := by
    rw [allOk, decide_eq_true (by omega), Bool.true_and, List.all_eq_true]
    intro m hm
    obtain ⟨k, hk⟩ := List.getElem?_of_mem hm
    have hkl := (List.getElem?_eq_some_iff.1 hk).1
    obtain ⟨h1, h2⟩ := merges_at h hk
    exact decide_eq_true (by omega)
  have e2 : allOk xs 32 specialOk = true := by
    rw [allOk, decide_eq_true (by omega), Bool.true_and, List.all_eq_true]
    exact markErr_ok xs [] 0 mk
  have e3 : allOk cls 64 classOk = true := by rw [allOk, decide_eq_true (by omega), cok]; rfl
  have e4 : allOk js 64 joinOk = true := by rw [allOk, decide_eq_true (by omega), jok]; rfl
  show (((((true && allOk (mergesOf es) 744 mergeOk) && allOk ([] : List Bs) 744 thingOk) && allOk xs 32 specialOk) && allOk cls 64 classOk) && allOk js 64 joinOk) = true
  rw [e1, e2, e3, e4]
  rfl
theorem some_build {es : List Ent} (h : TOk es) (hnew : tokNew begins 0 (mergesOf es) = .ok es) {xs : List (Int × Bs)} {cls : List (Int × Int × Int)} {js : List (Int × Int)} (mk : markErr [] 0 xs = none) (xid : ∀ y ∈ xs, 1000 ≤ y.1 ∧ y.1 < 1006) : buildV (someS es xs cls js) = .ok es := by
  have hm := h.most
  unfold buildV loadT someS
  simp only [Bool.false_eq_true, if_false, hnew, mk]
  have : xs.findIdx? (fun y => decide (y.1 < (es.length : Int))) = none := by
    rw [List.findIdx?_eq_none_iff]
    intro y hy
    have := xid y hy
    exact decide_eq_false (by omega)
  rw [this]
/-- The special texts that are taken. -/
def someX (ys : List (Int × Bs)) : Nat → List (Int × Bs)
  | 0 => []
  | i + 1 => match markErr [] 0 (someX ys i ++ [(((1000 + i : Nat) : Int), (ys.getD i (0, [])).2)]) with
    | none => someX ys i ++ [(((1000 + i : Nat) : Int), (ys.getD i (0, [])).2)]
    | some _ => someX ys i
theorem someX_step {ys : List (Int × Bs)} {i : Nat} (hi : i < ys.length) : someX ys (i + 1) = match markErr [] 0 (someX ys i ++ [(((1000 + i : Nat) : Int), ys[i].2)]) with
    | none => someX ys i ++ [(((1000 + i : Nat) : Int), ys[i].2)]
    | some _ => someX ys i := by
  have e : ys.getD i (0, []) = ys[i] := by simp [List.getD, hi]
  rw [someX, e]
theorem filter_next {α : Type} (p : α → Bool) (xs : List α) {i : Nat} (hi : i < xs.length) : (xs.take (i + 1)).filter p = (xs.take i).filter p ++ (if p xs[i] = true then [xs[i]] else []) := by
  rw [List.take_add_one, List.getElem?_eq_getElem hi, List.filter_append]
  cases h : p xs[i] <;> simp [h]
/-- The spec of a case. -/
def someV (l : List Int) (cs : List (Int × Int × Int)) (gs : List (Int × Int)) (ys : List (Int × Bs)) : SpecV :=
  someS (growV l 30) (someX ys (min ys.length 6)) ((cs.take (min cs.length 8)).filter classOk) ((gs.take (min gs.length 8)).filter joinOk)
def SomeR (s0 : SpecV) (w : World) (u : Value) (w' : World) : Prop := ∃ (x : SpecW) (s : SpecV) (T : List Ent), u = x.v ∧ SpecAt w' x s ∧ s.ranked = false ∧ s.right = true ∧ buildV s = .ok T ∧ TOk T ∧ s.specials.length ≤ 6 ∧ (∀ y ∈ s.specials, 1000 ≤ y.1 ∧ y.1 < 1006) ∧ (s.specials.map (·.1)).Pairwise (· < ·) ∧ s = s0 ∧ Below w.heap.size w w'
theorem refSome_spec (w : World) (A1 : Option Addr) (C1 : Nat) (l : List Int) (h1 : Rw enc16 1 w A1 l) (A2 : Option Addr) (C2 : Nat) (cs : List (Int × Int × Int)) (h2 : Rw encClass 3 w A2 cs) (A3 : Option Addr) (C3 : Nat) (gs : List (Int × Int)) (h3 : Rw encPair 2 w A3 gs) (A4 : Option Addr) (C4 : Nat) (ys : List (Int × Bs)) (h4 : Rw encSpecial 2 w A4 ys)
    (hc2 : cs.length ≤ C2) (hc3 : gs.length ≤ C3) :
    Calls Tryz.prog 65 #[.slice A1 l.length C1, .slice A2 cs.length C2, .slice A3 gs.length C3, .slice A4 ys.length C4] w fun e w' => ∃ u, e = .returned u ∧ SomeR (someV l cs gs ys) w u w' := by
  refine vc65_calls A1 l.length C1 A2 cs.length C2 A3 gs.length C3 A4 ys.length C4 w (SomeR (someV l cs gs ys) w) ?_
  intro w1 hw1
  have hb1 : Below w.heap.size w w1 := by subst hw1; exact below_alloc _ _
  have z1 : w1.heap[w.heap.size]? = some (.cells zeroX.cells tSpec (0, 0)) := by subst hw1; exact alloc_new _ _
  refine (refGrow_spec w1 A1 C1 l (h1.on hb1)).mono ?_
  rintro e w2 ⟨t, es, rfl, ht, htok, hnew, hes, b2⟩
  refine ⟨_, _, _, _, _, _, rfl, ?_⟩
  intro w3 hw3
  refine storeP_new [sl0.v, sl0.v] [t.b.v, t.m.v] rfl (ones_slices _ _) w3 hw3 ?_
  intro w4 h4' hz4 b4
  have b14 := below_then b2 b4
  have hb4 := below_then hb1 b14
  have z4 := held_on b14 z1
  have hlt4 : w.heap.size < w4.heap.size := (Array.getElem?_eq_some_iff.1 z4).1
  refine ⟨_, _, _, ptr_add0 _ _ h4' 1, ?_⟩
  intro w5 hw5
  refine store_spec ⟨false, t.m, sl0, sl0, sl0, sl0⟩ w5 hw5 ?_
  intro w6 h6 b6
  have ht4 := ht.on b4
  have fin : ∀ (q : World) (sp cl jn : Sl) (xs : List (Int × Bs)) (cls : List (Int × Int × Int)) (js : List (Int × Int)), SomeSt w4 q t.m sp cl jn xs cls js → xs = someX ys (min ys.length 6) → cls = (cs.take (min cs.length 8)).filter classOk → js = (gs.take (min gs.length 8)).filter joinOk →
      StoreP q (nb w) (fun w7 => ∃ res0 : Bool, ∃ res1A : Option Addr, ∃ res1N : Nat, ∃ res1C : Nat, ∃ res2A : Option Addr, ∃ res2N : Nat, ∃ res2C : Nat, ∃ res3A : Option Addr, ∃ res3N : Nat, ∃ res3C : Nat, ∃ res4A : Option Addr, ∃ res4N : Nat, ∃ res4C : Nat, ∃ res5A : Option Addr, ∃ res5N : Nat, ∃ res5C : Nat, (w7.cell? (nb w) = some (Value.bool res0) ∧ w7.cell? ((nb w).add 1) = some (Value.slice res1A res1N res1C) ∧ w7.cell? ((nb w).add 2) = some (Value.slice res2A res2N res2C) ∧ w7.cell? ((nb w).add 3) = some (Value.slice res3A res3N res3C) ∧ w7.cell? ((nb w).add 4) = some (Value.slice res4A res4N res4C) ∧ w7.cell? ((nb w).add 5) = some (Value.slice res5A res5N res5C) ∧ True) ∧
        SomeR (someV l cs gs ys) w (SpecW.v ⟨res0, ⟨res1A, res1N, res1C⟩, ⟨res2A, res2N, res2C⟩, ⟨res3A, res3N, res3C⟩, ⟨res4A, res4N, res4C⟩, ⟨res5A, res5N, res5C⟩⟩) w7)
      [Value.bool false, Value.slice t.m.a t.m.n t.m.c, Value.slice none 0 0, Value.slice sp.a sp.n sp.c, Value.slice cl.a cl.n cl.c, Value.slice jn.a jn.n jn.c] 0 := by
    intro q sp cl jn xs cls js hq ex ec ej
    have zq := Below.keeps hq.B hlt4 z4
    have hbq : Below w.heap.size w q := hb4.trans (hq.B.mono (by omega))
    have r1 := LsAt.of_own elSpecial hq.o1
    have r2 := Rw.of_own hq.o2 (fun _ => rfl) (by decide)
    have r3 := Rw.of_own hq.o3 (fun _ => rfl) (by decide)
    have htq := ht4.on hq.B
    have hS : SpecAt q ⟨false, t.m, sl0, sp, cl, jn⟩ (someS es xs cls js) := ⟨rfl, htq.n2, htq.r2, rfl, fun j x hj => (by cases hj), r1.n, r1.r, r2.2, r2.1, r3.2, r3.1⟩
    refine ret_specK (w := w) (w6 := q) (fun x w7 => SomeR (someV l cs gs ys) w x.v w7) ⟨false, t.m, sl0, sp, cl, jn⟩ zq rfl ?_
    intro w7 hB7 hs7
    have hz7 : q.heap.size ≤ w7.heap.size := (hB7 q (Below.refl _ _)).size
    exact ⟨⟨false, t.m, sl0, sp, cl, jn⟩, someS es xs cls js, es, rfl, hS.past zq (by
      intro v hv
      simp only [List.mem_toArray, List.mem_cons, List.not_mem_nil, or_false] at hv
      rcases hv with rfl | rfl | rfl | rfl | rfl | rfl <;> (rintro (⟨k, n, h⟩ | ⟨s, h⟩) <;> cases h)) (fun j _ hj => hs7 j hj) hz7, rfl, some_right htok hq.cok hq.jok hq.mrk hq.l1 hq.l2 hq.l3, some_build htok hnew hq.mrk hq.xid, htok, hq.l1, hq.xid, hq.asc, by rw [someV, ← hes, ← ex, ← ec, ← ej], hB7 w hbq⟩
  have start : SomeSt w4 w6 t.m sl0 sl0 sl0 [] [] [] := ⟨h6, own_none _ _ _ _ encSpecial, own_none _ _ _ _ encClass, own_none _ _ _ _ encPair, rfl, rfl, rfl, fun y hy => (by cases hy), List.Pairwise.nil, Nat.zero_le _, Nat.zero_le _, Nat.zero_le _, b6⟩
  have soft : ∀ {q : World} {sp cl jn : Sl} {xs : List (Int × Bs)} {cls : List (Int × Int × Int)} {js : List (Int × Int)}, SomeSt w4 q t.m sp cl jn xs cls js → sp.v.ownBlock ≠ some w4.heap.size ∧ cl.v.ownBlock ≠ some w4.heap.size ∧ jn.v.ownBlock ≠ some w4.heap.size := fun h => ⟨row_ne_blk h.o1 h.blk (by decide), row_ne_blk h.o2 h.blk (by decide), row_ne_blk h.o3 h.blk (by decide)⟩
  intro I4 hI4
  have key := climb2 (α := World) (min cs.length 8) (fun i q => ∃ (cl : Sl) (cls : List (Int × Int × Int)), SomeSt w4 q t.m sl0 cl sl0 [] cls [] ∧ cls.length ≤ i ∧ cls = (cs.take i).filter classOk) (fun i q => I4 [.int .i64 (i : Int)] q) w6 ⟨sl0, [], start, Nat.zero_le _, rfl⟩ ?_ ?_
  · exact key
  · rintro i hi ih q ⟨cl, cls, hst, hcl, hce⟩
    have hi1 : i < cs.length := by omega
    have hi2 : i < 8 := by omega
    refine hI4 _ _ (CondP.yes (by simp; omega) (CondP.yes (by simp; omega) ?_))
    intro J hJ
    have hJ' : ∀ (v : World) (cl : Sl) (cls : List (Int × Int × Int)), SomeSt w4 v t.m sl0 cl sl0 [] cls [] → cls.length ≤ i + 1 → cls = (cs.take (i + 1)).filter classOk → J [] v := fun v cl cls h1 h2 h3 => hJ v (Ar.nat (i + 1) rfl (by omega) (ih v ⟨cl, cls, h1, h2, h3⟩))
    have hbq : Below w.heap.size w q := hb4.trans (hst.B.mono (by omega))
    have hbt : BtAt q ⟨⟨slBase A2 i C2 3, i + 1 - i, C2 - i⟩, sl0⟩ [cs[i]] [] := by
      refine ⟨by show i + 1 - i = 1; omega, ?_, rfl, fun j x hj => by cases hj⟩
      have := ((h2.on hbq).cut i C2 hc2).take 1
      rw [List.drop_eq_getElem_cons hi1] at this
      exact this
    refine Ar.nat (i + 1) rfl (by omega) ⟨by omega, by omega, by omega, trivial, trivial, ?_⟩
    refine (refRight_spec q ⟨⟨slBase A2 i C2 3, i + 1 - i, C2 - i⟩, sl0⟩ [cs[i]] [] hbt (by simp) (by simp)).mono ?_
    rintro e w9 ⟨rfl, b9⟩
    have hst9 := hst.on b9
    refine ⟨_, rfl, CondP.mk (fun hok => ?_) fun hno => hJ' w9 cl cls hst9 (by omega) (by rw [filter_next classOk cs hi1, if_neg (by intro h; simp [h] at hno), List.append_nil]; exact hce)⟩
    intro w10 hw10
    have b10 : Below w9.heap.size w9 w10 := by subst hw10; exact drew_on w9
    have hst10 := hst9.on b10
    have hb10 := hbq.trans ((below_then b9 b10).mono hbq.size)
    obtain ⟨p, hp, _, hc⟩ := (h2.on hb10) i _ (List.getElem?_eq_getElem hi1)
    have c0 := hc 0 _ rfl
    rw [add_zero] at c0
    refine ⟨_, _, _, ptr_add0 _ _ hst10.blk 4, NilC.mk p hp ⟨by omega, by omega, _, _, _, ⟨c0, hc 1 _ rfl, hc 2 _ rfl, trivial⟩, ?_⟩⟩
    intro w11 hw11
    have b11 : Below w10.heap.size w10 w11 := by subst hw11; exact below_alloc _ _
    refine ⟨⟨ptr_add0 _ _ (hst10.on b11).blk 4, trivial⟩, ?_⟩
    obtain ⟨a', c', w12, hr12, hu12, hf12, h13⟩ := obj_push1 (P := Tryz.prog) (s := cl) 4 hst10.blk (show 4 < 6 by decide) hst10.o2 (soft hst10).2.1 (Nat.le_refl _) tCls undCls infoCl rfl (by decide) (encClass cs[i]) rfl (ones_class _ _ _) (by have := (Rw.of_own hst10.o2 (fun _ => rfl) (by decide)).2; have := hst10.l2; omega) (by have := (Rw.of_own hst10.o2 (fun _ => rfl) (by decide)).2; have := hst10.l2; omega)
    subst hw11
    refine ⟨a', cl.n + 1, c', w12, hr12, rfl, hu12, hf12, ?_⟩
    intro w13 hw13
    obtain ⟨g1, g2, g3, g4, g5, g6, g7⟩ := h13 w13 hw13
    have hok : classOk cs[i] = true := by simpa using hok
    refine hJ' w13 ⟨a', cl.n + 1, c'⟩ (cls ++ [cs[i]])  ⟨g1, own_none _ _ _ _ encSpecial, by rw [List.flatMap_append]; simpa using g2, own_none _ _ _ _ encPair, by rw [List.all_append, hst10.cok]; simpa using hok, rfl, rfl, fun y hy => (by cases hy), List.Pairwise.nil, Nat.zero_le _, by rw [List.length_append]; simp; omega, Nat.zero_le _, g4 _ hst10.B⟩ (by rw [List.length_append]; simp; omega) (by rw [filter_next classOk cs hi1, if_pos hok, ← hce])
  rintro q ⟨cl, cls, hst, hcl, hce⟩
  refine hI4 _ _ (CondP.mk (fun hlt => CondP.no ?_ ?_) fun hlt => ?_)
  · have := of_decide_eq_true hlt
    exact decide_eq_false (by omega)
  all_goals
    clear hlt
    intro I13 hI13
    have key2 := climb2 (α := World) (min gs.length 8) (fun i q => ∃ (jn : Sl) (js : List (Int × Int)), SomeSt w4 q t.m sl0 cl jn [] cls js ∧ js.length ≤ i ∧ js = (gs.take i).filter joinOk) (fun i q => I13 [.int .i64 (i : Int)] q) q ⟨sl0, [], hst, Nat.zero_le _, rfl⟩ ?_ ?_
    · exact key2
    · rintro i hi ih q ⟨jn, js, hst, hjn, hje⟩
      have hi1 : i < gs.length := by omega
      have hi2 : i < 8 := by omega
      refine hI13 _ _ (CondP.yes (by simp; omega) (CondP.yes (by simp; omega) ?_))
      intro J hJ
      have hJ' : ∀ (v : World) (jn : Sl) (js : List (Int × Int)), SomeSt w4 v t.m sl0 cl jn [] cls js → js.length ≤ i + 1 → js = (gs.take (i + 1)).filter joinOk → J [] v := fun v jn js h1 h2 h3 => hJ v (Ar.nat (i + 1) rfl (by omega) (ih v ⟨jn, js, h1, h2, h3⟩))
      have hbq : Below w.heap.size w q := hb4.trans (hst.B.mono (by omega))
      have hbt : BtAt q ⟨sl0, ⟨slBase A3 i C3 2, i + 1 - i, C3 - i⟩⟩ [] [gs[i]] := by
        refine ⟨rfl, fun j x hj => (by cases hj), by show i + 1 - i = 1; omega, ?_⟩
        have := ((h3.on hbq).cut i C3 hc3).take 1
        rw [List.drop_eq_getElem_cons hi1] at this
        exact this
      refine Ar.nat (i + 1) rfl (by omega) ⟨by omega, by omega, by omega, trivial, trivial, ?_⟩
      refine (refRight_spec q ⟨sl0, ⟨slBase A3 i C3 2, i + 1 - i, C3 - i⟩⟩ [] [gs[i]] hbt (by simp) (by simp)).mono ?_
      rintro e w9 ⟨rfl, b9⟩
      have hst9 := hst.on b9
      refine ⟨_, rfl, CondP.mk (fun hok => ?_) fun hno => hJ' w9 jn js hst9 (by omega) (by rw [filter_next joinOk gs hi1, if_neg (by intro h; simp [h] at hno), List.append_nil]; exact hje)⟩
      intro w10 hw10
      have b10 : Below w9.heap.size w9 w10 := by subst hw10; exact drew_on w9
      have hst10 := hst9.on b10
      have hb10 := hbq.trans ((below_then b9 b10).mono hbq.size)
      obtain ⟨p, hp, _, hc⟩ := (h3.on hb10) i _ (List.getElem?_eq_getElem hi1)
      have c0 := hc 0 _ rfl
      rw [add_zero] at c0
      refine ⟨_, _, _, ptr_add0 _ _ hst10.blk 5, NilC.mk p hp ⟨by omega, by omega, _, _, ⟨c0, hc 1 _ rfl, trivial⟩, ?_⟩⟩
      intro w11 hw11
      have b11 : Below w10.heap.size w10 w11 := by subst hw11; exact below_alloc _ _
      refine ⟨⟨ptr_add0 _ _ (hst10.on b11).blk 5, trivial⟩, ?_⟩
      obtain ⟨a', c', w12, hr12, hu12, hf12, h13⟩ := obj_push1 (P := Tryz.prog) (s := jn) 5 hst10.blk (show 5 < 6 by decide) hst10.o3 (soft hst10).2.2 (Nat.le_refl _) tJns undJns infoJn rfl (by decide) (encPair gs[i]) rfl (ones_pair _ _) (by have := (Rw.of_own hst10.o3 (fun _ => rfl) (by decide)).2; have := hst10.l3; omega) (by have := (Rw.of_own hst10.o3 (fun _ => rfl) (by decide)).2; have := hst10.l3; omega)
      subst hw11
      refine ⟨a', jn.n + 1, c', w12, hr12, rfl, hu12, hf12, ?_⟩
      intro w13 hw13
      obtain ⟨g1, g2, g3, g4, g5, g6, g7⟩ := h13 w13 hw13
      have hok : joinOk gs[i] = true := by simpa using hok
      have k2 : w13.ownsRow w4.heap.size tCl 3 cl.v cl.n (cls.flatMap encClass) := own_same hst10.o2 fun k hk => g5 k (own_lt hst10.o2 k hk).2 (fun e => (soft hst10).2.1 (by rw [← e]; exact hk)) (row_ne_row hst10.o2 hst10.o3 (by decide) k hk)
      refine hJ' w13 ⟨a', jn.n + 1, c'⟩ (js ++ [gs[i]]) ⟨g1, own_none _ _ _ _ encSpecial, k2, by rw [List.flatMap_append]; simpa using g2, hst10.cok, by rw [List.all_append, hst10.jok]; simpa using hok, rfl, fun y hy => (by cases hy), List.Pairwise.nil, Nat.zero_le _, hst10.l2, by rw [List.length_append]; simp; omega, g4 _ hst10.B⟩ (by rw [List.length_append]; simp; omega) (by rw [filter_next joinOk gs hi1, if_pos hok, ← hje])
    rintro q ⟨jn, js, hst, hjn, hje⟩
    refine hI13 _ _ (CondP.mk (fun hlt => CondP.no ?_ ?_) fun hlt => ?_)
    · have := of_decide_eq_true hlt
      exact decide_eq_false (by omega)
    all_goals
      clear hlt
      intro I28 hI28
      have key3 := climb2 (α := World) (min ys.length 6) (fun i q => ∃ (sp : Sl) (xs : List (Int × Bs)), SomeSt w4 q t.m sp cl jn xs cls js ∧ xs.length ≤ i ∧ (∀ y ∈ xs, y.1 < 1000 + (i : Int)) ∧ xs = someX ys i) (fun i q => I28 [.int .i64 (i : Int)] q) q ⟨sl0, [], hst, Nat.zero_le _, fun y hy => (by cases hy), rfl⟩ ?_ ?_
      · exact key3
      · rintro i hi ih q ⟨sp, xs, hst, hxl, hxb, hxe⟩
        have hi1 : i < ys.length := by omega
        have hi2 : i < 6 := by omega
        refine hI28 _ _ (CondP.yes (by simp; omega) (CondP.yes (by simp; omega) ?_))
        intro J hJ
        have hJ' : ∀ (v : World) (sp : Sl) (xs : List (Int × Bs)), SomeSt w4 v t.m sp cl jn xs cls js → xs.length ≤ i + 1 → (∀ y ∈ xs, y.1 < 1000 + ((i + 1 : Nat) : Int)) → xs = someX ys (i + 1) → J [] v := fun v sp xs h1 h2 h3 h4 => hJ v (Ar.nat (i + 1) rfl (by omega) (ih v ⟨sp, xs, h1, h2, h3, h4⟩))
        intro w23 hw23
        have b23 : Below q.heap.size q w23 := by subst hw23; exact drew_on q
        have hst23 := hst.on b23
        have hb23 : Below w.heap.size w w23 := hb4.trans (hst23.B.mono (by omega))
        obtain ⟨p, hp, _, _⟩ := (h4.on hb23) i _ (List.getElem?_eq_getElem hi1)
        have cellS : ∀ v : World, Below w23.heap.size w23 v → v.cell? ((p.add (i * 2)).add 1) = some (.string (str ys[i].2)) := by
          intro v hv
          obtain ⟨p', hp', _, hc⟩ := (h4.on (below_then hb23 hv)) i _ (List.getElem?_eq_getElem hi1)
          have : p' = p := by rw [hp] at hp'; exact (Option.some.inj hp').symm
          subst this
          exact hc 1 _ rfl
        have cell3 : ∀ v : World, Below w23.heap.size w23 v → v.cell? ((nb w4).add 3) = some sp.v := fun v hv => ptr_add0 _ _ (hst23.on hv).blk 3
        have hspn := (LsAt.of_own elSpecial hst23.o1).n
        have hl1 := hst23.l1
        have check : ∀ (y : Sl) (v : World), Below w23.heap.size w23 v → v.ownsRow w23.heap.size tSp 2 y.v y.n ((xs ++ [(((1000 + i : Nat) : Int), ys[i].2)]).flatMap encSpecial) →
            Calls Tryz.prog 109 #[Value.slice y.a y.n y.c] v (fun e28 w28 => ∃ r0 : Int, ∃ r1 : Int, e28 = .returned (Value.tuple #[Value.int .i64 r0, Value.int .i64 r1]) ∧
              CondP ((r1 : Int) == 0)
                ((Value.slice y.a y.n y.c).oneCell' = true ∧ (∃ u, w28.cell? ((nb w4).add 3) = some u) ∧ w28.frozen? ((nb w4).add 3) = false ∧
                 ∀ w29 : World, w29 = (w28.setCell ((nb w4).add 3) (Value.slice y.a y.n y.c)) → J [] w29)
                (J [] w28)) := by
          intro y v hv hy
          have hls := LsAt.of_own elSpecial hy
          have hyn := hls.n
          obtain ⟨ya, yn, yc⟩ := y
          change yn = _ at hyn
          subst hyn
          refine (refCheck_spec v ya yc _ hls.r (by rw [List.length_append]; simp; omega)).mono ?_
          rintro e w28 ⟨rfl, b28⟩
          have hb28 := below_then hv b28
          have st28 := hst23.on hb28
          have hy28 := own_base (own_on hy b28) hst23.B.size
          cases hm : markErr [] 0 (xs ++ [(((1000 + i : Nat) : Int), ys[i].2)]) with
          | some z =>
            refine ⟨_, _, by rw [checkV, hm], CondP.no (by simpa using markErr_ne hm) (hJ' w28 sp xs st28 (by omega) (fun y hy => by have := hxb y hy; omega) (by rw [someX_step hi1, ← hxe, hm]))⟩
          | none =>
            refine ⟨_, _, by rw [checkV, hm], CondP.yes rfl ⟨rfl, ⟨_, cell3 w28 hb28⟩, frozen_put st28.blk, ?_⟩⟩
            intro w29 hw29
            subst hw29
            have s28 := soft st28
            refine hJ' _ ⟨ya, _, yc⟩ (xs ++ [(((1000 + i : Nat) : Int), ys[i].2)]) ⟨heap_put st28.blk _, own_setCell hy28 _ (by rw [add_block]; exact row_ne_blk hy28 st28.blk (by decide)), own_setCell st28.o2 _ (by rw [add_block]; exact s28.2.1), own_setCell st28.o3 _ (by rw [add_block]; exact s28.2.2), st28.cok, st28.jok, hm, ?_, ?_, by rw [List.length_append]; simp; omega, st28.l2, st28.l3, below_put st28.B (Nat.le_refl _) _⟩ (by rw [List.length_append]; simp; omega) ?_ (by rw [someX_step hi1, ← hxe, hm])
            · intro z hz
              rcases List.mem_append.1 hz with hz | hz
              · exact st28.xid z hz
              · rw [List.mem_singleton.1 hz]
                show (1000 : Int) ≤ ((1000 + i : Nat) : Int) ∧ ((1000 + i : Nat) : Int) < 1006
                omega
            · rw [List.map_append, List.pairwise_append]
              refine ⟨st28.asc, List.pairwise_singleton _ _, fun a ha b hb => ?_⟩
              obtain ⟨y, hy, rfl⟩ := List.mem_map.1 ha
              have := hxb y hy
              simp at hb
              omega
            · intro y hy
              rcases List.mem_append.1 hy with hy | hy
              · have := hxb y hy
                omega
              · rw [List.mem_singleton.1 hy]
                show ((1000 + i : Nat) : Int) < 1000 + ((i + 1 : Nat) : Int)
                omega
        have spr : ∀ (v : World) (k : Nat), Below w23.heap.size w23 v → v.heap[k]? = some (.cells #[] tSp (0, 0)) → w23.heap.size ≤ k → ∃ (r : Sl) (v' : World), r.n = sp.n ∧ (Builtin.append_ #[tSps, tSps] tSps #[.slice (some ⟨k, 0, none⟩) 0 0, .slice sp.a sp.n sp.c]).run Tryz.prog v = .ok (.slice r.a r.n r.c) v' ∧ v'.ownsRow w23.heap.size tSp 2 r.v r.n (xs.flatMap encSpecial) ∧ Below w23.heap.size w23 v' ∧ (∀ j, j < v.heap.size → j ≠ k → v'.heap[j]? = v.heap[j]?) := by
          intro v k hv hk hle
          have hls := LsAt.of_own elSpecial (hst23.on hv).o1
          obtain ⟨r, v', g1, g2, g3, g4, g5, _⟩ := elSpecial.spread (s := ⟨some ⟨k, 0, none⟩, 0, 0⟩) (xs := []) (own_zero hk hle) hls hv.size (Nat.zero_le _) (by omega) (by decide)
          refine ⟨r, v', by rw [g1]; show 0 + sp.n = sp.n; omega, g2, g3, g4 _ hv, fun j hj hjk => g5 j hj fun e => hjk ?_⟩
          have : k = j := by simpa [Value.ownBlock] using e
          exact this.symm
        refine ⟨_, _, _, cell3 w23 (Below.refl _ _), Ar.nat (1000 + i) (by omega) (by omega) (NilC.mk p hp ⟨by omega, by omega, _, cellS w23 (Below.refl _ _), ?_, ?_⟩)⟩
        · intro w24 hw24
          have b24 : Below w23.heap.size w23 w24 := by subst hw24; exact below_alloc _ _
          have n24 : w24.heap[w23.heap.size]? = some (.cells #[] tSp (0, 0)) := by subst hw24; exact alloc_new _ _
          refine ⟨⟨cellS w24 b24, trivial⟩, ⟨cell3 w24 b24, trivial⟩, ?_, ?_⟩
          · obtain ⟨r, w25, g1, g2, g3, g4, g5⟩ := spr w24 _ b24 n24 (Nat.le_refl _)
            refine ⟨r.a, r.n, r.c, w25, g2, ⟨cellS w25 g4, trivial⟩, ?_⟩
            intro w26 hw26
            obtain ⟨y, w27, f1, f2, f3, f4, f5⟩ := elSpecial.push g3 (((1000 + i : Nat) : Int), ys[i].2) hw26 rfl g4.size (by omega) (by decide)
            exact ⟨y.a, y.n, y.c, w27, f2, check y w27 (f4 _ g4) f3⟩
          · intro w30 hw30
            have b30 : Below w24.heap.size w24 w30 := by subst hw30; exact below_alloc _ _
            have e30 : w30.heap[w24.heap.size]? = some (.cells (encSpecial (((1000 + i : Nat) : Int), ys[i].2)).toArray tSp (0, 0)) := by subst hw30; exact alloc_new _ _
            have b2330 := below_then b24 b30
            refine ⟨⟨cell3 w30 b2330, trivial⟩, ?_⟩
            obtain ⟨r, w31, g1, g2, g3, g4, g5⟩ := spr w30 _ b2330 (held_on b30 n24) (Nat.le_refl _)
            have hz24 := (Array.getElem?_eq_some_iff.1 n24).1
            have e31 : w31.heap[w24.heap.size]? = some (.cells (encSpecial (((1000 + i : Nat) : Int), ys[i].2)).toArray tSp (0, 0)) := by
              rw [g5 _ (Array.getElem?_eq_some_iff.1 e30).1 (by omega)]
              exact e30
            obtain ⟨y, w32, f1, f2, f3, f4, f5⟩ := elSpecial.pushAt g3 (((1000 + i : Nat) : Int), ys[i].2) e31 g4.size (by omega) (by decide)
            exact ⟨r.a, r.n, r.c, w31, g2, y.a, y.n, y.c, w32, f2, check y w32 (f4 _ g4) f3⟩
        · intro w86 hw86
          have b86 : Below w23.heap.size w23 w86 := by subst hw86; exact below_alloc _ _
          have e86 : w86.heap[w23.heap.size]? = some (.cells (encSpecial (((1000 + i : Nat) : Int), ys[i].2)).toArray tSp (0, 0)) := by subst hw86; exact alloc_new _ _
          refine ⟨⟨cell3 w86 b86, trivial⟩, ?_⟩
          intro w87 hw87
          have b87 : Below w86.heap.size w86 w87 := by subst hw87; exact below_alloc _ _
          have n87 : w87.heap[w86.heap.size]? = some (.cells #[] tSp (0, 0)) := by subst hw87; exact alloc_new _ _
          have b2387 := below_then b86 b87
          have hz86 := (Array.getElem?_eq_some_iff.1 e86).1
          refine ⟨⟨cell3 w87 b2387, trivial⟩, ?_⟩
          obtain ⟨r, w88, g1, g2, g3, g4, g5⟩ := spr w87 _ b2387 n87 (by omega)
          have e88 : w88.heap[w23.heap.size]? = some (.cells (encSpecial (((1000 + i : Nat) : Int), ys[i].2)).toArray tSp (0, 0)) := by
            rw [g5 _ (Array.getElem?_eq_some_iff.1 (held_on b87 e86)).1 (by omega)]
            exact held_on b87 e86
          obtain ⟨y, w89, f1, f2, f3, f4, f5⟩ := elSpecial.pushAt g3 (((1000 + i : Nat) : Int), ys[i].2) e88 g4.size (by omega) (by decide)
          exact ⟨r.a, r.n, r.c, w88, g2, y.a, y.n, y.c, w89, f2, check y w89 (f4 _ g4) f3⟩
      · rintro q ⟨sp, xs, hst, hxl, _, hxe⟩
        have done := fin q sp cl jn xs cls js hst hxe hce hje
        have cells := agg_cells (x := ⟨false, t.m, sl0, sp, cl, jn⟩) hst.blk
        refine hI28 _ _ (CondP.mk (fun hlt => CondP.no ?_ ⟨_, _, _, _, _, _, _, _, _, _, _, _, _, _, _, _, cells, done⟩) fun hlt => ⟨_, _, _, _, _, _, _, _, _, _, _, _, _, _, _, _, cells, done⟩)
        have := of_decide_eq_true hlt
        exact decide_eq_false (by omega)
end Go.Proofs.YtboemnagahmlkaaGreat.Eng

/- The vocabulary of a statement, and the reference's. -/
set_option linter.unusedVariables false
set_option linter.unusedSimpArgs false
set_option maxRecDepth 100000
namespace Go.Proofs.YtboemnagahmlkaaGreat.Eng
open Go Go.RowKit
/-- A case: four slices. -/
structure CsW where
  l : Sl
  c : Sl
  j : Sl
  x : Sl
abbrev CsW.cells (y : CsW) : Array Value := #[y.l.v, y.c.v, y.j.v, y.x.v]
abbrev CsW.v (y : CsW) : Value := .agg y.cells
structure CsAt (w : World) (y : CsW) (ls : List Int) (cs : List (Int × Int × Int)) (js : List (Int × Int)) (xs : List (Int × Bs)) : Prop where
  n1 : y.l.n = ls.length
  r1 : Rw enc16 1 w y.l.a ls
  n2 : y.c.n = cs.length
  r2 : Rw encClass 3 w y.c.a cs
  n3 : y.j.n = js.length
  r3 : Rw encPair 2 w y.j.a js
  n4 : y.x.n = xs.length
  r4 : Rw encSpecial 2 w y.x.a xs
  c2 : y.c.n ≤ y.c.c
  c3 : y.j.n ≤ y.j.c
  most : xs.length ≤ 9223372036854775807
theorem CsAt.on {w w' : World} {y : CsW} {ls : List Int} {cs : List (Int × Int × Int)} {js : List (Int × Int)} {xs : List (Int × Bs)} (h : CsAt w y ls cs js xs) (hb : Below w.heap.size w w') : CsAt w' y ls cs js xs := ⟨h.n1, h.r1.on hb, h.n2, h.r2.on hb, h.n3, h.r3.on hb, h.n4, h.r4.on hb, h.c2, h.c3, h.most⟩
abbrev tCs : TypeId := 27
theorem agg4 {w : World} {b : Nat} {y : CsW} {T : TypeId} {fz : Nat × Nat} (h : w.heap[b]? = some (.cells y.cells T fz)) :
    w.cell? ⟨b, 0, none⟩ = some y.l.v ∧ w.cell? ((⟨b, 0, none⟩ : Addr).add 1) = some y.c.v ∧ w.cell? ((⟨b, 0, none⟩ : Addr).add 2) = some y.j.v ∧ w.cell? ((⟨b, 0, none⟩ : Addr).add 3) = some y.x.v ∧ True := by
  have hc : ∀ j, w.cell? ((⟨b, 0, none⟩ : Addr).add j) = y.cells[j]? := fun j => ptr_add0 _ _ h j
  exact ⟨by have := hc 0; rw [add_zero] at this; exact this, hc 1, hc 2, hc 3, trivial⟩
theorem lawGreat_spec (w : World) (y : CsW) (ls : List Int) (cs : List (Int × Int × Int)) (js : List (Int × Int)) (xs : List (Int × Bs)) (h : CsAt w y ls cs js xs) : Calls Tryz.prog 15 #[y.v] w fun e w' => ∃ n : Int, e = .returned (.int .i64 n) ∧ Below w.heap.size w w' := by
  refine calls_ret (vc15_calls y.l.a y.l.n y.l.c y.c.a y.c.n y.c.c y.j.a y.j.n y.j.c y.x.a y.x.n y.x.c w (fun u w' => ∃ n : Int, u = .int .i64 n ∧ Below w.heap.size w w') ?_) (by rintro v w' ⟨n, rfl, h⟩; exact ⟨n, rfl, h⟩)
  intro w1 hw1
  have hb1 : Below w.heap.size w w1 := by subst hw1; exact below_alloc _ _
  have l1 : w1.heap[w.heap.size]? = some (.cells y.cells tCs (0, 0)) := by subst hw1; exact alloc_new _ _
  refine ⟨_, _, _, ptr_add0 _ _ l1 0, _, _, _, ptr_add0 _ _ l1 1, _, _, _, ptr_add0 _ _ l1 2, _, _, _, ptr_add0 _ _ l1 3, ?_⟩
  have h4 := (h.on hb1).r4
  have n4 := h.n4
  obtain ⟨⟨l1', l2', l3'⟩, ⟨c1', c2', c3'⟩, ⟨j1', j2', j3'⟩, ⟨x1', x2', x3'⟩⟩ := y
  change x2' = xs.length at n4
  subst n4
  refine (refGreat_spec w1 l1' l2' l3' c1' c2' c3' j1' j2' j3' x1' x3' xs h4 h.most).mono ?_
  rintro e w2 ⟨rfl, hw⟩
  subst hw
  exact ⟨_, rfl, CondP.mk (fun _ => ⟨1, rfl, hb1⟩) fun _ => ⟨0, rfl, hb1⟩⟩
/-- The vocabulary, and the reference's; whatever touches the vocabulary alone leaves the other one as it is. -/
structure Both (w : World) (v : Nat) (y : RvW) (s : SpecV) (T : List Ent) : Prop where
  voc : VocIs w v s T
  rv : ∀ w', Touch v w w' → RvAt w' y s T
  few : s.specials.length ≤ 6
  ids : ∀ z ∈ s.specials, 1000 ≤ z.1 ∧ z.1 < 1006
  asc : (s.specials.map (·.1)).Pairwise (· < ·)
theorem Both.now {w : World} {v : Nat} {y : RvW} {s : SpecV} {T : List Ent} (h : Both w v y s T) : RvAt w y s T := h.rv w (Touch.of_below (Below.refl _ _))
theorem Both.on {w w' : World} {v : Nat} {y : RvW} {s : SpecV} {T : List Ent} (h : Both w v y s T) (hb : Below w.heap.size w w') : Both w' v y s T := ⟨h.voc.on hb, fun w2 t => h.rv w2 ((Touch.of_below hb).trans t), h.few, h.ids, h.asc⟩
theorem Both.touch {w w' : World} {v : Nat} {y : RvW} {s : SpecV} {T : List Ent} (h : Both w v y s T) (t : Touch v w w') (hV : VocIs w' v s T) : Both w' v y s T := ⟨hV, fun w2 t2 => h.rv w2 (t.trans t2), h.few, h.ids, h.asc⟩
theorem VocIs.lt {w : World} {v : Nat} {s : SpecV} {T : List Ent} (h : VocIs w v s T) : v < w.heap.size := by
  obtain ⟨w0, x, tp, bp, mp, d, l, uses, hR⟩ := h
  exact (Array.getElem?_eq_some_iff.1 hR.blk).1
theorem Rw.far {α : Type} {enc : α → List Value} {sz : Nat} {w : World} {a : Option Addr} {xs : List α} (h : Rw enc sz w a xs) {v : Nat} (hv : w.heap.size ≤ v) : xs ≠ [] → ∀ p, a = some p → p.block ≠ v := by
  intro hne p hp e
  cases xs with
  | nil => exact hne rfl
  | cons x xs =>
    obtain ⟨q, hq, hlt, _⟩ := h 0 x rfl
    rw [hp] at hq
    cases hq
    omega
theorem RtAt.touch {w w' : World} {x : RtW} {es : List Ent} {B v : Nat} (h : RtAt w x es) (hf : Fresh B x) (hB : v < B) (t : Touch v w w') : RtAt w' x es :=
  ⟨h.n1, h.r1.touch t fun _ p hp e => by have := hf.1 p hp; omega, h.k1, h.n2, h.r2.touch t fun _ p hp e => by have := hf.2 p hp; omega, h.k2⟩
/-! ### A block of slices alone is stored into -/
structure Past (b : Nat) (e : TypeId) (w w' : World) : Prop where
  blk : ∃ c fz, w.heap[b]? = some (.cells c e fz) ∧ ∀ v ∈ c, ¬ Solid v
  ne : ∀ j, j ≠ b → w'.heap[j]? = w.heap[j]?
  size : w'.heap.size = w.heap.size
theorem Past.row {α : Type} {enc : α → List Value} {sz : Nat} {w w' : World} {b : Nat} {e : TypeId} {a : Option Addr} {xs : List α} (t : Past b e w w') (h : Rw enc sz w a xs) (henc : ∀ x, ∃ v, (enc x)[0]? = some v ∧ Solid v) : Rw enc sz w' a xs := by
  obtain ⟨c, fz, hb, hc⟩ := t.blk
  exact h.past henc hb hc (fun j _ hj => t.ne j hj) (Nat.le_of_eq t.size.symm)
theorem Past.cells {w w' : World} {b k : Nat} {e e' : TypeId} {c : Array Value} {fz : Nat × Nat} (t : Past b e w w') (h : w.heap[k]? = some (.cells c e' fz)) (hne : e ≠ e') : w'.heap[k]? = some (.cells c e' fz) := by
  obtain ⟨c', fz', hb, _⟩ := t.blk
  rw [t.ne k fun e => ?_]
  · exact h
  · subst e
    rw [hb] at h
    cases h
    exact hne rfl
theorem Past.map {κ : Type} [DecidableEq κ] {kv : κ → Value} {w w' : World} {b r : Nat} {e : TypeId} {m : List (κ × Value)} (t : Past b e w w') (h : MapIs kv w r m) : MapIs kv w' r m := by
  obtain ⟨c', fz', hb, _⟩ := t.blk
  refine h.same (t.ne r fun e => ?_)
  subst e
  obtain ⟨es, k, hm, _⟩ := h
  rw [hb] at hm
  cases hm
theorem Past.parts {w w' : World} {b : Nat} {e : TypeId} {s : SpecV} {T : List Ent} {x : SpecW} {tp bp mp : Nat} (t : Past b e w w') (h : VocParts w s T x tp bp mp) (n1 : e ≠ tTable) (n2 : e ≠ tBound) (n3 : e ≠ tSet) : VocParts w' s T x tp bp mp := by
  obtain ⟨h1, h2, h3, h4, h5, h6, h7, h8⟩ := h
  refine ⟨?_, ?_, h3, ?_, ?_, h6, h7, h8⟩
  · exact ⟨h1.ranked, h1.n1, t.row h1.r1 fun m => ⟨_, rfl, solid_int _ _⟩, h1.n2, t.row h1.r2 fun m => ⟨_, rfl, .inr ⟨_, rfl⟩⟩, h1.n3, t.row h1.r3 fun m => ⟨_, rfl, solid_int _ _⟩, h1.n4, t.row h1.r4 fun m => ⟨_, rfl, solid_int _ _⟩, h1.n5, t.row h1.r5 fun m => ⟨_, rfl, solid_int _ _⟩⟩
  · obtain ⟨l, mb, mp, most, g1, g2, g3, g4, g5⟩ := h2
    exact ⟨l, mb, mp, most, t.cells g1 n1, g2, t.row g3 fun m => ⟨_, rfl, .inr ⟨_, rfl⟩⟩, t.map g4, t.map g5⟩
  · obtain ⟨c, g1, g2⟩ := h4
    exact ⟨c, t.cells g1 n2, g2⟩
  · obtain ⟨l, mi, mt, c, g1, g2, g3, g4, g5, g6⟩ := h5
    exact ⟨l, mi, mt, c, t.cells g1 n3, g2, g3, t.row g4 fun m => ⟨_, rfl, solid_int _ _⟩, t.map g5, t.map g6⟩
theorem Past.voc {w w' : World} {b v : Nat} {e : TypeId} {s : SpecV} {T : List Ent} (t : Past b e w w') (h : VocIs w v s T) (n1 : e ≠ tTable) (n2 : e ≠ tBound) (n3 : e ≠ tSet) (n4 : e ≠ tVocab) (n5 : e ≠ tBool) (hB : Below b w w') : VocIs w' v s T := by
  obtain ⟨w0, x, tp, bp, mp, d, l, uses, hR⟩ := h
  have blk := t.cells hR.blk n4
  have once : (d = 0 ∧ l = ⟨none, 0, 0⟩) ∨ (d = 1 ∧ l.n = T.length ∧ w'.ownsRow (v + 1) tBool 1 l.v l.n ((aloneL s T).flatMap encB1)) := by
    rcases hR.once with h | ⟨h1, h2, h3⟩
    · exact .inl h
    · refine .inr ⟨h1, h2, own_same h3 fun k hk => t.ne k fun e => ?_⟩
      obtain ⟨c, fz, hb, _⟩ := t.blk
      exact row_ne_blk h3 hb (fun e => n5 e.symm) (by rw [hk, e])
  have hbel := hR.below
  by_cases hlt : b < w0.heap.size
  · obtain ⟨c, fz, hb, hc⟩ := t.blk
    have hb0 : w0.heap[b]? = some (.cells c e fz) := by rw [← hbel.block b hlt]; exact hb
    have hbl : b < w.heap.size := (Array.getElem?_eq_some_iff.1 hb).1
    have hbl' : b < w'.heap.size := by rw [t.size]; exact hbl
    let w1 : World := { w0 with heap := w0.heap.setIfInBounds b w'.heap[b] }
    have hz : w1.heap.size = w0.heap.size := by simp [w1]
    have same : ∀ j, j ≠ b → w1.heap[j]? = w0.heap[j]? := fun j hj => by
      show (w0.heap.setIfInBounds b w'.heap[b])[j]? = _
      rw [Array.getElem?_setIfInBounds_ne (fun e => hj e.symm)]
    have t0 : Past b e w0 w1 := ⟨⟨c, fz, hb0, hc⟩, same, hz⟩
    refine ⟨w1, x, tp, bp, mp, d, l, uses, t0.parts hR.parts n1 n2 n3, ?_, by rw [hz]; exact hR.lt, blk, once⟩
    refine ⟨hB.os.trans hbel.os, hB.tape.trans hbel.tape, hB.output.trans hbel.output, by rw [hz, t.size]; exact hbel.size, fun k hk => ?_⟩
    by_cases hkb : k = b
    · subst hkb
      show w'.heap[k]? = (w0.heap.setIfInBounds k w'.heap[k])[k]?
      rw [Array.getElem?_setIfInBounds_self_of_lt hlt, Array.getElem?_eq_getElem hbl']
    · rw [same k hkb, t.ne k hkb]
      exact hbel.block k (by rw [hz] at hk; exact hk)
  · refine ⟨w0, x, tp, bp, mp, d, l, uses, hR.parts, ?_, hR.lt, blk, once⟩
    exact ⟨hB.os.trans hbel.os, hB.tape.trans hbel.tape, hB.output.trans hbel.output, by rw [t.size]; exact hbel.size, fun k hk => by rw [t.ne k (by omega)]; exact hbel.block k hk⟩
/-- The same, of a given spec. -/
def OfR2 (s0 : SpecV) (w : World) (u : Value) (w' : World) : Prop := ∃ (v : Nat) (y : RvW) (s : SpecV) (T : List Ent), u = .tuple #[.pointer (some ⟨v, 0, none⟩), y.v] ∧ Both w' v y s T ∧ w.heap.size ≤ v ∧ Below w.heap.size w w' ∧ s = s0 ∧ buildV s = .ok T
theorem lawOf_spec2 (w : World) (y : CsW) (ls : List Int) (cs : List (Int × Int × Int)) (js : List (Int × Int)) (xs : List (Int × Bs)) (h : CsAt w y ls cs js xs) : Calls Tryz.prog 17 #[y.v] w fun e w' => ∃ u, e = .returned u ∧ OfR2 (someV ls cs js xs) w u w' := by
  refine vc17_calls y.l.a y.l.n y.l.c y.c.a y.c.n y.c.c y.j.a y.j.n y.j.c y.x.a y.x.n y.x.c w (OfR2 (someV ls cs js xs) w) ?_
  intro w1 hw1 w2 hw2
  have hb1 : Below w.heap.size w w1 := by subst hw1; exact below_alloc _ _
  have b2 : Below w1.heap.size w1 w2 := by subst hw2; exact below_alloc _ _
  have hb2 := below_then hb1 b2
  have l2 : w2.heap[w.heap.size]? = some (.cells y.cells tCs (0, 0)) := held_on b2 (by subst hw1; exact alloc_new _ _)
  have z2 : w2.heap[w1.heap.size]? = some (.cells rv0.cells tRv (0, 0)) := by subst hw2; exact alloc_new _ _
  refine ⟨_, _, _, ptr_add0 _ _ l2 0, _, _, _, ptr_add0 _ _ l2 1, _, _, _, ptr_add0 _ _ l2 2, _, _, _, ptr_add0 _ _ l2 3, ?_⟩
  have h2 := h.on hb2
  clear l2
  clear hw1
  have some2 : Calls Tryz.prog 65 #[y.l.v, y.c.v, y.j.v, y.x.v] w2 fun e w' => ∃ u, e = .returned u ∧ SomeR (someV ls cs js xs) w2 u w' := by
    obtain ⟨n1, r1, n2, r2, n3, r3, n4, r4, c2, c3, most⟩ := h2
    obtain ⟨⟨l1', l2', l3'⟩, ⟨c1', c2', c3'⟩, ⟨j1', j2', j3'⟩, ⟨x1', x2', x3'⟩⟩ := y
    change l2' = ls.length at n1
    change c2' = cs.length at n2
    change j2' = js.length at n3
    change x2' = xs.length at n4
    subst n1 n2 n3 n4
    exact refSome_spec w2 l1' l3' ls r1 c1' c3' cs r2 j1' j3' js r3 x1' x3' xs r4 c2 c3
  refine some2.mono ?_
  rintro e w3 ⟨u, rfl, x, s, T, rfl, hS, hrk, hright, hT, htok, hfew, hids, hasc, hs0, b3⟩
  refine ⟨_, _, _, _, _, _, _, _, _, _, _, _, _, _, _, _, rfl, ?_⟩
  intro w4 hw4
  refine store_spec x w4 hw4 ?_
  intro w5 h5 b5
  have b35 := below_then b3 b5
  have hb5 := below_then hb2 b35
  have hS5 := hS.on b5
  refine ⟨_, _, _, _, _, _, _, _, _, _, _, _, _, _, _, _, agg_cells h5, ?_⟩
  refine (vocabNew_spec w5 x s hS5).mono ?_
  rintro e w6 ⟨u, rfl, b6, hp⟩
  rw [if_pos hright, hT] at hp
  obtain ⟨v, rfl, hV, hv⟩ := hp
  have hb6 := below_then hb5 b6
  have h6 := held_on b6 h5
  refine ⟨_, _, _, rfl, CondP.no rfl ⟨_, _, _, _, _, _, _, _, _, _, _, _, _, _, _, _, agg_cells h6, ?_⟩⟩
  refine (refOf_spec w6 x s (hS5.on b6) hrk hright T hT).mono ?_
  rintro e w8 ⟨r, rfl, hr, b8, hf, eb, esp⟩
  have hb8 := below_then hb6 b8
  have z8 := held_on b8 (held_on b6 (held_on b35 z2))
  refine ⟨_, _, _, _, _, _, _, _, _, _, _, _, _, _, _, rfl, ?_⟩
  refine storeP_cells z8 (slRv r) rfl (ones_rv r) ?_
  intro w9 h9 hs9 hz9 hB9
  have hvl := hV.lt
  have hz5 := hb5.size
  have hz1 := hb1.size
  have tp : Past w1.heap.size tRv w8 w9 := ⟨⟨_, _, z8, soft_rv rv0⟩, hs9, hz9⟩
  have hV9 : VocIs w9 v s T := tp.voc (hV.on b8) (by decide) (by decide) (by decide) (by decide) (by decide) (hB9 _ _ (Nat.le_refl _) (Below.refl _ _))
  have hr9 : RvAt w9 r s T := hr.past z8 (soft_rv rv0) (fun j _ hj => hs9 j hj) (Nat.le_of_eq hz9.symm)
  have f3 := hS5.r3.far hv
  have f4 := hS5.r4.far hv
  have f5 := hS5.r5.far hv
  refine ⟨_, _, _, _, _, _, _, _, _, _, _, _, _, _, _, agg5 (x := r) h9, v, r, s, T, rfl, ⟨hV9, fun w' t => ?_, hfew, hids, hasc⟩, by omega, hB9 _ _ hz1 hb8, hs0, hT⟩
  obtain ⟨g1, ⟨g2, g3, g4, g5⟩, g6, g7, g8, g9, g10, g11⟩ := hr9
  refine ⟨g1.touch hf hvl t, ⟨g2, g3.touch t (by rw [eb]; exact f4), g4, g5.touch t (by rw [eb]; exact f5)⟩, g6, g7.touch t (by rw [esp]; exact f3), g8, g9, g10, g11⟩
/-! ### Arguments, opened -/
open Go.ChangeShapes Go.WideShapes
section
variable {H : Type} {enc0 : TypeId × Value → H} {w : World} {base : Nat} {spare : Nat → Bool} {held : Bool}
theorem elem_int {e : TypeId} (he : Tryz.prog.underlying e = some (.int .i64)) : ∀ n cs' y, DataW.trod enc0 Tryz.prog w base spare held n e cs' = some y → ∃ m : Int, cs' = encInt m := by
  intro n cs' y h
  obtain ⟨i, hi, _⟩ := DataW.trod_int he h
  exact ⟨i, hi⟩
theorem elem_u16 {e : TypeId} (he : Tryz.prog.underlying e = some (.int .u16)) : ∀ n cs' y, DataW.trod enc0 Tryz.prog w base spare held n e cs' = some y → ∃ m : Int, cs' = enc16 m := by
  intro n cs' y h
  obtain ⟨i, hi, _⟩ := DataW.trod_int he h
  exact ⟨i, hi⟩
theorem SlOk.zero {s : Sl} (h : SlOk s) : s.a = none → s.c = 0 := by
  intro hn
  rcases h with rfl | ⟨a, ha⟩
  · rfl
  · rw [ha] at hn; cases hn
theorem open_intl {A : Option Addr} {N C : Nat} {d : DataW H} {p : List MemPlace} (h : DataW.Trod enc0 Tryz.prog w base spare held tInts (.slice A N C) d p) : ∃ xs : List Int, N = xs.length ∧ SlOk ⟨A, N, C⟩ ∧ N ≤ C ∧ C ≤ maxLen ∧ Rw encInt 1 w A xs := by
  obtain ⟨fuel, hf⟩ := h
  obtain ⟨s, xs, e, n, k, c, m, r⟩ := open_list (enc := encInt) (sz := 1) undInts (by kernel_rfl) (fun _ => rfl) (Nat.succ_pos _) (elem_int Tryz.underlying3) hf
  obtain ⟨sa, sn, sc⟩ := s
  simp [Value.cells] at e
  obtain ⟨rfl, rfl, rfl⟩ := e
  exact ⟨xs, n, k, c, m, r⟩
theorem open_case {b0 : Nat} {v : Value} {d : DataW H} {p : List MemPlace} (hv : Value.okWide Tryz.prog w .any b0 tCs v) (h : DataW.Trod enc0 Tryz.prog w base spare held tCs v d p) : ∃ (y : CsW) (ls : List Int) (cs : List (Int × Int × Int)) (js : List (Int × Int)) (xs : List (Int × Bs)), v = y.v ∧ CsAt w y ls cs js xs := by
  obtain ⟨cs, rfl, hsz⟩ := okWide_struct Tryz.underlying27 hv
  rw [show Tryz.prog.cellsOf tCs = 4 by kernel_rfl] at hsz
  obtain ⟨fuel, hf⟩ := h
  obtain ⟨xs, n, _, _, _, hlen, hF⟩ := DataW.trod_struct Tryz.underlying27 hf
  have h0 : DataW.trod enc0 Tryz.prog w base spare held n 22 ((cs.toList.drop 0).take (Tryz.prog.cellsOf 22)) = xs[0]? := hF 0 _ rfl
  have h1 : DataW.trod enc0 Tryz.prog w base spare held n 23 ((cs.toList.drop 1).take (Tryz.prog.cellsOf 23)) = xs[1]? := hF 1 _ rfl
  have h2 : DataW.trod enc0 Tryz.prog w base spare held n 24 ((cs.toList.drop 2).take (Tryz.prog.cellsOf 24)) = xs[2]? := hF 2 _ rfl
  have h3 : DataW.trod enc0 Tryz.prog w base spare held n 25 ((cs.toList.drop 3).take (Tryz.prog.cellsOf 25)) = xs[3]? := hF 3 _ rfl
  rw [show Tryz.prog.cellsOf 22 = 1 by kernel_rfl] at h0
  rw [show Tryz.prog.cellsOf 23 = 1 by kernel_rfl] at h1
  rw [show Tryz.prog.cellsOf 24 = 1 by kernel_rfl] at h2
  rw [show Tryz.prog.cellsOf 25 = 1 by kernel_rfl] at h3
  have hl4 : cs.toList.length = 4 := by simpa using hsz
  obtain ⟨l, hl⟩ : ∃ l, cs.toList = l := ⟨_, rfl⟩
  obtain rfl : cs = l.toArray := by rw [← hl]
  rw [hl] at h0 h1 h2 h3 hl4
  match l, hl4, xs, hlen with
  | [a0, a1, a2, a3], _, [y0, y1, y2, y3], _ =>
    obtain ⟨s1, l1, e1, n1, k1, c1, m1, r1⟩ := open_list (enc := enc16) (sz := 1) Tryz.underlying22 (by kernel_rfl) (fun _ => rfl) (Nat.succ_pos _) (elem_u16 Tryz.underlying225) h0
    obtain ⟨s2, l2, e2, n2, k2, c2, m2, r2⟩ := open_list (enc := encClass) (sz := 3) undCls (by kernel_rfl) (fun _ => rfl) (Nat.succ_pos _) (elem_class Tryz.underlying168 rfl rfl rfl Tryz.underlying3 Tryz.underlying3 Tryz.underlying3 (by kernel_rfl) (by kernel_rfl) (by kernel_rfl) (by kernel_rfl)) h1
    obtain ⟨s3, l3, e3, n3, k3, c3, m3, r3⟩ := open_list (enc := encPair) (sz := 2) undJns (by kernel_rfl) (fun _ => rfl) (Nat.succ_pos _) (elem_pair Tryz.underlying169 rfl rfl Tryz.underlying3 Tryz.underlying3 (by kernel_rfl) (by kernel_rfl) (by kernel_rfl)) h2
    obtain ⟨s4, l4, e4, n4, k4, c4, m4, r4⟩ := open_list (enc := encSpecial) (sz := 2) undSps (by kernel_rfl) (fun _ => rfl) (Nat.succ_pos _) (elem_special Tryz.underlying171 rfl rfl Tryz.underlying3 undStr (by kernel_rfl) (by kernel_rfl) (by kernel_rfl)) h3
    simp at e1 e2 e3 e4
    subst e1 e2 e3 e4
    exact ⟨⟨s1, s2, s3, s4⟩, l1, l2, l3, l4, rfl, n1, r1, n2, r2, n3, r3, n4, r4, c2, c3, by unfold maxLen at m4; omega⟩
end
end Go.Proofs.YtboemnagahmlkaaGreat.Eng
