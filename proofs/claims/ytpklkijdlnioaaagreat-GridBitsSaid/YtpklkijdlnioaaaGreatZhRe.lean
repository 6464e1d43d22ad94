/- The reference's vocabulary, walked by the engine. -/
import Derived.Test.YtpklkijdlnioaaaGreatZhRd
set_option linter.unusedVariables false
set_option linter.unusedSimpArgs false
set_option maxRecDepth 100000
namespace Go.Proofs.YtpklkijdlnioaaaGreat.Eng
open Go Go.RowKit
/-- The reference's vocabulary: five slices. -/
structure RvW where
  t : RtW
  b : RtW
  sp : Sl
abbrev RvW.cells (x : RvW) : Array Value := #[x.t.b.v, x.t.m.v, x.b.b.v, x.b.m.v, x.sp.v]
abbrev RvW.v (x : RvW) : Value := .agg x.cells
structure RvAt (w : World) (x : RvW) (s : SpecV) (T : List Ent) : Prop where
  t : RtAt w x.t T
  b : BtAt w x.b s.classes s.joins
  sn : x.sp.n = s.specials.length
  sr : Rw encSpecial 2 w x.sp.a s.specials
  ok : TOk T
  right : s.right = true
  ids : ∀ y ∈ s.specials, (T.length : Int) ≤ y.1
  nodup : (s.specials.map (·.1)).Nodup
theorem RvAt.on {w w' : World} {x : RvW} {s : SpecV} {T : List Ent} (h : RvAt w x s T) (hb : Below w.heap.size w w') : RvAt w' x s T := ⟨h.t.on hb, h.b.on hb, h.sn, h.sr.on hb, h.ok, h.right, h.ids, h.nodup⟩
theorem RvAt.vok {w : World} {x : RvW} {s : SpecV} {T : List Ent} (h : RvAt w x s T) : (vocOf s T).Ok := by
  have ml := merges_length h.ok
  refine ⟨good_of h.ok, h.nodup, fun t ht => ?_⟩
  obtain ⟨y, hy, rfl⟩ := List.mem_map.1 ht
  have := h.ids y hy
  show 256 + ((mergesOf T).length : Int) ≤ y.1
  omega
theorem RvAt.few {w : World} {x : RvW} {s : SpecV} {T : List Ent} (h : RvAt w x s T) : s.specials.length ≤ 1000000 ∧ s.classes.length ≤ 1000000 ∧ s.joins.length ≤ 1000000 := ⟨(right_small h.right).2.2.1, (right_small h.right).2.2.2.1, (right_small h.right).2.2.2.2⟩
abbrev tRv : TypeId := 39
theorem agg5 {w : World} {b : Nat} {x : RvW} {T : TypeId} {fz : Nat × Nat} (h : w.heap[b]? = some (.cells x.cells T fz)) :
    w.cell? ⟨b, 0, none⟩ = some x.t.b.v ∧ w.cell? ((⟨b, 0, none⟩ : Addr).add 1) = some x.t.m.v ∧ w.cell? ((⟨b, 0, none⟩ : Addr).add 2) = some x.b.b.v ∧ w.cell? ((⟨b, 0, none⟩ : Addr).add 3) = some x.b.m.v ∧ w.cell? ((⟨b, 0, none⟩ : Addr).add 4) = some x.sp.v ∧ True := by
  have hc : ∀ j, w.cell? ((⟨b, 0, none⟩ : Addr).add j) = x.cells[j]? := fun j => ptr_add0 _ _ h j
  exact ⟨by have := hc 0; rw [add_zero] at this; exact this, hc 1, hc 2, hc 3, hc 4, trivial⟩
/-- Two cells of a struct within one. -/
theorem agg_in {w : World} {b : Nat} {c : Array Value} {T : TypeId} {fz : Nat × Nat} (h : w.heap[b]? = some (.cells c T fz)) (j : Nat) {x y : Value} (hx : c[j]? = some x) (hy : c[j + 1]? = some y) : w.cell? ((⟨b, 0, none⟩ : Addr).add j) = some x ∧ w.cell? (((⟨b, 0, none⟩ : Addr).add j).add 1) = some y ∧ True := by
  refine ⟨by rw [ptr_add0 _ _ h, hx], ?_, trivial⟩
  rw [Addr.add_add, ptr_add0 _ _ h, hy]
theorem idxOf_at {α : Type} [BEq α] [LawfulBEq α] {l : List α} {x : α} {i : Nat} (hi : i < l.length) (hx : l[i] = x) (hn : x ∉ l.take i) : l.idxOf? x = some i := by
  rw [List.idxOf?, List.findIdx?_eq_some_iff_getElem]
  refine ⟨hi, by simp [hx], fun j hj => ?_⟩
  simp only [beq_iff_eq]
  intro e
  exact hn (List.mem_take_iff_getElem.2 ⟨j, by omega, e⟩)
def refMarkV (s : SpecV) (id : Int) : Int := ((markOf s.specials id).map fun i : Nat => -1 - (i : Int)).getD 0
theorem refMark_spec (w : World) (x : RvW) (s : SpecV) (T : List Ent) (h : RvAt w x s T) (id : Int) : Calls Tryz.prog 75 #[x.v, .int .i64 id] w fun e w' => e = .returned (.int .i64 (refMarkV s id)) ∧ Below w.heap.size w w' := by
  refine calls_ret (vc75_calls x.t.b.a x.t.b.n x.t.b.c x.t.m.a x.t.m.n x.t.m.c x.b.b.a x.b.b.n x.b.b.c x.b.m.a x.b.m.n x.b.m.c x.sp.a x.sp.n x.sp.c id w (fun u w' => u = .int .i64 (refMarkV s id) ∧ Below w.heap.size w w') ?_) (by rintro v w' ⟨rfl, h⟩; exact ⟨rfl, h⟩)
  intro w1 hw1
  have hb1 : Below w.heap.size w w1 := by subst hw1; exact below_alloc _ _
  have l1 : w1.heap[w.heap.size]? = some (.cells x.cells tRv (0, 0)) := by subst hw1; exact alloc_new _ _
  have hn := h.sn
  have hfew := h.few.1
  intro I hI
  have key := climb2 (α := Int) s.specials.length (fun i _ => id ∉ (s.specials.map (·.1)).take i) (fun i y => I [.int .i64 (i : Int), .int .i64 y] w1) 0 (by simp) ?_ ?_
  · exact key
  · rintro i hi ih y hinv
    obtain ⟨q, hq, _, hc⟩ := (h.sr.on hb1) i _ (List.getElem?_eq_getElem hi)
    have hi' : i < (s.specials.map (·.1)).length := by rw [List.length_map]; exact hi
    have hget : (s.specials.map (·.1))[i] = s.specials[i].1 := by simp
    refine hI _ y w1 ⟨_, _, _, ptr_add0 _ _ l1 4, CondP.yes (by simp; omega) ⟨_, _, _, ptr_add0 _ _ l1 4, NilC.mk q hq ⟨by omega, by omega, _, hc 0 _ rfl, CondP.mk (fun h0 => Ar.ok64 (by omega) (by omega) ⟨?_, hb1⟩) fun h0 => Ar.nat (i + 1) rfl (by omega) (ih y ?_)⟩⟩⟩
    · have h0 : s.specials[i].1 = id := by simpa using h0
      have : markOf s.specials id = some i := idxOf_at hi' (by rw [hget, h0]) hinv
      rw [refMarkV, this]
      rfl
    · have h0 : ¬ s.specials[i].1 = id := by simpa using h0
      rw [List.take_add_one, List.getElem?_eq_getElem hi', hget]
      simp only [Option.toList_some, List.mem_append, List.mem_singleton, not_or]
      exact ⟨hinv, fun e => h0 e.symm⟩
  · rintro y hinv
    refine hI _ y w1 ⟨_, _, _, ptr_add0 _ _ l1 4, CondP.no (by simp; omega) ⟨?_, hb1⟩⟩
    rw [List.take_of_length_le (by simp)] at hinv
    have : markOf s.specials id = none := List.idxOf?_eq_none_iff.2 hinv
    rw [refMarkV, this]
    rfl
theorem refMark_neg (s : SpecV) (id : Int) : decide (refMarkV s id < 0) = decide (id ∈ s.specials.map (·.1)) := by
  apply decide_eq_decide.2
  unfold refMarkV
  cases hm : markOf s.specials id with
  | none =>
    have : id ∉ s.specials.map (·.1) := List.idxOf?_eq_none_iff.1 hm
    simp only [Option.map_none, Option.getD_none]
    exact ⟨fun e => by omega, fun e => absurd e this⟩
  | some i =>
    have : id ∈ s.specials.map (·.1) := by
      apply Classical.byContradiction
      intro e
      have e2 : markOf s.specials id = none := List.idxOf?_eq_none_iff.2 e
      rw [hm] at e2
      cases e2
    simp only [Option.map_some, Option.getD_some]
    exact ⟨fun _ => this, fun _ => by omega⟩
theorem refVHas_spec (w : World) (x : RvW) (s : SpecV) (T : List Ent) (h : RvAt w x s T) (id : Int) : Calls Tryz.prog 38 #[x.v, .int .i64 id] w fun e w' => e = .returned (.bool (hasV2 s T id)) ∧ Below w.heap.size w w' := by
  refine calls_ret (vc38_calls x.t.b.a x.t.b.n x.t.b.c x.t.m.a x.t.m.n x.t.m.c x.b.b.a x.b.b.n x.b.b.c x.b.m.a x.b.m.n x.b.m.c x.sp.a x.sp.n x.sp.c id w (fun u w' => u = .bool (hasV2 s T id) ∧ Below w.heap.size w w') ?_) (by rintro v w' ⟨rfl, h⟩; exact ⟨rfl, h⟩)
  intro w1 hw1
  have hb1 : Below w.heap.size w w1 := by subst hw1; exact below_alloc _ _
  have l1 : w1.heap[w.heap.size]? = some (.cells x.cells tRv (0, 0)) := by subst hw1; exact alloc_new _ _
  refine ⟨_, _, _, _, _, _, agg_in l1 0 rfl rfl, ?_⟩
  refine (refHas_spec w1 x.t T (h.t.on hb1) id).mono ?_
  rintro e w2 ⟨rfl, b2⟩
  have hb2 := below_then hb1 b2
  refine ⟨_, rfl, CondP.mk (fun h0 => ⟨?_, hb2⟩) fun h0 => ?_⟩
  · have h0 := of_decide_eq_true h0
    rw [hasV2, decide_eq_true (.inr h0)]
  · have h0 := of_decide_eq_false h0
    refine ⟨_, _, _, _, _, _, _, _, _, _, _, _, _, _, _, agg5 (held_on b2 l1), ?_⟩
    refine (refMark_spec w2 x s T (h.on hb2) id).mono ?_
    rintro e w3 ⟨rfl, b3⟩
    refine ⟨_, rfl, ?_, below_then hb2 b3⟩
    rw [refMark_neg, hasV2]
    congr 1
    exact decide_eq_decide.2 ⟨.inl, fun e => e.resolve_right h0⟩
theorem items_len {s : SpecV} {T : List Ent} (hok : TOk T) (t : Int) : ((vocOf s T).items t).length ≤ 64 := by
  unfold Voc.items
  cases (vocOf s T).place t with
  | some i => exact Nat.le_of_ble_eq_true rfl
  | none =>
    show (ints (bytesOf T t)).length ≤ 64
    have : (ints (bytesOf T t)).length = (bytesOf T t).length := by simp [ints]
    rw [this, bytesOf]
    cases he : T[t.toNat]? with
    | none => exact Nat.zero_le _
    | some e => exact hok.short e (List.mem_of_getElem? he)
theorem itemsAll_len {s : SpecV} {T : List Ent} (hok : TOk T) : ∀ ids : List Int, ((vocOf s T).itemsAll ids).length ≤ 64 * ids.length
  | [] => Nat.le_refl _
  | t :: ids => by
    have h1 := items_len (s := s) hok t
    have h2 := itemsAll_len (s := s) hok ids
    unfold Voc.itemsAll at h2 ⊢
    rw [List.flatMap_cons, List.length_append, List.length_cons]
    omega
theorem refItems_spec (w : World) (x : RvW) (s : SpecV) (T : List Ent) (h : RvAt w x s T) (A : Option Addr) (C : Nat) (ids : List Int) (hr : Rw encInt 1 w A ids) (hl : ids.length ≤ 1000000) (hh : ∀ t ∈ ids, (vocOf s T).Has t) : Calls Tryz.prog 57 #[x.v, .slice A ids.length C] w fun e w' => ∃ l : Sl, e = .returned l.v ∧ LsAt encInt 1 w' l ((vocOf s T).itemsAll ids) ∧ Below w.heap.size w w' := by
  refine calls_ret (vc57_calls x.t.b.a x.t.b.n x.t.b.c x.t.m.a x.t.m.n x.t.m.c x.b.b.a x.b.b.n x.b.b.c x.b.m.a x.b.m.n x.b.m.c x.sp.a x.sp.n x.sp.c A ids.length C w (fun u w' => ∃ l : Sl, u = l.v ∧ LsAt encInt 1 w' l ((vocOf s T).itemsAll ids) ∧ Below w.heap.size w w') ?_) (by rintro v w' ⟨l, rfl, h⟩; exact ⟨l, rfl, h⟩)
  intro w1 hw1
  have hb1 : Below w.heap.size w w1 := by subst hw1; exact below_alloc _ _
  have l1 : w1.heap[w.heap.size]? = some (.cells x.cells tRv (0, 0)) := by subst hw1; exact alloc_new _ _
  intro I hI
  have key := climb2 (α := Sl × World) ids.length (fun i y => y.2.ownsRow w1.heap.size tInt 1 y.1.v y.1.n (((vocOf s T).itemsAll (ids.take i)).flatMap encInt) ∧ Below w1.heap.size w1 y.2) (fun i y => I [.int .i64 (i : Int), y.1.v] y.2) (sl0, w1) ⟨own_none _ _ _ _ encInt, Below.refl _ _⟩ ?_ ?_
  · exact key
  · rintro i hi ih ⟨out, q⟩ ⟨hown, hB⟩
    change q.ownsRow w1.heap.size tInt 1 out.v out.n _ at hown
    change Below w1.heap.size w1 q at hB
    have hon := (LsAt.of_own elInt hown).n
    have hlen := itemsAll_len (s := s) h.ok (ids.take i)
    rw [List.length_take, Nat.min_eq_left (by omega)] at hlen
    have hsnoc : (vocOf s T).itemsAll (ids.take (i + 1)) = (vocOf s T).itemsAll (ids.take i) ++ (vocOf s T).items ids[i] := by
      rw [List.take_add_one, List.getElem?_eq_getElem hi, Voc.itemsAll_append]
      simp [Voc.itemsAll]
    rw [hsnoc] at ih
    generalize (vocOf s T).itemsAll (ids.take i) = o at hown hon hlen ih
    refine hI _ out.a out.n out.c q (CondP.yes (by simp; omega) ?_)
    intro J hJ w4 hw4
    have hJ' : ∀ (l : Sl) (v : World), v.ownsRow w1.heap.size tInt 1 l.v l.n ((o ++ (vocOf s T).items ids[i]).flatMap encInt) → Below w1.heap.size w1 v → J [.slice l.a l.n l.c] v := fun l v h1 h2 => hJ l.a l.n l.c v (Ar.nat (i + 1) rfl (by omega) (ih (l, v) ⟨h1, h2⟩))
    have b4 : Below q.heap.size q w4 := by subst hw4; exact drew_on q
    have hB4 := below_then hB b4
    have hown4 : w4.ownsRow w1.heap.size tInt 1 out.v out.n (o.flatMap encInt) := by subst hw4; exact own_drew hown
    have hw := below_then hb1 hB4
    obtain ⟨p, hp, c0⟩ := cell_rw (hr.on hw) hi rfl
    refine ⟨_, _, _, _, _, _, _, _, _, _, _, _, _, _, _, agg5 (held_on hB4 l1), NilC.mk p hp ⟨by omega, by omega, _, c0, ?_⟩⟩
    refine (refMark_spec w4 x s T (h.on hw) ids[i]).mono ?_
    rintro e w5 ⟨rfl, b5⟩
    have hB5 := below_then hB4 b5
    have hown5 := own_on hown4 b5
    have hw5 := below_then hb1 hB5
    refine ⟨_, rfl, ?_⟩
    cases hm : markOf s.specials ids[i] with
    | some k =>
      have hv : refMarkV s ids[i] = -1 - (k : Int) := by rw [refMarkV, hm]; rfl
      have hit : (vocOf s T).items ids[i] = [-1 - (k : Int)] := by
        unfold Voc.items Voc.place
        rw [show (vocOf s T).sp.idxOf? ids[i] = some k from hm]
      rw [hv]
      refine CondP.yes (decide_eq_true (by omega)) ?_
      intro w6 hw6
      obtain ⟨l', w7, hl', hrun, hown', hB', _⟩ := elInt.push hown5 (-1 - (k : Int)) hw6 rfl hB5.size (by omega) (by decide)
      exact ⟨l'.a, l'.n, l'.c, w7, hrun, hJ' l' w7 (by rw [hit]; exact hown') (hB' _ hB5)⟩
    | none =>
      have hv : refMarkV s ids[i] = 0 := by rw [refMarkV, hm]; rfl
      have hit : (vocOf s T).items ids[i] = ints (bytesOf T ids[i]) := by
        unfold Voc.items Voc.place
        rw [show (vocOf s T).sp.idxOf? ids[i] = none from hm]
        rfl
      have hin : inTab T ids[i] := by
        rcases hh _ (List.getElem_mem hi) with ht | ht
        · exact (tok_iff h.ok _).2 ht
        · exact absurd ht (List.idxOf?_eq_none_iff.1 hm)
      rw [hv]
      refine CondP.no rfl ?_
      intro w8 hw8
      have b8 : Below w5.heap.size w5 w8 := by subst hw8; exact drew_on w5
      have hB8 := below_then hB5 b8
      have hw8' := below_then hb1 hB8
      have hown8 : w8.ownsRow w1.heap.size tInt 1 out.v out.n (o.flatMap encInt) := by subst hw8; exact own_drew hown5
      obtain ⟨p', hp', c0'⟩ := cell_rw (hr.on hw8') hi rfl
      obtain ⟨ent, he, hbe⟩ := bytesOf_at hin
      have hin1 := hin.1
      have hin2 := hin.2
      have ht1 := h.t.n1
      obtain ⟨pb, hpb, _, hcb⟩ := ((h.on hw8').t.r1) ids[i].toNat ent.1 (by rw [List.getElem?_map, he]; rfl)
      have cb := hcb 0 _ rfl
      rw [add_zero] at cb
      have hshort := h.ok.short ent (List.mem_of_getElem? he)
      rw [hit, hbe] at hJ'
      refine ⟨x.t.b.a, x.t.b.n, x.t.b.c, by rw [Addr.add_add]; exact ptr_add0 _ _ (held_on hB8 l1) 0, NilC.mk p' hp' ⟨by omega, by omega, _, c0', NilC.mk pb hpb ⟨by omega, by omega, _, cb, ?_⟩⟩⟩
      intro I2 hI2
      have key2 := climb2 (α := Sl × World) ent.1.length (fun k y => y.2.ownsRow w1.heap.size tInt 1 y.1.v y.1.n ((o ++ ints (ent.1.take k)).flatMap encInt) ∧ Below w1.heap.size w1 y.2) (fun k y => I2 [.int .i64 (k : Int), y.1.v] y.2) (out, w8) ⟨by simpa [ints] using hown8, hB8⟩ ?_ ?_
      · exact key2
      · rintro k hk ih2 ⟨l, v⟩ ⟨hv, hBv⟩
        change v.ownsRow w1.heap.size tInt 1 l.v l.n _ at hv
        change Below w1.heap.size w1 v at hBv
        have hln := (LsAt.of_own elInt hv).n
        rw [List.length_append] at hln
        have : (ints (ent.1.take k)).length ≤ 64 := by simp [ints]; omega
        refine hI2 _ l.a l.n l.c v (CondP.yes (by rw [str_size]; simp; omega) ⟨by omega, by rw [str_size]; omega, ?_⟩)
        intro w10 hw10
        rw [btAt_str _ k hk, wrap_byte] at hw10
        obtain ⟨l', w11, hl', hrun, hown', hB', _⟩ := elInt.push hv ((ent.1[k].toNat : Nat) : Int) hw10 rfl hBv.size (by omega) (by decide)
        refine ⟨l'.a, l'.n, l'.c, w11, hrun, Ar.nat (k + 1) rfl (by omega) (ih2 (l', w11) ⟨?_, hB' _ hBv⟩)⟩
        rw [ints_take _ k hk, ← List.append_assoc]
        exact hown'
      · rintro ⟨l, v⟩ ⟨hv, hBv⟩
        change v.ownsRow w1.heap.size tInt 1 l.v l.n _ at hv
        change Below w1.heap.size w1 v at hBv
        rw [List.take_length] at hv
        exact hI2 _ l.a l.n l.c v (CondP.no (by rw [str_size]; simp) (hJ' l v hv hBv))
  · rintro ⟨out, q⟩ ⟨hown, hB⟩
    rw [List.take_length] at hown
    exact hI _ out.a out.n out.c q (CondP.no (by simp) ⟨out, rfl, LsAt.of_own elInt hown, below_then hb1 hB⟩)
end Go.Proofs.YtpklkijdlnioaaaGreat.Eng
