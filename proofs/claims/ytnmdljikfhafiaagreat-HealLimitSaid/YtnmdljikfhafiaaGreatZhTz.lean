/- The trie: what lies below a node, rising; the longer tokens; walked by the engine. -/
import Derived.Test.YtnmdljikfhafiaaGreatZhVi
import Derived.Test.YtnmdljikfhafiaaGreatZhSh
import Derived.Sort.OwnSortedInts
import Derived.Test.YtnmdljikfhafiaaGreatZhSp
import Derived.Test.YtnmdljikfhafiaaGreatZhVc
set_option linter.unusedVariables false
set_option linter.unusedSimpArgs false
set_option maxRecDepth 100000
namespace Go.Proofs.YtnmdljikfhafiaaGreat.Eng
open Go Go.RowKit
abbrev sortI (xs : List Int) : List Int := xs.mergeSort fun x y => decide (x ≤ y)
theorem sortI_spec (w : World) (B : Nat) (l : Sl) (xs : List Int) (ho : w.ownsRow B tInt 1 l.v l.n (xs.flatMap encInt)) (hl : xs.length ≤ 1000000) :
  CP 102 #[l.v] w fun e w' => e = .returned (.tuple #[]) ∧ w'.ownsRow B tInt 1 l.v l.n ((sortI xs).flatMap encInt) ∧ w.grownBy w' l.v.ownBlock := by
 obtain ⟨hn, hc⟩ := RowB.of_own ho
 rcases hc with rfl | ⟨b, cap, rfl, hB, cur, h1, h2, h3, h4, h5⟩
 ·have h0 : xs = [] := List.eq_nil_of_length_eq_zero hn.symm
  subst h0
  refine (Tryz.slices_Sort_int_none none 0 w).mono ?_
  rintro e w' ⟨rfl, hw⟩
  subst hw
  refine ⟨rfl, ?_, ⟨rfl, rfl, rfl, Nat.le_refl _, fun _ _ _ => rfl⟩⟩
  show w'.ownsRow B tInt 1 sl0.v 0 (([] : List Int).mergeSort _ |>.flatMap encInt)
  rw [List.mergeSort_nil]
  exact ho
 ·have ht : cur.toList.take xs.length = xs.map (Value.int .i64) := by
   apply List.ext_getElem?
   intro j
   rw [List.getElem?_take]
   by_cases hj : j < xs.length
   ·rw [if_pos hj, Array.getElem?_toList, h5 j hj, List.getElem?_map, List.getElem?_eq_getElem hj]
    rfl
   ·rw [if_neg hj, List.getElem?_map, List.getElem?_eq_none_iff.2 (by omega)]
    rfl
  refine (Tryz.slices_Sort_int b 0 cap xs w (holds_of_blockI h1 ht) (Array.getElem?_eq_some_iff.1 h1).1 (by omega)).mono ?_
  rintro e w' ⟨rfl, n, os, rfl⟩
  refine ⟨rfl, ?_, grownBy_sortedI _⟩
  rw [ints_cells]
  exact ownsRow_sortedI (List.length_mergeSort _) hB h1 h2 h3 (h4.trans (Nat.mul_one _).symm)
theorem rising_of : ∀ {l : List Int}, l.Pairwise (fun x y => decide (x ≤ y) = true) → l.Nodup → l.Pairwise (· < ·)
 | [], _, _ => .nil
 | x :: l, h, hn => by
  rw [List.pairwise_cons] at h ⊢
  rw [List.nodup_cons] at hn
  refine ⟨fun y hy => ?_, rising_of h.2 hn.2⟩
  have h1 := of_decide_eq_true (h.1 y hy)
  have h2 : x ≠ y := fun e => hn.1 (by rw [e]; exact hy)
  omega
theorem sortI_rising {xs : List Int} (hn : xs.Nodup) : (sortI xs).Pairwise (· < ·) := by
 refine rising_of (List.pairwise_mergeSort (fun a b c h1 h2 => ?_) (fun a b => ?_) xs) ((List.mergeSort_perm xs _).nodup_iff.2 hn)
 ·have h1 := of_decide_eq_true h1
  have h2 := of_decide_eq_true h2
  exact decide_eq_true (by omega)
 ·rcases Int.le_total a b with h | h
  ·rw [decide_eq_true h]
   rfl
  ·rw [decide_eq_true h, Bool.or_true]
structure IdsOk (S : List Bs) (idf : Bs → Int) (N : Nat) : Prop where
 few : N ≤ 1000000
 range : ∀ u, idf u = -1 ∨ (0 ≤ idf u ∧ idf u < N)
 inj : ∀ u ∈ S, ∀ x ∈ S, idf u = idf x → idf u ≠ -1 → u = x
 short : ∀ u ∈ S, u.length ≤ 1000
theorem trieBelow_spec {w0 : World} {n1 : Nat} {S : List Bs} {nd mp : Bs → Nat} {idf : Bs → Int} (hT : TrieAt w0 n1 S nd mp idf) {N : Nat} (hI : IdsOk S idf N) {t : Bs} (ht : t ∈ S) :
  CP 158 #[.pointer (some ⟨nd t, 0, none⟩)] w0 fun e w' => ∃ (l : Sl) (zs : List Int), e = .returned l.v ∧ w'.ownsRow w0.heap.size tInt 1 l.v l.n (zs.flatMap encInt) ∧ zs.Pairwise (· < ·) ∧ (∀ x, x ∈ zs ↔ Bel S idf t x) ∧ Below w0.heap.size w0 w' := by
 refine calls_ret (vc158_calls (some ⟨nd t, 0, none⟩) w0 (fun u w' => ∃ (l : Sl) (zs : List Int), u = l.v ∧ w'.ownsRow w0.heap.size tInt 1 l.v l.n (zs.flatMap encInt) ∧ zs.Pairwise (· < ·) ∧ (∀ x, x ∈ zs ↔ Bel S idf t x) ∧ Below w0.heap.size w0 w') ?_) (by rintro v w' ⟨l, zs, rfl, h⟩; exact ⟨l, zs, rfl, h⟩)
 intro w1 hw1 w2 hw2
 have z1 : w1.heap.size = w0.heap.size + 1 := by subst hw1; rw [World.size_alloc]
 have b1 : Below w0.heap.size w0 w1 := by subst hw1; exact below_alloc _ _
 have b2 : Below w1.heap.size w1 w2 := by subst hw2; exact below_alloc _ _
 have hb1 : Boxed w1 w0.heap.size tInts (.slice none 0 0) := by subst hw1; exact Boxed.new _ _ _
 have hb2 : Boxed w2 w0.heap.size tInts (.slice none 0 0) := held_on b2 hb1
 have hg2 : w2.heap[w0.heap.size + 1]? = some (.cells #[.nilFunc] tGFun (0, 0)) := by subst hw2; rw [← z1]; exact alloc_new _ _
 have hnb : nb w1 = ⟨w0.heap.size + 1, 0, none⟩ := by unfold nb; rw [z1]
 rw [hnb]
 refine ⟨rfl, ⟨_, cell_heap hg2⟩, frozen_heap hg2, ?_⟩
 intro w3 hw3
 have hg3 : w3.heap[w0.heap.size + 1]? = some (.cells #[.func (.func 210) #[] #[.pointer (some ⟨w0.heap.size, 0, none⟩), .pointer (some ⟨w0.heap.size + 1, 0, none⟩)]] tGFun (0, 0)) := by
  subst hw3
  exact setCell_heap hg2 _
 have o3 : OnlyB (w0.heap.size + 1) w2 w3 := by subst hw3; exact OnlyB.set ..
 have hb3 : Boxed w3 w0.heap.size tInts sl0.v := by
  show w3.heap[_]? = _
  rw [o3.ne _ (by omega)]
  exact hb2
 have hle3 : Below w0.heap.size w0 w3 := (below_then b1 b2).trans (o3.below (by omega))
 have hG3 : GaAt w0 w3 [] := ⟨hle3, hg3, sl0, hb3, own_none _ _ _ _ encInt⟩
 refine ⟨_, cell_heap hg3, callG_of (by kernel_rfl) ?_⟩
 refine (gather_spec hT hI.few hI.range hI.inj 1000 t ht (fun u hu _ => by have := hI.short u hu; omega) w3 [] hG3 List.nodup_nil (fun x hx => by cases hx) (fun x _ hx => by cases hx)).mono ?_
 rintro e w4 ⟨rfl, ys, hG4, hnd4, hys, _⟩
 rw [List.nil_append] at hG4 hnd4
 obtain ⟨o, hb4, ho4⟩ := hG4.out
 refine ⟨rfl, o.a, o.n, o.c, hb4.cell, ?_⟩
 have hfew := few_of (N := N) hnd4 (fun x hx => by
  obtain ⟨h1, u, _, _, rfl⟩ := (hys x).1 hx
  rcases hI.range u with h | h
  ·exact absurd h h1
  ·exact h)
 have hN := hI.few
 refine (sortI_spec w4 w0.heap.size o ys ho4 (by omega)).mono ?_
 rintro e w5 ⟨rfl, ho5, hg5⟩
 have hb5 : Boxed w5 w0.heap.size tInts o.v := hb4.kept hg5 (hb4.not_row (by decide) ho4)
 refine ⟨rfl, o.a, o.n, o.c, hb5.cell, o, sortI ys, rfl, ho5, sortI_rising hnd4, fun x => ?_, hG4.le.trans ?_⟩
 ·rw [List.mem_mergeSort]
  exact hys x
 ·refine (Below.refl w0.heap.size w4).grown hg5 hG4.le.size fun k ek => ?_
  rcases ho4.2 with ⟨e0, _⟩ | ⟨g, cap, cur, e0, hB, _⟩
  ·rw [e0] at ek
   simp [Value.ownBlock] at ek
  ·rw [e0] at ek
   obtain rfl : g = k := by simpa [Value.ownBlock] using ek
   exact hB
theorem trieLonger_spec {w : World} {n1 r : Nat} {S : List Bs} {nd mp : Bs → Nat} {idf : Bs → Int} (hT : TrieAt w n1 S nd mp idf) {n : Int} (hR : RootAt w r (nd []) n) {N : Nat} (hI : IdsOk S idf N) (s : Bs) (hs : s.length ≤ 1000000000) :
  CP 113 #[.pointer (some ⟨r, 0, none⟩), .string (str s)] w fun e w' => ∃ (l : Sl) (zs : List Int), e = .returned l.v ∧ w'.ownsRow w.heap.size tInt 1 l.v l.n (zs.flatMap encInt) ∧ zs.Pairwise (· < ·) ∧ (∀ x, x ∈ zs ↔ x ≠ -1 ∧ ∃ u ∈ S, s <+: u ∧ u ≠ s ∧ idf u = x) ∧ Below w.heap.size w w' := by
 refine calls_ret (vc113_calls (some ⟨r, 0, none⟩) (str s) w (fun u w' => ∃ (l : Sl) (zs : List Int), u = l.v ∧ w'.ownsRow w.heap.size tInt 1 l.v l.n (zs.flatMap encInt) ∧ zs.Pairwise (· < ·) ∧ (∀ x, x ∈ zs ↔ x ≠ -1 ∧ ∃ u ∈ S, s <+: u ∧ u ≠ s ∧ idf u = x) ∧ Below w.heap.size w w') ?_) (by rintro v w' ⟨l, zs, rfl, h⟩; exact ⟨l, zs, rfl, h⟩)
 refine (trieFind_spec w n1 r S nd mp idf hT n hR s hs).mono ?_
 rintro e w1 ⟨rfl, b1⟩
 refine ⟨_, rfl, ?_⟩
 intro w2 hw2
 have b2 : Below w1.heap.size w1 w2 := by subst hw2; exact below_alloc _ _
 have h2 : w2.heap[w1.heap.size]? = some (.cells #[.pointer none] tTPtr (0, 0)) := by subst hw2; exact alloc_new _ _
 refine ⟨rfl, ⟨_, cell_heap h2⟩, frozen_heap h2, ?_⟩
 intro w3 hw3
 have h3 : w3.heap[w1.heap.size]? = some (.cells #[.pointer (if s ∈ S then some ⟨nd s, 0, none⟩ else none)] tTPtr (0, 0)) := by subst hw3; exact setCell_heap h2 _
 have o3 : OnlyB w1.heap.size w2 w3 := by subst hw3; exact OnlyB.set ..
 have hz1 := b1.size
 have hb3 : Below w.heap.size w w3 := (below_then b1 b2).trans (o3.below hz1)
 refine ⟨_, cell_heap h3, ?_⟩
 by_cases hin : s ∈ S
 ·rw [if_pos hin] at h3 ⊢
  refine CondP.no rfl ⟨_, cell_heap h3, ?_⟩
  have hT3 := hT.on hb3
  refine (trieBelow_spec hT3 hI hin).mono ?_
  rintro e w4 ⟨l, zs, rfl, ho4, hp4, hz4, b4⟩
  refine ⟨l.a, l.n, l.c, rfl, ?_⟩
  have hz3 := hb3.size
  have fin : ∀ x, x ∈ zs.filter (fun x => !(x == idf s)) ↔ x ≠ -1 ∧ ∃ u ∈ S, s <+: u ∧ u ≠ s ∧ idf u = x := by
   intro x
   rw [List.mem_filter, hz4]
   constructor
   ·rintro ⟨⟨h1, u, hu, hp, he⟩, h2⟩
    refine ⟨h1, u, hu, hp, fun e => ?_, he⟩
    subst e
    simp [he] at h2
   ·rintro ⟨h1, u, hu, hp, hne, he⟩
    refine ⟨⟨h1, u, hu, hp, he⟩, ?_⟩
    have : x ≠ idf s := fun e => hne (hI.inj u hu s hin (by rw [he, e]) (by rw [he]; exact h1))
    simp [this]
  have clo : ∀ (x : Int) (q : World), Below w3.heap.size w3 q → CallG ctx (.func (.func 162) #[] #[.pointer (some (nb w1))]) [.int .i64 x] q fun e q' => e = .returned (.bool (x == idf s)) ∧ q' = q := by
   intro x q hq
   refine callG_of (by kernel_rfl) ?_
   refine calls_ret (vc162_calls x (some (nb w1)) q (fun u q' => u = .bool (x == idf s) ∧ q' = q) ?_) (by rintro v w' ⟨rfl, h⟩; exact ⟨rfl, h⟩)
   exact NilC.mk _ rfl ⟨_, cell_heap (held_on hq h3), NilC.mk _ rfl ⟨_, ptr_add0 _ _ ((hT3.on hq).node _ hin) 1, rfl, rfl⟩⟩
  obtain ⟨hln, hc⟩ := RowB.of_own ho4
  rcases hc with rfl | ⟨b, cap, rfl, hB, hrow⟩
  ·have h0 : zs = [] := List.eq_nil_of_length_eq_zero hln.symm
   subst h0
   have hdel : CP 98 #[.slice none 0 0, .func (.func 162) #[] #[.pointer (some (nb w1))]] w4 fun e w' => e = .returned (.slice none 0 0) ∧ Below w4.heap.size w4 w' := by
    refine calls_ret (vc98_calls none 0 0 _ w4 (fun u w' => u = .slice none 0 0 ∧ Below w4.heap.size w4 w') ?_) (by rintro v w' ⟨rfl, h⟩; exact ⟨rfl, h⟩)
    refine (indexI_spec none 0 [] _ (fun _ => false) w4 (fun j x hj => by cases hj) (by simp) (fun x hx => by cases hx)).mono ?_
    rintro e w5 ⟨rfl, b5⟩
    exact ⟨_, rfl, CondP.yes rfl ⟨rfl, b5⟩⟩
   refine hdel.mono ?_
   rintro e w5 ⟨rfl, b5⟩
   have hb45 := hb3.trans ((b4.mono hz3).trans (b5.mono (Nat.le_trans hz3 b4.size)))
   exact ⟨none, 0, 0, rfl, sl0, [], rfl, own_none _ _ _ _ encInt, .nil, fin, hb45⟩
  ·obtain ⟨cur, _, hcz, hcm, _⟩ := hrow
   have hrow : RowB w4 b cap zs := by
    obtain ⟨_, hc⟩ := RowB.of_own ho4
    rcases hc with e | ⟨b', cap', e, _, h⟩
    ·cases e
    ·cases e
     exact h
   have hzl : zs.length ≤ 1000000000 := by
    have hnd : zs.Nodup := hp4.imp fun h e => by omega
    have := few_of (N := N) hnd (fun x hx => by
     obtain ⟨h1, u, _, _, rfl⟩ := (hz4 x).1 hx
     rcases hI.range u with h | h
     ·exact absurd h h1
     ·exact h)
    have := hI.few
    omega
   refine (deleteI_spec (fun q => Below w3.heap.size w3 q) b cap zs hzl _ (fun x => x == idf s) (fun q q' hq _ ho => hq.trans (ho.below hB)) (fun x hx q hq _ => (clo x q hq).mono ?_) w4 b4 hrow).mono ?_
   ·rintro e q' ⟨rfl, hw⟩
    subst hw
    exact ⟨rfl, hq, rfl⟩
   rintro e w5 ⟨rfl, b5, hr5⟩
   exact ⟨_, _, _, rfl, ⟨some ⟨b, 0, none⟩, (zs.filter (fun x => !(x == idf s))).length, cap⟩, _, rfl, hr5.own (by omega), hp4.filter _, fin, hb3.trans (b5.mono hz3)⟩
 ·rw [if_neg hin] at h3 ⊢
  refine CondP.yes rfl ⟨sl0, [], rfl, own_none _ _ _ _ encInt, .nil, fun x => ⟨fun h => (by cases h), ?_⟩, hb3⟩
  rintro ⟨_, u, hu, hp, _⟩
  exact absurd (hT.pre hu hp) hin
theorem encode_canon {V : Voc} (h : V.Ok) {Z : List Int} (hZ : V.Items Z) : V.Canon (V.encode Z) := by
 unfold Voc.Canon
 rw [(Voc.encode_items h hZ).1]
theorem canon_last {V : Voc} (h : V.Ok) {l : List Int} (hl : ∀ x ∈ l, V.Has x) (hc : V.Canon l) {k : Int} (hk : V.Has k) : V.Canon (l ++ [k]) ↔ V.Canon (l.drop (l.length - 1) ++ [k]) := by
 rcases List.eq_nil_or_concat l with rfl | ⟨init, x, rfl⟩
 ·rfl
 ·rw [List.concat_eq_append] at hl hc ⊢
  have e : (init ++ [x]).drop ((init ++ [x]).length - 1) = [x] := by simp
  rw [e]
  have hx : V.Canon [x] := (Voc.canon_append h (P := init) (Q := [x]) hl hc).2
  have h1 := Voc.canon_more h hl hc hk
  have h2 := Voc.canon_more h (init := []) (l := x) (t := k) (fun y hy => hl y (by simp at hy; simp [hy])) hx hk
  rw [h1]
  exact h2.symm
def candAt (s : SpecV) (T : List Ent) (Z : List Int) (p : Nat) : List Int :=
 if ∀ y ∈ Z.drop p, 0 ≤ y then ((List.range T.length).map fun (i : Nat) => (i : Int)).filter fun k => decide (toBs (Z.drop p) <+: bytesOf T k ∧ (toBs (Z.drop p)).length < (bytesOf T k).length ∧ (vocOf s T).Canon ((vocOf s T).encode (Z.take p) ++ [k])) else []
theorem candAt_rising (s : SpecV) (T : List Ent) (Z : List Int) (p : Nat) : (candAt s T Z p).Pairwise (· < ·) := by
 unfold candAt
 split
 ·refine List.Pairwise.filter _ ?_
  rw [List.pairwise_map]
  exact List.pairwise_lt_range.imp fun h => by omega
 ·exact .nil
theorem mem_candAt {s : SpecV} {T : List Ent} {Z : List Int} {p : Nat} {k : Int} : k ∈ candAt s T Z p ↔ (∀ y ∈ Z.drop p, 0 ≤ y) ∧ inTab T k ∧ toBs (Z.drop p) <+: bytesOf T k ∧ (toBs (Z.drop p)).length < (bytesOf T k).length ∧ (vocOf s T).Canon ((vocOf s T).encode (Z.take p) ++ [k]) := by
 unfold candAt
 split
 ·rename_i h
  rw [List.mem_filter, decide_eq_true_eq]
  constructor
  ·rintro ⟨hm, h1⟩
   obtain ⟨i, hi, rfl⟩ := List.mem_map.1 hm
   have := List.mem_range.1 hi
   exact ⟨h, ⟨by omega, by omega⟩, h1⟩
  ·rintro ⟨_, hk, h1⟩
   obtain ⟨h2, h3⟩ := hk
   exact ⟨List.mem_map.2 ⟨k.toNat, List.mem_range.2 (by omega), by omega⟩, h1⟩
 ·rename_i h
  constructor
  ·intro hm
   cases hm
  ·rintro ⟨h1, _⟩
   exact absurd h1 h
theorem rising_ext : ∀ {l l' : List Int}, l.Pairwise (· < ·) → l'.Pairwise (· < ·) → (∀ x, x ∈ l ↔ x ∈ l') → l = l'
 | [], [], _, _, _ => rfl
 | [], y :: l', _, _, h => by have := (h y).2 (by simp); cases this
 | x :: l, [], _, _, h => by have := (h x).1 (by simp); cases this
 | x :: l, y :: l', h1, h2, h => by
  rw [List.pairwise_cons] at h1 h2
  have e : x = y := by
   rcases List.mem_cons.1 ((h x).1 (by simp)) with e | hx
   ·exact e
   ·rcases List.mem_cons.1 ((h y).2 (by simp)) with e | hy
    ·exact e.symm
    ·have := h1.1 y hy
     have := h2.1 x hx
     omega
  subst e
  congr 1
  refine rising_ext h1.2 h2.2 fun z => ⟨fun hz => ?_, fun hz => ?_⟩
  ·rcases List.mem_cons.1 ((h z).1 (List.mem_cons_of_mem _ hz)) with e | hz'
   ·have := h1.1 z hz
    omega
   ·exact hz'
  ·rcases List.mem_cons.1 ((h z).2 (List.mem_cons_of_mem _ hz)) with e | hz'
   ·have := h2.1 z hz
    omega
   ·exact hz'
def TailIs (Z : List Int) (n : Nat) : Prop := n ≤ Z.length ∧ (∀ y ∈ Z.drop (Z.length - n), 0 ≤ y) ∧ (n < Z.length → ∃ y, Z[Z.length - 1 - n]? = some y ∧ y < 0)
def readyI (s : SpecV) (Z : List Int) : Int × Int := if 4000 < Z.length then (0, 3) else if idx (fun y => !itemOk s y) Z ≥ 0 then (idx (fun y => !itemOk s y) Z, 2) else (Z.length, 0)
theorem readyI_ok {s : SpecV} {Z : List Int} (h : (readyI s Z).2 = 0) : Z.length ≤ 4000 ∧ (∀ y ∈ Z, itemOk s y = true) ∧ readyI s Z = ((Z.length : Int), 0) := by
 unfold readyI at h ⊢
 split at h
 ·cases h
 ·rename_i h4
  rw [if_neg h4]
  split at h
  ·cases h
  ·rename_i hi
   rw [if_neg hi]
   refine ⟨by omega, fun y hy => ?_, rfl⟩
   unfold idx at hi
   cases hx : Z.findIdx? (fun y => !itemOk s y) with
   | some i => rw [hx] at hi; exact absurd (show ((i : Nat) : Int) ≥ 0 by omega) hi
   | none =>
    have := List.findIdx?_eq_none_iff.1 hx y hy
    simpa using this
theorem encItems_spec (w : World) (v : Nat) (c : Array Value) (tp bp mp : Nat) (h : VBlk w v c tp bp mp) (s : SpecV) (T : List Ent) (x : SpecW) (hP : VocParts w s T x tp bp mp) (A : Option Addr) (C : Nat) (Z : List Int) (hr : Rw encInt 1 w A Z) (hC : Z.length ≤ C) :
  CP 106 #[.pointer (some ⟨v, 0, none⟩), .slice A Z.length C] w fun e w' => ∃ l : Sl, e = .returned (.tuple #[l.v, .int .i64 (readyI s Z).1, .int .i64 (readyI s Z).2]) ∧ Below w.heap.size w w' := by
 refine calls_ret (vc106_calls (some ⟨v, 0, none⟩) A Z.length C w (fun u w' => ∃ l : Sl, u = .tuple #[l.v, .int .i64 (readyI s Z).1, .int .i64 (readyI s Z).2] ∧ Below w.heap.size w w') ?_) (by rintro v w' ⟨l, rfl, h⟩; exact ⟨l, rfl, h⟩)
 intro w1 hw1
 have b1 : Below w.heap.size w w1 := by subst hw1; exact below_alloc _ _
 have l1 : w1.heap[w.heap.size]? = some (.cells #[.pointer (some ⟨v, 0, none⟩)] 31 (0, 0)) := by subst hw1; exact alloc_new _ _
 have pc : ∀ {w' : World}, w'.heap[w.heap.size]? = some (.cells #[.pointer (some ⟨v, 0, none⟩)] 31 (0, 0)) → w'.cell? (nb w) = some (.pointer (some ⟨v, 0, none⟩)) := fun h => cell_heap h
 have hfew := hP.few
 refine ⟨_, pc l1, CondP.no rfl (CondP.mk (fun h4 => ?_) fun h4 => ?_)⟩
 ·have h4 := of_decide_eq_true h4
  exact ⟨sl0, by rw [readyI, if_pos (by omega)], b1⟩
 have h4 := of_decide_eq_false h4
 refine (indexI_spec A C Z _ (fun y => !itemOk s y) w1 (hr.on b1) (by omega) ?_).mono ?_
 ·intro y hy w2 b2
  refine callG_of (by kernel_rfl) ?_
  refine calls_ret (vc159_calls y (some (nb w)) w2 (fun u w' => u = .bool (!itemOk s y) ∧ Below w2.heap.size w2 w') ?_) (by rintro v w' ⟨rfl, h⟩; exact ⟨rfl, h⟩)
  have b12 := below_then b1 b2
  refine NilC.mk _ rfl ⟨_, pc (held_on b2 l1), ?_⟩
  refine (encRight_spec w2 v c tp bp mp (h.on b12) s (hP.on b12).marks (by omega) y).mono ?_
  rintro e w3 ⟨rfl, hw⟩
  subst hw
  exact ⟨_, rfl, rfl, Below.refl _ _⟩
 ·rintro e w2 ⟨rfl, b2⟩
  have b12 := below_then b1 b2
  refine ⟨_, rfl, CondP.mk (fun hi => ?_) fun hi => ?_⟩
  ·have hi := of_decide_eq_true hi
   exact ⟨sl0, by rw [readyI, if_neg (by omega), if_pos hi], b12⟩
  ·have hi := of_decide_eq_false hi
   have hrd : readyI s Z = ((Z.length : Int), 0) := by rw [readyI, if_neg (by omega), if_neg hi]
   refine ⟨_, pc (held_on b2 l1), ?_⟩
   refine (tokens_spec w2 v c tp bp mp (h.on b12) s T x (hP.on b12) A C Z (hr.on b12) hC (by omega) (readyI_ok (by rw [hrd])).2.1).mono ?_
   rintro e w3 ⟨l, rfl, hln, ho, b3⟩
   exact ⟨_, _, _, rfl, l, by rw [hrd], below_then b12 b3⟩
theorem healTail_spec (w : World) (A : Option Addr) (C : Nat) (Z : List Int) (hr : Rw encInt 1 w A Z) (hl : Z.length ≤ 1000000000) :
  CP 47 #[.slice A Z.length C] w fun e w' => ∃ n : Nat, e = .returned (.int .i64 (n : Int)) ∧ TailIs Z n ∧ w' = w := by
 refine calls_ret (vc47_calls A Z.length C w (fun u w' => ∃ n : Nat, u = .int .i64 (n : Int) ∧ TailIs Z n ∧ w' = w) ?_) (by rintro v w' ⟨n, rfl, h⟩; exact ⟨n, rfl, h⟩)
 intro I hI
 have key := climb2 (α := Unit) Z.length (fun i _ => ∀ y ∈ Z.drop (Z.length - i), 0 ≤ y) (fun i _ => I [.int .i64 (i : Int)] w) () (by rw [Nat.sub_zero, List.drop_length]; intro y hy; cases hy) ?_ ?_
 ·exact key
 ·rintro i hi ih ⟨⟩ hin
  have hj : Z.length - 1 - i < Z.length := by omega
  obtain ⟨p, hp, c0⟩ := cell_rw hr hj rfl
  refine hI _ w (CondP.yes (decide_eq_true (by omega)) (Ar.nat (Z.length - 1) (by omega) (by omega) (Ar.nat (Z.length - 1 - i) (by omega) (by omega) (NilC.mk p hp ⟨by omega, by omega, Z[Z.length - 1 - i], ?_, CondP.mk (fun h0 => ?_) fun h0 => ?_⟩))))
  ·rw [Nat.mul_one] at c0
   rw [show (((Z.length - 1 - i : Nat) : Int)).toNat * 1 = Z.length - 1 - i by omega]
   exact c0
  ·have h0 := of_decide_eq_true h0
   refine Ar.nat (i + 1) rfl (by omega) (ih () ?_)
   intro y hy
   have e : Z.drop (Z.length - (i + 1)) = Z[Z.length - 1 - i] :: Z.drop (Z.length - i) := by
    rw [show Z.length - (i + 1) = Z.length - 1 - i by omega, List.drop_eq_getElem_cons hj, show Z.length - 1 - i + 1 = Z.length - i by omega]
   rw [e] at hy
   rcases List.mem_cons.1 hy with rfl | hy
   ·exact h0
   ·exact hin y hy
  ·have h0 := of_decide_eq_false h0
   exact ⟨i, rfl, ⟨by omega, hin, fun _ => ⟨_, List.getElem?_eq_getElem hj, by omega⟩⟩, rfl⟩
 ·rintro ⟨⟩ hin
  exact hI _ w (CondP.no (decide_eq_false (by omega)) ⟨Z.length, rfl, ⟨Nat.le_refl _, hin, fun h => absurd h (Nat.lt_irrefl _)⟩, rfl⟩)
theorem run_min2 {P : Program} (a b : Int) (ts : Array TypeId) (t : TypeId) (w : World) : (Builtin.min_ ts t #[.int .i64 a, .int .i64 b]).run P w = .ok (.int .i64 (if b < a then b else a)) w := by
 simp [Builtin.min_, Builtin.min2]
theorem tokLongest_spec (w : World) (p : Nat) (es : List Ent) (h : TabIs w p es) : CP 161 #[.pointer (some ⟨p, 0, none⟩)] w fun e w' => ∃ m : Int, e = .returned (.int .i64 m) ∧ m ≤ 64 ∧ (∀ x ∈ es, (x.1.length : Int) ≤ m) ∧ w' = w := by
 refine calls_ret (vc161_calls (some ⟨p, 0, none⟩) w (fun u w' => ∃ m : Int, u = .int .i64 m ∧ m ≤ 64 ∧ (∀ x ∈ es, (x.1.length : Int) ≤ m) ∧ w' = w) ?_) (by rintro v w' ⟨n, rfl, h⟩; exact ⟨n, rfl, h⟩)
 obtain ⟨l, mb, mp, most, h1, h2, h3, h4, h5, h6, h7⟩ := h
 exact CondP.no rfl (NilC.mk _ rfl ⟨_, ptr_add0 _ _ h1 3, most, rfl, h6, h7, rfl⟩)
abbrev tPrompt : TypeId := 175
theorem TrieAt.touch {w w' : World} {n₀ v : Nat} {S : List Bs} {nd mp : Bs → Nat} {idf : Bs → Int} (h : TrieAt w n₀ S nd mp idf) (hv : v < n₀) (t : Touch v w w') : TrieAt w' n₀ S nd mp idf :=
 ⟨h.root, h.nodup, h.closed, h.base, fun u hu => t.held (by have := (h.base u hu).1; omega) (h.node u hu), fun u hu => (h.map u hu).same (t.block _ (h.map u hu).lt (by have := (h.base u hu).2; omega)), h.ndInj, h.mpInj, h.off⟩
structure PrAt (w : World) (pb v r n1 : Nat) (s : SpecV) (T : List Ent) (S : List Bs) (nd mp : Bs → Nat) (A : Option Addr) (C : Nat) (Z : List Int) : Prop where
 blk : w.heap[pb]? = some (.cells #[.pointer (some ⟨r, 0, none⟩), .pointer (some ⟨v, 0, none⟩), .slice A Z.length C] tPrompt (0, 0))
 voc : VocIs w v s T
 ok : TOk T
 vok : (vocOf s T).Ok
 trie : TrieAt w n1 S nd mp (idOf T)
 root : ∃ n, RootAt w r (nd []) n
 mem : ∀ u, u ∈ S ↔ u = [] ∨ ∃ e ∈ T, u <+: e.1
 row : Rw encInt 1 w A Z
 cap : Z.length ≤ C
 len : Z.length ≤ 4000
 items : ∀ y ∈ Z, itemOk s y = true
 far : Z ≠ [] → ∀ p, A = some p → p.block ≠ v
 vn : v < n1
 rn : n1 ≤ r
 pn : n1 ≤ pb
theorem PrAt.on {w w' : World} {pb v r n1 : Nat} {s : SpecV} {T : List Ent} {S : List Bs} {nd mp : Bs → Nat} {A : Option Addr} {C : Nat} {Z : List Int} (h : PrAt w pb v r n1 s T S nd mp A C Z) (hb : Below w.heap.size w w') : PrAt w' pb v r n1 s T S nd mp A C Z := by
 obtain ⟨n, hn⟩ := h.root
 exact ⟨held_on hb h.blk, h.voc.on hb, h.ok, h.vok, h.trie.on hb, ⟨n, held_on hb hn⟩, h.mem, h.row.on hb, h.cap, h.len, h.items, h.far, h.vn, h.rn, h.pn⟩
theorem PrAt.touch {w w' : World} {pb v r n1 : Nat} {s : SpecV} {T : List Ent} {S : List Bs} {nd mp : Bs → Nat} {A : Option Addr} {C : Nat} {Z : List Int} (h : PrAt w pb v r n1 s T S nd mp A C Z) (t : Touch v w w') (hV : VocIs w' v s T) : PrAt w' pb v r n1 s T S nd mp A C Z := by
 obtain ⟨n, hn⟩ := h.root
 have h1 := h.vn
 have h2 := h.rn
 have h3 := h.pn
 exact ⟨t.held (by omega) h.blk, hV, h.ok, h.vok, h.trie.touch h1 t, ⟨n, t.held (by omega) hn⟩, h.mem, h.row.touch t h.far, h.cap, h.len, h.items, h.far, h.vn, h.rn, h.pn⟩
def LeastIs (s : SpecV) (T : List Ent) (Z : List Int) (m : Nat) : Prop := m ≤ Z.length ∧ (∀ p, p < m → candAt s T Z p = []) ∧ ∀ y ∈ Z.drop m, 0 ≤ y
theorem least_is {s : SpecV} {T : List Ent} {Z : List Int} {n : Nat} {L : Int} (h : TailIs Z n) (hL : ∀ x ∈ T, (x.1.length : Int) ≤ L) (h0 : 0 ≤ L) {M : Int} (hM1 : M ≤ n) (hM2 : M = n ∨ M = L) (hM3 : 0 ≤ M) (m : Nat) (hm : (m : Int) = Z.length - M) : LeastIs s T Z m := by
 obtain ⟨h1, h2, h3⟩ := h
 refine ⟨by omega, fun p hp => ?_, fun y hy => h2 y ?_⟩
 ·refine List.eq_nil_iff_forall_not_mem.2 fun k hk => ?_
  obtain ⟨hb, hin, _, hlt, _⟩ := mem_candAt.1 hk
  by_cases hn : p < Z.length - n
  ·obtain ⟨y, hy, hneg⟩ := h3 (by omega)
   have hmem : y ∈ Z.drop p := by
    refine List.mem_of_getElem? (i := Z.length - 1 - n - p) ?_
    rw [List.getElem?_drop, show p + (Z.length - 1 - n - p) = Z.length - 1 - n by omega]
    exact hy
   have := hb y hmem
   omega
  ·have hML : M = L := by
    rcases hM2 with h | h
    ·omega
    ·exact h
   obtain ⟨e, he, hbo⟩ := bytesOf_at hin
   have hle := hL e (List.mem_of_getElem? he)
   rw [hbo] at hlt
   unfold toBs at hlt
   rw [List.length_map, List.length_drop] at hlt
   clear hb hin hbo he h2 h3 hL hM2 hk
   generalize List.length e.1 = el at hle hlt
   omega
 ·have e : Z.drop m = (Z.drop (Z.length - n)).drop (m - (Z.length - n)) := by
   rw [List.drop_drop]
   congr 1
   omega
  rw [e] at hy
  exact List.mem_of_mem_drop hy
section
variable {pb v r n1 : Nat} {s : SpecV} {T : List Ent} {S : List Bs} {nd mp : Bs → Nat} {A : Option Addr} {C : Nat} {Z : List Int}
theorem least_spec24 (w : World) (h : PrAt w pb v r n1 s T S nd mp A C Z) :
  CP 112 #[.pointer (some ⟨pb, 0, none⟩)] w fun e w' => ∃ m : Nat, e = .returned (.int .i64 (m : Int)) ∧ LeastIs s T Z m ∧ Below w.heap.size w w' := by
 refine calls_ret (vc112_calls (some ⟨pb, 0, none⟩) w (fun u w' => ∃ m : Nat, u = .int .i64 (m : Int) ∧ LeastIs s T Z m ∧ Below w.heap.size w w') ?_) (by rintro v w' ⟨n, rfl, h⟩; exact ⟨n, rfl, h⟩)
 intro w1 hw1
 have b1 : Below w.heap.size w w1 := by subst hw1; exact drew_on w
 have h1 := h.on b1
 have hlen := h.len
 refine NilC.mk _ rfl ⟨_, _, _, ptr_add0 _ _ h1.blk 2, NilC.mk _ rfl ⟨_, ptr_add0 _ _ h1.blk 1, ?_⟩⟩
 refine (healTail_spec w1 A C Z h1.row (by omega)).mono ?_
 rintro e w2 ⟨n, rfl, hn, hw⟩
 subst w2
 refine ⟨_, rfl, ⟨ptr_add0 _ _ h1.blk 1, trivial⟩, ?_⟩
 obtain ⟨w0, x, tp, bp, mp', d, l, uses, hR⟩ := h1.voc
 refine (vocTable_spec hR.vblk).mono ?_
 rintro e w3 ⟨rfl, hw⟩
 subst w3
 refine ⟨_, rfl, (tokLongest_spec w1 tp T hR.now.tab).mono ?_⟩
 rintro e w4 ⟨L, rfl, hL64, hL, hw⟩
 subst w4
 have h0 : 0 ≤ L := by
  have hl := h.ok.len
  have := hL _ (List.getElem_mem (show 0 < T.length by omega))
  omega
 have hn1 := hn.1
 obtain ⟨M, hM⟩ : ∃ M : Int, (if L < (n : Int) then L else (n : Int)) = M := ⟨_, rfl⟩
 have hM2 : M ≤ n ∧ (M = n ∨ M = L) ∧ 0 ≤ M := by
  rw [← hM]
  split <;> omega
 refine ⟨_, rfl, M, w1, by rw [← hM]; exact run_min2 _ _ _ _ _, NilC.mk _ rfl ⟨_, _, _, ptr_add0 _ _ h1.blk 2, ?_⟩⟩
 refine Ar.nat (Z.length - M.toNat) (by omega) (by omega) ⟨_, rfl, least_is hn hL h0 hM2.1 hM2.2.1 hM2.2.2 _ (by omega), b1⟩
end
theorem idOf_iff {T : List Ent} (hn : (T.map (·.1)).Nodup) {u : Bs} {x : Int} : (x ≠ -1 ∧ idOf T u = x) ↔ inTab T x ∧ bytesOf T x = u := by
 unfold idOf idx
 constructor
 ·rintro ⟨h1, h2⟩
  cases h : T.findIdx? (fun e : Ent => decide (e.1 = u)) with
  | none => rw [h] at h2; exact absurd h2.symm h1
  | some i =>
   rw [h] at h2
   have h2 : ((i : Nat) : Int) = x := h2
   obtain ⟨hi, hp, _⟩ := List.findIdx?_eq_some_iff_getElem.1 h
   subst h2
   refine ⟨⟨by omega, by omega⟩, ?_⟩
   unfold bytesOf
   rw [show ((i : Nat) : Int).toNat = i by omega, List.getElem?_eq_getElem hi]
   exact of_decide_eq_true hp
 ·rintro ⟨⟨h0, h1⟩, h2⟩
  have hi : x.toNat < T.length := by omega
  unfold bytesOf at h2
  rw [List.getElem?_eq_getElem hi] at h2
  have h2 : (T[x.toNat]).1 = u := h2
  have hx : T.findIdx? (fun e : Ent => decide (e.1 = u)) = some x.toNat := by
   rw [List.findIdx?_eq_some_iff_getElem]
   refine ⟨hi, decide_eq_true h2, fun j hj => ?_⟩
   have hne : ¬ (T[j]).1 = u := fun e => by
    have := (List.getElem?_inj (i := j) (j := x.toNat) (by rw [List.length_map]; omega) hn).1 (by rw [List.getElem?_map, List.getElem?_map, List.getElem?_eq_getElem (show j < T.length by omega), List.getElem?_eq_getElem hi]; simp [e, h2])
    omega
   simp [hne]
  rw [hx]
  exact ⟨by omega, by show ((x.toNat : Nat) : Int) = x; omega⟩
theorem idsOk_of {T : List Ent} (hok : TOk T) {S : List Bs} (hS : ∀ u, u ∈ S ↔ u = [] ∨ ∃ e ∈ T, u <+: e.1) : IdsOk S (idOf T) T.length := by
 have hmost := hok.most
 refine ⟨by omega, fun u => ?_, fun u hu x hx e h1 => ?_, fun u hu => ?_⟩
 ·by_cases h : idOf T u = -1
  ·exact .inl h
  ·obtain ⟨⟨h1, h2⟩, _⟩ := (idOf_iff hok.nodup).1 ⟨h, rfl⟩
   exact .inr ⟨h1, h2⟩
 ·obtain ⟨_, h2⟩ := (idOf_iff hok.nodup).1 ⟨h1, rfl⟩
  obtain ⟨_, h3⟩ := (idOf_iff hok.nodup).1 ⟨h1, e.symm⟩
  rw [← h2, ← h3]
 ·rcases (hS u).1 hu with rfl | ⟨e, he, hp⟩
  ·simp
  ·have := hok.short e he
   have := hp.length_le
   omega
theorem longer_iff {T : List Ent} (hok : TOk T) {S : List Bs} (hS : ∀ u, u ∈ S ↔ u = [] ∨ ∃ e ∈ T, u <+: e.1) (b : Bs) (x : Int) : (x ≠ -1 ∧ ∃ u ∈ S, b <+: u ∧ u ≠ b ∧ idOf T u = x) ↔ inTab T x ∧ b <+: bytesOf T x ∧ b.length < (bytesOf T x).length := by
 constructor
 ·rintro ⟨h1, u, hu, hp, hne, he⟩
  obtain ⟨h2, h3⟩ := (idOf_iff hok.nodup).1 ⟨h1, he⟩
  rw [h3]
  refine ⟨h2, hp, ?_⟩
  have := hp.length_le
  rcases Nat.lt_or_ge b.length u.length with h | h
  ·exact h
  ·exact absurd (hp.eq_of_length (by omega)).symm hne
 ·rintro ⟨h1, h2, h3⟩
  obtain ⟨h4, h5⟩ := (idOf_iff hok.nodup).2 ⟨h1, rfl⟩
  obtain ⟨e, he, hb⟩ := bytesOf_at h1
  refine ⟨h4, _, (hS _).2 (.inr ⟨e, List.mem_of_getElem? he, by rw [hb]; exact List.prefix_rfl⟩), h2, fun e => ?_, h5⟩
  rw [e] at h3
  omega
section
variable {pb v r n1 : Nat} {s : SpecV} {T : List Ent} {S : List Bs} {nd mp : Bs → Nat} {A : Option Addr} {C : Nat} {Z : List Int}
theorem bytes24_spec (w : World) (h : PrAt w pb v r n1 s T S nd mp A C Z) (p : Nat) (hp : p ≤ Z.length) (hb : ∀ y ∈ Z.drop p, 0 ≤ y) :
  CP 114 #[.pointer (some ⟨pb, 0, none⟩), .int .i64 (p : Int)] w fun e w' => e = .returned (.string (str (toBs (Z.drop p)))) ∧ Below w.heap.size w w' := by
 refine calls_ret (vc114_calls (some ⟨pb, 0, none⟩) (p : Int) w (fun u w' => u = .string (str (toBs (Z.drop p))) ∧ Below w.heap.size w w') ?_) (by rintro v w' ⟨rfl, h⟩; exact ⟨rfl, h⟩)
 have hC := h.cap
 have hlen := h.len
 have hr := h.row.cut p C hC
 obtain ⟨items, hit⟩ : ∃ items, items = Z.drop p := ⟨_, rfl⟩
 have hil : items.length = Z.length - p := by rw [hit, List.length_drop]
 have hok : ∀ y ∈ items, 0 ≤ y ∧ y < 256 := by
  intro y hy
  rw [hit] at hy
  have := h.items y (List.mem_of_mem_drop hy)
  unfold itemOk at this
  have := of_decide_eq_true this
  have := hb y hy
  omega
 rw [← hit] at hr ⊢
 refine NilC.mk _ rfl ⟨_, _, _, ptr_add0 _ _ h.blk 2, by omega, by omega, trivial, trivial, trivial, ?_⟩
 intro I hI
 have key := climb2 (α := Sl × World) items.length (fun i y => y.2.ownsRow w.heap.size tU8 1 y.1.v y.1.n ((toBs (items.take i)).flatMap encU8) ∧ y.1.n = i ∧ Below w.heap.size w y.2) (fun i y => I [.int .i64 (i : Int), y.1.v] y.2) (sl0, w) ⟨own_none _ _ _ _ encU8, rfl, Below.refl _ _⟩ ?_ ?_
 ·exact key
 ·rintro i hi ih ⟨f, q⟩ ⟨hown, hfn, hB⟩
  change q.ownsRow w.heap.size tU8 1 f.v f.n _ at hown
  change f.n = i at hfn
  change Below w.heap.size w q at hB
  obtain ⟨a, ha, c0⟩ := cell_rw (hr.on hB) hi rfl
  refine hI _ f.a f.n f.c q (CondP.yes (decide_eq_true (by omega)) (NilC.mk a ha ⟨by omega, by omega, _, c0, ?_⟩))
  intro q2 hq2
  rw [one_u8 (hok _ (List.getElem_mem hi))] at hq2
  obtain ⟨f', q3, e1, e2, e3, e4, _⟩ := elU8.push hown (UInt8.ofNat items[i].toNat) hq2 rfl hB.size (by omega) (by decide)
  refine ⟨f'.a, f'.n, f'.c, q3, e2, Ar.nat (i + 1) rfl (by omega) (ih (f', q3) ⟨?_, by show f'.n = i + 1; omega, e4 _ hB⟩)⟩
  have e : toBs (items.take (i + 1)) = toBs (items.take i) ++ [UInt8.ofNat items[i].toNat] := by
   unfold toBs
   rw [List.take_add_one, List.getElem?_eq_getElem hi, List.map_append]
   rfl
  rw [e]
  exact e3
 ·rintro ⟨f, q⟩ ⟨hown, hfn, hB⟩
  change q.ownsRow w.heap.size tU8 1 f.v f.n _ at hown
  rw [List.take_length] at hown
  exact hI _ f.a f.n f.c q (CondP.no (decide_eq_false (by omega)) ⟨_, q, run_str_own (P := Tryz.prog) undBytes undU8 undStr (by rw [← u8_cells]; exact hown), rfl, hB⟩)
theorem firstIs_canon {V : Voc} (hV : V.Ok) {ids : List Int} (hh : ∀ t ∈ ids, V.Has t) {o : Option Nat} (h : FirstIs V ids o) : o.isSome = !decide (V.Canon ids) := by
 cases o with
 | none =>
  have h : V.Canon ids := h
  rw [decide_eq_true h]
  rfl
 | some k =>
  obtain ⟨h1, h2, h3⟩ := h
  have : ¬ V.Canon ids := fun hc => h3 (by
   have e : ids = ids.take (k + 1) ++ ids.drop (k + 1) := (List.take_append_drop _ _).symm
   rw [e] at hc
   exact (Voc.canon_append hV (fun t ht => hh t (by rw [← e] at ht; exact ht)) hc).1)
  rw [decide_eq_false this]
  rfl
theorem atBad_spec (w : World) (h : PrAt w pb v r n1 s T S nd mp A C Z) (c0 c1 : Nat) (hc0 : w.heap[c0]? = some (.cells #[.pointer (some ⟨pb, 0, none⟩)] 130 (0, 0))) (lA : Option Addr) (lC : Nat) (last : List Int) (hc1 : w.heap[c1]? = some (.cells #[.slice lA last.length lC] tInts (0, 0))) (hrow : Rw encInt 1 w lA last) (hll : last.length ≤ 1) (hlast : ∀ t ∈ last, (vocOf s T).Has t) (id : Int) (hid : (vocOf s T).Has id) :
  CP 115 #[.int .i64 id, .pointer (some ⟨c0, 0, none⟩), .pointer (some ⟨c1, 0, none⟩)] w fun e w' => e = .returned (.bool (!decide ((vocOf s T).Canon (last ++ [id])))) ∧ VocIs w' v s T ∧ Touch v w w' := by
 refine calls_ret (vc115_calls id (some ⟨c0, 0, none⟩) (some ⟨c1, 0, none⟩) w (fun u w' => u = .bool (!decide ((vocOf s T).Canon (last ++ [id]))) ∧ VocIs w' v s T ∧ Touch v w w') ?_) (by rintro v w' ⟨rfl, h⟩; exact ⟨rfl, h⟩)
 have hvl := h.voc.lt
 have hall : ∀ t ∈ last ++ [id], (vocOf s T).Has t := by
  intro t ht
  rcases List.mem_append.1 ht with ht | ht
  ·exact hlast t ht
  ·rw [List.mem_singleton.1 ht]
   exact hid
 have fin : ∀ (q : World) (a : Option Addr) (n c : Nat), Below w.heap.size w q → q.ownsRow w.heap.size tInt 1 (.slice a n c) n ((last ++ [id]).flatMap encInt) → CP 116 #[.pointer (some ⟨v, 0, none⟩), .slice a n c] q fun e w5 => ∃ (r0 : Int) (r1 : Bool), e = .returned (.tuple #[.int .i64 r0, .bool r1]) ∧ (Value.bool r1 = .bool (!decide ((vocOf s T).Canon (last ++ [id]))) ∧ VocIs w5 v s T ∧ Touch v w w5) := by
  intro q a n c hb ho
  obtain ⟨hr1, hn⟩ := Rw.of_own (s := ⟨a, n, c⟩) ho (fun _ => rfl) (by decide)
  have hn : n = (last ++ [id]).length := hn
  rw [hn]
  refine (first_spec q v s T (h.voc.on hb) a c (last ++ [id]) hr1 ?_ (by rw [List.length_append]; simp; omega) hall).mono ?_
  ·intro _ p hp
   rcases ho.2 with ⟨e0, _⟩ | ⟨g, cap, cur, e0, hB, _⟩
   ·simp only [Value.slice.injEq] at e0
    rw [e0.1] at hp
    cases hp
   ·simp only [Value.slice.injEq] at e0
    rw [e0.1] at hp
    cases hp
    show g ≠ v
    omega
  ·rintro e w5 ⟨o, rfl, ho', hV5, t5⟩
   have := firstIs_canon h.vok hall ho'
   have ht := (Touch.of_below hb).trans t5
   cases o with
   | none => exact ⟨0, false, rfl, by rw [← this]; rfl, hV5, ht⟩
   | some k => exact ⟨(k : Int), true, rfl, by rw [← this]; rfl, hV5, ht⟩
 intro w1 hw1
 have b1 : Below w.heap.size w w1 := by subst hw1; exact drew_on w
 have h1 := h.on b1
 refine NilC.mk _ rfl ⟨_, cell_heap (held_on b1 hc0), NilC.mk _ rfl ⟨_, ptr_add0 _ _ h1.blk 1, NilC.mk _ rfl ⟨_, _, _, cell_heap (held_on b1 hc1), ⟨?_, ?_⟩⟩⟩⟩
 ·refine (cloneI_spec w1 lA lC last (hrow.on b1) (by omega)).mono ?_
  rintro e w2 ⟨l, rfl, hln, ho2, b2⟩
  have hb2 := below_then b1 b2
  have h2 := h.on hb2
  refine ⟨_, _, _, rfl, ⟨ptr_add0 _ _ h2.blk 1, trivial⟩, ⟨cell_heap (held_on hb2 hc0), trivial⟩, ?_⟩
  intro w3 hw3
  have b3 : Below w2.heap.size w2 w3 := by subst hw3; exact below_alloc _ _
  have hb3 := below_then hb2 b3
  have h3 := h.on hb3
  have hz1 := b1.size
  have hz2 := hb2.size
  obtain ⟨f, w4, g1, g2, g3, g4, g5⟩ := elInt.push (own_base ho2 hz1) id hw3 rfl hz2 (by omega) (by decide)
  have hb4 := g4 w hb2
  have h4 := h.on hb4
  exact ⟨⟨ptr_add0 _ _ h3.blk 1, trivial⟩, ⟨cell_heap (held_on hb3 hc0), trivial⟩, f.a, f.n, f.c, w4, g2, ⟨ptr_add0 _ _ h4.blk 1, trivial⟩, ⟨cell_heap (held_on hb4 hc0), trivial⟩, fin w4 f.a f.n f.c hb4 g3⟩
 ·intro w6 hw6
  have b6 : Below w1.heap.size w1 w6 := by subst hw6; exact below_alloc _ _
  have hb6 := below_then b1 b6
  have h6 := h.on hb6
  have x6 : w6.heap[w1.heap.size]? = some (.cells #[.int .i64 id] tInt (0, 0)) := by subst hw6; exact alloc_new _ _
  refine ⟨⟨cell_heap (held_on hb6 hc1), trivial⟩, ⟨ptr_add0 _ _ h6.blk 1, trivial⟩, ⟨cell_heap (held_on hb6 hc0), trivial⟩, ?_⟩
  refine (cloneI_spec w6 lA lC last (hrow.on hb6) (by omega)).mono ?_
  rintro e w7 ⟨l, rfl, hln, ho7, b7⟩
  have hb7 := below_then hb6 b7
  have h7 := h.on hb7
  have hz6 := hb6.size
  obtain ⟨f, w8, g1, g2, g3, g4, g5⟩ := elInt.pushAt (own_base ho7 hz6) id (held_on b7 x6) hb7.size (by omega) (by decide)
  have hb8 := g4 w hb7
  have h8 := h.on hb8
  exact ⟨_, _, _, rfl, ⟨ptr_add0 _ _ h7.blk 1, trivial⟩, ⟨cell_heap (held_on hb7 hc0), trivial⟩, f.a, f.n, f.c, w8, g2, ⟨ptr_add0 _ _ h8.blk 1, trivial⟩, ⟨cell_heap (held_on hb8 hc0), trivial⟩, fin w8 f.a f.n f.c hb8 g3⟩
end
theorem VocIs.row {w w' : World} {v b : Nat} {s : SpecV} {T : List Ent} (h : VocIs w v s T) (hc : IntsB w b) (hvb : v < b) (o : OnlyB b w w') : VocIs w' v s T := by
 obtain ⟨w0, x, tp, bp, mp, d, l, uses, hR⟩ := h
 obtain ⟨c, hc⟩ := hc
 have hlt := hR.lt
 refine ⟨w0, x, tp, bp, mp, d, l, uses, hR.parts, hR.below.trans (o.below (by omega)), hlt, by rw [o.ne _ (by omega)]; exact hR.blk, ?_⟩
 rcases hR.once with h | ⟨h1, h2, h3⟩
 ·exact .inl h
 ·exact .inr ⟨h1, h2, own_same h3 fun k hk => o.ne k fun e => row_ne_blk h3 hc (by decide) (by rw [hk, e])⟩
section
variable {pb v r n1 : Nat} {s : SpecV} {T : List Ent} {S : List Bs} {nd mp : Bs → Nat} {A : Option Addr} {C : Nat} {Z : List Int}
set_option maxHeartbeats 1000000 in
theorem at24_spec (w : World) (h : PrAt w pb v r n1 s T S nd mp A C Z) (p : Nat) (hp : p ≤ Z.length) :
  CP 70 #[.pointer (some ⟨pb, 0, none⟩), .int .i64 (p : Int)] w fun e w' => ∃ l : Sl, e = .returned l.v ∧ w'.ownsRow w.heap.size tInt 1 l.v l.n ((candAt s T Z p).flatMap encInt) ∧ VocIs w' v s T ∧ Touch v w w' := by
 refine calls_ret (vc70_calls (some ⟨pb, 0, none⟩) (p : Int) w (fun u w' => ∃ l : Sl, u = l.v ∧ w'.ownsRow w.heap.size tInt 1 l.v l.n ((candAt s T Z p).flatMap encInt) ∧ VocIs w' v s T ∧ Touch v w w') ?_) (by rintro v w' ⟨l, rfl, h⟩; exact ⟨l, rfl, h⟩)
 have hC := h.cap
 have hlen := h.len
 have hvl := h.voc.lt
 have hitems : (vocOf s T).Items (Z.take p) := by
  intro y hy
  have := h.items y (List.mem_of_mem_take hy)
  unfold itemOk at this
  have := of_decide_eq_true this
  show -((s.specials.map (·.1)).length : Int) ≤ y ∧ y < 256
  rw [List.length_map]
  omega
 intro w1 hw1
 have b1 : Below w.heap.size w w1 := by subst hw1; exact below_alloc _ _
 have bx : w1.heap[w.heap.size]? = some (.cells #[.pointer (some ⟨pb, 0, none⟩)] 130 (0, 0)) := by subst hw1; exact alloc_new _ _
 refine ⟨_, cell_heap bx, (least_spec24 w1 (h.on b1)).mono ?_⟩
 rintro e w2 ⟨m, rfl, hm, b2⟩
 have hb2 := below_then b1 b2
 refine ⟨_, rfl, CondP.mk (fun hlt => ?_) fun hge => ?_⟩
 ·have hlt := of_decide_eq_true hlt
  have e0 : candAt s T Z p = [] := hm.2.1 p (by omega)
  exact ⟨sl0, rfl, by rw [e0]; exact own_none _ _ _ _ encInt, (h.on hb2).voc, Touch.of_below hb2⟩
 have hge := of_decide_eq_false hge
 have hbyt : ∀ y ∈ Z.drop p, 0 ≤ y := by
  intro y hy
  refine hm.2.2 y ?_
  have e : Z.drop p = (Z.drop m).drop (p - m) := by rw [List.drop_drop]; congr 1; omega
  rw [e] at hy
  exact List.mem_of_mem_drop hy
 intro w3 hw3
 have b3 : Below w2.heap.size w2 w3 := by subst hw3; exact drew_on w2
 have hb3 := below_then hb2 b3
 have h3 := h.on hb3
 have bx3 := held_on b3 (held_on b2 bx)
 refine ⟨_, cell_heap bx3, NilC.mk _ rfl ⟨_, ptr_add0 _ _ h3.blk 0, _, cell_heap bx3, ?_⟩⟩
 refine (bytes24_spec w3 h3 p hp hbyt).mono ?_
 rintro e w4 ⟨rfl, b4⟩
 have hb4 := below_then hb3 b4
 have h4 := h.on hb4
 have bx4 := held_on b4 bx3
 refine ⟨_, rfl, ⟨ptr_add0 _ _ h4.blk 0, trivial⟩, ⟨cell_heap bx4, trivial⟩, ?_⟩
 obtain ⟨rn, hrn⟩ := h4.root
 refine (trieLonger_spec h4.trie hrn (idsOk_of h.ok h.mem) (toBs (Z.drop p)) (by unfold toBs; rw [List.length_map, List.length_drop]; omega)).mono ?_
 rintro e w5 ⟨l, zs, rfl, ho5, hp5, hz5, b5⟩
 have hz5 : ∀ x, x ∈ zs ↔ _ := fun x => (hz5 x).trans (longer_iff h.ok h.mem _ x)
 have hb5 := below_then hb4 b5
 have h5 := h.on hb5
 have bx5 := held_on b5 bx4
 have hln : l.n = zs.length := (Rw.of_own ho5 (fun _ => rfl) (by decide)).2
 refine ⟨l.a, l.n, l.c, rfl, CondP.mk (fun h0 => ?_) fun h0 => ?_⟩
 ·have h0 : ((l.n : Nat) : Int) = 0 := by simpa using h0
  have hnil : zs = [] := List.eq_nil_of_length_eq_zero (by omega)
  have e0 : candAt s T Z p = [] := by
   refine List.eq_nil_iff_forall_not_mem.2 fun k hk => ?_
   obtain ⟨_, h1, h2, h3, _⟩ := mem_candAt.1 hk
   have := (hz5 k).2 ⟨h1, h2, h3⟩
   rw [hnil] at this
   cases this
  exact ⟨sl0, rfl, by rw [e0]; exact own_none _ _ _ _ encInt, h5.voc, Touch.of_below hb5⟩
 have h0 : ¬ ((l.n : Nat) : Int) = 0 := by simpa using h0
 intro w6 hw6
 have b6 : Below w5.heap.size w5 w6 := by subst hw6; exact drew_on w5
 have hb6 := below_then hb5 b6
 have h6 := h.on hb6
 have bx6 := held_on b6 bx5
 refine ⟨_, cell_heap bx6, NilC.mk _ rfl ⟨_, ptr_add0 _ _ h6.blk 1, _, cell_heap bx6, NilC.mk _ rfl ⟨_, _, _, ptr_add0 _ _ h6.blk 2, by omega, by omega, by omega, trivial, trivial, ?_⟩⟩⟩
 have hcut := (h6.row.cut 0 C hC).take p
 rw [List.drop_zero] at hcut
 have hV6 := h6.voc
 obtain ⟨w0, x, tp, bp, mp', d, l0, uses, hR⟩ := hV6
 have hmd := encMade_spec w6 v _ tp bp mp' hR.vblk s T x hR.now (slBase A 0 C 1) (C - 0) (Z.take p) hcut (by rw [List.length_take]; omega) (by rw [List.length_take]; omega) (fun y hy => h.items y (List.mem_of_mem_take hy))
 rw [List.length_take, Nat.min_eq_left hp] at hmd
 refine Calls.mono (show Calls _ _ #[_, .slice (slBase A 0 C 1) p (C - 0)] w6 _ from hmd) ?_
 rintro e w7 ⟨md, rfl, hmn, hmo, b7⟩
 obtain ⟨made, hmade⟩ : ∃ made, made = (vocOf s T).encode (Z.take p) := ⟨_, rfl⟩
 rw [← hmade] at hmn hmo
 have hmc := own_le hmo
 have hmh : ∀ t ∈ made, (vocOf s T).Has t := by
  rw [hmade]
  exact (Voc.encode_items h.vok hitems).2
 have hmcan : (vocOf s T).Canon made := by
  rw [hmade]
  exact encode_canon h.vok hitems
 have hmlen : made.length ≤ 4000 := by
  rw [hmade]
  have := encode_short (vocOf s T) (Z.take p)
  rw [List.length_take] at this
  omega
 refine ⟨md.a, md.n, md.c, rfl, Ar.ok64 (by omega) (by omega) ?_⟩
 obtain ⟨K, hK⟩ : ∃ K, K = made.length - 1 := ⟨_, rfl⟩
 have hKv : (if (0 : Int) > (md.n : Int) - 1 then 0 else (md.n : Int) - 1) = (K : Int) := by
  split <;> omega
 refine ⟨(K : Int), w7, by rw [← hKv]; exact run_max2 _ _ _ _ _, by omega, by omega, trivial, trivial, trivial, ?_⟩
 intro w9 hw9
 have hb7 := below_then hb6 b7
 have b9 : Below w7.heap.size w7 w9 := by subst hw9; exact below_alloc _ _
 have x9 : w9.heap[w7.heap.size]? = some (.cells #[.slice none 0 0] tInts (0, 0)) := by subst hw9; exact alloc_new _ _
 refine ⟨rfl, ⟨_, cell_heap x9⟩, frozen_heap x9, ?_⟩
 intro w10 hw10
 have hlast : (made.drop K).length = md.n - K := by rw [List.length_drop]; omega
 obtain ⟨LA, hLA⟩ : ∃ LA, LA = slBase md.a K md.c 1 := ⟨_, rfl⟩
 have x10 : w10.heap[w7.heap.size]? = some (.cells #[.slice LA (made.drop K).length (md.c - K)] tInts (0, 0)) := by
  rw [hlast, hLA]
  subst hw10
  exact setCell_heap x9 _
 have o10 : OnlyB w7.heap.size w9 w10 := by subst hw10; exact OnlyB.set ..
 have hz7 := hb7.size
 have hb9 := below_then hb7 b9
 have b79 : Below w7.heap.size w7 w10 := b9.trans (o10.below (Nat.le_refl _))
 have hb10 : Below w.heap.size w w10 := below_then hb7 b79
 have hlrow : Rw encInt 1 w10 LA (made.drop K) := by
  rw [hLA]
  exact ((Rw.of_own hmo (fun _ => rfl) (by decide)).1.cut K md.c (by omega)).on b79
 have h10 := h.on hb10
 have bx10 := held_on b79 (held_on b7 bx6)
 have b510 : Below w5.heap.size w5 w10 := below_then (below_then b6 b7) b79
 have hll : (made.drop K).length ≤ 1 := by rw [List.length_drop]; omega
 obtain ⟨_, hcs⟩ := RowB.of_own ho5
 rcases hcs with rfl | ⟨b, cap, rfl, hB, hrow5⟩
 ·exact absurd rfl h0
 have hz4 := hb4.size
 have hbw : w.heap.size ≤ b := by omega
 have hb5l : b < w5.heap.size := by
  obtain ⟨c, hc⟩ := hrow5.ints
  exact (Array.getElem?_eq_some_iff.1 hc).1
 have hrow10 : RowB w10 b cap zs := hrow5.same (b510.block b hb5l)
 have hz10 := b510.size
 have hzl : zs.length ≤ 1000000000 := by
  have hmost := h.ok.most
  have := few_of (N := T.length) (hp5.imp fun h e => by omega) (fun x hx => ((hz5 x).1 hx).1)
  omega
 have hx7 : w7.heap.size < w10.heap.size := (Array.getElem?_eq_some_iff.1 x10).1
 have hx0 : w.heap.size < w10.heap.size := (Array.getElem?_eq_some_iff.1 bx10).1
 have hz57 : w5.heap.size ≤ w7.heap.size := (below_then b6 b7).size
 have hbx : w.heap.size < w4.heap.size := (Array.getElem?_eq_some_iff.1 bx4).1
 have key := deleteI_spec (fun q => VocIs q v s T ∧ q.os = w10.os ∧ q.tape = w10.tape ∧ q.output = w10.output ∧ w10.heap.size ≤ q.heap.size ∧ ∀ j, j < w10.heap.size → j ≠ v → j ≠ b → q.heap[j]? = w10.heap[j]?) b cap zs hzl
  (.func (.func 115) #[] #[.pointer (some (nb w)), .pointer (some (nb w7))]) (fun x => !decide ((vocOf s T).Canon (made.drop K ++ [x])))
  (fun q q' ⟨q1, q2, q3, q4, q5, q6⟩ hi o => ⟨q1.row hi (by omega) o, o.os.trans q2, o.tape.trans q3, o.output.trans q4, by rw [o.size]; exact q5, fun j hj h1 h2 => (o.ne j h2).trans (q6 j hj h1 h2)⟩)
  (fun x hx q ⟨q1, q2, q3, q4, q5, q6⟩ hi => by
   have tq : Touch v w q := ⟨q2.trans hb10.os, q3.trans hb10.tape, q4.trans hb10.output, Nat.le_trans hb10.size q5, fun k hk hne => (q6 k (by omega) hne (by omega)).trans (hb10.block k hk)⟩
   have hq := h.touch tq q1
   have c0 : q.heap[w.heap.size]? = some (.cells #[.pointer (some ⟨pb, 0, none⟩)] 130 (0, 0)) := by
    rw [q6 _ hx0 (by omega) (by omega)]
    exact bx10
   have c1 : q.heap[w7.heap.size]? = some (.cells #[.slice LA (made.drop K).length (md.c - K)] tInts (0, 0)) := by
    rw [q6 _ hx7 (by omega) (by omega)]
    exact x10
   have hlq : Rw encInt 1 q LA (made.drop K) := by
    have hmo10 := own_on hmo b79
    rcases hmo.2 with ⟨e0, h00⟩ | ⟨g, cap', cur, e0, hgB, hgb, hg1, hg2, hg3, hg4⟩
    ·have : made.drop K = [] := List.eq_nil_of_length_eq_zero (by omega)
     rw [this]
     intro j y hj
     cases hj
    ·have e0 : Value.slice md.a md.n md.c = .slice (some ⟨g, 0, none⟩) md.n cap' := e0
     simp only [Value.slice.injEq, true_and] at e0
     have hgl := (Array.getElem?_eq_some_iff.1 hgb).1
     have hz6 := b6.size
     have hgq : q.heap[g]? = w10.heap[g]? := q6 g (by omega) (by omega) (by omega)
     have hown : q.ownsRow w6.heap.size tInt 1 md.v md.n (made.flatMap encInt) := own_same hmo10 fun k hk => by
      have : (Value.slice md.a md.n md.c).ownBlock = some k := hk
      rw [e0.1] at this
      obtain rfl : g = k := by simpa [Value.ownBlock] using this
      exact hgq
     rw [hLA]
     exact (Rw.of_own hown (fun _ => rfl) (by decide)).1.cut K md.c (by omega)
   have hin := ((hz5 x).1 hx).1
   refine callG_of (by kernel_rfl) ((atBad_spec q hq w.heap.size w7.heap.size c0 LA (md.c - K) (made.drop K) c1 hlq hll (fun t ht => hmh t (List.mem_of_mem_drop ht)) x (.inl ?_)).mono ?_)
   ·exact (tok_iff h.ok _).1 hin
   ·rintro e q' ⟨rfl, hV', t'⟩
    exact ⟨rfl, ⟨hV', t'.os.trans q2, t'.tape.trans q3, t'.output.trans q4, Nat.le_trans q5 t'.size, fun j hj h1 h2 => (t'.block j (by omega) h1).trans (q6 j hj h1 h2)⟩, t'.block b (by omega) (by omega)⟩)
  w10 ⟨h10.voc, rfl, rfl, rfl, Nat.le_refl _, fun _ _ _ _ => rfl⟩ hrow10
 refine key.mono ?_
 rintro e w11 ⟨rfl, ⟨q1, q2, q3, q4, q5, q6⟩, hr11⟩
 have ecand : zs.filter (fun x => !(!decide ((vocOf s T).Canon (made.drop K ++ [x])))) = candAt s T Z p := by
  refine rising_ext (hp5.filter _) (candAt_rising s T Z p) fun x => ?_
  rw [List.mem_filter, mem_candAt, hz5]
  constructor
  ·rintro ⟨⟨g1, g2, g3⟩, g4⟩
   have g4 : (vocOf s T).Canon (made.drop K ++ [x]) := by simpa using g4
   refine ⟨hbyt, g1, g2, g3, ?_⟩
   rw [← hmade, canon_last h.vok hmh hmcan (.inl ((tok_iff h.ok _).1 g1)), ← hK]
   exact g4
  ·rintro ⟨_, g1, g2, g3, g4⟩
   rw [← hmade, canon_last h.vok hmh hmcan (.inl ((tok_iff h.ok _).1 g1)), ← hK] at g4
   exact ⟨⟨g1, g2, g3⟩, by simpa using g4⟩
 rw [ecand] at hr11
 refine ⟨_, _, _, rfl, ⟨some ⟨b, 0, none⟩, (candAt s T Z p).length, cap⟩, by rw [ecand], hr11.own (by omega), q1, ?_⟩
 exact ⟨q2.trans hb10.os, q3.trans hb10.tape, q4.trans hb10.output, Nat.le_trans hb10.size q5, fun k hk hne => (q6 k (by omega) hne (by omega)).trans (hb10.block k hk)⟩
end
abbrev tHeals : TypeId := 69
abbrev tHealT : TypeId := 74
theorem elHeal : ElT encPair 2 tHeals tHealT 16 := ⟨fun _ => rfl, by decide, fun x u hu => by
 simp only [encPair, List.mem_cons, List.not_mem_nil, or_false] at hu
 rcases hu with rfl | rfl <;> rfl, by kernel_rfl, .agg #[.int .i64 0, .int .i64 0], by kernel_rfl, rfl⟩
theorem VocIs.keep {w w' : World} {v B : Nat} {s : SpecV} {T : List Ent} (h : VocIs w v s T) (hB : v < B) (hb : Below B w w') (hk : ∀ (g : Nat) (c : Array Value) (f : Nat × Nat), w.heap[g]? = some (.cells c tBool f) → w'.heap[g]? = w.heap[g]?) : VocIs w' v s T := by
 obtain ⟨w0, x, tp, bp, mp, d, l, uses, hR⟩ := h
 have hlt := hR.lt
 refine ⟨w0, x, tp, bp, mp, d, l, uses, hR.parts, hR.below.trans (hb.mono (by omega)), hlt, by rw [hb.block _ hB]; exact hR.blk, ?_⟩
 rcases hR.once with h | ⟨h1, h2, h3⟩
 ·exact .inl h
 ·refine .inr ⟨h1, h2, own_same h3 fun k hk2 => ?_⟩
  rcases h3.2 with ⟨e0, _⟩ | ⟨g, cap, cur, e0, _, hgb, _⟩
  ·rw [e0] at hk2
   simp [Value.ownBlock] at hk2
  ·rw [e0] at hk2
   obtain rfl : g = k := by simpa [Value.ownBlock] using hk2
   exact hk _ _ _ hgb
def candTo (s : SpecV) (T : List Ent) (Z : List Int) (n : Nat) : List (Int × Int) := (List.range n).flatMap fun p => (candAt s T Z p).map fun k => ((p : Int), k)
abbrev candAll (s : SpecV) (T : List Ent) (Z : List Int) : List (Int × Int) := candTo s T Z Z.length
theorem candTo_succ (s : SpecV) (T : List Ent) (Z : List Int) (n : Nat) : candTo s T Z (n + 1) = candTo s T Z n ++ (candAt s T Z n).map fun k => ((n : Int), k) := by
 unfold candTo
 rw [List.range_succ, List.flatMap_append]
 simp
theorem candTo_mono (s : SpecV) (T : List Ent) (Z : List Int) {n m : Nat} (h : n ≤ m) : (candTo s T Z n).length ≤ (candTo s T Z m).length := by
 induction m with
 | zero => rw [show n = 0 by omega]; exact Nat.le_refl _
 | succ m ih =>
  by_cases e : n = m + 1
  ·subst e; exact Nat.le_refl _
  ·rw [candTo_succ, List.length_append]
   have := ih (by omega)
   omega
theorem candTo_nil {s : SpecV} {T : List Ent} {Z : List Int} : ∀ {m : Nat}, (∀ p, p < m → candAt s T Z p = []) → candTo s T Z m = []
 | 0, _ => rfl
 | m + 1, h => by rw [candTo_succ, candTo_nil fun p hp => h p (by omega), h m (by omega)]; rfl
theorem candAt_few (s : SpecV) {T : List Ent} (hok : TOk T) (Z : List Int) (p : Nat) : (candAt s T Z p).length ≤ 1000 := by
 have := few_of (N := T.length) ((candAt_rising s T Z p).imp fun h e => by omega) (fun x hx => (mem_candAt.1 hx).2.1)
 have := hok.most
 omega
section
variable {pb v r n1 : Nat} {s : SpecV} {T : List Ent} {S : List Bs} {nd mp : Bs → Nat} {A : Option Addr} {C : Nat} {Z : List Int}
set_option maxHeartbeats 1000000 in
theorem all24_spec (w : World) (h : PrAt w pb v r n1 s T S nd mp A C Z) :
  CP 107 #[.pointer (some ⟨pb, 0, none⟩), .int .i64 500] w fun e w' => ∃ (l : Sl) (out : List (Int × Int)), e = .returned l.v ∧ w'.ownsRow w.heap.size tHealT 2 l.v l.n (out.flatMap encPair) ∧ (out = candAll s T Z ∨ (500 < out.length ∧ 500 < (candAll s T Z).length)) ∧ VocIs w' v s T ∧ Touch v w w' := by
 refine calls_ret (vc107_calls (some ⟨pb, 0, none⟩) 500 w (fun u w' => ∃ (l : Sl) (out : List (Int × Int)), u = l.v ∧ w'.ownsRow w.heap.size tHealT 2 l.v l.n (out.flatMap encPair) ∧ (out = candAll s T Z ∨ (500 < out.length ∧ 500 < (candAll s T Z).length)) ∧ VocIs w' v s T ∧ Touch v w w') ?_) (by rintro v w' ⟨l, out, rfl, h⟩; exact ⟨l, out, rfl, h⟩)
 have hvl := h.voc.lt
 have hlen := h.len
 refine (least_spec24 w h).mono ?_
 rintro e w1 ⟨m, rfl, hm, b1⟩
 refine ⟨_, rfl, ?_⟩
 intro I hI
 have hm1 := hm.1
 have key := climb2 (α := Sl × World) (Z.length - m)
  (fun i y => y.2.ownsRow w.heap.size tHealT 2 y.1.v y.1.n ((candTo s T Z (m + i)).flatMap encPair) ∧ VocIs y.2 v s T ∧ Touch v w y.2)
  (fun i y => I [.int .i64 ((m + i : Nat) : Int), y.1.v] y.2) (sl0, w1) ⟨by rw [Nat.add_zero, candTo_nil hm.2.1]; exact own_none _ _ _ _ encPair, h.voc.on b1, Touch.of_below b1⟩ ?_ ?_
 ·exact key
 ·rintro i hi ih ⟨f, q⟩ ⟨hown, hVq, tq⟩
  change q.ownsRow w.heap.size tHealT 2 f.v f.n _ at hown
  change VocIs q v s T at hVq
  change Touch v w q at tq
  have hq := h.touch tq hVq
  have hfn : f.n = (candTo s T Z (m + i)).length := (Rw.of_own hown (fun _ => rfl) (by decide)).2
  refine hI _ f.a f.n f.c q (NilC.mk _ rfl ⟨_, _, _, ptr_add0 _ _ hq.blk 2, CondP.yes (decide_eq_true (by omega)) (CondP.mk (fun h5 => ?_) fun h5 => ?_)⟩)
  ·have h5 := of_decide_eq_true h5
   refine (at24_spec q hq (m + i) (by omega)).mono ?_
   rintro e q3 ⟨l, rfl, hl3, hV3, t3⟩
   have tq3 := tq.trans t3
   have hown3 : q3.ownsRow w.heap.size tHealT 2 f.v f.n ((candTo s T Z (m + i)).flatMap encPair) := by
    refine own_same hown fun k hk => ?_
    rcases hown.2 with ⟨e0, _⟩ | ⟨g, cap, cur, e0, hg, hgb, _⟩
    ·rw [e0] at hk
     simp [Value.ownBlock] at hk
    ·rw [e0] at hk
     obtain rfl : g = k := by simpa [Value.ownBlock] using hk
     exact t3.block _ (Array.getElem?_eq_some_iff.1 hgb).1 (by omega)
   have hln : l.n = (candAt s T Z (m + i)).length := (Rw.of_own hl3 (fun _ => rfl) (by decide)).2
   have hfew := candAt_few s h.ok Z (m + i)
   refine ⟨l.a, l.n, l.c, rfl, ?_⟩
   intro J hJ
   have key2 := climb2 (α := Sl × World) l.n
    (fun k y => y.2.ownsRow w.heap.size tHealT 2 y.1.v y.1.n ((candTo s T Z (m + i) ++ ((candAt s T Z (m + i)).take k).map fun x => (((m + i : Nat) : Int), x)).flatMap encPair) ∧ y.2.ownsRow q.heap.size tInt 1 l.v l.n ((candAt s T Z (m + i)).flatMap encInt) ∧ VocIs y.2 v s T ∧ Touch v w y.2)
    (fun k y => J [.int .i64 (k : Int), y.1.v] y.2) (f, q3) ⟨by rw [List.take_zero, List.map_nil, List.append_nil]; exact hown3, hl3, hV3, tq3⟩ ?_ ?_
   ·exact key2
   ·rintro k hk ihk ⟨g, q4⟩ ⟨ho4, hl4, hV4, t4⟩
    change q4.ownsRow w.heap.size tHealT 2 g.v g.n _ at ho4
    change q4.ownsRow q.heap.size tInt 1 l.v l.n _ at hl4
    change VocIs q4 v s T at hV4
    change Touch v w q4 at t4
    have hkx : k < (candAt s T Z (m + i)).length := by omega
    obtain ⟨a, ha, c0⟩ := cell_rw (Rw.of_own hl4 (fun _ => rfl) (by decide)).1 hkx rfl
    refine hJ _ g.a g.n g.c q4 (CondP.yes (decide_eq_true (by omega)) (NilC.mk a ha ⟨by omega, by omega, _, c0, ?_⟩))
    intro q5 hq5
    have hgn : g.n = (candTo s T Z (m + i) ++ ((candAt s T Z (m + i)).take k).map fun x => (((m + i : Nat) : Int), x)).length := (Rw.of_own ho4 (fun _ => rfl) (by decide)).2
    rw [List.length_append, List.length_map, List.length_take] at hgn
    obtain ⟨g', q6, e1, e2, e3, e4, e5⟩ := elHeal.push ho4 (((m + i : Nat) : Int), (candAt s T Z (m + i))[k]) hq5 rfl t4.size (by omega) (by decide)
    have b46 : Below w.heap.size q4 q6 := e4 q4 (Below.refl _ _)
    have other : ∀ (j : Nat) (c : Array Value) (t : TypeId) (fz : Nat × Nat), t ≠ tHealT → q4.heap[j]? = some (.cells c t fz) → q6.heap[j]? = q4.heap[j]? := by
     intro j c t fz ht hj
     refine e5 j (Array.getElem?_eq_some_iff.1 hj).1 fun e => ?_
     rcases ho4.2 with ⟨e0, _⟩ | ⟨b, cap, cur, e0, _, hb, _⟩
     ·rw [e0] at e
      simp [Value.ownBlock] at e
     ·rw [e0] at e
      obtain rfl : b = j := by simpa [Value.ownBlock] using e
      rw [hb] at hj
      cases hj
      exact ht rfl
    have hl6 : q6.ownsRow q.heap.size tInt 1 l.v l.n ((candAt s T Z (m + i)).flatMap encInt) := by
     refine own_same hl4 fun j hj => ?_
     rcases hl4.2 with ⟨e0, _⟩ | ⟨b, cap, cur, e0, _, hb, _⟩
     ·rw [e0] at hj
      simp [Value.ownBlock] at hj
     ·rw [e0] at hj
      obtain rfl : b = j := by simpa [Value.ownBlock] using hj
      exact other _ _ _ _ (by decide) hb
    refine ⟨g'.a, g'.n, g'.c, q6, e2, Ar.nat (k + 1) rfl (by omega) (ihk (g', q6) ⟨?_, hl6, hV4.keep hvl b46 (fun j c fz hj => other j c _ fz (by decide) hj), ⟨b46.os.trans t4.os, b46.tape.trans t4.tape, b46.output.trans t4.output, Nat.le_trans t4.size b46.size, fun j hj hne => (b46.block j hj).trans (t4.block j hj hne)⟩⟩)⟩
    have e : (candTo s T Z (m + i) ++ ((candAt s T Z (m + i)).take (k + 1)).map fun x => (((m + i : Nat) : Int), x)) = (candTo s T Z (m + i) ++ ((candAt s T Z (m + i)).take k).map fun x => (((m + i : Nat) : Int), x)) ++ [(((m + i : Nat) : Int), (candAt s T Z (m + i))[k])] := by
     rw [List.take_add_one, List.getElem?_eq_getElem hkx, List.map_append, List.append_assoc]
     rfl
    rw [e]
    exact e3
   ·rintro ⟨g, q4⟩ ⟨ho4, hl4, hV4, t4⟩
    change q4.ownsRow w.heap.size tHealT 2 g.v g.n _ at ho4
    refine hJ _ g.a g.n g.c q4 (CondP.no (decide_eq_false (by omega)) (Ar.nat (m + (i + 1)) (by omega) (by omega) (ih (g, q4) ⟨?_, hV4, t4⟩)))
    rw [show m + (i + 1) = (m + i) + 1 by omega, candTo_succ]
    rw [hln, List.take_length] at ho4
    exact ho4
  ·have h5 := of_decide_eq_false h5
   have hmono := candTo_mono s T Z (show m + i ≤ Z.length by omega)
   exact ⟨f, _, rfl, hown, .inr ⟨by omega, by show 500 < (candTo s T Z Z.length).length; omega⟩, hVq, tq⟩
 ·rintro ⟨f, q⟩ ⟨hown, hVq, tq⟩
  change q.ownsRow w.heap.size tHealT 2 f.v f.n _ at hown
  change VocIs q v s T at hVq
  change Touch v w q at tq
  have hq := h.touch tq hVq
  rw [show m + (Z.length - m) = Z.length by omega] at hown
  refine hI _ f.a f.n f.c q (NilC.mk _ rfl ⟨_, _, _, ptr_add0 _ _ hq.blk 2, CondP.no (decide_eq_false (by omega)) ⟨f, _, rfl, hown, .inl rfl, hVq, tq⟩⟩)
theorem told24_spec (w : World) (h : PrAt w pb v r n1 s T S nd mp A C Z) :
  CP 64 #[.pointer (some ⟨pb, 0, none⟩)] w fun e w' => ∃ l : Sl, e = .returned (.tuple #[l.v, .int .i64 (if 500 < (candAll s T Z).length then 5 else 0)]) ∧ (500 < (candAll s T Z).length → l = sl0) ∧ (¬ 500 < (candAll s T Z).length → w'.ownsRow w.heap.size tHealT 2 l.v l.n ((candAll s T Z).flatMap encPair)) ∧ VocIs w' v s T ∧ Touch v w w' := by
 refine calls_ret (vc64_calls (some ⟨pb, 0, none⟩) w (fun u w' => ∃ l : Sl, u = .tuple #[l.v, .int .i64 (if 500 < (candAll s T Z).length then 5 else 0)] ∧ (500 < (candAll s T Z).length → l = sl0) ∧ (¬ 500 < (candAll s T Z).length → w'.ownsRow w.heap.size tHealT 2 l.v l.n ((candAll s T Z).flatMap encPair)) ∧ VocIs w' v s T ∧ Touch v w w') ?_) (by rintro v w' ⟨l, rfl, h⟩; exact ⟨l, rfl, h⟩)
 refine (all24_spec w h).mono ?_
 rintro e w1 ⟨l, out, rfl, ho, hout, hV, t⟩
 have hn : l.n = out.length := (Rw.of_own ho (fun _ => rfl) (by decide)).2
 refine ⟨l.a, l.n, l.c, rfl, CondP.mk (fun h5 => ?_) fun h5 => ?_⟩
 ·have h5 := of_decide_eq_true h5
  have h6 : 500 < (candAll s T Z).length := by
   rcases hout with rfl | ⟨_, h⟩
   ·omega
   ·exact h
  exact ⟨sl0, by rw [if_pos h6], fun _ => rfl, fun hn => absurd h6 hn, hV, t⟩
 ·have h5 := of_decide_eq_false h5
  have he : out = candAll s T Z := by
   rcases hout with h | ⟨h, _⟩
   ·exact h
   ·omega
  subst he
  have h6 : ¬ 500 < (candAll s T Z).length := by omega
  exact ⟨l, by rw [if_neg h6], fun h => absurd h h6, fun _ => ho, hV, t⟩
end
theorem ready24_spec (w : World) (v : Nat) (s : SpecV) (T : List Ent) (hV : VocIs w v s T) (A : Option Addr) (C : Nat) (Z : List Int) (hr : Rw encInt 1 w A Z) (hC : Z.length ≤ C) (hA : Z ≠ [] → ∀ p, A = some p → p.block ≠ v) :
  CP 63 #[.pointer (some ⟨v, 0, none⟩), .slice A Z.length C] w fun e w' => ∃ pb : Option Addr, e = .returned (.tuple #[.pointer pb, .int .i64 (readyI s Z).1, .int .i64 (readyI s Z).2]) ∧ Below w.heap.size w w' ∧ ((readyI s Z).2 = 0 → ∃ (b r n1 : Nat) (S : List Bs) (nd mp : Bs → Nat), pb = some ⟨b, 0, none⟩ ∧ PrAt w' b v r n1 s T S nd mp A C Z) := by
 refine calls_ret (vc63_calls (some ⟨v, 0, none⟩) A Z.length C w (fun u w' => ∃ pb : Option Addr, u = .tuple #[.pointer pb, .int .i64 (readyI s Z).1, .int .i64 (readyI s Z).2] ∧ Below w.heap.size w w' ∧ ((readyI s Z).2 = 0 → ∃ (b r n1 : Nat) (S : List Bs) (nd mp : Bs → Nat), pb = some ⟨b, 0, none⟩ ∧ PrAt w' b v r n1 s T S nd mp A C Z)) ?_) (by rintro v w' ⟨pb, rfl, h⟩; exact ⟨pb, rfl, h⟩)
 have hV' := hV
 obtain ⟨w0, x, tp, bp, mp', d, l0, uses, hR⟩ := hV'
 have hok := hR.now.ok
 have hvok := voc_ok hR.now
 refine (encItems_spec w v _ tp bp mp' hR.vblk s T x hR.now A C Z hr hC).mono ?_
 rintro e w1 ⟨l, rfl, b1⟩
 refine ⟨l.a, l.n, l.c, _, _, rfl, CondP.mk (fun h0 => ?_) fun h0 => ?_⟩
 ·have h0 : (readyI s Z).2 ≠ 0 := by simpa using h0
  exact ⟨none, rfl, b1, fun h => absurd h h0⟩
 ·have h0 : (readyI s Z).2 = 0 := by simpa using h0
  obtain ⟨h4, hit, hrd⟩ := readyI_ok h0
  have hR1 := hR.on b1
  refine (vocTable_spec hR1.vblk).mono ?_
  rintro e w2 ⟨rfl, hw⟩
  subst w2
  refine ⟨_, rfl, (trieNew_spec w1 tp T hR1.now.tab hok).mono ?_⟩
  rintro e w3 ⟨r, S, nd, mp, n, rfl, hr1, hT3, hroot, hmem, b3⟩
  refine ⟨_, rfl, ?_⟩
  intro w4 hw4
  have b4 : Below w3.heap.size w3 w4 := by subst hw4; exact below_alloc _ _
  have x4 : w4.heap[w3.heap.size]? = some (.cells #[.pointer (some ⟨r, 0, none⟩), .pointer (some ⟨v, 0, none⟩), .slice A Z.length C] tPrompt (0, 0)) := by subst hw4; exact alloc_new _ _
  have hb3 := below_then b1 b3
  have hb4 := below_then hb3 b4
  have hvl := hV.lt
  have hz1 := b1.size
  have hz3 := b3.size
  refine ⟨some (nb w3), by rw [hrd], hb4, fun _ => ⟨w3.heap.size, r, w1.heap.size, S, nd, mp, rfl, x4, hV.on hb4, hok, hvok, hT3.on b4, ⟨n, held_on b4 hroot⟩, hmem, hr.on hb4, hC, h4, hit, hA, by omega, hr1, hz3⟩⟩
def healI (s : SpecV) (T : List Ent) (Z : List Int) : Int × Int := if (readyI s Z).2 ≠ 0 then readyI s Z else if 500 < (candAll s T Z).length then (0, 5) else ((Z.length : Int), 0)
theorem heal_spec (w : World) (v : Nat) (s : SpecV) (T : List Ent) (hV : VocIs w v s T) (A : Option Addr) (C : Nat) (Z : List Int) (hr : Rw encInt 1 w A Z) (hC : Z.length ≤ C) (hA : Z ≠ [] → ∀ p, A = some p → p.block ≠ v) :
  CP 33 #[.pointer (some ⟨v, 0, none⟩), .slice A Z.length C] w fun e w' => ∃ l : Sl, e = .returned (.tuple #[l.v, .int .i64 (healI s T Z).1, .int .i64 (healI s T Z).2]) ∧ ((healI s T Z).2 ≠ 0 → l = sl0) ∧ ((healI s T Z).2 = 0 → w'.ownsRow w.heap.size tHealT 2 l.v l.n ((candAll s T Z).flatMap encPair)) ∧ VocIs w' v s T ∧ Touch v w w' := by
 refine calls_ret (vc33_calls (some ⟨v, 0, none⟩) A Z.length C w (fun u w' => ∃ l : Sl, u = .tuple #[l.v, .int .i64 (healI s T Z).1, .int .i64 (healI s T Z).2] ∧ ((healI s T Z).2 ≠ 0 → l = sl0) ∧ ((healI s T Z).2 = 0 → w'.ownsRow w.heap.size tHealT 2 l.v l.n ((candAll s T Z).flatMap encPair)) ∧ VocIs w' v s T ∧ Touch v w w') ?_) (by rintro v w' ⟨l, rfl, h⟩; exact ⟨l, rfl, h⟩)
 refine (ready24_spec w v s T hV A C Z hr hC hA).mono ?_
 rintro e w1 ⟨pb, rfl, b1, hp⟩
 refine ⟨pb, _, _, rfl, CondP.mk (fun h0 => ?_) fun h0 => ?_⟩
 ·have h0 : (readyI s Z).2 ≠ 0 := by simpa using h0
  have e : healI s T Z = readyI s Z := by rw [healI, if_pos h0]
  rw [e]
  exact ⟨sl0, rfl, fun _ => rfl, fun h => absurd h h0, hV.on b1, Touch.of_below b1⟩
 ·have h0 : (readyI s Z).2 = 0 := by simpa using h0
  obtain ⟨b, r, n1, S, nd, mp, rfl, hP⟩ := hp h0
  have hrd := (readyI_ok h0).2.2
  have hz1 := b1.size
  refine (told24_spec w1 hP).mono ?_
  rintro e w2 ⟨l, rfl, h5, h6, hV2, t2⟩
  have t := (Touch.of_below (v := v) b1).trans t2
  refine ⟨l.a, l.n, l.c, _, rfl, CondP.mk (fun h7 => ?_) fun h7 => ?_⟩
  ·have h7 : 500 < (candAll s T Z).length := by
    by_cases h : 500 < (candAll s T Z).length
    ·exact h
    ·rw [if_neg h] at h7
     cases h7
   have e : healI s T Z = (0, 5) := by rw [healI, if_neg (fun h => h h0), if_pos h7]
   rw [e, if_pos h7]
   exact ⟨sl0, rfl, fun _ => rfl, fun h => (by cases h), hV2, t⟩
  ·have h7 : ¬ 500 < (candAll s T Z).length := by
    intro h
    rw [if_pos h] at h7
    cases h7
   have e : healI s T Z = ((Z.length : Int), 0) := by rw [healI, if_neg (fun h => h h0), if_neg h7]
   rw [e, hrd]
   exact ⟨l, rfl, fun h => absurd rfl h, fun _ => own_base (h6 h7) hz1, hV2, t⟩
def atE (s : SpecV) (Z : List Int) (p : Int) : Int := if (readyI s Z).2 ≠ 0 then (readyI s Z).2 else if p < 0 ∨ p ≥ Z.length then 7 else 0
theorem healAt_spec (w : World) (v : Nat) (s : SpecV) (T : List Ent) (hV : VocIs w v s T) (p : Int) (A : Option Addr) (C : Nat) (Z : List Int) (hr : Rw encInt 1 w A Z) (hC : Z.length ≤ C) (hA : Z ≠ [] → ∀ p, A = some p → p.block ≠ v) :
  CP 38 #[.pointer (some ⟨v, 0, none⟩), .int .i64 p, .slice A Z.length C] w fun e w' => ∃ l : Sl, e = .returned (.tuple #[l.v, .int .i64 (atE s Z p)]) ∧ (atE s Z p ≠ 0 → l = sl0) ∧ (atE s Z p = 0 → w'.ownsRow w.heap.size tInt 1 l.v l.n ((candAt s T Z p.toNat).flatMap encInt)) ∧ VocIs w' v s T ∧ Touch v w w' := by
 refine calls_ret (vc38_calls (some ⟨v, 0, none⟩) p A Z.length C w (fun u w' => ∃ l : Sl, u = .tuple #[l.v, .int .i64 (atE s Z p)] ∧ (atE s Z p ≠ 0 → l = sl0) ∧ (atE s Z p = 0 → w'.ownsRow w.heap.size tInt 1 l.v l.n ((candAt s T Z p.toNat).flatMap encInt)) ∧ VocIs w' v s T ∧ Touch v w w') ?_) (by rintro v w' ⟨l, rfl, h⟩; exact ⟨l, rfl, h⟩)
 refine (ready24_spec w v s T hV A C Z hr hC hA).mono ?_
 rintro e w1 ⟨pb, rfl, b1, hp⟩
 have off : atE s Z p ≠ 0 → ∃ l : Sl, Value.tuple #[sl0.v, .int .i64 (atE s Z p)] = .tuple #[l.v, .int .i64 (atE s Z p)] ∧ (atE s Z p ≠ 0 → l = sl0) ∧ (atE s Z p = 0 → w1.ownsRow w.heap.size tInt 1 l.v l.n ((candAt s T Z p.toNat).flatMap encInt)) ∧ VocIs w1 v s T ∧ Touch v w w1 := fun h => ⟨sl0, rfl, fun _ => rfl, fun h' => absurd h' h, hV.on b1, Touch.of_below b1⟩
 refine ⟨pb, _, _, rfl, CondP.mk (fun h0 => ?_) fun h0 => ?_⟩
 ·have h0 : (readyI s Z).2 ≠ 0 := by simpa using h0
  have e : atE s Z p = (readyI s Z).2 := by rw [atE, if_pos h0]
  rw [← e]
  exact off (by rw [e]; exact h0)
 ·have h0 : (readyI s Z).2 = 0 := by simpa using h0
  refine CondP.mk (fun h1 => ?_) fun h1 => CondP.mk (fun h2 => ?_) fun h2 => ?_
  ·have h1 := of_decide_eq_true h1
   have e : atE s Z p = 7 := by rw [atE, if_neg (fun h => h h0), if_pos (.inl h1)]
   have := off (by rw [e]; decide)
   rw [e] at this ⊢
   exact this
  ·have h2 := of_decide_eq_true h2
   have e : atE s Z p = 7 := by rw [atE, if_neg (fun h => h h0), if_pos (.inr h2)]
   have := off (by rw [e]; decide)
   rw [e] at this ⊢
   exact this
  ·have h1 := of_decide_eq_false h1
   have h2 := of_decide_eq_false h2
   obtain ⟨b, r, n1, S, nd, mp, rfl, hP⟩ := hp h0
   have e : atE s Z p = 0 := by rw [atE, if_neg (fun h => h h0), if_neg (by omega)]
   have hz1 := b1.size
   obtain ⟨k, hk⟩ : ∃ k : Nat, p = (k : Int) := ⟨p.toNat, by omega⟩
   subst hk
   refine (at24_spec w1 hP k (by omega)).mono ?_
   rintro e2 w2 ⟨l, rfl, ho, hV2, t2⟩
   rw [e]
   exact ⟨l.a, l.n, l.c, rfl, l, rfl, fun h => absurd rfl h, fun _ => own_base ho hz1, hV2, (Touch.of_below (v := v) b1).trans t2⟩
def markHit (xs : List (Int × Bs)) (t : Bs) : Nat → Option Nat
 | 0 => none
 | n + 1 => match (xs.map (·.2)).idxOf? (t.take (n + 1)) with
  | some i => some i
  | none => markHit xs t n
def markBeg (xs : List (Int × Bs)) (t : Bs) : Option Nat := markHit xs t (min (mostOf xs) t.length).toNat
theorem idx_get {l : List Bs} {k : Bs} {i : Nat} (h : l.idxOf? k = some i) : ∃ hi : i < l.length, l[i] = k := by
 unfold List.idxOf? at h
 obtain ⟨hi, hp, _⟩ := List.findIdx?_eq_some_iff_getElem.1 h
 exact ⟨hi, by simpa using hp⟩
theorem markHit_get {xs : List (Int × Bs)} {t : Bs} : ∀ {n : Nat} {i : Nat}, markHit xs t n = some i → ∃ (hi : i < xs.length) (k : Nat), 1 ≤ k ∧ k ≤ n ∧ (xs[i]).2 = t.take k
 | n + 1, i, h => by
  unfold markHit at h
  cases hx : (xs.map (·.2)).idxOf? (t.take (n + 1)) with
  | some j =>
   rw [hx] at h
   cases h
   obtain ⟨hi, he⟩ := idx_get hx
   rw [List.length_map] at hi
   rw [List.getElem_map] at he
   exact ⟨hi, n + 1, by omega, Nat.le_refl _, he⟩
  | none =>
   rw [hx] at h
   obtain ⟨hi, k, h1, h2, h3⟩ := markHit_get (n := n) h
   exact ⟨hi, k, h1, by omega, h3⟩
theorem markHit_first {xs : List (Int × Bs)} {b : UInt8} {r : Bs} (hf : firstOf xs b.toNat = false) : ∀ n, markHit xs (b :: r) n = none
 | 0 => rfl
 | n + 1 => by
  cases h : markHit xs (b :: r) (n + 1) with
  | none => rfl
  | some i =>
   exfalso
   obtain ⟨hi, k, h1, _, h3⟩ := markHit_get h
   have : firstOf xs b.toNat = true := by
    unfold firstOf
    rw [List.any_eq_true]
    refine ⟨xs[i], List.getElem_mem hi, ?_⟩
    rw [h3]
    obtain ⟨m, rfl⟩ : ∃ m, k = m + 1 := ⟨k - 1, by omega⟩
    simp
   rw [hf] at this
   cases this
def markR : Option Nat → Value
 | none => .tuple #[.int .i64 0, .bool false]
 | some i => .tuple #[.int .i64 (-1 - (i : Int)), .bool true]
theorem mostOf_nn (xs : List (Int × Bs)) : 0 ≤ mostOf xs := by
 unfold mostOf
 have : ∀ (l : List (Int × Bs)) (n : Int), 0 ≤ n → 0 ≤ l.foldl (fun n x => if (x.2.length : Int) > n then (x.2.length : Int) else n) n := by
  intro l
  induction l with
  | nil => exact fun n h => h
  | cons x l ih =>
   intro n h
   rw [List.foldl_cons]
   refine ih _ ?_
   split <;> omega
 exact this xs 0 (Int.le_refl _)
theorem markAt_spec (w : World) (p : Nat) (xs : List (Int × Bs)) (h : MkIs w p xs) (hl : xs.length ≤ 1000000) (t : Bs) (ht : t.length ≤ 1000000000) :
  CP 134 #[.pointer (some ⟨p, 0, none⟩), .string (str t)] w fun e w' => e = .returned (markR (markBeg xs t)) ∧ Below w.heap.size w w' := by
 refine calls_ret (vc134_calls (some ⟨p, 0, none⟩) (str t) w (fun u w' => u = markR (markBeg xs t) ∧ Below w.heap.size w w') ?_) (by rintro v w' ⟨rfl, h⟩; exact ⟨rfl, h⟩)
 intro w1 hw1
 have b1 : Below w.heap.size w w1 := by subst hw1; exact drew_on w
 cases t with
 | nil =>
  refine CondP.no rfl (CondP.yes (by simp [str]) ⟨?_, b1⟩)
  have : markBeg xs [] = none := by
   unfold markBeg
   have := mostOf_nn xs
   rw [show (min (mostOf xs) (([] : Bs).length : Int)).toNat = 0 by simp; omega]
   rfl
  rw [this]
  rfl
 | cons b r =>
  have h1 := h.on b1
  obtain ⟨l, mi, mt, c, g1, g2, g3, g4, g5, g6⟩ := h1
  have hb0 : btAt (str (b :: r)) 0 = (b.toNat : Int) := btAt_str (b :: r) 0 (by simp)
  have hb256 := b.toNat_lt
  have hmn := mostOf_nn xs
  refine CondP.no rfl (CondP.no ?_ ⟨by omega, by rw [str_size]; simp, NilC.mk _ rfl ?_⟩)
  ·rw [Bool.eq_false_iff]
   intro he
   have := (beq_iff_eq.1 he)
   simp [str] at this
  rw [hb0]
  refine ⟨by omega, by omega, firstOf xs b.toNat, ?_, CondP.mk (fun hf => ?_) fun hf => ?_⟩
  ·rw [Addr.add_add, ptr_add0 _ _ g1, show ((b.toNat : Int)).toNat * 1 = b.toNat by omega]
   exact g2.first _ hb256
  ·have hf : firstOf xs b.toNat = false := by simpa using hf
   rw [markBeg, markHit_first hf]
   exact ⟨rfl, b1⟩
  ·refine NilC.mk _ rfl ⟨_, by rw [ptr_add0 _ _ g1]; exact g2.most, ?_⟩
   obtain ⟨M, hM⟩ : ∃ M : Nat, M = (min (mostOf xs) ((b :: r).length : Int)).toNat := ⟨_, rfl⟩
   have hMv : (if (((str (b :: r)).size : Nat) : Int) < mostOf xs then (((str (b :: r)).size : Nat) : Int) else mostOf xs) = (M : Int) := by
    rw [str_size]
    split <;> omega
   refine ⟨(M : Int), w1, by rw [← hMv]; exact run_min2 _ _ _ _ _, ?_⟩
   intro I hI
   have down : ∀ (n : Nat), n ≤ M → markHit xs (b :: r) n = markBeg xs (b :: r) → ∀ (q : World), Below w.heap.size w q → ∀ (y5 : Bool) (y4 : Int), I [.int .i64 (n : Int), .bool y5, .int .i64 y4] q := by
    intro n
    induction n with
    | zero =>
     intro hn he q hq y5 y4
     refine hI _ _ _ q (CondP.no (decide_eq_false (by omega)) ⟨?_, hq⟩)
     rw [← he]
     rfl
    | succ n ihn =>
     intro hn he q hq y5 y4
     refine hI _ _ _ q (CondP.yes (decide_eq_true (by omega)) ?_)
     intro q4 hq4
     have b4 := below_then hq (show Below q.heap.size q q4 by subst hq4; exact drew_on q)
     obtain ⟨l, mi, mt, c, g1, g2, g3, g4, g5, g6⟩ := h.on b4
     have hlk := run_look keysB undMapB zeroInt g6 ((b :: r).take (n + 1))
     have hex : (str (b :: r)).extract (0 : Int).toNat (((n + 1 : Nat) : Int)).toNat = str ((b :: r).take (n + 1)) := by
      rw [str_extract]
      rfl
     refine NilC.mk _ rfl ⟨_, by rw [ptr_add0 _ _ g1]; exact g2.c2, by omega, by omega, by rw [str_size]; omega, ?_⟩
     rw [hex]
     unfold markHit at he
     rw [look_tmap] at hlk
     cases hx : (xs.map (·.2)).idxOf? ((b :: r).take (n + 1)) with
     | some i =>
      rw [hx] at hlk he
      obtain ⟨hi, _⟩ := idx_get hx
      rw [List.length_map] at hi
      refine ⟨_, _, q4, hlk, CondP.yes rfl ((markItem_spec i (by omega) q4).mono ?_)⟩
      rintro e q6 ⟨rfl, hw⟩
      subst q6
      refine ⟨_, rfl, ?_, b4⟩
      rw [← he]
      rfl
     | none =>
      rw [hx] at hlk he
      exact ⟨_, _, q4, hlk, CondP.no rfl (Ar.nat n (by omega) (by omega) (ihn (by omega) he q4 b4 _ _))⟩
   exact down M (Nat.le_refl _) (by rw [hM]; rfl) w1 b1 _ _
def parseF (xs : List (Int × Bs)) : Nat → Bs → List Int
 | 0, _ => []
 | _, [] => []
 | n + 1, b :: r => match markBeg xs (b :: r) with
  | none => (b.toNat : Int) :: parseF xs n r
  | some i => (-1 - (i : Int)) :: parseF xs n ((b :: r).drop ((xs[i]?).map (·.2)|>.getD []).length)
def parseV (xs : List (Int × Bs)) (t : Bs) : List Int := parseF xs t.length t
theorem markOf_pos {xs : List (Int × Bs)} {t : Bs} {i : Nat} (h : markBeg xs t = some i) : ∃ hi : i < xs.length, 1 ≤ (xs[i]).2.length ∧ (xs[i]).2 <+: t := by
 obtain ⟨hi, k, h1, h2, h3⟩ := markHit_get h
 refine ⟨hi, ?_, by rw [h3]; exact List.take_prefix _ _⟩
 rw [h3, List.length_take]
 omega
theorem parseF_more {xs : List (Int × Bs)} : ∀ {n m : Nat} {t : Bs}, t.length ≤ n → t.length ≤ m → parseF xs n t = parseF xs m t
 | 0, 0, _, _, _ => rfl
 | 0, m + 1, [], _, _ => rfl
 | n + 1, 0, [], _, _ => rfl
 | n + 1, m + 1, [], _, _ => rfl
 | 0, m + 1, b :: r, h, _ => by simp at h
 | n + 1, 0, b :: r, _, h => by simp at h
 | n + 1, m + 1, b :: r, h1, h2 => by
  unfold parseF
  have h1 : r.length ≤ n := by simpa using h1
  have h2 : r.length ≤ m := by simpa using h2
  cases hm : markBeg xs (b :: r) with
  | none =>
   dsimp only
   rw [parseF_more h1 h2]
  | some i =>
   obtain ⟨hi, hp, _⟩ := markOf_pos hm
   dsimp only
   rw [List.getElem?_eq_getElem hi]
   simp only [Option.map_some, Option.getD_some]
   have : ((b :: r).drop (xs[i]).2.length).length ≤ r.length := by rw [List.length_drop]; simp; omega
   rw [parseF_more (n := n) (m := m) (by omega) (by omega)]
theorem parseV_none {xs : List (Int × Bs)} {b : UInt8} {r : Bs} (h : markBeg xs (b :: r) = none) : parseV xs (b :: r) = (b.toNat : Int) :: parseV xs r := by
 unfold parseV
 rw [List.length_cons, parseF, h]
theorem parseV_some {xs : List (Int × Bs)} {b : UInt8} {r : Bs} {i : Nat} (h : markBeg xs (b :: r) = some i) (hi : i < xs.length) : parseV xs (b :: r) = (-1 - (i : Int)) :: parseV xs ((b :: r).drop (xs[i]).2.length) := by
 unfold parseV
 rw [List.length_cons, parseF, h]
 dsimp only
 rw [List.getElem?_eq_getElem hi]
 simp only [Option.map_some, Option.getD_some]
 obtain ⟨_, hp, _⟩ := markOf_pos h
 rw [parseF_more (m := ((b :: r).drop (xs[i]).2.length).length) (by rw [List.length_drop]; simp; omega) (Nat.le_refl _)]
set_option maxHeartbeats 1000000 in
theorem markParse_spec (w : World) (p : Nat) (xs : List (Int × Bs)) (h : MkIs w p xs) (hl : xs.length ≤ 1000000) (t : Bs) (ht : t.length ≤ 1000000) :
  CP 74 #[.pointer (some ⟨p, 0, none⟩), .string (str t)] w fun e w' => ∃ l : Sl, e = .returned l.v ∧ w'.ownsRow w.heap.size tInt 1 l.v l.n ((parseV xs t).flatMap encInt) ∧ Below w.heap.size w w' := by
 refine calls_ret (vc74_calls (some ⟨p, 0, none⟩) (str t) w (fun u w' => ∃ l : Sl, u = l.v ∧ w'.ownsRow w.heap.size tInt 1 l.v l.n ((parseV xs t).flatMap encInt) ∧ Below w.heap.size w w') ?_) (by rintro v w' ⟨l, rfl, h⟩; exact ⟨l, rfl, h⟩)
 intro I hI
 have loop : ∀ (d i : Nat) (f : Sl) (out : List Int) (q : World), t.length - i ≤ d → i ≤ t.length → out.length ≤ i → out ++ parseV xs (t.drop i) = parseV xs t → q.ownsRow w.heap.size tInt 1 f.v f.n (out.flatMap encInt) → Below w.heap.size w q → I [.int .i64 (i : Int), f.v] q := by
  have fin : ∀ (i : Nat) (f : Sl) (out : List Int) (q : World), i = t.length → out ++ parseV xs (t.drop i) = parseV xs t → q.ownsRow w.heap.size tInt 1 f.v f.n (out.flatMap encInt) → Below w.heap.size w q → I [.int .i64 (i : Int), f.v] q := by
   intro i f out q hi he ho hq
   subst hi
   rw [List.drop_length] at he
   have he : out = parseV xs t := by rw [← he]; exact (List.append_nil out).symm
   subst he
   exact hI _ f.a f.n f.c q (CondP.no (decide_eq_false (by rw [str_size]; omega)) ⟨f, rfl, ho, hq⟩)
  intro d
  induction d with
  | zero =>
   intro i f out q hd hi hol he ho hq
   exact fin i f out q (by omega) he ho hq
  | succ d ihd =>
   intro i f out q hd hi hol he ho hq
   by_cases hlt : i = t.length
   ·exact fin i f out q hlt he ho hq
   have hlt : i < t.length := by omega
   have hon : f.n = out.length := (Rw.of_own ho (fun _ => rfl) (by decide)).2
   have edrop : t.drop i = t[i] :: t.drop (i + 1) := List.drop_eq_getElem_cons hlt
   refine hI _ f.a f.n f.c q (CondP.yes (decide_eq_true (by rw [str_size]; omega)) ?_)
   intro J hJ
   have hex : (str t).extract ((i : Int)).toNat ((((str t).size : Nat) : Int)).toNat = str (t.drop i) := by
    rw [str_extract, str_size]
    congr 1
    rw [show ((i : Int)).toNat = i by omega, show (((t.length : Nat) : Int)).toNat = t.length by omega]
    exact List.take_of_length_le (by rw [List.length_drop]; exact Nat.le_refl _)
   refine ⟨by omega, by rw [str_size]; omega, by omega, ?_⟩
   rw [hex]
   refine (markAt_spec q p xs (h.on hq) hl (t.drop i) (by rw [List.length_drop]; omega)).mono ?_
   rintro e w3 ⟨rfl, b3⟩
   have hq3 := below_then hq b3
   rw [edrop] at he ⊢
   cases hm : markBeg xs (t[i] :: t.drop (i + 1)) with
   | none =>
    rw [parseV_none hm] at he
    refine ⟨_, _, rfl, CondP.yes rfl ⟨by omega, by rw [str_size]; omega, ?_⟩⟩
    intro w4 hw4
    have hbt : btAt (str t) (i : Int) = ((t[i]).toNat : Int) := btAt_str t i hlt
    have hb256 := (t[i]).toNat_lt
    rw [hbt, wrap_in (by show (-9223372036854775808 : Int) ≤ _; omega) (by show _ ≤ (9223372036854775807 : Int); omega)] at hw4
    obtain ⟨f', w5, e1, e2, e3, e4, _⟩ := elInt.push (own_on ho b3) ((t[i]).toNat : Int) hw4 rfl hq3.size (by omega) (by decide)
    exact ⟨f'.a, f'.n, f'.c, w5, e2, Ar.nat (i + 1) rfl (by omega) (hJ _ f'.a f'.n f'.c w5 (ihd (i + 1) f' (out ++ [((t[i]).toNat : Int)]) w5 (by omega) (by omega) (by rw [List.length_append]; simp; omega) (by rw [List.append_assoc]; exact he) e3 (e4 _ hq3)))⟩
   | some j =>
    obtain ⟨hj, hp, hpre⟩ := markOf_pos hm
    rw [parseV_some hm hj] at he
    refine ⟨_, _, rfl, CondP.no rfl ?_⟩
    refine (markHas_spec w3 p xs (h.on hq3) hl (-1 - (j : Int)) (by omega)).mono ?_
    rintro e w6 ⟨rfl, b6⟩
    have hq6 := below_then hq3 b6
    have hat : markAt xs (-1 - (j : Int)) = some xs[j] := by
     unfold markAt
     rw [if_pos (by omega), show (-1 - (-1 - (j : Int))).toNat = j by omega, List.getElem?_eq_getElem hj]
    rw [hat]
    refine ⟨_, _, _, rfl, ?_⟩
    intro w7 hw7
    refine storeP_new [.int .i64 0, .string ⟨#[]⟩] [.int .i64 (xs[j]).1, .string (str (xs[j]).2)] rfl (by intro u hu; simp only [List.mem_cons, List.not_mem_nil, or_false] at hu; rcases hu with rfl | rfl <;> rfl) w7 hw7 ?_
    intro w8 x8 z8 b8
    have hq8 := below_then hq6 b8
    intro w9 hw9
    obtain ⟨f', w10, e1, e2, e3, e4, e5⟩ := elInt.push (own_on (own_on (own_on ho b3) b6) b8) (-1 - (j : Int)) hw9 rfl hq8.size (by omega) (by decide)
    have x10 : w10.heap[w6.heap.size]? = some (.cells #[.int .i64 (xs[j]).1, .string (str (xs[j]).2)] 105 (0, 0)) := by
     rw [e5 _ (Array.getElem?_eq_some_iff.1 x8).1 (fun e => by
      have := (own_lt (own_on (own_on ho b3) b6) _ e).2
      omega)]
     exact x8
    have hple := hpre.length_le
    simp only [List.length_cons, List.length_drop] at hple
    refine ⟨f'.a, f'.n, f'.c, w10, e2, _, ptr_add0 _ _ x10 1, Ar.nat (i + (xs[j]).2.length) (by rw [str_size]; omega) (by omega) (hJ _ f'.a f'.n f'.c w10 (ihd (i + (xs[j]).2.length) f' (out ++ [-1 - (j : Int)]) w10 (by omega) (by omega) (by rw [List.length_append]; simp; omega) ?_ e3 (e4 _ hq8)))⟩
    rw [List.append_assoc]
    rw [← edrop, List.drop_drop] at he
    exact he
 have := loop t.length 0 sl0 [] w (by omega) (Nat.zero_le _) (Nat.le_refl _) rfl (own_none _ _ _ _ encInt) (Below.refl _ _)
 exact this
def textE (s : SpecV) (T : List Ent) (t : Bs) : Int := if 4000 < t.length then 3 else (healI s T (parseV s.specials t)).2
theorem healText_spec (w : World) (v : Nat) (s : SpecV) (T : List Ent) (hV : VocIs w v s T) (t : Bs) :
  CP 44 #[.pointer (some ⟨v, 0, none⟩), .string (str t)] w fun e w' => ∃ l : Sl, e = .returned (.tuple #[l.v, .int .i64 (textE s T t)]) ∧ (textE s T t ≠ 0 → l = sl0) ∧ (textE s T t = 0 → w'.ownsRow w.heap.size tHealT 2 l.v l.n ((candAll s T (parseV s.specials t)).flatMap encPair)) ∧ VocIs w' v s T ∧ Touch v w w' := by
 refine calls_ret (vc44_calls (some ⟨v, 0, none⟩) (str t) w (fun u w' => ∃ l : Sl, u = .tuple #[l.v, .int .i64 (textE s T t)] ∧ (textE s T t ≠ 0 → l = sl0) ∧ (textE s T t = 0 → w'.ownsRow w.heap.size tHealT 2 l.v l.n ((candAll s T (parseV s.specials t)).flatMap encPair)) ∧ VocIs w' v s T ∧ Touch v w w') ?_) (by rintro v w' ⟨l, rfl, h⟩; exact ⟨l, rfl, h⟩)
 refine CondP.no rfl (CondP.mk (fun h4 => ?_) fun h4 => ?_)
 ·have h4 := of_decide_eq_true h4
  rw [str_size] at h4
  have e : textE s T t = 3 := by rw [textE, if_pos (by omega)]
  rw [e]
  exact ⟨sl0, rfl, fun _ => rfl, fun h => (by cases h), hV, Touch.of_below (Below.refl _ _)⟩
 ·have h4 := of_decide_eq_false h4
  rw [str_size] at h4
  have e0 : textE s T t = (healI s T (parseV s.specials t)).2 := by rw [textE, if_neg (by omega)]
  have hvl := hV.lt
  have hV' := hV
  obtain ⟨w0, x, tp, bp, mp', d, l0, uses, hR⟩ := hV'
  have hfew := hR.now.few
  refine (vocMarks_spec hR.vblk).mono ?_
  rintro e w1 ⟨rfl, hw⟩
  subst w1
  refine ⟨_, rfl, (markParse_spec w mp' s.specials hR.now.marks (by omega) t (by omega)).mono ?_⟩
  rintro e w2 ⟨l, rfl, ho, b2⟩
  obtain ⟨hrow, hn⟩ := Rw.of_own ho (fun _ => rfl) (by decide)
  have hc := own_le ho
  have hfar : parseV s.specials t ≠ [] → ∀ p, l.a = some p → p.block ≠ v := by
   intro _ p hp
   rcases ho.2 with ⟨e0, _⟩ | ⟨g, cap, cur, e0, hg, _⟩
   ·have e0 : Value.slice l.a l.n l.c = .slice none 0 0 := e0
    simp only [Value.slice.injEq] at e0
    rw [e0.1] at hp
    cases hp
   ·have e0 : Value.slice l.a l.n l.c = .slice (some ⟨g, 0, none⟩) l.n cap := e0
    simp only [Value.slice.injEq] at e0
    rw [e0.1] at hp
    cases hp
    show g ≠ v
    omega
  obtain ⟨la, ln, lc⟩ := l
  change ln = _ at hn
  subst hn
  refine ⟨la, _, lc, rfl, (heal_spec w2 v s T (hV.on b2) la lc (parseV s.specials t) hrow hc hfar).mono ?_⟩
  rintro e w3 ⟨l, rfl, h1, h2, hV3, t3⟩
  rw [e0]
  exact ⟨l.a, l.n, l.c, _, _, rfl, l, rfl, h1, fun h => own_base (h2 h) b2.size, hV3, (Touch.of_below b2).trans t3⟩
def s24 : SpecV := { merges := [(97, 98), (256, 99)] }
def t24 : List Ent := begins ++ [([97, 98], (97, 98)), ([97, 98, 99], (256, 99))]
theorem right_24 : s24.right = true := by decide +kernel
theorem build_24 : buildV s24 = .ok t24 := by
 have h : (match buildV s24 with | .ok t => decide (t = t24) | .error _ => false) = true := by decide +kernel
 cases hx : buildV s24 with
 | error q => rw [hx] at h; cases h
 | ok t => rw [hx] at h; rw [of_decide_eq_true h]
theorem parse_24 : parseV s24.specials [120, 97, 98] = [120, 97, 98] := by decide +kernel
theorem cand_24 : candAll s24 t24 [120, 97, 98] = [(1, 257)] := by decide +kernel
theorem ready_24 : readyI s24 [120, 97, 98] = (3, 0) := by decide +kernel
theorem text_24 : textE s24 t24 [120, 97, 98] = 0 := by
 rw [textE, if_neg (by decide), parse_24, healI, if_neg (by rw [ready_24]; decide), cand_24]
 rfl
theorem specAt_24 (w w1 : World) (hw1 : w1 = w.alloc (.cells #[Value.int .i64 97, Value.int .i64 98, Value.int .i64 256, Value.int .i64 99] tMg)) : SpecAt w1 ⟨false, ⟨some (nb w), 2, 2⟩, ⟨none, 0, 0⟩, ⟨none, 0, 0⟩, ⟨none, 0, 0⟩, ⟨none, 0, 0⟩⟩ s24 := by
 have l1 : w1.heap[w.heap.size]? = some (.cells #[Value.int .i64 97, Value.int .i64 98, Value.int .i64 256, Value.int .i64 99] tMg (0, 0)) := by subst hw1; exact alloc_new _ _
 have none_ : ∀ {α : Type} {enc : α → List Value} {sz : Nat}, Rw enc sz w1 none [] := fun j x hj => by simp at hj
 refine ⟨rfl, rfl, fun j x hj => ?_, rfl, none_, rfl, none_, rfl, none_, rfl, none_⟩
 have hlt := (Array.getElem?_eq_some_iff.1 l1).1
 have hj0 := (List.getElem?_eq_some_iff.1 hj).1
 match j, hj, hj0 with
 | 0, hj, _ =>
  have hx : x = (97, 98) := by simpa [s24] using hj.symm
  subst hx
  refine ⟨nb w, rfl, hlt, fun k v hk => ?_⟩
  rw [Nat.zero_mul, add_zero, ptr_add0 _ _ l1]
  match k, hk with
  | 0, hk => cases hk; rfl
  | 1, hk => cases hk; rfl
 | 1, hj, _ =>
  have hx : x = (256, 99) := by simpa [s24] using hj.symm
  subst hx
  refine ⟨nb w, rfl, hlt, fun k v hk => ?_⟩
  rw [Nat.one_mul, Addr.add_add, ptr_add0 _ _ l1]
  match k, hk with
  | 0, hk => cases hk; rfl
  | 1, hk => cases hk; rfl
 | j + 2, _, h => exact absurd h (by simp [s24])
theorem awake24_spec (w : World) : CP 31 #[] w fun e w' => e = .returned (.bool true) ∧ Below w.heap.size w w' := by
 refine calls_ret (vc31_calls w (fun u w' => u = .bool true ∧ Below w.heap.size w w') ?_) (by rintro v w' ⟨rfl, h⟩; exact ⟨rfl, h⟩)
 intro w1 hw1
 have hb1 : Below w.heap.size w w1 := by subst hw1; exact below_alloc _ _
 refine (vocabNew_spec w1 _ s24 (specAt_24 w w1 hw1)).mono ?_
 rintro e w2 ⟨u, rfl, hb2, hp⟩
 rw [if_pos right_24, build_24] at hp
 obtain ⟨v, rfl, hV, hv⟩ := hp
 have hb12 := below_then hb1 hb2
 have hz1 := hb1.size
 refine ⟨_, _, _, rfl, ?_⟩
 refine Calls.mono (show Calls _ _ #[_, .string (str [120, 97, 98])] w2 _ from healText_spec w2 v s24 t24 hV [120, 97, 98]) ?_
 rintro e w3 ⟨l, rfl, _, h0, hV3, t3⟩
 have ho := h0 text_24
 rw [parse_24, cand_24] at ho
 obtain ⟨hrow, hn⟩ := Rw.of_own ho (fun _ => rfl) (by decide)
 obtain ⟨p, hp, _, hc⟩ := hrow 0 (1, 257) rfl
 have c0 := hc 0 _ rfl
 have c1 := hc 1 _ rfl
 rw [Nat.zero_mul, add_zero] at c0 c1
 rw [add_zero] at c0
 have hn : l.n = 1 := hn
 rw [text_24]
 refine ⟨l.a, l.n, l.c, _, rfl, CondP.yes rfl (CondP.yes (by rw [hn]; rfl) (NilC.mk p hp ⟨by omega, by omega, 1, 257, ⟨?_, ?_, trivial⟩, rfl, ?_⟩))⟩
 ·rw [show (0 : Int).toNat * 2 = 0 from rfl, add_zero]
  exact c0
 ·rw [show (0 : Int).toNat * 2 = 0 from rfl, add_zero]
  exact c1
 ·exact hb12.trans (t3.below (by omega) hb12.size)
def idLen (id : Int) : Nat := if id < 256 then 1 else if id < 504 then 2 else if id < 752 then 3 else 4
def ShortT (es : List Ent) : Prop := ∀ id, inTab es id → (bytesOf es id).length ≤ idLen id
theorem short_begins : ShortT begins := by
 intro id h
 have hb : ∀ k : Fin 256, (bytesOf begins (k.val : Int)).length ≤ 1 := by decide +kernel
 have hl : begins.length = 256 := by decide +kernel
 obtain ⟨h0, h1⟩ := h
 have := hb ⟨id.toNat, by omega⟩
 rw [show ((id.toNat : Nat) : Int) = id by omega] at this
 unfold idLen
 split
 ·exact this
 ·omega
theorem tokNew_limit : ∀ (ms : List (Int × Int)) (es : List Ent) (i : Nat), es.length = 256 + i → i + ms.length ≤ 744 → ShortT es → (∀ k m, ms[k]? = some m → 0 ≤ m.1 ∧ 0 ≤ m.2 ∧ m.2 < 256 ∧ m.1 < 256 + ((i + k : Nat) : Int) ∧ (i + k < 248 → m.1 < 256) ∧ (i + k < 496 → m.1 < 504) ∧ m.1 < 752) → (∃ T, tokNew es i ms = .ok T) ∨ ∃ j, tokNew es i ms = .error (j, 10)
 | [], es, i, _, _, _, _ => .inl ⟨es, rfl⟩
 | m :: r, es, i, hl, hi, hS, hm => by
  obtain ⟨a1, a2, a3, a4, a5, a6, a7⟩ := hm 0 m rfl
  simp only [Nat.add_zero, List.length_cons] at *
  have i1 : inTab es m.1 := ⟨a1, by omega⟩
  have i2 : inTab es m.2 := ⟨a2, by omega⟩
  have l1 := hS _ i1
  have l2 := hS _ i2
  have e2 : idLen m.2 = 1 := by unfold idLen; rw [if_pos a3]
  have hj : (joined es m).length = (bytesOf es m.1).length + (bytesOf es m.2).length := by
   unfold joined
   rw [List.length_append]
  have h3 : (joined es m).length ≤ idLen (256 + (i : Int)) := by
   rw [hj]
   rw [e2] at l2
   have : idLen m.1 + 1 ≤ idLen (256 + (i : Int)) := by
    unfold idLen
    split <;> split <;> (try split) <;> (try split) <;> (try split) <;> omega
   omega
  have h4 : idLen (256 + (i : Int)) ≤ 4 := by unfold idLen; split <;> (try split) <;> (try split) <;> omega
  by_cases h10 : joined es m ∈ es.map (·.1)
  ·right
   refine ⟨i, ?_⟩
   have : tokAdd es m = .error 10 := by
    unfold tokAdd
    rw [if_neg (by simp [i1, i2]), if_neg (by omega), if_neg (by omega), if_pos h10]
   rw [tokNew, this]
  ·have : tokAdd es m = .ok (joined es m, m) := by
    unfold tokAdd
    rw [if_neg (by simp [i1, i2]), if_neg (by omega), if_neg (by omega), if_neg h10]
   rw [tokNew, this]
   refine tokNew_limit r _ (i + 1) (by rw [List.length_append, hl]; rfl) (by omega) ?_ ?_
   ·intro id hid
    by_cases h : inTab es id
    ·rw [bytesOf_snoc _ h]
     exact hS id h
    ·have hid' := hid.2
     rw [List.length_append, hl] at hid'
     simp only [List.length_cons, List.length_nil] at hid'
     have h0 := hid.1
     have : ¬ id < ((es.length : Nat) : Int) := fun hlt => h ⟨h0, hlt⟩
     have e : id = 256 + (i : Int) := by omega
     have eb : bytesOf (es ++ [(joined es m, m)]) id = joined es m := by
      unfold bytesOf
      rw [show id.toNat = es.length by omega, List.getElem?_append_right (Nat.le_refl _), Nat.sub_self]
      rfl
     rw [eb, e]
     exact h3
   ·intro k m' hk
    have := hm (k + 1) m' hk
    rw [show i + 1 + k = i + (k + 1) by omega]
    exact this
def lim1 (i : Nat) : List (Int × Int) := (List.range i).map fun (k : Nat) => (97, (k : Int))
def lim2 (n : Int) (i : Nat) : List (Int × Int) := lim1 248 ++ (List.range i).map fun (k : Nat) => (256 + (k : Int), n)
def lim3 (n : Int) (i : Nat) : List (Int × Int) := lim2 n 248 ++ (List.range i).map fun (k : Nat) => (504 + (k : Int), n)
def limS (n : Int) : SpecV := { merges := lim3 n 248 }
theorem lim1_len (i : Nat) : (lim1 i).length = i := by simp [lim1]
theorem lim2_len (n : Int) (i : Nat) : (lim2 n i).length = 248 + i := by simp [lim2, lim1_len]
theorem lim3_len (n : Int) (i : Nat) : (lim3 n i).length = 496 + i := by simp [lim3, lim2_len]
theorem lim1_succ (i : Nat) : lim1 (i + 1) = lim1 i ++ [(97, (i : Int))] := by simp [lim1, List.range_succ]
theorem lim2_succ (n : Int) (i : Nat) : lim2 n (i + 1) = lim2 n i ++ [(256 + (i : Int), n)] := by simp [lim2, List.range_succ]
theorem lim3_succ (n : Int) (i : Nat) : lim3 n (i + 1) = lim3 n i ++ [(504 + (i : Int), n)] := by simp [lim3, List.range_succ]
theorem lim3_at {n : Int} {k : Nat} {m : Int × Int} (h : (lim3 n 248)[k]? = some m) : (k < 248 ∧ m = (97, (k : Int))) ∨ (248 ≤ k ∧ k < 496 ∧ m = (((k + 8 : Nat) : Int), n)) ∨ (496 ≤ k ∧ k < 744 ∧ m = (((k + 8 : Nat) : Int), n)) := by
 have hk := (List.getElem?_eq_some_iff.1 h).1
 rw [lim3_len] at hk
 unfold lim3 at h
 by_cases h1 : k < 496
 ·rw [List.getElem?_append_left (by rw [lim2_len]; omega)] at h
  unfold lim2 at h
  by_cases h2 : k < 248
  ·rw [List.getElem?_append_left (by rw [lim1_len]; omega)] at h
   unfold lim1 at h
   rw [List.getElem?_map, List.getElem?_range (by omega)] at h
   cases h
   exact .inl ⟨h2, rfl⟩
  ·rw [List.getElem?_append_right (by rw [lim1_len]; omega), lim1_len, List.getElem?_map, List.getElem?_range (by omega)] at h
   cases h
   exact .inr (.inl ⟨by omega, h1, by rw [Prod.mk.injEq]; exact ⟨by omega, rfl⟩⟩)
 ·rw [List.getElem?_append_right (by rw [lim2_len]; omega), lim2_len, List.getElem?_map, List.getElem?_range (by omega)] at h
  cases h
  exact .inr (.inr ⟨by omega, by omega, by rw [Prod.mk.injEq]; exact ⟨by omega, rfl⟩⟩)
theorem lim_right {n : Int} (h0 : 0 ≤ n) (h1 : n < 256) : (limS n).right = true := by
 have : allOk (lim3 n 248) 744 mergeOk = true := by
  unfold allOk
  rw [Bool.and_eq_true, decide_eq_true_eq, List.all_eq_true, lim3_len]
  refine ⟨by omega, fun m hm => ?_⟩
  obtain ⟨k, hk⟩ := List.getElem?_of_mem hm
  unfold mergeOk
  rw [decide_eq_true_eq]
  rcases lim3_at hk with ⟨h, rfl⟩ | ⟨h, h', rfl⟩ | ⟨h, h', rfl⟩ <;> (refine ⟨?_, ?_, ?_, ?_⟩ <;> dsimp only <;> omega)
 unfold SpecV.right
 show (true && allOk (lim3 n 248) 744 mergeOk && true && true && true && true) = true
 rw [this]
 rfl
theorem lim_build {n : Int} (h0 : 0 ≤ n) (h1 : n < 256) : (∃ T, buildV (limS n) = .ok T) ∨ ∃ i j, buildV (limS n) = .error (i, j, 10) := by
 have hl : begins.length = 256 := by decide +kernel
 have key := tokNew_limit (lim3 n 248) begins 0 hl (by rw [lim3_len]; omega) short_begins (by
  intro k m hk
  rw [Nat.zero_add]
  rcases lim3_at hk with ⟨h, rfl⟩ | ⟨h, h', rfl⟩ | ⟨h, h', rfl⟩ <;> (dsimp only; refine ⟨?_, ?_, ?_, ?_, ?_, ?_, ?_⟩ <;> omega))
 have e : loadT (limS n) = tokNew begins 0 (lim3 n 248) := by
  unfold loadT
  rw [if_neg (show ¬ ((limS n).ranked = true) from Bool.false_ne_true)]
  simp only [limS]
 have em : (limS n).specials = [] := by simp only [limS]
 unfold buildV
 rw [e, em]
 rcases key with ⟨T, h⟩ | ⟨j, h⟩
 ·rw [h]
  exact .inl ⟨T, rfl⟩
 ·rw [h]
  exact .inr ⟨1, j, rfl⟩
theorem lim_parse (n : Int) : parseV (limS n).specials [97] = [97] := by
 show parseV [] [97] = [97]
 decide +kernel
theorem lim_ready (n : Int) : readyI (limS n) [97] = (1, 0) := by
 rfl
theorem lim_all (n : Int) (T : List Ent) : candAll (limS n) T [97] = (candAt (limS n) T [97] 0).map fun k => (0, k) := by
 show candTo _ T [97] 1 = _
 rw [candTo_succ]
 rfl
theorem elMg : ElT encPair 2 33 tMg 16 := ⟨fun _ => rfl, by decide, fun x u hu => by
 simp only [encPair, List.mem_cons, List.not_mem_nil, or_false] at hu
 rcases hu with rfl | rfl <;> rfl, by kernel_rfl, _, infoMg, rfl⟩
def Making (q : World) (b B : Nat) (ms : List (Int × Int)) (f : Sl) : Prop := q.heap[b]? = some (.cells #[.bool false, f.v, .slice none 0 0, .slice none 0 0, .slice none 0 0, .slice none 0 0] tSpec (0, 0)) ∧ q.ownsRow B tMg 2 f.v f.n (ms.flatMap encPair) ∧ B ≤ b ∧ b < q.heap.size
theorem making_cell {q : World} {b B : Nat} {ms : List (Int × Int)} {f : Sl} (h : Making q b B ms f) : q.cell? ((⟨b, 0, none⟩ : Addr).add 1) = some (.slice f.a f.n f.c) := by
 rw [cell_put h.1]
 rfl
theorem making_push {q q5 w0 : World} {b B : Nat} {ms : List (Int × Int)} {f : Sl} (h : Making q b B ms f) (hb : Below B w0 q) (m : Int × Int) {c : Array Value} (h5 : q5 = q.alloc (.cells c tMg)) (hc : c = (encPair m).toArray) (hl : ms.length ≤ 1000) :
  ∃ (f' : Sl) (q6 : World), (Builtin.append_ #[33, 33] 33 #[.slice f.a f.n f.c, .slice (some (nb q)) 1 1]).run Tryz.prog q5 = .ok (.slice f'.a f'.n f'.c) q6 ∧ (∃ u, q6.cell? ((⟨b, 0, none⟩ : Addr).add 1) = some u) ∧ q6.frozen? ((⟨b, 0, none⟩ : Addr).add 1) = false ∧ Making (q6.setCell ((⟨b, 0, none⟩ : Addr).add 1) (.slice f'.a f'.n f'.c)) b B (ms ++ [m]) f' ∧ Below B w0 (q6.setCell ((⟨b, 0, none⟩ : Addr).add 1) (.slice f'.a f'.n f'.c)) := by
 obtain ⟨hx, ho, hBb, hbq⟩ := h
 have hfn : f.n = ms.length := (Rw.of_own ho (fun _ => rfl) (by decide)).2
 obtain ⟨f', q6, e1, e2, e3, e4, e5⟩ := elMg.push ho m h5 hc (by omega) (by omega) (by decide)
 have hne : f.v.ownBlock ≠ some b := row_ne_blk ho hx (by decide)
 have x6 := (e5 b hbq hne).trans hx
 have hb6 := e4 w0 hb
 refine ⟨f', q6, e2, ⟨_, cell_put x6⟩, frozen_put x6, ⟨?_, own_setCell e3 _ (row_ne_blk e3 x6 (by decide)), hBb, ?_⟩, below_put hb6 hBb _⟩
 ·rw [show ((⟨b, 0, none⟩ : Addr).add 1) = ⟨b, 1, none⟩ from rfl, setCell_heap x6]
  rfl
 ·rw [size_setCell]
  exact (Array.getElem?_eq_some_iff.1 x6).1
theorem byte_wf {n : Int} (h : (Lit.int .u8 n).wf = true) : 0 ≤ n ∧ n < 256 := by
 have h : (decide ((0 : Int) ≤ n) && decide (n ≤ 255)) = true := h
 rw [Bool.and_eq_true, decide_eq_true_eq, decide_eq_true_eq] at h
 omega
theorem HealLimit_spec (n : Int) (h0 : 0 ≤ n) (h1 : n < 256) (w : World) : CP 8 #[.int .u8 n] w fun e w' => e = .returned (.bool true) ∧ Below w.heap.size w w' := by
 refine calls_ret (vc8_calls n w (fun u w' => u = .bool true ∧ Below w.heap.size w w') ?_) (by rintro v w' ⟨rfl, h⟩; exact ⟨rfl, h⟩)
 have hwr : IntKind.wrap .i64 n = n := wrap_in (by show (-9223372036854775808 : Int) ≤ _; omega) (by show _ ≤ (9223372036854775807 : Int); omega)
 refine (awake24_spec w).mono ?_
 rintro e w1 ⟨rfl, b1⟩
 refine ⟨true, rfl, CondP.no rfl ?_⟩
 have hz1 := b1.size
 intro w2 hw2
 refine storeP_new [.bool false, .slice none 0 0, .slice none 0 0, .slice none 0 0, .slice none 0 0, .slice none 0 0] [.bool false, .slice none 0 0, .slice none 0 0, .slice none 0 0, .slice none 0 0, .slice none 0 0] rfl (by intro u hu; simp only [List.mem_cons, List.not_mem_nil, or_false] at hu; rcases hu with rfl | rfl | rfl | rfl | rfl | rfl <;> rfl) w2 hw2 ?_
 intro w3 x3 z3 b3
 have hb3 := below_then b1 b3
 rw [hwr]
 have m3 : Making w3 w1.heap.size w.heap.size (lim1 0) sl0 := ⟨x3, (own_none _ _ _ _ encPair : w3.ownsRow w.heap.size tMg 2 sl0.v sl0.n (([] : List (Int × Int)).flatMap encPair)), hz1, by omega⟩
 intro I1 hI1
 have key1 := climb2 (α := Sl × World) 248 (fun i y => Making y.2 w1.heap.size w.heap.size (lim1 i) y.1 ∧ Below w.heap.size w y.2) (fun i y => I1 [.int .i64 (i : Int)] y.2) (sl0, w3) ⟨m3, hb3⟩ ?_ ?_
 ·exact key1
 ·rintro i hi ih ⟨f, q⟩ ⟨hm, hq⟩
  refine hI1 _ q (CondP.yes (decide_eq_true (by omega)) ⟨f.a, f.n, f.c, making_cell hm, ?_⟩)
  intro q5 h5
  obtain ⟨f', q6, e1, e2, e3, e4, e5⟩ := making_push hm hq (97, (i : Int)) h5 rfl (by rw [lim1_len]; omega)
  refine ⟨f'.a, f'.n, f'.c, q6, e1, rfl, e2, e3, ?_⟩
  intro q7 h7
  subst h7
  exact Ar.nat (i + 1) rfl (by omega) (ih (f', _) ⟨by rw [lim1_succ]; exact e4, e5⟩)
 rintro ⟨f, q⟩ ⟨hm, hq⟩
 refine hI1 _ q (CondP.no (decide_eq_false (by omega)) ?_)
 intro I2 hI2
 have key2 := climb2 (α := Sl × World) 248 (fun i y => Making y.2 w1.heap.size w.heap.size (lim2 n i) y.1 ∧ Below w.heap.size w y.2) (fun i y => I2 [.int .i64 (i : Int)] y.2) (f, q) ⟨by rw [show lim2 n 0 = lim1 248 from List.append_nil _]; exact hm, hq⟩ ?_ ?_
 ·exact key2
 ·rintro i hi ih ⟨f, q⟩ ⟨hm, hq⟩
  refine hI2 _ q (CondP.yes (decide_eq_true (by omega)) ⟨f.a, f.n, f.c, making_cell hm, Ar.ok64 (by omega) (by omega) ?_⟩)
  intro q5 h5
  obtain ⟨f', q6, e1, e2, e3, e4, e5⟩ := making_push hm hq (256 + (i : Int), n) h5 rfl (by rw [lim2_len]; omega)
  refine ⟨f'.a, f'.n, f'.c, q6, e1, rfl, e2, e3, ?_⟩
  intro q7 h7
  subst h7
  exact Ar.nat (i + 1) rfl (by omega) (ih (f', _) ⟨by rw [lim2_succ]; exact e4, e5⟩)
 rintro ⟨f, q⟩ ⟨hm, hq⟩
 refine hI2 _ q (CondP.no (decide_eq_false (by omega)) ?_)
 intro I3 hI3
 have key3 := climb2 (α := Sl × World) 248 (fun i y => Making y.2 w1.heap.size w.heap.size (lim3 n i) y.1 ∧ Below w.heap.size w y.2) (fun i y => I3 [.int .i64 (i : Int)] y.2) (f, q) ⟨by rw [show lim3 n 0 = lim2 n 248 from List.append_nil _]; exact hm, hq⟩ ?_ ?_
 ·exact key3
 ·rintro i hi ih ⟨f, q⟩ ⟨hm, hq⟩
  refine hI3 _ q (CondP.yes (decide_eq_true (by omega)) ⟨f.a, f.n, f.c, making_cell hm, Ar.ok64 (by omega) (by omega) ?_⟩)
  intro q5 h5
  obtain ⟨f', q6, e1, e2, e3, e4, e5⟩ := making_push hm hq (504 + (i : Int), n) h5 rfl (by rw [lim3_len]; omega)
  refine ⟨f'.a, f'.n, f'.c, q6, e1, rfl, e2, e3, ?_⟩
  intro q7 h7
  subst h7
  exact Ar.nat (i + 1) rfl (by omega) (ih (f', _) ⟨by rw [lim3_succ]; exact e4, e5⟩)
 rintro ⟨f, q⟩ ⟨⟨hx, ho, hBb, hbq⟩, hq⟩
 change q.ownsRow w.heap.size tMg 2 f.v f.n _ at ho
 change Below w.heap.size w q at hq
 obtain ⟨hrow, hn⟩ := Rw.of_own ho (fun _ => rfl) (by decide)
 have none_ : ∀ {α : Type} {enc : α → List Value} {sz : Nat}, Rw enc sz q none [] := fun j x hj => by simp at hj
 have hS : SpecAt q ⟨false, f, sl0, sl0, sl0, sl0⟩ (limS n) := ⟨rfl, hn, hrow, rfl, none_, rfl, none_, rfl, none_, rfl, none_⟩
 refine hI3 _ q (CondP.no (decide_eq_false (by omega)) ⟨_, _, _, _, _, _, _, _, _, _, _, _, _, _, _, _, agg_cells (x := ⟨false, f, sl0, sl0, sl0, sl0⟩) hx, ?_⟩)
 refine (vocabNew_spec q _ (limS n) hS).mono ?_
 rintro e w16 ⟨u, rfl, b16, hp⟩
 have hb16 := below_then hq b16
 rw [if_pos (lim_right h0 h1)] at hp
 rcases lim_build h0 h1 with ⟨T, hT⟩ | ⟨i, j, hE⟩
 ·rw [hT] at hp
  obtain ⟨v, rfl, hV, hv⟩ := hp
  refine ⟨_, _, _, rfl, CondP.no rfl ?_⟩
  refine Calls.mono (show Calls _ _ #[_, .string (str [97])] w16 _ from healText_spec w16 v (limS n) T hV [97]) ?_
  rintro e w17 ⟨l, rfl, hl1, hl2, hV17, t17⟩
  have et : textE (limS n) T [97] = if 500 < (candAt (limS n) T [97] 0).length then 5 else 0 := by
   rw [textE, if_neg (by decide), lim_parse, healI, lim_ready, if_neg (by decide), lim_all, List.length_map]
   split <;> rfl
  have b17 : Below w.heap.size w w17 := hb16.trans (t17.below (by have := hq.size; omega) hb16.size)
  refine ⟨l.a, l.n, l.c, _, rfl, ?_⟩
  intro w18 hw18
  have b18' : Below w17.heap.size w17 w18 := by subst hw18; exact below_alloc _ _
  have x18 : w18.heap[w17.heap.size]? = some (.cells #[.int .i64 97] tInt (0, 0)) := by subst hw18; exact alloc_new _ _
  have r18 : Rw encInt 1 w18 (some (nb w17)) [97] := by
   intro j x hj
   match j, hj with
   | 0, hj =>
    cases hj
    refine ⟨nb w17, rfl, (Array.getElem?_eq_some_iff.1 x18).1, fun k v hk => ?_⟩
    match k, hk with
    | 0, hk => cases hk; exact ptr_add0 _ _ x18 0
   | j + 1, hj => simp at hj
  have hvl := hV17.lt
  refine Calls.mono (show Calls _ _ #[.pointer (some ⟨v, 0, none⟩), .int .i64 0, .slice (some (nb w17)) 1 1] w18 _ from healAt_spec w18 v (limS n) T (hV17.on b18') 0 (some (nb w17)) 1 [97] r18 (Nat.le_refl _) (fun _ p hp => by cases hp; show w17.heap.size ≠ v; omega)) ?_
  rintro e w19 ⟨l2, rfl, hl3, hl4, hV19, t19⟩
  have ea : atE (limS n) [97] 0 = 0 := by
   unfold atE
   rw [lim_ready]
   rfl
  have ho2 := hl4 ea
  have hn2 : l2.n = (candAt (limS n) T [97] 0).length := (Rw.of_own ho2 (fun _ => rfl) (by decide)).2
  have b18 := below_then b17 b18'
  have b19 : Below w.heap.size w w19 := b18.trans (t19.below (by have := hq.size; omega) b18.size)
  rw [ea]
  refine ⟨l2.a, l2.n, l2.c, _, rfl, CondP.no rfl ?_⟩
  rw [et] at hl1 hl2 ⊢
  by_cases h5 : 500 < (candAt (limS n) T [97] 0).length
  ·rw [if_pos h5] at hl1 ⊢
   have : l = sl0 := hl1 (by decide)
   subst this
   refine CondP.yes ?_ (CondP.no ?_ ⟨rfl, b19⟩)
   ·rw [decide_eq_true (by omega)]
    rfl
   ·show ((((0 : Nat) : Int)) == _) = false
    exact beq_eq_false_iff_ne.2 (by omega)
  ·rw [if_neg h5] at hl2 ⊢
   have hn1 : l.n = (candAll (limS n) T (parseV (limS n).specials [97])).length := (Rw.of_own (hl2 rfl) (fun _ => rfl) (by decide)).2
   rw [lim_parse, lim_all, List.length_map] at hn1
   refine CondP.yes ?_ (CondP.yes ?_ ⟨?_, b19⟩)
   ·rw [decide_eq_false (by omega)]
    rfl
   ·exact beq_iff_eq.2 (by omega)
   ·rw [decide_eq_true (by omega)]
    rfl
 ·rw [hE] at hp
  obtain ⟨rfl, _⟩ := hp
  exact ⟨_, _, _, rfl, CondP.yes rfl ⟨rfl, hb16⟩⟩
theorem law_frame0 {H : Type} {enc : TypeId × Value → H} {C : Checked} {os : Os} {f : FuncId} {fn : Func} {s : ChangeSpec}
  (own : ownKnob C.prog.godebug = none) (started : os.Started) (noInit : C.prog.inits.idxOf? f = none) (hfn : C.prog.funcs[f]? = some fn)
  (witness : ∃ (w : World) (tape : Tape) (i : Input), w.os = os ∧ (w.forCall tape i).Shaped C.prog ∧ i.vars = [] ∧ Input.okWide C.prog (w.forCall tape i) .any w.heap.size f i ∧
   ((s.pre enc C.prog fn [] false (w.forCall tape i).memory i.args ∧ True) ∧ sizedMet enc C.prog fn (OpenSpec.ofChange s) false (w.forCall tape i).memory i.args) ∧ ({} : Assume).holds C.prog (lone (Frame.enter C.prog f i.args .normal) [] (w.forCall tape i)))
  (contract : ∀ (W : World) (base : Nat) (args : Array Value) (ds gs : List (DataW H)) (before : List MemPlace),
   (∀ (j : Nat) t v, fn.params[j]? = some t → args[j]? = some v → Value.okWide C.prog W .any base t v) →
   DataW.Whole enc C.prog fn.params.toList s.vars false W args.toList ds gs before →
   (DataW.weightsEach C.prog (fn.params.toList ++ s.plain.varTypes C.prog) (ds ++ gs)).all (· ≤ reachBytes) = true →
   W.ShapedOpen C.prog →
   Calls C.prog f args W fun e W' => ∃ v, e = .returned v ∧ s.post enc C.prog fn false true false false W args v W') :
  ReturnsInHanded {} C os f .any (fun w args => s.pre enc C.prog fn [] false w args ∧ sizedMet enc C.prog fn (OpenSpec.ofChange s) false w args) (s.post enc C.prog fn false true false false) := by
 have witness' : ∃ (w : World) (tape : Tape) (i : Input), w.os = os ∧ (w.forCall tape i).Shaped C.prog ∧ i.vars = [] ∧ Input.okWide C.prog (w.forCall tape i) .any w.heap.size f i ∧
   (s.pre enc C.prog fn [] false (w.forCall tape i).memory i.args ∧ sizedMet enc C.prog fn (OpenSpec.ofChange s) false (w.forCall tape i).memory i.args) ∧ ({} : Assume).holds C.prog (lone (Frame.enter C.prog f i.args .normal) [] (w.forCall tape i)) := by
  obtain ⟨w, tape, i, h1, h2, h3, h4, ⟨⟨h5, _⟩, h6⟩, h7⟩ := witness
  exact ⟨w, tape, i, h1, h2, h3, h4, ⟨h5, h6⟩, h7⟩
 refine returnsInHanded_of_calls own started noInit witness' ?_
 intro w tape i _ hshape _ hok hpre _
 obtain ⟨_, _, _, fn', hfn', _, _, _, _, hval⟩ := hok
 obtain rfl : fn' = fn := Option.some.inj (hfn'.symm.trans hfn)
 obtain ⟨⟨ds, gs, before, hw, _⟩, hz⟩ := hpre
 refine (contract (w.forCall tape i) w.heap.size i.args ds gs before hval (DataW.Whole.of_heap (w' := w.forCall tape i) (by rfl) hw) (hz.weights hw) hshape).mono ?_
 rintro e W' ⟨v, rfl, hp⟩
 exact ChangeSpec.post_blind hp
end Go.Proofs.YtnmdljikfhafiaaGreat.Eng
