/- The trie: what lies below a node, rising; the longer tokens; walked by the engine. -/
import Derived.Test.YtnmdljikfhafiaaGreatZiVi
import Derived.Test.YtnmdljikfhafiaaGreatZiSh
import Derived.Sort.OwnSortedInts
import Derived.Test.YtnmdljikfhafiaaGreatZiRj
import Derived.Test.YtnmdljikfhafiaaGreatZiVc
set_option linter.unusedVariables false
set_option linter.unusedSimpArgs false
set_option maxRecDepth 100000
namespace Go.Proofs.YtnmdljikfhafiaaGreat.Eng
open Go Go.RowKit
abbrev sortI (xs : List Int) : List Int := xs.mergeSort fun x y => decide (x ≤ y)
theorem sortI_spec (w : World) (B : Nat) (l : Sl) (xs : List Int) (ho : w.ownsRow B tInt 1 l.v l.n (xs.flatMap encInt)) (hl : xs.length ≤ 1000000) :
  CP 102 #[l.v] w fun e w' => e = .returned (.tuple #[]) ∧ w'.ownsRow B tInt 1 l.v l.n ((sortI xs).flatMap encInt) ∧ w.grownBy w' l.v.ownBlock := by
 obtain ⟨hn, hc⟩ := RowB.of_own ho
 rcases hc with rfl | ⟨b, cap, rfl, hB, cur, h1, h2, h3, h4, h5⟩
 ·have h0 : xs = [] := List.eq_nil_of_length_eq_zero hn.symm
  subst h0
  refine (Tryz.slices_Sort_int_none none 0 w).mono ?_
  rintro e w' ⟨rfl, hw⟩
  subst hw
  refine ⟨rfl, ?_, ⟨rfl, rfl, rfl, Nat.le_refl _, fun _ _ _ => rfl⟩⟩
  show w'.ownsRow B tInt 1 sl0.v 0 (([] : List Int).mergeSort _ |>.flatMap encInt)
  rw [List.mergeSort_nil]
  exact ho
 ·have ht : cur.toList.take xs.length = xs.map (Value.int .i64) := by
   apply List.ext_getElem?
   intro j
   rw [List.getElem?_take]
   by_cases hj : j < xs.length
   ·rw [if_pos hj, Array.getElem?_toList, h5 j hj, List.getElem?_map, List.getElem?_eq_getElem hj]
    rfl
   ·rw [if_neg hj, List.getElem?_map, List.getElem?_eq_none_iff.2 (by omega)]
    rfl
  refine (Tryz.slices_Sort_int b 0 cap xs w (holds_of_blockI h1 ht) (Array.getElem?_eq_some_iff.1 h1).1 (by omega)).mono ?_
  rintro e w' ⟨rfl, n, os, rfl⟩
  refine ⟨rfl, ?_, grownBy_sortedI _⟩
  rw [ints_cells]
  exact ownsRow_sortedI (List.length_mergeSort _) hB h1 h2 h3 (h4.trans (Nat.mul_one _).symm)
theorem rising_of : ∀ {l : List Int}, l.Pairwise (fun x y => decide (x ≤ y) = true) → l.Nodup → l.Pairwise (· < ·)
 | [], _, _ => .nil
 | x :: l, h, hn => by
  rw [List.pairwise_cons] at h ⊢
  rw [List.nodup_cons] at hn
  refine ⟨fun y hy => ?_, rising_of h.2 hn.2⟩
  have h1 := of_decide_eq_true (h.1 y hy)
  have h2 : x ≠ y := fun e => hn.1 (by rw [e]; exact hy)
  omega
theorem sortI_rising {xs : List Int} (hn : xs.Nodup) : (sortI xs).Pairwise (· < ·) := by
 refine rising_of (List.pairwise_mergeSort (fun a b c h1 h2 => ?_) (fun a b => ?_) xs) ((List.mergeSort_perm xs _).nodup_iff.2 hn)
 ·have h1 := of_decide_eq_true h1
  have h2 := of_decide_eq_true h2
  exact decide_eq_true (by omega)
 ·rcases Int.le_total a b with h | h
  ·rw [decide_eq_true h]
   rfl
  ·rw [decide_eq_true h, Bool.or_true]
structure IdsOk (S : List Bs) (idf : Bs → Int) (N : Nat) : Prop where
 few : N ≤ 1000000
 range : ∀ u, idf u = -1 ∨ (0 ≤ idf u ∧ idf u < N)
 inj : ∀ u ∈ S, ∀ x ∈ S, idf u = idf x → idf u ≠ -1 → u = x
 short : ∀ u ∈ S, u.length ≤ 1000
theorem trieBelow_spec {w0 : World} {n1 : Nat} {S : List Bs} {nd mp : Bs → Nat} {idf : Bs → Int} (hT : TrieAt w0 n1 S nd mp idf) {N : Nat} (hI : IdsOk S idf N) {t : Bs} (ht : t ∈ S) :
  CP 158 #[.pointer (some ⟨nd t, 0, none⟩)] w0 fun e w' => ∃ (l : Sl) (zs : List Int), e = .returned l.v ∧ w'.ownsRow w0.heap.size tInt 1 l.v l.n (zs.flatMap encInt) ∧ zs.Pairwise (· < ·) ∧ (∀ x, x ∈ zs ↔ Bel S idf t x) ∧ Below w0.heap.size w0 w' := by
 refine calls_ret (vc158_calls (some ⟨nd t, 0, none⟩) w0 (fun u w' => ∃ (l : Sl) (zs : List Int), u = l.v ∧ w'.ownsRow w0.heap.size tInt 1 l.v l.n (zs.flatMap encInt) ∧ zs.Pairwise (· < ·) ∧ (∀ x, x ∈ zs ↔ Bel S idf t x) ∧ Below w0.heap.size w0 w') ?_) (by rintro v w' ⟨l, zs, rfl, h⟩; exact ⟨l, zs, rfl, h⟩)
 intro w1 hw1 w2 hw2
 have z1 : w1.heap.size = w0.heap.size + 1 := by subst hw1; rw [World.size_alloc]
 have b1 : Below w0.heap.size w0 w1 := by subst hw1; exact below_alloc _ _
 have b2 : Below w1.heap.size w1 w2 := by subst hw2; exact below_alloc _ _
 have hb1 : Boxed w1 w0.heap.size tInts (.slice none 0 0) := by subst hw1; exact Boxed.new _ _ _
 have hb2 : Boxed w2 w0.heap.size tInts (.slice none 0 0) := held_on b2 hb1
 have hg2 : w2.heap[w0.heap.size + 1]? = some (.cells #[.nilFunc] tGFun (0, 0)) := by subst hw2; rw [← z1]; exact alloc_new _ _
 have hnb : nb w1 = ⟨w0.heap.size + 1, 0, none⟩ := by unfold nb; rw [z1]
 rw [hnb]
 refine ⟨rfl, ⟨_, cell_heap hg2⟩, frozen_heap hg2, ?_⟩
 intro w3 hw3
 have hg3 : w3.heap[w0.heap.size + 1]? = some (.cells #[.func (.func 210) #[] #[.pointer (some ⟨w0.heap.size, 0, none⟩), .pointer (some ⟨w0.heap.size + 1, 0, none⟩)]] tGFun (0, 0)) := by
  subst hw3
  exact setCell_heap hg2 _
 have o3 : OnlyB (w0.heap.size + 1) w2 w3 := by subst hw3; exact OnlyB.set ..
 have hb3 : Boxed w3 w0.heap.size tInts sl0.v := by
  show w3.heap[_]? = _
  rw [o3.ne _ (by omega)]
  exact hb2
 have hle3 : Below w0.heap.size w0 w3 := (below_then b1 b2).trans (o3.below (by omega))
 have hG3 : GaAt w0 w3 [] := ⟨hle3, hg3, sl0, hb3, own_none _ _ _ _ encInt⟩
 refine ⟨_, cell_heap hg3, callG_of (by kernel_rfl) ?_⟩
 refine (gather_spec hT hI.few hI.range hI.inj 1000 t ht (fun u hu _ => by have := hI.short u hu; omega) w3 [] hG3 List.nodup_nil (fun x hx => by cases hx) (fun x _ hx => by cases hx)).mono ?_
 rintro e w4 ⟨rfl, ys, hG4, hnd4, hys, _⟩
 rw [List.nil_append] at hG4 hnd4
 obtain ⟨o, hb4, ho4⟩ := hG4.out
 refine ⟨rfl, o.a, o.n, o.c, hb4.cell, ?_⟩
 have hfew := few_of (N := N) hnd4 (fun x hx => by
  obtain ⟨h1, u, _, _, rfl⟩ := (hys x).1 hx
  rcases hI.range u with h | h
  ·exact absurd h h1
  ·exact h)
 have hN := hI.few
 refine (sortI_spec w4 w0.heap.size o ys ho4 (by omega)).mono ?_
 rintro e w5 ⟨rfl, ho5, hg5⟩
 have hb5 : Boxed w5 w0.heap.size tInts o.v := hb4.kept hg5 (hb4.not_row (by decide) ho4)
 refine ⟨rfl, o.a, o.n, o.c, hb5.cell, o, sortI ys, rfl, ho5, sortI_rising hnd4, fun x => ?_, hG4.le.trans ?_⟩
 ·rw [List.mem_mergeSort]
  exact hys x
 ·refine (Below.refl w0.heap.size w4).grown hg5 hG4.le.size fun k ek => ?_
  rcases ho4.2 with ⟨e0, _⟩ | ⟨g, cap, cur, e0, hB, _⟩
  ·rw [e0] at ek
   simp [Value.ownBlock] at ek
  ·rw [e0] at ek
   obtain rfl : g = k := by simpa [Value.ownBlock] using ek
   exact hB
theorem trieLonger_spec {w : World} {n1 r : Nat} {S : List Bs} {nd mp : Bs → Nat} {idf : Bs → Int} (hT : TrieAt w n1 S nd mp idf) {n : Int} (hR : RootAt w r (nd []) n) {N : Nat} (hI : IdsOk S idf N) (s : Bs) (hs : s.length ≤ 1000000000) :
  CP 113 #[.pointer (some ⟨r, 0, none⟩), .string (str s)] w fun e w' => ∃ (l : Sl) (zs : List Int), e = .returned l.v ∧ w'.ownsRow w.heap.size tInt 1 l.v l.n (zs.flatMap encInt) ∧ zs.Pairwise (· < ·) ∧ (∀ x, x ∈ zs ↔ x ≠ -1 ∧ ∃ u ∈ S, s <+: u ∧ u ≠ s ∧ idf u = x) ∧ Below w.heap.size w w' := by
 refine calls_ret (vc113_calls (some ⟨r, 0, none⟩) (str s) w (fun u w' => ∃ (l : Sl) (zs : List Int), u = l.v ∧ w'.ownsRow w.heap.size tInt 1 l.v l.n (zs.flatMap encInt) ∧ zs.Pairwise (· < ·) ∧ (∀ x, x ∈ zs ↔ x ≠ -1 ∧ ∃ u ∈ S, s <+: u ∧ u ≠ s ∧ idf u = x) ∧ Below w.heap.size w w') ?_) (by rintro v w' ⟨l, zs, rfl, h⟩; exact ⟨l, zs, rfl, h⟩)
 refine (trieFind_spec w n1 r S nd mp idf hT n hR s hs).mono ?_
 rintro e w1 ⟨rfl, b1⟩
 refine ⟨_, rfl, ?_⟩
 intro w2 hw2
 have b2 : Below w1.heap.size w1 w2 := by subst hw2; exact below_alloc _ _
 have h2 : w2.heap[w1.heap.size]? = some (.cells #[.pointer none] tTPtr (0, 0)) := by subst hw2; exact alloc_new _ _
 refine ⟨rfl, ⟨_, cell_heap h2⟩, frozen_heap h2, ?_⟩
 intro w3 hw3
 have h3 : w3.heap[w1.heap.size]? = some (.cells #[.pointer (if s ∈ S then some ⟨nd s, 0, none⟩ else none)] tTPtr (0, 0)) := by subst hw3; exact setCell_heap h2 _
 have o3 : OnlyB w1.heap.size w2 w3 := by subst hw3; exact OnlyB.set ..
 have hz1 := b1.size
 have hb3 : Below w.heap.size w w3 := (below_then b1 b2).trans (o3.below hz1)
 refine ⟨_, cell_heap h3, ?_⟩
 by_cases hin : s ∈ S
 ·rw [if_pos hin] at h3 ⊢
  refine CondP.no rfl ⟨_, cell_heap h3, ?_⟩
  have hT3 := hT.on hb3
  refine (trieBelow_spec hT3 hI hin).mono ?_
  rintro e w4 ⟨l, zs, rfl, ho4, hp4, hz4, b4⟩
  refine ⟨l.a, l.n, l.c, rfl, ?_⟩
  have hz3 := hb3.size
  have fin : ∀ x, x ∈ zs.filter (fun x => !(x == idf s)) ↔ x ≠ -1 ∧ ∃ u ∈ S, s <+: u ∧ u ≠ s ∧ idf u = x := by
   intro x
   rw [List.mem_filter, hz4]
   constructor
   ·rintro ⟨⟨h1, u, hu, hp, he⟩, h2⟩
    refine ⟨h1, u, hu, hp, fun e => ?_, he⟩
    subst e
    simp [he] at h2
   ·rintro ⟨h1, u, hu, hp, hne, he⟩
    refine ⟨⟨h1, u, hu, hp, he⟩, ?_⟩
    have : x ≠ idf s := fun e => hne (hI.inj u hu s hin (by rw [he, e]) (by rw [he]; exact h1))
    simp [this]
  have clo : ∀ (x : Int) (q : World), Below w3.heap.size w3 q → CallG ctx (.func (.func 162) #[] #[.pointer (some (nb w1))]) [.int .i64 x] q fun e q' => e = .returned (.bool (x == idf s)) ∧ q' = q := by
   intro x q hq
   refine callG_of (by kernel_rfl) ?_
   refine calls_ret (vc162_calls x (some (nb w1)) q (fun u q' => u = .bool (x == idf s) ∧ q' = q) ?_) (by rintro v w' ⟨rfl, h⟩; exact ⟨rfl, h⟩)
   exact NilC.mk _ rfl ⟨_, cell_heap (held_on hq h3), NilC.mk _ rfl ⟨_, ptr_add0 _ _ ((hT3.on hq).node _ hin) 1, rfl, rfl⟩⟩
  obtain ⟨hln, hc⟩ := RowB.of_own ho4
  rcases hc with rfl | ⟨b, cap, rfl, hB, hrow⟩
  ·have h0 : zs = [] := List.eq_nil_of_length_eq_zero hln.symm
   subst h0
   have hdel : CP 98 #[.slice none 0 0, .func (.func 162) #[] #[.pointer (some (nb w1))]] w4 fun e w' => e = .returned (.slice none 0 0) ∧ Below w4.heap.size w4 w' := by
    refine calls_ret (vc98_calls none 0 0 _ w4 (fun u w' => u = .slice none 0 0 ∧ Below w4.heap.size w4 w') ?_) (by rintro v w' ⟨rfl, h⟩; exact ⟨rfl, h⟩)
    refine (indexI_spec none 0 [] _ (fun _ => false) w4 (fun j x hj => by cases hj) (by simp) (fun x hx => by cases hx)).mono ?_
    rintro e w5 ⟨rfl, b5⟩
    exact ⟨_, rfl, CondP.yes rfl ⟨rfl, b5⟩⟩
   refine hdel.mono ?_
   rintro e w5 ⟨rfl, b5⟩
   have hb45 := hb3.trans ((b4.mono hz3).trans (b5.mono (Nat.le_trans hz3 b4.size)))
   exact ⟨none, 0, 0, rfl, sl0, [], rfl, own_none _ _ _ _ encInt, .nil, fin, hb45⟩
  ·obtain ⟨cur, _, hcz, hcm, _⟩ := hrow
   have hrow : RowB w4 b cap zs := by
    obtain ⟨_, hc⟩ := RowB.of_own ho4
    rcases hc with e | ⟨b', cap', e, _, h⟩
    ·cases e
    ·cases e
     exact h
   have hzl : zs.length ≤ 1000000000 := by
    have hnd : zs.Nodup := hp4.imp fun h e => by omega
    have := few_of (N := N) hnd (fun x hx => by
     obtain ⟨h1, u, _, _, rfl⟩ := (hz4 x).1 hx
     rcases hI.range u with h | h
     ·exact absurd h h1
     ·exact h)
    have := hI.few
    omega
   refine (deleteI_spec (fun q => Below w3.heap.size w3 q) b cap zs hzl _ (fun x => x == idf s) (fun q q' hq _ ho => hq.trans (ho.below hB)) (fun x hx q hq _ => (clo x q hq).mono ?_) w4 b4 hrow).mono ?_
   ·rintro e q' ⟨rfl, hw⟩
    subst hw
    exact ⟨rfl, hq, rfl⟩
   rintro e w5 ⟨rfl, b5, hr5⟩
   exact ⟨_, _, _, rfl, ⟨some ⟨b, 0, none⟩, (zs.filter (fun x => !(x == idf s))).length, cap⟩, _, rfl, hr5.own (by omega), hp4.filter _, fin, hb3.trans (b5.mono hz3)⟩
 ·rw [if_neg hin] at h3 ⊢
  refine CondP.yes rfl ⟨sl0, [], rfl, own_none _ _ _ _ encInt, .nil, fun x => ⟨fun h => (by cases h), ?_⟩, hb3⟩
  rintro ⟨_, u, hu, hp, _⟩
  exact absurd (hT.pre hu hp) hin
theorem encode_canon {V : Voc} (h : V.Ok) {Z : List Int} (hZ : V.Items Z) : V.Canon (V.encode Z) := by
 unfold Voc.Canon
 rw [(Voc.encode_items h hZ).1]
theorem canon_last {V : Voc} (h : V.Ok) {l : List Int} (hl : ∀ x ∈ l, V.Has x) (hc : V.Canon l) {k : Int} (hk : V.Has k) : V.Canon (l ++ [k]) ↔ V.Canon (l.drop (l.length - 1) ++ [k]) := by
 rcases List.eq_nil_or_concat l with rfl | ⟨init, x, rfl⟩
 ·rfl
 ·rw [List.concat_eq_append] at hl hc ⊢
  have e : (init ++ [x]).drop ((init ++ [x]).length - 1) = [x] := by simp
  rw [e]
  have hx : V.Canon [x] := (Voc.canon_append h (P := init) (Q := [x]) hl hc).2
  have h1 := Voc.canon_more h hl hc hk
  have h2 := Voc.canon_more h (init := []) (l := x) (t := k) (fun y hy => hl y (by simp at hy; simp [hy])) hx hk
  rw [h1]
  exact h2.symm
def candAt (s : SpecV) (T : List Ent) (Z : List Int) (p : Nat) : List Int :=
 if ∀ y ∈ Z.drop p, 0 ≤ y then ((List.range T.length).map fun (i : Nat) => (i : Int)).filter fun k => decide (toBs (Z.drop p) <+: bytesOf T k ∧ (toBs (Z.drop p)).length < (bytesOf T k).length ∧ (vocOf s T).Canon ((vocOf s T).encode (Z.take p) ++ [k])) else []
theorem candAt_rising (s : SpecV) (T : List Ent) (Z : List Int) (p : Nat) : (candAt s T Z p).Pairwise (· < ·) := by
 unfold candAt
 split
 ·refine List.Pairwise.filter _ ?_
  rw [List.pairwise_map]
  exact List.pairwise_lt_range.imp fun h => by omega
 ·exact .nil
theorem mem_candAt {s : SpecV} {T : List Ent} {Z : List Int} {p : Nat} {k : Int} : k ∈ candAt s T Z p ↔ (∀ y ∈ Z.drop p, 0 ≤ y) ∧ inTab T k ∧ toBs (Z.drop p) <+: bytesOf T k ∧ (toBs (Z.drop p)).length < (bytesOf T k).length ∧ (vocOf s T).Canon ((vocOf s T).encode (Z.take p) ++ [k]) := by
 unfold candAt
 split
 ·rename_i h
  rw [List.mem_filter, decide_eq_true_eq]
  constructor
  ·rintro ⟨hm, h1⟩
   obtain ⟨i, hi, rfl⟩ := List.mem_map.1 hm
   have := List.mem_range.1 hi
   exact ⟨h, ⟨by omega, by omega⟩, h1⟩
  ·rintro ⟨_, hk, h1⟩
   obtain ⟨h2, h3⟩ := hk
   exact ⟨List.mem_map.2 ⟨k.toNat, List.mem_range.2 (by omega), by omega⟩, h1⟩
 ·rename_i h
  constructor
  ·intro hm
   cases hm
  ·rintro ⟨h1, _⟩
   exact absurd h1 h
theorem rising_ext : ∀ {l l' : List Int}, l.Pairwise (· < ·) → l'.Pairwise (· < ·) → (∀ x, x ∈ l ↔ x ∈ l') → l = l'
 | [], [], _, _, _ => rfl
 | [], y :: l', _, _, h => by have := (h y).2 (by simp); cases this
 | x :: l, [], _, _, h => by have := (h x).1 (by simp); cases this
 | x :: l, y :: l', h1, h2, h => by
  rw [List.pairwise_cons] at h1 h2
  have e : x = y := by
   rcases List.mem_cons.1 ((h x).1 (by simp)) with e | hx
   ·exact e
   ·rcases List.mem_cons.1 ((h y).2 (by simp)) with e | hy
    ·exact e.symm
    ·have := h1.1 y hy
     have := h2.1 x hx
     omega
  subst e
  congr 1
  refine rising_ext h1.2 h2.2 fun z => ⟨fun hz => ?_, fun hz => ?_⟩
  ·rcases List.mem_cons.1 ((h z).1 (List.mem_cons_of_mem _ hz)) with e | hz'
   ·have := h1.1 z hz
    omega
   ·exact hz'
  ·rcases List.mem_cons.1 ((h z).2 (List.mem_cons_of_mem _ hz)) with e | hz'
   ·have := h2.1 z hz
    omega
   ·exact hz'
def TailIs (Z : List Int) (n : Nat) : Prop := n ≤ Z.length ∧ (∀ y ∈ Z.drop (Z.length - n), 0 ≤ y) ∧ (n < Z.length → ∃ y, Z[Z.length - 1 - n]? = some y ∧ y < 0)
def readyI (s : SpecV) (Z : List Int) : Int × Int := if 4000 < Z.length then (0, 3) else if idx (fun y => !itemOk s y) Z ≥ 0 then (idx (fun y => !itemOk s y) Z, 2) else (Z.length, 0)
theorem readyI_ok {s : SpecV} {Z : List Int} (h : (readyI s Z).2 = 0) : Z.length ≤ 4000 ∧ (∀ y ∈ Z, itemOk s y = true) ∧ readyI s Z = ((Z.length : Int), 0) := by
 unfold readyI at h ⊢
 split at h
 ·cases h
 ·rename_i h4
  rw [if_neg h4]
  split at h
  ·cases h
  ·rename_i hi
   rw [if_neg hi]
   refine ⟨by omega, fun y hy => ?_, rfl⟩
   unfold idx at hi
   cases hx : Z.findIdx? (fun y => !itemOk s y) with
   | some i => rw [hx] at hi; exact absurd (show ((i : Nat) : Int) ≥ 0 by omega) hi
   | none =>
    have := List.findIdx?_eq_none_iff.1 hx y hy
    simpa using this
theorem encItems_spec (w : World) (v : Nat) (c : Array Value) (tp bp mp : Nat) (h : VBlk w v c tp bp mp) (s : SpecV) (T : List Ent) (x : SpecW) (hP : VocParts w s T x tp bp mp) (A : Option Addr) (C : Nat) (Z : List Int) (hr : Rw encInt 1 w A Z) (hC : Z.length ≤ C) :
  CP 106 #[.pointer (some ⟨v, 0, none⟩), .slice A Z.length C] w fun e w' => ∃ l : Sl, e = .returned (.tuple #[l.v, .int .i64 (readyI s Z).1, .int .i64 (readyI s Z).2]) ∧ Below w.heap.size w w' := by
 refine calls_ret (vc106_calls (some ⟨v, 0, none⟩) A Z.length C w (fun u w' => ∃ l : Sl, u = .tuple #[l.v, .int .i64 (readyI s Z).1, .int .i64 (readyI s Z).2] ∧ Below w.heap.size w w') ?_) (by rintro v w' ⟨l, rfl, h⟩; exact ⟨l, rfl, h⟩)
 intro w1 hw1
 have b1 : Below w.heap.size w w1 := by subst hw1; exact below_alloc _ _
 have l1 : w1.heap[w.heap.size]? = some (.cells #[.pointer (some ⟨v, 0, none⟩)] 31 (0, 0)) := by subst hw1; exact alloc_new _ _
 have pc : ∀ {w' : World}, w'.heap[w.heap.size]? = some (.cells #[.pointer (some ⟨v, 0, none⟩)] 31 (0, 0)) → w'.cell? (nb w) = some (.pointer (some ⟨v, 0, none⟩)) := fun h => cell_heap h
 have hfew := hP.few
 refine ⟨_, pc l1, CondP.no rfl (CondP.mk (fun h4 => ?_) fun h4 => ?_)⟩
 ·have h4 := of_decide_eq_true h4
  exact ⟨sl0, by rw [readyI, if_pos (by omega)], b1⟩
 have h4 := of_decide_eq_false h4
 refine (indexI_spec A C Z _ (fun y => !itemOk s y) w1 (hr.on b1) (by omega) ?_).mono ?_
 ·intro y hy w2 b2
  refine callG_of (by kernel_rfl) ?_
  refine calls_ret (vc159_calls y (some (nb w)) w2 (fun u w' => u = .bool (!itemOk s y) ∧ Below w2.heap.size w2 w') ?_) (by rintro v w' ⟨rfl, h⟩; exact ⟨rfl, h⟩)
  have b12 := below_then b1 b2
  refine NilC.mk _ rfl ⟨_, pc (held_on b2 l1), ?_⟩
  refine (encRight_spec w2 v c tp bp mp (h.on b12) s (hP.on b12).marks (by omega) y).mono ?_
  rintro e w3 ⟨rfl, hw⟩
  subst hw
  exact ⟨_, rfl, rfl, Below.refl _ _⟩
 ·rintro e w2 ⟨rfl, b2⟩
  have b12 := below_then b1 b2
  refine ⟨_, rfl, CondP.mk (fun hi => ?_) fun hi => ?_⟩
  ·have hi := of_decide_eq_true hi
   exact ⟨sl0, by rw [readyI, if_neg (by omega), if_pos hi], b12⟩
  ·have hi := of_decide_eq_false hi
   have hrd : readyI s Z = ((Z.length : Int), 0) := by rw [readyI, if_neg (by omega), if_neg hi]
   refine ⟨_, pc (held_on b2 l1), ?_⟩
   refine (tokens_spec w2 v c tp bp mp (h.on b12) s T x (hP.on b12) A C Z (hr.on b12) hC (by omega) (readyI_ok (by rw [hrd])).2.1).mono ?_
   rintro e w3 ⟨l, rfl, hln, ho, b3⟩
   exact ⟨_, _, _, rfl, l, by rw [hrd], below_then b12 b3⟩
theorem healTail_spec (w : World) (A : Option Addr) (C : Nat) (Z : List Int) (hr : Rw encInt 1 w A Z) (hl : Z.length ≤ 1000000000) :
  CP 47 #[.slice A Z.length C] w fun e w' => ∃ n : Nat, e = .returned (.int .i64 (n : Int)) ∧ TailIs Z n ∧ w' = w := by
 refine calls_ret (vc47_calls A Z.length C w (fun u w' => ∃ n : Nat, u = .int .i64 (n : Int) ∧ TailIs Z n ∧ w' = w) ?_) (by rintro v w' ⟨n, rfl, h⟩; exact ⟨n, rfl, h⟩)
 intro I hI
 have key := climb2 (α := Unit) Z.length (fun i _ => ∀ y ∈ Z.drop (Z.length - i), 0 ≤ y) (fun i _ => I [.int .i64 (i : Int)] w) () (by rw [Nat.sub_zero, List.drop_length]; intro y hy; cases hy) ?_ ?_
 ·exact key
 ·rintro i hi ih ⟨⟩ hin
  have hj : Z.length - 1 - i < Z.length := by omega
  obtain ⟨p, hp, c0⟩ := cell_rw hr hj rfl
  refine hI _ w (CondP.yes (decide_eq_true (by omega)) (Ar.nat (Z.length - 1) (by omega) (by omega) (Ar.nat (Z.length - 1 - i) (by omega) (by omega) (NilC.mk p hp ⟨by omega, by omega, Z[Z.length - 1 - i], ?_, CondP.mk (fun h0 => ?_) fun h0 => ?_⟩))))
  ·rw [Nat.mul_one] at c0
   rw [show (((Z.length - 1 - i : Nat) : Int)).toNat * 1 = Z.length - 1 - i by omega]
   exact c0
  ·have h0 := of_decide_eq_true h0
   refine Ar.nat (i + 1) rfl (by omega) (ih () ?_)
   intro y hy
   have e : Z.drop (Z.length - (i + 1)) = Z[Z.length - 1 - i] :: Z.drop (Z.length - i) := by
    rw [show Z.length - (i + 1) = Z.length - 1 - i by omega, List.drop_eq_getElem_cons hj, show Z.length - 1 - i + 1 = Z.length - i by omega]
   rw [e] at hy
   rcases List.mem_cons.1 hy with rfl | hy
   ·exact h0
   ·exact hin y hy
  ·have h0 := of_decide_eq_false h0
   exact ⟨i, rfl, ⟨by omega, hin, fun _ => ⟨_, List.getElem?_eq_getElem hj, by omega⟩⟩, rfl⟩
 ·rintro ⟨⟩ hin
  exact hI _ w (CondP.no (decide_eq_false (by omega)) ⟨Z.length, rfl, ⟨Nat.le_refl _, hin, fun h => absurd h (Nat.lt_irrefl _)⟩, rfl⟩)
theorem run_min2 {P : Program} (a b : Int) (ts : Array TypeId) (t : TypeId) (w : World) : (Builtin.min_ ts t #[.int .i64 a, .int .i64 b]).run P w = .ok (.int .i64 (if b < a then b else a)) w := by
 simp [Builtin.min_, Builtin.min2]
theorem tokLongest_spec (w : World) (p : Nat) (es : List Ent) (h : TabIs w p es) : CP 161 #[.pointer (some ⟨p, 0, none⟩)] w fun e w' => ∃ m : Int, e = .returned (.int .i64 m) ∧ m ≤ 64 ∧ (∀ x ∈ es, (x.1.length : Int) ≤ m) ∧ w' = w := by
 refine calls_ret (vc161_calls (some ⟨p, 0, none⟩) w (fun u w' => ∃ m : Int, u = .int .i64 m ∧ m ≤ 64 ∧ (∀ x ∈ es, (x.1.length : Int) ≤ m) ∧ w' = w) ?_) (by rintro v w' ⟨n, rfl, h⟩; exact ⟨n, rfl, h⟩)
 obtain ⟨l, mb, mp, most, h1, h2, h3, h4, h5, h6, h7⟩ := h
 exact CondP.no rfl (NilC.mk _ rfl ⟨_, ptr_add0 _ _ h1 3, most, rfl, h6, h7, rfl⟩)
abbrev tPrompt : TypeId := 175
theorem TrieAt.touch {w w' : World} {n₀ v : Nat} {S : List Bs} {nd mp : Bs → Nat} {idf : Bs → Int} (h : TrieAt w n₀ S nd mp idf) (hv : v < n₀) (t : Touch v w w') : TrieAt w' n₀ S nd mp idf :=
 ⟨h.root, h.nodup, h.closed, h.base, fun u hu => t.held (by have := (h.base u hu).1; omega) (h.node u hu), fun u hu => (h.map u hu).same (t.block _ (h.map u hu).lt (by have := (h.base u hu).2; omega)), h.ndInj, h.mpInj, h.off⟩
structure PrAt (w : World) (pb v r n1 : Nat) (s : SpecV) (T : List Ent) (S : List Bs) (nd mp : Bs → Nat) (A : Option Addr) (C : Nat) (Z : List Int) : Prop where
 blk : w.heap[pb]? = some (.cells #[.pointer (some ⟨r, 0, none⟩), .pointer (some ⟨v, 0, none⟩), .slice A Z.length C] tPrompt (0, 0))
 voc : VocIs w v s T
 ok : TOk T
 vok : (vocOf s T).Ok
 trie : TrieAt w n1 S nd mp (idOf T)
 root : ∃ n, RootAt w r (nd []) n
 mem : ∀ u, u ∈ S ↔ u = [] ∨ ∃ e ∈ T, u <+: e.1
 row : Rw encInt 1 w A Z
 cap : Z.length ≤ C
 len : Z.length ≤ 4000
 items : ∀ y ∈ Z, itemOk s y = true
 far : Z ≠ [] → ∀ p, A = some p → p.block ≠ v
 vn : v < n1
 rn : n1 ≤ r
 pn : n1 ≤ pb
theorem PrAt.on {w w' : World} {pb v r n1 : Nat} {s : SpecV} {T : List Ent} {S : List Bs} {nd mp : Bs → Nat} {A : Option Addr} {C : Nat} {Z : List Int} (h : PrAt w pb v r n1 s T S nd mp A C Z) (hb : Below w.heap.size w w') : PrAt w' pb v r n1 s T S nd mp A C Z := by
 obtain ⟨n, hn⟩ := h.root
 exact ⟨held_on hb h.blk, h.voc.on hb, h.ok, h.vok, h.trie.on hb, ⟨n, held_on hb hn⟩, h.mem, h.row.on hb, h.cap, h.len, h.items, h.far, h.vn, h.rn, h.pn⟩
theorem PrAt.touch {w w' : World} {pb v r n1 : Nat} {s : SpecV} {T : List Ent} {S : List Bs} {nd mp : Bs → Nat} {A : Option Addr} {C : Nat} {Z : List Int} (h : PrAt w pb v r n1 s T S nd mp A C Z) (t : Touch v w w') (hV : VocIs w' v s T) : PrAt w' pb v r n1 s T S nd mp A C Z := by
 obtain ⟨n, hn⟩ := h.root
 have h1 := h.vn
 have h2 := h.rn
 have h3 := h.pn
 exact ⟨t.held (by omega) h.blk, hV, h.ok, h.vok, h.trie.touch h1 t, ⟨n, t.held (by omega) hn⟩, h.mem, h.row.touch t h.far, h.cap, h.len, h.items, h.far, h.vn, h.rn, h.pn⟩
def LeastIs (s : SpecV) (T : List Ent) (Z : List Int) (m : Nat) : Prop := m ≤ Z.length ∧ (∀ p, p < m → candAt s T Z p = []) ∧ ∀ y ∈ Z.drop m, 0 ≤ y
theorem least_is {s : SpecV} {T : List Ent} {Z : List Int} {n : Nat} {L : Int} (h : TailIs Z n) (hL : ∀ x ∈ T, (x.1.length : Int) ≤ L) (h0 : 0 ≤ L) {M : Int} (hM1 : M ≤ n) (hM2 : M = n ∨ M = L) (hM3 : 0 ≤ M) (m : Nat) (hm : (m : Int) = Z.length - M) : LeastIs s T Z m := by
 obtain ⟨h1, h2, h3⟩ := h
 refine ⟨by omega, fun p hp => ?_, fun y hy => h2 y ?_⟩
 ·refine List.eq_nil_iff_forall_not_mem.2 fun k hk => ?_
  obtain ⟨hb, hin, _, hlt, _⟩ := mem_candAt.1 hk
  by_cases hn : p < Z.length - n
  ·obtain ⟨y, hy, hneg⟩ := h3 (by omega)
   have hmem : y ∈ Z.drop p := by
    refine List.mem_of_getElem? (i := Z.length - 1 - n - p) ?_
    rw [List.getElem?_drop, show p + (Z.length - 1 - n - p) = Z.length - 1 - n by omega]
    exact hy
   have := hb y hmem
   omega
  ·have hML : M = L := by
    rcases hM2 with h | h
    ·omega
    ·exact h
   obtain ⟨e, he, hbo⟩ := bytesOf_at hin
   have hle := hL e (List.mem_of_getElem? he)
   rw [hbo] at hlt
   unfold toBs at hlt
   rw [List.length_map, List.length_drop] at hlt
   clear hb hin hbo he h2 h3 hL hM2 hk
   generalize List.length e.1 = el at hle hlt
   omega
 ·have e : Z.drop m = (Z.drop (Z.length - n)).drop (m - (Z.length - n)) := by
   rw [List.drop_drop]
   congr 1
   omega
  rw [e] at hy
  exact List.mem_of_mem_drop hy
section
variable {pb v r n1 : Nat} {s : SpecV} {T : List Ent} {S : List Bs} {nd mp : Bs → Nat} {A : Option Addr} {C : Nat} {Z : List Int}
theorem least_spec24 (w : World) (h : PrAt w pb v r n1 s T S nd mp A C Z) :
  CP 112 #[.pointer (some ⟨pb, 0, none⟩)] w fun e w' => ∃ m : Nat, e = .returned (.int .i64 (m : Int)) ∧ LeastIs s T Z m ∧ Below w.heap.size w w' := by
 refine calls_ret (vc112_calls (some ⟨pb, 0, none⟩) w (fun u w' => ∃ m : Nat, u = .int .i64 (m : Int) ∧ LeastIs s T Z m ∧ Below w.heap.size w w') ?_) (by rintro v w' ⟨n, rfl, h⟩; exact ⟨n, rfl, h⟩)
 intro w1 hw1
 have b1 : Below w.heap.size w w1 := by subst hw1; exact drew_on w
 have h1 := h.on b1
 have hlen := h.len
 refine NilC.mk _ rfl ⟨_, _, _, ptr_add0 _ _ h1.blk 2, NilC.mk _ rfl ⟨_, ptr_add0 _ _ h1.blk 1, ?_⟩⟩
 refine (healTail_spec w1 A C Z h1.row (by omega)).mono ?_
 rintro e w2 ⟨n, rfl, hn, hw⟩
 subst w2
 refine ⟨_, rfl, ⟨ptr_add0 _ _ h1.blk 1, trivial⟩, ?_⟩
 obtain ⟨w0, x, tp, bp, mp', d, l, uses, hR⟩ := h1.voc
 refine (vocTable_spec hR.vblk).mono ?_
 rintro e w3 ⟨rfl, hw⟩
 subst w3
 refine ⟨_, rfl, (tokLongest_spec w1 tp T hR.now.tab).mono ?_⟩
 rintro e w4 ⟨L, rfl, hL64, hL, hw⟩
 subst w4
 have h0 : 0 ≤ L := by
  have hl := h.ok.len
  have := hL _ (List.getElem_mem (show 0 < T.length by omega))
  omega
 have hn1 := hn.1
 obtain ⟨M, hM⟩ : ∃ M : Int, (if L < (n : Int) then L else (n : Int)) = M := ⟨_, rfl⟩
 have hM2 : M ≤ n ∧ (M = n ∨ M = L) ∧ 0 ≤ M := by
  rw [← hM]
  split <;> omega
 refine ⟨_, rfl, M, w1, by rw [← hM]; exact run_min2 _ _ _ _ _, NilC.mk _ rfl ⟨_, _, _, ptr_add0 _ _ h1.blk 2, ?_⟩⟩
 refine Ar.nat (Z.length - M.toNat) (by omega) (by omega) ⟨_, rfl, least_is hn hL h0 hM2.1 hM2.2.1 hM2.2.2 _ (by omega), b1⟩
end
theorem idOf_iff {T : List Ent} (hn : (T.map (·.1)).Nodup) {u : Bs} {x : Int} : (x ≠ -1 ∧ idOf T u = x) ↔ inTab T x ∧ bytesOf T x = u := by
 unfold idOf idx
 constructor
 ·rintro ⟨h1, h2⟩
  cases h : T.findIdx? (fun e : Ent => decide (e.1 = u)) with
  | none => rw [h] at h2; exact absurd h2.symm h1
  | some i =>
   rw [h] at h2
   have h2 : ((i : Nat) : Int) = x := h2
   obtain ⟨hi, hp, _⟩ := List.findIdx?_eq_some_iff_getElem.1 h
   subst h2
   refine ⟨⟨by omega, by omega⟩, ?_⟩
   unfold bytesOf
   rw [show ((i : Nat) : Int).toNat = i by omega, List.getElem?_eq_getElem hi]
   exact of_decide_eq_true hp
 ·rintro ⟨⟨h0, h1⟩, h2⟩
  have hi : x.toNat < T.length := by omega
  unfold bytesOf at h2
  rw [List.getElem?_eq_getElem hi] at h2
  have h2 : (T[x.toNat]).1 = u := h2
  have hx : T.findIdx? (fun e : Ent => decide (e.1 = u)) = some x.toNat := by
   rw [List.findIdx?_eq_some_iff_getElem]
   refine ⟨hi, decide_eq_true h2, fun j hj => ?_⟩
   have hne : ¬ (T[j]).1 = u := fun e => by
    have := (List.getElem?_inj (i := j) (j := x.toNat) (by rw [List.length_map]; omega) hn).1 (by rw [List.getElem?_map, List.getElem?_map, List.getElem?_eq_getElem (show j < T.length by omega), List.getElem?_eq_getElem hi]; simp [e, h2])
    omega
   simp [hne]
  rw [hx]
  exact ⟨by omega, by show ((x.toNat : Nat) : Int) = x; omega⟩
theorem idsOk_of {T : List Ent} (hok : TOk T) {S : List Bs} (hS : ∀ u, u ∈ S ↔ u = [] ∨ ∃ e ∈ T, u <+: e.1) : IdsOk S (idOf T) T.length := by
 have hmost := hok.most
 refine ⟨by omega, fun u => ?_, fun u hu x hx e h1 => ?_, fun u hu => ?_⟩
 ·by_cases h : idOf T u = -1
  ·exact .inl h
  ·obtain ⟨⟨h1, h2⟩, _⟩ := (idOf_iff hok.nodup).1 ⟨h, rfl⟩
   exact .inr ⟨h1, h2⟩
 ·obtain ⟨_, h2⟩ := (idOf_iff hok.nodup).1 ⟨h1, rfl⟩
  obtain ⟨_, h3⟩ := (idOf_iff hok.nodup).1 ⟨h1, e.symm⟩
  rw [← h2, ← h3]
 ·rcases (hS u).1 hu with rfl | ⟨e, he, hp⟩
  ·simp
  ·have := hok.short e he
   have := hp.length_le
   omega
theorem longer_iff {T : List Ent} (hok : TOk T) {S : List Bs} (hS : ∀ u, u ∈ S ↔ u = [] ∨ ∃ e ∈ T, u <+: e.1) (b : Bs) (x : Int) : (x ≠ -1 ∧ ∃ u ∈ S, b <+: u ∧ u ≠ b ∧ idOf T u = x) ↔ inTab T x ∧ b <+: bytesOf T x ∧ b.length < (bytesOf T x).length := by
 constructor
 ·rintro ⟨h1, u, hu, hp, hne, he⟩
  obtain ⟨h2, h3⟩ := (idOf_iff hok.nodup).1 ⟨h1, he⟩
  rw [h3]
  refine ⟨h2, hp, ?_⟩
  have := hp.length_le
  rcases Nat.lt_or_ge b.length u.length with h | h
  ·exact h
  ·exact absurd (hp.eq_of_length (by omega)).symm hne
 ·rintro ⟨h1, h2, h3⟩
  obtain ⟨h4, h5⟩ := (idOf_iff hok.nodup).2 ⟨h1, rfl⟩
  obtain ⟨e, he, hb⟩ := bytesOf_at h1
  refine ⟨h4, _, (hS _).2 (.inr ⟨e, List.mem_of_getElem? he, by rw [hb]; exact List.prefix_rfl⟩), h2, fun e => ?_, h5⟩
  rw [e] at h3
  omega
section
variable {pb v r n1 : Nat} {s : SpecV} {T : List Ent} {S : List Bs} {nd mp : Bs → Nat} {A : Option Addr} {C : Nat} {Z : List Int}
theorem bytes24_spec (w : World) (h : PrAt w pb v r n1 s T S nd mp A C Z) (p : Nat) (hp : p ≤ Z.length) (hb : ∀ y ∈ Z.drop p, 0 ≤ y) :
  CP 114 #[.pointer (some ⟨pb, 0, none⟩), .int .i64 (p : Int)] w fun e w' => e = .returned (.string (str (toBs (Z.drop p)))) ∧ Below w.heap.size w w' := by
 refine calls_ret (vc114_calls (some ⟨pb, 0, none⟩) (p : Int) w (fun u w' => u = .string (str (toBs (Z.drop p))) ∧ Below w.heap.size w w') ?_) (by rintro v w' ⟨rfl, h⟩; exact ⟨rfl, h⟩)
 have hC := h.cap
 have hlen := h.len
 have hr := h.row.cut p C hC
 obtain ⟨items, hit⟩ : ∃ items, items = Z.drop p := ⟨_, rfl⟩
 have hil : items.length = Z.length - p := by rw [hit, List.length_drop]
 have hok : ∀ y ∈ items, 0 ≤ y ∧ y < 256 := by
  intro y hy
  rw [hit] at hy
  have := h.items y (List.mem_of_mem_drop hy)
  unfold itemOk at this
  have := of_decide_eq_true this
  have := hb y hy
  omega
 rw [← hit] at hr ⊢
 refine NilC.mk _ rfl ⟨_, _, _, ptr_add0 _ _ h.blk 2, by omega, by omega, trivial, trivial, trivial, ?_⟩
 intro I hI
 have key := climb2 (α := Sl × World) items.length (fun i y => y.2.ownsRow w.heap.size tU8 1 y.1.v y.1.n ((toBs (items.take i)).flatMap encU8) ∧ y.1.n = i ∧ Below w.heap.size w y.2) (fun i y => I [.int .i64 (i : Int), y.1.v] y.2) (sl0, w) ⟨own_none _ _ _ _ encU8, rfl, Below.refl _ _⟩ ?_ ?_
 ·exact key
 ·rintro i hi ih ⟨f, q⟩ ⟨hown, hfn, hB⟩
  change q.ownsRow w.heap.size tU8 1 f.v f.n _ at hown
  change f.n = i at hfn
  change Below w.heap.size w q at hB
  obtain ⟨a, ha, c0⟩ := cell_rw (hr.on hB) hi rfl
  refine hI _ f.a f.n f.c q (CondP.yes (decide_eq_true (by omega)) (NilC.mk a ha ⟨by omega, by omega, _, c0, ?_⟩))
  intro q2 hq2
  rw [one_u8 (hok _ (List.getElem_mem hi))] at hq2
  obtain ⟨f', q3, e1, e2, e3, e4, _⟩ := elU8.push hown (UInt8.ofNat items[i].toNat) hq2 rfl hB.size (by omega) (by decide)
  refine ⟨f'.a, f'.n, f'.c, q3, e2, Ar.nat (i + 1) rfl (by omega) (ih (f', q3) ⟨?_, by show f'.n = i + 1; omega, e4 _ hB⟩)⟩
  have e : toBs (items.take (i + 1)) = toBs (items.take i) ++ [UInt8.ofNat items[i].toNat] := by
   unfold toBs
   rw [List.take_add_one, List.getElem?_eq_getElem hi, List.map_append]
   rfl
  rw [e]
  exact e3
 ·rintro ⟨f, q⟩ ⟨hown, hfn, hB⟩
  change q.ownsRow w.heap.size tU8 1 f.v f.n _ at hown
  rw [List.take_length] at hown
  exact hI _ f.a f.n f.c q (CondP.no (decide_eq_false (by omega)) ⟨_, q, run_str_own (P := Tryz.prog) undBytes undU8 undStr (by rw [← u8_cells]; exact hown), rfl, hB⟩)
theorem firstIs_canon {V : Voc} (hV : V.Ok) {ids : List Int} (hh : ∀ t ∈ ids, V.Has t) {o : Option Nat} (h : FirstIs V ids o) : o.isSome = !decide (V.Canon ids) := by
 cases o with
 | none =>
  have h : V.Canon ids := h
  rw [decide_eq_true h]
  rfl
 | some k =>
  obtain ⟨h1, h2, h3⟩ := h
  have : ¬ V.Canon ids := fun hc => h3 (by
   have e : ids = ids.take (k + 1) ++ ids.drop (k + 1) := (List.take_append_drop _ _).symm
   rw [e] at hc
   exact (Voc.canon_append hV (fun t ht => hh t (by rw [← e] at ht; exact ht)) hc).1)
  rw [decide_eq_false this]
  rfl
theorem atBad_spec (w : World) (h : PrAt w pb v r n1 s T S nd mp A C Z) (c0 c1 : Nat) (hc0 : w.heap[c0]? = some (.cells #[.pointer (some ⟨pb, 0, none⟩)] 130 (0, 0))) (lA : Option Addr) (lC : Nat) (last : List Int) (hc1 : w.heap[c1]? = some (.cells #[.slice lA last.length lC] tInts (0, 0))) (hrow : Rw encInt 1 w lA last) (hll : last.length ≤ 1) (hlast : ∀ t ∈ last, (vocOf s T).Has t) (id : Int) (hid : (vocOf s T).Has id) :
  CP 115 #[.int .i64 id, .pointer (some ⟨c0, 0, none⟩), .pointer (some ⟨c1, 0, none⟩)] w fun e w' => e = .returned (.bool (!decide ((vocOf s T).Canon (last ++ [id])))) ∧ VocIs w' v s T ∧ Touch v w w' := by
 refine calls_ret (vc115_calls id (some ⟨c0, 0, none⟩) (some ⟨c1, 0, none⟩) w (fun u w' => u = .bool (!decide ((vocOf s T).Canon (last ++ [id]))) ∧ VocIs w' v s T ∧ Touch v w w') ?_) (by rintro v w' ⟨rfl, h⟩; exact ⟨rfl, h⟩)
 have hvl := h.voc.lt
 have hall : ∀ t ∈ last ++ [id], (vocOf s T).Has t := by
  intro t ht
  rcases List.mem_append.1 ht with ht | ht
  ·exact hlast t ht
  ·rw [List.mem_singleton.1 ht]
   exact hid
 have fin : ∀ (q : World) (a : Option Addr) (n c : Nat), Below w.heap.size w q → q.ownsRow w.heap.size tInt 1 (.slice a n c) n ((last ++ [id]).flatMap encInt) → CP 116 #[.pointer (some ⟨v, 0, none⟩), .slice a n c] q fun e w5 => ∃ (r0 : Int) (r1 : Bool), e = .returned (.tuple #[.int .i64 r0, .bool r1]) ∧ (Value.bool r1 = .bool (!decide ((vocOf s T).Canon (last ++ [id]))) ∧ VocIs w5 v s T ∧ Touch v w w5) := by
  intro q a n c hb ho
  obtain ⟨hr1, hn⟩ := Rw.of_own (s := ⟨a, n, c⟩) ho (fun _ => rfl) (by decide)
  have hn : n = (last ++ [id]).length := hn
  rw [hn]
  refine (first_spec q v s T (h.voc.on hb) a c (last ++ [id]) hr1 ?_ (by rw [List.length_append]; simp; omega) hall).mono ?_
  ·intro _ p hp
   rcases ho.2 with ⟨e0, _⟩ | ⟨g, cap, cur, e0, hB, _⟩
   ·simp only [Value.slice.injEq] at e0
    rw [e0.1] at hp
    cases hp
   ·simp only [Value.slice.injEq] at e0
    rw [e0.1] at hp
    cases hp
    show g ≠ v
    omega
  ·rintro e w5 ⟨o, rfl, ho', hV5, t5⟩
   have := firstIs_canon h.vok hall ho'
   have ht := (Touch.of_below hb).trans t5
   cases o with
   | none => exact ⟨0, false, rfl, by rw [← this]; rfl, hV5, ht⟩
   | some k => exact ⟨(k : Int), true, rfl, by rw [← this]; rfl, hV5, ht⟩
 intro w1 hw1
 have b1 : Below w.heap.size w w1 := by subst hw1; exact drew_on w
 have h1 := h.on b1
 refine NilC.mk _ rfl ⟨_, cell_heap (held_on b1 hc0), NilC.mk _ rfl ⟨_, ptr_add0 _ _ h1.blk 1, NilC.mk _ rfl ⟨_, _, _, cell_heap (held_on b1 hc1), ⟨?_, ?_⟩⟩⟩⟩
 ·refine (cloneI_spec w1 lA lC last (hrow.on b1) (by omega)).mono ?_
  rintro e w2 ⟨l, rfl, hln, ho2, b2⟩
  have hb2 := below_then b1 b2
  have h2 := h.on hb2
  refine ⟨_, _, _, rfl, ⟨ptr_add0 _ _ h2.blk 1, trivial⟩, ⟨cell_heap (held_on hb2 hc0), trivial⟩, ?_⟩
  intro w3 hw3
  have b3 : Below w2.heap.size w2 w3 := by subst hw3; exact below_alloc _ _
  have hb3 := below_then hb2 b3
  have h3 := h.on hb3
  have hz1 := b1.size
  have hz2 := hb2.size
  obtain ⟨f, w4, g1, g2, g3, g4, g5⟩ := elInt.push (own_base ho2 hz1) id hw3 rfl hz2 (by omega) (by decide)
  have hb4 := g4 w hb2
  have h4 := h.on hb4
  exact ⟨⟨ptr_add0 _ _ h3.blk 1, trivial⟩, ⟨cell_heap (held_on hb3 hc0), trivial⟩, f.a, f.n, f.c, w4, g2, ⟨ptr_add0 _ _ h4.blk 1, trivial⟩, ⟨cell_heap (held_on hb4 hc0), trivial⟩, fin w4 f.a f.n f.c hb4 g3⟩
 ·intro w6 hw6
  have b6 : Below w1.heap.size w1 w6 := by subst hw6; exact below_alloc _ _
  have hb6 := below_then b1 b6
  have h6 := h.on hb6
  have x6 : w6.heap[w1.heap.size]? = some (.cells #[.int .i64 id] tInt (0, 0)) := by subst hw6; exact alloc_new _ _
  refine ⟨⟨cell_heap (held_on hb6 hc1), trivial⟩, ⟨ptr_add0 _ _ h6.blk 1, trivial⟩, ⟨cell_heap (held_on hb6 hc0), trivial⟩, ?_⟩
  refine (cloneI_spec w6 lA lC last (hrow.on hb6) (by omega)).mono ?_
  rintro e w7 ⟨l, rfl, hln, ho7, b7⟩
  have hb7 := below_then hb6 b7
  have h7 := h.on hb7
  have hz6 := hb6.size
  obtain ⟨f, w8, g1, g2, g3, g4, g5⟩ := elInt.pushAt (own_base ho7 hz6) id (held_on b7 x6) hb7.size (by omega) (by decide)
  have hb8 := g4 w hb7
  have h8 := h.on hb8
  exact ⟨_, _, _, rfl, ⟨ptr_add0 _ _ h7.blk 1, trivial⟩, ⟨cell_heap (held_on hb7 hc0), trivial⟩, f.a, f.n, f.c, w8, g2, ⟨ptr_add0 _ _ h8.blk 1, trivial⟩, ⟨cell_heap (held_on hb8 hc0), trivial⟩, fin w8 f.a f.n f.c hb8 g3⟩
end
theorem VocIs.row {w w' : World} {v b : Nat} {s : SpecV} {T : List Ent} (h : VocIs w v s T) (hc : IntsB w b) (hvb : v < b) (o : OnlyB b w w') : VocIs w' v s T := by
 obtain ⟨w0, x, tp, bp, mp, d, l, uses, hR⟩ := h
 obtain ⟨c, hc⟩ := hc
 have hlt := hR.lt
 refine ⟨w0, x, tp, bp, mp, d, l, uses, hR.parts, hR.below.trans (o.below (by omega)), hlt, by rw [o.ne _ (by omega)]; exact hR.blk, ?_⟩
 rcases hR.once with h | ⟨h1, h2, h3⟩
 ·exact .inl h
 ·exact .inr ⟨h1, h2, own_same h3 fun k hk => o.ne k fun e => row_ne_blk h3 hc (by decide) (by rw [hk, e])⟩
section
variable {pb v r n1 : Nat} {s : SpecV} {T : List Ent} {S : List Bs} {nd mp : Bs → Nat} {A : Option Addr} {C : Nat} {Z : List Int}
set_option maxHeartbeats 1000000 in
theorem at24_spec (w : World) (h : PrAt w pb v r n1 s T S nd mp A C Z) (p : Nat) (hp : p ≤ Z.length) :
  CP 70 #[.pointer (some ⟨pb, 0, none⟩), .int .i64 (p : Int)] w fun e w' => ∃ l : Sl, e = .returned l.v ∧ w'.ownsRow w.heap.size tInt 1 l.v l.n ((candAt s T Z p).flatMap encInt) ∧ VocIs w' v s T ∧ Touch v w w' := by
 refine calls_ret (vc70_calls (some ⟨pb, 0, none⟩) (p : Int) w (fun u w' => ∃ l : Sl, u = l.v ∧ w'.ownsRow w.heap.size tInt 1 l.v l.n ((candAt s T Z p).flatMap encInt) ∧ VocIs w' v s T ∧ Touch v w w') ?_) (by rintro v w' ⟨l, rfl, h⟩; exact ⟨l, rfl, h⟩)
 have hC := h.cap
 have hlen := h.len
 have hvl := h.voc.lt
 have hitems : (vocOf s T).Items (Z.take p) := by
  intro y hy
  have := h.items y (List.mem_of_mem_take hy)
  unfold itemOk at this
  have := of_decide_eq_true this
  show -((s.specials.map (·.1)).length : Int) ≤ y ∧ y < 256
  rw [List.length_map]
  omega
 intro w1 hw1
 have b1 : Below w.heap.size w w1 := by subst hw1; exact below_alloc _ _
 have bx : w1.heap[w.heap.size]? = some (.cells #[.pointer (some ⟨pb, 0, none⟩)] 130 (0, 0)) := by subst hw1; exact alloc_new _ _
 refine ⟨_, cell_heap bx, (least_spec24 w1 (h.on b1)).mono ?_⟩
 rintro e w2 ⟨m, rfl, hm, b2⟩
 have hb2 := below_then b1 b2
 refine ⟨_, rfl, CondP.mk (fun hlt => ?_) fun hge => ?_⟩
 ·have hlt := of_decide_eq_true hlt
  have e0 : candAt s T Z p = [] := hm.2.1 p (by omega)
  exact ⟨sl0, rfl, by rw [e0]; exact own_none _ _ _ _ encInt, (h.on hb2).voc, Touch.of_below hb2⟩
 have hge := of_decide_eq_false hge
 have hbyt : ∀ y ∈ Z.drop p, 0 ≤ y := by
  intro y hy
  refine hm.2.2 y ?_
  have e : Z.drop p = (Z.drop m).drop (p - m) := by rw [List.drop_drop]; congr 1; omega
  rw [e] at hy
  exact List.mem_of_mem_drop hy
 intro w3 hw3
 have b3 : Below w2.heap.size w2 w3 := by subst hw3; exact drew_on w2
 have hb3 := below_then hb2 b3
 have h3 := h.on hb3
 have bx3 := held_on b3 (held_on b2 bx)
 refine ⟨_, cell_heap bx3, NilC.mk _ rfl ⟨_, ptr_add0 _ _ h3.blk 0, _, cell_heap bx3, ?_⟩⟩
 refine (bytes24_spec w3 h3 p hp hbyt).mono ?_
 rintro e w4 ⟨rfl, b4⟩
 have hb4 := below_then hb3 b4
 have h4 := h.on hb4
 have bx4 := held_on b4 bx3
 refine ⟨_, rfl, ⟨ptr_add0 _ _ h4.blk 0, trivial⟩, ⟨cell_heap bx4, trivial⟩, ?_⟩
 obtain ⟨rn, hrn⟩ := h4.root
 refine (trieLonger_spec h4.trie hrn (idsOk_of h.ok h.mem) (toBs (Z.drop p)) (by unfold toBs; rw [List.length_map, List.length_drop]; omega)).mono ?_
 rintro e w5 ⟨l, zs, rfl, ho5, hp5, hz5, b5⟩
 have hz5 : ∀ x, x ∈ zs ↔ _ := fun x => (hz5 x).trans (longer_iff h.ok h.mem _ x)
 have hb5 := below_then hb4 b5
 have h5 := h.on hb5
 have bx5 := held_on b5 bx4
 have hln : l.n = zs.length := (Rw.of_own ho5 (fun _ => rfl) (by decide)).2
 refine ⟨l.a, l.n, l.c, rfl, CondP.mk (fun h0 => ?_) fun h0 => ?_⟩
 ·have h0 : ((l.n : Nat) : Int) = 0 := by simpa using h0
  have hnil : zs = [] := List.eq_nil_of_length_eq_zero (by omega)
  have e0 : candAt s T Z p = [] := by
   refine List.eq_nil_iff_forall_not_mem.2 fun k hk => ?_
   obtain ⟨_, h1, h2, h3, _⟩ := mem_candAt.1 hk
   have := (hz5 k).2 ⟨h1, h2, h3⟩
   rw [hnil] at this
   cases this
  exact ⟨sl0, rfl, by rw [e0]; exact own_none _ _ _ _ encInt, h5.voc, Touch.of_below hb5⟩
 have h0 : ¬ ((l.n : Nat) : Int) = 0 := by simpa using h0
 intro w6 hw6
 have b6 : Below w5.heap.size w5 w6 := by subst hw6; exact drew_on w5
 have hb6 := below_then hb5 b6
 have h6 := h.on hb6
 have bx6 := held_on b6 bx5
 refine ⟨_, cell_heap bx6, NilC.mk _ rfl ⟨_, ptr_add0 _ _ h6.blk 1, _, cell_heap bx6, NilC.mk _ rfl ⟨_, _, _, ptr_add0 _ _ h6.blk 2, by omega, by omega, by omega, trivial, trivial, ?_⟩⟩⟩
 have hcut := (h6.row.cut 0 C hC).take p
 rw [List.drop_zero] at hcut
 have hV6 := h6.voc
 obtain ⟨w0, x, tp, bp, mp', d, l0, uses, hR⟩ := hV6
 have hmd := encMade_spec w6 v _ tp bp mp' hR.vblk s T x hR.now (slBase A 0 C 1) (C - 0) (Z.take p) hcut (by rw [List.length_take]; omega) (by rw [List.length_take]; omega) (fun y hy => h.items y (List.mem_of_mem_take hy))
 rw [List.length_take, Nat.min_eq_left hp] at hmd
 refine Calls.mono (show Calls _ _ #[_, .slice (slBase A 0 C 1) p (C - 0)] w6 _ from hmd) ?_
 rintro e w7 ⟨md, rfl, hmn, hmo, b7⟩
 obtain ⟨made, hmade⟩ : ∃ made, made = (vocOf s T).encode (Z.take p) := ⟨_, rfl⟩
 rw [← hmade] at hmn hmo
 have hmc := own_le hmo
 have hmh : ∀ t ∈ made, (vocOf s T).Has t := by
  rw [hmade]
  exact (Voc.encode_items h.vok hitems).2
 have hmcan : (vocOf s T).Canon made := by
  rw [hmade]
  exact encode_canon h.vok hitems
 have hmlen : made.length ≤ 4000 := by
  rw [hmade]
  have := encode_short (vocOf s T) (Z.take p)
  rw [List.length_take] at this
  omega
 refine ⟨md.a, md.n, md.c, rfl, Ar.ok64 (by omega) (by omega) ?_⟩
 obtain ⟨K, hK⟩ : ∃ K, K = made.length - 1 := ⟨_, rfl⟩
 have hKv : (if (0 : Int) > (md.n : Int) - 1 then 0 else (md.n : Int) - 1) = (K : Int) := by
  split <;> omega
 refine ⟨(K : Int), w7, by rw [← hKv]; exact run_max2 _ _ _ _ _, by omega, by omega, trivial, trivial, trivial, ?_⟩
 intro w9 hw9
 have hb7 := below_then hb6 b7
 have b9 : Below w7.heap.size w7 w9 := by subst hw9; exact below_alloc _ _
 have x9 : w9.heap[w7.heap.size]? = some (.cells #[.slice none 0 0] tInts (0, 0)) := by subst hw9; exact alloc_new _ _
 refine ⟨rfl, ⟨_, cell_heap x9⟩, frozen_heap x9, ?_⟩
 intro w10 hw10
 have hlast : (made.drop K).length = md.n - K := by rw [List.length_drop]; omega
 obtain ⟨LA, hLA⟩ : ∃ LA, LA = slBase md.a K md.c 1 := ⟨_, rfl⟩
 have x10 : w10.heap[w7.heap.size]? = some (.cells #[.slice LA (made.drop K).length (md.c - K)] tInts (0, 0)) := by
  rw [hlast, hLA]
  subst hw10
  exact setCell_heap x9 _
 have o10 : OnlyB w7.heap.size w9 w10 := by subst hw10; exact OnlyB.set ..
 have hz7 := hb7.size
 have hb9 := below_then hb7 b9
 have b79 : Below w7.heap.size w7 w10 := b9.trans (o10.below (Nat.le_refl _))
 have hb10 : Below w.heap.size w w10 := below_then hb7 b79
 have hlrow : Rw encInt 1 w10 LA (made.drop K) := by
  rw [hLA]
  exact ((Rw.of_own hmo (fun _ => rfl) (by decide)).1.cut K md.c (by omega)).on b79
 have h10 := h.on hb10
 have bx10 := held_on b79 (held_on b7 bx6)
 have b510 : Below w5.heap.size w5 w10 := below_then (below_then b6 b7) b79
 have hll : (made.drop K).length ≤ 1 := by rw [List.length_drop]; omega
 obtain ⟨_, hcs⟩ := RowB.of_own ho5
 rcases hcs with rfl | ⟨b, cap, rfl, hB, hrow5⟩
 ·exact absurd rfl h0
 have hz4 := hb4.size
 have hbw : w.heap.size ≤ b := by omega
 have hb5l : b < w5.heap.size := by
  obtain ⟨c, hc⟩ := hrow5.ints
  exact (Array.getElem?_eq_some_iff.1 hc).1
 have hrow10 : RowB w10 b cap zs := hrow5.same (b510.block b hb5l)
 have hz10 := b510.size
 have hzl : zs.length ≤ 1000000000 := by
  have hmost := h.ok.most
  have := few_of (N := T.length) (hp5.imp fun h e => by omega) (fun x hx => ((hz5 x).1 hx).1)
  omega
 have hx7 : w7.heap.size < w10.heap.size := (Array.getElem?_eq_some_iff.1 x10).1
 have hx0 : w.heap.size < w10.heap.size := (Array.getElem?_eq_some_iff.1 bx10).1
 have hz57 : w5.heap.size ≤ w7.heap.size := (below_then b6 b7).size
 have hbx : w.heap.size < w4.heap.size := (Array.getElem?_eq_some_iff.1 bx4).1
 have key := deleteI_spec (fun q => VocIs q v s T ∧ q.os = w10.os ∧ q.tape = w10.tape ∧ q.output = w10.output ∧ w10.heap.size ≤ q.heap.size ∧ ∀ j, j < w10.heap.size → j ≠ v → j ≠ b → q.heap[j]? = w10.heap[j]?) b cap zs hzl
  (.func (.func 115) #[] #[.pointer (some (nb w)), .pointer (some (nb w7))]) (fun x => !decide ((vocOf s T).Canon (made.drop K ++ [x])))
  (fun q q' ⟨q1, q2, q3, q4, q5, q6⟩ hi o => ⟨q1.row hi (by omega) o, o.os.trans q2, o.tape.trans q3, o.output.trans q4, by rw [o.size]; exact q5, fun j hj h1 h2 => (o.ne j h2).trans (q6 j hj h1 h2)⟩)
  (fun x hx q ⟨q1, q2, q3, q4, q5, q6⟩ hi => by
   have tq : Touch v w q := ⟨q2.trans hb10.os, q3.trans hb10.tape, q4.trans hb10.output, Nat.le_trans hb10.size q5, fun k hk hne => (q6 k (by omega) hne (by omega)).trans (hb10.block k hk)⟩
   have hq := h.touch tq q1
   have c0 : q.heap[w.heap.size]? = some (.cells #[.pointer (some ⟨pb, 0, none⟩)] 130 (0, 0)) := by
    rw [q6 _ hx0 (by omega) (by omega)]
    exact bx10
   have c1 : q.heap[w7.heap.size]? = some (.cells #[.slice LA (made.drop K).length (md.c - K)] tInts (0, 0)) := by
    rw [q6 _ hx7 (by omega) (by omega)]
    exact x10
   have hlq : Rw encInt 1 q LA (made.drop K) := by
    have hmo10 := own_on hmo b79
    rcases hmo.2 with ⟨e0, h00⟩ | ⟨g, cap', cur, e0, hgB, hgb, hg1, hg2, hg3, hg4⟩
    ·have : made.drop K = [] := List.eq_nil_of_length_eq_zero (by omega)
     rw [this]
     intro j y hj
     cases hj
    ·have e0 : Value.slice md.a md.n md.c = .slice (some ⟨g, 0, none⟩) md.n cap' := e0
     simp only [Value.slice.injEq, true_and] at e0
     have hgl := (Array.getElem?_eq_some_iff.1 hgb).1
     have hz6 := b6.size
     have hgq : q.heap[g]? = w10.heap[g]? := q6 g (by omega) (by omega) (by omega)
     have hown : q.ownsRow w6.heap.size tInt 1 md.v md.n (made.flatMap encInt) := own_same hmo10 fun k hk => by
      have : (Value.slice md.a md.n md.c).ownBlock = some k := hk
      rw [e0.1] at this
      obtain rfl : g = k := by simpa [Value.ownBlock] using this
      exact hgq
     rw [hLA]
     exact (Rw.of_own hown (fun _ => rfl) (by decide)).1.cut K md.c (by omega)
   have hin := ((hz5 x).1 hx).1
   refine callG_of (by kernel_rfl) ((atBad_spec q hq w.heap.size w7.heap.size c0 LA (md.c - K) (made.drop K) c1 hlq hll (fun t ht => hmh t (List.mem_of_mem_drop ht)) x (.inl ?_)).mono ?_)
   ·exact (tok_iff h.ok _).1 hin
   ·rintro e q' ⟨rfl, hV', t'⟩
    exact ⟨rfl, ⟨hV', t'.os.trans q2, t'.tape.trans q3, t'.output.trans q4, Nat.le_trans q5 t'.size, fun j hj h1 h2 => (t'.block j (by omega) h1).trans (q6 j hj h1 h2)⟩, t'.block b (by omega) (by omega)⟩)
  w10 ⟨h10.voc, rfl, rfl, rfl, Nat.le_refl _, fun _ _ _ _ => rfl⟩ hrow10
 refine key.mono ?_
 rintro e w11 ⟨rfl, ⟨q1, q2, q3, q4, q5, q6⟩, hr11⟩
 have ecand : zs.filter (fun x => !(!decide ((vocOf s T).Canon (made.drop K ++ [x])))) = candAt s T Z p := by
  refine rising_ext (hp5.filter _) (candAt_rising s T Z p) fun x => ?_
  rw [List.mem_filter, mem_candAt, hz5]
  constructor
  ·rintro ⟨⟨g1, g2, g3⟩, g4⟩
   have g4 : (vocOf s T).Canon (made.drop K ++ [x]) := by simpa using g4
   refine ⟨hbyt, g1, g2, g3, ?_⟩
   rw [← hmade, canon_last h.vok hmh hmcan (.inl ((tok_iff h.ok _).1 g1)), ← hK]
   exact g4
  ·rintro ⟨_, g1, g2, g3, g4⟩
   rw [← hmade, canon_last h.vok hmh hmcan (.inl ((tok_iff h.ok _).1 g1)), ← hK] at g4
   exact ⟨⟨g1, g2, g3⟩, by simpa using g4⟩
 rw [ecand] at hr11
 refine ⟨_, _, _, rfl, ⟨some ⟨b, 0, none⟩, (candAt s T Z p).length, cap⟩, by rw [ecand], hr11.own (by omega), q1, ?_⟩
 exact ⟨q2.trans hb10.os, q3.trans hb10.tape, q4.trans hb10.output, Nat.le_trans hb10.size q5, fun k hk hne => (q6 k (by omega) hne (by omega)).trans (hb10.block k hk)⟩
end
abbrev tHeals : TypeId := 69
abbrev tHealT : TypeId := 74
theorem elHeal : ElT encPair 2 tHeals tHealT 16 := ⟨fun _ => rfl, by decide, fun x u hu => by
 simp only [encPair, List.mem_cons, List.not_mem_nil, or_false] at hu
 rcases hu with rfl | rfl <;> rfl, by kernel_rfl, .agg #[.int .i64 0, .int .i64 0], by kernel_rfl, rfl⟩
theorem VocIs.keep {w w' : World} {v B : Nat} {s : SpecV} {T : List Ent} (h : VocIs w v s T) (hB : v < B) (hb : Below B w w') (hk : ∀ (g : Nat) (c : Array Value) (f : Nat × Nat), w.heap[g]? = some (.cells c tBool f) → w'.heap[g]? = w.heap[g]?) : VocIs w' v s T := by
 obtain ⟨w0, x, tp, bp, mp, d, l, uses, hR⟩ := h
 have hlt := hR.lt
 refine ⟨w0, x, tp, bp, mp, d, l, uses, hR.parts, hR.below.trans (hb.mono (by omega)), hlt, by rw [hb.block _ hB]; exact hR.blk, ?_⟩
 rcases hR.once with h | ⟨h1, h2, h3⟩
 ·exact .inl h
 ·refine .inr ⟨h1, h2, own_same h3 fun k hk2 => ?_⟩
  rcases h3.2 with ⟨e0, _⟩ | ⟨g, cap, cur, e0, _, hgb, _⟩
  ·rw [e0] at hk2
   simp [Value.ownBlock] at hk2
  ·rw [e0] at hk2
   obtain rfl : g = k := by simpa [Value.ownBlock] using hk2
   exact hk _ _ _ hgb
def candTo (s : SpecV) (T : List Ent) (Z : List Int) (n : Nat) : List (Int × Int) := (List.range n).flatMap fun p => (candAt s T Z p).map fun k => ((p : Int), k)
abbrev candAll (s : SpecV) (T : List Ent) (Z : List Int) : List (Int × Int) := candTo s T Z Z.length
theorem candTo_succ (s : SpecV) (T : List Ent) (Z : List Int) (n : Nat) : candTo s T Z (n + 1) = candTo s T Z n ++ (candAt s T Z n).map fun k => ((n : Int), k) := by
 unfold candTo
 rw [List.range_succ, List.flatMap_append]
 simp
theorem candTo_mono (s : SpecV) (T : List Ent) (Z : List Int) {n m : Nat} (h : n ≤ m) : (candTo s T Z n).length ≤ (candTo s T Z m).length := by
 induction m with
 | zero => rw [show n = 0 by omega]; exact Nat.le_refl _
 | succ m ih =>
  by_cases e : n = m + 1
  ·subst e; exact Nat.le_refl _
  ·rw [candTo_succ, List.length_append]
   have := ih (by omega)
   omega
theorem candTo_nil {s : SpecV} {T : List Ent} {Z : List Int} : ∀ {m : Nat}, (∀ p, p < m → candAt s T Z p = []) → candTo s T Z m = []
 | 0, _ => rfl
 | m + 1, h => by rw [candTo_succ, candTo_nil fun p hp => h p (by omega), h m (by omega)]; rfl
theorem candAt_few (s : SpecV) {T : List Ent} (hok : TOk T) (Z : List Int) (p : Nat) : (candAt s T Z p).length ≤ 1000 := by
 have := few_of (N := T.length) ((candAt_rising s T Z p).imp fun h e => by omega) (fun x hx => (mem_candAt.1 hx).2.1)
 have := hok.most
 omega
section
variable {pb v r n1 : Nat} {s : SpecV} {T : List Ent} {S : List Bs} {nd mp : Bs → Nat} {A : Option Addr} {C : Nat} {Z : List Int}
set_option maxHeartbeats 1000000 in
theorem all24_spec (w : World) (h : PrAt w pb v r n1 s T S nd mp A C Z) :
  CP 107 #[.pointer (some ⟨pb, 0, none⟩), .int .i64 500] w fun e w' => ∃ (l : Sl) (out : List (Int × Int)), e = .returned l.v ∧ w'.ownsRow w.heap.size tHealT 2 l.v l.n (out.flatMap encPair) ∧ (out = candAll s T Z ∨ (500 < out.length ∧ 500 < (candAll s T Z).length)) ∧ VocIs w' v s T ∧ Touch v w w' := by
 refine calls_ret (vc107_calls (some ⟨pb, 0, none⟩) 500 w (fun u w' => ∃ (l : Sl) (out : List (Int × Int)), u = l.v ∧ w'.ownsRow w.heap.size tHealT 2 l.v l.n (out.flatMap encPair) ∧ (out = candAll s T Z ∨ (500 < out.length ∧ 500 < (candAll s T Z).length)) ∧ VocIs w' v s T ∧ Touch v w w') ?_) (by rintro v w' ⟨l, out, rfl, h⟩; exact ⟨l, out, rfl, h⟩)
 have hvl := h.voc.lt
 have hlen := h.len
 refine (least_spec24 w h).mono ?_
 rintro e w1 ⟨m, rfl, hm, b1⟩
 refine ⟨_, rfl, ?_⟩
 intro I hI
 have hm1 := hm.1
 have key := climb2 (α := Sl × World) (Z.length - m)
  (fun i y => y.2.ownsRow w.heap.size tHealT 2 y.1.v y.1.n ((candTo s T Z (m + i)).flatMap encPair) ∧ VocIs y.2 v s T ∧ Touch v w y.2)
  (fun i y => I [.int .i64 ((m + i : Nat) : Int), y.1.v] y.2) (sl0, w1) ⟨by rw [Nat.add_zero, candTo_nil hm.2.1]; exact own_none _ _ _ _ encPair, h.voc.on b1, Touch.of_below b1⟩ ?_ ?_
 ·exact key
 ·rintro i hi ih ⟨f, q⟩ ⟨hown, hVq, tq⟩
  change q.ownsRow w.heap.size tHealT 2 f.v f.n _ at hown
  change VocIs q v s T at hVq
  change Touch v w q at tq
  have hq := h.touch tq hVq
  have hfn : f.n = (candTo s T Z (m + i)).length := (Rw.of_own hown (fun _ => rfl) (by decide)).2
  refine hI _ f.a f.n f.c q (NilC.mk _ rfl ⟨_, _, _, ptr_add0 _ _ hq.blk 2, CondP.yes (decide_eq_true (by omega)) (CondP.mk (fun h5 => ?_) fun h5 => ?_)⟩)
  ·have h5 := of_decide_eq_true h5
   refine (at24_spec q hq (m + i) (by omega)).mono ?_
   rintro e q3 ⟨l, rfl, hl3, hV3, t3⟩
   have tq3 := tq.trans t3
   have hown3 : q3.ownsRow w.heap.size tHealT 2 f.v f.n ((candTo s T Z (m + i)).flatMap encPair) := by
    refine own_same hown fun k hk => ?_
    rcases hown.2 with ⟨e0, _⟩ | ⟨g, cap, cur, e0, hg, hgb, _⟩
    ·rw [e0] at hk
     simp [Value.ownBlock] at hk
    ·rw [e0] at hk
     obtain rfl : g = k := by simpa [Value.ownBlock] using hk
     exact t3.block _ (Array.getElem?_eq_some_iff.1 hgb).1 (by omega)
   have hln : l.n = (candAt s T Z (m + i)).length := (Rw.of_own hl3 (fun _ => rfl) (by decide)).2
   have hfew := candAt_few s h.ok Z (m + i)
   refine ⟨l.a, l.n, l.c, rfl, ?_⟩
   intro J hJ
   have key2 := climb2 (α := Sl × World) l.n
    (fun k y => y.2.ownsRow w.heap.size tHealT 2 y.1.v y.1.n ((candTo s T Z (m + i) ++ ((candAt s T Z (m + i)).take k).map fun x => (((m + i : Nat) : Int), x)).flatMap encPair) ∧ y.2.ownsRow q.heap.size tInt 1 l.v l.n ((candAt s T Z (m + i)).flatMap encInt) ∧ VocIs y.2 v s T ∧ Touch v w y.2)
    (fun k y => J [.int .i64 (k : Int), y.1.v] y.2) (f, q3) ⟨by rw [List.take_zero, List.map_nil, List.append_nil]; exact hown3, hl3, hV3, tq3⟩ ?_ ?_
   ·exact key2
   ·rintro k hk ihk ⟨g, q4⟩ ⟨ho4, hl4, hV4, t4⟩
    change q4.ownsRow w.heap.size tHealT 2 g.v g.n _ at ho4
    change q4.ownsRow q.heap.size tInt 1 l.v l.n _ at hl4
    change VocIs q4 v s T at hV4
    change Touch v w q4 at t4
    have hkx : k < (candAt s T Z (m + i)).length := by omega
    obtain ⟨a, ha, c0⟩ := cell_rw (Rw.of_own hl4 (fun _ => rfl) (by decide)).1 hkx rfl
    refine hJ _ g.a g.n g.c q4 (CondP.yes (decide_eq_true (by omega)) (NilC.mk a ha ⟨by omega, by omega, _, c0, ?_⟩))
    intro q5 hq5
    have hgn : g.n = (candTo s T Z (m + i) ++ ((candAt s T Z (m + i)).take k).map fun x => (((m + i : Nat) : Int), x)).length := (Rw.of_own ho4 (fun _ => rfl) (by decide)).2
    rw [List.length_append, List.length_map, List.length_take] at hgn
    obtain ⟨g', q6, e1, e2, e3, e4, e5⟩ := elHeal.push ho4 (((m + i : Nat) : Int), (candAt s T Z (m + i))[k]) hq5 rfl t4.size (by omega) (by decide)
    have b46 : Below w.heap.size q4 q6 := e4 q4 (Below.refl _ _)
    have other : ∀ (j : Nat) (c : Array Value) (t : TypeId) (fz : Nat × Nat), t ≠ tHealT → q4.heap[j]? = some (.cells c t fz) → q6.heap[j]? = q4.heap[j]? := by
     intro j c t fz ht hj
     refine e5 j (Array.getElem?_eq_some_iff.1 hj).1 fun e => ?_
     rcases ho4.2 with ⟨e0, _⟩ | ⟨b, cap, cur, e0, _, hb, _⟩
     ·rw [e0] at e
      simp [Value.ownBlock] at e
     ·rw [e0] at e
      obtain rfl : b = j := by simpa [Value.ownBlock] using e
      rw [hb] at hj
      cases hj
      exact ht rfl
    have hl6 : q6.ownsRow q.heap.size tInt 1 l.v l.n ((candAt s T Z (m + i)).flatMap encInt) := by
     refine own_same hl4 fun j hj => ?_
     rcases hl4.2 with ⟨e0, _⟩ | ⟨b, cap, cur, e0, _, hb, _⟩
     ·rw [e0] at hj
      simp [Value.ownBlock] at hj
     ·rw [e0] at hj
      obtain rfl : b = j := by simpa [Value.ownBlock] using hj
      exact other _ _ _ _ (by decide) hb
    refine ⟨g'.a, g'.n, g'.c, q6, e2, Ar.nat (k + 1) rfl (by omega) (ihk (g', q6) ⟨?_, hl6, hV4.keep hvl b46 (fun j c fz hj => other j c _ fz (by decide) hj), ⟨b46.os.trans t4.os, b46.tape.trans t4.tape, b46.output.trans t4.output, Nat.le_trans t4.size b46.size, fun j hj hne => (b46.block j hj).trans (t4.block j hj hne)⟩⟩)⟩
    have e : (candTo s T Z (m + i) ++ ((candAt s T Z (m + i)).take (k + 1)).map fun x => (((m + i : Nat) : Int), x)) = (candTo s T Z (m + i) ++ ((candAt s T Z (m + i)).take k).map fun x => (((m + i : Nat) : Int), x)) ++ [(((m + i : Nat) : Int), (candAt s T Z (m + i))[k])] := by
     rw [List.take_add_one, List.getElem?_eq_getElem hkx, List.map_append, List.append_assoc]
     rfl
    rw [e]
    exact e3
   ·rintro ⟨g, q4⟩ ⟨ho4, hl4, hV4, t4⟩
    change q4.ownsRow w.heap.size tHealT 2 g.v g.n _ at ho4
    refine hJ _ g.a g.n g.c q4 (CondP.no (decide_eq_false (by omega)) (Ar.nat (m + (i + 1)) (by omega) (by omega) (ih (g, q4) ⟨?_, hV4, t4⟩)))
    rw [show m + (i + 1) = (m + i) + 1 by omega, candTo_succ]
    rw [hln, List.take_length] at ho4
    exact ho4
  ·have h5 := of_decide_eq_false h5
   have hmono := candTo_mono s T Z (show m + i ≤ Z.length by omega)
   exact ⟨f, _, rfl, hown, .inr ⟨by omega, by show 500 < (candTo s T Z Z.length).length; omega⟩, hVq, tq⟩
 ·rintro ⟨f, q⟩ ⟨hown, hVq, tq⟩
  change q.ownsRow w.heap.size tHealT 2 f.v f.n _ at hown
  change VocIs q v s T at hVq
  change Touch v w q at tq
  have hq := h.touch tq hVq
  rw [show m + (Z.length - m) = Z.length by omega] at hown
  refine hI _ f.a f.n f.c q (NilC.mk _ rfl ⟨_, _, _, ptr_add0 _ _ hq.blk 2, CondP.no (decide_eq_false (by omega)) ⟨f, _, rfl, hown, .inl rfl, hVq, tq⟩⟩)
theorem told24_spec (w : World) (h : PrAt w pb v r n1 s T S nd mp A C Z) :
  CP 64 #[.pointer (some ⟨pb, 0, none⟩)] w fun e w' => ∃ l : Sl, e = .returned (.tuple #[l.v, .int .i64 (if 500 < (candAll s T Z).length then 5 else 0)]) ∧ (500 < (candAll s T Z).length → l = sl0) ∧ (¬ 500 < (candAll s T Z).length → w'.ownsRow w.heap.size tHealT 2 l.v l.n ((candAll s T Z).flatMap encPair)) ∧ VocIs w' v s T ∧ Touch v w w' := by
 refine calls_ret (vc64_calls (some ⟨pb, 0, none⟩) w (fun u w' => ∃ l : Sl, u = .tuple #[l.v, .int .i64 (if 500 < (candAll s T Z).length then 5 else 0)] ∧ (500 < (candAll s T Z).length → l = sl0) ∧ (¬ 500 < (candAll s T Z).length → w'.ownsRow w.heap.size tHealT 2 l.v l.n ((candAll s T Z).flatMap encPair)) ∧ VocIs w' v s T ∧ Touch v w w') ?_) (by rintro v w' ⟨l, rfl, h⟩; exact ⟨l, rfl, h⟩)
 refine (all24_spec w h).mono ?_
 rintro e w1 ⟨l, out, rfl, ho, hout, hV, t⟩
 have hn : l.n = out.length := (Rw.of_own ho (fun _ => rfl) (by decide)).2
 refine ⟨l.a, l.n, l.c, rfl, CondP.mk (fun h5 => ?_) fun h5 => ?_⟩
 ·have h5 := of_decide_eq_true h5
  have h6 : 500 < (candAll s T Z).length := by
   rcases hout with rfl | ⟨_, h⟩
   ·omega
   ·exact h
  exact ⟨sl0, by rw [if_pos h6], fun _ => rfl, fun hn => absurd h6 hn, hV, t⟩
 ·have h5 := of_decide_eq_false h5
  have he : out = candAll s T Z := by
   rcases hout with h | ⟨h, _⟩
   ·exact h
   ·omega
  subst he
  have h6 : ¬ 500 < (candAll s T Z).length := by omega
  exact ⟨l, by rw [if_neg h6], fun h => absurd h h6, fun _ => ho, hV, t⟩
end
theorem ready24_spec (w : World) (v : Nat) (s : SpecV) (T : List Ent) (hV : VocIs w v s T) (A : Option Addr) (C : Nat) (Z : List Int) (hr : Rw encInt 1 w A Z) (hC : Z.length ≤ C) (hA : Z ≠ [] → ∀ p, A = some p → p.block ≠ v) :
  CP 63 #[.pointer (some ⟨v, 0, none⟩), .slice A Z.length C] w fun e w' => ∃ pb : Option Addr, e = .returned (.tuple #[.pointer pb, .int .i64 (readyI s Z).1, .int .i64 (readyI s Z).2]) ∧ Below w.heap.size w w' ∧ ((readyI s Z).2 = 0 → ∃ (b r n1 : Nat) (S : List Bs) (nd mp : Bs → Nat), pb = some ⟨b, 0, none⟩ ∧ PrAt w' b v r n1 s T S nd mp A C Z) := by
 refine calls_ret (vc63_calls (some ⟨v, 0, none⟩) A Z.length C w (fun u w' => ∃ pb : Option Addr, u = .tuple #[.pointer pb, .int .i64 (readyI s Z).1, .int .i64 (readyI s Z).2] ∧ Below w.heap.size w w' ∧ ((readyI s Z).2 = 0 → ∃ (b r n1 : Nat) (S : List Bs) (nd mp : Bs → Nat), pb = some ⟨b, 0, none⟩ ∧ PrAt w' b v r n1 s T S nd mp A C Z)) ?_) (by rintro v w' ⟨pb, rfl, h⟩; exact ⟨pb, rfl, h⟩)
 have hV' := hV
 obtain ⟨w0, x, tp, bp, mp', d, l0, uses, hR⟩ := hV'
 have hok := hR.now.ok
 have hvok := voc_ok hR.now
 refine (encItems_spec w v _ tp bp mp' hR.vblk s T x hR.now A C Z hr hC).mono ?_
 rintro e w1 ⟨l, rfl, b1⟩
 refine ⟨l.a, l.n, l.c, _, _, rfl, CondP.mk (fun h0 => ?_) fun h0 => ?_⟩
 ·have h0 : (readyI s Z).2 ≠ 0 := by simpa using h0
  exact ⟨none, rfl, b1, fun h => absurd h h0⟩
 ·have h0 : (readyI s Z).2 = 0 := by simpa using h0
  obtain ⟨h4, hit, hrd⟩ := readyI_ok h0
  have hR1 := hR.on b1
  refine (vocTable_spec hR1.vblk).mono ?_
  rintro e w2 ⟨rfl, hw⟩
  subst w2
  refine ⟨_, rfl, (trieNew_spec w1 tp T hR1.now.tab hok).mono ?_⟩
  rintro e w3 ⟨r, S, nd, mp, n, rfl, hr1, hT3, hroot, hmem, b3⟩
  refine ⟨_, rfl, ?_⟩
  intro w4 hw4
  have b4 : Below w3.heap.size w3 w4 := by subst hw4; exact below_alloc _ _
  have x4 : w4.heap[w3.heap.size]? = some (.cells #[.pointer (some ⟨r, 0, none⟩), .pointer (some ⟨v, 0, none⟩), .slice A Z.length C] tPrompt (0, 0)) := by subst hw4; exact alloc_new _ _
  have hb3 := below_then b1 b3
  have hb4 := below_then hb3 b4
  have hvl := hV.lt
  have hz1 := b1.size
  have hz3 := b3.size
  refine ⟨some (nb w3), by rw [hrd], hb4, fun _ => ⟨w3.heap.size, r, w1.heap.size, S, nd, mp, rfl, x4, hV.on hb4, hok, hvok, hT3.on b4, ⟨n, held_on b4 hroot⟩, hmem, hr.on hb4, hC, h4, hit, hA, by omega, hr1, hz3⟩⟩
def healI (s : SpecV) (T : List Ent) (Z : List Int) : Int × Int := if (readyI s Z).2 ≠ 0 then readyI s Z else if 500 < (candAll s T Z).length then (0, 5) else ((Z.length : Int), 0)
theorem heal_spec (w : World) (v : Nat) (s : SpecV) (T : List Ent) (hV : VocIs w v s T) (A : Option Addr) (C : Nat) (Z : List Int) (hr : Rw encInt 1 w A Z) (hC : Z.length ≤ C) (hA : Z ≠ [] → ∀ p, A = some p → p.block ≠ v) :
  CP 33 #[.pointer (some ⟨v, 0, none⟩), .slice A Z.length C] w fun e w' => ∃ l : Sl, e = .returned (.tuple #[l.v, .int .i64 (healI s T Z).1, .int .i64 (healI s T Z).2]) ∧ ((healI s T Z).2 ≠ 0 → l = sl0) ∧ ((healI s T Z).2 = 0 → w'.ownsRow w.heap.size tHealT 2 l.v l.n ((candAll s T Z).flatMap encPair)) ∧ VocIs w' v s T ∧ Touch v w w' := by
 refine calls_ret (vc33_calls (some ⟨v, 0, none⟩) A Z.length C w (fun u w' => ∃ l : Sl, u = .tuple #[l.v, .int .i64 (healI s T Z).1, .int .i64 (healI s T Z).2] ∧ ((healI s T Z).2 ≠ 0 → l = sl0) ∧ ((healI s T Z).2 = 0 → w'.ownsRow w.heap.size tHealT 2 l.v l.n ((candAll s T Z).flatMap encPair)) ∧ VocIs w' v s T ∧ Touch v w w') ?_) (by rintro v w' ⟨l, rfl, h⟩; exact ⟨l, rfl, h⟩)
 refine (ready24_spec w v s T hV A C Z hr hC hA).mono ?_
 rintro e w1 ⟨pb, rfl, b1, hp⟩
 refine ⟨pb, _, _, rfl, CondP.mk (fun h0 => ?_) fun h0 => ?_⟩
 ·have h0 : (readyI s Z).2 ≠ 0 := by simpa using h0
  have e : healI s T Z = readyI s Z := by rw [healI, if_pos h0]
  rw [e]
  exact ⟨sl0, rfl, fun _ => rfl, fun h => absurd h h0, hV.on b1, Touch.of_below b1⟩
 ·have h0 : (readyI s Z).2 = 0 := by simpa using h0
  obtain ⟨b, r, n1, S, nd, mp, rfl, hP⟩ := hp h0
  have hrd := (readyI_ok h0).2.2
  have hz1 := b1.size
  refine (told24_spec w1 hP).mono ?_
  rintro e w2 ⟨l, rfl, h5, h6, hV2, t2⟩
  have t := (Touch.of_below (v := v) b1).trans t2
  refine ⟨l.a, l.n, l.c, _, rfl, CondP.mk (fun h7 => ?_) fun h7 => ?_⟩
  ·have h7 : 500 < (candAll s T Z).length := by
    by_cases h : 500 < (candAll s T Z).length
    ·exact h
    ·rw [if_neg h] at h7
     cases h7
   have e : healI s T Z = (0, 5) := by rw [healI, if_neg (fun h => h h0), if_pos h7]
   rw [e, if_pos h7]
   exact ⟨sl0, rfl, fun _ => rfl, fun h => (by cases h), hV2, t⟩
  ·have h7 : ¬ 500 < (candAll s T Z).length := by
    intro h
    rw [if_pos h] at h7
    cases h7
   have e : healI s T Z = ((Z.length : Int), 0) := by rw [healI, if_neg (fun h => h h0), if_neg h7]
   rw [e, hrd]
   exact ⟨l, rfl, fun h => absurd rfl h, fun _ => own_base (h6 h7) hz1, hV2, t⟩
def markHit (xs : List (Int × Bs)) (t : Bs) : Nat → Option Nat
 | 0 => none
 | n + 1 => match (xs.map (·.2)).idxOf? (t.take (n + 1)) with
  | some i => some i
  | none => markHit xs t n
def markBeg (xs : List (Int × Bs)) (t : Bs) : Option Nat := markHit xs t (min (mostOf xs) t.length).toNat
theorem idx_get {l : List Bs} {k : Bs} {i : Nat} (h : l.idxOf? k = some i) : ∃ hi : i < l.length, l[i] = k := by
 unfold List.idxOf? at h
 obtain ⟨hi, hp, _⟩ := List.findIdx?_eq_some_iff_getElem.1 h
 exact ⟨hi, by simpa using hp⟩
theorem markHit_get {xs : List (Int × Bs)} {t : Bs} : ∀ {n : Nat} {i : Nat}, markHit xs t n = some i → ∃ (hi : i < xs.length) (k : Nat), 1 ≤ k ∧ k ≤ n ∧ (xs[i]).2 = t.take k
 | n + 1, i, h => by
  unfold markHit at h
  cases hx : (xs.map (·.2)).idxOf? (t.take (n + 1)) with
  | some j =>
   rw [hx] at h
   cases h
   obtain ⟨hi, he⟩ := idx_get hx
   rw [List.length_map] at hi
   rw [List.getElem_map] at he
   exact ⟨hi, n + 1, by omega, Nat.le_refl _, he⟩
  | none =>
   rw [hx] at h
   obtain ⟨hi, k, h1, h2, h3⟩ := markHit_get (n := n) h
   exact ⟨hi, k, h1, by omega, h3⟩
theorem markHit_first {xs : List (Int × Bs)} {b : UInt8} {r : Bs} (hf : firstOf xs b.toNat = false) : ∀ n, markHit xs (b :: r) n = none
 | 0 => rfl
 | n + 1 => by
  cases h : markHit xs (b :: r) (n + 1) with
  | none => rfl
  | some i =>
   exfalso
   obtain ⟨hi, k, h1, _, h3⟩ := markHit_get h
   have : firstOf xs b.toNat = true := by
    unfold firstOf
    rw [List.any_eq_true]
    refine ⟨xs[i], List.getElem_mem hi, ?_⟩
    rw [h3]
    obtain ⟨m, rfl⟩ : ∃ m, k = m + 1 := ⟨k - 1, by omega⟩
    simp
   rw [hf] at this
   cases this
def markR : Option Nat → Value
 | none => .tuple #[.int .i64 0, .bool false]
 | some i => .tuple #[.int .i64 (-1 - (i : Int)), .bool true]
theorem mostOf_nn (xs : List (Int × Bs)) : 0 ≤ mostOf xs := by
 unfold mostOf
 have : ∀ (l : List (Int × Bs)) (n : Int), 0 ≤ n → 0 ≤ l.foldl (fun n x => if (x.2.length : Int) > n then (x.2.length : Int) else n) n := by
  intro l
  induction l with
  | nil => exact fun n h => h
  | cons x l ih =>
   intro n h
   rw [List.foldl_cons]
   refine ih _ ?_
   split <;> omega
 exact this xs 0 (Int.le_refl _)
theorem markAt_spec (w : World) (p : Nat) (xs : List (Int × Bs)) (h : MkIs w p xs) (hl : xs.length ≤ 1000000) (t : Bs) (ht : t.length ≤ 1000000000) :
  CP 134 #[.pointer (some ⟨p, 0, none⟩), .string (str t)] w fun e w' => e = .returned (markR (markBeg xs t)) ∧ Below w.heap.size w w' := by
 refine calls_ret (vc134_calls (some ⟨p, 0, none⟩) (str t) w (fun u w' => u = markR (markBeg xs t) ∧ Below w.heap.size w w') ?_) (by rintro v w' ⟨rfl, h⟩; exact ⟨rfl, h⟩)
 intro w1 hw1
 have b1 : Below w.heap.size w w1 := by subst hw1; exact drew_on w
 cases t with
 | nil =>
  refine CondP.no rfl (CondP.yes (by simp [str]) ⟨?_, b1⟩)
  have : markBeg xs [] = none := by
   unfold markBeg
   have := mostOf_nn xs
   rw [show (min (mostOf xs) (([] : Bs).length : Int)).toNat = 0 by simp; omega]
   rfl
  rw [this]
  rfl
 | cons b r =>
  have h1 := h.on b1
  obtain ⟨l, mi, mt, c, g1, g2, g3, g4, g5, g6⟩ := h1
  have hb0 : btAt (str (b :: r)) 0 = (b.toNat : Int) := btAt_str (b :: r) 0 (by simp)
  have hb256 := b.toNat_lt
  have hmn := mostOf_nn xs
  refine CondP.no rfl (CondP.no ?_ ⟨by omega, by rw [str_size]; simp, NilC.mk _ rfl ?_⟩)
  ·rw [Bool.eq_false_iff]
   intro he
   have := (beq_iff_eq.1 he)
   simp [str] at this
  rw [hb0]
  refine ⟨by omega, by omega, firstOf xs b.toNat, ?_, CondP.mk (fun hf => ?_) fun hf => ?_⟩
  ·rw [Addr.add_add, ptr_add0 _ _ g1, show ((b.toNat : Int)).toNat * 1 = b.toNat by omega]
   exact g2.first _ hb256
  ·have hf : firstOf xs b.toNat = false := by simpa using hf
   rw [markBeg, markHit_first hf]
   exact ⟨rfl, b1⟩
  ·refine NilC.mk _ rfl ⟨_, by rw [ptr_add0 _ _ g1]; exact g2.most, ?_⟩
   obtain ⟨M, hM⟩ : ∃ M : Nat, M = (min (mostOf xs) ((b :: r).length : Int)).toNat := ⟨_, rfl⟩
   have hMv : (if (((str (b :: r)).size : Nat) : Int) < mostOf xs then (((str (b :: r)).size : Nat) : Int) else mostOf xs) = (M : Int) := by
    rw [str_size]
    split <;> omega
   refine ⟨(M : Int), w1, by rw [← hMv]; exact run_min2 _ _ _ _ _, ?_⟩
   intro I hI
   have down : ∀ (n : Nat), n ≤ M → markHit xs (b :: r) n = markBeg xs (b :: r) → ∀ (q : World), Below w.heap.size w q → ∀ (y5 : Bool) (y4 : Int), I [.int .i64 (n : Int), .bool y5, .int .i64 y4] q := by
    intro n
    induction n with
    | zero =>
     intro hn he q hq y5 y4
     refine hI _ _ _ q (CondP.no (decide_eq_false (by omega)) ⟨?_, hq⟩)
     rw [← he]
     rfl
    | succ n ihn =>
     intro hn he q hq y5 y4
     refine hI _ _ _ q (CondP.yes (decide_eq_true (by omega)) ?_)
     intro q4 hq4
     have b4 := below_then hq (show Below q.heap.size q q4 by subst hq4; exact drew_on q)
     obtain ⟨l, mi, mt, c, g1, g2, g3, g4, g5, g6⟩ := h.on b4
     have hlk := run_look keysB undMapB zeroInt g6 ((b :: r).take (n + 1))
     have hex : (str (b :: r)).extract (0 : Int).toNat (((n + 1 : Nat) : Int)).toNat = str ((b :: r).take (n + 1)) := by
      rw [str_extract]
      rfl
     refine NilC.mk _ rfl ⟨_, by rw [ptr_add0 _ _ g1]; exact g2.c2, by omega, by omega, by rw [str_size]; omega, ?_⟩
     rw [hex]
     unfold markHit at he
     rw [look_tmap] at hlk
     cases hx : (xs.map (·.2)).idxOf? ((b :: r).take (n + 1)) with
     | some i =>
      rw [hx] at hlk he
      obtain ⟨hi, _⟩ := idx_get hx
      rw [List.length_map] at hi
      refine ⟨_, _, q4, hlk, CondP.yes rfl ((markItem_spec i (by omega) q4).mono ?_)⟩
      rintro e q6 ⟨rfl, hw⟩
      subst q6
      refine ⟨_, rfl, ?_, b4⟩
      rw [← he]
      rfl
     | none =>
      rw [hx] at hlk he
      exact ⟨_, _, q4, hlk, CondP.no rfl (Ar.nat n (by omega) (by omega) (ihn (by omega) he q4 b4 _ _))⟩
   exact down M (Nat.le_refl _) (by rw [hM]; rfl) w1 b1 _ _
def parseF (xs : List (Int × Bs)) : Nat → Bs → List Int
 | 0, _ => []
 | _, [] => []
 | n + 1, b :: r => match markBeg xs (b :: r) with
  | none => (b.toNat : Int) :: parseF xs n r
  | some i => (-1 - (i : Int)) :: parseF xs n ((b :: r).drop ((xs[i]?).map (·.2)|>.getD []).length)
def parseV (xs : List (Int × Bs)) (t : Bs) : List Int := parseF xs t.length t
theorem markOf_pos {xs : List (Int × Bs)} {t : Bs} {i : Nat} (h : markBeg xs t = some i) : ∃ hi : i < xs.length, 1 ≤ (xs[i]).2.length ∧ (xs[i]).2 <+: t := by
 obtain ⟨hi, k, h1, h2, h3⟩ := markHit_get h
 refine ⟨hi, ?_, by rw [h3]; exact List.take_prefix _ _⟩
 rw [h3, List.length_take]
 omega
theorem parseF_more {xs : List (Int × Bs)} : ∀ {n m : Nat} {t : Bs}, t.length ≤ n → t.length ≤ m → parseF xs n t = parseF xs m t
 | 0, 0, _, _, _ => rfl
 | 0, m + 1, [], _, _ => rfl
 | n + 1, 0, [], _, _ => rfl
 | n + 1, m + 1, [], _, _ => rfl
 | 0, m + 1, b :: r, h, _ => by simp at h
 | n + 1, 0, b :: r, _, h => by simp at h
 | n + 1, m + 1, b :: r, h1, h2 => by
  unfold parseF
  have h1 : r.length ≤ n := by simpa using h1
  have h2 : r.length ≤ m := by simpa using h2
  cases hm : markBeg xs (b :: r) with
  | none =>
   dsimp only
   rw [parseF_more h1 h2]
  | some i =>
   obtain ⟨hi, hp, _⟩ := markOf_pos hm
   dsimp only
   rw [List.getElem?_eq_getElem hi]
   simp only [Option.map_some, Option.getD_some]
   have : ((b :: r).drop (xs[i]).2.length).length ≤ r.length := by rw [List.length_drop]; simp; omega
   rw [parseF_more (n := n) (m := m) (by omega) (by omega)]
theorem parseV_none {xs : List (Int × Bs)} {b : UInt8} {r : Bs} (h : markBeg xs (b :: r) = none) : parseV xs (b :: r) = (b.toNat : Int) :: parseV xs r := by
 unfold parseV
 rw [List.length_cons, parseF, h]
theorem parseV_some {xs : List (Int × Bs)} {b : UInt8} {r : Bs} {i : Nat} (h : markBeg xs (b :: r) = some i) (hi : i < xs.length) : parseV xs (b :: r) = (-1 - (i : Int)) :: parseV xs ((b :: r).drop (xs[i]).2.length) := by
 unfold parseV
 rw [List.length_cons, parseF, h]
 dsimp only
 rw [List.getElem?_eq_getElem hi]
 simp only [Option.map_some, Option.getD_some]
 obtain ⟨_, hp, _⟩ := markOf_pos h
 rw [parseF_more (m := ((b :: r).drop (xs[i]).2.length).length) (by rw [List.length_drop]; simp; omega) (Nat.le_refl _)]
theorem parseV_short (xs : List (Int × Bs)) : ∀ (n : Nat) (t : Bs), t.length ≤ n → (parseV xs t).length ≤ t.length
 | _, [], _ => Nat.le_refl _
 | 0, b :: r, h => by simp at h
 | n + 1, b :: r, h => by
  have h : r.length ≤ n := by simpa using h
  cases hm : markBeg xs (b :: r) with
  | none =>
   rw [parseV_none hm]
   have := parseV_short xs n r h
   simp
   omega
  | some i =>
   obtain ⟨hi, hp, _⟩ := markOf_pos hm
   rw [parseV_some hm hi]
   have hd : ((b :: r).drop (xs[i]).2.length).length ≤ r.length := by rw [List.length_drop]; simp; omega
   have := parseV_short xs n _ (by omega : ((b :: r).drop (xs[i]).2.length).length ≤ n)
   simp only [List.length_cons]
   omega
set_option maxHeartbeats 1000000 in
theorem markParse_spec (w : World) (p : Nat) (xs : List (Int × Bs)) (h : MkIs w p xs) (hl : xs.length ≤ 1000000) (t : Bs) (ht : t.length ≤ 1000000) :
  CP 74 #[.pointer (some ⟨p, 0, none⟩), .string (str t)] w fun e w' => ∃ l : Sl, e = .returned l.v ∧ w'.ownsRow w.heap.size tInt 1 l.v l.n ((parseV xs t).flatMap encInt) ∧ Below w.heap.size w w' := by
 refine calls_ret (vc74_calls (some ⟨p, 0, none⟩) (str t) w (fun u w' => ∃ l : Sl, u = l.v ∧ w'.ownsRow w.heap.size tInt 1 l.v l.n ((parseV xs t).flatMap encInt) ∧ Below w.heap.size w w') ?_) (by rintro v w' ⟨l, rfl, h⟩; exact ⟨l, rfl, h⟩)
 intro I hI
 have loop : ∀ (d i : Nat) (f : Sl) (out : List Int) (q : World), t.length - i ≤ d → i ≤ t.length → out.length ≤ i → out ++ parseV xs (t.drop i) = parseV xs t → q.ownsRow w.heap.size tInt 1 f.v f.n (out.flatMap encInt) → Below w.heap.size w q → I [.int .i64 (i : Int), f.v] q := by
  have fin : ∀ (i : Nat) (f : Sl) (out : List Int) (q : World), i = t.length → out ++ parseV xs (t.drop i) = parseV xs t → q.ownsRow w.heap.size tInt 1 f.v f.n (out.flatMap encInt) → Below w.heap.size w q → I [.int .i64 (i : Int), f.v] q := by
   intro i f out q hi he ho hq
   subst hi
   rw [List.drop_length] at he
   have he : out = parseV xs t := by rw [← he]; exact (List.append_nil out).symm
   subst he
   exact hI _ f.a f.n f.c q (CondP.no (decide_eq_false (by rw [str_size]; omega)) ⟨f, rfl, ho, hq⟩)
  intro d
  induction d with
  | zero =>
   intro i f out q hd hi hol he ho hq
   exact fin i f out q (by omega) he ho hq
  | succ d ihd =>
   intro i f out q hd hi hol he ho hq
   by_cases hlt : i = t.length
   ·exact fin i f out q hlt he ho hq
   have hlt : i < t.length := by omega
   have hon : f.n = out.length := (Rw.of_own ho (fun _ => rfl) (by decide)).2
   have edrop : t.drop i = t[i] :: t.drop (i + 1) := List.drop_eq_getElem_cons hlt
   refine hI _ f.a f.n f.c q (CondP.yes (decide_eq_true (by rw [str_size]; omega)) ?_)
   intro J hJ
   have hex : (str t).extract ((i : Int)).toNat ((((str t).size : Nat) : Int)).toNat = str (t.drop i) := by
    rw [str_extract, str_size]
    congr 1
    rw [show ((i : Int)).toNat = i by omega, show (((t.length : Nat) : Int)).toNat = t.length by omega]
    exact List.take_of_length_le (by rw [List.length_drop]; exact Nat.le_refl _)
   refine ⟨by omega, by rw [str_size]; omega, by omega, ?_⟩
   rw [hex]
   refine (markAt_spec q p xs (h.on hq) hl (t.drop i) (by rw [List.length_drop]; omega)).mono ?_
   rintro e w3 ⟨rfl, b3⟩
   have hq3 := below_then hq b3
   rw [edrop] at he ⊢
   cases hm : markBeg xs (t[i] :: t.drop (i + 1)) with
   | none =>
    rw [parseV_none hm] at he
    refine ⟨_, _, rfl, CondP.yes rfl ⟨by omega, by rw [str_size]; omega, ?_⟩⟩
    intro w4 hw4
    have hbt : btAt (str t) (i : Int) = ((t[i]).toNat : Int) := btAt_str t i hlt
    have hb256 := (t[i]).toNat_lt
    rw [hbt, wrap_in (by show (-9223372036854775808 : Int) ≤ _; omega) (by show _ ≤ (9223372036854775807 : Int); omega)] at hw4
    obtain ⟨f', w5, e1, e2, e3, e4, _⟩ := elInt.push (own_on ho b3) ((t[i]).toNat : Int) hw4 rfl hq3.size (by omega) (by decide)
    exact ⟨f'.a, f'.n, f'.c, w5, e2, Ar.nat (i + 1) rfl (by omega) (hJ _ f'.a f'.n f'.c w5 (ihd (i + 1) f' (out ++ [((t[i]).toNat : Int)]) w5 (by omega) (by omega) (by rw [List.length_append]; simp; omega) (by rw [List.append_assoc]; exact he) e3 (e4 _ hq3)))⟩
   | some j =>
    obtain ⟨hj, hp, hpre⟩ := markOf_pos hm
    rw [parseV_some hm hj] at he
    refine ⟨_, _, rfl, CondP.no rfl ?_⟩
    refine (markHas_spec w3 p xs (h.on hq3) hl (-1 - (j : Int)) (by omega)).mono ?_
    rintro e w6 ⟨rfl, b6⟩
    have hq6 := below_then hq3 b6
    have hat : markAt xs (-1 - (j : Int)) = some xs[j] := by
     unfold markAt
     rw [if_pos (by omega), show (-1 - (-1 - (j : Int))).toNat = j by omega, List.getElem?_eq_getElem hj]
    rw [hat]
    refine ⟨_, _, _, rfl, ?_⟩
    intro w7 hw7
    refine storeP_new [.int .i64 0, .string ⟨#[]⟩] [.int .i64 (xs[j]).1, .string (str (xs[j]).2)] rfl (by intro u hu; simp only [List.mem_cons, List.not_mem_nil, or_false] at hu; rcases hu with rfl | rfl <;> rfl) w7 hw7 ?_
    intro w8 x8 z8 b8
    have hq8 := below_then hq6 b8
    intro w9 hw9
    obtain ⟨f', w10, e1, e2, e3, e4, e5⟩ := elInt.push (own_on (own_on (own_on ho b3) b6) b8) (-1 - (j : Int)) hw9 rfl hq8.size (by omega) (by decide)
    have x10 : w10.heap[w6.heap.size]? = some (.cells #[.int .i64 (xs[j]).1, .string (str (xs[j]).2)] 105 (0, 0)) := by
     rw [e5 _ (Array.getElem?_eq_some_iff.1 x8).1 (fun e => by
      have := (own_lt (own_on (own_on ho b3) b6) _ e).2
      omega)]
     exact x8
    have hple := hpre.length_le
    simp only [List.length_cons, List.length_drop] at hple
    refine ⟨f'.a, f'.n, f'.c, w10, e2, _, ptr_add0 _ _ x10 1, Ar.nat (i + (xs[j]).2.length) (by rw [str_size]; omega) (by omega) (hJ _ f'.a f'.n f'.c w10 (ihd (i + (xs[j]).2.length) f' (out ++ [-1 - (j : Int)]) w10 (by omega) (by omega) (by rw [List.length_append]; simp; omega) ?_ e3 (e4 _ hq8)))⟩
    rw [List.append_assoc]
    rw [← edrop, List.drop_drop] at he
    exact he
 have := loop t.length 0 sl0 [] w (by omega) (Nat.zero_le _) (Nat.le_refl _) rfl (own_none _ _ _ _ encInt) (Below.refl _ _)
 exact this
def textE (s : SpecV) (T : List Ent) (t : Bs) : Int := if 4000 < t.length then 3 else (healI s T (parseV s.specials t)).2
theorem healText_spec (w : World) (v : Nat) (s : SpecV) (T : List Ent) (hV : VocIs w v s T) (t : Bs) :
  CP 44 #[.pointer (some ⟨v, 0, none⟩), .string (str t)] w fun e w' => ∃ l : Sl, e = .returned (.tuple #[l.v, .int .i64 (textE s T t)]) ∧ (textE s T t ≠ 0 → l = sl0) ∧ (textE s T t = 0 → w'.ownsRow w.heap.size tHealT 2 l.v l.n ((candAll s T (parseV s.specials t)).flatMap encPair)) ∧ VocIs w' v s T ∧ Touch v w w' := by
 refine calls_ret (vc44_calls (some ⟨v, 0, none⟩) (str t) w (fun u w' => ∃ l : Sl, u = .tuple #[l.v, .int .i64 (textE s T t)] ∧ (textE s T t ≠ 0 → l = sl0) ∧ (textE s T t = 0 → w'.ownsRow w.heap.size tHealT 2 l.v l.n ((candAll s T (parseV s.specials t)).flatMap encPair)) ∧ VocIs w' v s T ∧ Touch v w w') ?_) (by rintro v w' ⟨l, rfl, h⟩; exact ⟨l, rfl, h⟩)
 refine CondP.no rfl (CondP.mk (fun h4 => ?_) fun h4 => ?_)
 ·have h4 := of_decide_eq_true h4
  rw [str_size] at h4
  have e : textE s T t = 3 := by rw [textE, if_pos (by omega)]
  rw [e]
  exact ⟨sl0, rfl, fun _ => rfl, fun h => (by cases h), hV, Touch.of_below (Below.refl _ _)⟩
 ·have h4 := of_decide_eq_false h4
  rw [str_size] at h4
  have e0 : textE s T t = (healI s T (parseV s.specials t)).2 := by rw [textE, if_neg (by omega)]
  have hvl := hV.lt
  have hV' := hV
  obtain ⟨w0, x, tp, bp, mp', d, l0, uses, hR⟩ := hV'
  have hfew := hR.now.few
  refine (vocMarks_spec hR.vblk).mono ?_
  rintro e w1 ⟨rfl, hw⟩
  subst w1
  refine ⟨_, rfl, (markParse_spec w mp' s.specials hR.now.marks (by omega) t (by omega)).mono ?_⟩
  rintro e w2 ⟨l, rfl, ho, b2⟩
  obtain ⟨hrow, hn⟩ := Rw.of_own ho (fun _ => rfl) (by decide)
  have hc := own_le ho
  have hfar : parseV s.specials t ≠ [] → ∀ p, l.a = some p → p.block ≠ v := by
   intro _ p hp
   rcases ho.2 with ⟨e0, _⟩ | ⟨g, cap, cur, e0, hg, _⟩
   ·have e0 : Value.slice l.a l.n l.c = .slice none 0 0 := e0
    simp only [Value.slice.injEq] at e0
    rw [e0.1] at hp
    cases hp
   ·have e0 : Value.slice l.a l.n l.c = .slice (some ⟨g, 0, none⟩) l.n cap := e0
    simp only [Value.slice.injEq] at e0
    rw [e0.1] at hp
    cases hp
    show g ≠ v
    omega
  obtain ⟨la, ln, lc⟩ := l
  change ln = _ at hn
  subst hn
  refine ⟨la, _, lc, rfl, (heal_spec w2 v s T (hV.on b2) la lc (parseV s.specials t) hrow hc hfar).mono ?_⟩
  rintro e w3 ⟨l, rfl, h1, h2, hV3, t3⟩
  rw [e0]
  exact ⟨l.a, l.n, l.c, _, _, rfl, l, rfl, h1, fun h => own_base (h2 h) b2.size, hV3, (Touch.of_below b2).trans t3⟩
def s24 : SpecV := { merges := [(97, 98), (256, 99)] }
def t24 : List Ent := begins ++ [([97, 98], (97, 98)), ([97, 98, 99], (256, 99))]
theorem right_24 : s24.right = true := by decide +kernel
theorem build_24 : buildV s24 = .ok t24 := by
 have h : (match buildV s24 with | .ok t => decide (t = t24) | .error _ => false) = true := by decide +kernel
 cases hx : buildV s24 with
 | error q => rw [hx] at h; cases h
 | ok t => rw [hx] at h; rw [of_decide_eq_true h]
theorem parse_24 : parseV s24.specials [120, 97, 98] = [120, 97, 98] := by decide +kernel
theorem cand_24 : candAll s24 t24 [120, 97, 98] = [(1, 257)] := by decide +kernel
theorem ready_24 : readyI s24 [120, 97, 98] = (3, 0) := by decide +kernel
theorem text_24 : textE s24 t24 [120, 97, 98] = 0 := by
 rw [textE, if_neg (by decide), parse_24, healI, if_neg (by rw [ready_24]; decide), cand_24]
 rfl
theorem specAt_24 (w w1 : World) (hw1 : w1 = w.alloc (.cells #[Value.int .i64 97, Value.int .i64 98, Value.int .i64 256, Value.int .i64 99] tMg)) : SpecAt w1 ⟨false, ⟨some (nb w), 2, 2⟩, ⟨none, 0, 0⟩, ⟨none, 0, 0⟩, ⟨none, 0, 0⟩, ⟨none, 0, 0⟩⟩ s24 := by
 have l1 : w1.heap[w.heap.size]? = some (.cells #[Value.int .i64 97, Value.int .i64 98, Value.int .i64 256, Value.int .i64 99] tMg (0, 0)) := by subst hw1; exact alloc_new _ _
 have none_ : ∀ {α : Type} {enc : α → List Value} {sz : Nat}, Rw enc sz w1 none [] := fun j x hj => by simp at hj
 refine ⟨rfl, rfl, fun j x hj => ?_, rfl, none_, rfl, none_, rfl, none_, rfl, none_⟩
 have hlt := (Array.getElem?_eq_some_iff.1 l1).1
 have hj0 := (List.getElem?_eq_some_iff.1 hj).1
 match j, hj, hj0 with
 | 0, hj, _ =>
  have hx : x = (97, 98) := by simpa [s24] using hj.symm
  subst hx
  refine ⟨nb w, rfl, hlt, fun k v hk => ?_⟩
  rw [Nat.zero_mul, add_zero, ptr_add0 _ _ l1]
  match k, hk with
  | 0, hk => cases hk; rfl
  | 1, hk => cases hk; rfl
 | 1, hj, _ =>
  have hx : x = (256, 99) := by simpa [s24] using hj.symm
  subst hx
  refine ⟨nb w, rfl, hlt, fun k v hk => ?_⟩
  rw [Nat.one_mul, Addr.add_add, ptr_add0 _ _ l1]
  match k, hk with
  | 0, hk => cases hk; rfl
  | 1, hk => cases hk; rfl
 | j + 2, _, h => exact absurd h (by simp [s24])
theorem awake24_spec (w : World) : CP 31 #[] w fun e w' => e = .returned (.bool true) ∧ Below w.heap.size w w' := by
 refine calls_ret (vc31_calls w (fun u w' => u = .bool true ∧ Below w.heap.size w w') ?_) (by rintro v w' ⟨rfl, h⟩; exact ⟨rfl, h⟩)
 intro w1 hw1
 have hb1 : Below w.heap.size w w1 := by subst hw1; exact below_alloc _ _
 refine (vocabNew_spec w1 _ s24 (specAt_24 w w1 hw1)).mono ?_
 rintro e w2 ⟨u, rfl, hb2, hp⟩
 rw [if_pos right_24, build_24] at hp
 obtain ⟨v, rfl, hV, hv⟩ := hp
 have hb12 := below_then hb1 hb2
 have hz1 := hb1.size
 refine ⟨_, _, _, rfl, ?_⟩
 refine Calls.mono (show Calls _ _ #[_, .string (str [120, 97, 98])] w2 _ from healText_spec w2 v s24 t24 hV [120, 97, 98]) ?_
 rintro e w3 ⟨l, rfl, _, h0, hV3, t3⟩
 have ho := h0 text_24
 rw [parse_24, cand_24] at ho
 obtain ⟨hrow, hn⟩ := Rw.of_own ho (fun _ => rfl) (by decide)
 obtain ⟨p, hp, _, hc⟩ := hrow 0 (1, 257) rfl
 have c0 := hc 0 _ rfl
 have c1 := hc 1 _ rfl
 rw [Nat.zero_mul, add_zero] at c0 c1
 rw [add_zero] at c0
 have hn : l.n = 1 := hn
 rw [text_24]
 refine ⟨l.a, l.n, l.c, _, rfl, CondP.yes rfl (CondP.yes (by rw [hn]; rfl) (NilC.mk p hp ⟨by omega, by omega, 1, 257, ⟨?_, ?_, trivial⟩, rfl, ?_⟩))⟩
 ·rw [show (0 : Int).toNat * 2 = 0 from rfl, add_zero]
  exact c0
 ·rw [show (0 : Int).toNat * 2 = 0 from rfl, add_zero]
  exact c1
 ·exact hb12.trans (t3.below (by omega) hb12.size)
theorem refInts_spec (w : World) (A A2 : Option Addr) (C C2 : Nat) (xs ys : List Int) (hr : Rw encInt 1 w A xs) (hr2 : Rw encInt 1 w A2 ys) (hl : xs.length ≤ 1000000000) :
  CP 41 #[.slice A xs.length C, .slice A2 ys.length C2] w fun e w' => e = .returned (.bool (decide (xs = ys))) ∧ Below w.heap.size w w' := by
 refine calls_ret (vc41_calls A xs.length C A2 ys.length C2 w (fun u w' => u = .bool (decide (xs = ys)) ∧ Below w.heap.size w w') ?_) (by rintro v w' ⟨rfl, h⟩; exact ⟨rfl, h⟩)
 refine CondP.mk (fun hne => ⟨?_, Below.refl _ _⟩) fun heq => ?_
 ·have hne : ¬ (xs.length : Int) = (ys.length : Int) := by simpa using hne
  rw [decide_eq_false fun e => hne (by rw [e])]
 ·have heq : (xs.length : Int) = (ys.length : Int) := by simpa using heq
  intro I hI
  have key := climb2 (α := World) xs.length (fun i q => (∀ j, j < i → xs[j]? = ys[j]?) ∧ Below w.heap.size w q) (fun i q => ∀ y4, I [.int .i64 (i : Int), .bool y4] q) w ⟨fun j hj => absurd hj (Nat.not_lt_zero j), Below.refl _ _⟩ ?_ ?_
  ·exact key _
  ·rintro i hi ih q ⟨hs, hq⟩ y4
   refine hI _ y4 q (CondP.yes (decide_eq_true (by omega)) ?_)
   intro q1 hq1
   have hq1' := below_then hq (show Below q.heap.size q q1 by subst hq1; exact drew_on q)
   obtain ⟨p1, hp1, c1⟩ := cell_rw (hr.on hq1') hi rfl
   obtain ⟨p2, hp2, c2⟩ := cell_rw (hr2.on hq1') (show i < ys.length by omega) rfl
   refine NilC.mk p1 hp1 ⟨by omega, by omega, _, c1, NilC.mk p2 hp2 ⟨by omega, by omega, _, c2, CondP.mk (fun h0 => ⟨?_, hq1'⟩) fun h0 => ?_⟩⟩
   ·have h0 : ¬ xs[i] = ys[i] := by simpa using h0
    rw [decide_eq_false fun e => h0 (by subst e; rfl)]
   ·have h0 : xs[i] = ys[i] := by simpa using h0
    refine Ar.nat (i + 1) rfl (by omega) (ih q1 ⟨fun j hj => ?_, hq1'⟩ _)
    by_cases e : j = i
    ·subst e
     rw [List.getElem?_eq_getElem hi, List.getElem?_eq_getElem (by omega), h0]
    ·exact hs j (by omega)
  ·rintro q ⟨hs, hq⟩ y4
   refine hI _ y4 q (CondP.no (decide_eq_false (by omega)) ⟨?_, hq⟩)
   rw [decide_eq_true]
   apply List.ext_getElem?
   intro j
   by_cases hj : j < xs.length
   ·exact hs j hj
   ·rw [List.getElem?_eq_none_iff.2 (by omega), List.getElem?_eq_none_iff.2 (by omega)]
theorem same24_spec (w : World) (A A2 : Option Addr) (C C2 : Nat) (xs ys : List (Int × Int)) (hr : Rw encPair 2 w A xs) (hr2 : Rw encPair 2 w A2 ys) (hl : xs.length ≤ 1000000000) :
  CP 40 #[.slice A xs.length C, .slice A2 ys.length C2] w fun e w' => e = .returned (.bool (decide (xs = ys))) ∧ Below w.heap.size w w' := by
 refine calls_ret (vc40_calls A xs.length C A2 ys.length C2 w (fun u w' => u = .bool (decide (xs = ys)) ∧ Below w.heap.size w w') ?_) (by rintro v w' ⟨rfl, h⟩; exact ⟨rfl, h⟩)
 refine CondP.mk (fun hne => ⟨?_, Below.refl _ _⟩) fun heq => ?_
 ·have hne : ¬ (xs.length : Int) = (ys.length : Int) := by simpa using hne
  rw [decide_eq_false fun e => hne (by rw [e])]
 ·have heq : (xs.length : Int) = (ys.length : Int) := by simpa using heq
  intro I hI
  have two : ∀ {q : World} {B : Option Addr} {zs : List (Int × Int)}, Rw encPair 2 q B zs → ∀ {i : Nat} (hi : i < zs.length), ∃ p, B = some p ∧ q.cell? (p.add ((i : Int).toNat * 2)) = some (.int .i64 (zs[i]).1) ∧ q.cell? ((p.add ((i : Int).toNat * 2)).add 1) = some (.int .i64 (zs[i]).2) ∧ True := by
   intro q B zs h i hi
   obtain ⟨p, hp, _, hc⟩ := h i _ (List.getElem?_eq_getElem hi)
   have c0 := hc 0 _ rfl
   have c1 := hc 1 _ rfl
   rw [add_zero] at c0
   rw [show (i : Int).toNat * 2 = i * 2 by omega]
   exact ⟨p, hp, c0, c1, trivial⟩
  have key := climb2 (α := World) xs.length (fun i q => (∀ j, j < i → xs[j]? = ys[j]?) ∧ Below w.heap.size w q) (fun i q => ∀ y4, I [.int .i64 (i : Int), .bool y4] q) w ⟨fun j hj => absurd hj (Nat.not_lt_zero j), Below.refl _ _⟩ ?_ ?_
  ·exact key _
  ·rintro i hi ih q ⟨hs, hq⟩ y4
   refine hI _ y4 q (CondP.yes (decide_eq_true (by omega)) ?_)
   intro q1 hq1
   have hq1' := below_then hq (show Below q.heap.size q q1 by subst hq1; exact drew_on q)
   obtain ⟨p1, hp1, c1⟩ := two (hr.on hq1') hi
   obtain ⟨p2, hp2, c2⟩ := two (hr2.on hq1') (show i < ys.length by omega)
   refine NilC.mk p1 hp1 ⟨by omega, by omega, _, _, c1, NilC.mk p2 hp2 ⟨by omega, by omega, _, _, c2, CondP.mk (fun h0 => ⟨?_, hq1'⟩) fun h0 => ?_⟩⟩
   ·rw [decide_eq_false fun e => ?_]
    subst e
    simp at h0
   ·have h0 : xs[i] = ys[i] := by
     have h0 : (xs[i]).1 = (ys[i]).1 ∧ (xs[i]).2 = (ys[i]).2 := by simpa using h0
     exact Prod.ext h0.1 h0.2
    refine Ar.nat (i + 1) rfl (by omega) (ih q1 ⟨fun j hj => ?_, hq1'⟩ _)
    by_cases e : j = i
    ·subst e
     rw [List.getElem?_eq_getElem hi, List.getElem?_eq_getElem (by omega), h0]
    ·exact hs j (by omega)
  ·rintro q ⟨hs, hq⟩ y4
   refine hI _ y4 q (CondP.no (decide_eq_false (by omega)) ⟨?_, hq⟩)
   rw [decide_eq_true]
   apply List.ext_getElem?
   intro j
   by_cases hj : j < xs.length
   ·exact hs j hj
   ·rw [List.getElem?_eq_none_iff.2 (by omega), List.getElem?_eq_none_iff.2 (by omega)]
theorem eq_strs (a b : Bs) : ((str a).toList == (str b).toList) = decide (a = b) := by
 rw [str_toList, str_toList]
 by_cases h : a = b
 ·subst h; simp
 ·simp [h]
theorem candAt_take {s : SpecV} {T : List Ent} {Z : List Int} {p : Nat} (hb : ∀ y ∈ Z.drop p, 0 ≤ y) : candAt s T Z p = ((List.range T.length).map fun (i : Nat) => (i : Int)).filter fun k => decide (toBs (Z.drop p) <+: bytesOf T k ∧ (toBs (Z.drop p)).length < (bytesOf T k).length ∧ (vocOf s T).Canon ((vocOf s T).encode (Z.take p) ++ [k])) := by
 unfold candAt
 rw [if_pos hb]
set_option maxHeartbeats 2000000 in
theorem refAt24_spec (w : World) (x : RvW) (s : SpecV) (T : List Ent) (h : RvAt w x s T) (p : Nat) (A : Option Addr) (C : Nat) (Z : List Int) (hr : Rw encInt 1 w A Z) (hC : Z.length ≤ C) (hl : Z.length ≤ 4000) (hp : p ≤ Z.length) (hit : ∀ y ∈ Z, itemOk s y = true) :
  CP 42 #[x.v, .int .i64 (p : Int), .slice A Z.length C] w fun e w' => ∃ l : Sl, e = .returned l.v ∧ w'.ownsRow w.heap.size tInt 1 l.v l.n ((candAt s T Z p).flatMap encInt) ∧ Below w.heap.size w w' := by
 refine calls_ret (vc42_calls x.t.b.a x.t.b.n x.t.b.c x.t.m.a x.t.m.n x.t.m.c x.b.b.a x.b.b.n x.b.b.c x.b.m.a x.b.m.n x.b.m.c x.sp.a x.sp.n x.sp.c (p : Int) A Z.length C w (fun u w' => ∃ l : Sl, u = l.v ∧ w'.ownsRow w.heap.size tInt 1 l.v l.n ((candAt s T Z p).flatMap encInt) ∧ Below w.heap.size w w') ?_) (by rintro v w' ⟨l, rfl, h⟩; exact ⟨l, rfl, h⟩)
 intro w1 hw1 w2 hw2
 have b1 : Below w.heap.size w w1 := by subst hw1; exact below_alloc _ _
 have l1 : w1.heap[w.heap.size]? = some (.cells x.cells tRv (0, 0)) := by subst hw1; exact alloc_new _ _
 have b2 : Below w1.heap.size w1 w2 := by subst hw2; exact below_alloc _ _
 have x2 : w2.heap[w1.heap.size]? = some (.cells #[] tU8 (0, 0)) := by subst hw2; exact alloc_new _ _
 have hb2 := below_then b1 b2
 have hz1 := b1.size
 have hok := h.ok
 have hvok := h.vok
 have hitem : ∀ y ∈ Z, -(s.specials.length : Int) ≤ y ∧ y < 256 := by
  intro y hy
  have := hit y hy
  unfold itemOk at this
  have := of_decide_eq_true this
  omega
 intro I hI
 have key := climb2 (α := Sl × World) (Z.length - p)
  (fun j y => (∀ z ∈ (Z.drop p).take j, 0 ≤ z) ∧ y.2.ownsRow w1.heap.size tU8 1 y.1.v y.1.n ((toBs ((Z.drop p).take j)).flatMap encU8) ∧ y.1.n = j ∧ Below w1.heap.size w1 y.2)
  (fun j y => I [.int .i64 ((p + j : Nat) : Int), y.1.v, .slice none 0 0] y.2) (⟨some (nb w1), 0, 0⟩, w2) ⟨(by rw [List.take_zero]; intro z hz; cases hz), own_zero x2 (Nat.le_refl _), rfl, b2⟩ ?_ ?_
 ·exact key
 ·rintro j hj ih ⟨f, q⟩ ⟨hnn, hown, hfn, hB⟩
  change q.ownsRow w1.heap.size tU8 1 f.v f.n _ at hown
  change f.n = j at hfn
  change Below w1.heap.size w1 q at hB
  have hBw := below_then b1 hB
  have hj2 : p + j < Z.length := by omega
  obtain ⟨a, ha, c0⟩ := cell_rw (hr.on hBw) hj2 rfl
  have hat : (Z.drop p)[j]? = some Z[p + j] := by rw [List.getElem?_drop, List.getElem?_eq_getElem hj2]
  refine hI _ f.a f.n f.c none 0 0 q (CondP.yes (decide_eq_true (by omega)) (NilC.mk a ha ⟨by omega, by omega, _, c0, CondP.mk (fun hneg => ?_) fun hneg => ?_⟩))
  ·have hneg := of_decide_eq_true hneg
   have : candAt s T Z p = [] := by
    unfold candAt
    rw [if_neg fun hall => ?_]
    have := hall _ (List.mem_of_getElem? hat)
    omega
   rw [this]
   exact ⟨sl0, rfl, own_none _ _ _ _ encInt, hBw⟩
  ·have hneg := of_decide_eq_false hneg
   have hb := hitem _ (List.getElem_mem hj2)
   refine NilC.mk a ha ⟨by omega, by omega, _, c0, ?_⟩
   intro q2 hq2
   rw [one_u8 (x := Z[p + j]) (by omega)] at hq2
   obtain ⟨f', q3, e1, e2, e3, e4, _⟩ := elU8.push hown (UInt8.ofNat (Z[p + j]).toNat) hq2 rfl hB.size (by omega) (by decide)
   have et : (Z.drop p).take (j + 1) = (Z.drop p).take j ++ [Z[p + j]] := by
    rw [List.take_add_one, hat]
    rfl
   refine ⟨f'.a, f'.n, f'.c, q3, e2, Ar.nat (p + (j + 1)) (by omega) (by omega) (ih (f', q3) ⟨?_, ?_, by show f'.n = j + 1; omega, e4 _ hB⟩)⟩
   ·rw [et]
    intro z hz
    rcases List.mem_append.1 hz with hz | hz
    ·exact hnn z hz
    ·rw [List.mem_singleton.1 hz]
     omega
   ·have e : toBs ((Z.drop p).take (j + 1)) = toBs ((Z.drop p).take j) ++ [UInt8.ofNat (Z[p + j]).toNat] := by
     rw [et]
     unfold toBs
     rw [List.map_append]
     rfl
    rw [e]
    exact e3
 ·rintro ⟨f, q⟩ ⟨hnn, hown, hfn, hB⟩
  change q.ownsRow w1.heap.size tU8 1 f.v f.n _ at hown
  change Below w1.heap.size w1 q at hB
  have hall : (Z.drop p).take (Z.length - p) = Z.drop p := List.take_of_length_le (by rw [List.length_drop]; exact Nat.le_refl _)
  rw [hall] at hnn hown
  have hcand := candAt_take (s := s) (T := T) hnn
  obtain ⟨B, hBs⟩ : ∃ B, B = toBs (Z.drop p) := ⟨_, rfl⟩
  have hBl : B.length = Z.length - p := by rw [hBs]; unfold toBs; rw [List.length_map, List.length_drop]
  rw [← hBs] at hown hcand
  refine hI _ f.a f.n f.c none 0 0 q (CondP.no (decide_eq_false (by omega)) ⟨_, q, run_str_own (P := Tryz.prog) undBytes undU8 undStr (by rw [← u8_cells]; exact hown), ?_⟩)
  intro w7 hw7
  have b7 : Below q.heap.size q w7 := by subst hw7; exact drew_on q
  have hB7 := below_then hB b7
  have hBw7 := below_then b1 hB7
  have l7 := held_on hB7 l1
  refine ⟨_, _, _, _, _, _, _, _, _, _, _, _, _, _, _, agg5 l7, by omega, by omega, by omega, trivial, trivial, ?_⟩
  have hcut := ((hr.on hBw7).cut 0 C hC).take p
  rw [List.drop_zero] at hcut
  have hZi : (vocOf s T).Items (Z.take p) := by
   intro y hy
   show -((s.specials.map (·.1)).length : Int) ≤ y ∧ y < 256
   rw [List.length_map]
   exact hitem y (List.mem_of_mem_take hy)
  have henc := refVEncode_spec w7 x s T (h.on hBw7) (slBase A 0 C 1) (C - 0) (Z.take p) hcut (by rw [List.length_take]; omega) hZi
  rw [List.length_take, Nat.min_eq_left hp] at henc
  refine Calls.mono (show Calls _ _ #[x.v, .slice (slBase A 0 C 1) p (C - 0)] w7 _ from henc) ?_
  rintro e w8 ⟨ml, rfl, hml, b8, _⟩
  obtain ⟨made, hmade⟩ : ∃ made, made = (vocOf s T).encode (Z.take p) := ⟨_, rfl⟩
  rw [← hmade] at hml hcand
  have hmlen : made.length ≤ 4000 := by
   rw [hmade]
   have := encode_short (vocOf s T) (Z.take p)
   rw [List.length_take] at this
   omega
  have hmh : ∀ t ∈ made, (vocOf s T).Has t := by
   rw [hmade]
   exact (Voc.encode_items hvok hZi).2
  have hB8 := below_then hB7 b8
  have hBw8 := below_then b1 hB8
  have l8 := held_on b8 l7
  refine ⟨ml.a, ml.n, ml.c, rfl, ?_⟩
  intro I8 hI8
  have htn := h.t.n1
  have hmost := hok.most
  obtain ⟨P, hP⟩ : ∃ P : Int → Bool, P = fun k => decide (B <+: bytesOf T k ∧ B.length < (bytesOf T k).length ∧ (vocOf s T).Canon (made ++ [k])) := ⟨_, rfl⟩
  have hPe : (((List.range T.length).map fun (i : Nat) => (i : Int)).filter fun k => decide (B <+: bytesOf T k ∧ B.length < (bytesOf T k).length ∧ (vocOf s T).Canon (made ++ [k]))) = ((List.range T.length).map fun (i : Nat) => (i : Int)).filter P := by rw [hP]
  rw [hPe] at hcand
  have pstep : ∀ k : Nat, ((List.range (k + 1)).map fun (i : Nat) => (i : Int)).filter P = ((List.range k).map fun (i : Nat) => (i : Int)).filter P ++ if P (k : Int) = true then [(k : Int)] else [] := by
   intro k
   rw [List.range_succ, List.map_append, List.filter_append]
   congr 1
   by_cases hp : P (k : Int) = true
   ·simp [hp]
   ·simp [hp]
  have plen : ∀ k : Nat, (((List.range k).map fun (i : Nat) => (i : Int)).filter P).length ≤ k := by
   intro k
   have := List.length_filter_le P ((List.range k).map fun (i : Nat) => (i : Int))
   rw [List.length_map, List.length_range] at this
   exact this
  have key2 := climb2 (α := Sl × World) T.length
   (fun k y => y.2.ownsRow w8.heap.size tInt 1 y.1.v y.1.n ((((List.range k).map fun (i : Nat) => (i : Int)).filter P).flatMap encInt) ∧ Below w8.heap.size w8 y.2)
   (fun k y => I8 [.int .i64 (k : Int), y.1.v] y.2) (sl0, w8) ⟨own_none _ _ _ _ encInt, Below.refl _ _⟩ ?_ ?_
  ·exact key2
  ·rintro k hk ih ⟨g, q8⟩ ⟨ho, hq⟩
   change q8.ownsRow w8.heap.size tInt 1 g.v g.n _ at ho
   change Below w8.heap.size w8 q8 at hq
   have hgn : g.n = (((List.range k).map fun (i : Nat) => (i : Int)).filter P).length := (Rw.of_own ho (fun _ => rfl) (by decide)).2
   have hgl := plen k
   have lq := held_on hq l8
   have hxq := h.on (below_then hBw8 hq)
   have hkm : k < (T.map (·.1)).length := by rw [List.length_map]; exact hk
   obtain ⟨a, ha, c0⟩ := cell_rw hxq.t.r1 hkm rfl
   have hbk : bytesOf T (k : Int) = (T.map (·.1))[k] := by
    unfold bytesOf
    rw [show ((k : Nat) : Int).toNat = k by omega, List.getElem?_eq_getElem hk, List.getElem_map]
    rfl
   obtain ⟨bk, hbke⟩ : ∃ bk, bk = (T.map (·.1))[k] := ⟨_, rfl⟩
   rw [← hbke] at c0 hbk
   have same : P (k : Int) = false → ∀ (f' : Sl) (q' : World), q'.ownsRow w8.heap.size tInt 1 f'.v f'.n ((((List.range k).map fun (i : Nat) => (i : Int)).filter P).flatMap encInt) → Below w8.heap.size w8 q' → I8 [.int .i64 ((k + 1 : Nat) : Int), f'.v] q' := by
    intro hp f' q' ho' hq'
    refine ih (f', q') ⟨?_, hq'⟩
    rw [pstep, if_neg (by rw [hp]; decide), List.append_nil]
    exact ho'
   refine hI8 _ g.a g.n g.c q8 ⟨_, _, _, by rw [Addr.add_add, ptr_add0 _ _ lq]; rfl, CondP.yes (decide_eq_true (by omega)) ?_⟩
   intro J hJ
   refine ⟨_, _, _, by rw [Addr.add_add, ptr_add0 _ _ lq]; rfl, NilC.mk a ha ⟨by omega, by omega, str bk, c0, CondP.mk (fun hle => ?_) fun hle => ?_⟩⟩
   ·have hle := of_decide_eq_true hle
    rw [str_size, str_size] at hle
    refine hJ g.a g.n g.c q8 (Ar.nat (k + 1) rfl (by omega) (same ?_ g q8 ho hq))
    rw [hP]
    exact decide_eq_false fun hh => by
     have := hh.2.1
     rw [hbk] at this
     omega
   ·have hle := of_decide_eq_false hle
    rw [str_size, str_size] at hle
    have hext : (str bk).extract (0 : Int).toNat ((((str B).size : Nat) : Int)).toNat = str (bk.take B.length) := by
     rw [str_extract, str_size]
     rfl
    refine ⟨by omega, by omega, by rw [str_size, str_size]; omega, ?_⟩
    rw [show (Int.toNat 0) = (0 : Int).toNat from rfl, hext, eq_strs]
    refine CondP.mk (fun hne => ?_) fun heq => ?_
    ·have hne : ¬ bk.take B.length = B := by simpa using hne
     refine hJ g.a g.n g.c q8 (Ar.nat (k + 1) rfl (by omega) (same ?_ g q8 ho hq))
     rw [hP]
     exact decide_eq_false fun hh => by
      have := List.prefix_iff_eq_take.1 hh.1
      rw [hbk] at this
      exact hne this.symm
    ·have heq : bk.take B.length = B := by simpa using heq
     have hpre : B <+: bk := by rw [← heq]; exact List.take_prefix _ _
     have hml8 := hml.on hq
     have hmln := hml.n
     obtain ⟨r1, w11, d1, d2, d3, d4, _, _⟩ := elInt.spread (s := sl0) (own_none q8 q8.heap.size tInt 1 encInt) hml8 (Nat.le_refl _) (by show 0 ≤ _; omega) (by omega) (by decide)
     have d1 : r1.n = 0 + ml.n := d1
     have b11 : Below q8.heap.size q8 w11 := d4 q8 (Below.refl _ _)
     refine ⟨r1.a, r1.n, r1.c, w11, d2, ?_⟩
     intro w12 hw12
     have b12 : Below w11.heap.size w11 w12 := by subst hw12; exact drew_on w11
     have hq12 := below_then (below_then hq b11) b12
     refine ⟨_, _, _, _, _, _, _, _, _, _, _, _, _, _, _, agg5 (held_on hq12 l8), ?_⟩
     intro w13 hw13
     have b13 : Below w12.heap.size w12 w13 := by subst hw13; exact below_alloc _ _
     have hq13 := below_then hq12 b13
     have own12 : w12.ownsRow q8.heap.size tInt 1 r1.v r1.n (made.flatMap encInt) := own_on d3 b12
     have hz812 : q8.heap.size ≤ w12.heap.size := Nat.le_trans b11.size b12.size
     obtain ⟨r2, w14, e1, e2, e3, e4, _⟩ := elInt.push own12 (k : Int) hw13 rfl hz812 (by omega) (by decide)
     have b14 : Below q8.heap.size q8 w14 := e4 q8 (below_then b11 b12)
     have hq14 := below_then hq b14
     refine ⟨agg5 (held_on hq13 l8), r2.a, r2.n, r2.c, w14, e2, agg5 (held_on hq14 l8), ?_⟩
     obtain ⟨hrw14, hn14⟩ := Rw.of_own e3 (fun _ => rfl) (by decide)
     have hin : (vocOf s T).Has (k : Int) := .inl ((tok_iff hok _).1 ⟨by omega, by omega⟩)
     have hcan := refCanon_spec w14 x s T (h.on (below_then hBw8 hq14)) r2.a r2.c (made ++ [(k : Int)]) hrw14 (by rw [List.length_append]; simp; omega) (fun t ht => by
      rcases List.mem_append.1 ht with ht | ht
      ·exact hmh t ht
      ·rw [List.mem_singleton.1 ht]; exact hin)
     rw [← hn14] at hcan
     refine hcan.mono ?_
     rintro e w15 ⟨rfl, b15⟩
     have hq15 := below_then hq14 b15
     have ho15 : w15.ownsRow w8.heap.size tInt 1 g.v g.n _ := own_on (own_on ho b14) b15
     refine ⟨_, rfl, CondP.mk (fun hb => ?_) fun hb => ?_⟩
     ·have hb := of_decide_eq_true hb
      have hPk : P (k : Int) = true := by
       rw [hP]
       exact decide_eq_true ⟨by rw [hbk]; exact hpre, by rw [hbk]; omega, hb⟩
      intro w16 hw16
      obtain ⟨g', w17, t1, t2, t3, t4, _⟩ := elInt.push ho15 (k : Int) hw16 rfl hq15.size (by omega) (by decide)
      refine ⟨g'.a, g'.n, g'.c, w17, t2, hJ g'.a g'.n g'.c w17 (Ar.nat (k + 1) rfl (by omega) (ih (g', w17) ⟨?_, t4 _ hq15⟩))⟩
      rw [pstep, if_pos hPk]
      exact t3
     ·have hb := of_decide_eq_false hb
      have hPk : P (k : Int) = false := by
       rw [hP]
       exact decide_eq_false fun hh => hb hh.2.2
      exact hJ g.a g.n g.c w15 (Ar.nat (k + 1) rfl (by omega) (same hPk g w15 ho15 hq15))
  ·rintro ⟨g, q8⟩ ⟨ho, hq⟩
   change q8.ownsRow w8.heap.size tInt 1 g.v g.n _ at ho
   change Below w8.heap.size w8 q8 at hq
   have lq := held_on hq l8
   exact hI8 _ g.a g.n g.c q8 ⟨_, _, _, by rw [Addr.add_add, ptr_add0 _ _ lq]; rfl, CondP.no (decide_eq_false (by omega)) ⟨g, rfl, own_base (by rw [hcand]; exact ho) hBw8.size, below_then hBw8 hq⟩⟩
theorem candTo_len (s : SpecV) {T : List Ent} (hok : TOk T) (Z : List Int) : ∀ n, (candTo s T Z n).length ≤ 1000 * n
 | 0 => Nat.le_refl _
 | n + 1 => by
  have := candTo_len s hok Z n
  have := candAt_few s hok Z n
  rw [candTo_succ, List.length_append, List.length_map]
  omega
theorem row_other {w4 w6 : World} {B : Nat} {g : Sl} {e : TypeId} {sz : Nat} {vs : List Value} (ho : w4.ownsRow B e sz g.v g.n vs) (h5 : ∀ k, k < w4.heap.size → g.v.ownBlock ≠ some k → w6.heap[k]? = w4.heap[k]?) {j : Nat} {c : Array Value} {t : TypeId} {fz : Nat × Nat} (ht : t ≠ e) (hj : w4.heap[j]? = some (.cells c t fz)) : w6.heap[j]? = w4.heap[j]? := by
 refine h5 j (Array.getElem?_eq_some_iff.1 hj).1 fun e0 => ?_
 rcases ho.2 with ⟨e1, _⟩ | ⟨b, cap, cur, e1, _, hb, _⟩
 ·rw [e1] at e0
  simp [Value.ownBlock] at e0
 ·rw [e1] at e0
  obtain rfl : b = j := by simpa [Value.ownBlock] using e0
  rw [hb] at hj
  cases hj
  exact ht rfl
theorem own_keep {w w' : World} {B : Nat} {e : TypeId} {sz n : Nat} {v : Value} {xs : List Value} (h : w.ownsRow B e sz v n xs) (hk : ∀ (j : Nat) (c : Array Value) (fz : Nat × Nat), B ≤ j → w.heap[j]? = some (.cells c e fz) → w'.heap[j]? = w.heap[j]?) : w'.ownsRow B e sz v n xs := by
 refine own_same h fun k hk2 => ?_
 rcases h.2 with ⟨e0, _⟩ | ⟨g, cap, cur, e0, hg, hgb, _⟩
 ·rw [e0] at hk2
  simp [Value.ownBlock] at hk2
 ·rw [e0] at hk2
  obtain rfl : g = k := by simpa [Value.ownBlock] using hk2
  exact hk _ _ _ hg hgb
set_option maxHeartbeats 1000000 in
theorem refAll24_spec (w : World) (x : RvW) (s : SpecV) (T : List Ent) (h : RvAt w x s T) (A : Option Addr) (C : Nat) (Z : List Int) (hr : Rw encInt 1 w A Z) (hC : Z.length ≤ C) (hl : Z.length ≤ 4000) (hit : ∀ y ∈ Z, itemOk s y = true) :
  CP 39 #[x.v, .slice A Z.length C] w fun e w' => ∃ l : Sl, e = .returned l.v ∧ w'.ownsRow w.heap.size tHealT 2 l.v l.n ((candAll s T Z).flatMap encPair) ∧ Below w.heap.size w w' := by
 refine calls_ret (vc39_calls x.t.b.a x.t.b.n x.t.b.c x.t.m.a x.t.m.n x.t.m.c x.b.b.a x.b.b.n x.b.b.c x.b.m.a x.b.m.n x.b.m.c x.sp.a x.sp.n x.sp.c A Z.length C w (fun u w' => ∃ l : Sl, u = l.v ∧ w'.ownsRow w.heap.size tHealT 2 l.v l.n ((candAll s T Z).flatMap encPair) ∧ Below w.heap.size w w') ?_) (by rintro v w' ⟨l, rfl, h⟩; exact ⟨l, rfl, h⟩)
 intro w1 hw1
 have b1 : Below w.heap.size w w1 := by subst hw1; exact below_alloc _ _
 have l1 : w1.heap[w.heap.size]? = some (.cells x.cells tRv (0, 0)) := by subst hw1; exact alloc_new _ _
 have hok := h.ok
 intro I hI
 have key := climb2 (α := Sl × World) Z.length
  (fun i y => y.2.ownsRow w1.heap.size tHealT 2 y.1.v y.1.n ((candTo s T Z i).flatMap encPair) ∧ Below w1.heap.size w1 y.2)
  (fun i y => I [.int .i64 (i : Int), y.1.v] y.2) (sl0, w1) ⟨own_none _ _ _ _ encPair, Below.refl _ _⟩ ?_ ?_
 ·exact key
 ·rintro i hi ih ⟨f, q⟩ ⟨hown, hB⟩
  change q.ownsRow w1.heap.size tHealT 2 f.v f.n _ at hown
  change Below w1.heap.size w1 q at hB
  have hBw := below_then b1 hB
  have hfn : f.n = (candTo s T Z i).length := (Rw.of_own hown (fun _ => rfl) (by decide)).2
  have hcl := candTo_len s hok Z i
  refine hI _ f.a f.n f.c q (CondP.yes (decide_eq_true (by omega)) ⟨_, _, _, _, _, _, _, _, _, _, _, _, _, _, _, agg5 (held_on hB l1), ?_⟩)
  refine (refAt24_spec q x s T (h.on hBw) i A C Z (hr.on hBw) hC hl (by omega) hit).mono ?_
  rintro e q3 ⟨l, rfl, hl3, b3⟩
  have hB3 := below_then hB b3
  have hown3 := own_on hown b3
  have hln : l.n = (candAt s T Z i).length := (Rw.of_own hl3 (fun _ => rfl) (by decide)).2
  have hfew := candAt_few s hok Z i
  refine ⟨l.a, l.n, l.c, rfl, ?_⟩
  intro J hJ
  have key2 := climb2 (α := Sl × World) l.n
   (fun k y => y.2.ownsRow w1.heap.size tHealT 2 y.1.v y.1.n ((candTo s T Z i ++ ((candAt s T Z i).take k).map fun x => ((i : Int), x)).flatMap encPair) ∧ y.2.ownsRow q.heap.size tInt 1 l.v l.n ((candAt s T Z i).flatMap encInt) ∧ Below w1.heap.size w1 y.2)
   (fun k y => J [.int .i64 (k : Int), y.1.v] y.2) (f, q3) ⟨by rw [List.take_zero, List.map_nil, List.append_nil]; exact hown3, hl3, hB3⟩ ?_ ?_
  ·exact key2
  ·rintro k hk ihk ⟨g, q4⟩ ⟨ho4, hl4, hB4⟩
   change q4.ownsRow w1.heap.size tHealT 2 g.v g.n _ at ho4
   change q4.ownsRow q.heap.size tInt 1 l.v l.n _ at hl4
   change Below w1.heap.size w1 q4 at hB4
   have hkx : k < (candAt s T Z i).length := by omega
   obtain ⟨a, ha, c0⟩ := cell_rw (Rw.of_own hl4 (fun _ => rfl) (by decide)).1 hkx rfl
   refine hJ _ g.a g.n g.c q4 (CondP.yes (decide_eq_true (by omega)) (NilC.mk a ha ⟨by omega, by omega, _, c0, ?_⟩))
   intro q5 hq5
   have hgn : g.n = (candTo s T Z i ++ ((candAt s T Z i).take k).map fun x => ((i : Int), x)).length := (Rw.of_own ho4 (fun _ => rfl) (by decide)).2
   rw [List.length_append, List.length_map, List.length_take] at hgn
   obtain ⟨g', q6, e1, e2, e3, e4, e5⟩ := elHeal.push ho4 ((i : Int), (candAt s T Z i)[k]) hq5 rfl hB4.size (by omega) (by decide)
   have hl6 : q6.ownsRow q.heap.size tInt 1 l.v l.n ((candAt s T Z i).flatMap encInt) := own_keep hl4 fun j c fz _ hj => row_other ho4 e5 (by decide) hj
   refine ⟨g'.a, g'.n, g'.c, q6, e2, Ar.nat (k + 1) rfl (by omega) (ihk (g', q6) ⟨?_, hl6, e4 _ hB4⟩)⟩
   have e : (candTo s T Z i ++ ((candAt s T Z i).take (k + 1)).map fun x => ((i : Int), x)) = (candTo s T Z i ++ ((candAt s T Z i).take k).map fun x => ((i : Int), x)) ++ [((i : Int), (candAt s T Z i)[k])] := by
    rw [List.take_add_one, List.getElem?_eq_getElem hkx, List.map_append, List.append_assoc]
    rfl
   rw [e]
   exact e3
  ·rintro ⟨g, q4⟩ ⟨ho4, hl4, hB4⟩
   change q4.ownsRow w1.heap.size tHealT 2 g.v g.n _ at ho4
   refine hJ _ g.a g.n g.c q4 (CondP.no (decide_eq_false (by omega)) (Ar.nat (i + 1) rfl (by omega) (ih (g, q4) ⟨?_, hB4⟩)))
   rw [candTo_succ]
   rw [hln, List.take_length] at ho4
   exact ho4
 ·rintro ⟨f, q⟩ ⟨hown, hB⟩
  change q.ownsRow w1.heap.size tHealT 2 f.v f.n _ at hown
  change Below w1.heap.size w1 q at hB
  exact hI _ f.a f.n f.c q (CondP.no (decide_eq_false (by omega)) ⟨f, rfl, own_base hown b1.size, below_then b1 hB⟩)
def BestTo (xs : List (Int × Bs)) (t : Bs) (i : Nat) : Option Nat → Prop
 | none => ∀ j (hj : j < xs.length), j < i → ¬ (xs[j]).2 <+: t
 | some k => ∃ hk : k < xs.length, k < i ∧ (xs[k]).2 <+: t ∧ ∀ j (hj : j < xs.length), j < i → (xs[j]).2 <+: t → (xs[j]).2.length ≤ (xs[k]).2.length ∧ (j < k → (xs[j]).2.length < (xs[k]).2.length)
theorem best_only {xs : List (Int × Bs)} {t : Bs} {a b : Option Nat} (ha : BestTo xs t xs.length a) (hb : BestTo xs t xs.length b) : a = b := by
 cases a with
 | none =>
  cases b with
  | none => rfl
  | some k => obtain ⟨hk, _, hp, _⟩ := hb; exact absurd hp (ha k hk hk)
 | some k =>
  obtain ⟨hk, _, hp, hall⟩ := ha
  cases b with
  | none => exact absurd hp (hb k hk hk)
  | some m =>
   obtain ⟨hm, _, hq, hbll⟩ := hb
   obtain ⟨a1, a2⟩ := hall m hm hm hq
   obtain ⟨b1, b2⟩ := hbll k hk hk hp
   have : k = m := by
    rcases Nat.lt_trichotomy k m with h | h | h
    ·have := b2 h; omega
    ·exact h
    ·have := a2 h; omega
   rw [this]
theorem idx_first {l : List Bs} {k : Bs} {i : Nat} (h : l.idxOf? k = some i) : ∀ j (hj : j < l.length), l[j] = k → i ≤ j := by
 unfold List.idxOf? at h
 obtain ⟨hi, hp, hf⟩ := List.findIdx?_eq_some_iff_getElem.1 h
 intro j hj he
 refine Nat.le_of_not_lt fun hlt => ?_
 have := hf j hlt
 rw [he] at this
 simp at this
theorem idx_miss {l : List Bs} {k : Bs} (h : l.idxOf? k = none) : ∀ x ∈ l, x ≠ k := by
 unfold List.idxOf? at h
 intro x hx he
 have := List.findIdx?_eq_none_iff.1 h x hx
 rw [he] at this
 simp at this
theorem markHit_best {xs : List (Int × Bs)} {t : Bs} : ∀ {n : Nat}, n ≤ t.length → match markHit xs t n with
  | none => ∀ j (hj : j < xs.length) k, 1 ≤ k → k ≤ n → (xs[j]).2 ≠ t.take k
  | some i => ∃ (hi : i < xs.length) (k : Nat), 1 ≤ k ∧ k ≤ n ∧ (xs[i]).2 = t.take k ∧ ∀ j (hj : j < xs.length) m, 1 ≤ m → m ≤ n → (xs[j]).2 = t.take m → m ≤ k ∧ (m = k → i ≤ j)
 | 0, _ => by
  show ∀ j (hj : j < xs.length) k, 1 ≤ k → k ≤ 0 → (xs[j]).2 ≠ t.take k
  intro j hj k h1 h2
  omega
 | n + 1, hn => by
  have ih := markHit_best (xs := xs) (t := t) (n := n) (by omega)
  unfold markHit
  cases hx : (xs.map (·.2)).idxOf? (t.take (n + 1)) with
  | some i =>
   obtain ⟨hi, he⟩ := idx_get hx
   rw [List.length_map] at hi
   rw [List.getElem_map] at he
   refine ⟨hi, n + 1, by omega, Nat.le_refl _, he, fun j hj m h1 h2 hm => ⟨h2, fun e => ?_⟩⟩
   subst e
   exact idx_first hx j (by rw [List.length_map]; exact hj) (by rw [List.getElem_map]; exact hm)
  | none =>
   have hmiss := idx_miss hx
   have no : ∀ j (hj : j < xs.length), (xs[j]).2 ≠ t.take (n + 1) := fun j hj => hmiss _ (List.mem_map.2 ⟨_, List.getElem_mem hj, rfl⟩)
   dsimp only
   cases hm : markHit xs t n with
   | none =>
    rw [hm] at ih
    intro j hj k h1 h2
    by_cases e : k = n + 1
    ·subst e; exact no j hj
    ·exact ih j hj k h1 (by omega)
   | some i =>
    rw [hm] at ih
    obtain ⟨hi, k, h1, h2, h3, h4⟩ := ih
    refine ⟨hi, k, h1, by omega, h3, fun j hj m m1 m2 hm => ?_⟩
    by_cases e : m = n + 1
    ·subst e; exact absurd hm (no j hj)
    ·exact h4 j hj m m1 (by omega) hm
theorem mostOf_le (xs : List (Int × Bs)) : ∀ x ∈ xs, (x.2.length : Int) ≤ mostOf xs := by
 have key : ∀ (l : List (Int × Bs)) (n : Int), n ≤ l.foldl (fun n x => if (x.2.length : Int) > n then (x.2.length : Int) else n) n ∧ ∀ x ∈ l, (x.2.length : Int) ≤ l.foldl (fun n x => if (x.2.length : Int) > n then (x.2.length : Int) else n) n := by
  intro l
  induction l with
  | nil => exact fun n => ⟨Int.le_refl _, fun x hx => by cases hx⟩
  | cons y l ih =>
   intro n
   rw [List.foldl_cons]
   obtain ⟨h1, h2⟩ := ih (if (y.2.length : Int) > n then (y.2.length : Int) else n)
   have h3 : n ≤ (if (y.2.length : Int) > n then (y.2.length : Int) else n) ∧ (y.2.length : Int) ≤ (if (y.2.length : Int) > n then (y.2.length : Int) else n) := by split <;> omega
   refine ⟨by omega, fun x hx => ?_⟩
   rcases List.mem_cons.1 hx with rfl | hx
   ·omega
   ·exact h2 x hx
 exact (key xs 0).2
theorem markBeg_best {xs : List (Int × Bs)} (hne : ∀ x ∈ xs, 1 ≤ x.2.length) (t : Bs) : BestTo xs t xs.length (markBeg xs t) := by
 have h0 := mostOf_nn xs
 have key := markHit_best (xs := xs) (t := t) (n := (min (mostOf xs) t.length).toNat) (by omega)
 have pre : ∀ j (hj : j < xs.length), (xs[j]).2 <+: t → (xs[j]).2 = t.take (xs[j]).2.length ∧ 1 ≤ (xs[j]).2.length ∧ (xs[j]).2.length ≤ (min (mostOf xs) t.length).toNat := by
  intro j hj hp
  have h1 := mostOf_le xs _ (List.getElem_mem hj)
  have h2 := hp.length_le
  exact ⟨List.prefix_iff_eq_take.1 hp, hne _ (List.getElem_mem hj), by omega⟩
 unfold markBeg
 cases hm : markHit xs t (min (mostOf xs) t.length).toNat with
 | none =>
  rw [hm] at key
  intro j hj _ hp
  obtain ⟨p1, p2, p3⟩ := pre j hj hp
  exact key j hj _ p2 p3 p1
 | some i =>
  rw [hm] at key
  obtain ⟨hi, k, h1, h2, h3, h4⟩ := key
  have hkl : (xs[i]).2.length = k := by rw [h3, List.length_take]; omega
  refine ⟨hi, hi, by rw [h3]; exact List.take_prefix _ _, fun j hj _ hp => ?_⟩
  obtain ⟨p1, p2, p3⟩ := pre j hj hp
  obtain ⟨q1, q2⟩ := h4 j hj _ p2 p3 p1
  refine ⟨by omega, fun hlt => ?_⟩
  have : (xs[j]).2.length ≠ k := fun e => by have := q2 e; omega
  omega
def markI : Option Nat → Int
 | none => 0
 | some i => -1 - (i : Int)
theorem parse_items {s : SpecV} : ∀ (n : Nat) (t : Bs), t.length ≤ n → ∀ y ∈ parseV s.specials t, itemOk s y = true
 | _, [], _, y, hy => by cases hy
 | 0, b :: r, h, _, _ => by simp at h
 | n + 1, b :: r, h, y, hy => by
  have h : r.length ≤ n := by simpa using h
  cases hm : markBeg s.specials (b :: r) with
  | none =>
   rw [parseV_none hm] at hy
   rcases List.mem_cons.1 hy with rfl | hy
   ·have := b.toNat_lt
    unfold itemOk
    exact decide_eq_true (by omega)
   ·exact parse_items n r h y hy
  | some i =>
   obtain ⟨hi, hp, _⟩ := markOf_pos hm
   rw [parseV_some hm hi] at hy
   rcases List.mem_cons.1 hy with rfl | hy
   ·unfold itemOk
    exact decide_eq_true (by omega)
   ·exact parse_items n _ (by rw [List.length_drop]; simp; omega) y hy
theorem begins09_spec (a b : Bs) (w : World) : CP 136 #[.string (str a), .string (str b)] w fun e w' => e = .returned (.bool (decide (b <+: a))) ∧ w' = w := by
 refine calls_ret (vc136_calls (str a) (str b) w (fun u w' => u = .bool (decide (b <+: a)) ∧ w' = w) ?_) (by rintro v w' ⟨rfl, h⟩; exact ⟨rfl, h⟩)
 refine CondP.mk (fun h => ?_) fun h => ?_
 ·have h := of_decide_eq_true h
  rw [str_size, str_size] at h
  refine ⟨by omega, by omega, by rw [str_size, str_size]; omega, ?_, rfl⟩
  rw [str_extract, str_size, eq_strs]
  rw [show ((b.length : Nat) : Int).toNat - (0 : Int).toNat = b.length by omega, show (0 : Int).toNat = 0 from rfl, List.drop_zero]
  congr 1
  rw [decide_eq_decide]
  exact ⟨fun e => List.prefix_iff_eq_take.2 e.symm, fun e => (List.prefix_iff_eq_take.1 e).symm⟩
 ·have h := of_decide_eq_false h
  rw [str_size, str_size] at h
  refine ⟨?_, rfl⟩
  rw [decide_eq_false fun hp => ?_]
  have := hp.length_le
  omega
theorem refAt09_spec (w : World) (A : Option Addr) (C : Nat) (xs : List (Int × Bs)) (hr : Rw encSpecial 2 w A xs) (hl : xs.length ≤ 1000) (hne : ∀ x ∈ xs, 1 ≤ x.2.length) (t : Bs) :
  CP 75 #[.slice A xs.length C, .string (str t)] w fun e w' => e = .returned (.int .i64 (markI (markBeg xs t))) ∧ Below w.heap.size w w' := by
 refine calls_ret (vc75_calls A xs.length C (str t) w (fun u w' => u = .int .i64 (markI (markBeg xs t)) ∧ Below w.heap.size w w') ?_) (by rintro v w' ⟨rfl, h⟩; exact ⟨rfl, h⟩)
 have txt : ∀ {q : World}, Below w.heap.size w q → ∀ {i : Nat} (hi : i < xs.length), ∃ p, A = some p ∧ q.cell? ((p.add ((i : Int).toNat * 2)).add 1) = some (.string (str (xs[i]).2)) := by
  intro q hq i hi
  obtain ⟨p, hp, _, hc⟩ := (hr.on hq) i _ (List.getElem?_eq_getElem hi)
  have c1 := hc 1 _ rfl
  rw [show (i : Int).toNat * 2 = i * 2 by omega]
  exact ⟨p, hp, c1⟩
 intro I hI
 have key := climb2 (α := Option Nat × World) xs.length (fun i y => BestTo xs t i y.1 ∧ Below w.heap.size w y.2) (fun i y => I [.int .i64 (i : Int), .int .i64 (markI y.1)] y.2) (none, w) ⟨fun j _ hj => absurd hj (Nat.not_lt_zero j), Below.refl _ _⟩ ?_ ?_
 ·exact key
 ·rintro i hi ih ⟨o, q⟩ ⟨hB, hq⟩
  change BestTo xs t i o at hB
  change Below w.heap.size w q at hq
  refine hI _ _ q (CondP.yes (decide_eq_true (by omega)) ?_)
  intro J hJ w3 hw3
  have hq3 := below_then hq (show Below q.heap.size q w3 by subst hw3; exact drew_on q)
  have go : ∀ o', BestTo xs t (i + 1) o' → J [.int .i64 (markI o')] w3 := fun o' h' => hJ _ w3 (Ar.nat (i + 1) rfl (by omega) (ih (o', w3) ⟨h', hq3⟩))
  obtain ⟨p, hp, c1⟩ := txt hq3 hi
  refine NilC.mk p hp ⟨by omega, by omega, _, c1, (begins09_spec t (xs[i]).2 w3).mono ?_⟩
  rintro e w4 ⟨rfl, hw4⟩
  subst w4
  refine ⟨_, rfl, CondP.mk (fun hb => ?_) fun hb => ?_⟩
  ·have hb := of_decide_eq_true hb
   cases o with
   | none =>
    refine CondP.yes rfl (Ar.ok64 (by omega) (by omega) (go (some i) ⟨hi, by omega, hb, fun j hj hji hpj => ?_⟩))
    by_cases e : j = i
    ·subst e; exact ⟨Nat.le_refl _, fun h => by omega⟩
    ·exact absurd hpj (hB j hj (by omega))
   | some k =>
    obtain ⟨hk, hki, hkp, hall⟩ := hB
    obtain ⟨p2, hp2, c2⟩ := txt hq3 hk
    refine CondP.no (beq_eq_false_iff_ne.2 (by show (-1 - (k : Int)) ≠ 0; omega)) (NilC.mk p hp ⟨by omega, by omega, _, c1, Ar.nat k (by show -1 - (-1 - (k : Int)) = _; omega) (by omega) (NilC.mk p2 hp2 ⟨by omega, by omega, _, c2, CondP.mk (fun hs => ?_) fun hs => ?_⟩)⟩)
    ·have hs := of_decide_eq_true hs
     rw [str_size, str_size] at hs
     refine Ar.ok64 (by omega) (by omega) (go (some i) ⟨hi, by omega, hb, fun j hj hji hpj => ?_⟩)
     by_cases e : j = i
     ·subst e; exact ⟨Nat.le_refl _, fun h => by omega⟩
     ·have := (hall j hj (by omega) hpj).1
      exact ⟨by omega, fun _ => by omega⟩
    ·have hs := of_decide_eq_false hs
     rw [str_size, str_size] at hs
     refine go (some k) ⟨hk, by omega, hkp, fun j hj hji hpj => ?_⟩
     by_cases e : j = i
     ·subst e; exact ⟨by omega, fun h => by omega⟩
     ·exact hall j hj (by omega) hpj
  ·have hb := of_decide_eq_false hb
   refine go o ?_
   cases o with
   | none =>
    intro j hj hji
    by_cases e : j = i
    ·subst e; exact hb
    ·exact hB j hj (by omega)
   | some k =>
    obtain ⟨hk, hki, hkp, hall⟩ := hB
    refine ⟨hk, by omega, hkp, fun j hj hji hpj => ?_⟩
    by_cases e : j = i
    ·subst e; exact absurd hpj hb
    ·exact hall j hj (by omega) hpj
 ·rintro ⟨o, q⟩ ⟨hB, hq⟩
  change BestTo xs t xs.length o at hB
  have := best_only hB (markBeg_best hne t)
  subst this
  exact hI _ _ q (CondP.no (decide_eq_false (by omega)) ⟨rfl, hq⟩)
set_option maxHeartbeats 1000000 in
theorem refParse09_spec (w : World) (A : Option Addr) (C : Nat) (xs : List (Int × Bs)) (hr : Rw encSpecial 2 w A xs) (hl : xs.length ≤ 1000) (hne : ∀ x ∈ xs, 1 ≤ x.2.length) (t : Bs) (ht : t.length ≤ 1000000) :
  CP 45 #[.slice A xs.length C, .string (str t)] w fun e w' => ∃ l : Sl, e = .returned l.v ∧ w'.ownsRow w.heap.size tInt 1 l.v l.n ((parseV xs t).flatMap encInt) ∧ Below w.heap.size w w' := by
 refine calls_ret (vc45_calls A xs.length C (str t) w (fun u w' => ∃ l : Sl, u = l.v ∧ w'.ownsRow w.heap.size tInt 1 l.v l.n ((parseV xs t).flatMap encInt) ∧ Below w.heap.size w w') ?_) (by rintro v w' ⟨l, rfl, h⟩; exact ⟨l, rfl, h⟩)
 intro I hI
 have loop : ∀ (d : Nat) (r : Bs) (f : Sl) (out : List Int) (q : World), r.length ≤ d → out.length + r.length ≤ t.length → out ++ parseV xs r = parseV xs t → q.ownsRow w.heap.size tInt 1 f.v f.n (out.flatMap encInt) → Below w.heap.size w q → I [f.v, .string (str r)] q := by
  have fin : ∀ (f : Sl) (out : List Int) (q : World), out ++ parseV xs [] = parseV xs t → q.ownsRow w.heap.size tInt 1 f.v f.n (out.flatMap encInt) → Below w.heap.size w q → I [f.v, .string (str [])] q := by
   intro f out q he ho hq
   have he : out = parseV xs t := by rw [← he]; exact (List.append_nil out).symm
   subst he
   exact hI f.a f.n f.c _ q (CondP.no (decide_eq_false (by rw [str_size]; simp)) ⟨f, rfl, ho, hq⟩)
  intro d
  induction d with
  | zero =>
   intro r f out q hd hol he ho hq
   obtain rfl : r = [] := List.eq_nil_of_length_eq_zero (by omega)
   exact fin f out q he ho hq
  | succ d ihd =>
   intro r f out q hd hol he ho hq
   cases r with
   | nil => exact fin f out q he ho hq
   | cons b r =>
    rw [List.length_cons] at hd hol
    have hon : f.n = out.length := (Rw.of_own ho (fun _ => rfl) (by decide)).2
    have hsz : (str (b :: r)).size = r.length + 1 := by rw [str_size, List.length_cons]
    refine hI f.a f.n f.c _ q (CondP.yes (decide_eq_true (by rw [hsz]; omega)) ?_)
    intro J hJ
    refine (refAt09_spec q A C xs (hr.on hq) hl hne (b :: r)).mono ?_
    rintro e w3 ⟨rfl, b3⟩
    have hq3 := below_then hq b3
    refine ⟨_, rfl, ?_⟩
    have hex : ∀ n : Nat, (str (b :: r)).extract ((n : Int)).toNat ((((str (b :: r)).size : Nat) : Int)).toNat = str ((b :: r).drop n) := by
     intro n
     rw [str_extract, str_size]
     congr 1
     rw [show ((n : Int)).toNat = n by omega, show ((((b :: r).length : Nat) : Int)).toNat = (b :: r).length by omega]
     exact List.take_of_length_le (by rw [List.length_drop]; exact Nat.le_refl _)
    cases hm : markBeg xs (b :: r) with
    | none =>
     rw [parseV_none hm] at he
     refine CondP.yes rfl ⟨by omega, by rw [hsz]; omega, ?_⟩
     intro w4 hw4
     have hbt : btAt (str (b :: r)) 0 = (b.toNat : Int) := btAt_str (b :: r) 0 (by simp)
     have hb256 := b.toNat_lt
     rw [hbt, wrap_in (by show (-9223372036854775808 : Int) ≤ _; omega) (by show _ ≤ (9223372036854775807 : Int); omega)] at hw4
     obtain ⟨f', w5, e1, e2, e3, e4, _⟩ := elInt.push (own_on ho b3) (b.toNat : Int) hw4 rfl hq3.size (by omega) (by decide)
     refine ⟨f'.a, f'.n, f'.c, w5, e2, by omega, by rw [hsz]; omega, by omega, ?_⟩
     have h1 := hex 1
     rw [show (((1 : Nat) : Int)) = (1 : Int) from rfl] at h1
     rw [h1]
     exact hJ f'.a f'.n f'.c _ w5 (ihd r f' (out ++ [(b.toNat : Int)]) w5 (by omega) (by rw [List.length_append]; simp; omega) (by rw [List.append_assoc]; exact he) e3 (e4 _ hq3))
    | some j =>
     obtain ⟨hj, hp, hpre⟩ := markOf_pos hm
     rw [parseV_some hm hj] at he
     have hple := hpre.length_le
     rw [List.length_cons] at hple
     refine CondP.no (beq_eq_false_iff_ne.2 (by show (-1 - (j : Int)) ≠ 0; omega)) ?_
     intro w6 hw6
     obtain ⟨f', w7, e1, e2, e3, e4, _⟩ := elInt.push (own_on ho b3) (-1 - (j : Int)) hw6 rfl hq3.size (by omega) (by decide)
     have hq7 := e4 _ hq3
     obtain ⟨p, hpa, _, hc⟩ := (hr.on hq7) j _ (List.getElem?_eq_getElem hj)
     have c1 : w7.cell? ((p.add (j * 2)).add 1) = some (.string (str (xs[j]).2)) := hc 1 _ rfl
     refine ⟨f'.a, f'.n, f'.c, w7, e2, Ar.nat j (by show -1 - (-1 - (j : Int)) = _; omega) (by omega) (NilC.mk p hpa ⟨by omega, by omega, _, by rw [show ((j : Int)).toNat * 2 = j * 2 by omega]; exact c1, by omega, by rw [hsz, str_size]; omega, by omega, ?_⟩)⟩
     rw [str_size, hex]
     refine hJ f'.a f'.n f'.c _ w7 (ihd _ f' (out ++ [-1 - (j : Int)]) w7 (by rw [List.length_drop, List.length_cons]; omega) (by rw [List.length_append, List.length_drop, List.length_cons]; simp; omega) ?_ e3 hq7)
     rw [List.append_assoc]
     exact he
 exact loop t.length t sl0 [] w (Nat.le_refl _) (by simp) rfl (own_none _ _ _ _ encInt) (Below.refl _ _)
def keptN (s : SpecV) (T : List Ent) (Z : List Int) : Nat := match candAll s T Z with
 | [] => Z.length
 | x :: _ => x.1.toNat
theorem candTo_mem {s : SpecV} {T : List Ent} {Z : List Int} {n : Nat} {x : Int × Int} (h : x ∈ candTo s T Z n) : 0 ≤ x.1 ∧ x.1 < n := by
 unfold candTo at h
 obtain ⟨p, hp, hx⟩ := List.mem_flatMap.1 h
 obtain ⟨k, _, rfl⟩ := List.mem_map.1 hx
 have := List.mem_range.1 hp
 exact ⟨by omega, by show (p : Int) < n; omega⟩
theorem keptN_le (s : SpecV) (T : List Ent) (Z : List Int) : keptN s T Z ≤ Z.length := by
 unfold keptN
 split
 ·exact Nat.le_refl _
 ·rename_i x _ hc
  have := candTo_mem (show x ∈ candTo s T Z Z.length by show x ∈ candAll s T Z; rw [hc]; simp)
  omega
theorem kept_cell {w : World} {A : Option Addr} {s : SpecV} {T : List Ent} {Z : List Int} (hr : Rw encPair 2 w A (candAll s T Z)) (h0 : 0 < (candAll s T Z).length) : ∃ p, A = some p ∧ w.cell? ((p.add ((0 : Int).toNat * 2)).add 0) = some (.int .i64 (keptN s T Z : Int)) := by
 obtain ⟨x, r, hx⟩ : ∃ x r, candAll s T Z = x :: r := by
  cases h : candAll s T Z with
  | nil => rw [h] at h0; cases h0
  | cons x r => exact ⟨x, r, rfl⟩
 obtain ⟨p, hp, _, hc⟩ := hr 0 x (by rw [hx]; rfl)
 have c0 := hc 0 _ rfl
 have hm := candTo_mem (show x ∈ candTo s T Z Z.length by show x ∈ candAll s T Z; rw [hx]; simp)
 have e : (keptN s T Z : Int) = x.1 := by
  unfold keptN
  rw [hx]
  show ((x.1.toNat : Nat) : Int) = x.1
  omega
 rw [e]
 exact ⟨p, hp, c0⟩
theorem healKept_spec (w : World) (v : Nat) (s : SpecV) (T : List Ent) (hV : VocIs w v s T) (A : Option Addr) (C : Nat) (Z : List Int) (hr : Rw encInt 1 w A Z) (hC : Z.length ≤ C) (hA : Z ≠ [] → ∀ p, A = some p → p.block ≠ v) (h0 : (healI s T Z).2 = 0) (hl : Z.length ≤ 4000) (hit : ∀ y ∈ Z, itemOk s y = true) :
  CP 46 #[.pointer (some ⟨v, 0, none⟩), .slice A Z.length C] w fun e w' => ∃ l : Sl, e = .returned (.tuple #[l.v, .int .i64 0]) ∧ w'.ownsRow w.heap.size tInt 1 l.v l.n (((vocOf s T).encode (Z.take (keptN s T Z))).flatMap encInt) ∧ VocIs w' v s T ∧ Touch v w w' := by
 refine calls_ret (vc46_calls (some ⟨v, 0, none⟩) A Z.length C w (fun u w' => ∃ l : Sl, u = .tuple #[l.v, .int .i64 0] ∧ w'.ownsRow w.heap.size tInt 1 l.v l.n (((vocOf s T).encode (Z.take (keptN s T Z))).flatMap encInt) ∧ VocIs w' v s T ∧ Touch v w w') ?_) (by rintro v w' ⟨l, rfl, h⟩; exact ⟨l, rfl, h⟩)
 refine (heal_spec w v s T hV A C Z hr hC hA).mono ?_
 rintro e w1 ⟨l, rfl, _, hl1, hV1, t1⟩
 obtain ⟨hrow, hn⟩ := Rw.of_own (hl1 h0) (fun _ => rfl) (by decide)
 have hr1 := hr.touch t1 hA
 have hkl := keptN_le s T Z
 refine ⟨l.a, l.n, l.c, _, _, rfl, CondP.no (by rw [h0]; rfl) ?_⟩
 intro J hJ
 have go : J [.int .i64 (keptN s T Z : Int)] w1 := by
  refine hJ _ w1 ⟨by omega, by omega, by omega, trivial, trivial, ?_⟩
  have hV1' := hV1
  obtain ⟨w0, x, tp, bp, mp', d, l0, uses, hR⟩ := hV1'
  have hcut := (hr1.cut 0 C hC).take (keptN s T Z)
  rw [List.drop_zero] at hcut
  have hmade := encMade_spec w1 v _ tp bp mp' hR.vblk s T x hR.now (slBase A 0 C 1) (C - 0) (Z.take (keptN s T Z)) hcut (by rw [List.length_take]; omega) (by rw [List.length_take]; omega) (fun y hy => hit y (List.mem_of_mem_take hy))
  rw [List.length_take, Nat.min_eq_left hkl] at hmade
  refine Calls.mono (show Calls _ _ #[.pointer (some ⟨v, 0, none⟩), .slice (slBase A 0 C 1) (keptN s T Z) (C - 0)] w1 _ from hmade) ?_
  rintro e w3 ⟨k, rfl, _, hk, b3⟩
  exact ⟨k.a, k.n, k.c, rfl, k, rfl, own_base hk t1.size, hV1.on b3, t1.trans (Touch.of_below b3)⟩
 refine CondP.mk (fun hp => ?_) fun hp => ?_
 ·have hp := of_decide_eq_true hp
  obtain ⟨p, hpa, c0⟩ := kept_cell hrow (by omega)
  exact NilC.mk p hpa ⟨by omega, by omega, _, c0, go⟩
 ·have hp := of_decide_eq_false hp
  have hc0 : candAll s T Z = [] := List.eq_nil_of_length_eq_zero (by omega)
  have e : keptN s T Z = Z.length := by unfold keptN; rw [hc0]
  rw [← e]
  exact go
theorem tail_only {Z : List Int} {n m : Nat} (h : TailIs Z n) (k : TailIs Z m) : n = m := by
 have one : ∀ {n m : Nat}, TailIs Z n → TailIs Z m → ¬ n < m := by
  rintro n m ⟨_, _, h3⟩ ⟨k1, k2, _⟩ hlt
  obtain ⟨y, hy, hneg⟩ := h3 (by omega)
  have := k2 y (List.mem_of_getElem? (i := Z.length - 1 - n - (Z.length - m)) (by
   rw [List.getElem?_drop, show Z.length - m + (Z.length - 1 - n - (Z.length - m)) = Z.length - 1 - n by omega]
   exact hy))
  omega
 have a := one h k
 have b := one k h
 omega
theorem tail_nil : TailIs [] 0 := ⟨Nat.le_refl _, fun y hy => by simp at hy, fun h => absurd h (Nat.lt_irrefl 0)⟩
theorem tail_snoc {Z : List Int} {n : Nat} (h : TailIs Z n) (y : Int) : TailIs (Z ++ [y]) (if y < 0 then 0 else n + 1) := by
 obtain ⟨h1, h2, h3⟩ := h
 have hl : (Z ++ [y]).length = Z.length + 1 := by simp
 split
 ·rename_i hneg
  refine ⟨Nat.zero_le _, fun z hz => ?_, fun _ => ⟨y, ?_, hneg⟩⟩
  ·rw [Nat.sub_zero, List.drop_length] at hz
   cases hz
  ·rw [hl, show Z.length + 1 - 1 - 0 = Z.length by omega, List.getElem?_append_right (Nat.le_refl _), Nat.sub_self]
   rfl
 ·rename_i hpos
  refine ⟨by omega, fun z hz => ?_, fun hlt => ?_⟩
  ·rw [hl, show Z.length + 1 - (n + 1) = Z.length - n by omega, List.drop_append_of_le_length (by omega)] at hz
   rcases List.mem_append.1 hz with hz | hz
   ·exact h2 z hz
   ·rw [List.mem_singleton.1 hz]
    omega
  ·obtain ⟨z, hz, hneg⟩ := h3 (by omega)
   refine ⟨z, ?_, hneg⟩
   rw [hl, show Z.length + 1 - 1 - (n + 1) = Z.length - 1 - n by omega, List.getElem?_append_left (by omega)]
   exact hz
set_option maxHeartbeats 2000000 in
theorem HealTexts_spec (w : World) (y : CsW) (ls : List Int) (cs : List (Int × Int × Int)) (js : List (Int × Int)) (xs : List (Int × Bs)) (h : CsAt w y ls cs js xs) (t : Bs) :
  CP 9 #[y.v, .string (str t)] w fun e w' => e = .returned (.bool true) ∧ Below w.heap.size w w' := by
 refine calls_ret (vc9_calls y.l.a y.l.n y.l.c y.c.a y.c.n y.c.c y.j.a y.j.n y.j.c y.x.a y.x.n y.x.c (str t) w (fun u w' => u = .bool true ∧ Below w.heap.size w w') ?_) (by rintro v w' ⟨rfl, h⟩; exact ⟨rfl, h⟩)
 intro w1 hw1
 have hb1 : Below w.heap.size w w1 := by subst hw1; exact below_alloc _ _
 have l1 : w1.heap[w.heap.size]? = some (.cells y.cells tCs (0, 0)) := by subst hw1; exact alloc_new _ _
 refine ⟨_, _, _, _, _, _, _, _, _, _, _, _, agg4 l1, ?_⟩
 refine (lawGreat_spec w1 y ls cs js xs (h.on hb1)).mono ?_
 rintro e w2 ⟨c0, rfl, b2⟩
 have hb2 := below_then hb1 b2
 have aw : ∀ {q : World}, Below w.heap.size w q → CP 31 #[] q fun e w' => ∃ b : Bool, e = .returned (.bool b) ∧ (Value.bool b = Value.bool true ∧ Below w.heap.size w w') := by
  intro q hq
  refine (awake24_spec q).mono ?_
  rintro e w3 ⟨rfl, b3⟩
  exact ⟨true, rfl, rfl, below_then hq b3⟩
 refine ⟨c0, rfl, CondP.mk (fun _ => aw hb2) fun _ => CondP.mk (fun h100 => CondP.mk (fun _ => aw hb2) fun h4 => ?_) fun h100 => ?_⟩
 all_goals
  have hlen : t.length ≤ 20 ∨ 4000 < t.length := by
   have h100 := h100
   first
   | (have h100 := of_decide_eq_false h100; rw [str_size] at h100; omega)
   | (have h4 := of_decide_eq_false h4; rw [str_size] at h4; omega)
  refine (awake24_spec w2).mono ?_
  rintro e w5 ⟨rfl, b5⟩
  have hb5 := below_then hb2 b5
  refine ⟨_, rfl, CondP.no rfl ⟨_, _, _, _, _, _, _, _, _, _, _, _, agg4 (held_on b5 (held_on b2 l1)), ?_⟩⟩
  refine (lawOf_spec w5 y ls cs js xs (h.on hb5)).mono ?_
  rintro e w7 ⟨u, rfl, v, r, s, T, rfl, hB7, hv, b7⟩
  have hb7 := below_then hb5 b7
  refine ⟨_, _, _, _, _, _, _, _, _, _, _, _, _, _, _, _, rfl, ?_⟩
  intro w8 hw8
  refine storeP_new (slRv rv0) (slRv r) rfl (ones_rv r) w8 hw8 ?_
  intro w0 h0 hz0 b0
  have hB := hB7.on b0
  have hb0 := below_then hb7 b0
  have hvl7 := hB7.voc.lt
  have hz5 := hb5.size
  have hwv : w.heap.size ≤ v := Nat.le_trans hz5 hv
  have hvw0 : v < w0.heap.size := by omega
  refine CondP.no rfl ?_
  refine (healText_spec w0 v s T hB.voc t).mono ?_
  rintro e w10 ⟨l, rfl, hl0, hl1, hV10, t10⟩
  have hb10 : Below w.heap.size w w10 := hb0.trans (t10.below hwv hb0.size)
  have hB10 := hB.touch t10 hV10
  have h10 := t10.held (by omega) h0
  refine ⟨l.a, l.n, l.c, _, rfl, CondP.mk (fun h4k => ?_) fun h4k => ?_⟩
  ·have h4k := of_decide_eq_true h4k
   rw [str_size] at h4k
   have he : textE s T t = 3 := by rw [textE, if_pos (by omega)]
   rw [he] at hl0 ⊢
   have hl0 := hl0 (by decide)
   subst hl0
   exact CondP.yes rfl ⟨rfl, hb10⟩
  have h4k := of_decide_eq_false h4k
  rw [str_size] at h4k
  have h20 : t.length ≤ 20 := by omega
  have et : textE s T t = (healI s T (parseV s.specials t)).2 := by rw [textE, if_neg (by omega)]
  obtain ⟨Z, hZ⟩ : ∃ Z, Z = parseV s.specials t := ⟨_, rfl⟩
  rw [et, ← hZ] at hl0 hl1 ⊢
  have hZl : Z.length ≤ 20 := by
   have := parseV_short s.specials t.length t (Nat.le_refl _)
   rw [hZ]
   omega
  have hit : ∀ z ∈ Z, itemOk s z = true := by rw [hZ]; exact parse_items t.length t (Nat.le_refl _)
  have hx : idx (fun y => !itemOk s y) Z = -1 := idx_none fun j hj => by rw [hit _ (List.getElem_mem hj)]; rfl
  have hrd : readyI s Z = ((Z.length : Int), 0) := by rw [readyI, if_neg (by omega), if_neg (by rw [hx]; decide)]
  have hfew := hB10.few
  have hsp : ∀ x ∈ s.specials, 1 ≤ x.2.length := by
   intro x hx
   have hr := (right_parts hB10.now.right).2.2.2.1
   unfold allOk at hr
   rw [Bool.and_eq_true, List.all_eq_true] at hr
   have := hr.2 x hx
   unfold specialOk at this
   exact (of_decide_eq_true this).2.2.1
  have hsn := hB10.now.sn
  have hparse := refParse09_spec w10 r.sp.a r.sp.c s.specials hB10.now.sr (by omega) hsp t (by omega)
  rw [← hsn, ← hZ] at hparse
  refine ⟨r.sp.a, r.sp.n, r.sp.c, by rw [ptr_add0 _ _ h10]; rfl, hparse.mono ?_⟩
  rintro e w11 ⟨z, rfl, hz, b11⟩
  have hb11 := below_then hb10 b11
  have hB11 := hB10.on b11
  have h11 := held_on b11 h10
  obtain ⟨hzr, hzn⟩ := Rw.of_own hz (fun _ => rfl) (by decide)
  have hzn : z.n = Z.length := hzn
  have hzc := own_le hz
  have hfar : Z ≠ [] → ∀ p, z.a = some p → p.block ≠ v := by
   intro _ p hp
   rcases hz.2 with ⟨e0, _⟩ | ⟨g, cap, cur, e0, hg, _⟩
   ·have e0 : Value.slice z.a z.n z.c = .slice none 0 0 := e0
    simp only [Value.slice.injEq] at e0
    rw [e0.1] at hp
    cases hp
   ·have e0 : Value.slice z.a z.n z.c = .slice (some ⟨g, 0, none⟩) z.n cap := e0
    simp only [Value.slice.injEq] at e0
    rw [e0.1] at hp
    cases hp
    have := t10.size
    show g ≠ v
    omega
  obtain ⟨za, zn, zc⟩ := z
  change zn = _ at hzn
  change zn ≤ zc at hzc
  change Rw encInt 1 w11 za Z at hzr
  change Z ≠ [] → ∀ p, za = some p → p.block ≠ v at hfar
  subst hzn
  refine ⟨za, _, zc, rfl, _, _, _, _, _, _, _, _, _, _, _, _, _, _, _, agg5 h11, ?_⟩
  refine (refAll24_spec w11 r s T hB11.now za zc Z hzr hzc (by omega) hit).mono ?_
  rintro e w12 ⟨al, rfl, hal, b12⟩
  have hb12 := below_then hb11 b12
  have hB12 := hB11.on b12
  have h12 := held_on b12 h11
  obtain ⟨halr, haln⟩ := Rw.of_own hal (fun _ => rfl) (by decide)
  have hcl := candTo_len s hB12.now.ok Z Z.length
  refine ⟨al.a, al.n, al.c, rfl, CondP.mk (fun h5 => ?_) fun h5 => ?_⟩
  ·have h5 := of_decide_eq_true h5
   have he : healI s T Z = (0, 5) := by rw [healI, if_neg (by rw [hrd]; simp), if_pos (by omega)]
   rw [he] at hl0 ⊢
   have hl0 := hl0 (by decide)
   subst hl0
   exact CondP.yes rfl ⟨rfl, hb12⟩
  have h5 := of_decide_eq_false h5
  have he : healI s T Z = ((Z.length : Int), 0) := by rw [healI, if_neg (by rw [hrd]; simp), if_neg (by omega)]
  rw [he] at hl1 ⊢
  have hl10 := hl1 rfl
  have hl12 := own_on (own_on hl10 b11) b12
  refine (healKept_spec w12 v s T hB12.voc za zc Z (hzr.on b12) hzc hfar (by rw [he]) (by omega) hit).mono ?_
  rintro e w13 ⟨k, rfl, hk, hV13, t13⟩
  have hb13 : Below w.heap.size w w13 := hb12.trans (t13.below hwv hb12.size)
  have hB13 := hB12.touch t13 hV13
  have h13 := t13.held (by omega) h12
  have hvok := hB13.now.vok
  have hl13 : w13.ownsRow w0.heap.size tHealT 2 l.v l.n ((candAll s T Z).flatMap encPair) := own_keep hl12 fun j c fz hj hjb => t13.block j (Array.getElem?_eq_some_iff.1 hjb).1 (by omega)
  have hal13 : w13.ownsRow w11.heap.size tHealT 2 al.v al.n ((candAll s T Z).flatMap encPair) := own_keep hal fun j c fz hj hjb => t13.block j (Array.getElem?_eq_some_iff.1 hjb).1 (by have := t10.size; have := b11.size; omega)
  have hz13 := (hzr.on b12).touch t13 hfar
  obtain ⟨halr13, _⟩ := Rw.of_own hal13 (fun _ => rfl) (by decide)
  have hkl := keptN_le s T Z
  refine ⟨k.a, k.n, k.c, _, rfl, ?_⟩
  intro J hJ
  have go : J [.int .i64 (keptN s T Z : Int)] w13 := by
   refine hJ _ w13 ?_
   intro I hI
   have key := climb2 (α := Nat) Z.length (fun i n => TailIs (Z.take i) n) (fun i n => I [.int .i64 (i : Int), .int .i64 (n : Int)] w13) 0 (by rw [List.take_zero]; exact tail_nil) ?_ ?_
   ·exact key
   ·rintro i hi ih n hn
    have hnl := hn.1
    rw [List.length_take] at hnl
    obtain ⟨p, hp, c0⟩ := cell_rw hz13 hi rfl
    refine hI _ _ w13 (CondP.yes (decide_eq_true (by omega)) ?_)
    intro J2 hJ2
    have hs := tail_snoc hn Z[i]
    have ek : Z.take (i + 1) = Z.take i ++ [Z[i]] := by
     rw [List.take_add_one, List.getElem?_eq_getElem hi]
     rfl
    rw [← ek] at hs
    refine Ar.nat (n + 1) rfl (by omega) (NilC.mk p hp ⟨by omega, by omega, _, c0, CondP.mk (fun hneg => ?_) fun hneg => ?_⟩)
    ·have hneg := of_decide_eq_true hneg
     rw [if_pos hneg] at hs
     exact hJ2 _ w13 (Ar.nat (i + 1) rfl (by omega) (ih 0 hs))
    ·have hneg := of_decide_eq_false hneg
     rw [if_neg hneg] at hs
     exact hJ2 _ w13 (Ar.nat (i + 1) rfl (by omega) (ih (n + 1) hs))
   ·intro n hn
    rw [List.take_length] at hn
    refine hI _ _ w13 (CondP.no (decide_eq_false (by omega)) ?_)
    intro w17 hw17
    have b17 : Below w13.heap.size w13 w17 := by subst hw17; exact drew_on w13
    have hb17 := below_then hb13 b17
    obtain ⟨hlr, hlnn⟩ := Rw.of_own (own_on hl13 b17) (fun _ => rfl) (by decide)
    have hsame := same24_spec w17 l.a al.a l.c al.c (candAll s T Z) (candAll s T Z) hlr (halr13.on b17) (by show (candTo s T Z Z.length).length ≤ _; omega)
    rw [← hlnn] at hsame
    rw [show al.n = l.n from haln.trans hlnn.symm]
    refine hsame.mono ?_
    rintro e w18 ⟨rfl, b18⟩
    have hb18 := below_then hb17 b18
    have hB18 := (hB13.on b17).on b18
    refine ⟨_, rfl, CondP.yes (by simp) (CondP.yes rfl ⟨_, _, _, _, _, _, _, _, _, _, _, _, _, _, _, agg5 (held_on b18 (held_on b17 h13)), by omega, by omega, by omega, trivial, trivial, ?_⟩)⟩
    have hcut := (((hz13.on b17).on b18).cut 0 zc hzc).take (keptN s T Z)
    rw [List.drop_zero] at hcut
    have hZi : (vocOf s T).Items (Z.take (keptN s T Z)) := by
     intro y hy
     show -((s.specials.map (·.1)).length : Int) ≤ y ∧ y < 256
     rw [List.length_map]
     have := hit y (List.mem_of_mem_take hy)
     unfold itemOk at this
     have := of_decide_eq_true this
     omega
    have henc := refVEncode_spec2 w18 r s T hB18.now (slBase za 0 zc 1) (zc - 0) (Z.take (keptN s T Z)) hcut (by rw [List.length_take]; omega) hZi
    rw [List.length_take, Nat.min_eq_left hkl] at henc
    refine Calls.mono (show Calls _ _ #[r.v, .slice (slBase za 0 zc 1) (keptN s T Z) (zc - 0)] w18 _ from henc) ?_
    rintro e w19 ⟨m, rfl, hm, b19, _, _⟩
    have hb19 := below_then hb18 b19
    obtain ⟨E, hE⟩ : ∃ E, E = (vocOf s T).encode (Z.take (keptN s T Z)) := ⟨_, rfl⟩
    rw [← hE] at hm hk
    have hEl : E.length ≤ 20 := by
     have := encode_short (vocOf s T) (Z.take (keptN s T Z))
     rw [List.length_take] at this
     rw [hE]
     omega
    obtain ⟨hkr, hkn⟩ := Rw.of_own (own_on (own_on (own_on hk b17) b18) b19) (fun _ => rfl) (by decide)
    have hkn : k.n = E.length := hkn
    have hmn : m.n = E.length := hm.n
    have hints := refInts_spec w19 k.a m.a k.c m.c E E hkr hm.r (by omega)
    rw [← hkn] at hints
    refine ⟨m.a, m.n, m.c, rfl, ?_⟩
    rw [show m.n = k.n by omega]
    refine hints.mono ?_
    rintro e w20 ⟨rfl, b20⟩
    have hb20 := below_then hb19 b20
    refine ⟨_, rfl, CondP.yes (by simp) (CondP.yes rfl ?_)⟩
    refine (healTail_spec w20 za zc Z ((((hz13.on b17).on b18).on b19).on b20) (by omega)).mono ?_
    rintro e w21 ⟨n2, rfl, hn2, hw21⟩
    subst w21
    have := tail_only hn hn2
    subst this
    exact ⟨_, rfl, by simp, hb20⟩
  refine CondP.mk (fun hp => ?_) fun hp => ?_
  ·have hp := of_decide_eq_true hp
   obtain ⟨p, hpa, c0⟩ := kept_cell halr13 (by omega)
   exact NilC.mk p hpa ⟨by omega, by omega, _, c0, go⟩
  ·have hp := of_decide_eq_false hp
   have hc0 : candAll s T Z = [] := List.eq_nil_of_length_eq_zero (by omega)
   have e : keptN s T Z = Z.length := by unfold keptN; rw [hc0]
   rw [← e]
   exact go
theorem law_frame0 {H : Type} {enc : TypeId × Value → H} {C : Checked} {os : Os} {f : FuncId} {fn : Func} {s : ChangeSpec}
  (own : ownKnob C.prog.godebug = none) (started : os.Started) (noInit : C.prog.inits.idxOf? f = none) (hfn : C.prog.funcs[f]? = some fn)
  (witness : ∃ (w : World) (tape : Tape) (i : Input), w.os = os ∧ (w.forCall tape i).Shaped C.prog ∧ i.vars = [] ∧ Input.okWide C.prog (w.forCall tape i) .any w.heap.size f i ∧
   ((s.pre enc C.prog fn [] false (w.forCall tape i).memory i.args ∧ True) ∧ sizedMet enc C.prog fn (OpenSpec.ofChange s) false (w.forCall tape i).memory i.args) ∧ ({} : Assume).holds C.prog (lone (Frame.enter C.prog f i.args .normal) [] (w.forCall tape i)))
  (contract : ∀ (W : World) (base : Nat) (args : Array Value) (ds gs : List (DataW H)) (before : List MemPlace),
   (∀ (j : Nat) t v, fn.params[j]? = some t → args[j]? = some v → Value.okWide C.prog W .any base t v) →
   DataW.Whole enc C.prog fn.params.toList s.vars false W args.toList ds gs before →
   (DataW.weightsEach C.prog (fn.params.toList ++ s.plain.varTypes C.prog) (ds ++ gs)).all (· ≤ reachBytes) = true →
   W.ShapedOpen C.prog →
   Calls C.prog f args W fun e W' => ∃ v, e = .returned v ∧ s.post enc C.prog fn false true false false W args v W') :
  ReturnsInHanded {} C os f .any (fun w args => s.pre enc C.prog fn [] false w args ∧ sizedMet enc C.prog fn (OpenSpec.ofChange s) false w args) (s.post enc C.prog fn false true false false) := by
 have witness' : ∃ (w : World) (tape : Tape) (i : Input), w.os = os ∧ (w.forCall tape i).Shaped C.prog ∧ i.vars = [] ∧ Input.okWide C.prog (w.forCall tape i) .any w.heap.size f i ∧
   (s.pre enc C.prog fn [] false (w.forCall tape i).memory i.args ∧ sizedMet enc C.prog fn (OpenSpec.ofChange s) false (w.forCall tape i).memory i.args) ∧ ({} : Assume).holds C.prog (lone (Frame.enter C.prog f i.args .normal) [] (w.forCall tape i)) := by
  obtain ⟨w, tape, i, h1, h2, h3, h4, ⟨⟨h5, _⟩, h6⟩, h7⟩ := witness
  exact ⟨w, tape, i, h1, h2, h3, h4, ⟨h5, h6⟩, h7⟩
 refine returnsInHanded_of_calls own started noInit witness' ?_
 intro w tape i _ hshape _ hok hpre _
 obtain ⟨_, _, _, fn', hfn', _, _, _, _, hval⟩ := hok
 obtain rfl : fn' = fn := Option.some.inj (hfn'.symm.trans hfn)
 obtain ⟨⟨ds, gs, before, hw, _⟩, hz⟩ := hpre
 refine (contract (w.forCall tape i) w.heap.size i.args ds gs before hval (DataW.Whole.of_heap (w' := w.forCall tape i) (by rfl) hw) (hz.weights hw) hshape).mono ?_
 rintro e W' ⟨v, rfl, hp⟩
 exact ChangeSpec.post_blind hp
end Go.Proofs.YtnmdljikfhafiaaGreat.Eng
