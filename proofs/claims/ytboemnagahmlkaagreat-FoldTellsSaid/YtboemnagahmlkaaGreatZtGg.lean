/- The grid of a vocabulary, walked by the engine. -/
import Derived.Test.YtboemnagahmlkaaGreatZtVg
import Derived.Test.YtboemnagahmlkaaGreatZtRe
import Derived.Test.YtboemnagahmlkaaGreatZtVo
import Derived.Test.YtboemnagahmlkaaGreatZtTab
set_option linter.unusedVariables false
set_option linter.unusedSimpArgs false
set_option maxRecDepth 100000
namespace Go.Proofs.YtboemnagahmlkaaGreat.Eng
open Go Go.RowKit
/-! ### May two stand side by side? -/
theorem valid_spec (w : World) (v : Nat) (s : SpecV) (T : List Ent) (hV : VocIs w v s T) (a b : Int) (ha : (vocOf s T).Has a) (hb : (vocOf s T).Has b) :
    Calls Tryz.prog 101 #[.pointer (some ⟨v, 0, none⟩), .int .i64 a, .int .i64 b] w fun e w' => e = .returned (.bool (decide ((vocOf s T).Canon [a, b]))) ∧ VocIs w' v s T ∧ Touch v w w' := by
  refine calls_ret (vc101_calls (some ⟨v, 0, none⟩) a b w (fun u w' => u = .bool (decide ((vocOf s T).Canon [a, b])) ∧ VocIs w' v s T ∧ Touch v w w') ?_) (by rintro v w' ⟨rfl, h⟩; exact ⟨rfl, h⟩)
  have parts : ∀ {q : World}, VocIs q v s T → ∃ x tp bp mp, VocParts q s T x tp bp mp ∧ ∃ c, VBlk q v c tp bp mp := by
    rintro q ⟨w0, x, tp, bp, mp, d, l, uses, hR⟩
    exact ⟨x, tp, bp, mp, hR.now, _, hR.vblk⟩
  obtain ⟨x, tp, bp, mp, hP, _⟩ := parts hV
  have hok := voc_ok hP
  have hab : ∀ t ∈ [a] ++ [b], (vocOf s T).Has t := by
    intro t ht
    simp at ht
    rcases ht with rfl | rfl
    · exact ha
    · exact hb
  refine (alone_spec w v s T hV a).mono ?_
  rintro e w1 ⟨rfl, hV1, t1⟩
  refine ⟨_, rfl, CondP.mk (fun h1 => ?_) fun h1 => ⟨?_, hV1, t1⟩⟩
  · have ca := (aloneV_iff hP ha).1 h1
    refine (alone_spec w1 v s T hV1 b).mono ?_
    rintro e w2 ⟨rfl, hV2, t2⟩
    have t12 := t1.trans t2
    refine ⟨_, rfl, CondP.mk (fun h2 => ?_) fun h2 => ⟨?_, hV2, t12⟩⟩
    · have cb := (aloneV_iff hP hb).1 h2
      obtain ⟨x2, tp2, bp2, mp2, hP2, c2, hB2⟩ := parts hV2
      refine (beside_spec hB2 hP2 a b ha hb ca cb).mono ?_
      rintro e w3 ⟨r, rfl, hr, b3⟩
      refine ⟨r, rfl, ?_, hV2.on b3, t12.trans (Touch.of_below b3)⟩
      have hm := Voc.canon_more hok (init := []) (l := a) (t := b) (fun x hx => by simp at hx; rw [hx]; exact ha) ca hb
      congr 1
      have hm2 : (vocOf s T).Canon [a, b] ↔ (vocOf s T).Canon [b] ∧ (vocOf s T).Pair a b := hm
      cases r with
      | true => exact (decide_eq_true (hm2.2 ⟨cb, hr.1 rfl⟩)).symm
      | false => exact (decide_eq_false fun e => by have := hr.2 (hm2.1 e).2; cases this).symm
    · rw [decide_eq_false fun e => ?_]
      have := (aloneV_iff hP hb).2 (Voc.canon_append hok (P := [a]) (Q := [b]) hab e).2
      rw [h2] at this
      cases this
  · rw [decide_eq_false fun e => ?_]
    have := (aloneV_iff hP ha).2 (Voc.canon_append hok (P := [a]) (Q := [b]) hab e).1
    rw [h1] at this
    cases this

/-! ### The grid in memory -/
abbrev tGrid : TypeId := 111
abbrev tRows : TypeId := 108
theorem undRows : Tryz.prog.underlying tRows = some (.slice tRow) := by kernel_rfl
theorem infoRow : (Tryz.prog.info? tRow).map (fun i => (i.zero, i.size, i.bytes)) = some (some (.slice none 0 0), 1, 24) := by kernel_rfl
def encS (r : Sl) : List Value := [r.v]
theorem elRow : ElT encS 1 tRows tRow 24 := ⟨fun _ => rfl, by decide, fun x u hu => by rw [List.mem_singleton.1 hu]; rfl, undRows, _, infoRow, rfl⟩
def gmap (G : List Int) : List (Int × Value) := G.zipIdx.map fun x => (x.1, .int .i64 (x.2 : Int))
theorem gmap_snoc (G : List Int) (x : Int) : gmap (G ++ [x]) = gmap G ++ [(x, .int .i64 (G.length : Int))] := by simp [gmap, List.zipIdx_append]
theorem look_gmap (G : List Int) (k : Int) : look k (gmap G) = (G.idxOf? k).map fun i : Nat => Value.int .i64 (i : Int) := by
  have := look_zipf (fun x : Int => x) k G 0
  simp only [Nat.zero_add, List.map_id'] at this
  exact this
def alB (s : SpecV) (T : List Ent) (i : Nat) : Bool := decide ((vocOf s T).Canon [(gids s T).getD i 0])
def relB (s : SpecV) (T : List Ent) (i k : Nat) : Bool := decide ((vocOf s T).Canon [(gids s T).getD i 0, (gids s T).getD k 0])
/-- The grid: its numbers, their places, rows of bits. -/
structure GridR (w : World) (g : Nat) (G : List Int) (al : Nat → Bool) (rel : Nat → Nat → Bool) (ids rows alone : Sl) (mb : Nat) (rs : List Sl) (m : Nat) : Prop where
  blk : w.heap[g]? = some (.cells #[ids.v, .map (some mb), rows.v, alone.v] tGrid (0, 0))
  oi : w.ownsRow 0 tInt 1 ids.v ids.n (G.flatMap encInt)
  map : MapIs intKey w mb (gmap G)
  orows : w.ownsRow 0 tRow 1 rows.v rows.n (rs.flatMap encS)
  rl : rs.length = m
  each : ∀ (i : Nat) (r : Sl), rs[i]? = some r → w.ownsRow 0 tU64 1 r.v r.n ((wordsOf G.length (rel i)).flatMap encU64)
  oal : w.ownsRow 0 tU64 1 alone.v alone.n ((wordsOf G.length al).flatMap encU64)
def GridIs (w : World) (g : Nat) (G : List Int) (al : Nat → Bool) (rel : Nat → Nat → Bool) : Prop := ∃ ids rows alone mb rs, GridR w g G al rel ids rows alone mb rs G.length
theorem GridR.on {w w' : World} {g : Nat} {G : List Int} {al : Nat → Bool} {rel : Nat → Nat → Bool} {ids rows alone : Sl} {mb : Nat} {rs : List Sl} {m : Nat} (h : GridR w g G al rel ids rows alone mb rs m) (hb : Below w.heap.size w w') : GridR w' g G al rel ids rows alone mb rs m :=
  ⟨held_on hb h.blk, own_on h.oi hb, h.map.on hb, own_on h.orows hb, h.rl, fun i r hr => own_on (h.each i r hr) hb, own_on h.oal hb⟩
theorem GridIs.on {w w' : World} {g : Nat} {G : List Int} {al : Nat → Bool} {rel : Nat → Nat → Bool} (h : GridIs w g G al rel) (hb : Below w.heap.size w w') : GridIs w' g G al rel := by
  obtain ⟨ids, rows, alone, mb, rs, h⟩ := h
  exact ⟨ids, rows, alone, mb, rs, h.on hb⟩
theorem VocIs.typed {w : World} {v : Nat} {s : SpecV} {T : List Ent} (h : VocIs w v s T) : ∃ c, w.heap[v]? = some (.cells c tVocab (0, 0)) := by
  obtain ⟨w0, x, tp, bp, mp, d, l, uses, hR⟩ := h
  exact ⟨_, hR.blk⟩
theorem VocIs.ne_cells {w : World} {v : Nat} {s : SpecV} {T : List Ent} (h : VocIs w v s T) {k : Nat} {c : Array Value} {e : TypeId} {fz : Nat × Nat} (hk : w.heap[k]? = some (.cells c e fz)) (he : e ≠ tVocab) : k ≠ v := by
  obtain ⟨c', hc⟩ := h.typed
  rintro rfl
  rw [hc] at hk
  cases hk
  exact he rfl
theorem VocIs.ne_map {w : World} {v : Nat} {s : SpecV} {T : List Ent} (h : VocIs w v s T) {κ : Type} [DecidableEq κ] {kv : κ → Value} {r : Nat} {m : List (κ × Value)} (hm : MapIs kv w r m) : r ≠ v := by
  obtain ⟨c', hc⟩ := h.typed
  rintro rfl
  obtain ⟨es, k, hk, _⟩ := hm
  rw [hc] at hk
  cases hk
theorem GridR.touch {w w' : World} {g : Nat} {G : List Int} {al : Nat → Bool} {rel : Nat → Nat → Bool} {ids rows alone : Sl} {mb : Nat} {rs : List Sl} {m : Nat} (h : GridR w g G al rel ids rows alone mb rs m) {v : Nat} {s : SpecV} {T : List Ent} (hV : VocIs w v s T) (t : Touch v w w') : GridR w' g G al rel ids rows alone mb rs m :=
  ⟨t.held (hV.ne_cells h.blk (by decide)) h.blk, hV.own_touch t h.oi (by decide), h.map.same (t.block mb h.map.lt (hV.ne_map h.map)), hV.own_touch t h.orows (by decide), h.rl, fun i r hr => hV.own_touch t (h.each i r hr) (by decide), hV.own_touch t h.oal (by decide)⟩
theorem GridIs.touch {w w' : World} {g : Nat} {G : List Int} {al : Nat → Bool} {rel : Nat → Nat → Bool} (h : GridIs w g G al rel) {v : Nat} {s : SpecV} {T : List Ent} (hV : VocIs w v s T) (t : Touch v w w') : GridIs w' g G al rel := by
  obtain ⟨ids, rows, alone, mb, rs, h⟩ := h
  exact ⟨ids, rows, alone, mb, rs, h.touch hV t⟩
theorem box_store {w2 w3 : World} {x u : Value} {e : TypeId} (hw : w3 = w2.alloc (.cells #[x] e)) (hu : u.oneCell' = true) {k : World → Prop} (hk : ∀ w4, w4.heap[w2.heap.size]? = some (.cells #[u] e (0, 0)) → Below w2.heap.size w2 w4 → k w4) : u.oneCell' = true ∧ (∃ y, w3.cell? (nb w2) = some y) ∧ w3.frozen? (nb w2) = false ∧ ∀ w4, w4 = w3.setCell (nb w2) u → k w4 :=
  store_one (storeP_new [x] [u] rfl (by intro y hy; rw [List.mem_singleton.1 hy]; exact hu) w3 hw fun w4 h4 _ b4 => hk w4 h4 b4)
theorem cell1 {w : World} {b : Nat} {x : Value} {e : TypeId} {fz : Nat × Nat} (h : w.heap[b]? = some (.cells #[x] e fz)) : w.cell? ⟨b, 0, none⟩ = some x := cell_heap h
theorem getD_of {α : Type} {l : List α} {i : Nat} (h : i < l.length) (d : α) : l.getD i d = l[i] := by simp [List.getD, h]
theorem gids_bound {s : SpecV} {T : List Ent} (h1 : TOk T) (h2 : s.right = true) : 256 ≤ (gids s T).length ∧ (gids s T).length ≤ 1032 := by
  have := h1.most
  have := h1.len
  have := allOk_len (right_parts h2).2.2.2.1
  rw [gids_length]
  omega
theorem Touch.put {v d j : Nat} {a b : World} (t : Touch v a b) (hd : a.heap.size ≤ d) (u : Value) : Touch v a (b.setCell ((⟨d, 0, none⟩ : Addr).add j) u) :=
  ⟨t.os, t.tape, t.output, by rw [size_setCell]; exact t.size, fun k hk hv => by rw [heap_setCell_ne (by rw [add_block]; show k ≠ d; omega)]; exact t.block k hk hv⟩
theorem VocIs.put {w : World} {v d j : Nat} {s : SpecV} {T : List Ent} (h : VocIs w v s T) {c : Array Value} {e : TypeId} (hd : w.heap[d]? = some (.cells c e (0, 0))) (he : tBool ≠ e) (hv : v < d) (u : Value) : VocIs (w.setCell ((⟨d, 0, none⟩ : Addr).add j) u) v s T := by
  obtain ⟨w0, x, tp, bp, mp, q, l, uses, hR⟩ := h
  have hlt := hR.lt
  refine ⟨w0, x, tp, bp, mp, q, l, uses, hR.parts, below_put hR.below (by omega) u, hlt, by rw [heap_setCell_ne (by rw [add_block]; show v ≠ d; omega)]; exact hR.blk, ?_⟩
  rcases hR.once with h | ⟨h1, h2, h3⟩
  · exact .inl h
  · exact .inr ⟨h1, h2, own_setCell h3 u (by rw [add_block]; exact row_ne_blk h3 hd he)⟩
theorem VocIs.growE {w w' : World} {v : Nat} {s : SpecV} {T : List Ent} (h : VocIs w v s T) {B : Nat} (hb : Below B w w') (hv : v < B) {B' n sz : Nat} {e : TypeId} {u : Value} {xs : List Value} (ho : w.ownsRow B' e sz u n xs) (he : tBool ≠ e) (hk : ∀ k, k < w.heap.size → u.ownBlock ≠ some k → w'.heap[k]? = w.heap[k]?) : VocIs w' v s T := by
  obtain ⟨w0, x, tp, bp, mp, d, l, uses, hR⟩ := h
  have hlt := hR.lt
  refine ⟨w0, x, tp, bp, mp, d, l, uses, hR.parts, hR.below.trans (hb.mono (by omega)), hlt, by rw [hb.block v hv]; exact hR.blk, ?_⟩
  rcases hR.once with h | ⟨h1, h2, h3⟩
  · exact .inl h
  · exact .inr ⟨h1, h2, own_same h3 fun k hk3 => hk k (own_lt h3 k hk3).2 (row_ne_row h3 ho he k hk3)⟩
theorem alone_dec (w : World) (v : Nat) (s : SpecV) (T : List Ent) (hV : VocIs w v s T) (t : Int) (ht : (vocOf s T).Has t) :
    Calls Tryz.prog 99 #[.pointer (some ⟨v, 0, none⟩), .int .i64 t] w fun e w' => e = .returned (.bool (decide ((vocOf s T).Canon [t]))) ∧ VocIs w' v s T ∧ Touch v w w' := by
  have hP : ∃ x tp bp mp, VocParts w s T x tp bp mp := by
    obtain ⟨w0, x, tp, bp, mp, d, l, uses, hR⟩ := hV
    exact ⟨x, tp, bp, mp, hR.now⟩
  obtain ⟨x, tp, bp, mp, hP⟩ := hP
  refine (alone_spec w v s T hV t).mono ?_
  rintro e w1 ⟨rfl, h⟩
  refine ⟨?_, h⟩
  congr 2
  have := aloneV_iff hP ht
  cases ha : aloneV s T t with
  | true => exact (decide_eq_true (this.1 ha)).symm
  | false => exact (decide_eq_false fun e => by rw [this.2 e] at ha; cases ha).symm
theorem new1_spec (w : World) (v : Nat) (s : SpecV) (T : List Ent) (hV : VocIs w v s T) (b0 b1 : Nat) {e0 e1 : TypeId} (ids : Sl) (G : List Int) (h0 : w.heap[b0]? = some (.cells #[.pointer (some ⟨v, 0, none⟩)] e0 (0, 0))) (h1 : w.heap[b1]? = some (.cells #[ids.v] e1 (0, 0))) (oi : w.ownsRow 0 tInt 1 ids.v ids.n (G.flatMap encInt)) (hG : ∀ t ∈ G, (vocOf s T).Has t) (i : Nat) (hi : i < G.length) :
    Calls Tryz.prog 98 #[.int .i64 (i : Int), .pointer (some ⟨b0, 0, none⟩), .pointer (some ⟨b1, 0, none⟩)] w fun e w' => e = .returned (.bool (decide ((vocOf s T).Canon [G.getD i 0]))) ∧ VocIs w' v s T ∧ Touch v w w' := by
  refine calls_ret (vc98_calls i (some ⟨b0, 0, none⟩) (some ⟨b1, 0, none⟩) w (fun u w' => u = .bool (decide ((vocOf s T).Canon [G.getD i 0])) ∧ VocIs w' v s T ∧ Touch v w w') ?_) (by rintro v w' ⟨rfl, h⟩; exact ⟨rfl, h⟩)
  intro w1 hw1
  have b1' : Below w.heap.size w w1 := by subst hw1; exact drew_on w
  have hls := LsAt.of_own elInt (own_on oi b1')
  have hn := hls.n
  obtain ⟨p, hp, c0⟩ := cell_rw hls.r hi rfl
  refine NilC.mk _ rfl ⟨_, cell1 (held_on b1' h0), NilC.mk _ rfl ⟨ids.a, ids.n, ids.c, cell1 (held_on b1' h1), NilC.mk p hp ⟨by omega, by omega, _, c0, ?_⟩⟩⟩
  refine (alone_dec w1 v s T (hV.on b1') G[i] (hG _ (List.getElem_mem hi))).mono ?_
  rintro e w2 ⟨rfl, hV2, t2⟩
  refine ⟨_, rfl, ?_, hV2, (Touch.of_below b1').trans t2⟩
  rw [getD_of hi]
theorem new2_spec (w : World) (v : Nat) (s : SpecV) (T : List Ent) (hV : VocIs w v s T) (cg ci cv ca cids : Nat) {eg ei ev ea ed : TypeId} (g : Nat) (ids rows alone : Sl) (mb : Nat) (rs : List Sl) (m i k : Nat) (hb : v < cg ∧ v < ci ∧ v < cv ∧ v < ca ∧ v < cids)
    (hR : GridR w g (gids s T) (alB s T) (relB s T) ids rows alone mb rs m) (hgh : ∀ t ∈ gids s T, (vocOf s T).Has t) (hgl : (gids s T).length ≤ 1032)
    (h0 : w.heap[cg]? = some (.cells #[.pointer (some ⟨g, 0, none⟩)] eg (0, 0))) (h1 : w.heap[ci]? = some (.cells #[.int .i64 (i : Int)] ei (0, 0))) (h2 : w.heap[cv]? = some (.cells #[.pointer (some ⟨v, 0, none⟩)] ev (0, 0))) (h3 : w.heap[ca]? = some (.cells #[.int .i64 ((gids s T).getD i 0)] ea (0, 0))) (h4 : w.heap[cids]? = some (.cells #[ids.v] ed (0, 0)))
    (hi : i < (gids s T).length) (hk : k < (gids s T).length) :
    Calls Tryz.prog 100 #[.int .i64 (k : Int), .pointer (some ⟨cg, 0, none⟩), .pointer (some ⟨ci, 0, none⟩), .pointer (some ⟨cv, 0, none⟩), .pointer (some ⟨ca, 0, none⟩), .pointer (some ⟨cids, 0, none⟩)] w fun e w' => e = .returned (.bool (relB s T i k)) ∧ VocIs w' v s T ∧ Touch v w w' := by
  refine calls_ret (vc100_calls k (some ⟨cg, 0, none⟩) (some ⟨ci, 0, none⟩) (some ⟨cv, 0, none⟩) (some ⟨ca, 0, none⟩) (some ⟨cids, 0, none⟩) w (fun u w' => u = .bool (relB s T i k) ∧ VocIs w' v s T ∧ Touch v w w') ?_) (by rintro v w' ⟨rfl, h⟩; exact ⟨rfl, h⟩)
  have hP : ∃ x tp bp mp, VocParts w s T x tp bp mp := by
    obtain ⟨w0, x, tp, bp, mp, d, l, uses, hR⟩ := hV
    exact ⟨x, tp, bp, mp, hR.now⟩
  obtain ⟨x, tp, bp, mp, hP⟩ := hP
  have hok := voc_ok hP
  have hA : (vocOf s T).Has ((gids s T).getD i 0) := by rw [getD_of hi]; exact hgh _ (List.getElem_mem hi)
  have hB : (vocOf s T).Has ((gids s T).getD k 0) := by rw [getD_of hk]; exact hgh _ (List.getElem_mem hk)
  have hpair : relB s T i k = true → alB s T i = true ∧ alB s T k = true := by
    intro h
    have := Voc.canon_append hok (P := [(gids s T).getD i 0]) (Q := [(gids s T).getD k 0]) (by
      intro t ht
      simp only [List.cons_append, List.nil_append, List.mem_cons, List.not_mem_nil, or_false] at ht
      rcases ht with rfl | rfl
      · exact hA
      · exact hB) (of_decide_eq_true h)
    exact ⟨decide_eq_true this.1, decide_eq_true this.2⟩
  intro w1 hw1
  have b1' : Below w.heap.size w w1 := by subst hw1; exact drew_on w
  have t1 : Touch v w w1 := Touch.of_below b1'
  have hR1 := hR.on b1'
  have hV1 := hV.on b1'
  have al1 := LsAt.of_own elU64 hR1.oal
  refine NilC.mk _ rfl ⟨_, cell1 (held_on b1' h0), NilC.mk _ rfl ⟨alone.a, alone.n, alone.c, by rw [cell_put hR1.blk]; rfl, NilC.mk _ rfl ⟨_, cell1 (held_on b1' h1), ?_⟩⟩⟩
  refine (rowHas_spec w1 alone.a alone.n alone.c _ (alB s T) al1.r al1.n (by omega) i hi).mono ?_
  rintro e w2 ⟨rfl, hw2⟩
  rw [hw2]
  refine ⟨_, rfl, CondP.mk (fun ha => ?_) fun ha => ⟨?_, hV1, t1⟩⟩
  · refine NilC.mk _ rfl ⟨_, cell1 (held_on b1' h0), NilC.mk _ rfl ⟨alone.a, alone.n, alone.c, by rw [cell_put hR1.blk]; rfl, ?_⟩⟩
    refine (rowHas_spec w1 alone.a alone.n alone.c _ (alB s T) al1.r al1.n (by omega) k hk).mono ?_
    rintro e w3 ⟨rfl, hw3⟩
    rw [hw3]
    refine ⟨_, rfl, CondP.mk (fun hb => ?_) fun hb => ⟨?_, hV1, t1⟩⟩
    · have hls := LsAt.of_own elInt hR1.oi
      have hn := hls.n
      obtain ⟨p, hp, c0⟩ := cell_rw hls.r hk rfl
      refine NilC.mk _ rfl ⟨_, cell1 (held_on b1' h2), NilC.mk _ rfl ⟨_, cell1 (held_on b1' h3), NilC.mk _ rfl ⟨ids.a, ids.n, ids.c, cell1 (held_on b1' h4), NilC.mk p hp ⟨by omega, by omega, _, c0, ?_⟩⟩⟩⟩
      rw [← getD_of hk 0]
      refine (valid_spec w1 v s T hV1 _ _ hA hB).mono ?_
      rintro e w4 ⟨rfl, hV4, t4⟩
      exact ⟨_, rfl, rfl, hV4, t1.trans t4⟩
    · cases hr : relB s T i k with
      | false => rfl
      | true => rw [(hpair hr).2] at hb; cases hb
  · cases hr : relB s T i k with
    | false => rfl
    | true => rw [(hpair hr).1] at ha; cases ha
theorem own_ne_map {w : World} {B : Nat} {e : TypeId} {sz n : Nat} {u : Value} {xs : List Value} (h : w.ownsRow B e sz u n xs) {κ : Type} [DecidableEq κ] {kv : κ → Value} {r : Nat} {m : List (κ × Value)} (hm : MapIs kv w r m) : u.ownBlock ≠ some r := by
  obtain ⟨es, k, hk, _⟩ := hm
  intro hb
  rcases h.2 with ⟨rfl, _⟩ | ⟨g, cap, cur, rfl, _, hg, _⟩
  · cases hb
  · cases hb
    rw [hk] at hg
    cases hg
theorem two_boxes {q w1 w2 : World} {x y u z : Value} {e e' : TypeId} (h1 : w1 = q.alloc (.cells #[x] e)) (h2 : w2 = w1.alloc (.cells #[y] e')) (hu : u.oneCell' = true) (hz : z.oneCell' = true) {k : World → Prop} (hk : ∀ w4, w4.heap[q.heap.size]? = some (.cells #[u] e (0, 0)) → w4.heap[w1.heap.size]? = some (.cells #[z] e' (0, 0)) → Below q.heap.size q w4 → k w4) :
    u.oneCell' = true ∧ (∃ a, w2.cell? (nb q) = some a) ∧ w2.frozen? (nb q) = false ∧ ∀ w3, w3 = w2.setCell (nb q) u → z.oneCell' = true ∧ (∃ a, w3.cell? (nb w1) = some a) ∧ w3.frozen? (nb w1) = false ∧ ∀ w4, w4 = w3.setCell (nb w1) z → k w4 := by
  have b1 : Below q.heap.size q w1 := by subst h1; exact below_alloc _ _
  have a1 : w1.heap[q.heap.size]? = some (.cells #[x] e (0, 0)) := by subst h1; exact alloc_new _ _
  have b2 : Below w1.heap.size w1 w2 := by subst h2; exact below_alloc _ _
  have a2 : w2.heap[w1.heap.size]? = some (.cells #[y] e' (0, 0)) := by subst h2; exact alloc_new _ _
  have a12 := held_on b2 a1
  have hlt : q.heap.size < w1.heap.size := (Array.getElem?_eq_some_iff.1 a1).1
  have b02 := below_then b1 b2
  refine ⟨hu, ⟨_, cell_heap a12⟩, frozen_heap a12, ?_⟩
  intro w3 h3
  have a13 : w3.heap[q.heap.size]? = some (.cells #[u] e (0, 0)) := by subst h3; exact setCell_heap a12 u
  have a23 : w3.heap[w1.heap.size]? = some (.cells #[y] e' (0, 0)) := by subst h3; rw [heap_setCell_ne (by show w1.heap.size ≠ q.heap.size; omega)]; exact a2
  have b03 : Below q.heap.size q w3 := by subst h3; exact b02.setCell (p := nb q) (Nat.le_refl _) u
  refine ⟨hz, ⟨_, cell_heap a23⟩, frozen_heap a23, ?_⟩
  intro w4 h4
  refine hk w4 ?_ ?_ ?_
  · subst h4; rw [heap_setCell_ne (by show q.heap.size ≠ w1.heap.size; omega)]; exact a13
  · subst h4; exact setCell_heap a23 z
  · subst h4; exact b03.setCell (p := nb w1) (Nat.le_of_lt hlt) z
def NewGR (w : World) (v : Nat) (s : SpecV) (T : List Ent) (most : Int) (u : Value) (w' : World) : Prop := VocIs w' v s T ∧ Touch v w w' ∧ (if (((gids s T).length * (gids s T).length : Nat) : Int) > most then u = .tuple #[.pointer none, .int .i64 5] else ∃ g, u = .tuple #[.pointer (some ⟨g, 0, none⟩), .int .i64 0] ∧ GridIs w' g (gids s T) (alB s T) (relB s T) ∧ w.heap.size ≤ g)
set_option maxHeartbeats 2000000 in
theorem gridNew_spec (w : World) (v : Nat) (s : SpecV) (T : List Ent) (hV : VocIs w v s T) (hasc : (s.specials.map (·.1)).Pairwise (· < ·)) (most : Int) :
    Calls Tryz.prog 61 #[.pointer (some ⟨v, 0, none⟩), .int .i64 most] w fun e w' => ∃ u, e = .returned u ∧ NewGR w v s T most u w' := by
  refine vc61_calls (some ⟨v, 0, none⟩) most w (NewGR w v s T most) ?_
  have hgb : 256 ≤ (gids s T).length ∧ (gids s T).length ≤ 1032 ∧ (∀ t ∈ gids s T, (vocOf s T).Has t) ∧ (gids s T).Pairwise (· < ·) := by
    obtain ⟨w0, x, tp, bp, mp, d, l, uses, hR⟩ := hV
    have hP := hR.now
    exact ⟨(gids_bound hP.ok hP.right).1, (gids_bound hP.ok hP.right).2, fun t ht => (has_iff hP t).1 ((gids_has s T t).1 ht), gids_rising hasc hP.ids⟩
  obtain ⟨hg1, hg2, hgh, hgr⟩ := hgb
  intro w1 hw1
  have b1 : Below w.heap.size w w1 := by subst hw1; exact below_alloc _ _
  have l1 : w1.heap[w.heap.size]? = some (.cells #[.pointer (some ⟨v, 0, none⟩)] 31 (0, 0)) := by subst hw1; exact alloc_new _ _
  refine ⟨_, cell1 l1, ?_⟩
  have hV1 := hV.on b1
  refine (vocIds_spec w1 v s T hV1 hasc).mono ?_
  rintro e w2 ⟨ids, rfl, oids, b2⟩
  refine ⟨_, _, _, rfl, ?_⟩
  intro w3 hw3
  refine box_store hw3 rfl ?_
  intro w4 l4 b4
  have b24 := below_then b2 b4
  have b14 := below_then b1 b24
  have oids4 := own_base (own_on oids b4) (Nat.zero_le _)
  have hin := (LsAt.of_own elInt oids4).n
  have l14 := held_on b24 l1
  have hV4 := hV.on b14
  refine ⟨_, cell1 l14, CondP.no rfl ⟨ids.a, ids.n, ids.c, cell1 l4, ids.a, ids.n, ids.c, cell1 l4, Ar.nat ((gids s T).length * (gids s T).length) (by rw [hin]; simp) (by
    have : (gids s T).length * (gids s T).length ≤ 1032 * 1032 := Nat.mul_le_mul hg2 hg2
    omega) (CondP.mk (fun hm => ⟨hV4, Touch.of_below b14, ?_⟩) fun hm => ?_)⟩⟩
  · rw [if_pos (of_decide_eq_true hm)]
  have hm := of_decide_eq_false hm
  obtain ⟨G, hG⟩ : ∃ G, G = gids s T := ⟨_, rfl⟩
  rw [← hG] at oids4 hin hg1 hg2 hgh hgr hm
  obtain ⟨n, hn⟩ : ∃ n, n = G.length := ⟨_, rfl⟩
  rw [← hn] at hin
  refine ⟨ids.a, ids.n, ids.c, cell1 l4, _, _, run_make _, ?_⟩
  have b5 := below_alloc w4 (.map #[] 0)
  have m5 : MapIs intKey (w4.alloc (.map #[] 0)) w4.heap.size (gmap []) := map_new w4
  obtain ⟨w5, hw5⟩ : ∃ w5, w5 = w4.alloc (.map #[] 0) := ⟨_, rfl⟩
  rw [← hw5] at b5 m5
  rw [← hw5]
  intro w6 hw6 w7 hw7
  have b6 : Below w5.heap.size w5 w6 := by subst hw6; exact below_alloc _ _
  have g6 : w6.heap[w5.heap.size]? = some (.cells #[ids.v, .map (some w4.heap.size), sl0.v, sl0.v] tGrid (0, 0)) := by subst hw6; exact alloc_new _ _
  refine box_store hw7 rfl ?_
  intro w8 l8 b8
  have b58 := below_then b6 b8
  have b48 := below_then b5 b58
  have b08 := below_then b14 b48
  have hz4 := b14.size
  have hz5 := b5.size
  have lt4 : w4.heap.size < w5.heap.size := m5.lt
  have lt6 : w5.heap.size < w6.heap.size := (Array.getElem?_eq_some_iff.1 g6).1
  have lt8 : w6.heap.size < w8.heap.size := (Array.getElem?_eq_some_iff.1 l8).1
  have lt2 : w2.heap.size < w4.heap.size := (Array.getElem?_eq_some_iff.1 l4).1
  have lt1 : w.heap.size < w4.heap.size := (Array.getElem?_eq_some_iff.1 l14).1
  have hvl := hV.lt
  -- what stays in place behind w8: the boxes, the numbers
  have boxes : ∀ {q : World}, Below (w4.heap.size) w8 q → q.heap[w.heap.size]? = some (.cells #[.pointer (some ⟨v, 0, none⟩)] 31 (0, 0)) ∧ q.heap[w2.heap.size]? = some (.cells #[ids.v] tInts (0, 0)) := by
    intro q hq
    exact ⟨Below.keeps hq lt1 (held_on b48 l14), Below.keeps hq lt2 (held_on b48 l4)⟩
  refine ⟨ids.a, ids.n, ids.c, cell1 (held_on b48 l4), ?_⟩
  have oids8 := own_on oids4 b48
  have idsLt : ∀ k, ids.v.ownBlock = some k → k < w4.heap.size := fun k hk => (own_lt oids4 k hk).2
  intro I hI
  -- places
  let Inv (i : Nat) (q : World) : Prop := MapIs intKey q w4.heap.size (gmap (G.take i)) ∧ (∀ j, j ≠ w4.heap.size → q.heap[j]? = w8.heap[j]?) ∧ q.heap.size = w8.heap.size ∧ Below w4.heap.size w4 q
  have key := climb2 (α := World) n Inv (fun i q => I [.int .i64 (i : Int)] q) w8 ⟨by rw [List.take_zero]; exact m5.on b58, fun _ _ => rfl, rfl, b48⟩ ?_ ?_
  · exact key
  · rintro i hi ih q ⟨hmap, hs, hz, hB⟩
    have hiG : i < G.length := by omega
    have oq : q.ownsRow 0 tInt 1 ids.v ids.n (G.flatMap encInt) := own_same oids8 fun k hk => hs k (by have := idsLt k hk; omega)
    obtain ⟨p, hp, c0⟩ := cell_rw (LsAt.of_own elInt oq).r hiG rfl
    have hlook : look G[i] (gmap (G.take i)) = none := by
      rw [look_gmap, List.idxOf?_eq_none_iff.2]
      · rfl
      · intro hmem
        obtain ⟨j, hj, e⟩ := List.mem_take_iff_getElem.1 hmem
        have := List.pairwise_iff_getElem.1 hgr j i (by omega) hiG (by omega)
        omega
    obtain ⟨q', hr', hm', hs', hz', hB'⟩ := run_put_new keysI undMapI hmap G[i] (.int .i64 (i : Int)) hlook
    refine hI _ _ (CondP.yes (by simp; omega) (NilC.mk p hp ⟨by omega, by omega, _, c0, _, cell1 (by rw [hs w6.heap.size (by omega)]; exact l8), NilC.mk _ rfl ⟨_, ptr_add0 _ _ (by rw [hs w5.heap.size (by omega)]; exact held_on b8 g6) 1, q', hr', Ar.nat (i + 1) rfl (by omega) (ih q' ⟨?_, fun j hj => by rw [hs' j hj, hs j hj], by rw [hz', hz], hB' _ _ (Nat.le_refl _) hB⟩)⟩⟩))
    have e : gmap (G.take (i + 1)) = gmap (G.take i) ++ [(G[i], .int .i64 (i : Int))] := by
      rw [List.take_add_one, List.getElem?_eq_getElem hiG]
      have := gmap_snoc (G.take i) G[i]
      rw [List.length_take, Nat.min_eq_left (by omega)] at this
      exact this
    rw [e]
    exact hm'
  · rintro q ⟨hmap, hs, hz, hB⟩
    rw [List.take_of_length_le (by omega)] at hmap
    refine hI _ _ (CondP.no (by simp; omega) ?_)
    intro w11 hw11
    have b11 : Below q.heap.size q w11 := by subst hw11; exact drew_on q
    have hq8 : Below w4.heap.size w8 q := ⟨by rw [hB.os, ← b48.os], by rw [hB.tape, ← b48.tape], by rw [hB.output, ← b48.output], by rw [hz]; exact Nat.le_refl _, fun k hk => hs k (by omega)⟩
    have hq8' : Below w4.heap.size w8 w11 := hq8.trans (b11.mono (by have := hq8.size; omega))
    have hV11 : VocIs w11 v s T := (hV4.on b5 |> fun h5 => (hV4.on ⟨hB.os, hB.tape, hB.output, hB.size, hB.block⟩)).on b11
    have t11 : Touch v w w11 := (Touch.of_below b14).trans (Touch.of_below (hB.trans (b11.mono hB.size)))
    have g11 := held_on b11 (show q.heap[w5.heap.size]? = some (.cells #[ids.v, .map (some w4.heap.size), sl0.v, sl0.v] tGrid (0, 0)) by rw [hs _ (by omega)]; exact held_on b8 g6)
    have lg11 := held_on b11 (show q.heap[w6.heap.size]? = _ by rw [hs _ (by omega)]; exact l8)
    have bx11 := boxes hq8'
    have m11 := hmap.on b11
    have o11 : w11.ownsRow 0 tInt 1 ids.v ids.n (G.flatMap encInt) := own_on (own_same oids8 fun k hk => hs k (by have := idsLt k hk; omega)) b11
    subst hG
    have bxL : w.heap.size < w11.heap.size ∧ w2.heap.size < w11.heap.size ∧ w6.heap.size < w11.heap.size ∧ w5.heap.size < w11.heap.size := ⟨(Array.getElem?_eq_some_iff.1 bx11.1).1, (Array.getElem?_eq_some_iff.1 bx11.2).1, (Array.getElem?_eq_some_iff.1 lg11).1, (Array.getElem?_eq_some_iff.1 g11).1⟩
    have sz2 : w.heap.size ≤ w2.heap.size := Nat.le_trans b1.size b2.size
    refine ⟨_, cell1 lg11, ids.a, ids.n, ids.c, cell1 bx11.2, ?_⟩
    refine (fill_spec w11 ids.n _ (fun i => alB s T i) v s T hV11 (by omega) ?_).mono ?_
    · intro i hi q hVq tq
      refine callG_of (by kernel_rfl) ?_
      exact new1_spec q v s T hVq w.heap.size w2.heap.size ids (gids s T) (tq.held (by omega) bx11.1) (tq.held (by omega) bx11.2) (hV11.own_touch tq o11 (by decide)) hgh i (by omega)
    rintro e w12 ⟨al, rfl, oal, hV12, t12⟩
    rw [hin, hn] at oal
    have lg12 := t12.held (by omega) lg11
    have g12 := t12.held (by omega) g11
    have x12 := t12.held (by omega) bx11.1
    have y12 := t12.held (by omega) bx11.2
    have o12 := hV11.own_touch t12 o11 (by decide)
    have m12 := m11.same (t12.block _ m11.lt (by omega))
    refine ⟨al.a, al.n, al.c, rfl, ⟨cell1 lg12, trivial⟩, NilC.mk _ rfl ⟨rfl, ⟨_, by rw [cell_put g12]; rfl⟩, frozen_put g12, ?_⟩⟩
    intro w13 hw13
    have g13 : w13.heap[w5.heap.size]? = some (.cells #[ids.v, .map (some w4.heap.size), sl0.v, al.v] tGrid (0, 0)) := by subst hw13; exact heap_put g12 _
    have hs13 : ∀ j, j ≠ w5.heap.size → w13.heap[j]? = w12.heap[j]? := by
      intro j hj
      subst hw13
      exact heap_setCell_ne (by rw [add_block]; exact hj)
    have hV13 : VocIs w13 v s T := by subst hw13; exact hV12.put g12 (by decide) (by omega) _
    have t13 : Touch v w w13 := by subst hw13; exact (t11.trans t12).put (by omega) _
    have lg13 : w13.heap[w6.heap.size]? = _ := (hs13 _ (by omega)).trans lg12
    have x13 : w13.heap[w.heap.size]? = _ := (hs13 _ (by omega)).trans x12
    have y13 : w13.heap[w2.heap.size]? = _ := (hs13 _ (by omega)).trans y12
    have hR13 : GridR w13 w5.heap.size (gids s T) (alB s T) (relB s T) ids sl0 al w4.heap.size [] 0 :=
      ⟨g13, own_same o12 fun k hk => hs13 k fun e => row_ne_blk o12 g12 (by decide) (by rw [hk, e]), m12.same (hs13 _ (by omega)), own_none _ _ _ _ encS, rfl, (by intro i r h; cases h), own_same (own_base oal (Nat.zero_le _)) fun k hk => hs13 k fun e => row_ne_blk oal g12 (by decide) (by rw [hk, e])⟩
    refine ⟨ids.a, ids.n, ids.c, cell1 y13, ?_⟩
    intro I2 hI2
    let Inv2 (i : Nat) (q : World) : Prop := ∃ rows rs, GridR q w5.heap.size (gids s T) (alB s T) (relB s T) ids rows al w4.heap.size rs i ∧ q.ownsRow w.heap.size tRow 1 rows.v rows.n (rs.flatMap encS) ∧ VocIs q v s T ∧ Touch v w q ∧ q.heap[w6.heap.size]? = some (.cells #[.pointer (some (nb w5))] 48 (0, 0)) ∧ q.heap[w.heap.size]? = some (.cells #[.pointer (some ⟨v, 0, none⟩)] 31 (0, 0)) ∧ q.heap[w2.heap.size]? = some (.cells #[ids.v] tInts (0, 0))
    have key2 := climb2 (α := World) n Inv2 (fun i q => I2 [.int .i64 (i : Int)] q) w13 ⟨sl0, [], hR13, own_none _ _ _ _ encS, hV13, t13, lg13, x13, y13⟩ ?_ ?_
    · exact key2
    · rintro i hi ih z ⟨rows, rs, hR, orow, hVz, tz, lgz, xz, yz⟩
      have hiG : i < (gids s T).length := by omega
      have zb : w.heap.size < z.heap.size ∧ w2.heap.size < z.heap.size ∧ w6.heap.size < z.heap.size ∧ w5.heap.size < z.heap.size := ⟨(Array.getElem?_eq_some_iff.1 xz).1, (Array.getElem?_eq_some_iff.1 yz).1, (Array.getElem?_eq_some_iff.1 lgz).1, (Array.getElem?_eq_some_iff.1 hR.blk).1⟩
      have hlz := LsAt.of_own elInt hR.oi
      obtain ⟨p, hp, c0⟩ := cell_rw hlz.r hiG rfl
      have hnz := hlz.n
      refine hI2 _ _ (CondP.yes (by simp; omega) (NilC.mk p hp ⟨by omega, by omega, _, c0, ?_⟩))
      intro w15 hw15 w16 hw16
      refine two_boxes hw15 hw16 rfl rfl ?_
      intro w18 bi18 ba18 b18
      have zs15 : z.heap.size < w15.heap.size := by subst hw15; rw [alloc_size]; omega
      intro w19 hw19
      have b19' : Below w18.heap.size w18 w19 := by subst hw19; exact drew_on w18
      have b19 := below_then b18 b19'
      have bi19 := held_on b19' bi18
      have ba19 := held_on b19' ba18
      have hR19 := hR.on b19
      have hV19 := hVz.on b19
      have lg19 := held_on b19 lgz
      have x19 := held_on b19 xz
      have y19 := held_on b19 yz
      have or19 := own_on orow b19
      have t19 : Touch v w w19 := tz.then_off b19 tz.size
      refine ⟨_, cell1 lg19, _, cell1 lg19, NilC.mk _ rfl ⟨rows.a, rows.n, rows.c, by rw [cell_put hR19.blk]; rfl, ids.a, ids.n, ids.c, cell1 y19, ?_⟩⟩
      refine (fill_spec w19 ids.n _ (fun k => relB s T i k) v s T hV19 (by omega) ?_).mono ?_
      · intro k hk q hVq tq
        refine callG_of (by kernel_rfl) ?_
        refine new2_spec q v s T hVq w6.heap.size z.heap.size w.heap.size w15.heap.size w2.heap.size w5.heap.size ids rows al w4.heap.size rs i i k ⟨by omega, by omega, by omega, by omega, by omega⟩ (hR19.touch hV19 tq) hgh hg2 (tq.held (by omega) lg19) (tq.held (by omega) bi19) (tq.held (by omega) x19) (tq.held (by omega) (by rw [getD_of hiG]; exact ba19)) (tq.held (by omega) y19) hiG (by omega)
      rintro e w20 ⟨r, rfl, orw, hV20, t20⟩
      rw [hin, hn] at orw
      have hR20 := hR19.touch hV19 t20
      have lg20 := t20.held (by omega) lg19
      have x20 := t20.held (by omega) x19
      have y20 := t20.held (by omega) y19
      have or20 := hV19.own_touch t20 or19 (by decide)
      refine ⟨r.a, r.n, r.c, rfl, ⟨by rw [cell_put hR20.blk]; rfl, trivial⟩, ⟨cell1 lg20, trivial⟩, ⟨cell1 lg20, trivial⟩, ?_⟩
      intro w21 hw21
      have b21 : Below w20.heap.size w20 w21 := by subst hw21; exact below_alloc _ _
      have lg21 := held_on b21 lg20
      have wb : w.heap.size ≤ w20.heap.size := (t19.trans t20).size
      obtain ⟨rows', w22, hn22, hrun, own22, hB22, hk22⟩ := elRow.push or20 r hw21 rfl wb (by have := (LsAt.of_own elRow or20).n; have := hR.rl; omega) (by decide)
      refine ⟨⟨by rw [cell_put (held_on b21 hR20.blk)]; rfl, trivial⟩, ⟨cell1 lg21, trivial⟩, ⟨cell1 lg21, trivial⟩, rows'.a, rows'.n, rows'.c, w22, hrun, ?_⟩
      have kp : ∀ {k : Nat} {o : Obj}, w20.heap[k]? = some o → rows.v.ownBlock ≠ some k → w22.heap[k]? = some o := fun {k o} h hne => (hk22 k (Array.getElem?_eq_some_iff.1 h).1 hne).trans h
      have lg22 := kp lg20 (row_ne_blk or20 lg20 (by decide))
      have x22 := kp x20 (row_ne_blk or20 x20 (by decide))
      have y22 := kp y20 (row_ne_blk or20 y20 (by decide))
      have g22 := kp hR20.blk (row_ne_blk or20 hR20.blk (by decide))
      have B22 := hB22 w20 (Below.refl _ _)
      have hV22 := hV20.growE B22 hvl or20 (by decide) hk22
      have t22 : Touch v w w22 := (t19.trans t20).then_off B22 (Nat.le_refl _)
      refine ⟨⟨cell1 lg22, trivial⟩, NilC.mk _ rfl ⟨rfl, ⟨_, by rw [cell_put g22]; rfl⟩, frozen_put g22, ?_⟩⟩
      intro w23 hw23
      have hs23 : ∀ j, j ≠ w5.heap.size → w23.heap[j]? = w22.heap[j]? := by
        intro j hj
        subst hw23
        exact heap_setCell_ne (by rw [add_block]; exact hj)
      have same : ∀ {B sz n : Nat} {e : TypeId} {u : Value} {xs : List Value}, w20.ownsRow B e sz u n xs → e ≠ tRow → e ≠ tGrid → w23.ownsRow B e sz u n xs := by
        intro B sz n e u xs h h1 h2
        refine own_same h fun k hk => ?_
        rw [hs23 k fun e => row_ne_blk h hR20.blk h2 (by rw [hk, e])]
        exact hk22 k (own_lt h k hk).2 (row_ne_row h or20 h1 k hk)
      have own23 : w23.ownsRow w.heap.size tRow 1 rows'.v rows'.n ((rs ++ [r]).flatMap encS) := own_same own22 fun k hk => hs23 k fun e => row_ne_blk own22 g22 (by decide) (by rw [hk, e])
      refine Ar.nat (i + 1) rfl (by omega) (ih w23 ⟨rows', rs ++ [r], ?_, own23, ?_, ?_, (hs23 _ (by omega)).trans lg22, (hs23 _ (by omega)).trans x22, (hs23 _ (by omega)).trans y22⟩)
      · refine ⟨by subst hw23; exact heap_put g22 _, same hR20.oi (by decide) (by decide), ?_, own_base own23 (Nat.zero_le _), by have := hR.rl; simp; omega, ?_, same hR20.oal (by decide) (by decide)⟩
        · exact hR20.map.same ((hs23 _ (by omega)).trans (hk22 _ hR20.map.lt (own_ne_map or20 hR20.map)))
        · intro j r' hj
          have hrl := hR.rl
          by_cases h : j < rs.length
          · rw [List.getElem?_append_left h] at hj
            exact same (hR20.each j r' hj) (by decide) (by decide)
          · have hji : j = i := by
              have := (List.getElem?_eq_some_iff.1 hj).1
              simp at this
              omega
            subst hji
            rw [List.getElem?_append_right (by omega), hrl, Nat.sub_self] at hj
            cases hj
            exact same (own_base orw (Nat.zero_le _)) (by decide) (by decide)
      · subst hw23; exact hV22.put g22 (by decide) (by omega) _
      · subst hw23; exact t22.put (by omega) _
    · rintro z ⟨rows, rs, hR, orow, hVz, tz, lgz, xz, yz⟩
      rw [hn] at hR
      refine hI2 _ _ (CondP.no (by simp; omega) ⟨_, cell1 lgz, hVz, tz, ?_⟩)
      rw [if_neg (by have := hm; rw [hn] at *; omega)]
      exact ⟨w5.heap.size, rfl, ⟨ids, rows, al, w4.heap.size, rs, hR⟩, by omega⟩
end Go.Proofs.YtboemnagahmlkaaGreat.Eng

/- Counting bits by halves; in plain Lean. -/
set_option linter.unusedVariables false
namespace Go.Proofs.YtboemnagahmlkaaGreat.Eng
/-- Eight bytes. -/
def v8 (a b c d e f g h : Nat) : Nat := a + 256 * (b + 256 * (c + 256 * (d + 256 * (e + 256 * (f + 256 * (g + 256 * h))))))
def t1 (B : Nat) : Nat := (B / 2 &&& 85) + (B &&& 85)
def t2 (B : Nat) : Nat := (B / 4 &&& 51) + (B &&& 51)
def t3 (B : Nat) : Nat := B / 16 + B % 16
theorem lt1 : ∀ B : Nat, B < 256 → t1 B < 256 := by decide +kernel
theorem lt2 : ∀ B : Nat, B < 256 → t2 (t1 B) / 16 ≤ 4 ∧ t2 (t1 B) % 16 ≤ 4 := by decide +kernel
def s1 (x : Nat) : Nat := (x / 2 &&& 6148914691236517205) + (x &&& 6148914691236517205)
def s2 (x : Nat) : Nat := (x / 4 &&& 3689348814741910323) + (x &&& 3689348814741910323)
def s3 (x : Nat) : Nat := x / 16 + x
def s4 (x : Nat) : Nat := (x &&& 1085102592571150095) + (x &&& 1085102592571150095) / 256
def s5 (x : Nat) : Nat := x + x / 65536
def s6 (x : Nat) : Nat := x + x / 4294967296
end Go.Proofs.YtboemnagahmlkaaGreat.Eng

/- The grid's answers, walked by the engine. -/
set_option linter.unusedVariables false
set_option linter.unusedSimpArgs false
set_option maxRecDepth 100000
namespace Go.Proofs.YtboemnagahmlkaaGreat.Eng
open Go Go.RowKit
/-! ### Bits, counted -/
theorem sh_k (x k : Nat) (hk : k ≤ 64) : Int.fdiv (x : Int) (2 ^ (min (k : Int).toNat (IntKind.bits .u64))) = ((x / 2 ^ k : Nat) : Int) := by
  show Int.fdiv (x : Int) (2 ^ (min k 64)) = _
  rw [Nat.min_eq_left hk, Int.fdiv_eq_ediv_of_nonneg _ (Int.pow_nonneg (by decide))]
  simp
/-! ### Places -/
abbrev GrIs (w : World) (g : Nat) (s : SpecV) (T : List Ent) : Prop := GridIs w g (gids s T) (alB s T) (relB s T)
def plc (s : SpecV) (T : List Ent) (id : Int) : Option Nat := (gids s T).idxOf? id
theorem idxOf_some {l : List Int} {a : Int} {i : Nat} (h : l.idxOf? a = some i) : ∃ h : i < l.length, l[i] = a := by
  have := List.findIdx?_eq_some_iff_getElem.1 h
  obtain ⟨h1, h2, _⟩ := this
  exact ⟨h1, by simpa using h2⟩
theorem plc_some {s : SpecV} {T : List Ent} {id : Int} {i : Nat} (h : plc s T id = some i) : i < (gids s T).length ∧ (gids s T).getD i 0 = id ∧ hasV2 s T id = true := by
  obtain ⟨h1, h2⟩ := idxOf_some h
  exact ⟨h1, by rw [getD_of h1]; exact h2, (gids_has s T id).1 (by rw [← h2]; exact List.getElem_mem h1)⟩
theorem plc_none {s : SpecV} {T : List Ent} {id : Int} (h : plc s T id = none) : hasV2 s T id = false := by
  have h1 := List.idxOf?_eq_none_iff.1 h
  cases hh : hasV2 s T id with
  | false => rfl
  | true => exact absurd ((gids_has s T id).2 hh) h1
theorem plc_has {s : SpecV} {T : List Ent} (id : Int) : (plc s T id).isSome = hasV2 s T id := by
  cases h : plc s T id with
  | none => exact (plc_none h).symm
  | some i => exact (plc_some h).2.2.symm
def gAl (s : SpecV) (T : List Ent) (id : Int) : Bool := hasV2 s T id && decide ((vocOf s T).Canon [id])
def gHas (s : SpecV) (T : List Ent) (a b : Int) : Bool := hasV2 s T a && hasV2 s T b && decide ((vocOf s T).Canon [a, b])
theorem infoI : (Tryz.prog.info? tInt).map (·.zero) = some (some (.int .i64 0)) := by kernel_rfl
theorem gPlace_spec (w : World) (g : Nat) (s : SpecV) (T : List Ent) (h : GrIs w g s T) (id : Int) :
    Calls Tryz.prog 41 #[.pointer (some ⟨g, 0, none⟩), .int .i64 id] w fun e w' => e = .returned (.tuple #[.int .i64 (((plc s T id).getD 0 : Nat) : Int), .bool (plc s T id).isSome]) ∧ w' = w := by
  refine calls_ret (vc41_calls (some ⟨g, 0, none⟩) id w (fun u w' => u = .tuple #[.int .i64 (((plc s T id).getD 0 : Nat) : Int), .bool (plc s T id).isSome] ∧ w' = w) ?_) (by rintro v w' ⟨rfl, h⟩; exact ⟨rfl, h⟩)
  obtain ⟨ids, rows, alone, mb, rs, hR⟩ := h
  refine CondP.no rfl (NilC.mk _ rfl ⟨some mb, by rw [cell_put hR.blk]; rfl, ?_⟩)
  have hl := run_look keysI undMapI infoI hR.map id
  rw [look_gmap] at hl
  have e : ((((gids s T).idxOf? id).map fun i : Nat => Value.int .i64 (i : Int)).getD (.int .i64 0)) = .int .i64 (((plc s T id).getD 0 : Nat) : Int) := by
    show _ = Value.int .i64 ((((gids s T).idxOf? id).getD 0 : Nat) : Int)
    cases (gids s T).idxOf? id <;> rfl
  rw [e, Option.isSome_map] at hl
  exact ⟨_, _, w, hl, rfl, rfl⟩
theorem gAlone_spec (w : World) (g : Nat) (s : SpecV) (T : List Ent) (h : GrIs w g s T) (hn : (gids s T).length ≤ 1032) (id : Int) :
    Calls Tryz.prog 32 #[.pointer (some ⟨g, 0, none⟩), .int .i64 id] w fun e w' => e = .returned (.bool (gAl s T id)) ∧ w' = w := by
  refine calls_ret (vc32_calls (some ⟨g, 0, none⟩) id w (fun u w' => u = .bool (gAl s T id) ∧ w' = w) ?_) (by rintro v w' ⟨rfl, h⟩; exact ⟨rfl, h⟩)
  refine (gPlace_spec w g s T h id).mono ?_
  rintro e w1 ⟨rfl, rfl⟩
  obtain ⟨ids, rows, alone, mb, rs, hR⟩ := h
  refine ⟨_, _, rfl, CondP.mk (fun h1 => ?_) fun h1 => ⟨?_, rfl⟩⟩
  · obtain ⟨i, hi⟩ := Option.isSome_iff_exists.1 h1
    obtain ⟨hi1, hi2, hi3⟩ := plc_some hi
    have al1 := LsAt.of_own elU64 hR.oal
    refine NilC.mk _ rfl ⟨alone.a, alone.n, alone.c, by rw [cell_put hR.blk]; rfl, ?_⟩
    rw [hi]
    refine (rowHas_spec w1 alone.a alone.n alone.c _ (alB s T) al1.r al1.n (by omega) i hi1).mono ?_
    rintro e w2 ⟨rfl, rfl⟩
    refine ⟨_, rfl, ?_, rfl⟩
    unfold gAl alB
    rw [hi2, hi3, Bool.true_and]
  · rw [plc_has] at h1
    unfold gAl
    rw [h1, Bool.false_and]
theorem row_get {s : SpecV} {T : List Ent} {w : World} {g : Nat} {ids rows alone : Sl} {mb : Nat} {rs : List Sl} (hR : GridR w g (gids s T) (alB s T) (relB s T) ids rows alone mb rs (gids s T).length) (i : Nat) (hi : i < (gids s T).length) : ∃ (p : Addr) (r : Sl), rows.a = some p ∧ i < rows.n ∧ w.cell? (p.add (i * 1)) = some (.slice r.a r.n r.c) ∧ LsAt encU64 1 w r (wordsOf (gids s T).length (relB s T i)) := by
  have hls := LsAt.of_own elRow hR.orows
  have hl := hR.rl
  have hi2 : i < rs.length := by omega
  obtain ⟨p, hp, c0⟩ := cell_rw hls.r hi2 (v := rs[i].v) rfl
  exact ⟨p, rs[i], hp, by rw [hls.n]; exact hi2, c0, LsAt.of_own elU64 (hR.each i _ (List.getElem?_eq_getElem hi2))⟩
theorem gHas_spec (w : World) (g : Nat) (s : SpecV) (T : List Ent) (h : GrIs w g s T) (hn : (gids s T).length ≤ 1032) (a b : Int) :
    Calls Tryz.prog 33 #[.pointer (some ⟨g, 0, none⟩), .int .i64 a, .int .i64 b] w fun e w' => e = .returned (.bool (gHas s T a b)) ∧ w' = w := by
  refine calls_ret (vc33_calls (some ⟨g, 0, none⟩) a b w (fun u w' => u = .bool (gHas s T a b) ∧ w' = w) ?_) (by rintro v w' ⟨rfl, h⟩; exact ⟨rfl, h⟩)
  refine (gPlace_spec w g s T h a).mono ?_
  rintro e w1 ⟨rfl, rfl⟩
  refine ⟨_, _, rfl, (gPlace_spec w1 g s T h b).mono ?_⟩
  rintro e w2 ⟨rfl, rfl⟩
  obtain ⟨ids, rows, alone, mb, rs, hR⟩ := h
  refine ⟨_, _, rfl, CondP.mk (fun h1 => CondP.mk (fun h2 => ?_) fun h2 => ⟨?_, rfl⟩) fun h1 => ⟨?_, rfl⟩⟩
  · obtain ⟨i, hi⟩ := Option.isSome_iff_exists.1 h1
    obtain ⟨hi1, hi2, hi3⟩ := plc_some hi
    obtain ⟨j, hj⟩ := Option.isSome_iff_exists.1 h2
    obtain ⟨hj1, hj2, hj3⟩ := plc_some hj
    obtain ⟨p, r, hp, hin, hc, hls⟩ := row_get hR i hi1
    rw [hi, hj]
    refine NilC.mk _ rfl ⟨rows.a, rows.n, rows.c, by rw [cell_put hR.blk]; rfl, NilC.mk p hp ⟨by omega, by show ((i : Nat) : Int) < _; omega, r.a, r.n, r.c, hc, ?_⟩⟩
    refine (rowHas_spec w2 r.a r.n r.c _ (relB s T i) hls.r hls.n (by omega) j hj1).mono ?_
    rintro e w2 ⟨rfl, rfl⟩
    refine ⟨_, rfl, ?_, rfl⟩
    unfold gHas relB
    rw [hi2, hi3, hj2, hj3, Bool.true_and, Bool.true_and]
  · rw [plc_has] at h2
    unfold gHas
    rw [h2, Bool.and_false, Bool.false_and]
  · rw [plc_has] at h1
    unfold gHas
    rw [h1, Bool.false_and, Bool.false_and]
theorem gSize_spec (w : World) (g : Nat) (s : SpecV) (T : List Ent) (h : GrIs w g s T) :
    Calls Tryz.prog 24 #[.pointer (some ⟨g, 0, none⟩)] w fun e w' => e = .returned (.int .i64 (((gids s T).length : Nat) : Int)) ∧ w' = w := by
  refine calls_ret (vc24_calls (some ⟨g, 0, none⟩) w (fun u w' => u = .int .i64 (((gids s T).length : Nat) : Int) ∧ w' = w) ?_) (by rintro v w' ⟨rfl, h⟩; exact ⟨rfl, h⟩)
  obtain ⟨ids, rows, alone, mb, rs, hR⟩ := h
  refine CondP.no rfl (NilC.mk _ rfl ⟨ids.a, ids.n, ids.c, by rw [cell_put hR.blk]; rfl, ?_, rfl⟩)
  rw [(LsAt.of_own elInt hR.oi).n]
theorem gId_spec (w : World) (g : Nat) (s : SpecV) (T : List Ent) (h : GrIs w g s T) (place : Int) :
    Calls Tryz.prog 25 #[.pointer (some ⟨g, 0, none⟩), .int .i64 place] w fun e w' => e = .returned (if 0 ≤ place ∧ place < ((gids s T).length : Int) then .tuple #[.int .i64 ((gids s T).getD place.toNat 0), .bool true] else .tuple #[.int .i64 0, .bool false]) ∧ w' = w := by
  refine calls_ret (vc25_calls (some ⟨g, 0, none⟩) place w (fun u w' => u = (if 0 ≤ place ∧ place < ((gids s T).length : Int) then .tuple #[.int .i64 ((gids s T).getD place.toNat 0), .bool true] else .tuple #[.int .i64 0, .bool false]) ∧ w' = w) ?_) (by rintro v w' ⟨rfl, h⟩; exact ⟨rfl, h⟩)
  refine CondP.mk (fun h1 => ⟨?_, rfl⟩) fun h1 => ?_
  · rw [if_neg (by have := of_decide_eq_true h1; omega)]
  have h1 := of_decide_eq_false h1
  refine (gSize_spec w g s T h).mono ?_
  rintro e w1 ⟨rfl, rfl⟩
  refine ⟨_, rfl, CondP.mk (fun h2 => ⟨?_, rfl⟩) fun h2 => ?_⟩
  · rw [if_neg (by have := of_decide_eq_true h2; omega)]
  have h2 := of_decide_eq_false h2
  obtain ⟨ids, rows, alone, mb, rs, hR⟩ := h
  obtain ⟨i, rfl⟩ : ∃ i : Nat, place = i := ⟨place.toNat, by omega⟩
  have hi : i < (gids s T).length := by omega
  have hls := LsAt.of_own elInt hR.oi
  obtain ⟨p, hp, c0⟩ := cell_rw hls.r hi rfl
  have := hls.n
  refine NilC.mk _ rfl ⟨ids.a, ids.n, ids.c, by rw [cell_put hR.blk]; rfl, NilC.mk p hp ⟨by omega, by omega, _, c0, ?_, rfl⟩⟩
  rw [if_pos ⟨by omega, by omega⟩]
  show _ = Value.tuple #[.int .i64 ((gids s T).getD i 0), .bool true]
  rw [getD_of hi]
theorem cloneR_spec (w : World) (a : Option Addr) (c : Nat) (xs : List Int) (hr : Rw encU64 1 w a xs) (hl : xs.length ≤ 1000000000) :
    Calls Tryz.prog 69 #[.slice a xs.length c] w fun e w' => ∃ s : Sl, e = .returned s.v ∧ s.n = xs.length ∧ w'.ownsRow w.heap.size tU64 1 s.v s.n (xs.flatMap encU64) ∧ Below w.heap.size w w' := by
  refine calls_ret (vc69_calls a xs.length c w (fun v w' => ∃ s : Sl, v = s.v ∧ s.n = xs.length ∧ w'.ownsRow w.heap.size tU64 1 s.v s.n (xs.flatMap encU64) ∧ Below w.heap.size w w') ?_) (by rintro v w' ⟨s, rfl, h⟩; exact ⟨s, rfl, h⟩)
  refine CondP.mk (fun h0 => ?_) fun h0 => ?_
  · have hx : xs = [] := by
      cases xs with
      | nil => rfl
      | cons x t =>
        obtain ⟨p, hp, _⟩ := hr 0 x rfl
        rw [hp] at h0
        cases h0
    subst hx
    exact ⟨⟨none, 0, 0⟩, rfl, rfl, own_nil _ _ _ _, Below.refl _ _⟩
  · obtain ⟨p, rfl⟩ : ∃ p, a = some p := by
      cases a with
      | none => cases h0
      | some p => exact ⟨p, rfl⟩
    intro w1 hw1
    obtain ⟨A, C, w2, h2, h3, h4⟩ := copy_row (enc := encU64) (sz := 1) (fun _ => rfl) (by decide) (fun x u hu => by rw [List.mem_singleton.1 hu]; rfl) tRow tU64 undRow infoU64 rfl w ⟨some p, xs.length, c⟩ xs (.inr ⟨p, rfl⟩) hr rfl (by simp only; omega) (by simp only; omega) w1 hw1
    exact ⟨A, xs.length, C, w2, h2, ⟨A, xs.length, C⟩, rfl, rfl, h3, h4⟩
theorem gRow_spec (w : World) (g : Nat) (s : SpecV) (T : List Ent) (h : GrIs w g s T) (hn : (gids s T).length ≤ 1032) (id : Int) :
    Calls Tryz.prog 31 #[.pointer (some ⟨g, 0, none⟩), .int .i64 id] w fun e w' => Below w.heap.size w w' ∧ ((plc s T id = none ∧ e = .returned (.slice none 0 0)) ∨ ∃ i l, plc s T id = some i ∧ e = .returned (Sl.v l) ∧ w'.ownsRow w.heap.size tU64 1 l.v l.n ((wordsOf (gids s T).length (relB s T i)).flatMap encU64)) := by
  refine calls_ret (vc31_calls (some ⟨g, 0, none⟩) id w (fun u w' => Below w.heap.size w w' ∧ ((plc s T id = none ∧ u = .slice none 0 0) ∨ ∃ i l, plc s T id = some i ∧ u = Sl.v l ∧ w'.ownsRow w.heap.size tU64 1 l.v l.n ((wordsOf (gids s T).length (relB s T i)).flatMap encU64))) ?_) (by rintro v w' ⟨h1, ⟨h2, rfl⟩ | ⟨i, l, h2, rfl, h3⟩⟩; exact ⟨h1, .inl ⟨h2, rfl⟩⟩; exact ⟨h1, .inr ⟨i, l, h2, rfl, h3⟩⟩)
  refine (gPlace_spec w g s T h id).mono ?_
  rintro e w1 ⟨rfl, rfl⟩
  obtain ⟨ids, rows, alone, mb, rs, hR⟩ := h
  refine ⟨_, _, rfl, CondP.mk (fun h1 => ⟨Below.refl _ _, .inl ⟨?_, rfl⟩⟩) fun h1 => ?_⟩
  · cases hp : plc s T id with
    | none => rfl
    | some i => rw [hp] at h1; cases h1
  · obtain ⟨i, hi⟩ := Option.isSome_iff_exists.1 (by simpa using h1)
    obtain ⟨hi1, hi2, hi3⟩ := plc_some hi
    obtain ⟨p, r, hp, hin, hc, hls⟩ := row_get hR i hi1
    rw [hi]
    refine NilC.mk _ rfl ⟨rows.a, rows.n, rows.c, by rw [cell_put hR.blk]; rfl, NilC.mk p hp ⟨by omega, by show ((i : Nat) : Int) < _; omega, r.a, r.n, r.c, hc, ?_⟩⟩
    rw [hls.n]
    refine (cloneR_spec w1 r.a r.c _ hls.r (by rw [wordsOf_length]; omega)).mono ?_
    rintro e w2 ⟨l, rfl, hl, ho, b2⟩
    exact ⟨l.a, l.n, l.c, rfl, b2, .inr ⟨i, l, rfl, rfl, ho⟩⟩
end Go.Proofs.YtboemnagahmlkaaGreat.Eng

/- The reference's first offence, walked by the engine. -/
set_option linter.unusedVariables false
set_option linter.unusedSimpArgs false
set_option maxRecDepth 100000
namespace Go.Proofs.YtboemnagahmlkaaGreat.Eng
open Go Go.RowKit
/-- The first one that isn't there, or with which they aren't what would be made. -/
def FirstR (V : Voc) (ids : List Int) : Option Nat → Prop
  | none => ∀ (i : Nat) (h : i < ids.length), V.Has ids[i] ∧ V.Canon (ids.take (i + 1))
  | some k => (∀ (i : Nat) (h : i < ids.length), i < k → V.Has ids[i] ∧ V.Canon (ids.take (i + 1))) ∧ ∃ h : k < ids.length, ¬ (V.Has ids[k] ∧ V.Canon (ids.take (k + 1)))
theorem has_iff2 {s : SpecV} {T : List Ent} (hok : TOk T) (t : Int) : hasV2 s T t = true ↔ (vocOf s T).Has t := by
  unfold hasV2
  rw [decide_eq_true_eq, tok_iff hok]
  exact Or.comm
theorem refFirst_spec (w : World) (x : RvW) (s : SpecV) (T : List Ent) (h : RvAt w x s T) (A : Option Addr) (C : Nat) (ids : List Int) (hr : Rw encInt 1 w A ids) (hC : ids.length ≤ C) (hl : ids.length ≤ 10000) :
    Calls Tryz.prog 21 #[x.v, .slice A ids.length C] w fun e w' => ∃ o, e = .returned (.int .i64 (placeV o)) ∧ FirstR (vocOf s T) ids o ∧ Below w.heap.size w w' := by
  refine calls_ret (vc21_calls x.t.b.a x.t.b.n x.t.b.c x.t.m.a x.t.m.n x.t.m.c x.b.b.a x.b.b.n x.b.b.c x.b.m.a x.b.m.n x.b.m.c x.sp.a x.sp.n x.sp.c A ids.length C w (fun u w' => ∃ o, u = .int .i64 (placeV o) ∧ FirstR (vocOf s T) ids o ∧ Below w.heap.size w w') ?_) (by rintro v w' ⟨o, rfl, h⟩; exact ⟨o, rfl, h⟩)
  intro w1 hw1
  have hb1 : Below w.heap.size w w1 := by subst hw1; exact below_alloc _ _
  have l1 : w1.heap[w.heap.size]? = some (.cells x.cells tRv (0, 0)) := by subst hw1; exact alloc_new _ _
  have hok := h.ok
  intro I hI
  have key := climb2 (α := Int × World) ids.length (fun i y => (∀ (j : Nat) (h : j < ids.length), j < i → (vocOf s T).Has ids[j] ∧ (vocOf s T).Canon (ids.take (j + 1))) ∧ Below w1.heap.size w1 y.2) (fun i y => I [.int .i64 (i : Int), .int .i64 y.1] y.2) (0, w1) ⟨fun j _ hj => absurd hj (Nat.not_lt_zero j), Below.refl _ _⟩ ?_ ?_
  · exact key
  · rintro i hi ih ⟨y, q⟩ ⟨hinv, hB⟩
    change Below w1.heap.size w1 q at hB
    refine hI _ y q (CondP.yes (by simp; omega) ?_)
    intro w3 hw3
    have b3 : Below q.heap.size q w3 := by subst hw3; exact drew_on q
    have hB3 := below_then hB b3
    have hw := below_then hb1 hB3
    obtain ⟨p, hp, c0⟩ := cell_rw (hr.on hw) hi rfl
    refine ⟨_, _, _, _, _, _, _, _, _, _, _, _, _, _, _, agg5 (held_on hB3 l1), NilC.mk p hp ⟨by omega, by omega, _, c0, ?_⟩⟩
    refine (refVHas_spec w3 x s T (h.on hw) ids[i]).mono ?_
    rintro e w4 ⟨rfl, b4⟩
    have hB4 := below_then hB3 b4
    have hw4 := below_then hb1 hB4
    refine ⟨_, rfl, CondP.mk (fun h0 => ?_) fun h0 => ?_⟩
    · refine ⟨some i, rfl, ⟨fun j hj hji => hinv j hj hji, hi, fun e => ?_⟩, hw4⟩
      rw [(has_iff2 hok _).2 e.1] at h0
      cases h0
    · have hhas : (vocOf s T).Has ids[i] := (has_iff2 hok _).1 (by simpa using h0)
      have htk : ids.take (i + 1) = ids.take i ++ [ids[i]] := by rw [List.take_add_one, List.getElem?_eq_getElem hi]; rfl
      have hall : ∀ t ∈ ids.take (i + 1), (vocOf s T).Has t := by
        intro t ht
        obtain ⟨j, hj, rfl⟩ := List.mem_take_iff_getElem.1 ht
        by_cases e : j = i
        · subst e; exact hhas
        · exact (hinv j (by omega) (by omega)).1
      refine ⟨_, _, _, _, _, _, _, _, _, _, _, _, _, _, _, agg5 (held_on hB4 l1), Ar.nat (i + 1) rfl (by omega) ⟨by omega, by omega, by omega, trivial, trivial, ?_⟩⟩
      have hrow := ((hr.on hw4).cut 0 C hC).take (i + 1)
      rw [List.drop_zero] at hrow
      have hcl : Calls Tryz.prog 67 #[x.v, .slice (slBase A 0 C 1) (i + 1 - 0) (C - 0)] w4 fun e w' => e = .returned (.bool (decide ((vocOf s T).Canon (ids.take (i + 1))))) ∧ Below w4.heap.size w4 w' := by
        rw [show i + 1 - 0 = (ids.take (i + 1)).length by rw [List.length_take]; omega]
        exact refCanon_spec w4 x s T (h.on hw4) _ _ _ hrow (by rw [List.length_take]; omega) hall
      refine hcl.mono ?_
      rintro e w5 ⟨rfl, b5⟩
      have hB5 := below_then hB4 b5
      refine ⟨_, rfl, CondP.mk (fun h1 => ?_) fun h1 => ?_⟩
      · refine ⟨some i, rfl, ⟨fun j hj hji => hinv j hj hji, hi, fun e => ?_⟩, below_then hb1 hB5⟩
        rw [decide_eq_true e.2] at h1
        cases h1
      · have h1 : (vocOf s T).Canon (ids.take (i + 1)) := by simpa using h1
        refine Ar.nat (i + 1) rfl (by omega) (ih (y, w5) ⟨fun j hj hji => ?_, hB5⟩)
        by_cases e : j = i
        · subst e
          exact ⟨hhas, h1⟩
        · exact hinv j hj (by omega)
  · rintro ⟨y, q⟩ ⟨hinv, hB⟩
    exact hI _ y q (CondP.no (by simp) ⟨none, rfl, fun j hj => hinv j hj hj, below_then hb1 hB⟩)
end Go.Proofs.YtboemnagahmlkaaGreat.Eng

/- CanonNone, walked by the engine. -/
set_option linter.unusedVariables false
set_option linter.unusedSimpArgs false
set_option maxRecDepth 100000
namespace Go.Proofs.YtboemnagahmlkaaGreat.Eng
open Go Go.RowKit
def sAw : SpecV := { merges := [(97, 98)] }
def tAw : List Ent := begins ++ [([97, 98], (97, 98))]
theorem right_aw : sAw.right = true := by decide +kernel
theorem build_aw : buildV sAw = .ok tAw := by
  have h : (match buildV sAw with | .ok t => decide (t = tAw) | .error _ => false) = true := by decide +kernel
  cases hx : buildV sAw with
  | error q => rw [hx] at h; cases h
  | ok t => rw [hx] at h; rw [of_decide_eq_true h]
theorem specAt_aw (w w1 : World) (hw1 : w1 = w.alloc (.cells #[Value.int .i64 97, Value.int .i64 98] tMg)) : SpecAt w1 ⟨false, ⟨some (nb w), 1, 1⟩, ⟨none, 0, 0⟩, ⟨none, 0, 0⟩, ⟨none, 0, 0⟩, ⟨none, 0, 0⟩⟩ sAw := by
  have l1 : w1.heap[w.heap.size]? = some (.cells #[Value.int .i64 97, Value.int .i64 98] tMg (0, 0)) := by subst hw1; exact alloc_new _ _
  have none_ : ∀ {α : Type} {enc : α → List Value} {sz : Nat}, Rw enc sz w1 none [] := fun j x hj => by simp at hj
  refine ⟨rfl, rfl, fun j x hj => ?_, rfl, none_, rfl, none_, rfl, none_, rfl, none_⟩
  have hj0 : j = 0 := by
    have := (List.getElem?_eq_some_iff.1 hj).1
    simp [sAw] at this
    exact this
  subst hj0
  have hx : x = (97, 98) := by simpa [sAw] using hj.symm
  subst hx
  refine ⟨nb w, rfl, (Array.getElem?_eq_some_iff.1 l1).1, fun k v hk => ?_⟩
  rw [Nat.zero_mul, add_zero, ptr_add0 _ _ l1]
  match k, hk with
  | 0, hk => cases hk; rfl
  | 1, hk => cases hk; rfl
theorem intsAt (w w1 : World) (xs : List Int) (c : Array Value) (hc : c = (xs.map fun n => Value.int .i64 n).toArray) (hw1 : w1 = w.alloc (.cells c tInt)) : Rw encInt 1 w1 (some (nb w)) xs := by
  intro j x hj
  have l1 : w1.heap[w.heap.size]? = some (.cells c tInt (0, 0)) := by subst hw1; exact alloc_new _ _
  refine ⟨nb w, rfl, (Array.getElem?_eq_some_iff.1 l1).1, fun k v hk => ?_⟩
  match k, hk with
  | 0, hk =>
    cases hk
    rw [add_zero, Nat.mul_one, ptr_add0 _ _ l1, hc]
    simp [hj]
end Go.Proofs.YtboemnagahmlkaaGreat.Eng

/- The grid's first offence; a nil grid; the laws on what is awake. -/
set_option linter.unusedVariables false
set_option linter.unusedSimpArgs false
set_option maxRecDepth 100000
namespace Go.Proofs.YtboemnagahmlkaaGreat.Eng
open Go Go.RowKit
/-! ### A nil grid -/
/-! ### What is awake -/
theorem gids_aw : (gids sAw tAw).length = 257 := by decide +kernel
theorem gAw1 : gHas sAw tAw 97 98 = false := by decide +kernel
/-! ### The first offence by the grid is the reference's -/
theorem gids_few {w : World} {v : Nat} {y : RvW} {s : SpecV} {T : List Ent} (h : Both w v y s T) : (gids s T).length ≤ 1006 ∧ (((gids s T).length * (gids s T).length : Nat) : Int) ≤ 1048576 := by
  have h1 := h.now.ok.most
  have h2 := h.few
  have h3 := h.ids
  have hT : T.length ≤ 1000 := h1
  have hl : (gids s T).length ≤ 1006 := by rw [gids_length]; omega
  refine ⟨hl, ?_⟩
  have : (gids s T).length * (gids s T).length ≤ 1006 * 1006 := Nat.mul_le_mul hl hl
  omega
theorem firstR_unique {V : Voc} {ids : List Int} {o o' : Option Nat} (h : FirstR V ids o) (h' : FirstR V ids o') : o = o' := by
  cases o with
  | none =>
    cases o' with
    | none => rfl
    | some k => obtain ⟨_, hk, h2⟩ := h'; exact absurd (h k hk) h2
  | some k =>
    obtain ⟨h1, hk, h2⟩ := h
    cases o' with
    | none => exact absurd (h' k hk) h2
    | some k' =>
      obtain ⟨h1', hk', h2'⟩ := h'
      rcases Nat.lt_trichotomy k k' with h | h | h
      · exact absurd (h1' k hk h) h2
      · rw [h]
      · exact absurd (h1 k' hk' h) h2'
end Go.Proofs.YtboemnagahmlkaaGreat.Eng

/- Things put together by what is alike; in plain Lean. -/
set_option linter.unusedVariables false
namespace Go.Proofs.YtboemnagahmlkaaGreat.Eng
section
variable {κ : Type} [DecidableEq κ] (k : Nat → κ)
/-- The first things of each class, and a thing's class. -/
def firsts : Nat → List Nat
  | 0 => []
  | i + 1 => match (firsts i).findIdx? (fun a => decide (k a = k i)) with
    | some _ => firsts i
    | none => firsts i ++ [i]
def clsOf (i : Nat) : Nat := ((firsts k i).findIdx? (fun a => decide (k a = k i))).getD (firsts k i).length
variable {k}
theorem firsts_succ (i : Nat) : firsts k (i + 1) = match (firsts k i).findIdx? (fun a => decide (k a = k i)) with
    | some _ => firsts k i
    | none => firsts k i ++ [i] := rfl
theorem firsts_lt : ∀ {n : Nat} {a : Nat}, a ∈ firsts k n → a < n
  | 0, a, h => by cases h
  | n + 1, a, h => by
    unfold firsts at h
    split at h
    · have := firsts_lt h; omega
    · rcases List.mem_append.1 h with h | h
      · have := firsts_lt h; omega
      · rw [List.mem_singleton.1 h]; omega
theorem firsts_pre : ∀ {n : Nat} (d : Nat), ∃ t, firsts k (n + d) = firsts k n ++ t
  | n, 0 => ⟨[], by simp⟩
  | n, d + 1 => by
    obtain ⟨t, h⟩ := firsts_pre (n := n) d
    rw [← Nat.add_assoc, firsts]
    split
    · exact ⟨t, h⟩
    · exact ⟨t ++ [n + d], by rw [h, List.append_assoc]⟩
theorem firsts_step (i : Nat) : (∃ c, (firsts k i).findIdx? (fun a => decide (k a = k i)) = some c ∧ firsts k (i + 1) = firsts k i ∧ clsOf k i = c ∧ ∃ h : c < (firsts k i).length, k (firsts k i)[c] = k i) ∨ ((firsts k i).findIdx? (fun a => decide (k a = k i)) = none ∧ firsts k (i + 1) = firsts k i ++ [i] ∧ clsOf k i = (firsts k i).length ∧ ∀ a ∈ firsts k i, k a ≠ k i) := by
  cases h : (firsts k i).findIdx? (fun a => decide (k a = k i)) with
  | none =>
    refine .inr ⟨rfl, by rw [firsts, h], by rw [clsOf, h]; rfl, fun a ha => ?_⟩
    have := List.findIdx?_eq_none_iff.1 h a ha
    simpa using this
  | some c =>
    obtain ⟨h1, h2, _⟩ := List.findIdx?_eq_some_iff_getElem.1 h
    exact .inl ⟨c, rfl, by rw [firsts, h], by rw [clsOf, h]; rfl, h1, by simpa using h2⟩
/-- Classes are numbered as their first things come. -/
theorem cls_next (i : Nat) : clsOf k i ≤ (firsts k i).length ∧ (firsts k (i + 1)).length = max (firsts k i).length (clsOf k i + 1) := by
  rcases firsts_step (k := k) i with ⟨c, _, h2, h3, h4, _⟩ | ⟨_, h2, h3, _⟩
  · rw [h2, h3]; omega
  · rw [h2, h3, List.length_append, List.length_singleton]; omega
theorem cls_in {n i : Nat} (hi : i < n) : ∃ h : clsOf k i < (firsts k n).length, k (firsts k n)[clsOf k i] = k i := by
  obtain ⟨t, ht⟩ := firsts_pre (k := k) (n := i + 1) (n - (i + 1))
  rw [show i + 1 + (n - (i + 1)) = n by omega] at ht
  have key : ∃ h : clsOf k i < (firsts k (i + 1)).length, k (firsts k (i + 1))[clsOf k i] = k i := by
    rcases firsts_step (k := k) i with ⟨c, _, h2, h3, h4, h5⟩ | ⟨_, h2, h3, _⟩
    · simp only [h2, h3]; exact ⟨h4, h5⟩
    · simp only [h2, h3]
      exact ⟨by simp, by simp⟩
  obtain ⟨h1, h2⟩ := key
  simp only [ht]
  exact ⟨by rw [List.length_append]; omega, by rw [List.getElem_append_left h1]; exact h2⟩
end
/-! ### Words as texts -/
def byteOf (x j : Nat) : UInt8 := UInt8.ofNat (x / 2 ^ (8 * j))
def wordText (x : Nat) : List UInt8 := (List.range 8).map (byteOf x)
def wTextOf (l : List Nat) : List UInt8 := l.flatMap wordText
theorem wordText_inj {x y : Nat} (hx : x < 2 ^ 64) (hy : y < 2 ^ 64) (h : wordText x = wordText y) : x = y := by
  have key : ∀ j, j < 8 → x / 2 ^ (8 * j) % 256 = y / 2 ^ (8 * j) % 256 := by
    intro j hj
    have := congrArg (fun l => l[j]?) h
    simp only [wordText, List.getElem?_map, List.getElem?_range hj, Option.map_some, Option.some.injEq, byteOf] at this
    have := congrArg UInt8.toNat this
    simpa [UInt8.toNat_ofNat'] using this
  have k0 := key 0 (by decide); have k1 := key 1 (by decide); have k2 := key 2 (by decide); have k3 := key 3 (by decide)
  have k4 := key 4 (by decide); have k5 := key 5 (by decide); have k6 := key 6 (by decide); have k7 := key 7 (by decide)
  simp only [Nat.reduceMul, Nat.reducePow] at k0 k1 k2 k3 k4 k5 k6 k7 hx hy
  omega
theorem wTextOf_inj : ∀ {l m : List Nat}, l.length = m.length → (∀ x ∈ l, x < 2 ^ 64) → (∀ x ∈ m, x < 2 ^ 64) → wTextOf l = wTextOf m → l = m
  | [], [], _, _, _, _ => rfl
  | x :: l, y :: m, hl, h1, h2, h => by
    have e : wordText x ++ wTextOf l = wordText y ++ wTextOf m := h
    have hlen : (wordText x).length = (wordText y).length := by simp [wordText]
    have := List.append_inj e hlen
    rw [wordText_inj (h1 x List.mem_cons_self) (h2 y List.mem_cons_self) this.1, wTextOf_inj (by simpa using hl) (fun z hz => h1 z (List.mem_cons_of_mem _ hz)) (fun z hz => h2 z (List.mem_cons_of_mem _ hz)) this.2]
/-- The same words: the same bits. -/
def rowText (n : Nat) (p : Nat → Bool) : List UInt8 := wTextOf ((List.range ((n + 63) / 64)).map (wordAt n p))
theorem rowText_iff {n : Nat} {p q : Nat → Bool} : rowText n p = rowText n q ↔ ∀ i, i < n → p i = q i := by
  constructor
  · intro h i hi
    have e := wTextOf_inj (by simp) (by intro x hx; obtain ⟨j, _, rfl⟩ := List.mem_map.1 hx; exact wordAt_lt _ _ _) (by intro x hx; obtain ⟨j, _, rfl⟩ := List.mem_map.1 hx; exact wordAt_lt _ _ _) h
    have := congrArg (fun l => l[i / 64]?) e
    have hk : i / 64 < (n + 63) / 64 := by omega
    simp only [List.getElem?_map, List.getElem?_range hk, Option.map_some, Option.some.injEq] at this
    rw [← wordAt_test n p hi, ← wordAt_test n q hi, this]
  · intro h
    unfold rowText
    congr 1
    apply List.map_congr_left
    intro j hj
    unfold wordAt
    apply bitsN_congr
    intro m hm
    by_cases e : 64 * j + m < n
    · rw [h _ e]
    · simp [e]
end Go.Proofs.YtboemnagahmlkaaGreat.Eng

/- What these functions owe, printed by a program of this repo out of the translation. -/
set_option linter.unusedVariables false
set_option maxRecDepth 100000
namespace Go.Proofs.YtboemnagahmlkaaGreat.Eng
open Go Go.Value
def vc5 (a : OA) (b c : Nat) (d : OA) (f g : Nat) (h : OA) (i j : Nat) (k : OA) (l m : Nat) (n : OA) (o p : Nat) (w : World) (R : RW) : Prop :=
 ∀ q, q = w.alloc (.cells #[slice a b c, slice d f g, slice h i j, slice k l m] 27) →
 ∃ r s t u x y z a1 b1 c1 d1 e1, (q.cell? (nb w) = some (slice r s t) ∧ q.cell? ((nb w).add 1) = some (slice u x y) ∧ q.cell? ((nb w).add 2) = some (slice z a1 b1) ∧ q.cell? ((nb w).add 3) = some (slice c1 d1 e1) ∧ True) ∧
 Calls Tryz.prog 15 #[agg #[slice r s t, slice u x y, slice z a1 b1, slice c1 d1 e1]] q (fun f1 g1 =>
 ∃ h1, f1 = .returned (int .i64 h1) ∧
 CondP (decide (h1 > 0))
 (Calls Tryz.prog 22 #[] g1 (fun i1 j1 =>
 ∃ k1, i1 = .returned (bool k1) ∧
 R (bool k1) j1))
 (CondP (decide ((o : Int) > 40))
 (Calls Tryz.prog 22 #[] g1 (fun l1 m1 =>
 ∃ n1, l1 = .returned (bool n1) ∧
 R (bool n1) m1))
 (Calls Tryz.prog 22 #[] g1 (fun o1 p1 =>
 ∃ q1, o1 = .returned (bool q1) ∧
 CondP (!q1)
 (Calls Tryz.prog 22 #[] p1 (fun r1 s1 =>
 ∃ t1, r1 = .returned (bool t1) ∧
 R (bool t1) s1))
 (∃ u1 v1 x1 y1 z1 a2 b2 c2 d2 e2 f2 g2, (p1.cell? (nb w) = some (slice u1 v1 x1) ∧ p1.cell? ((nb w).add 1) = some (slice y1 z1 a2) ∧ p1.cell? ((nb w).add 2) = some (slice b2 c2 d2) ∧ p1.cell? ((nb w).add 3) = some (slice e2 f2 g2) ∧ True) ∧
 Calls Tryz.prog 23 #[agg #[slice u1 v1 x1, slice y1 z1 a2, slice b2 c2 d2, slice e2 f2 g2]] p1 (fun h2 i2 =>
 ∃ j2 k2, h2 = .returned (tuple #[pointer j2, pointer k2]) ∧
 ∃ l2 m2 n2 o2 p2 q2 r2 s2 t2 u2 v2 x2, (i2.cell? (nb w) = some (slice l2 m2 n2) ∧ i2.cell? ((nb w).add 1) = some (slice o2 p2 q2) ∧ i2.cell? ((nb w).add 2) = some (slice r2 s2 t2) ∧ i2.cell? ((nb w).add 3) = some (slice u2 v2 x2) ∧ True) ∧
 Calls Tryz.prog 17 #[agg #[slice l2 m2 n2, slice o2 p2 q2, slice r2 s2 t2, slice u2 v2 x2]] i2 (fun y2 z2 =>
 ∃ a3 b3 c3 d3 e3 f3 g3 h3 i3 j3 k3 l3 m3 n3 o3 p3, y2 = .returned (tuple #[pointer a3, agg #[slice b3 c3 d3, slice e3 f3 g3, slice h3 i3 j3, slice k3 l3 m3, slice n3 o3 p3]]) ∧
 ∀ q3, q3 = z2.alloc (.cells #[slice none 0 0, slice none 0 0, slice none 0 0, slice none 0 0, slice none 0 0] 39) →
 StoreP q3 (nb z2) (fun r3 =>
 CondP (Option.isNone j2)
 (R (bool false) r3)
 (CondP (Option.isNone k2)
 (R (bool false) r3)
 (∀ s3 : KW, (∀ (t3 : Int) (u3 : Bool) (v3 : World), (CondP (decide (t3 < (o : Int)))
 (∀ x3, x3 = v3.drew →
 NilC n (fun y3 =>
 (0 : Int) ≤ t3 ∧ t3 < (o : Int) ∧
 ∃ z3, x3.cell? (y3.add (t3.toNat * 1)) = some (int .i64 z3) ∧
 NilC n (fun a4 =>
 (0 : Int) ≤ t3 ∧ t3 < (o : Int) ∧
 ∃ b4, x3.cell? (a4.add (t3.toNat * 1)) = some (int .i64 b4) ∧
 Calls Tryz.prog 34 #[pointer k2, int .i64 z3] x3 (fun c4 d4 =>
 ∃ e4, c4 = .returned (bool e4) ∧
 (d4.cell? (a4.add (t3.toNat * 1)) = some (int .i64 b4) ∧ True) ∧
 Calls Tryz.prog 32 #[pointer j2, int .i64 b4] d4 (fun f4 g4 =>
 ∃ h4, f4 = .returned (bool h4) ∧
 CondP (!(e4 == h4))
 (R (bool false) g4)
 (∀ i4 : KW, (∀ (j4 : Int) (k4 : Bool) (l4 : World), (CondP (decide (j4 < (o : Int)))
 (∀ m4, m4 = l4.drew →
 NilC n (fun n4 =>
 (0 : Int) ≤ t3 ∧ t3 < (o : Int) ∧
 ∃ o4, m4.cell? (n4.add (t3.toNat * 1)) = some (int .i64 o4) ∧
 NilC n (fun p4 =>
 (0 : Int) ≤ j4 ∧ j4 < (o : Int) ∧
 ∃ q4, m4.cell? (p4.add (j4.toNat * 1)) = some (int .i64 q4) ∧
 NilC n (fun r4 =>
 (0 : Int) ≤ t3 ∧ t3 < (o : Int) ∧
 ∃ s4, m4.cell? (r4.add (t3.toNat * 1)) = some (int .i64 s4) ∧
 NilC n (fun t4 =>
 (0 : Int) ≤ j4 ∧ j4 < (o : Int) ∧
 ∃ u4, m4.cell? (t4.add (j4.toNat * 1)) = some (int .i64 u4) ∧
 Calls Tryz.prog 35 #[pointer k2, int .i64 o4, int .i64 q4] m4 (fun v4 x4 =>
 ∃ y4, v4 = .returned (bool y4) ∧
 (x4.cell? (t4.add (j4.toNat * 1)) = some (int .i64 u4) ∧ True) ∧
 (x4.cell? (r4.add (t3.toNat * 1)) = some (int .i64 s4) ∧ True) ∧
 Calls Tryz.prog 33 #[pointer j2, int .i64 s4, int .i64 u4] x4 (fun z4 a5 =>
 ∃ b5, z4 = .returned (bool b5) ∧
 CondP (!(y4 == b5))
 (R (bool false) a5)
 (Ar .i64 (j4 + 1) (fun c5 =>
 i4 [int .i64 c5, bool k4] a5)))))))))
 (Ar .i64 (t3 + 1) (fun d5 =>
 s3 [int .i64 d5, bool k4] l4))) → i4 [int .i64 j4, bool k4] l4) →
 i4 [int .i64 0, bool u3] g4))))))
 (Calls Tryz.prog 36 #[pointer k2, slice n o p] v3 (fun e5 f5 =>
 ∃ g5 h5, e5 = .returned (tuple #[int .i64 g5, bool h5]) ∧
 ∃ i5 j5 k5 l5 m5 n5 o5 p5 q5 r5 s5 t5 u5 v5 x5, (f5.cell? (nb z2) = some (slice i5 j5 k5) ∧ f5.cell? ((nb z2).add 1) = some (slice l5 m5 n5) ∧ f5.cell? ((nb z2).add 2) = some (slice o5 p5 q5) ∧ f5.cell? ((nb z2).add 3) = some (slice r5 s5 t5) ∧ f5.cell? ((nb z2).add 4) = some (slice u5 v5 x5) ∧ True) ∧
 Calls Tryz.prog 21 #[agg #[slice i5 j5 k5, slice l5 m5 n5, slice o5 p5 q5, slice r5 s5 t5, slice u5 v5 x5], slice n o p] f5 (fun y5 z5 =>
 ∃ a6, y5 = .returned (int .i64 a6) ∧
 CondP (h5 == (decide (a6 ≥ 0)))
 (CondP h5
 (CondP (g5 == a6)
 (R (bool true) z5)
 (CondP (!h5)
 (R (bool (g5 == 0)) z5)
 (R (bool false) z5)))
 (CondP (!h5)
 (R (bool (g5 == 0)) z5)
 (R (bool false) z5)))
 (R (bool false) z5))))) → s3 [int .i64 t3, bool u3] v3) →
 s3 [int .i64 0, bool false] r3))) [slice b3 c3 d3, slice e3 f3 g3, slice h3 i3 j3, slice k3 l3 m3, slice n3 o3 p3] 0)))))))
theorem vc5_calls (a : OA) (b c : Nat) (d : OA) (f g : Nat) (h : OA) (i j : Nat) (k : OA) (l m : Nat) (n : OA) (o p : Nat) (w : World) (R : RW) (hh : vc5 a b c d f g h i j k l m n o p w R) : Calls Tryz.prog 5 #[agg #[slice a b c, slice d f g, slice h i j, slice k l m], slice n o p] w fun e w' => ∃ v, e = .returned v ∧ R v w' :=
 calls_of_den ctxOk (fn := Tryz.f5) (by kernel_rfl) (body := bodyOf Tryz.f5) (by kernel_rfl) (by kernel_rfl) (by kernel_rfl) (Eq.mp (by kernel_rfl) hh)
def vc22 (w : World) (R : RW) : Prop :=
 ∀ a, a = w.alloc (.cells #[int .i64 97, int .i64 98] 98) →
 Calls Tryz.prog 64 #[agg #[bool false, slice (some (nb w)) 1 1, slice none 0 0, slice none 0 0, slice none 0 0, slice none 0 0]] a (fun b c =>
 ∃ d f g, b = .returned (tuple #[pointer d, int .i64 f, int .i64 g]) ∧
 Calls Tryz.prog 61 #[pointer d, int .i64 1048576] c (fun h i =>
 ∃ j k, h = .returned (tuple #[pointer j, int .i64 k]) ∧
 Calls Tryz.prog 37 #[pointer j] i (fun l m =>
 ∃ n, l = .returned (pointer n) ∧
 CondP (k == 0)
 (Calls Tryz.prog 28 #[pointer n] m (fun o p =>
 ∃ q, o = .returned (int .i64 q) ∧
 CondP (q == 2)
 (Calls Tryz.prog 29 #[pointer n] p (fun r s =>
 ∃ t, r = .returned (int .i64 t) ∧
 CondP (t == 2)
 (Calls Tryz.prog 30 #[pointer n] s (fun u x =>
 ∃ y, u = .returned (int .i64 y) ∧
 CondP (y == 4)
 (Calls Tryz.prog 35 #[pointer n, int .i64 97, int .i64 98] x (fun z a1 =>
 ∃ b1, z = .returned (bool b1) ∧
 CondP (!b1)
 (Calls Tryz.prog 35 #[pointer n, int .i64 256, int .i64 98] a1 (fun c1 d1 =>
 ∃ e1, c1 = .returned (bool e1) ∧
 R (bool e1) d1))
 (R (bool false) a1)))
 (R (bool false) x)))
 (R (bool false) s)))
 (R (bool false) p)))
 (R (bool false) m))))
theorem vc22_calls (w : World) (R : RW) (hh : vc22 w R) : Calls Tryz.prog 22 #[] w fun e w' => ∃ v, e = .returned v ∧ R v w' :=
 calls_of_den ctxOk (fn := Tryz.f22) (by kernel_rfl) (body := bodyOf Tryz.f22) (by kernel_rfl) (by kernel_rfl) (by kernel_rfl) (Eq.mp (by kernel_rfl) hh)
def vc23 (a : OA) (b c : Nat) (d : OA) (f g : Nat) (h : OA) (i j : Nat) (k : OA) (l m : Nat) (w : World) (R : RW) : Prop :=
 ∀ n, n = w.alloc (.cells #[slice a b c, slice d f g, slice h i j, slice k l m] 27) →
 ∃ o p q r s t u x y z a1 b1, (n.cell? (nb w) = some (slice o p q) ∧ n.cell? ((nb w).add 1) = some (slice r s t) ∧ n.cell? ((nb w).add 2) = some (slice u x y) ∧ n.cell? ((nb w).add 3) = some (slice z a1 b1) ∧ True) ∧
 Calls Tryz.prog 17 #[agg #[slice o p q, slice r s t, slice u x y, slice z a1 b1]] n (fun c1 d1 =>
 ∃ e1 f1 g1 h1 i1 j1 k1 l1 m1 n1 o1 p1 q1 r1 s1 t1, c1 = .returned (tuple #[pointer e1, agg #[slice f1 g1 h1, slice i1 j1 k1, slice l1 m1 n1, slice o1 p1 q1, slice r1 s1 t1]]) ∧
 ∀ u1, u1 = d1.alloc (.cells #[slice none 0 0, slice none 0 0, slice none 0 0, slice none 0 0, slice none 0 0] 39) →
 StoreP u1 (nb d1) (fun v1 =>
 Calls Tryz.prog 61 #[pointer e1, int .i64 1048576] v1 (fun x1 y1 =>
 ∃ z1 a2, x1 = .returned (tuple #[pointer z1, int .i64 a2]) ∧
 CondP (a2 != 0)
 (R (tuple #[pointer none, pointer none]) y1)
 (Calls Tryz.prog 37 #[pointer z1] y1 (fun b2 c2 =>
 ∃ d2, b2 = .returned (pointer d2) ∧
 R (tuple #[pointer z1, pointer d2]) c2)))) [slice f1 g1 h1, slice i1 j1 k1, slice l1 m1 n1, slice o1 p1 q1, slice r1 s1 t1] 0)
theorem vc23_calls (a : OA) (b c : Nat) (d : OA) (f g : Nat) (h : OA) (i j : Nat) (k : OA) (l m : Nat) (w : World) (R : RW) (hh : vc23 a b c d f g h i j k l m w R) : Calls Tryz.prog 23 #[agg #[slice a b c, slice d f g, slice h i j, slice k l m]] w fun e w' => ∃ v, e = .returned v ∧ R v w' :=
 calls_of_den ctxOk (fn := Tryz.f23) (by kernel_rfl) (body := bodyOf Tryz.f23) (by kernel_rfl) (by kernel_rfl) (by kernel_rfl) (Eq.mp (by kernel_rfl) hh)
def vc26 (a : OA) (b : Int) (w : World) (R : RW) : Prop :=
 Calls Tryz.prog 68 #[pointer a, int .i64 b] w (fun c d =>
 ∃ f g, c = .returned (tuple #[int .i64 f, bool g]) ∧
 CondP (!g)
 (R (tuple #[int .i64 0, bool false]) d)
 (NilC a (fun h =>
 ∃ i j k, d.cell? ((h.add 1).add 0) = some (slice i j k) ∧
 NilC i (fun l =>
 (0 : Int) ≤ f ∧ f < (j : Int) ∧
 ∃ m, d.cell? (l.add (f.toNat * 1)) = some (int .i64 m) ∧
 R (tuple #[int .i64 m, bool true]) d))))
theorem vc26_calls (a : OA) (b : Int) (w : World) (R : RW) (hh : vc26 a b w R) : Calls Tryz.prog 26 #[pointer a, int .i64 b] w fun e w' => ∃ v, e = .returned v ∧ R v w' :=
 calls_of_den ctxOk (fn := Tryz.f26) (by kernel_rfl) (body := bodyOf Tryz.f26) (by kernel_rfl) (by kernel_rfl) (by kernel_rfl) (Eq.mp (by kernel_rfl) hh)
def vc27 (a : OA) (b : Int) (w : World) (R : RW) : Prop :=
 Calls Tryz.prog 68 #[pointer a, int .i64 b] w (fun c d =>
 ∃ f g, c = .returned (tuple #[int .i64 f, bool g]) ∧
 CondP (!g)
 (R (tuple #[int .i64 0, bool false]) d)
 (NilC a (fun h =>
 ∃ i j k, d.cell? ((h.add 3).add 0) = some (slice i j k) ∧
 NilC i (fun l =>
 (0 : Int) ≤ f ∧ f < (j : Int) ∧
 ∃ m, d.cell? (l.add (f.toNat * 1)) = some (int .i64 m) ∧
 R (tuple #[int .i64 m, bool true]) d))))
theorem vc27_calls (a : OA) (b : Int) (w : World) (R : RW) (hh : vc27 a b w R) : Calls Tryz.prog 27 #[pointer a, int .i64 b] w fun e w' => ∃ v, e = .returned v ∧ R v w' :=
 calls_of_den ctxOk (fn := Tryz.f27) (by kernel_rfl) (body := bodyOf Tryz.f27) (by kernel_rfl) (by kernel_rfl) (by kernel_rfl) (Eq.mp (by kernel_rfl) hh)
def vc28 (a : OA) (w : World) (R : RW) : Prop :=
 CondP (Option.isNone a)
 (R (int .i64 0) w)
 (NilC a (fun b =>
 ∃ c d f, w.cell? ((b.add 1).add 1) = some (slice c d f) ∧
 R (int .i64 (d : Int)) w))
theorem vc28_calls (a : OA) (w : World) (R : RW) (hh : vc28 a w R) : Calls Tryz.prog 28 #[pointer a] w fun e w' => ∃ v, e = .returned v ∧ R v w' :=
 calls_of_den ctxOk (fn := Tryz.f28) (by kernel_rfl) (body := bodyOf Tryz.f28) (by kernel_rfl) (by kernel_rfl) (by kernel_rfl) (Eq.mp (by kernel_rfl) hh)
def vc29 (a : OA) (w : World) (R : RW) : Prop :=
 CondP (Option.isNone a)
 (R (int .i64 0) w)
 (NilC a (fun b =>
 ∃ c d f, w.cell? ((b.add 3).add 1) = some (slice c d f) ∧
 R (int .i64 (d : Int)) w))
theorem vc29_calls (a : OA) (w : World) (R : RW) (hh : vc29 a w R) : Calls Tryz.prog 29 #[pointer a] w fun e w' => ∃ v, e = .returned v ∧ R v w' :=
 calls_of_den ctxOk (fn := Tryz.f29) (by kernel_rfl) (body := bodyOf Tryz.f29) (by kernel_rfl) (by kernel_rfl) (by kernel_rfl) (Eq.mp (by kernel_rfl) hh)
def vc30 (a : OA) (w : World) (R : RW) : Prop :=
 Calls Tryz.prog 28 #[pointer a] w (fun b c =>
 ∃ d, b = .returned (int .i64 d) ∧
 Calls Tryz.prog 29 #[pointer a] c (fun f g =>
 ∃ h, f = .returned (int .i64 h) ∧
 Ar .i64 (d * h) (fun i =>
 R (int .i64 i) g)))
theorem vc30_calls (a : OA) (w : World) (R : RW) (hh : vc30 a w R) : Calls Tryz.prog 30 #[pointer a] w fun e w' => ∃ v, e = .returned v ∧ R v w' :=
 calls_of_den ctxOk (fn := Tryz.f30) (by kernel_rfl) (body := bodyOf Tryz.f30) (by kernel_rfl) (by kernel_rfl) (by kernel_rfl) (Eq.mp (by kernel_rfl) hh)
def vc34 (a : OA) (b : Int) (w : World) (R : RW) : Prop :=
 Calls Tryz.prog 27 #[pointer a, int .i64 b] w (fun c d =>
 ∃ f g, c = .returned (tuple #[int .i64 f, bool g]) ∧
 CondP g
 (NilC a (fun h =>
 ∃ i j k, d.cell? (h.add 6) = some (slice i j k) ∧
 NilC i (fun l =>
 (0 : Int) ≤ f ∧ f < (j : Int) ∧
 ∃ m, d.cell? (l.add (f.toNat * 1)) = some (bool m) ∧
 R (bool m) d)))
 (R (bool false) d))
theorem vc34_calls (a : OA) (b : Int) (w : World) (R : RW) (hh : vc34 a b w R) : Calls Tryz.prog 34 #[pointer a, int .i64 b] w fun e w' => ∃ v, e = .returned v ∧ R v w' :=
 calls_of_den ctxOk (fn := Tryz.f34) (by kernel_rfl) (body := bodyOf Tryz.f34) (by kernel_rfl) (by kernel_rfl) (by kernel_rfl) (Eq.mp (by kernel_rfl) hh)
def vc35 (a : OA) (b c : Int) (w : World) (R : RW) : Prop :=
 Calls Tryz.prog 26 #[pointer a, int .i64 b] w (fun d f =>
 ∃ g h, d = .returned (tuple #[int .i64 g, bool h]) ∧
 Calls Tryz.prog 27 #[pointer a, int .i64 c] f (fun i j =>
 ∃ k l, i = .returned (tuple #[int .i64 k, bool l]) ∧
 CondP h
 (CondP l
 (NilC a (fun m =>
 ∃ n o p, j.cell? (m.add 5) = some (slice n o p) ∧
 NilC n (fun q =>
 (0 : Int) ≤ g ∧ g < (o : Int) ∧
 ∃ r s t, j.cell? (q.add (g.toNat * 1)) = some (slice r s t) ∧
 NilC r (fun u =>
 (0 : Int) ≤ k ∧ k < (s : Int) ∧
 ∃ x, j.cell? (u.add (k.toNat * 1)) = some (bool x) ∧
 R (bool x) j))))
 (R (bool false) j))
 (R (bool false) j)))
theorem vc35_calls (a : OA) (b c : Int) (w : World) (R : RW) (hh : vc35 a b c w R) : Calls Tryz.prog 35 #[pointer a, int .i64 b, int .i64 c] w fun e w' => ∃ v, e = .returned v ∧ R v w' :=
 calls_of_den ctxOk (fn := Tryz.f35) (by kernel_rfl) (body := bodyOf Tryz.f35) (by kernel_rfl) (by kernel_rfl) (by kernel_rfl) (Eq.mp (by kernel_rfl) hh)
def vc36 (a b : OA) (c d : Nat) (w : World) (R : RW) : Prop :=
 ∀ f : KW, (∀ (g : Int) (h : Bool) (i : Int) (j : World), (CondP (decide (g < (c : Int)))
 (NilC b (fun k =>
 (0 : Int) ≤ g ∧ g < (c : Int) ∧
 ∃ l, j.cell? (k.add (g.toNat * 1)) = some (int .i64 l) ∧
 Calls Tryz.prog 34 #[pointer a, int .i64 l] j (fun m n =>
 ∃ o, m = .returned (bool o) ∧
 CondP (!o)
 (R (tuple #[int .i64 g, bool true]) n)
 (CondP (decide (g > 0))
 (Ar .i64 (g - 1) (fun p =>
 NilC b (fun q =>
 (0 : Int) ≤ p ∧ p < (c : Int) ∧
 ∃ r, n.cell? (q.add (p.toNat * 1)) = some (int .i64 r) ∧
 Calls Tryz.prog 35 #[pointer a, int .i64 r, int .i64 l] n (fun s t =>
 ∃ u, s = .returned (bool u) ∧
 CondP (!u)
 (R (tuple #[int .i64 g, bool true]) t)
 (Ar .i64 (g + 1) (fun x =>
 f [int .i64 x, bool h, int .i64 i] t))))))
 (Ar .i64 (g + 1) (fun y =>
 f [int .i64 y, bool h, int .i64 i] n))))))
 (R (tuple #[int .i64 0, bool false]) j)) → f [int .i64 g, bool h, int .i64 i] j) →
 f [int .i64 0, bool false, int .i64 0] w
theorem vc36_calls (a b : OA) (c d : Nat) (w : World) (R : RW) (hh : vc36 a b c d w R) : Calls Tryz.prog 36 #[pointer a, slice b c d] w fun e w' => ∃ v, e = .returned v ∧ R v w' :=
 calls_of_den ctxOk (fn := Tryz.f36) (by kernel_rfl) (body := bodyOf Tryz.f36) (by kernel_rfl) (by kernel_rfl) (by kernel_rfl) (Eq.mp (by kernel_rfl) hh)
def vc37 (a : OA) (w : World) (R : RW) : Prop :=
 ∀ b, b = w.alloc (.cells #[pointer a] 48) →
 ∃ c, b.cell? (nb w) = some (pointer c) ∧
 CondP (Option.isNone c)
 (R (pointer none) b)
 (∃ d, b.cell? (nb w) = some (pointer d) ∧
 ∀ f, f = b.alloc (.cells #[pointer d, slice none 0 0, slice none 0 0, slice none 0 0, slice none 0 0, slice none 0 0, slice none 0 0] 115) →
 ∃ g, f.cell? (nb w) = some (pointer g) ∧
 Calls Tryz.prog 24 #[pointer g] f (fun h i =>
 ∃ j, h = .returned (int .i64 j) ∧
 Calls Tryz.prog 71 #[int .i64 j, func (.func 72) #[] #[pointer (some (nb w))]] i (fun k l =>
 ∃ m n o p q r, k = .returned (agg #[slice m n o, slice p q r]) ∧
 StoreP l ((nb b).add 1) (fun s =>
 ∃ t, s.cell? (nb w) = some (pointer t) ∧
 Calls Tryz.prog 24 #[pointer t] s (fun x y =>
 ∃ z, x = .returned (int .i64 z) ∧
 Calls Tryz.prog 71 #[int .i64 z, func (.func 74) #[pointer (some (nb b))] #[]] y (fun a1 b1 =>
 ∃ c1 d1 e1 f1 g1 h1, a1 = .returned (agg #[slice c1 d1 e1, slice f1 g1 h1]) ∧
 StoreP b1 ((nb b).add 3) (fun i1 =>
 ∃ j1 k1 l1, i1.cell? (((nb b).add 1).add 1) = some (slice j1 k1 l1) ∧
 ∀ m1 : KW, (∀ (n1 : Int) (o1 : World), (CondP (decide (n1 < (k1 : Int)))
 (NilC j1 (fun p1 =>
 (0 : Int) ≤ n1 ∧ n1 < (k1 : Int) ∧
 ∃ q1, o1.cell? (p1.add (n1.toNat * 1)) = some (int .i64 q1) ∧
 ∃ r1, o1.cell? (nb w) = some (pointer r1) ∧
 Calls Tryz.prog 25 #[pointer r1, int .i64 q1] o1 (fun s1 t1 =>
 ∃ u1 v1, s1 = .returned (tuple #[int .i64 u1, bool v1]) ∧
 ∃ x1 y1 z1, t1.cell? (((nb b).add 3).add 1) = some (slice x1 y1 z1) ∧
 ∀ a2 : KW, (∀ (b2 : Int) (c2 : OA) (d2 e2 : Nat) (f2 : World), (CondP (decide (b2 < (y1 : Int)))
 (NilC x1 (fun g2 =>
 (0 : Int) ≤ b2 ∧ b2 < (y1 : Int) ∧
 ∃ h2, f2.cell? (g2.add (b2.toNat * 1)) = some (int .i64 h2) ∧
 ∃ i2, f2.cell? (nb w) = some (pointer i2) ∧
 Calls Tryz.prog 25 #[pointer i2, int .i64 h2] f2 (fun j2 k2 =>
 ∃ l2 m2, j2 = .returned (tuple #[int .i64 l2, bool m2]) ∧
 ∃ n2, k2.cell? (nb w) = some (pointer n2) ∧
 Calls Tryz.prog 33 #[pointer n2, int .i64 u1, int .i64 l2] k2 (fun o2 p2 =>
 ∃ q2, o2 = .returned (bool q2) ∧
 ∀ r2, r2 = p2.alloc (.cells #[bool q2] 4) →
 ∃ s2 t2 u2 v2, (Builtin.append_ #[72, 72] 72 #[slice c2 d2 e2, slice (some (nb p2)) 1 1]).run Tryz.prog r2 = .ok (slice s2 t2 u2) v2 ∧
 Ar .i64 (b2 + 1) (fun x2 =>
 a2 [int .i64 x2, slice s2 t2 u2] v2)))))
 (∃ y2 z2 a3, f2.cell? ((nb b).add 5) = some (slice y2 z2 a3) ∧
 ∀ b3, b3 = f2.alloc (.cells #[slice c2 d2 e2] 72) →
 ∃ c3 d3 e3 f3, (Builtin.append_ #[71, 71] 71 #[slice y2 z2 a3, slice (some (nb f2)) 1 1]).run Tryz.prog b3 = .ok (slice c3 d3 e3) f3 ∧
 (slice c3 d3 e3).oneCell' = true ∧ (∃ u, f3.cell? ((nb b).add 5) = some u) ∧ f3.frozen? ((nb b).add 5) = false ∧
 ∀ g3, g3 = (f3.setCell ((nb b).add 5) (slice c3 d3 e3)) →
 Ar .i64 (n1 + 1) (fun h3 =>
 m1 [int .i64 h3] g3))) → a2 [int .i64 b2, slice c2 d2 e2] f2) →
 a2 [int .i64 0, slice none 0 0] t1)))
 (∃ i3 j3 k3, o1.cell? (((nb b).add 3).add 1) = some (slice i3 j3 k3) ∧
 ∀ l3 : KW, (∀ (m3 : Int) (n3 : World), (CondP (decide (m3 < (j3 : Int)))
 (NilC i3 (fun o3 =>
 (0 : Int) ≤ m3 ∧ m3 < (j3 : Int) ∧
 ∃ p3, n3.cell? (o3.add (m3.toNat * 1)) = some (int .i64 p3) ∧
 ∃ q3, n3.cell? (nb w) = some (pointer q3) ∧
 Calls Tryz.prog 25 #[pointer q3, int .i64 p3] n3 (fun r3 s3 =>
 ∃ t3 u3, r3 = .returned (tuple #[int .i64 t3, bool u3]) ∧
 ∀ v3, v3 = s3.drew →
 ∃ x3 y3 z3, v3.cell? ((nb b).add 6) = some (slice x3 y3 z3) ∧
 ∃ a4, v3.cell? (nb w) = some (pointer a4) ∧
 Calls Tryz.prog 32 #[pointer a4, int .i64 t3] v3 (fun b4 c4 =>
 ∃ d4, b4 = .returned (bool d4) ∧
 (c4.cell? ((nb b).add 6) = some (slice x3 y3 z3) ∧ True) ∧
 ∀ e4, e4 = c4.alloc (.cells #[bool d4] 4) →
 (e4.cell? ((nb b).add 6) = some (slice x3 y3 z3) ∧ True) ∧
 ∃ f4 g4 h4 i4, (Builtin.append_ #[72, 72] 72 #[slice x3 y3 z3, slice (some (nb c4)) 1 1]).run Tryz.prog e4 = .ok (slice f4 g4 h4) i4 ∧
 (slice f4 g4 h4).oneCell' = true ∧ (∃ u, i4.cell? ((nb b).add 6) = some u) ∧ i4.frozen? ((nb b).add 6) = false ∧
 ∀ j4, j4 = (i4.setCell ((nb b).add 6) (slice f4 g4 h4)) →
 Ar .i64 (m3 + 1) (fun k4 =>
 l3 [int .i64 k4] j4)))))
 (R (pointer (some (nb b))) n3)) → l3 [int .i64 m3] n3) →
 l3 [int .i64 0] o1)) → m1 [int .i64 n1] o1) →
 m1 [int .i64 0] i1) [slice c1 d1 e1, slice f1 g1 h1] 0))) [slice m n o, slice p q r] 0)))
theorem vc37_calls (a : OA) (w : World) (R : RW) (hh : vc37 a w R) : Calls Tryz.prog 37 #[pointer a] w fun e w' => ∃ v, e = .returned v ∧ R v w' :=
 calls_of_den ctxOk (fn := Tryz.f37) (by kernel_rfl) (body := bodyOf Tryz.f37) (by kernel_rfl) (by kernel_rfl) (by kernel_rfl) (Eq.mp (by kernel_rfl) hh)
def vc68 (a : OA) (b : Int) (w : World) (R : RW) : Prop :=
 CondP (Option.isNone a)
 (R (tuple #[int .i64 0, bool false]) w)
 (NilC a (fun c =>
 ∃ d, w.cell? (c.add 0) = some (pointer d) ∧
 Calls Tryz.prog 41 #[pointer d, int .i64 b] w (fun f g =>
 ∃ h i, f = .returned (tuple #[int .i64 h, bool i]) ∧
 R (tuple #[int .i64 h, bool i]) g)))
theorem vc68_calls (a : OA) (b : Int) (w : World) (R : RW) (hh : vc68 a b w R) : Calls Tryz.prog 68 #[pointer a, int .i64 b] w fun e w' => ∃ v, e = .returned v ∧ R v w' :=
 calls_of_den ctxOk (fn := Tryz.f68) (by kernel_rfl) (body := bodyOf Tryz.f68) (by kernel_rfl) (by kernel_rfl) (by kernel_rfl) (Eq.mp (by kernel_rfl) hh)
def vc71 (a : Int) (b : Value) (w : World) (R : RW) : Prop :=
 ∀ c, c = w.alloc (.cells #[slice none 0 0, slice none 0 0] 113) →
 ∀ d, d = c.alloc (.cells #[slice none 0 0, slice none 0 0] 113) →
 ∃ f g, (Instr.makeMap 177 none).run Tryz.prog d = .ok (map f) g ∧
 ∀ h : KW, (∀ (i : Int) (j : World), (CondP (decide (i < a))
 (CallG ctx b [int .i64 i] j (fun k l =>
 ∃ m, k = .returned (string m) ∧
 ∃ n o p, (Instr.lookup 177 (map f) (string m) true).run Tryz.prog l = .ok (tuple #[int .i64 n, bool o]) p ∧
 ∀ q : KW, (∀ (r : Int) (s : World), (∃ t x y, s.cell? ((nb c).add 0) = some (slice t x y) ∧
 ∀ z, z = s.alloc (.cells #[int .i64 r] 3) →
 ∃ a1 b1 c1 d1, (Builtin.append_ #[28, 28] 28 #[slice t x y, slice (some (nb s)) 1 1]).run Tryz.prog z = .ok (slice a1 b1 c1) d1 ∧
 (slice a1 b1 c1).oneCell' = true ∧ (∃ u, d1.cell? ((nb c).add 0) = some u) ∧ d1.frozen? ((nb c).add 0) = false ∧
 ∀ e1, e1 = (d1.setCell ((nb c).add 0) (slice a1 b1 c1)) →
 Ar .i64 (i + 1) (fun f1 =>
 h [int .i64 f1] e1)) → q [int .i64 r] s) →
 CondP (!o)
 (∃ g1 h1 i1, p.cell? ((nb c).add 1) = some (slice g1 h1 i1) ∧
 ∃ j1, (Instr.mapUpdate 177 (map f) (string m) (int .i64 (h1 : Int))).run Tryz.prog p = .ok () j1 ∧
 ∃ k1 l1 m1, j1.cell? ((nb c).add 1) = some (slice k1 l1 m1) ∧
 ∀ n1, n1 = j1.alloc (.cells #[int .i64 i] 3) →
 ∃ o1 p1 q1 r1, (Builtin.append_ #[28, 28] 28 #[slice k1 l1 m1, slice (some (nb j1)) 1 1]).run Tryz.prog n1 = .ok (slice o1 p1 q1) r1 ∧
 (slice o1 p1 q1).oneCell' = true ∧ (∃ u, r1.cell? ((nb c).add 1) = some u) ∧ r1.frozen? ((nb c).add 1) = false ∧
 ∀ s1, s1 = (r1.setCell ((nb c).add 1) (slice o1 p1 q1)) →
 q [int .i64 (h1 : Int)] s1)
 (q [int .i64 n] p)))
 (∃ t1 u1 v1 x1 y1 z1, (j.cell? (nb c) = some (slice t1 u1 v1) ∧ j.cell? ((nb c).add 1) = some (slice x1 y1 z1) ∧ True) ∧
 StoreP j (nb w) (fun a2 =>
 ∃ b2 c2 d2 e2 f2 g2, (a2.cell? (nb w) = some (slice b2 c2 d2) ∧ a2.cell? ((nb w).add 1) = some (slice e2 f2 g2) ∧ True) ∧
 R (agg #[slice b2 c2 d2, slice e2 f2 g2]) a2) [slice t1 u1 v1, slice x1 y1 z1] 0)) → h [int .i64 i] j) →
 h [int .i64 0] g
theorem vc71_calls (a : Int) (b : Value) (w : World) (R : RW) (hh : vc71 a b w R) : Calls Tryz.prog 71 #[int .i64 a, b] w fun e w' => ∃ v, e = .returned v ∧ R v w' :=
 calls_of_den ctxOk (fn := Tryz.f71) (by kernel_rfl) (body := bodyOf Tryz.f71) (by kernel_rfl) (by kernel_rfl) (by kernel_rfl) (Eq.mp (by kernel_rfl) hh)
def vc72 (a : Int) (b : OA) (w : World) (R : RW) : Prop :=
 NilC b (fun c =>
 ∃ d, w.cell? c = some (pointer d) ∧
 Calls Tryz.prog 25 #[pointer d, int .i64 a] w (fun f g =>
 ∃ h i, f = .returned (tuple #[int .i64 h, bool i]) ∧
 NilC b (fun j =>
 ∃ k, g.cell? j = some (pointer k) ∧
 Calls Tryz.prog 31 #[pointer k, int .i64 h] g (fun l m =>
 ∃ n o p, l = .returned (slice n o p) ∧
 Calls Tryz.prog 73 #[slice n o p] m (fun q r =>
 ∃ s, q = .returned (string s) ∧
 R (string s) r)))))
theorem vc72_calls (a : Int) (b : OA) (w : World) (R : RW) (hh : vc72 a b w R) : Calls Tryz.prog 72 #[int .i64 a, pointer b] w fun e w' => ∃ v, e = .returned v ∧ R v w' :=
 calls_of_den ctxOk (fn := Tryz.f72) (by kernel_rfl) (body := bodyOf Tryz.f72) (by kernel_rfl) (by kernel_rfl) (by kernel_rfl) (Eq.mp (by kernel_rfl) hh)
def vc73 (a : OA) (b c : Nat) (w : World) (R : RW) : Prop :=
 ∀ d : KW, (∀ (f : Int) (g : OA) (h i : Nat) (j : World), (CondP (decide (f < (b : Int)))
 (NilC a (fun k =>
 (0 : Int) ≤ f ∧ f < (b : Int) ∧
 ∃ l, j.cell? (k.add (f.toNat * 1)) = some (int .u64 l) ∧
 ∀ m : KW, (∀ (n : Int) (o : OA) (p q : Nat) (r : World), (CondP (decide (n < 64))
 ((0 : Int) ≤ n ∧
 ∀ s, s = r.alloc (.cells #[int .u8 (IntKind.wrap .u8 (Int.fdiv l (2 ^ (min n.toNat (IntKind.bits .u64)))))] 5) →
 ∃ t u x y, (Builtin.append_ #[178, 178] 178 #[slice o p q, slice (some (nb r)) 1 1]).run Tryz.prog s = .ok (slice t u x) y ∧
 Ar .i64 (n + 8) (fun z =>
 m [int .i64 z, slice t u x] y))
 (Ar .i64 (f + 1) (fun a1 =>
 d [int .i64 a1, slice o p q] r))) → m [int .i64 n, slice o p q] r) →
 m [int .i64 0, slice g h i] j))
 (∃ b1 c1, (convert 178 9 (slice g h i)).run Tryz.prog j = .ok (string b1) c1 ∧
 R (string b1) c1)) → d [int .i64 f, slice g h i] j) →
 d [int .i64 0, slice none 0 0] w
theorem vc73_calls (a : OA) (b c : Nat) (w : World) (R : RW) (hh : vc73 a b c w R) : Calls Tryz.prog 73 #[slice a b c] w fun e w' => ∃ v, e = .returned v ∧ R v w' :=
 calls_of_den ctxOk (fn := Tryz.f73) (by kernel_rfl) (body := bodyOf Tryz.f73) (by kernel_rfl) (by kernel_rfl) (by kernel_rfl) (Eq.mp (by kernel_rfl) hh)
def vc74 (a : OA) (b : Int) (w : World) (R : RW) : Prop :=
 NilC a (fun c =>
 ∃ d, w.cell? (c.add 0) = some (pointer d) ∧
 Calls Tryz.prog 25 #[pointer d, int .i64 b] w (fun f g =>
 ∃ h i, f = .returned (tuple #[int .i64 h, bool i]) ∧
 ∀ j, j = g.alloc (.cells #[int .u8 0] 5) →
 ∀ k : KW, (∀ l : World, (NilC a (fun m =>
 ∃ n o p, l.cell? ((m.add 1).add 1) = some (slice n o p) ∧
 ∀ q : KW, (∀ (r : Int) (s : OA) (t x : Nat) (y : World), (CondP (decide (r < (o : Int)))
 (∀ z : KW, (∀ (a1 : OA) (b1 c1 : Nat) (d1 : World), (Ar .i64 (r + 1) (fun e1 =>
 q [int .i64 e1, slice a1 b1 c1] d1)) → z [slice a1 b1 c1] d1) →
 NilC n (fun f1 =>
 (0 : Int) ≤ r ∧ r < (o : Int) ∧
 ∃ g1, y.cell? (f1.add (r.toNat * 1)) = some (int .i64 g1) ∧
 NilC a (fun h1 =>
 ∃ i1, y.cell? (h1.add 0) = some (pointer i1) ∧
 Calls Tryz.prog 25 #[pointer i1, int .i64 g1] y (fun j1 k1 =>
 ∃ l1 m1, j1 = .returned (tuple #[int .i64 l1, bool m1]) ∧
 NilC a (fun n1 =>
 ∃ o1, k1.cell? (n1.add 0) = some (pointer o1) ∧
 Calls Tryz.prog 33 #[pointer o1, int .i64 l1, int .i64 h] k1 (fun p1 q1 =>
 ∃ r1, p1 = .returned (bool r1) ∧
 CondP r1
 (∀ s1, s1 = q1.alloc (.cells #[int .u8 1] 5) →
 ∃ t1 u1 v1 x1, (Builtin.append_ #[178, 178] 178 #[slice s t x, slice (some (nb q1)) 1 1]).run Tryz.prog s1 = .ok (slice t1 u1 v1) x1 ∧
 z [slice t1 u1 v1] x1)
 (∀ y1, y1 = q1.alloc (.cells #[int .u8 0] 5) →
 ∃ z1 a2 b2 c2, (Builtin.append_ #[178, 178] 178 #[slice s t x, slice (some (nb q1)) 1 1]).run Tryz.prog y1 = .ok (slice z1 a2 b2) c2 ∧
 z [slice z1 a2 b2] c2)))))))
 (∃ d2 e2, (convert 178 9 (slice s t x)).run Tryz.prog y = .ok (string d2) e2 ∧
 R (string d2) e2)) → q [int .i64 r, slice s t x] y) →
 q [int .i64 0, slice (some (nb g)) 1 1] l)) → k [] l) →
 NilC a (fun f2 =>
 ∃ g2, j.cell? (f2.add 0) = some (pointer g2) ∧
 Calls Tryz.prog 32 #[pointer g2, int .i64 h] j (fun h2 i2 =>
 ∃ j2, h2 = .returned (bool j2) ∧
 CondP j2
 ((0 : Int) ≤ 0 ∧ 0 < (1 : Int) ∧
 (int .u8 1).oneCell' = true ∧ (∃ u, i2.cell? ((nb g).add ((0 : Int).toNat * 1)) = some u) ∧ i2.frozen? ((nb g).add ((0 : Int).toNat * 1)) = false ∧
 ∀ k2, k2 = (i2.setCell ((nb g).add ((0 : Int).toNat * 1)) (int .u8 1)) →
 k [] k2)
 (k [] i2)))))
theorem vc74_calls (a : OA) (b : Int) (w : World) (R : RW) (hh : vc74 a b w R) : Calls Tryz.prog 74 #[pointer a, int .i64 b] w fun e w' => ∃ v, e = .returned v ∧ R v w' :=
 calls_of_den ctxOk (fn := Tryz.f74) (by kernel_rfl) (body := bodyOf Tryz.f74) (by kernel_rfl) (by kernel_rfl) (by kernel_rfl) (Eq.mp (by kernel_rfl) hh)
end Go.Proofs.YtboemnagahmlkaaGreat.Eng
