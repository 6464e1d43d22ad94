/- The grid of a vocabulary, walked by the engine. -/
import Derived.Test.YtpklkijdlnioaaaGreatZhGr
set_option linter.unusedVariables false
set_option linter.unusedSimpArgs false
set_option maxRecDepth 100000
namespace Go.Proofs.YtpklkijdlnioaaaGreat.Eng
open Go Go.RowKit
/-! ### May two stand side by side? -/
theorem valid_spec (w : World) (v : Nat) (s : SpecV) (T : List Ent) (hV : VocIs w v s T) (a b : Int) (ha : (vocOf s T).Has a) (hb : (vocOf s T).Has b) :
    Calls Tryz.prog 71 #[.pointer (some ⟨v, 0, none⟩), .int .i64 a, .int .i64 b] w fun e w' => e = .returned (.bool (decide ((vocOf s T).Canon [a, b]))) ∧ VocIs w' v s T ∧ Touch v w w' := by
  refine calls_ret (vc71_calls (some ⟨v, 0, none⟩) a b w (fun u w' => u = .bool (decide ((vocOf s T).Canon [a, b])) ∧ VocIs w' v s T ∧ Touch v w w') ?_) (by rintro v w' ⟨rfl, h⟩; exact ⟨rfl, h⟩)
  have parts : ∀ {q : World}, VocIs q v s T → ∃ x tp bp mp, VocParts q s T x tp bp mp ∧ ∃ c, VBlk q v c tp bp mp := by
    rintro q ⟨w0, x, tp, bp, mp, d, l, uses, hR⟩
    exact ⟨x, tp, bp, mp, hR.now, _, hR.vblk⟩
  obtain ⟨x, tp, bp, mp, hP, _⟩ := parts hV
  have hok := voc_ok hP
  have hab : ∀ t ∈ [a] ++ [b], (vocOf s T).Has t := by
    intro t ht
    simp at ht
    rcases ht with rfl | rfl
    · exact ha
    · exact hb
  refine (alone_spec w v s T hV a).mono ?_
  rintro e w1 ⟨rfl, hV1, t1⟩
  refine ⟨_, rfl, CondP.mk (fun h1 => ?_) fun h1 => ⟨?_, hV1, t1⟩⟩
  · have ca := (aloneV_iff hP ha).1 h1
    refine (alone_spec w1 v s T hV1 b).mono ?_
    rintro e w2 ⟨rfl, hV2, t2⟩
    have t12 := t1.trans t2
    refine ⟨_, rfl, CondP.mk (fun h2 => ?_) fun h2 => ⟨?_, hV2, t12⟩⟩
    · have cb := (aloneV_iff hP hb).1 h2
      obtain ⟨x2, tp2, bp2, mp2, hP2, c2, hB2⟩ := parts hV2
      refine (beside_spec hB2 hP2 a b ha hb ca cb).mono ?_
      rintro e w3 ⟨r, rfl, hr, b3⟩
      refine ⟨r, rfl, ?_, hV2.on b3, t12.trans (Touch.of_below b3)⟩
      have hm := Voc.canon_more hok (init := []) (l := a) (t := b) (fun x hx => by simp at hx; rw [hx]; exact ha) ca hb
      congr 1
      have hm2 : (vocOf s T).Canon [a, b] ↔ (vocOf s T).Canon [b] ∧ (vocOf s T).Pair a b := hm
      cases r with
      | true => exact (decide_eq_true (hm2.2 ⟨cb, hr.1 rfl⟩)).symm
      | false => exact (decide_eq_false fun e => by have := hr.2 (hm2.1 e).2; cases this).symm
    · rw [decide_eq_false fun e => ?_]
      have := (aloneV_iff hP hb).2 (Voc.canon_append hok (P := [a]) (Q := [b]) hab e).2
      rw [h2] at this
      cases this
  · rw [decide_eq_false fun e => ?_]
    have := (aloneV_iff hP ha).2 (Voc.canon_append hok (P := [a]) (Q := [b]) hab e).1
    rw [h1] at this
    cases this

/-! ### The grid in memory -/
abbrev tGrid : TypeId := 104
abbrev tRows : TypeId := 101
theorem undRows : Tryz.prog.underlying tRows = some (.slice tRow) := by kernel_rfl
theorem infoRow : (Tryz.prog.info? tRow).map (fun i => (i.zero, i.size, i.bytes)) = some (some (.slice none 0 0), 1, 24) := by kernel_rfl
def encS (r : Sl) : List Value := [r.v]
theorem elRow : ElT encS 1 tRows tRow 24 := ⟨fun _ => rfl, by decide, fun x u hu => by rw [List.mem_singleton.1 hu]; rfl, undRows, _, infoRow, rfl⟩
def gmap (G : List Int) : List (Int × Value) := G.zipIdx.map fun x => (x.1, .int .i64 (x.2 : Int))
theorem gmap_snoc (G : List Int) (x : Int) : gmap (G ++ [x]) = gmap G ++ [(x, .int .i64 (G.length : Int))] := by simp [gmap, List.zipIdx_append]
theorem look_gmap (G : List Int) (k : Int) : look k (gmap G) = (G.idxOf? k).map fun i : Nat => Value.int .i64 (i : Int) := by
  have := look_zipf (fun x : Int => x) k G 0
  simp only [Nat.zero_add, List.map_id'] at this
  exact this
def alB (s : SpecV) (T : List Ent) (i : Nat) : Bool := decide ((vocOf s T).Canon [(gids s T).getD i 0])
def relB (s : SpecV) (T : List Ent) (i k : Nat) : Bool := decide ((vocOf s T).Canon [(gids s T).getD i 0, (gids s T).getD k 0])
/-- The grid: its numbers, their places, rows of bits. -/
structure GridR (w : World) (g : Nat) (G : List Int) (al : Nat → Bool) (rel : Nat → Nat → Bool) (ids rows alone : Sl) (mb : Nat) (rs : List Sl) (m : Nat) : Prop where
  blk : w.heap[g]? = some (.cells #[ids.v, .map (some mb), rows.v, alone.v] tGrid (0, 0))
  oi : w.ownsRow 0 tInt 1 ids.v ids.n (G.flatMap encInt)
  map : MapIs intKey w mb (gmap G)
  orows : w.ownsRow 0 tRow 1 rows.v rows.n (rs.flatMap encS)
  rl : rs.length = m
  each : ∀ (i : Nat) (r : Sl), rs[i]? = some r → w.ownsRow 0 tU64 1 r.v r.n ((wordsOf G.length (rel i)).flatMap encU64)
  oal : w.ownsRow 0 tU64 1 alone.v alone.n ((wordsOf G.length al).flatMap encU64)
def GridIs (w : World) (g : Nat) (G : List Int) (al : Nat → Bool) (rel : Nat → Nat → Bool) : Prop := ∃ ids rows alone mb rs, GridR w g G al rel ids rows alone mb rs G.length
theorem GridR.on {w w' : World} {g : Nat} {G : List Int} {al : Nat → Bool} {rel : Nat → Nat → Bool} {ids rows alone : Sl} {mb : Nat} {rs : List Sl} {m : Nat} (h : GridR w g G al rel ids rows alone mb rs m) (hb : Below w.heap.size w w') : GridR w' g G al rel ids rows alone mb rs m :=
  ⟨held_on hb h.blk, own_on h.oi hb, h.map.on hb, own_on h.orows hb, h.rl, fun i r hr => own_on (h.each i r hr) hb, own_on h.oal hb⟩
theorem GridIs.on {w w' : World} {g : Nat} {G : List Int} {al : Nat → Bool} {rel : Nat → Nat → Bool} (h : GridIs w g G al rel) (hb : Below w.heap.size w w') : GridIs w' g G al rel := by
  obtain ⟨ids, rows, alone, mb, rs, h⟩ := h
  exact ⟨ids, rows, alone, mb, rs, h.on hb⟩
theorem VocIs.typed {w : World} {v : Nat} {s : SpecV} {T : List Ent} (h : VocIs w v s T) : ∃ c, w.heap[v]? = some (.cells c tVocab (0, 0)) := by
  obtain ⟨w0, x, tp, bp, mp, d, l, uses, hR⟩ := h
  exact ⟨_, hR.blk⟩
theorem VocIs.ne_cells {w : World} {v : Nat} {s : SpecV} {T : List Ent} (h : VocIs w v s T) {k : Nat} {c : Array Value} {e : TypeId} {fz : Nat × Nat} (hk : w.heap[k]? = some (.cells c e fz)) (he : e ≠ tVocab) : k ≠ v := by
  obtain ⟨c', hc⟩ := h.typed
  rintro rfl
  rw [hc] at hk
  cases hk
  exact he rfl
theorem VocIs.ne_map {w : World} {v : Nat} {s : SpecV} {T : List Ent} (h : VocIs w v s T) {κ : Type} [DecidableEq κ] {kv : κ → Value} {r : Nat} {m : List (κ × Value)} (hm : MapIs kv w r m) : r ≠ v := by
  obtain ⟨c', hc⟩ := h.typed
  rintro rfl
  obtain ⟨es, k, hk, _⟩ := hm
  rw [hc] at hk
  cases hk
theorem GridR.touch {w w' : World} {g : Nat} {G : List Int} {al : Nat → Bool} {rel : Nat → Nat → Bool} {ids rows alone : Sl} {mb : Nat} {rs : List Sl} {m : Nat} (h : GridR w g G al rel ids rows alone mb rs m) {v : Nat} {s : SpecV} {T : List Ent} (hV : VocIs w v s T) (t : Touch v w w') : GridR w' g G al rel ids rows alone mb rs m :=
  ⟨t.held (hV.ne_cells h.blk (by decide)) h.blk, hV.own_touch t h.oi (by decide), h.map.same (t.block mb h.map.lt (hV.ne_map h.map)), hV.own_touch t h.orows (by decide), h.rl, fun i r hr => hV.own_touch t (h.each i r hr) (by decide), hV.own_touch t h.oal (by decide)⟩
theorem GridIs.touch {w w' : World} {g : Nat} {G : List Int} {al : Nat → Bool} {rel : Nat → Nat → Bool} (h : GridIs w g G al rel) {v : Nat} {s : SpecV} {T : List Ent} (hV : VocIs w v s T) (t : Touch v w w') : GridIs w' g G al rel := by
  obtain ⟨ids, rows, alone, mb, rs, h⟩ := h
  exact ⟨ids, rows, alone, mb, rs, h.touch hV t⟩
theorem box_store {w2 w3 : World} {x u : Value} {e : TypeId} (hw : w3 = w2.alloc (.cells #[x] e)) (hu : u.oneCell' = true) {k : World → Prop} (hk : ∀ w4, w4.heap[w2.heap.size]? = some (.cells #[u] e (0, 0)) → Below w2.heap.size w2 w4 → k w4) : u.oneCell' = true ∧ (∃ y, w3.cell? (nb w2) = some y) ∧ w3.frozen? (nb w2) = false ∧ ∀ w4, w4 = w3.setCell (nb w2) u → k w4 :=
  store_one (storeP_new [x] [u] rfl (by intro y hy; rw [List.mem_singleton.1 hy]; exact hu) w3 hw fun w4 h4 _ b4 => hk w4 h4 b4)
theorem cell1 {w : World} {b : Nat} {x : Value} {e : TypeId} {fz : Nat × Nat} (h : w.heap[b]? = some (.cells #[x] e fz)) : w.cell? ⟨b, 0, none⟩ = some x := cell_heap h
theorem getD_of {α : Type} {l : List α} {i : Nat} (h : i < l.length) (d : α) : l.getD i d = l[i] := by simp [List.getD, h]
theorem gids_bound {s : SpecV} {T : List Ent} (h1 : TOk T) (h2 : s.right = true) : 256 ≤ (gids s T).length ∧ (gids s T).length ≤ 1032 := by
  have := h1.most
  have := h1.len
  have := allOk_len (right_parts h2).2.2.2.1
  rw [gids_length]
  omega
theorem Touch.put {v d j : Nat} {a b : World} (t : Touch v a b) (hd : a.heap.size ≤ d) (u : Value) : Touch v a (b.setCell ((⟨d, 0, none⟩ : Addr).add j) u) :=
  ⟨t.os, t.tape, t.output, by rw [size_setCell]; exact t.size, fun k hk hv => by rw [heap_setCell_ne (by rw [add_block]; show k ≠ d; omega)]; exact t.block k hk hv⟩
theorem VocIs.put {w : World} {v d j : Nat} {s : SpecV} {T : List Ent} (h : VocIs w v s T) {c : Array Value} {e : TypeId} (hd : w.heap[d]? = some (.cells c e (0, 0))) (he : tBool ≠ e) (hv : v < d) (u : Value) : VocIs (w.setCell ((⟨d, 0, none⟩ : Addr).add j) u) v s T := by
  obtain ⟨w0, x, tp, bp, mp, q, l, uses, hR⟩ := h
  have hlt := hR.lt
  refine ⟨w0, x, tp, bp, mp, q, l, uses, hR.parts, below_put hR.below (by omega) u, hlt, by rw [heap_setCell_ne (by rw [add_block]; show v ≠ d; omega)]; exact hR.blk, ?_⟩
  rcases hR.once with h | ⟨h1, h2, h3⟩
  · exact .inl h
  · exact .inr ⟨h1, h2, own_setCell h3 u (by rw [add_block]; exact row_ne_blk h3 hd he)⟩
theorem VocIs.growE {w w' : World} {v : Nat} {s : SpecV} {T : List Ent} (h : VocIs w v s T) {B : Nat} (hb : Below B w w') (hv : v < B) {B' n sz : Nat} {e : TypeId} {u : Value} {xs : List Value} (ho : w.ownsRow B' e sz u n xs) (he : tBool ≠ e) (hk : ∀ k, k < w.heap.size → u.ownBlock ≠ some k → w'.heap[k]? = w.heap[k]?) : VocIs w' v s T := by
  obtain ⟨w0, x, tp, bp, mp, d, l, uses, hR⟩ := h
  have hlt := hR.lt
  refine ⟨w0, x, tp, bp, mp, d, l, uses, hR.parts, hR.below.trans (hb.mono (by omega)), hlt, by rw [hb.block v hv]; exact hR.blk, ?_⟩
  rcases hR.once with h | ⟨h1, h2, h3⟩
  · exact .inl h
  · exact .inr ⟨h1, h2, own_same h3 fun k hk3 => hk k (own_lt h3 k hk3).2 (row_ne_row h3 ho he k hk3)⟩
theorem alone_dec (w : World) (v : Nat) (s : SpecV) (T : List Ent) (hV : VocIs w v s T) (t : Int) (ht : (vocOf s T).Has t) :
    Calls Tryz.prog 68 #[.pointer (some ⟨v, 0, none⟩), .int .i64 t] w fun e w' => e = .returned (.bool (decide ((vocOf s T).Canon [t]))) ∧ VocIs w' v s T ∧ Touch v w w' := by
  have hP : ∃ x tp bp mp, VocParts w s T x tp bp mp := by
    obtain ⟨w0, x, tp, bp, mp, d, l, uses, hR⟩ := hV
    exact ⟨x, tp, bp, mp, hR.now⟩
  obtain ⟨x, tp, bp, mp, hP⟩ := hP
  refine (alone_spec w v s T hV t).mono ?_
  rintro e w1 ⟨rfl, h⟩
  refine ⟨?_, h⟩
  congr 2
  have := aloneV_iff hP ht
  cases ha : aloneV s T t with
  | true => exact (decide_eq_true (this.1 ha)).symm
  | false => exact (decide_eq_false fun e => by rw [this.2 e] at ha; cases ha).symm
theorem new1_spec (w : World) (v : Nat) (s : SpecV) (T : List Ent) (hV : VocIs w v s T) (b0 b1 : Nat) {e0 e1 : TypeId} (ids : Sl) (G : List Int) (h0 : w.heap[b0]? = some (.cells #[.pointer (some ⟨v, 0, none⟩)] e0 (0, 0))) (h1 : w.heap[b1]? = some (.cells #[ids.v] e1 (0, 0))) (oi : w.ownsRow 0 tInt 1 ids.v ids.n (G.flatMap encInt)) (hG : ∀ t ∈ G, (vocOf s T).Has t) (i : Nat) (hi : i < G.length) :
    Calls Tryz.prog 67 #[.int .i64 (i : Int), .pointer (some ⟨b0, 0, none⟩), .pointer (some ⟨b1, 0, none⟩)] w fun e w' => e = .returned (.bool (decide ((vocOf s T).Canon [G.getD i 0]))) ∧ VocIs w' v s T ∧ Touch v w w' := by
  refine calls_ret (vc67_calls i (some ⟨b0, 0, none⟩) (some ⟨b1, 0, none⟩) w (fun u w' => u = .bool (decide ((vocOf s T).Canon [G.getD i 0])) ∧ VocIs w' v s T ∧ Touch v w w') ?_) (by rintro v w' ⟨rfl, h⟩; exact ⟨rfl, h⟩)
  intro w1 hw1
  have b1' : Below w.heap.size w w1 := by subst hw1; exact drew_on w
  have hls := LsAt.of_own elInt (own_on oi b1')
  have hn := hls.n
  obtain ⟨p, hp, c0⟩ := cell_rw hls.r hi rfl
  refine NilC.mk _ rfl ⟨_, cell1 (held_on b1' h0), NilC.mk _ rfl ⟨ids.a, ids.n, ids.c, cell1 (held_on b1' h1), NilC.mk p hp ⟨by omega, by omega, _, c0, ?_⟩⟩⟩
  refine (alone_dec w1 v s T (hV.on b1') G[i] (hG _ (List.getElem_mem hi))).mono ?_
  rintro e w2 ⟨rfl, hV2, t2⟩
  refine ⟨_, rfl, ?_, hV2, (Touch.of_below b1').trans t2⟩
  rw [getD_of hi]
theorem new2_spec (w : World) (v : Nat) (s : SpecV) (T : List Ent) (hV : VocIs w v s T) (cg ci cv ca cids : Nat) {eg ei ev ea ed : TypeId} (g : Nat) (ids rows alone : Sl) (mb : Nat) (rs : List Sl) (m i k : Nat) (hb : v < cg ∧ v < ci ∧ v < cv ∧ v < ca ∧ v < cids)
    (hR : GridR w g (gids s T) (alB s T) (relB s T) ids rows alone mb rs m) (hgh : ∀ t ∈ gids s T, (vocOf s T).Has t) (hgl : (gids s T).length ≤ 1032)
    (h0 : w.heap[cg]? = some (.cells #[.pointer (some ⟨g, 0, none⟩)] eg (0, 0))) (h1 : w.heap[ci]? = some (.cells #[.int .i64 (i : Int)] ei (0, 0))) (h2 : w.heap[cv]? = some (.cells #[.pointer (some ⟨v, 0, none⟩)] ev (0, 0))) (h3 : w.heap[ca]? = some (.cells #[.int .i64 ((gids s T).getD i 0)] ea (0, 0))) (h4 : w.heap[cids]? = some (.cells #[ids.v] ed (0, 0)))
    (hi : i < (gids s T).length) (hk : k < (gids s T).length) :
    Calls Tryz.prog 69 #[.int .i64 (k : Int), .pointer (some ⟨cg, 0, none⟩), .pointer (some ⟨ci, 0, none⟩), .pointer (some ⟨cv, 0, none⟩), .pointer (some ⟨ca, 0, none⟩), .pointer (some ⟨cids, 0, none⟩)] w fun e w' => e = .returned (.bool (relB s T i k)) ∧ VocIs w' v s T ∧ Touch v w w' := by
  refine calls_ret (vc69_calls k (some ⟨cg, 0, none⟩) (some ⟨ci, 0, none⟩) (some ⟨cv, 0, none⟩) (some ⟨ca, 0, none⟩) (some ⟨cids, 0, none⟩) w (fun u w' => u = .bool (relB s T i k) ∧ VocIs w' v s T ∧ Touch v w w') ?_) (by rintro v w' ⟨rfl, h⟩; exact ⟨rfl, h⟩)
  have hP : ∃ x tp bp mp, VocParts w s T x tp bp mp := by
    obtain ⟨w0, x, tp, bp, mp, d, l, uses, hR⟩ := hV
    exact ⟨x, tp, bp, mp, hR.now⟩
  obtain ⟨x, tp, bp, mp, hP⟩ := hP
  have hok := voc_ok hP
  have hA : (vocOf s T).Has ((gids s T).getD i 0) := by rw [getD_of hi]; exact hgh _ (List.getElem_mem hi)
  have hB : (vocOf s T).Has ((gids s T).getD k 0) := by rw [getD_of hk]; exact hgh _ (List.getElem_mem hk)
  have hpair : relB s T i k = true → alB s T i = true ∧ alB s T k = true := by
    intro h
    have := Voc.canon_append hok (P := [(gids s T).getD i 0]) (Q := [(gids s T).getD k 0]) (by
      intro t ht
      simp only [List.cons_append, List.nil_append, List.mem_cons, List.not_mem_nil, or_false] at ht
      rcases ht with rfl | rfl
      · exact hA
      · exact hB) (of_decide_eq_true h)
    exact ⟨decide_eq_true this.1, decide_eq_true this.2⟩
  intro w1 hw1
  have b1' : Below w.heap.size w w1 := by subst hw1; exact drew_on w
  have t1 : Touch v w w1 := Touch.of_below b1'
  have hR1 := hR.on b1'
  have hV1 := hV.on b1'
  have al1 := LsAt.of_own elU64 hR1.oal
  refine NilC.mk _ rfl ⟨_, cell1 (held_on b1' h0), NilC.mk _ rfl ⟨alone.a, alone.n, alone.c, by rw [cell_put hR1.blk]; rfl, NilC.mk _ rfl ⟨_, cell1 (held_on b1' h1), ?_⟩⟩⟩
  refine (rowHas_spec w1 alone.a alone.n alone.c _ (alB s T) al1.r al1.n (by omega) i hi).mono ?_
  rintro e w2 ⟨rfl, hw2⟩
  rw [hw2]
  refine ⟨_, rfl, CondP.mk (fun ha => ?_) fun ha => ⟨?_, hV1, t1⟩⟩
  · refine NilC.mk _ rfl ⟨_, cell1 (held_on b1' h0), NilC.mk _ rfl ⟨alone.a, alone.n, alone.c, by rw [cell_put hR1.blk]; rfl, ?_⟩⟩
    refine (rowHas_spec w1 alone.a alone.n alone.c _ (alB s T) al1.r al1.n (by omega) k hk).mono ?_
    rintro e w3 ⟨rfl, hw3⟩
    rw [hw3]
    refine ⟨_, rfl, CondP.mk (fun hb => ?_) fun hb => ⟨?_, hV1, t1⟩⟩
    · have hls := LsAt.of_own elInt hR1.oi
      have hn := hls.n
      obtain ⟨p, hp, c0⟩ := cell_rw hls.r hk rfl
      refine NilC.mk _ rfl ⟨_, cell1 (held_on b1' h2), NilC.mk _ rfl ⟨_, cell1 (held_on b1' h3), NilC.mk _ rfl ⟨ids.a, ids.n, ids.c, cell1 (held_on b1' h4), NilC.mk p hp ⟨by omega, by omega, _, c0, ?_⟩⟩⟩⟩
      rw [← getD_of hk 0]
      refine (valid_spec w1 v s T hV1 _ _ hA hB).mono ?_
      rintro e w4 ⟨rfl, hV4, t4⟩
      exact ⟨_, rfl, rfl, hV4, t1.trans t4⟩
    · cases hr : relB s T i k with
      | false => rfl
      | true => rw [(hpair hr).2] at hb; cases hb
  · cases hr : relB s T i k with
    | false => rfl
    | true => rw [(hpair hr).1] at ha; cases ha
theorem own_ne_map {w : World} {B : Nat} {e : TypeId} {sz n : Nat} {u : Value} {xs : List Value} (h : w.ownsRow B e sz u n xs) {κ : Type} [DecidableEq κ] {kv : κ → Value} {r : Nat} {m : List (κ × Value)} (hm : MapIs kv w r m) : u.ownBlock ≠ some r := by
  obtain ⟨es, k, hk, _⟩ := hm
  intro hb
  rcases h.2 with ⟨rfl, _⟩ | ⟨g, cap, cur, rfl, _, hg, _⟩
  · cases hb
  · cases hb
    rw [hk] at hg
    cases hg
theorem two_boxes {q w1 w2 : World} {x y u z : Value} {e e' : TypeId} (h1 : w1 = q.alloc (.cells #[x] e)) (h2 : w2 = w1.alloc (.cells #[y] e')) (hu : u.oneCell' = true) (hz : z.oneCell' = true) {k : World → Prop} (hk : ∀ w4, w4.heap[q.heap.size]? = some (.cells #[u] e (0, 0)) → w4.heap[w1.heap.size]? = some (.cells #[z] e' (0, 0)) → Below q.heap.size q w4 → k w4) :
    u.oneCell' = true ∧ (∃ a, w2.cell? (nb q) = some a) ∧ w2.frozen? (nb q) = false ∧ ∀ w3, w3 = w2.setCell (nb q) u → z.oneCell' = true ∧ (∃ a, w3.cell? (nb w1) = some a) ∧ w3.frozen? (nb w1) = false ∧ ∀ w4, w4 = w3.setCell (nb w1) z → k w4 := by
  have b1 : Below q.heap.size q w1 := by subst h1; exact below_alloc _ _
  have a1 : w1.heap[q.heap.size]? = some (.cells #[x] e (0, 0)) := by subst h1; exact alloc_new _ _
  have b2 : Below w1.heap.size w1 w2 := by subst h2; exact below_alloc _ _
  have a2 : w2.heap[w1.heap.size]? = some (.cells #[y] e' (0, 0)) := by subst h2; exact alloc_new _ _
  have a12 := held_on b2 a1
  have hlt : q.heap.size < w1.heap.size := (Array.getElem?_eq_some_iff.1 a1).1
  have b02 := below_then b1 b2
  refine ⟨hu, ⟨_, cell_heap a12⟩, frozen_heap a12, ?_⟩
  intro w3 h3
  have a13 : w3.heap[q.heap.size]? = some (.cells #[u] e (0, 0)) := by subst h3; exact setCell_heap a12 u
  have a23 : w3.heap[w1.heap.size]? = some (.cells #[y] e' (0, 0)) := by subst h3; rw [heap_setCell_ne (by show w1.heap.size ≠ q.heap.size; omega)]; exact a2
  have b03 : Below q.heap.size q w3 := by subst h3; exact b02.setCell (p := nb q) (Nat.le_refl _) u
  refine ⟨hz, ⟨_, cell_heap a23⟩, frozen_heap a23, ?_⟩
  intro w4 h4
  refine hk w4 ?_ ?_ ?_
  · subst h4; rw [heap_setCell_ne (by show q.heap.size ≠ w1.heap.size; omega)]; exact a13
  · subst h4; exact setCell_heap a23 z
  · subst h4; exact b03.setCell (p := nb w1) (Nat.le_of_lt hlt) z
def NewGR (w : World) (v : Nat) (s : SpecV) (T : List Ent) (most : Int) (u : Value) (w' : World) : Prop := VocIs w' v s T ∧ Touch v w w' ∧ (if (((gids s T).length * (gids s T).length : Nat) : Int) > most then u = .tuple #[.pointer none, .int .i64 5] else ∃ g, u = .tuple #[.pointer (some ⟨g, 0, none⟩), .int .i64 0] ∧ GridIs w' g (gids s T) (alB s T) (relB s T) ∧ w.heap.size ≤ g)
set_option maxHeartbeats 2000000 in
theorem gridNew_spec (w : World) (v : Nat) (s : SpecV) (T : List Ent) (hV : VocIs w v s T) (hasc : (s.specials.map (·.1)).Pairwise (· < ·)) (most : Int) :
    Calls Tryz.prog 30 #[.pointer (some ⟨v, 0, none⟩), .int .i64 most] w fun e w' => ∃ u, e = .returned u ∧ NewGR w v s T most u w' := by
  refine vc30_calls (some ⟨v, 0, none⟩) most w (NewGR w v s T most) ?_
  have hgb : 256 ≤ (gids s T).length ∧ (gids s T).length ≤ 1032 ∧ (∀ t ∈ gids s T, (vocOf s T).Has t) ∧ (gids s T).Pairwise (· < ·) := by
    obtain ⟨w0, x, tp, bp, mp, d, l, uses, hR⟩ := hV
    have hP := hR.now
    exact ⟨(gids_bound hP.ok hP.right).1, (gids_bound hP.ok hP.right).2, fun t ht => (has_iff hP t).1 ((gids_has s T t).1 ht), gids_rising hasc hP.ids⟩
  obtain ⟨hg1, hg2, hgh, hgr⟩ := hgb
  intro w1 hw1
  have b1 : Below w.heap.size w w1 := by subst hw1; exact below_alloc _ _
  have l1 : w1.heap[w.heap.size]? = some (.cells #[.pointer (some ⟨v, 0, none⟩)] 31 (0, 0)) := by subst hw1; exact alloc_new _ _
  refine ⟨_, cell1 l1, ?_⟩
  have hV1 := hV.on b1
  refine (vocIds_spec w1 v s T hV1 hasc).mono ?_
  rintro e w2 ⟨ids, rfl, oids, b2⟩
  refine ⟨_, _, _, rfl, ?_⟩
  intro w3 hw3
  refine box_store hw3 rfl ?_
  intro w4 l4 b4
  have b24 := below_then b2 b4
  have b14 := below_then b1 b24
  have oids4 := own_base (own_on oids b4) (Nat.zero_le _)
  have hin := (LsAt.of_own elInt oids4).n
  have l14 := held_on b24 l1
  have hV4 := hV.on b14
  refine ⟨_, cell1 l14, CondP.no rfl ⟨ids.a, ids.n, ids.c, cell1 l4, ids.a, ids.n, ids.c, cell1 l4, Ar.nat ((gids s T).length * (gids s T).length) (by rw [hin]; simp) (by
    have : (gids s T).length * (gids s T).length ≤ 1032 * 1032 := Nat.mul_le_mul hg2 hg2
    omega) (CondP.mk (fun hm => ⟨hV4, Touch.of_below b14, ?_⟩) fun hm => ?_)⟩⟩
  · rw [if_pos (of_decide_eq_true hm)]
  have hm := of_decide_eq_false hm
  obtain ⟨G, hG⟩ : ∃ G, G = gids s T := ⟨_, rfl⟩
  rw [← hG] at oids4 hin hg1 hg2 hgh hgr hm
  obtain ⟨n, hn⟩ : ∃ n, n = G.length := ⟨_, rfl⟩
  rw [← hn] at hin
  refine ⟨ids.a, ids.n, ids.c, cell1 l4, _, _, run_make _, ?_⟩
  have b5 := below_alloc w4 (.map #[] 0)
  have m5 : MapIs intKey (w4.alloc (.map #[] 0)) w4.heap.size (gmap []) := map_new w4
  obtain ⟨w5, hw5⟩ : ∃ w5, w5 = w4.alloc (.map #[] 0) := ⟨_, rfl⟩
  rw [← hw5] at b5 m5
  rw [← hw5]
  intro w6 hw6 w7 hw7
  have b6 : Below w5.heap.size w5 w6 := by subst hw6; exact below_alloc _ _
  have g6 : w6.heap[w5.heap.size]? = some (.cells #[ids.v, .map (some w4.heap.size), sl0.v, sl0.v] tGrid (0, 0)) := by subst hw6; exact alloc_new _ _
  refine box_store hw7 rfl ?_
  intro w8 l8 b8
  have b58 := below_then b6 b8
  have b48 := below_then b5 b58
  have b08 := below_then b14 b48
  have hz4 := b14.size
  have hz5 := b5.size
  have lt4 : w4.heap.size < w5.heap.size := m5.lt
  have lt6 : w5.heap.size < w6.heap.size := (Array.getElem?_eq_some_iff.1 g6).1
  have lt8 : w6.heap.size < w8.heap.size := (Array.getElem?_eq_some_iff.1 l8).1
  have lt2 : w2.heap.size < w4.heap.size := (Array.getElem?_eq_some_iff.1 l4).1
  have lt1 : w.heap.size < w4.heap.size := (Array.getElem?_eq_some_iff.1 l14).1
  have hvl := hV.lt
  -- what stays in place behind w8: the boxes, the numbers
  have boxes : ∀ {q : World}, Below (w4.heap.size) w8 q → q.heap[w.heap.size]? = some (.cells #[.pointer (some ⟨v, 0, none⟩)] 31 (0, 0)) ∧ q.heap[w2.heap.size]? = some (.cells #[ids.v] tInts (0, 0)) := by
    intro q hq
    exact ⟨Below.keeps hq lt1 (held_on b48 l14), Below.keeps hq lt2 (held_on b48 l4)⟩
  refine ⟨ids.a, ids.n, ids.c, cell1 (held_on b48 l4), ?_⟩
  have oids8 := own_on oids4 b48
  have idsLt : ∀ k, ids.v.ownBlock = some k → k < w4.heap.size := fun k hk => (own_lt oids4 k hk).2
  intro I hI
  -- places
  let Inv (i : Nat) (q : World) : Prop := MapIs intKey q w4.heap.size (gmap (G.take i)) ∧ (∀ j, j ≠ w4.heap.size → q.heap[j]? = w8.heap[j]?) ∧ q.heap.size = w8.heap.size ∧ Below w4.heap.size w4 q
  have key := climb2 (α := World) n Inv (fun i q => I [.int .i64 (i : Int)] q) w8 ⟨by rw [List.take_zero]; exact m5.on b58, fun _ _ => rfl, rfl, b48⟩ ?_ ?_
  · exact key
  · rintro i hi ih q ⟨hmap, hs, hz, hB⟩
    have hiG : i < G.length := by omega
    have oq : q.ownsRow 0 tInt 1 ids.v ids.n (G.flatMap encInt) := own_same oids8 fun k hk => hs k (by have := idsLt k hk; omega)
    obtain ⟨p, hp, c0⟩ := cell_rw (LsAt.of_own elInt oq).r hiG rfl
    have hlook : look G[i] (gmap (G.take i)) = none := by
      rw [look_gmap, List.idxOf?_eq_none_iff.2]
      · rfl
      · intro hmem
        obtain ⟨j, hj, e⟩ := List.mem_take_iff_getElem.1 hmem
        have := List.pairwise_iff_getElem.1 hgr j i (by omega) hiG (by omega)
        omega
    obtain ⟨q', hr', hm', hs', hz', hB'⟩ := run_put_new keysI undMapI hmap G[i] (.int .i64 (i : Int)) hlook
    refine hI _ _ (CondP.yes (by simp; omega) (NilC.mk p hp ⟨by omega, by omega, _, c0, _, cell1 (by rw [hs w6.heap.size (by omega)]; exact l8), NilC.mk _ rfl ⟨_, ptr_add0 _ _ (by rw [hs w5.heap.size (by omega)]; exact held_on b8 g6) 1, q', hr', Ar.nat (i + 1) rfl (by omega) (ih q' ⟨?_, fun j hj => by rw [hs' j hj, hs j hj], by rw [hz', hz], hB' _ _ (Nat.le_refl _) hB⟩)⟩⟩))
    have e : gmap (G.take (i + 1)) = gmap (G.take i) ++ [(G[i], .int .i64 (i : Int))] := by
      rw [List.take_add_one, List.getElem?_eq_getElem hiG]
      have := gmap_snoc (G.take i) G[i]
      rw [List.length_take, Nat.min_eq_left (by omega)] at this
      exact this
    rw [e]
    exact hm'
  · rintro q ⟨hmap, hs, hz, hB⟩
    rw [List.take_of_length_le (by omega)] at hmap
    refine hI _ _ (CondP.no (by simp; omega) ?_)
    intro w11 hw11
    have b11 : Below q.heap.size q w11 := by subst hw11; exact drew_on q
    have hq8 : Below w4.heap.size w8 q := ⟨by rw [hB.os, ← b48.os], by rw [hB.tape, ← b48.tape], by rw [hB.output, ← b48.output], by rw [hz]; exact Nat.le_refl _, fun k hk => hs k (by omega)⟩
    have hq8' : Below w4.heap.size w8 w11 := hq8.trans (b11.mono (by have := hq8.size; omega))
    have hV11 : VocIs w11 v s T := (hV4.on b5 |> fun h5 => (hV4.on ⟨hB.os, hB.tape, hB.output, hB.size, hB.block⟩)).on b11
    have t11 : Touch v w w11 := (Touch.of_below b14).trans (Touch.of_below (hB.trans (b11.mono hB.size)))
    have g11 := held_on b11 (show q.heap[w5.heap.size]? = some (.cells #[ids.v, .map (some w4.heap.size), sl0.v, sl0.v] tGrid (0, 0)) by rw [hs _ (by omega)]; exact held_on b8 g6)
    have lg11 := held_on b11 (show q.heap[w6.heap.size]? = _ by rw [hs _ (by omega)]; exact l8)
    have bx11 := boxes hq8'
    have m11 := hmap.on b11
    have o11 : w11.ownsRow 0 tInt 1 ids.v ids.n (G.flatMap encInt) := own_on (own_same oids8 fun k hk => hs k (by have := idsLt k hk; omega)) b11
    subst hG
    have bxL : w.heap.size < w11.heap.size ∧ w2.heap.size < w11.heap.size ∧ w6.heap.size < w11.heap.size ∧ w5.heap.size < w11.heap.size := ⟨(Array.getElem?_eq_some_iff.1 bx11.1).1, (Array.getElem?_eq_some_iff.1 bx11.2).1, (Array.getElem?_eq_some_iff.1 lg11).1, (Array.getElem?_eq_some_iff.1 g11).1⟩
    have sz2 : w.heap.size ≤ w2.heap.size := Nat.le_trans b1.size b2.size
    refine ⟨_, cell1 lg11, ids.a, ids.n, ids.c, cell1 bx11.2, ?_⟩
    refine (fill_spec w11 ids.n _ (fun i => alB s T i) v s T hV11 (by omega) ?_).mono ?_
    · intro i hi q hVq tq
      refine callG_of (by kernel_rfl) ?_
      exact new1_spec q v s T hVq w.heap.size w2.heap.size ids (gids s T) (tq.held (by omega) bx11.1) (tq.held (by omega) bx11.2) (hV11.own_touch tq o11 (by decide)) hgh i (by omega)
    rintro e w12 ⟨al, rfl, oal, hV12, t12⟩
    rw [hin, hn] at oal
    have lg12 := t12.held (by omega) lg11
    have g12 := t12.held (by omega) g11
    have x12 := t12.held (by omega) bx11.1
    have y12 := t12.held (by omega) bx11.2
    have o12 := hV11.own_touch t12 o11 (by decide)
    have m12 := m11.same (t12.block _ m11.lt (by omega))
    refine ⟨al.a, al.n, al.c, rfl, ⟨cell1 lg12, trivial⟩, NilC.mk _ rfl ⟨rfl, ⟨_, by rw [cell_put g12]; rfl⟩, frozen_put g12, ?_⟩⟩
    intro w13 hw13
    have g13 : w13.heap[w5.heap.size]? = some (.cells #[ids.v, .map (some w4.heap.size), sl0.v, al.v] tGrid (0, 0)) := by subst hw13; exact heap_put g12 _
    have hs13 : ∀ j, j ≠ w5.heap.size → w13.heap[j]? = w12.heap[j]? := by
      intro j hj
      subst hw13
      exact heap_setCell_ne (by rw [add_block]; exact hj)
    have hV13 : VocIs w13 v s T := by subst hw13; exact hV12.put g12 (by decide) (by omega) _
    have t13 : Touch v w w13 := by subst hw13; exact (t11.trans t12).put (by omega) _
    have lg13 : w13.heap[w6.heap.size]? = _ := (hs13 _ (by omega)).trans lg12
    have x13 : w13.heap[w.heap.size]? = _ := (hs13 _ (by omega)).trans x12
    have y13 : w13.heap[w2.heap.size]? = _ := (hs13 _ (by omega)).trans y12
    have hR13 : GridR w13 w5.heap.size (gids s T) (alB s T) (relB s T) ids sl0 al w4.heap.size [] 0 :=
      ⟨g13, own_same o12 fun k hk => hs13 k fun e => row_ne_blk o12 g12 (by decide) (by rw [hk, e]), m12.same (hs13 _ (by omega)), own_none _ _ _ _ encS, rfl, (by intro i r h; cases h), own_same (own_base oal (Nat.zero_le _)) fun k hk => hs13 k fun e => row_ne_blk oal g12 (by decide) (by rw [hk, e])⟩
    refine ⟨ids.a, ids.n, ids.c, cell1 y13, ?_⟩
    intro I2 hI2
    let Inv2 (i : Nat) (q : World) : Prop := ∃ rows rs, GridR q w5.heap.size (gids s T) (alB s T) (relB s T) ids rows al w4.heap.size rs i ∧ q.ownsRow w.heap.size tRow 1 rows.v rows.n (rs.flatMap encS) ∧ VocIs q v s T ∧ Touch v w q ∧ q.heap[w6.heap.size]? = some (.cells #[.pointer (some (nb w5))] 57 (0, 0)) ∧ q.heap[w.heap.size]? = some (.cells #[.pointer (some ⟨v, 0, none⟩)] 31 (0, 0)) ∧ q.heap[w2.heap.size]? = some (.cells #[ids.v] tInts (0, 0))
    have key2 := climb2 (α := World) n Inv2 (fun i q => I2 [.int .i64 (i : Int)] q) w13 ⟨sl0, [], hR13, own_none _ _ _ _ encS, hV13, t13, lg13, x13, y13⟩ ?_ ?_
    · exact key2
    · rintro i hi ih z ⟨rows, rs, hR, orow, hVz, tz, lgz, xz, yz⟩
      have hiG : i < (gids s T).length := by omega
      have zb : w.heap.size < z.heap.size ∧ w2.heap.size < z.heap.size ∧ w6.heap.size < z.heap.size ∧ w5.heap.size < z.heap.size := ⟨(Array.getElem?_eq_some_iff.1 xz).1, (Array.getElem?_eq_some_iff.1 yz).1, (Array.getElem?_eq_some_iff.1 lgz).1, (Array.getElem?_eq_some_iff.1 hR.blk).1⟩
      have hlz := LsAt.of_own elInt hR.oi
      obtain ⟨p, hp, c0⟩ := cell_rw hlz.r hiG rfl
      have hnz := hlz.n
      refine hI2 _ _ (CondP.yes (by simp; omega) (NilC.mk p hp ⟨by omega, by omega, _, c0, ?_⟩))
      intro w15 hw15 w16 hw16
      refine two_boxes hw15 hw16 rfl rfl ?_
      intro w18 bi18 ba18 b18
      have zs15 : z.heap.size < w15.heap.size := by subst hw15; rw [alloc_size]; omega
      intro w19 hw19
      have b19' : Below w18.heap.size w18 w19 := by subst hw19; exact drew_on w18
      have b19 := below_then b18 b19'
      have bi19 := held_on b19' bi18
      have ba19 := held_on b19' ba18
      have hR19 := hR.on b19
      have hV19 := hVz.on b19
      have lg19 := held_on b19 lgz
      have x19 := held_on b19 xz
      have y19 := held_on b19 yz
      have or19 := own_on orow b19
      have t19 : Touch v w w19 := tz.then_off b19 tz.size
      refine ⟨_, cell1 lg19, _, cell1 lg19, NilC.mk _ rfl ⟨rows.a, rows.n, rows.c, by rw [cell_put hR19.blk]; rfl, ids.a, ids.n, ids.c, cell1 y19, ?_⟩⟩
      refine (fill_spec w19 ids.n _ (fun k => relB s T i k) v s T hV19 (by omega) ?_).mono ?_
      · intro k hk q hVq tq
        refine callG_of (by kernel_rfl) ?_
        refine new2_spec q v s T hVq w6.heap.size z.heap.size w.heap.size w15.heap.size w2.heap.size w5.heap.size ids rows al w4.heap.size rs i i k ⟨by omega, by omega, by omega, by omega, by omega⟩ (hR19.touch hV19 tq) hgh hg2 (tq.held (by omega) lg19) (tq.held (by omega) bi19) (tq.held (by omega) x19) (tq.held (by omega) (by rw [getD_of hiG]; exact ba19)) (tq.held (by omega) y19) hiG (by omega)
      rintro e w20 ⟨r, rfl, orw, hV20, t20⟩
      rw [hin, hn] at orw
      have hR20 := hR19.touch hV19 t20
      have lg20 := t20.held (by omega) lg19
      have x20 := t20.held (by omega) x19
      have y20 := t20.held (by omega) y19
      have or20 := hV19.own_touch t20 or19 (by decide)
      refine ⟨r.a, r.n, r.c, rfl, ⟨by rw [cell_put hR20.blk]; rfl, trivial⟩, ⟨cell1 lg20, trivial⟩, ⟨cell1 lg20, trivial⟩, ?_⟩
      intro w21 hw21
      have b21 : Below w20.heap.size w20 w21 := by subst hw21; exact below_alloc _ _
      have lg21 := held_on b21 lg20
      have wb : w.heap.size ≤ w20.heap.size := (t19.trans t20).size
      obtain ⟨rows', w22, hn22, hrun, own22, hB22, hk22⟩ := elRow.push or20 r hw21 rfl wb (by have := (LsAt.of_own elRow or20).n; have := hR.rl; omega) (by decide)
      refine ⟨⟨by rw [cell_put (held_on b21 hR20.blk)]; rfl, trivial⟩, ⟨cell1 lg21, trivial⟩, ⟨cell1 lg21, trivial⟩, rows'.a, rows'.n, rows'.c, w22, hrun, ?_⟩
      have kp : ∀ {k : Nat} {o : Obj}, w20.heap[k]? = some o → rows.v.ownBlock ≠ some k → w22.heap[k]? = some o := fun {k o} h hne => (hk22 k (Array.getElem?_eq_some_iff.1 h).1 hne).trans h
      have lg22 := kp lg20 (row_ne_blk or20 lg20 (by decide))
      have x22 := kp x20 (row_ne_blk or20 x20 (by decide))
      have y22 := kp y20 (row_ne_blk or20 y20 (by decide))
      have g22 := kp hR20.blk (row_ne_blk or20 hR20.blk (by decide))
      have B22 := hB22 w20 (Below.refl _ _)
      have hV22 := hV20.growE B22 hvl or20 (by decide) hk22
      have t22 : Touch v w w22 := (t19.trans t20).then_off B22 (Nat.le_refl _)
      refine ⟨⟨cell1 lg22, trivial⟩, NilC.mk _ rfl ⟨rfl, ⟨_, by rw [cell_put g22]; rfl⟩, frozen_put g22, ?_⟩⟩
      intro w23 hw23
      have hs23 : ∀ j, j ≠ w5.heap.size → w23.heap[j]? = w22.heap[j]? := by
        intro j hj
        subst hw23
        exact heap_setCell_ne (by rw [add_block]; exact hj)
      have same : ∀ {B sz n : Nat} {e : TypeId} {u : Value} {xs : List Value}, w20.ownsRow B e sz u n xs → e ≠ tRow → e ≠ tGrid → w23.ownsRow B e sz u n xs := by
        intro B sz n e u xs h h1 h2
        refine own_same h fun k hk => ?_
        rw [hs23 k fun e => row_ne_blk h hR20.blk h2 (by rw [hk, e])]
        exact hk22 k (own_lt h k hk).2 (row_ne_row h or20 h1 k hk)
      have own23 : w23.ownsRow w.heap.size tRow 1 rows'.v rows'.n ((rs ++ [r]).flatMap encS) := own_same own22 fun k hk => hs23 k fun e => row_ne_blk own22 g22 (by decide) (by rw [hk, e])
      refine Ar.nat (i + 1) rfl (by omega) (ih w23 ⟨rows', rs ++ [r], ?_, own23, ?_, ?_, (hs23 _ (by omega)).trans lg22, (hs23 _ (by omega)).trans x22, (hs23 _ (by omega)).trans y22⟩)
      · refine ⟨by subst hw23; exact heap_put g22 _, same hR20.oi (by decide) (by decide), ?_, own_base own23 (Nat.zero_le _), by have := hR.rl; simp; omega, ?_, same hR20.oal (by decide) (by decide)⟩
        · exact hR20.map.same ((hs23 _ (by omega)).trans (hk22 _ hR20.map.lt (own_ne_map or20 hR20.map)))
        · intro j r' hj
          have hrl := hR.rl
          by_cases h : j < rs.length
          · rw [List.getElem?_append_left h] at hj
            exact same (hR20.each j r' hj) (by decide) (by decide)
          · have hji : j = i := by
              have := (List.getElem?_eq_some_iff.1 hj).1
              simp at this
              omega
            subst hji
            rw [List.getElem?_append_right (by omega), hrl, Nat.sub_self] at hj
            cases hj
            exact same (own_base orw (Nat.zero_le _)) (by decide) (by decide)
      · subst hw23; exact hV22.put g22 (by decide) (by omega) _
      · subst hw23; exact t22.put (by omega) _
    · rintro z ⟨rows, rs, hR, orow, hVz, tz, lgz, xz, yz⟩
      rw [hn] at hR
      refine hI2 _ _ (CondP.no (by simp; omega) ⟨_, cell1 lgz, hVz, tz, ?_⟩)
      rw [if_neg (by have := hm; rw [hn] at *; omega)]
      exact ⟨w5.heap.size, rfl, ⟨ids, rows, al, w4.heap.size, rs, hR⟩, by omega⟩
end Go.Proofs.YtpklkijdlnioaaaGreat.Eng
