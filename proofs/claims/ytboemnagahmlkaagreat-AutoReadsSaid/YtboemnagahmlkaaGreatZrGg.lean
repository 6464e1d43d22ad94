/- The grid of a vocabulary, walked by the engine. -/
import Derived.Test.YtboemnagahmlkaaGreatZrRj
import Derived.Test.YtboemnagahmlkaaGreatZrSp
import Derived.Test.YtboemnagahmlkaaGreatZrTab
set_option linter.unusedVariables false
set_option linter.unusedSimpArgs false
set_option maxRecDepth 100000
namespace Go.Proofs.YtboemnagahmlkaaGreat.Eng
open Go Go.RowKit
theorem valid_spec (w : World) (v : Nat) (s : SpecV) (T : List Ent) (hV : VocIs w v s T) (a b : Int) (ha : (vocOf s T).Has a) (hb : (vocOf s T).Has b) :
  CP 101 #[.pointer (some ⟨v, 0, none⟩), .int .i64 a, .int .i64 b] w fun e w' => e = .returned (.bool (decide ((vocOf s T).Canon [a, b]))) ∧ VocIs w' v s T ∧ Touch v w w' := by
 refine calls_ret (vc101_calls (some ⟨v, 0, none⟩) a b w (fun u w' => u = .bool (decide ((vocOf s T).Canon [a, b])) ∧ VocIs w' v s T ∧ Touch v w w') ?_) (by rintro v w' ⟨rfl, h⟩; exact ⟨rfl, h⟩)
 have parts : ∀ {q : World}, VocIs q v s T → ∃ x tp bp mp, VocParts q s T x tp bp mp ∧ ∃ c, VBlk q v c tp bp mp := by
  rintro q ⟨w0, x, tp, bp, mp, d, l, uses, hR⟩
  exact ⟨x, tp, bp, mp, hR.now, _, hR.vblk⟩
 obtain ⟨x, tp, bp, mp, hP, _⟩ := parts hV
 have hok := voc_ok hP
 have hab : ∀ t ∈ [a] ++ [b], (vocOf s T).Has t := by
  intro t ht
  simp at ht
  rcases ht with rfl | rfl
  ·exact ha
  ·exact hb
 refine (alone_spec w v s T hV a).mono ?_
 rintro e w1 ⟨rfl, hV1, t1⟩
 refine ⟨_, rfl, CondP.mk (fun h1 => ?_) fun h1 => ⟨?_, hV1, t1⟩⟩
 ·have ca := (aloneV_iff hP ha).1 h1
  refine (alone_spec w1 v s T hV1 b).mono ?_
  rintro e w2 ⟨rfl, hV2, t2⟩
  have t12 := t1.trans t2
  refine ⟨_, rfl, CondP.mk (fun h2 => ?_) fun h2 => ⟨?_, hV2, t12⟩⟩
  ·have cb := (aloneV_iff hP hb).1 h2
   obtain ⟨x2, tp2, bp2, mp2, hP2, c2, hB2⟩ := parts hV2
   refine (beside_spec hB2 hP2 a b ha hb ca cb).mono ?_
   rintro e w3 ⟨r, rfl, hr, b3⟩
   refine ⟨r, rfl, ?_, hV2.on b3, t12.trans (Touch.of_below b3)⟩
   have hm := Voc.canon_more hok (init := []) (l := a) (t := b) (fun x hx => by simp at hx; rw [hx]; exact ha) ca hb
   congr 1
   have hm2 : (vocOf s T).Canon [a, b] ↔ (vocOf s T).Canon [b] ∧ (vocOf s T).Pair a b := hm
   cases r with
   | true => exact (decide_eq_true (hm2.2 ⟨cb, hr.1 rfl⟩)).symm
   | false => exact (decide_eq_false fun e => by have := hr.2 (hm2.1 e).2; cases this).symm
  ·rw [decide_eq_false fun e => ?_]
   have := (aloneV_iff hP hb).2 (Voc.canon_append hok (P := [a]) (Q := [b]) hab e).2
   rw [h2] at this
   cases this
 ·rw [decide_eq_false fun e => ?_]
  have := (aloneV_iff hP ha).2 (Voc.canon_append hok (P := [a]) (Q := [b]) hab e).1
  rw [h1] at this
  cases this
abbrev tGrid : TypeId := 111
abbrev tRows : TypeId := 108
theorem undRows : Tryz.prog.underlying tRows = some (.slice tRow) := by kernel_rfl
theorem infoRow : (Tryz.prog.info? tRow).map (fun i => (i.zero, i.size, i.bytes)) = some (some (.slice none 0 0), 1, 24) := by kernel_rfl
def encS (r : Sl) : List Value := [r.v]
theorem elRow : ElT encS 1 tRows tRow 24 := ⟨fun _ => rfl, by decide, fun x u hu => by rw [List.mem_singleton.1 hu]; rfl, undRows, _, infoRow, rfl⟩
def gmap (G : List Int) : List (Int × Value) := G.zipIdx.map fun x => (x.1, .int .i64 (x.2 : Int))
theorem gmap_snoc (G : List Int) (x : Int) : gmap (G ++ [x]) = gmap G ++ [(x, .int .i64 (G.length : Int))] := by simp [gmap, List.zipIdx_append]
theorem look_gmap (G : List Int) (k : Int) : look k (gmap G) = (G.idxOf? k).map fun i : Nat => Value.int .i64 (i : Int) := by
 have := look_zipf (fun x : Int => x) k G 0
 simp only [Nat.zero_add, List.map_id'] at this
 exact this
def alB (s : SpecV) (T : List Ent) (i : Nat) : Bool := decide ((vocOf s T).Canon [(gids s T).getD i 0])
def relB (s : SpecV) (T : List Ent) (i k : Nat) : Bool := decide ((vocOf s T).Canon [(gids s T).getD i 0, (gids s T).getD k 0])
structure GridR (w : World) (g : Nat) (G : List Int) (al : Nat → Bool) (rel : Nat → Nat → Bool) (ids rows alone : Sl) (mb : Nat) (rs : List Sl) (m : Nat) : Prop where
 blk : w.heap[g]? = some (.cells #[ids.v, .map (some mb), rows.v, alone.v] tGrid (0, 0))
 oi : w.ownsRow 0 tInt 1 ids.v ids.n (G.flatMap encInt)
 map : MapIs intKey w mb (gmap G)
 orows : w.ownsRow 0 tRow 1 rows.v rows.n (rs.flatMap encS)
 rl : rs.length = m
 each : ∀ (i : Nat) (r : Sl), rs[i]? = some r → w.ownsRow 0 tU64 1 r.v r.n ((wordsOf G.length (rel i)).flatMap encU64)
 oal : w.ownsRow 0 tU64 1 alone.v alone.n ((wordsOf G.length al).flatMap encU64)
def GridIs (w : World) (g : Nat) (G : List Int) (al : Nat → Bool) (rel : Nat → Nat → Bool) : Prop := ∃ ids rows alone mb rs, GridR w g G al rel ids rows alone mb rs G.length
theorem GridR.on {w w' : World} {g : Nat} {G : List Int} {al : Nat → Bool} {rel : Nat → Nat → Bool} {ids rows alone : Sl} {mb : Nat} {rs : List Sl} {m : Nat} (h : GridR w g G al rel ids rows alone mb rs m) (hb : Below w.heap.size w w') : GridR w' g G al rel ids rows alone mb rs m :=
 ⟨held_on hb h.blk, own_on h.oi hb, h.map.on hb, own_on h.orows hb, h.rl, fun i r hr => own_on (h.each i r hr) hb, own_on h.oal hb⟩
theorem GridIs.on {w w' : World} {g : Nat} {G : List Int} {al : Nat → Bool} {rel : Nat → Nat → Bool} (h : GridIs w g G al rel) (hb : Below w.heap.size w w') : GridIs w' g G al rel := by
 obtain ⟨ids, rows, alone, mb, rs, h⟩ := h
 exact ⟨ids, rows, alone, mb, rs, h.on hb⟩
theorem VocIs.typed {w : World} {v : Nat} {s : SpecV} {T : List Ent} (h : VocIs w v s T) : ∃ c, w.heap[v]? = some (.cells c tVocab (0, 0)) := by
 obtain ⟨w0, x, tp, bp, mp, d, l, uses, hR⟩ := h
 exact ⟨_, hR.blk⟩
theorem VocIs.ne_cells {w : World} {v : Nat} {s : SpecV} {T : List Ent} (h : VocIs w v s T) {k : Nat} {c : Array Value} {e : TypeId} {fz : Nat × Nat} (hk : w.heap[k]? = some (.cells c e fz)) (he : e ≠ tVocab) : k ≠ v := by
 obtain ⟨c', hc⟩ := h.typed
 rintro rfl
 rw [hc] at hk
 cases hk
 exact he rfl
theorem VocIs.ne_map {w : World} {v : Nat} {s : SpecV} {T : List Ent} (h : VocIs w v s T) {κ : Type} [DecidableEq κ] {kv : κ → Value} {r : Nat} {m : List (κ × Value)} (hm : MapIs kv w r m) : r ≠ v := by
 obtain ⟨c', hc⟩ := h.typed
 rintro rfl
 obtain ⟨es, k, hk, _⟩ := hm
 rw [hc] at hk
 cases hk
theorem GridR.touch {w w' : World} {g : Nat} {G : List Int} {al : Nat → Bool} {rel : Nat → Nat → Bool} {ids rows alone : Sl} {mb : Nat} {rs : List Sl} {m : Nat} (h : GridR w g G al rel ids rows alone mb rs m) {v : Nat} {s : SpecV} {T : List Ent} (hV : VocIs w v s T) (t : Touch v w w') : GridR w' g G al rel ids rows alone mb rs m :=
 ⟨t.held (hV.ne_cells h.blk (by decide)) h.blk, hV.own_touch t h.oi (by decide), h.map.same (t.block mb h.map.lt (hV.ne_map h.map)), hV.own_touch t h.orows (by decide), h.rl, fun i r hr => hV.own_touch t (h.each i r hr) (by decide), hV.own_touch t h.oal (by decide)⟩
theorem box_store {w2 w3 : World} {x u : Value} {e : TypeId} (hw : w3 = w2.alloc (.cells #[x] e)) (hu : u.oneCell' = true) {k : World → Prop} (hk : ∀ w4, w4.heap[w2.heap.size]? = some (.cells #[u] e (0, 0)) → Below w2.heap.size w2 w4 → k w4) : u.oneCell' = true ∧ (∃ y, w3.cell? (nb w2) = some y) ∧ w3.frozen? (nb w2) = false ∧ ∀ w4, w4 = w3.setCell (nb w2) u → k w4 :=
 store_one (storeP_new [x] [u] rfl (by intro y hy; rw [List.mem_singleton.1 hy]; exact hu) w3 hw fun w4 h4 _ b4 => hk w4 h4 b4)
theorem cell1 {w : World} {b : Nat} {x : Value} {e : TypeId} {fz : Nat × Nat} (h : w.heap[b]? = some (.cells #[x] e fz)) : w.cell? ⟨b, 0, none⟩ = some x := cell_heap h
theorem getD_of {α : Type} {l : List α} {i : Nat} (h : i < l.length) (d : α) : l.getD i d = l[i] := by simp [List.getD, h]
theorem gids_bound {s : SpecV} {T : List Ent} (h1 : TOk T) (h2 : s.right = true) : 256 ≤ (gids s T).length ∧ (gids s T).length ≤ 1032 := by
 have := h1.most
 have := h1.len
 have := allOk_len (right_parts h2).2.2.2.1
 rw [gids_length]
 omega
theorem Touch.put {v d j : Nat} {a b : World} (t : Touch v a b) (hd : a.heap.size ≤ d) (u : Value) : Touch v a (b.setCell ((⟨d, 0, none⟩ : Addr).add j) u) :=
 ⟨t.os, t.tape, t.output, by rw [size_setCell]; exact t.size, fun k hk hv => by rw [heap_setCell_ne (by rw [add_block]; show k ≠ d; omega)]; exact t.block k hk hv⟩
theorem VocIs.put {w : World} {v d j : Nat} {s : SpecV} {T : List Ent} (h : VocIs w v s T) {c : Array Value} {e : TypeId} (hd : w.heap[d]? = some (.cells c e (0, 0))) (he : tBool ≠ e) (hv : v < d) (u : Value) : VocIs (w.setCell ((⟨d, 0, none⟩ : Addr).add j) u) v s T := by
 obtain ⟨w0, x, tp, bp, mp, q, l, uses, hR⟩ := h
 have hlt := hR.lt
 refine ⟨w0, x, tp, bp, mp, q, l, uses, hR.parts, below_put hR.below (by omega) u, hlt, by rw [heap_setCell_ne (by rw [add_block]; show v ≠ d; omega)]; exact hR.blk, ?_⟩
 rcases hR.once with h | ⟨h1, h2, h3⟩
 ·exact .inl h
 ·exact .inr ⟨h1, h2, own_setCell h3 u (by rw [add_block]; exact row_ne_blk h3 hd he)⟩
theorem VocIs.growE {w w' : World} {v : Nat} {s : SpecV} {T : List Ent} (h : VocIs w v s T) {B : Nat} (hb : Below B w w') (hv : v < B) {B' n sz : Nat} {e : TypeId} {u : Value} {xs : List Value} (ho : w.ownsRow B' e sz u n xs) (he : tBool ≠ e) (hk : ∀ k, k < w.heap.size → u.ownBlock ≠ some k → w'.heap[k]? = w.heap[k]?) : VocIs w' v s T := by
 obtain ⟨w0, x, tp, bp, mp, d, l, uses, hR⟩ := h
 have hlt := hR.lt
 refine ⟨w0, x, tp, bp, mp, d, l, uses, hR.parts, hR.below.trans (hb.mono (by omega)), hlt, by rw [hb.block v hv]; exact hR.blk, ?_⟩
 rcases hR.once with h | ⟨h1, h2, h3⟩
 ·exact .inl h
 ·exact .inr ⟨h1, h2, own_same h3 fun k hk3 => hk k (own_lt h3 k hk3).2 (row_ne_row h3 ho he k hk3)⟩
theorem alone_dec (w : World) (v : Nat) (s : SpecV) (T : List Ent) (hV : VocIs w v s T) (t : Int) (ht : (vocOf s T).Has t) :
  CP 99 #[.pointer (some ⟨v, 0, none⟩), .int .i64 t] w fun e w' => e = .returned (.bool (decide ((vocOf s T).Canon [t]))) ∧ VocIs w' v s T ∧ Touch v w w' := by
 have hP : ∃ x tp bp mp, VocParts w s T x tp bp mp := by
  obtain ⟨w0, x, tp, bp, mp, d, l, uses, hR⟩ := hV
  exact ⟨x, tp, bp, mp, hR.now⟩
 obtain ⟨x, tp, bp, mp, hP⟩ := hP
 refine (alone_spec w v s T hV t).mono ?_
 rintro e w1 ⟨rfl, h⟩
 refine ⟨?_, h⟩
 congr 2
 have := aloneV_iff hP ht
 cases ha : aloneV s T t with
 | true => exact (decide_eq_true (this.1 ha)).symm
 | false => exact (decide_eq_false fun e => by rw [this.2 e] at ha; cases ha).symm
theorem new1_spec (w : World) (v : Nat) (s : SpecV) (T : List Ent) (hV : VocIs w v s T) (b0 b1 : Nat) {e0 e1 : TypeId} (ids : Sl) (G : List Int) (h0 : w.heap[b0]? = some (.cells #[.pointer (some ⟨v, 0, none⟩)] e0 (0, 0))) (h1 : w.heap[b1]? = some (.cells #[ids.v] e1 (0, 0))) (oi : w.ownsRow 0 tInt 1 ids.v ids.n (G.flatMap encInt)) (hG : ∀ t ∈ G, (vocOf s T).Has t) (i : Nat) (hi : i < G.length) :
  CP 98 #[.int .i64 (i : Int), .pointer (some ⟨b0, 0, none⟩), .pointer (some ⟨b1, 0, none⟩)] w fun e w' => e = .returned (.bool (decide ((vocOf s T).Canon [G.getD i 0]))) ∧ VocIs w' v s T ∧ Touch v w w' := by
 refine calls_ret (vc98_calls i (some ⟨b0, 0, none⟩) (some ⟨b1, 0, none⟩) w (fun u w' => u = .bool (decide ((vocOf s T).Canon [G.getD i 0])) ∧ VocIs w' v s T ∧ Touch v w w') ?_) (by rintro v w' ⟨rfl, h⟩; exact ⟨rfl, h⟩)
 intro w1 hw1
 have b1' : Below w.heap.size w w1 := by subst hw1; exact drew_on w
 have hls := LsAt.of_own elInt (own_on oi b1')
 have hn := hls.n
 obtain ⟨p, hp, c0⟩ := cell_rw hls.r hi rfl
 refine NilC.mk _ rfl ⟨_, cell1 (held_on b1' h0), NilC.mk _ rfl ⟨ids.a, ids.n, ids.c, cell1 (held_on b1' h1), NilC.mk p hp ⟨by omega, by omega, _, c0, ?_⟩⟩⟩
 refine (alone_dec w1 v s T (hV.on b1') G[i] (hG _ (List.getElem_mem hi))).mono ?_
 rintro e w2 ⟨rfl, hV2, t2⟩
 refine ⟨_, rfl, ?_, hV2, (Touch.of_below b1').trans t2⟩
 rw [getD_of hi]
theorem new2_spec (w : World) (v : Nat) (s : SpecV) (T : List Ent) (hV : VocIs w v s T) (cg ci cv ca cids : Nat) {eg ei ev ea ed : TypeId} (g : Nat) (ids rows alone : Sl) (mb : Nat) (rs : List Sl) (m i k : Nat) (hb : v < cg ∧ v < ci ∧ v < cv ∧ v < ca ∧ v < cids)
  (hR : GridR w g (gids s T) (alB s T) (relB s T) ids rows alone mb rs m) (hgh : ∀ t ∈ gids s T, (vocOf s T).Has t) (hgl : (gids s T).length ≤ 1032)
  (h0 : w.heap[cg]? = some (.cells #[.pointer (some ⟨g, 0, none⟩)] eg (0, 0))) (h1 : w.heap[ci]? = some (.cells #[.int .i64 (i : Int)] ei (0, 0))) (h2 : w.heap[cv]? = some (.cells #[.pointer (some ⟨v, 0, none⟩)] ev (0, 0))) (h3 : w.heap[ca]? = some (.cells #[.int .i64 ((gids s T).getD i 0)] ea (0, 0))) (h4 : w.heap[cids]? = some (.cells #[ids.v] ed (0, 0)))
  (hi : i < (gids s T).length) (hk : k < (gids s T).length) :
  CP 100 #[.int .i64 (k : Int), .pointer (some ⟨cg, 0, none⟩), .pointer (some ⟨ci, 0, none⟩), .pointer (some ⟨cv, 0, none⟩), .pointer (some ⟨ca, 0, none⟩), .pointer (some ⟨cids, 0, none⟩)] w fun e w' => e = .returned (.bool (relB s T i k)) ∧ VocIs w' v s T ∧ Touch v w w' := by
 refine calls_ret (vc100_calls k (some ⟨cg, 0, none⟩) (some ⟨ci, 0, none⟩) (some ⟨cv, 0, none⟩) (some ⟨ca, 0, none⟩) (some ⟨cids, 0, none⟩) w (fun u w' => u = .bool (relB s T i k) ∧ VocIs w' v s T ∧ Touch v w w') ?_) (by rintro v w' ⟨rfl, h⟩; exact ⟨rfl, h⟩)
 have hP : ∃ x tp bp mp, VocParts w s T x tp bp mp := by
  obtain ⟨w0, x, tp, bp, mp, d, l, uses, hR⟩ := hV
  exact ⟨x, tp, bp, mp, hR.now⟩
 obtain ⟨x, tp, bp, mp, hP⟩ := hP
 have hok := voc_ok hP
 have hA : (vocOf s T).Has ((gids s T).getD i 0) := by rw [getD_of hi]; exact hgh _ (List.getElem_mem hi)
 have hB : (vocOf s T).Has ((gids s T).getD k 0) := by rw [getD_of hk]; exact hgh _ (List.getElem_mem hk)
 have hpair : relB s T i k = true → alB s T i = true ∧ alB s T k = true := by
  intro h
  have := Voc.canon_append hok (P := [(gids s T).getD i 0]) (Q := [(gids s T).getD k 0]) (by
   intro t ht
   simp only [List.cons_append, List.nil_append, List.mem_cons, List.not_mem_nil, or_false] at ht
   rcases ht with rfl | rfl
   ·exact hA
   ·exact hB) (of_decide_eq_true h)
  exact ⟨decide_eq_true this.1, decide_eq_true this.2⟩
 intro w1 hw1
 have b1' : Below w.heap.size w w1 := by subst hw1; exact drew_on w
 have t1 : Touch v w w1 := Touch.of_below b1'
 have hR1 := hR.on b1'
 have hV1 := hV.on b1'
 have al1 := LsAt.of_own elU64 hR1.oal
 refine NilC.mk _ rfl ⟨_, cell1 (held_on b1' h0), NilC.mk _ rfl ⟨alone.a, alone.n, alone.c, by rw [cell_put hR1.blk]; rfl, NilC.mk _ rfl ⟨_, cell1 (held_on b1' h1), ?_⟩⟩⟩
 refine (rowHas_spec w1 alone.a alone.n alone.c _ (alB s T) al1.r al1.n (by omega) i hi).mono ?_
 rintro e w2 ⟨rfl, hw2⟩
 rw [hw2]
 refine ⟨_, rfl, CondP.mk (fun ha => ?_) fun ha => ⟨?_, hV1, t1⟩⟩
 ·refine NilC.mk _ rfl ⟨_, cell1 (held_on b1' h0), NilC.mk _ rfl ⟨alone.a, alone.n, alone.c, by rw [cell_put hR1.blk]; rfl, ?_⟩⟩
  refine (rowHas_spec w1 alone.a alone.n alone.c _ (alB s T) al1.r al1.n (by omega) k hk).mono ?_
  rintro e w3 ⟨rfl, hw3⟩
  rw [hw3]
  refine ⟨_, rfl, CondP.mk (fun hb => ?_) fun hb => ⟨?_, hV1, t1⟩⟩
  ·have hls := LsAt.of_own elInt hR1.oi
   have hn := hls.n
   obtain ⟨p, hp, c0⟩ := cell_rw hls.r hk rfl
   refine NilC.mk _ rfl ⟨_, cell1 (held_on b1' h2), NilC.mk _ rfl ⟨_, cell1 (held_on b1' h3), NilC.mk _ rfl ⟨ids.a, ids.n, ids.c, cell1 (held_on b1' h4), NilC.mk p hp ⟨by omega, by omega, _, c0, ?_⟩⟩⟩⟩
   rw [← getD_of hk 0]
   refine (valid_spec w1 v s T hV1 _ _ hA hB).mono ?_
   rintro e w4 ⟨rfl, hV4, t4⟩
   exact ⟨_, rfl, rfl, hV4, t1.trans t4⟩
  ·cases hr : relB s T i k with
   | false => rfl
   | true => rw [(hpair hr).2] at hb; cases hb
 ·cases hr : relB s T i k with
  | false => rfl
  | true => rw [(hpair hr).1] at ha; cases ha
theorem own_ne_map {w : World} {B : Nat} {e : TypeId} {sz n : Nat} {u : Value} {xs : List Value} (h : w.ownsRow B e sz u n xs) {κ : Type} [DecidableEq κ] {kv : κ → Value} {r : Nat} {m : List (κ × Value)} (hm : MapIs kv w r m) : u.ownBlock ≠ some r := by
 obtain ⟨es, k, hk, _⟩ := hm
 intro hb
 rcases h.2 with ⟨rfl, _⟩ | ⟨g, cap, cur, rfl, _, hg, _⟩
 ·cases hb
 ·cases hb
  rw [hk] at hg
  cases hg
theorem two_boxes {q w1 w2 : World} {x y u z : Value} {e e' : TypeId} (h1 : w1 = q.alloc (.cells #[x] e)) (h2 : w2 = w1.alloc (.cells #[y] e')) (hu : u.oneCell' = true) (hz : z.oneCell' = true) {k : World → Prop} (hk : ∀ w4, w4.heap[q.heap.size]? = some (.cells #[u] e (0, 0)) → w4.heap[w1.heap.size]? = some (.cells #[z] e' (0, 0)) → Below q.heap.size q w4 → k w4) :
  u.oneCell' = true ∧ (∃ a, w2.cell? (nb q) = some a) ∧ w2.frozen? (nb q) = false ∧ ∀ w3, w3 = w2.setCell (nb q) u → z.oneCell' = true ∧ (∃ a, w3.cell? (nb w1) = some a) ∧ w3.frozen? (nb w1) = false ∧ ∀ w4, w4 = w3.setCell (nb w1) z → k w4 := by
 have b1 : Below q.heap.size q w1 := by subst h1; exact below_alloc _ _
 have a1 : w1.heap[q.heap.size]? = some (.cells #[x] e (0, 0)) := by subst h1; exact alloc_new _ _
 have b2 : Below w1.heap.size w1 w2 := by subst h2; exact below_alloc _ _
 have a2 : w2.heap[w1.heap.size]? = some (.cells #[y] e' (0, 0)) := by subst h2; exact alloc_new _ _
 have a12 := held_on b2 a1
 have hlt : q.heap.size < w1.heap.size := (Array.getElem?_eq_some_iff.1 a1).1
 have b02 := below_then b1 b2
 refine ⟨hu, ⟨_, cell_heap a12⟩, frozen_heap a12, ?_⟩
 intro w3 h3
 have a13 : w3.heap[q.heap.size]? = some (.cells #[u] e (0, 0)) := by subst h3; exact setCell_heap a12 u
 have a23 : w3.heap[w1.heap.size]? = some (.cells #[y] e' (0, 0)) := by subst h3; rw [heap_setCell_ne (by show w1.heap.size ≠ q.heap.size; omega)]; exact a2
 have b03 : Below q.heap.size q w3 := by subst h3; exact b02.setCell (p := nb q) (Nat.le_refl _) u
 refine ⟨hz, ⟨_, cell_heap a23⟩, frozen_heap a23, ?_⟩
 intro w4 h4
 refine hk w4 ?_ ?_ ?_
 ·subst h4; rw [heap_setCell_ne (by show q.heap.size ≠ w1.heap.size; omega)]; exact a13
 ·subst h4; exact setCell_heap a23 z
 ·subst h4; exact b03.setCell (p := nb w1) (Nat.le_of_lt hlt) z
def NewGR (w : World) (v : Nat) (s : SpecV) (T : List Ent) (most : Int) (u : Value) (w' : World) : Prop := VocIs w' v s T ∧ Touch v w w' ∧ (if (((gids s T).length * (gids s T).length : Nat) : Int) > most then u = .tuple #[.pointer none, .int .i64 5] else ∃ g, u = .tuple #[.pointer (some ⟨g, 0, none⟩), .int .i64 0] ∧ GridIs w' g (gids s T) (alB s T) (relB s T) ∧ w.heap.size ≤ g)
set_option maxHeartbeats 2000000 in
theorem gridNew_spec (w : World) (v : Nat) (s : SpecV) (T : List Ent) (hV : VocIs w v s T) (hasc : (s.specials.map (·.1)).Pairwise (· < ·)) (most : Int) :
  CP 61 #[.pointer (some ⟨v, 0, none⟩), .int .i64 most] w fun e w' => ∃ u, e = .returned u ∧ NewGR w v s T most u w' := by
 refine vc61_calls (some ⟨v, 0, none⟩) most w (NewGR w v s T most) ?_
 have hgb : 256 ≤ (gids s T).length ∧ (gids s T).length ≤ 1032 ∧ (∀ t ∈ gids s T, (vocOf s T).Has t) ∧ (gids s T).Pairwise (· < ·) := by
  obtain ⟨w0, x, tp, bp, mp, d, l, uses, hR⟩ := hV
  have hP := hR.now
  exact ⟨(gids_bound hP.ok hP.right).1, (gids_bound hP.ok hP.right).2, fun t ht => (has_iff hP t).1 ((gids_has s T t).1 ht), gids_rising hasc hP.ids⟩
 obtain ⟨hg1, hg2, hgh, hgr⟩ := hgb
 intro w1 hw1
 have b1 : Below w.heap.size w w1 := by subst hw1; exact below_alloc _ _
 have l1 : w1.heap[w.heap.size]? = some (.cells #[.pointer (some ⟨v, 0, none⟩)] 31 (0, 0)) := by subst hw1; exact alloc_new _ _
 refine ⟨_, cell1 l1, ?_⟩
 have hV1 := hV.on b1
 refine (vocIds_spec w1 v s T hV1 hasc).mono ?_
 rintro e w2 ⟨ids, rfl, oids, b2⟩
 refine ⟨_, _, _, rfl, ?_⟩
 intro w3 hw3
 refine box_store hw3 rfl ?_
 intro w4 l4 b4
 have b24 := below_then b2 b4
 have b14 := below_then b1 b24
 have oids4 := own_base (own_on oids b4) (Nat.zero_le _)
 have hin := (LsAt.of_own elInt oids4).n
 have l14 := held_on b24 l1
 have hV4 := hV.on b14
 refine ⟨_, cell1 l14, CondP.no rfl ⟨ids.a, ids.n, ids.c, cell1 l4, ids.a, ids.n, ids.c, cell1 l4, Ar.nat ((gids s T).length * (gids s T).length) (by rw [hin]; simp) (by
  have : (gids s T).length * (gids s T).length ≤ 1032 * 1032 := Nat.mul_le_mul hg2 hg2
  omega) (CondP.mk (fun hm => ⟨hV4, Touch.of_below b14, ?_⟩) fun hm => ?_)⟩⟩
 ·rw [if_pos (of_decide_eq_true hm)]
 have hm := of_decide_eq_false hm
 obtain ⟨G, hG⟩ : ∃ G, G = gids s T := ⟨_, rfl⟩
 rw [← hG] at oids4 hin hg1 hg2 hgh hgr hm
 obtain ⟨n, hn⟩ : ∃ n, n = G.length := ⟨_, rfl⟩
 rw [← hn] at hin
 refine ⟨ids.a, ids.n, ids.c, cell1 l4, _, _, run_make _, ?_⟩
 have b5 := below_alloc w4 (.map #[] 0)
 have m5 : MapIs intKey (w4.alloc (.map #[] 0)) w4.heap.size (gmap []) := map_new w4
 obtain ⟨w5, hw5⟩ : ∃ w5, w5 = w4.alloc (.map #[] 0) := ⟨_, rfl⟩
 rw [← hw5] at b5 m5
 rw [← hw5]
 intro w6 hw6 w7 hw7
 have b6 : Below w5.heap.size w5 w6 := by subst hw6; exact below_alloc _ _
 have g6 : w6.heap[w5.heap.size]? = some (.cells #[ids.v, .map (some w4.heap.size), sl0.v, sl0.v] tGrid (0, 0)) := by subst hw6; exact alloc_new _ _
 refine box_store hw7 rfl ?_
 intro w8 l8 b8
 have b58 := below_then b6 b8
 have b48 := below_then b5 b58
 have b08 := below_then b14 b48
 have hz4 := b14.size
 have hz5 := b5.size
 have lt4 : w4.heap.size < w5.heap.size := m5.lt
 have lt6 : w5.heap.size < w6.heap.size := (Array.getElem?_eq_some_iff.1 g6).1
 have lt8 : w6.heap.size < w8.heap.size := (Array.getElem?_eq_some_iff.1 l8).1
 have lt2 : w2.heap.size < w4.heap.size := (Array.getElem?_eq_some_iff.1 l4).1
 have lt1 : w.heap.size < w4.heap.size := (Array.getElem?_eq_some_iff.1 l14).1
 have hvl := hV.lt
 have boxes : ∀ {q : World}, Below (w4.heap.size) w8 q → q.heap[w.heap.size]? = some (.cells #[.pointer (some ⟨v, 0, none⟩)] 31 (0, 0)) ∧ q.heap[w2.heap.size]? = some (.cells #[ids.v] tInts (0, 0)) := by
  intro q hq
  exact ⟨Below.keeps hq lt1 (held_on b48 l14), Below.keeps hq lt2 (held_on b48 l4)⟩
 refine ⟨ids.a, ids.n, ids.c, cell1 (held_on b48 l4), ?_⟩
 have oids8 := own_on oids4 b48
 have idsLt : ∀ k, ids.v.ownBlock = some k → k < w4.heap.size := fun k hk => (own_lt oids4 k hk).2
 intro I hI
 let Inv (i : Nat) (q : World) : Prop := MapIs intKey q w4.heap.size (gmap (G.take i)) ∧ (∀ j, j ≠ w4.heap.size → q.heap[j]? = w8.heap[j]?) ∧ q.heap.size = w8.heap.size ∧ Below w4.heap.size w4 q
 have key := climb2 (α := World) n Inv (fun i q => I [.int .i64 (i : Int)] q) w8 ⟨by rw [List.take_zero]; exact m5.on b58, fun _ _ => rfl, rfl, b48⟩ ?_ ?_
 ·exact key
 ·rintro i hi ih q ⟨hmap, hs, hz, hB⟩
  have hiG : i < G.length := by omega
  have oq : q.ownsRow 0 tInt 1 ids.v ids.n (G.flatMap encInt) := own_same oids8 fun k hk => hs k (by have := idsLt k hk; omega)
  obtain ⟨p, hp, c0⟩ := cell_rw (LsAt.of_own elInt oq).r hiG rfl
  have hlook : look G[i] (gmap (G.take i)) = none := by
   rw [look_gmap, List.idxOf?_eq_none_iff.2]
   ·rfl
   ·intro hmem
    obtain ⟨j, hj, e⟩ := List.mem_take_iff_getElem.1 hmem
    have := List.pairwise_iff_getElem.1 hgr j i (by omega) hiG (by omega)
    omega
  obtain ⟨q', hr', hm', hs', hz', hB'⟩ := run_put_new keysI undMapI hmap G[i] (.int .i64 (i : Int)) hlook
  refine hI _ _ (CondP.yes (by simp; omega) (NilC.mk p hp ⟨by omega, by omega, _, c0, _, cell1 (by rw [hs w6.heap.size (by omega)]; exact l8), NilC.mk _ rfl ⟨_, ptr_add0 _ _ (by rw [hs w5.heap.size (by omega)]; exact held_on b8 g6) 1, q', hr', Ar.nat (i + 1) rfl (by omega) (ih q' ⟨?_, fun j hj => by rw [hs' j hj, hs j hj], by rw [hz', hz], hB' _ _ (Nat.le_refl _) hB⟩)⟩⟩))
  have e : gmap (G.take (i + 1)) = gmap (G.take i) ++ [(G[i], .int .i64 (i : Int))] := by
   rw [List.take_add_one, List.getElem?_eq_getElem hiG]
   have := gmap_snoc (G.take i) G[i]
   rw [List.length_take, Nat.min_eq_left (by omega)] at this
   exact this
  rw [e]
  exact hm'
 ·rintro q ⟨hmap, hs, hz, hB⟩
  rw [List.take_of_length_le (by omega)] at hmap
  refine hI _ _ (CondP.no (by simp; omega) ?_)
  intro w11 hw11
  have b11 : Below q.heap.size q w11 := by subst hw11; exact drew_on q
  have hq8 : Below w4.heap.size w8 q := ⟨by rw [hB.os, ← b48.os], by rw [hB.tape, ← b48.tape], by rw [hB.output, ← b48.output], by rw [hz]; exact Nat.le_refl _, fun k hk => hs k (by omega)⟩
  have hq8' : Below w4.heap.size w8 w11 := hq8.trans (b11.mono (by have := hq8.size; omega))
  have hV11 : VocIs w11 v s T := (hV4.on b5 |> fun h5 => (hV4.on ⟨hB.os, hB.tape, hB.output, hB.size, hB.block⟩)).on b11
  have t11 : Touch v w w11 := (Touch.of_below b14).trans (Touch.of_below (hB.trans (b11.mono hB.size)))
  have g11 := held_on b11 (show q.heap[w5.heap.size]? = some (.cells #[ids.v, .map (some w4.heap.size), sl0.v, sl0.v] tGrid (0, 0)) by rw [hs _ (by omega)]; exact held_on b8 g6)
  have lg11 := held_on b11 (show q.heap[w6.heap.size]? = _ by rw [hs _ (by omega)]; exact l8)
  have bx11 := boxes hq8'
  have m11 := hmap.on b11
  have o11 : w11.ownsRow 0 tInt 1 ids.v ids.n (G.flatMap encInt) := own_on (own_same oids8 fun k hk => hs k (by have := idsLt k hk; omega)) b11
  subst hG
  have bxL : w.heap.size < w11.heap.size ∧ w2.heap.size < w11.heap.size ∧ w6.heap.size < w11.heap.size ∧ w5.heap.size < w11.heap.size := ⟨(Array.getElem?_eq_some_iff.1 bx11.1).1, (Array.getElem?_eq_some_iff.1 bx11.2).1, (Array.getElem?_eq_some_iff.1 lg11).1, (Array.getElem?_eq_some_iff.1 g11).1⟩
  have sz2 : w.heap.size ≤ w2.heap.size := Nat.le_trans b1.size b2.size
  refine ⟨_, cell1 lg11, ids.a, ids.n, ids.c, cell1 bx11.2, ?_⟩
  refine (fill_spec w11 ids.n _ (fun i => alB s T i) v s T hV11 (by omega) ?_).mono ?_
  ·intro i hi q hVq tq
   refine callG_of (by kernel_rfl) ?_
   exact new1_spec q v s T hVq w.heap.size w2.heap.size ids (gids s T) (tq.held (by omega) bx11.1) (tq.held (by omega) bx11.2) (hV11.own_touch tq o11 (by decide)) hgh i (by omega)
  rintro e w12 ⟨al, rfl, oal, hV12, t12⟩
  rw [hin, hn] at oal
  have lg12 := t12.held (by omega) lg11
  have g12 := t12.held (by omega) g11
  have x12 := t12.held (by omega) bx11.1
  have y12 := t12.held (by omega) bx11.2
  have o12 := hV11.own_touch t12 o11 (by decide)
  have m12 := m11.same (t12.block _ m11.lt (by omega))
  refine ⟨al.a, al.n, al.c, rfl, ⟨cell1 lg12, trivial⟩, NilC.mk _ rfl ⟨rfl, ⟨_, by rw [cell_put g12]; rfl⟩, frozen_put g12, ?_⟩⟩
  intro w13 hw13
  have g13 : w13.heap[w5.heap.size]? = some (.cells #[ids.v, .map (some w4.heap.size), sl0.v, al.v] tGrid (0, 0)) := by subst hw13; exact heap_put g12 _
  have hs13 : ∀ j, j ≠ w5.heap.size → w13.heap[j]? = w12.heap[j]? := by
   intro j hj
   subst hw13
   exact heap_setCell_ne (by rw [add_block]; exact hj)
  have hV13 : VocIs w13 v s T := by subst hw13; exact hV12.put g12 (by decide) (by omega) _
  have t13 : Touch v w w13 := by subst hw13; exact (t11.trans t12).put (by omega) _
  have lg13 : w13.heap[w6.heap.size]? = _ := (hs13 _ (by omega)).trans lg12
  have x13 : w13.heap[w.heap.size]? = _ := (hs13 _ (by omega)).trans x12
  have y13 : w13.heap[w2.heap.size]? = _ := (hs13 _ (by omega)).trans y12
  have hR13 : GridR w13 w5.heap.size (gids s T) (alB s T) (relB s T) ids sl0 al w4.heap.size [] 0 :=
   ⟨g13, own_same o12 fun k hk => hs13 k fun e => row_ne_blk o12 g12 (by decide) (by rw [hk, e]), m12.same (hs13 _ (by omega)), own_none _ _ _ _ encS, rfl, (by intro i r h; cases h), own_same (own_base oal (Nat.zero_le _)) fun k hk => hs13 k fun e => row_ne_blk oal g12 (by decide) (by rw [hk, e])⟩
  refine ⟨ids.a, ids.n, ids.c, cell1 y13, ?_⟩
  intro I2 hI2
  let Inv2 (i : Nat) (q : World) : Prop := ∃ rows rs, GridR q w5.heap.size (gids s T) (alB s T) (relB s T) ids rows al w4.heap.size rs i ∧ q.ownsRow w.heap.size tRow 1 rows.v rows.n (rs.flatMap encS) ∧ VocIs q v s T ∧ Touch v w q ∧ q.heap[w6.heap.size]? = some (.cells #[.pointer (some (nb w5))] 48 (0, 0)) ∧ q.heap[w.heap.size]? = some (.cells #[.pointer (some ⟨v, 0, none⟩)] 31 (0, 0)) ∧ q.heap[w2.heap.size]? = some (.cells #[ids.v] tInts (0, 0))
  have key2 := climb2 (α := World) n Inv2 (fun i q => I2 [.int .i64 (i : Int)] q) w13 ⟨sl0, [], hR13, own_none _ _ _ _ encS, hV13, t13, lg13, x13, y13⟩ ?_ ?_
  ·exact key2
  ·rintro i hi ih z ⟨rows, rs, hR, orow, hVz, tz, lgz, xz, yz⟩
   have hiG : i < (gids s T).length := by omega
   have zb : w.heap.size < z.heap.size ∧ w2.heap.size < z.heap.size ∧ w6.heap.size < z.heap.size ∧ w5.heap.size < z.heap.size := ⟨(Array.getElem?_eq_some_iff.1 xz).1, (Array.getElem?_eq_some_iff.1 yz).1, (Array.getElem?_eq_some_iff.1 lgz).1, (Array.getElem?_eq_some_iff.1 hR.blk).1⟩
   have hlz := LsAt.of_own elInt hR.oi
   obtain ⟨p, hp, c0⟩ := cell_rw hlz.r hiG rfl
   have hnz := hlz.n
   refine hI2 _ _ (CondP.yes (by simp; omega) (NilC.mk p hp ⟨by omega, by omega, _, c0, ?_⟩))
   intro w15 hw15 w16 hw16
   refine two_boxes hw15 hw16 rfl rfl ?_
   intro w18 bi18 ba18 b18
   have zs15 : z.heap.size < w15.heap.size := by subst hw15; rw [alloc_size]; omega
   intro w19 hw19
   have b19' : Below w18.heap.size w18 w19 := by subst hw19; exact drew_on w18
   have b19 := below_then b18 b19'
   have bi19 := held_on b19' bi18
   have ba19 := held_on b19' ba18
   have hR19 := hR.on b19
   have hV19 := hVz.on b19
   have lg19 := held_on b19 lgz
   have x19 := held_on b19 xz
   have y19 := held_on b19 yz
   have or19 := own_on orow b19
   have t19 : Touch v w w19 := tz.then_off b19 tz.size
   refine ⟨_, cell1 lg19, _, cell1 lg19, NilC.mk _ rfl ⟨rows.a, rows.n, rows.c, by rw [cell_put hR19.blk]; rfl, ids.a, ids.n, ids.c, cell1 y19, ?_⟩⟩
   refine (fill_spec w19 ids.n _ (fun k => relB s T i k) v s T hV19 (by omega) ?_).mono ?_
   ·intro k hk q hVq tq
    refine callG_of (by kernel_rfl) ?_
    refine new2_spec q v s T hVq w6.heap.size z.heap.size w.heap.size w15.heap.size w2.heap.size w5.heap.size ids rows al w4.heap.size rs i i k ⟨by omega, by omega, by omega, by omega, by omega⟩ (hR19.touch hV19 tq) hgh hg2 (tq.held (by omega) lg19) (tq.held (by omega) bi19) (tq.held (by omega) x19) (tq.held (by omega) (by rw [getD_of hiG]; exact ba19)) (tq.held (by omega) y19) hiG (by omega)
   rintro e w20 ⟨r, rfl, orw, hV20, t20⟩
   rw [hin, hn] at orw
   have hR20 := hR19.touch hV19 t20
   have lg20 := t20.held (by omega) lg19
   have x20 := t20.held (by omega) x19
   have y20 := t20.held (by omega) y19
   have or20 := hV19.own_touch t20 or19 (by decide)
   refine ⟨r.a, r.n, r.c, rfl, ⟨by rw [cell_put hR20.blk]; rfl, trivial⟩, ⟨cell1 lg20, trivial⟩, ⟨cell1 lg20, trivial⟩, ?_⟩
   intro w21 hw21
   have b21 : Below w20.heap.size w20 w21 := by subst hw21; exact below_alloc _ _
   have lg21 := held_on b21 lg20
   have wb : w.heap.size ≤ w20.heap.size := (t19.trans t20).size
   obtain ⟨rows', w22, hn22, hrun, own22, hB22, hk22⟩ := elRow.push or20 r hw21 rfl wb (by have := (LsAt.of_own elRow or20).n; have := hR.rl; omega) (by decide)
   refine ⟨⟨by rw [cell_put (held_on b21 hR20.blk)]; rfl, trivial⟩, ⟨cell1 lg21, trivial⟩, ⟨cell1 lg21, trivial⟩, rows'.a, rows'.n, rows'.c, w22, hrun, ?_⟩
   have kp : ∀ {k : Nat} {o : Obj}, w20.heap[k]? = some o → rows.v.ownBlock ≠ some k → w22.heap[k]? = some o := fun {k o} h hne => (hk22 k (Array.getElem?_eq_some_iff.1 h).1 hne).trans h
   have lg22 := kp lg20 (row_ne_blk or20 lg20 (by decide))
   have x22 := kp x20 (row_ne_blk or20 x20 (by decide))
   have y22 := kp y20 (row_ne_blk or20 y20 (by decide))
   have g22 := kp hR20.blk (row_ne_blk or20 hR20.blk (by decide))
   have B22 := hB22 w20 (Below.refl _ _)
   have hV22 := hV20.growE B22 hvl or20 (by decide) hk22
   have t22 : Touch v w w22 := (t19.trans t20).then_off B22 (Nat.le_refl _)
   refine ⟨⟨cell1 lg22, trivial⟩, NilC.mk _ rfl ⟨rfl, ⟨_, by rw [cell_put g22]; rfl⟩, frozen_put g22, ?_⟩⟩
   intro w23 hw23
   have hs23 : ∀ j, j ≠ w5.heap.size → w23.heap[j]? = w22.heap[j]? := by
    intro j hj
    subst hw23
    exact heap_setCell_ne (by rw [add_block]; exact hj)
   have same : ∀ {B sz n : Nat} {e : TypeId} {u : Value} {xs : List Value}, w20.ownsRow B e sz u n xs → e ≠ tRow → e ≠ tGrid → w23.ownsRow B e sz u n xs := by
    intro B sz n e u xs h h1 h2
    refine own_same h fun k hk => ?_
    rw [hs23 k fun e => row_ne_blk h hR20.blk h2 (by rw [hk, e])]
    exact hk22 k (own_lt h k hk).2 (row_ne_row h or20 h1 k hk)
   have own23 : w23.ownsRow w.heap.size tRow 1 rows'.v rows'.n ((rs ++ [r]).flatMap encS) := own_same own22 fun k hk => hs23 k fun e => row_ne_blk own22 g22 (by decide) (by rw [hk, e])
   refine Ar.nat (i + 1) rfl (by omega) (ih w23 ⟨rows', rs ++ [r], ?_, own23, ?_, ?_, (hs23 _ (by omega)).trans lg22, (hs23 _ (by omega)).trans x22, (hs23 _ (by omega)).trans y22⟩)
   ·refine ⟨by subst hw23; exact heap_put g22 _, same hR20.oi (by decide) (by decide), ?_, own_base own23 (Nat.zero_le _), by have := hR.rl; simp; omega, ?_, same hR20.oal (by decide) (by decide)⟩
    ·exact hR20.map.same ((hs23 _ (by omega)).trans (hk22 _ hR20.map.lt (own_ne_map or20 hR20.map)))
    ·intro j r' hj
     have hrl := hR.rl
     by_cases h : j < rs.length
     ·rw [List.getElem?_append_left h] at hj
      exact same (hR20.each j r' hj) (by decide) (by decide)
     ·have hji : j = i := by
       have := (List.getElem?_eq_some_iff.1 hj).1
       simp at this
       omega
      subst hji
      rw [List.getElem?_append_right (by omega), hrl, Nat.sub_self] at hj
      cases hj
      exact same (own_base orw (Nat.zero_le _)) (by decide) (by decide)
   ·subst hw23; exact hV22.put g22 (by decide) (by omega) _
   ·subst hw23; exact t22.put (by omega) _
  ·rintro z ⟨rows, rs, hR, orow, hVz, tz, lgz, xz, yz⟩
   rw [hn] at hR
   refine hI2 _ _ (CondP.no (by simp; omega) ⟨_, cell1 lgz, hVz, tz, ?_⟩)
   rw [if_neg (by have := hm; rw [hn] at *; omega)]
   exact ⟨w5.heap.size, rfl, ⟨ids, rows, al, w4.heap.size, rs, hR⟩, by omega⟩
def s1 (x : Nat) : Nat := (x / 2 &&& 6148914691236517205) + (x &&& 6148914691236517205)
def s2 (x : Nat) : Nat := (x / 4 &&& 3689348814741910323) + (x &&& 3689348814741910323)
def s3 (x : Nat) : Nat := x / 16 + x
def s4 (x : Nat) : Nat := (x &&& 1085102592571150095) + (x &&& 1085102592571150095) / 256
def s5 (x : Nat) : Nat := x + x / 65536
theorem sh_k (x k : Nat) (hk : k ≤ 64) : Int.fdiv (x : Int) (2 ^ (min (k : Int).toNat (IntKind.bits .u64))) = ((x / 2 ^ k : Nat) : Int) := by
 show Int.fdiv (x : Int) (2 ^ (min k 64)) = _
 rw [Nat.min_eq_left hk, Int.fdiv_eq_ediv_of_nonneg _ (Int.pow_nonneg (by decide))]
 simp
theorem and_m (x m : Nat) (hx : x < 2 ^ 64) (hm : m < 2 ^ 64) : IntKind.wrap .u64 ((BitVec.ofInt (IntKind.bits .u64) (x : Int) &&& BitVec.ofInt (IntKind.bits .u64) (m : Int)).toNat : Int) = ((x &&& m : Nat) : Int) := by
 show IntKind.wrap .u64 ((BitVec.ofInt 64 (x : Int) &&& BitVec.ofInt 64 (m : Int)).toNat : Int) = _
 rw [BitVec.toNat_and, ofInt_nat _ hx, ofInt_nat _ hm]
 exact wrap_u64 _ (Nat.lt_of_le_of_lt Nat.and_le_left hx)
abbrev GrIs (w : World) (g : Nat) (s : SpecV) (T : List Ent) : Prop := GridIs w g (gids s T) (alB s T) (relB s T)
def plc (s : SpecV) (T : List Ent) (id : Int) : Option Nat := (gids s T).idxOf? id
theorem idxOf_some {l : List Int} {a : Int} {i : Nat} (h : l.idxOf? a = some i) : ∃ h : i < l.length, l[i] = a := by
 have := List.findIdx?_eq_some_iff_getElem.1 h
 obtain ⟨h1, h2, _⟩ := this
 exact ⟨h1, by simpa using h2⟩
theorem plc_some {s : SpecV} {T : List Ent} {id : Int} {i : Nat} (h : plc s T id = some i) : i < (gids s T).length ∧ (gids s T).getD i 0 = id ∧ hasV2 s T id = true := by
 obtain ⟨h1, h2⟩ := idxOf_some h
 exact ⟨h1, by rw [getD_of h1]; exact h2, (gids_has s T id).1 (by rw [← h2]; exact List.getElem_mem h1)⟩
theorem plc_none {s : SpecV} {T : List Ent} {id : Int} (h : plc s T id = none) : hasV2 s T id = false := by
 have h1 := List.idxOf?_eq_none_iff.1 h
 cases hh : hasV2 s T id with
 | false => rfl
 | true => exact absurd ((gids_has s T id).2 hh) h1
theorem plc_has {s : SpecV} {T : List Ent} (id : Int) : (plc s T id).isSome = hasV2 s T id := by
 cases h : plc s T id with
 | none => exact (plc_none h).symm
 | some i => exact (plc_some h).2.2.symm
def gAl (s : SpecV) (T : List Ent) (id : Int) : Bool := hasV2 s T id && decide ((vocOf s T).Canon [id])
theorem infoI : (Tryz.prog.info? tInt).map (·.zero) = some (some (.int .i64 0)) := by kernel_rfl
theorem gPlace_spec (w : World) (g : Nat) (s : SpecV) (T : List Ent) (h : GrIs w g s T) (id : Int) :
  CP 41 #[.pointer (some ⟨g, 0, none⟩), .int .i64 id] w fun e w' => e = .returned (.tuple #[.int .i64 (((plc s T id).getD 0 : Nat) : Int), .bool (plc s T id).isSome]) ∧ w' = w := by
 refine calls_ret (vc41_calls (some ⟨g, 0, none⟩) id w (fun u w' => u = .tuple #[.int .i64 (((plc s T id).getD 0 : Nat) : Int), .bool (plc s T id).isSome] ∧ w' = w) ?_) (by rintro v w' ⟨rfl, h⟩; exact ⟨rfl, h⟩)
 obtain ⟨ids, rows, alone, mb, rs, hR⟩ := h
 refine CondP.no rfl (NilC.mk _ rfl ⟨some mb, by rw [cell_put hR.blk]; rfl, ?_⟩)
 have hl := run_look keysI undMapI infoI hR.map id
 rw [look_gmap] at hl
 have e : ((((gids s T).idxOf? id).map fun i : Nat => Value.int .i64 (i : Int)).getD (.int .i64 0)) = .int .i64 (((plc s T id).getD 0 : Nat) : Int) := by
  show _ = Value.int .i64 ((((gids s T).idxOf? id).getD 0 : Nat) : Int)
  cases (gids s T).idxOf? id <;> rfl
 rw [e, Option.isSome_map] at hl
 exact ⟨_, _, w, hl, rfl, rfl⟩
theorem gAlone_spec (w : World) (g : Nat) (s : SpecV) (T : List Ent) (h : GrIs w g s T) (hn : (gids s T).length ≤ 1032) (id : Int) :
  CP 32 #[.pointer (some ⟨g, 0, none⟩), .int .i64 id] w fun e w' => e = .returned (.bool (gAl s T id)) ∧ w' = w := by
 refine calls_ret (vc32_calls (some ⟨g, 0, none⟩) id w (fun u w' => u = .bool (gAl s T id) ∧ w' = w) ?_) (by rintro v w' ⟨rfl, h⟩; exact ⟨rfl, h⟩)
 refine (gPlace_spec w g s T h id).mono ?_
 rintro e w1 ⟨rfl, rfl⟩
 obtain ⟨ids, rows, alone, mb, rs, hR⟩ := h
 refine ⟨_, _, rfl, CondP.mk (fun h1 => ?_) fun h1 => ⟨?_, rfl⟩⟩
 ·obtain ⟨i, hi⟩ := Option.isSome_iff_exists.1 h1
  obtain ⟨hi1, hi2, hi3⟩ := plc_some hi
  have al1 := LsAt.of_own elU64 hR.oal
  refine NilC.mk _ rfl ⟨alone.a, alone.n, alone.c, by rw [cell_put hR.blk]; rfl, ?_⟩
  rw [hi]
  refine (rowHas_spec w1 alone.a alone.n alone.c _ (alB s T) al1.r al1.n (by omega) i hi1).mono ?_
  rintro e w2 ⟨rfl, rfl⟩
  refine ⟨_, rfl, ?_, rfl⟩
  unfold gAl alB
  rw [hi2, hi3, Bool.true_and]
 ·rw [plc_has] at h1
  unfold gAl
  rw [h1, Bool.false_and]
theorem row_get {s : SpecV} {T : List Ent} {w : World} {g : Nat} {ids rows alone : Sl} {mb : Nat} {rs : List Sl} (hR : GridR w g (gids s T) (alB s T) (relB s T) ids rows alone mb rs (gids s T).length) (i : Nat) (hi : i < (gids s T).length) : ∃ (p : Addr) (r : Sl), rows.a = some p ∧ i < rows.n ∧ w.cell? (p.add (i * 1)) = some (.slice r.a r.n r.c) ∧ LsAt encU64 1 w r (wordsOf (gids s T).length (relB s T i)) := by
 have hls := LsAt.of_own elRow hR.orows
 have hl := hR.rl
 have hi2 : i < rs.length := by omega
 obtain ⟨p, hp, c0⟩ := cell_rw hls.r hi2 (v := rs[i].v) rfl
 exact ⟨p, rs[i], hp, by rw [hls.n]; exact hi2, c0, LsAt.of_own elU64 (hR.each i _ (List.getElem?_eq_getElem hi2))⟩
theorem gSize_spec (w : World) (g : Nat) (s : SpecV) (T : List Ent) (h : GrIs w g s T) :
  CP 24 #[.pointer (some ⟨g, 0, none⟩)] w fun e w' => e = .returned (.int .i64 (((gids s T).length : Nat) : Int)) ∧ w' = w := by
 refine calls_ret (vc24_calls (some ⟨g, 0, none⟩) w (fun u w' => u = .int .i64 (((gids s T).length : Nat) : Int) ∧ w' = w) ?_) (by rintro v w' ⟨rfl, h⟩; exact ⟨rfl, h⟩)
 obtain ⟨ids, rows, alone, mb, rs, hR⟩ := h
 refine CondP.no rfl (NilC.mk _ rfl ⟨ids.a, ids.n, ids.c, by rw [cell_put hR.blk]; rfl, ?_, rfl⟩)
 rw [(LsAt.of_own elInt hR.oi).n]
theorem gId_spec (w : World) (g : Nat) (s : SpecV) (T : List Ent) (h : GrIs w g s T) (place : Int) :
  CP 25 #[.pointer (some ⟨g, 0, none⟩), .int .i64 place] w fun e w' => e = .returned (if 0 ≤ place ∧ place < ((gids s T).length : Int) then .tuple #[.int .i64 ((gids s T).getD place.toNat 0), .bool true] else .tuple #[.int .i64 0, .bool false]) ∧ w' = w := by
 refine calls_ret (vc25_calls (some ⟨g, 0, none⟩) place w (fun u w' => u = (if 0 ≤ place ∧ place < ((gids s T).length : Int) then .tuple #[.int .i64 ((gids s T).getD place.toNat 0), .bool true] else .tuple #[.int .i64 0, .bool false]) ∧ w' = w) ?_) (by rintro v w' ⟨rfl, h⟩; exact ⟨rfl, h⟩)
 refine CondP.mk (fun h1 => ⟨?_, rfl⟩) fun h1 => ?_
 ·rw [if_neg (by have := of_decide_eq_true h1; omega)]
 have h1 := of_decide_eq_false h1
 refine (gSize_spec w g s T h).mono ?_
 rintro e w1 ⟨rfl, rfl⟩
 refine ⟨_, rfl, CondP.mk (fun h2 => ⟨?_, rfl⟩) fun h2 => ?_⟩
 ·rw [if_neg (by have := of_decide_eq_true h2; omega)]
 have h2 := of_decide_eq_false h2
 obtain ⟨ids, rows, alone, mb, rs, hR⟩ := h
 obtain ⟨i, rfl⟩ : ∃ i : Nat, place = i := ⟨place.toNat, by omega⟩
 have hi : i < (gids s T).length := by omega
 have hls := LsAt.of_own elInt hR.oi
 obtain ⟨p, hp, c0⟩ := cell_rw hls.r hi rfl
 have := hls.n
 refine NilC.mk _ rfl ⟨ids.a, ids.n, ids.c, by rw [cell_put hR.blk]; rfl, NilC.mk p hp ⟨by omega, by omega, _, c0, ?_, rfl⟩⟩
 rw [if_pos ⟨by omega, by omega⟩]
 show _ = Value.tuple #[.int .i64 ((gids s T).getD i 0), .bool true]
 rw [getD_of hi]
theorem cloneR_spec (w : World) (a : Option Addr) (c : Nat) (xs : List Int) (hr : Rw encU64 1 w a xs) (hl : xs.length ≤ 1000000000) :
  CP 69 #[.slice a xs.length c] w fun e w' => ∃ s : Sl, e = .returned s.v ∧ s.n = xs.length ∧ w'.ownsRow w.heap.size tU64 1 s.v s.n (xs.flatMap encU64) ∧ Below w.heap.size w w' := by
 refine calls_ret (vc69_calls a xs.length c w (fun v w' => ∃ s : Sl, v = s.v ∧ s.n = xs.length ∧ w'.ownsRow w.heap.size tU64 1 s.v s.n (xs.flatMap encU64) ∧ Below w.heap.size w w') ?_) (by rintro v w' ⟨s, rfl, h⟩; exact ⟨s, rfl, h⟩)
 refine CondP.mk (fun h0 => ?_) fun h0 => ?_
 ·have hx : xs = [] := by
   cases xs with
   | nil => rfl
   | cons x t =>
    obtain ⟨p, hp, _⟩ := hr 0 x rfl
    rw [hp] at h0
    cases h0
  subst hx
  exact ⟨⟨none, 0, 0⟩, rfl, rfl, own_nil _ _ _ _, Below.refl _ _⟩
 ·obtain ⟨p, rfl⟩ : ∃ p, a = some p := by
   cases a with
   | none => cases h0
   | some p => exact ⟨p, rfl⟩
  intro w1 hw1
  obtain ⟨A, C, w2, h2, h3, h4⟩ := copy_row (enc := encU64) (sz := 1) (fun _ => rfl) (by decide) (fun x u hu => by rw [List.mem_singleton.1 hu]; rfl) tRow tU64 undRow infoU64 rfl w ⟨some p, xs.length, c⟩ xs (.inr ⟨p, rfl⟩) hr rfl (by simp only; omega) (by simp only; omega) w1 hw1
  exact ⟨A, xs.length, C, w2, h2, ⟨A, xs.length, C⟩, rfl, rfl, h3, h4⟩
theorem gRow_spec (w : World) (g : Nat) (s : SpecV) (T : List Ent) (h : GrIs w g s T) (hn : (gids s T).length ≤ 1032) (id : Int) :
  CP 31 #[.pointer (some ⟨g, 0, none⟩), .int .i64 id] w fun e w' => Below w.heap.size w w' ∧ ((plc s T id = none ∧ e = .returned (.slice none 0 0)) ∨ ∃ i l, plc s T id = some i ∧ e = .returned (Sl.v l) ∧ w'.ownsRow w.heap.size tU64 1 l.v l.n ((wordsOf (gids s T).length (relB s T i)).flatMap encU64)) := by
 refine calls_ret (vc31_calls (some ⟨g, 0, none⟩) id w (fun u w' => Below w.heap.size w w' ∧ ((plc s T id = none ∧ u = .slice none 0 0) ∨ ∃ i l, plc s T id = some i ∧ u = Sl.v l ∧ w'.ownsRow w.heap.size tU64 1 l.v l.n ((wordsOf (gids s T).length (relB s T i)).flatMap encU64))) ?_) (by rintro v w' ⟨h1, ⟨h2, rfl⟩ | ⟨i, l, h2, rfl, h3⟩⟩; exact ⟨h1, .inl ⟨h2, rfl⟩⟩; exact ⟨h1, .inr ⟨i, l, h2, rfl, h3⟩⟩)
 refine (gPlace_spec w g s T h id).mono ?_
 rintro e w1 ⟨rfl, rfl⟩
 obtain ⟨ids, rows, alone, mb, rs, hR⟩ := h
 refine ⟨_, _, rfl, CondP.mk (fun h1 => ⟨Below.refl _ _, .inl ⟨?_, rfl⟩⟩) fun h1 => ?_⟩
 ·cases hp : plc s T id with
  | none => rfl
  | some i => rw [hp] at h1; cases h1
 ·obtain ⟨i, hi⟩ := Option.isSome_iff_exists.1 (by simpa using h1)
  obtain ⟨hi1, hi2, hi3⟩ := plc_some hi
  obtain ⟨p, r, hp, hin, hc, hls⟩ := row_get hR i hi1
  rw [hi]
  refine NilC.mk _ rfl ⟨rows.a, rows.n, rows.c, by rw [cell_put hR.blk]; rfl, NilC.mk p hp ⟨by omega, by show ((i : Nat) : Int) < _; omega, r.a, r.n, r.c, hc, ?_⟩⟩
  rw [hls.n]
  refine (cloneR_spec w1 r.a r.c _ hls.r (by rw [wordsOf_length]; omega)).mono ?_
  rintro e w2 ⟨l, rfl, hl, ho, b2⟩
  exact ⟨l.a, l.n, l.c, rfl, b2, .inr ⟨i, l, rfl, rfl, ho⟩⟩
def FirstR (V : Voc) (ids : List Int) : Option Nat → Prop
 | none => ∀ (i : Nat) (h : i < ids.length), V.Has ids[i] ∧ V.Canon (ids.take (i + 1))
 | some k => (∀ (i : Nat) (h : i < ids.length), i < k → V.Has ids[i] ∧ V.Canon (ids.take (i + 1))) ∧ ∃ h : k < ids.length, ¬ (V.Has ids[k] ∧ V.Canon (ids.take (k + 1)))
theorem has_iff2 {s : SpecV} {T : List Ent} (hok : TOk T) (t : Int) : hasV2 s T t = true ↔ (vocOf s T).Has t := by
 unfold hasV2
 rw [decide_eq_true_eq, tok_iff hok]
 exact Or.comm
theorem refFirst_spec (w : World) (x : RvW) (s : SpecV) (T : List Ent) (h : RvAt w x s T) (A : Option Addr) (C : Nat) (ids : List Int) (hr : Rw encInt 1 w A ids) (hC : ids.length ≤ C) (hl : ids.length ≤ 10000) :
  CP 21 #[x.v, .slice A ids.length C] w fun e w' => ∃ o, e = .returned (.int .i64 (placeV o)) ∧ FirstR (vocOf s T) ids o ∧ Below w.heap.size w w' := by
 refine calls_ret (vc21_calls x.t.b.a x.t.b.n x.t.b.c x.t.m.a x.t.m.n x.t.m.c x.b.b.a x.b.b.n x.b.b.c x.b.m.a x.b.m.n x.b.m.c x.sp.a x.sp.n x.sp.c A ids.length C w (fun u w' => ∃ o, u = .int .i64 (placeV o) ∧ FirstR (vocOf s T) ids o ∧ Below w.heap.size w w') ?_) (by rintro v w' ⟨o, rfl, h⟩; exact ⟨o, rfl, h⟩)
 intro w1 hw1
 have hb1 : Below w.heap.size w w1 := by subst hw1; exact below_alloc _ _
 have l1 : w1.heap[w.heap.size]? = some (.cells x.cells tRv (0, 0)) := by subst hw1; exact alloc_new _ _
 have hok := h.ok
 intro I hI
 have key := climb2 (α := Int × World) ids.length (fun i y => (∀ (j : Nat) (h : j < ids.length), j < i → (vocOf s T).Has ids[j] ∧ (vocOf s T).Canon (ids.take (j + 1))) ∧ Below w1.heap.size w1 y.2) (fun i y => I [.int .i64 (i : Int), .int .i64 y.1] y.2) (0, w1) ⟨fun j _ hj => absurd hj (Nat.not_lt_zero j), Below.refl _ _⟩ ?_ ?_
 ·exact key
 ·rintro i hi ih ⟨y, q⟩ ⟨hinv, hB⟩
  change Below w1.heap.size w1 q at hB
  refine hI _ y q (CondP.yes (by simp; omega) ?_)
  intro w3 hw3
  have b3 : Below q.heap.size q w3 := by subst hw3; exact drew_on q
  have hB3 := below_then hB b3
  have hw := below_then hb1 hB3
  obtain ⟨p, hp, c0⟩ := cell_rw (hr.on hw) hi rfl
  refine ⟨_, _, _, _, _, _, _, _, _, _, _, _, _, _, _, agg5 (held_on hB3 l1), NilC.mk p hp ⟨by omega, by omega, _, c0, ?_⟩⟩
  refine (refVHas_spec w3 x s T (h.on hw) ids[i]).mono ?_
  rintro e w4 ⟨rfl, b4⟩
  have hB4 := below_then hB3 b4
  have hw4 := below_then hb1 hB4
  refine ⟨_, rfl, CondP.mk (fun h0 => ?_) fun h0 => ?_⟩
  ·refine ⟨some i, rfl, ⟨fun j hj hji => hinv j hj hji, hi, fun e => ?_⟩, hw4⟩
   rw [(has_iff2 hok _).2 e.1] at h0
   cases h0
  ·have hhas : (vocOf s T).Has ids[i] := (has_iff2 hok _).1 (by simpa using h0)
   have htk : ids.take (i + 1) = ids.take i ++ [ids[i]] := by rw [List.take_add_one, List.getElem?_eq_getElem hi]; rfl
   have hall : ∀ t ∈ ids.take (i + 1), (vocOf s T).Has t := by
    intro t ht
    obtain ⟨j, hj, rfl⟩ := List.mem_take_iff_getElem.1 ht
    by_cases e : j = i
    ·subst e; exact hhas
    ·exact (hinv j (by omega) (by omega)).1
   refine ⟨_, _, _, _, _, _, _, _, _, _, _, _, _, _, _, agg5 (held_on hB4 l1), Ar.nat (i + 1) rfl (by omega) ⟨by omega, by omega, by omega, trivial, trivial, ?_⟩⟩
   have hrow := ((hr.on hw4).cut 0 C hC).take (i + 1)
   rw [List.drop_zero] at hrow
   have hcl : CP 67 #[x.v, .slice (slBase A 0 C 1) (i + 1 - 0) (C - 0)] w4 fun e w' => e = .returned (.bool (decide ((vocOf s T).Canon (ids.take (i + 1))))) ∧ Below w4.heap.size w4 w' := by
    rw [show i + 1 - 0 = (ids.take (i + 1)).length by rw [List.length_take]; omega]
    exact refCanon_spec w4 x s T (h.on hw4) _ _ _ hrow (by rw [List.length_take]; omega) hall
   refine hcl.mono ?_
   rintro e w5 ⟨rfl, b5⟩
   have hB5 := below_then hB4 b5
   refine ⟨_, rfl, CondP.mk (fun h1 => ?_) fun h1 => ?_⟩
   ·refine ⟨some i, rfl, ⟨fun j hj hji => hinv j hj hji, hi, fun e => ?_⟩, below_then hb1 hB5⟩
    rw [decide_eq_true e.2] at h1
    cases h1
   ·have h1 : (vocOf s T).Canon (ids.take (i + 1)) := by simpa using h1
    refine Ar.nat (i + 1) rfl (by omega) (ih (y, w5) ⟨fun j hj hji => ?_, hB5⟩)
    by_cases e : j = i
    ·subst e
     exact ⟨hhas, h1⟩
    ·exact hinv j hj (by omega)
 ·rintro ⟨y, q⟩ ⟨hinv, hB⟩
  exact hI _ y q (CondP.no (by simp) ⟨none, rfl, fun j hj => hinv j hj hj, below_then hb1 hB⟩)
def sAw : SpecV := { merges := [(97, 98)] }
def tAw : List Ent := begins ++ [([97, 98], (97, 98))]
theorem right_aw : sAw.right = true := by decide +kernel
theorem build_aw : buildV sAw = .ok tAw := by
 have h : (match buildV sAw with | .ok t => decide (t = tAw) | .error _ => false) = true := by decide +kernel
 cases hx : buildV sAw with
 | error q => rw [hx] at h; cases h
 | ok t => rw [hx] at h; rw [of_decide_eq_true h]
theorem specAt_aw (w w1 : World) (hw1 : w1 = w.alloc (.cells #[Value.int .i64 97, Value.int .i64 98] tMg)) : SpecAt w1 ⟨false, ⟨some (nb w), 1, 1⟩, ⟨none, 0, 0⟩, ⟨none, 0, 0⟩, ⟨none, 0, 0⟩, ⟨none, 0, 0⟩⟩ sAw := by
 have l1 : w1.heap[w.heap.size]? = some (.cells #[Value.int .i64 97, Value.int .i64 98] tMg (0, 0)) := by subst hw1; exact alloc_new _ _
 have none_ : ∀ {α : Type} {enc : α → List Value} {sz : Nat}, Rw enc sz w1 none [] := fun j x hj => by simp at hj
 refine ⟨rfl, rfl, fun j x hj => ?_, rfl, none_, rfl, none_, rfl, none_, rfl, none_⟩
 have hj0 : j = 0 := by
  have := (List.getElem?_eq_some_iff.1 hj).1
  simp [sAw] at this
  exact this
 subst hj0
 have hx : x = (97, 98) := by simpa [sAw] using hj.symm
 subst hx
 refine ⟨nb w, rfl, (Array.getElem?_eq_some_iff.1 l1).1, fun k v hk => ?_⟩
 rw [Nat.zero_mul, add_zero, ptr_add0 _ _ l1]
 match k, hk with
 | 0, hk => cases hk; rfl
 | 1, hk => cases hk; rfl
theorem gids_aw : (gids sAw tAw).length = 257 := by decide +kernel
theorem gids_few {w : World} {v : Nat} {y : RvW} {s : SpecV} {T : List Ent} (h : Both w v y s T) : (gids s T).length ≤ 1006 ∧ (((gids s T).length * (gids s T).length : Nat) : Int) ≤ 1048576 := by
 have h1 := h.now.ok.most
 have h2 := h.few
 have h3 := h.ids
 have hT : T.length ≤ 1000 := h1
 have hl : (gids s T).length ≤ 1006 := by rw [gids_length]; omega
 refine ⟨hl, ?_⟩
 have : (gids s T).length * (gids s T).length ≤ 1006 * 1006 := Nat.mul_le_mul hl hl
 omega
theorem firstR_unique {V : Voc} {ids : List Int} {o o' : Option Nat} (h : FirstR V ids o) (h' : FirstR V ids o') : o = o' := by
 cases o with
 | none =>
  cases o' with
  | none => rfl
  | some k => obtain ⟨_, hk, h2⟩ := h'; exact absurd (h k hk) h2
 | some k =>
  obtain ⟨h1, hk, h2⟩ := h
  cases o' with
  | none => exact absurd (h' k hk) h2
  | some k' =>
   obtain ⟨h1', hk', h2'⟩ := h'
   rcases Nat.lt_trichotomy k k' with h | h | h
   ·exact absurd (h1' k hk h) h2
   ·rw [h]
   ·exact absurd (h1 k' hk' h) h2'
section
variable {κ : Type} [DecidableEq κ] (k : Nat → κ)
def firsts : Nat → List Nat
 | 0 => []
 | i + 1 => match (firsts i).findIdx? (fun a => decide (k a = k i)) with
  | some _ => firsts i
  | none => firsts i ++ [i]
def clsOf (i : Nat) : Nat := ((firsts k i).findIdx? (fun a => decide (k a = k i))).getD (firsts k i).length
variable {k}
theorem firsts_succ (i : Nat) : firsts k (i + 1) = match (firsts k i).findIdx? (fun a => decide (k a = k i)) with
  | some _ => firsts k i
  | none => firsts k i ++ [i] := rfl
theorem firsts_lt : ∀ {n : Nat} {a : Nat}, a ∈ firsts k n → a < n
 | 0, a, h => by cases h
 | n + 1, a, h => by
  unfold firsts at h
  split at h
  ·have := firsts_lt h; omega
  ·rcases List.mem_append.1 h with h | h
   ·have := firsts_lt h; omega
   ·rw [List.mem_singleton.1 h]; omega
theorem firsts_pre : ∀ {n : Nat} (d : Nat), ∃ t, firsts k (n + d) = firsts k n ++ t
 | n, 0 => ⟨[], by simp⟩
 | n, d + 1 => by
  obtain ⟨t, h⟩ := firsts_pre (n := n) d
  rw [← Nat.add_assoc, firsts]
  split
  ·exact ⟨t, h⟩
  ·exact ⟨t ++ [n + d], by rw [h, List.append_assoc]⟩
theorem firsts_inj : ∀ {n : Nat} (c c' : Nat) (h : c < (firsts k n).length) (h' : c' < (firsts k n).length), k (firsts k n)[c] = k (firsts k n)[c'] → c = c'
 | 0, c, c', h, _, _ => absurd h (Nat.not_lt_zero c)
 | n + 1, c, c', h, h', e => by
  have key : (firsts k (n + 1) = firsts k n) ∨ (firsts k (n + 1) = firsts k n ++ [n] ∧ ∀ a ∈ firsts k n, k a ≠ k n) := by
   rw [firsts_succ]
   split
   ·exact .inl rfl
   ·next hh =>
    refine .inr ⟨rfl, fun a ha => ?_⟩
    have := List.findIdx?_eq_none_iff.1 hh a ha
    simpa using this
  rcases key with hk | ⟨hk, hn⟩
  ·simp only [hk] at h h' e
   exact firsts_inj c c' h h' e
  ·simp only [hk] at h h' e
   rw [List.length_append, List.length_singleton] at h h'
   by_cases h1 : c < (firsts k n).length
   ·by_cases h2 : c' < (firsts k n).length
    ·rw [List.getElem_append_left h1, List.getElem_append_left h2] at e
     exact firsts_inj c c' h1 h2 e
    ·have : c' = (firsts k n).length := by omega
     subst this
     rw [List.getElem_append_left h1, List.getElem_append_right (Nat.le_refl _)] at e
     simp only [Nat.sub_self, List.getElem_singleton] at e
     exact absurd e (hn _ (List.getElem_mem h1))
   ·have : c = (firsts k n).length := by omega
    subst this
    by_cases h2 : c' < (firsts k n).length
    ·rw [List.getElem_append_left h2, List.getElem_append_right (Nat.le_refl _)] at e
     simp only [Nat.sub_self, List.getElem_singleton] at e
     exact absurd e.symm (hn _ (List.getElem_mem h2))
    ·omega
theorem firsts_step (i : Nat) : (∃ c, (firsts k i).findIdx? (fun a => decide (k a = k i)) = some c ∧ firsts k (i + 1) = firsts k i ∧ clsOf k i = c ∧ ∃ h : c < (firsts k i).length, k (firsts k i)[c] = k i) ∨ ((firsts k i).findIdx? (fun a => decide (k a = k i)) = none ∧ firsts k (i + 1) = firsts k i ++ [i] ∧ clsOf k i = (firsts k i).length ∧ ∀ a ∈ firsts k i, k a ≠ k i) := by
 cases h : (firsts k i).findIdx? (fun a => decide (k a = k i)) with
 | none =>
  refine .inr ⟨rfl, by rw [firsts, h], by rw [clsOf, h]; rfl, fun a ha => ?_⟩
  have := List.findIdx?_eq_none_iff.1 h a ha
  simpa using this
 | some c =>
  obtain ⟨h1, h2, _⟩ := List.findIdx?_eq_some_iff_getElem.1 h
  exact .inl ⟨c, rfl, by rw [firsts, h], by rw [clsOf, h]; rfl, h1, by simpa using h2⟩
theorem cls_next (i : Nat) : clsOf k i ≤ (firsts k i).length ∧ (firsts k (i + 1)).length = max (firsts k i).length (clsOf k i + 1) := by
 rcases firsts_step (k := k) i with ⟨c, _, h2, h3, h4, _⟩ | ⟨_, h2, h3, _⟩
 ·rw [h2, h3]; omega
 ·rw [h2, h3, List.length_append, List.length_singleton]; omega
theorem cls_in {n i : Nat} (hi : i < n) : ∃ h : clsOf k i < (firsts k n).length, k (firsts k n)[clsOf k i] = k i := by
 obtain ⟨t, ht⟩ := firsts_pre (k := k) (n := i + 1) (n - (i + 1))
 rw [show i + 1 + (n - (i + 1)) = n by omega] at ht
 have key : ∃ h : clsOf k i < (firsts k (i + 1)).length, k (firsts k (i + 1))[clsOf k i] = k i := by
  rcases firsts_step (k := k) i with ⟨c, _, h2, h3, h4, h5⟩ | ⟨_, h2, h3, _⟩
  ·simp only [h2, h3]; exact ⟨h4, h5⟩
  ·simp only [h2, h3]
   exact ⟨by simp, by simp⟩
 obtain ⟨h1, h2⟩ := key
 simp only [ht]
 exact ⟨by rw [List.length_append]; omega, by rw [List.getElem_append_left h1]; exact h2⟩
theorem cls_iff {n i j : Nat} (hi : i < n) (hj : j < n) : clsOf k i = clsOf k j ↔ k i = k j := by
 obtain ⟨h1, h2⟩ := cls_in (k := k) hi
 obtain ⟨h3, h4⟩ := cls_in (k := k) hj
 constructor
 ·intro e
  rw [← h2, ← h4]
  simp only [e]
 ·intro e
  exact firsts_inj _ _ h1 h3 (by rw [h2, h4, e])
end
open Go Go.Value
theorem wrap_u8 (z : Nat) : IntKind.wrap .u8 (z : Int) = (((UInt8.ofNat z).toNat : Nat) : Int) := by
 rw [UInt8.toNat_ofNat']
 unfold IntKind.wrap
 rw [if_neg (by rw [show IntKind.u8.signed = false from rfl, Bool.false_and]; exact Bool.false_ne_true)]
 rfl
def gN (s : SpecV) (T : List Ent) : Nat := (gids s T).length
abbrev RiseG (s : SpecV) (T : List Ent) : Prop := (gids s T).Pairwise (· < ·)
theorem plc_at {s : SpecV} {T : List Ent} (hr : RiseG s T) {i : Nat} (hi : i < gN s T) : plc s T ((gids s T).getD i 0) = some i := by
 unfold plc
 rw [getD_of hi]
 refine List.findIdx?_eq_some_iff_getElem.2 ⟨hi, by simp, fun j hj => ?_⟩
 have := List.pairwise_iff_getElem.1 hr j i (by unfold gN at hi; omega) hi hj
 simp
 omega
theorem has_at {s : SpecV} {T : List Ent} {i : Nat} (hi : i < gN s T) : hasV2 s T ((gids s T).getD i 0) = true := (gids_has s T _).1 (by rw [getD_of hi]; exact List.getElem_mem hi)
theorem gAl_at {s : SpecV} {T : List Ent} {i : Nat} (hi : i < gN s T) : gAl s T ((gids s T).getD i 0) = alB s T i := by
 unfold gAl alB
 rw [has_at hi, Bool.true_and]
theorem gId_at (w : World) (g : Nat) (s : SpecV) (T : List Ent) (h : GrIs w g s T) (i : Nat) (hi : i < gN s T) :
  CP 25 #[.pointer (some ⟨g, 0, none⟩), .int .i64 (i : Int)] w fun e w' => e = .returned (.tuple #[.int .i64 ((gids s T).getD i 0), .bool true]) ∧ w' = w := by
 refine (gId_spec w g s T h i).mono ?_
 rintro e w1 ⟨rfl, hw⟩
 refine ⟨?_, hw⟩
 rw [if_pos ⟨by omega, by unfold gN at hi; omega⟩]
 rfl
abbrev tBools : TypeId := 72
theorem undBls : Tryz.prog.underlying tBools = some (.slice tBool) := by kernel_rfl
theorem infoBl : (Tryz.prog.info? tBool).map (fun i => (i.zero, i.size, i.bytes)) = some (some (.bool false), 1, 1) := by kernel_rfl
theorem elBl : ElT encB1 1 tBools tBool 1 := ⟨fun _ => rfl, by decide, fun x u hu => by rw [List.mem_singleton.1 hu]; rfl, undBls, _, infoBl, rfl⟩
abbrev V0 : Voc := vocOf sAw tAw
theorem aw_ms : V0.ms = [(97, 98)] := by decide +kernel
theorem aw_ex : ∀ i : Nat, i < 256 → V0.ex (i : Int) = [(i : Int)] := by decide +kernel
theorem aw_ex2 : V0.ex 256 = [97, 98] := by decide +kernel
theorem aw_cut (x y : Int) (hx : 0 ≤ x) (hy : 0 ≤ y) : V0.cut x y = false := by
 unfold Voc.cut
 rw [decide_eq_false (by omega), decide_eq_false (by omega), Bool.false_or, Bool.false_or]
 show cutB [] [] x y = false
 unfold cutB
 exact decide_eq_false fun e => e.1 rfl
theorem aw_chop : ∀ Z : List Int, Z ≠ [] → (∀ x ∈ Z, 0 ≤ x) → chop V0.cut Z = [Z]
 | [], h, _ => absurd rfl h
 | [x], _, _ => rfl
 | x :: y :: r, _, h => by
  have hx := h x (by simp)
  have hy := h y (by simp)
  rw [chop, if_neg (by rw [aw_cut x y hx hy]; exact Bool.false_ne_true), aw_chop (y :: r) (by simp) fun z hz => h z (List.mem_cons_of_mem _ hz)]
theorem aw_enc (Z : List Int) (h : Z ≠ []) (h0 : ∀ x ∈ Z, 0 ≤ x) : V0.encode Z = pass 97 98 256 Z := by
 unfold Voc.encode
 rw [aw_chop Z h h0, List.flatMap_cons, List.flatMap_nil, List.append_nil]
 cases Z with
 | nil => exact absurd rfl h
 | cons x r =>
  have := h0 x List.mem_cons_self
  show (if x < 0 then _ else after V0.ms V0.ms.length (x :: r)) = _
  rw [if_neg (by omega), aw_ms]
  rfl
theorem aw_items (t : Int) : V0.items t = V0.ex t := rfl
theorem aw_gid {i : Nat} (hi : i < 257) : (gids sAw tAw).getD i 0 = (i : Int) := by
 have h : ∀ i : Nat, i < 257 → (gids sAw tAw).getD i 0 = (i : Int) := by decide +kernel
 exact h i hi
theorem aw_ex3 {i : Nat} (hi : i < 257) : (i = 256 ∧ V0.ex (i : Int) = [97, 98]) ∨ (i < 256 ∧ V0.ex (i : Int) = [(i : Int)]) := by
 by_cases e : i = 256
 ·subst e; exact .inl ⟨rfl, aw_ex2⟩
 ·exact .inr ⟨by omega, aw_ex i (by omega)⟩
theorem rel_aw {i j : Nat} (hi : i < 257) (hj : j < 257) : relB sAw tAw i j = !(decide (i = 97) && decide (j = 98)) := by
 unfold relB
 rw [aw_gid hi, aw_gid hj]
 have e : (V0.Canon [(i : Int), (j : Int)]) ↔ pass 97 98 256 (V0.ex (i : Int) ++ V0.ex (j : Int)) = [(i : Int), (j : Int)] := by
  unfold Voc.Canon Voc.itemsAll
  simp only [List.flatMap_cons, List.flatMap_nil, List.append_nil, aw_items]
  rw [aw_enc]
  ·rcases aw_ex3 hi with ⟨_, h⟩ | ⟨_, h⟩ <;> rw [h] <;> simp
  ·intro x hx
   rcases aw_ex3 hi with ⟨_, h⟩ | ⟨_, h⟩ <;> rcases aw_ex3 hj with ⟨_, h'⟩ | ⟨_, h'⟩ <;> rw [h, h'] at hx <;> simp at hx <;> omega
 rw [Bool.eq_iff_iff, decide_eq_true_iff, e]
 rcases aw_ex3 hi with ⟨rfl, h⟩ | ⟨h1, h⟩ <;> rcases aw_ex3 hj with ⟨rfl, h'⟩ | ⟨h2, h'⟩ <;> simp only [h, h']
 ·decide
 ·have : pass 97 98 256 ([97, 98] ++ [(j : Int)]) = [256, (j : Int)] := by simp [pass]
  rw [this]
  simp
 ·have : pass 97 98 256 ([(i : Int)] ++ [97, 98]) = [(i : Int), 256] := by
   show pass 97 98 256 ((i : Int) :: 97 :: [98]) = _
   rw [pass_no _ (by omega), pass_yes]
   rfl
  rw [this]
  simp
 ·by_cases e1 : i = 97 ∧ j = 98
  ·obtain ⟨rfl, rfl⟩ := e1
   decide
  ·have : pass 97 98 256 ([(i : Int)] ++ [(j : Int)]) = [(i : Int), (j : Int)] := by
    show pass 97 98 256 ((i : Int) :: (j : Int) :: []) = _
    rw [pass_no _ (by omega)]
    rfl
   rw [this]
   have : (decide (i = 97) && decide (j = 98)) = false := by
    rw [← Bool.decide_and]
    exact decide_eq_false e1
   rw [this]
   simp
theorem al_aw {i : Nat} (hi : i < 257) : alB sAw tAw i = true := by
 unfold alB
 rw [aw_gid hi]
 refine decide_eq_true ?_
 show V0.encode (V0.itemsAll [(i : Int)]) = [(i : Int)]
 unfold Voc.itemsAll
 simp only [List.flatMap_cons, List.flatMap_nil, List.append_nil, aw_items]
 rcases aw_ex3 hi with ⟨rfl, h⟩ | ⟨h1, h⟩
 ·rw [h, aw_enc _ (by simp) (by intro x hx; simp at hx; omega)]
  rfl
 ·rw [h, aw_enc _ (by simp) (by intro x hx; simp at hx; omega)]
  rfl
theorem gN_aw : gN sAw tAw = 257 := gids_aw
theorem rise_aw : RiseG sAw tAw := gids_rising List.Pairwise.nil (by intro y hy; cases hy)
theorem firsts_sub {κ κ' : Type} [DecidableEq κ] [DecidableEq κ'] {k : Nat → κ} {k' : Nat → κ'} : ∀ {N : Nat}, (∀ i j, i < N → j < N → k' i = k' j → k i = k j) → (firsts k N).Sublist (firsts k' N)
 | 0, _ => List.Sublist.refl _
 | N + 1, h => by
  have ih := firsts_sub (N := N) fun i j hi hj => h i j (by omega) (by omega)
  rcases firsts_step (k := k) N with ⟨c, _, h2, _, _⟩ | ⟨_, h2, _, h4⟩
  ·rw [h2]
   rcases firsts_step (k := k') N with ⟨c', _, g2, _, _⟩ | ⟨_, g2, _, _⟩
   ·rw [g2]; exact ih
   ·rw [g2]; exact ih.trans (List.sublist_append_left _ _)
  ·rw [h2]
   rcases firsts_step (k := k') N with ⟨c', _, g2, _, hc, e⟩ | ⟨_, g2, _, _⟩
   ·exfalso
    have hm := List.getElem_mem hc
    have hl := firsts_lt hm
    obtain ⟨q1, q2⟩ := cls_in (k := k) hl
    exact h4 _ (List.getElem_mem q1) (q2.trans (h _ _ (by omega) (by omega) e))
   ·rw [g2]; exact ih.append (List.Sublist.refl _)
theorem firsts_le {κ : Type} [DecidableEq κ] (k : Nat → κ) : ∀ i, (firsts k i).length ≤ i
 | 0 => Nat.le_refl _
 | i + 1 => by
  have h1 := cls_next (k := k) i
  have h2 := firsts_le k i
  omega
theorem same_kernel {κ κ' : Type} [DecidableEq κ] [DecidableEq κ'] {k : Nat → κ} {k' : Nat → κ'} {N : Nat} (h : ∀ i j, i < N → j < N → k' i = k' j → k i = k j) (hl : (firsts k' N).length = (firsts k N).length) {i j : Nat} (hi : i < N) (hj : j < N) : k i = k j → k' i = k' j := by
 have e := (firsts_sub h).eq_of_length hl.symm
 intro hk
 obtain ⟨i1, i2⟩ := cls_in (k := k') hi
 obtain ⟨j1, j2⟩ := cls_in (k := k') hj
 have mi := firsts_lt (List.getElem_mem i1)
 have mj := firsts_lt (List.getElem_mem j1)
 have ki := h _ _ mi hi i2
 have kj := h _ _ mj hj j2
 have : clsOf k' i = clsOf k' j := firsts_inj (k := k) _ _ (by rw [e]; exact i1) (by rw [e]; exact j1) (by simp only [e]; rw [ki, kj, hk])
 rw [← i2, ← j2]
 simp only [this]
def num2 (x : Nat) : List UInt8 := [UInt8.ofNat x, UInt8.ofNat (x / 256)]
theorem num2_inj {x y : Nat} (hx : x < 65536) (hy : y < 65536) (h : num2 x = num2 y) : x = y := by
 unfold num2 at h
 simp only [List.cons.injEq, and_true] at h
 have a := congrArg UInt8.toNat h.1
 have b := congrArg UInt8.toNat h.2
 simp only [UInt8.toNat_ofNat'] at a b
 omega
theorem nums_inj : ∀ {l m : List Nat}, l.length = m.length → (∀ x ∈ l, x < 65536) → (∀ x ∈ m, x < 65536) → l.flatMap num2 = m.flatMap num2 → l = m
 | [], [], _, _, _, _ => rfl
 | x :: l, y :: m, hl, h1, h2, h => by
  have e : num2 x ++ l.flatMap num2 = num2 y ++ m.flatMap num2 := h
  have := List.append_inj e rfl
  rw [num2_inj (h1 x List.mem_cons_self) (h2 y List.mem_cons_self) this.1, nums_inj (by simpa using hl) (fun z hz => h1 z (List.mem_cons_of_mem _ hz)) (fun z hz => h2 z (List.mem_cons_of_mem _ hz)) this.2]
structure Aut where
 N : Nat
 n : Nat
 nxt : Nat → Nat → Nat
 good : Nat → Bool
structure Aut.Ok (M : Aut) : Prop where
 lt : ∀ i k, i < M.N → k < M.n → M.nxt i k < M.N
 pos : 0 < M.N
 few : M.N ≤ 60000
namespace Aut
variable (M : Aut)
def keyT (of : Nat → Nat) (i : Nat) : List UInt8 := num2 (of i) ++ ((List.range M.n).map fun k => of (M.nxt i k)).flatMap num2
def ofR : Nat → Nat → Nat
 | 0 => clsOf M.good
 | r + 1 => clsOf (M.keyT (ofR r))
def cntR : Nat → Nat
 | 0 => (firsts M.good M.N).length
 | r + 1 => (firsts (M.keyT (M.ofR r)) M.N).length
variable {M}
theorem keyT_iff {of : Nat → Nat} (h : ∀ i, i < M.N → of i < 65536) (hM : M.Ok) {i j : Nat} (hi : i < M.N) (hj : j < M.N) : M.keyT of i = M.keyT of j ↔ of i = of j ∧ ∀ k, k < M.n → of (M.nxt i k) = of (M.nxt j k) := by
 constructor
 ·intro e
  have e : num2 (of i) ++ _ = num2 (of j) ++ _ := e
  have := List.append_inj e rfl
  refine ⟨num2_inj (h i hi) (h j hj) this.1, fun k hk => ?_⟩
  have l := nums_inj (by simp) (by intro x hx; obtain ⟨k, hk, rfl⟩ := List.mem_map.1 hx; exact h _ (hM.lt _ _ hi (List.mem_range.1 hk))) (by intro x hx; obtain ⟨k, hk, rfl⟩ := List.mem_map.1 hx; exact h _ (hM.lt _ _ hj (List.mem_range.1 hk))) this.2
  have := congrArg (fun l => l[k]?) l
  simpa [List.getElem?_range hk] using this
 ·rintro ⟨h1, h2⟩
  unfold keyT
  rw [h1]
  congr 2
  apply List.map_congr_left
  intro k hk
  exact h2 k (List.mem_range.1 hk)
theorem cls_lt {κ : Type} [DecidableEq κ] (k : Nat → κ) (i : Nat) : clsOf k i ≤ i := Nat.le_trans (cls_next (k := k) i).1 (firsts_le k i)
theorem ofR_lt (hM : M.Ok) (r : Nat) {i : Nat} (hi : i < M.N) : M.ofR r i < 60000 := by
 have := hM.few
 cases r with
 | zero => have := cls_lt M.good i; unfold ofR; omega
 | succ r => have := cls_lt (M.keyT (M.ofR r)) i; unfold ofR; omega
theorem ofR_iff (hM : M.Ok) (r : Nat) {i j : Nat} (hi : i < M.N) (hj : j < M.N) : M.ofR (r + 1) i = M.ofR (r + 1) j ↔ M.ofR r i = M.ofR r j ∧ ∀ k, k < M.n → M.ofR r (M.nxt i k) = M.ofR r (M.nxt j k) := by
 rw [← keyT_iff (fun i hi => by have := ofR_lt hM r hi; omega) hM hi hj]
 exact cls_iff hi hj
theorem of0_iff {i j : Nat} (hi : i < M.N) (hj : j < M.N) : M.ofR 0 i = M.ofR 0 j ↔ M.good i = M.good j := cls_iff hi hj
theorem ofR_good (hM : M.Ok) : ∀ (r : Nat) {i j : Nat} (hi : i < M.N) (hj : j < M.N), M.ofR r i = M.ofR r j → M.good i = M.good j
 | 0, i, j, hi, hj, h => (of0_iff hi hj).1 h
 | r + 1, i, j, hi, hj, h => ofR_good hM r hi hj ((ofR_iff hM r hi hj).1 h).1
theorem cntR_le (r : Nat) : M.cntR r ≤ M.N := by
 cases r with
 | zero => exact firsts_le _ _
 | succ r => exact firsts_le _ _
theorem cntR_key (r : Nat) : ∃ (κ : Type) (_ : DecidableEq κ) (k : Nat → κ), M.ofR r = clsOf k ∧ M.cntR r = (firsts k M.N).length := by
 cases r with
 | zero => exact ⟨Bool, inferInstance, M.good, rfl, rfl⟩
 | succ r => exact ⟨List UInt8, inferInstance, M.keyT (M.ofR r), rfl, rfl⟩
theorem firsts_cls {κ : Type} [DecidableEq κ] {k : Nat → κ} {N : Nat} : (firsts (clsOf k) N) = firsts k N := by
 have sub : ∀ {κ κ' : Type} [DecidableEq κ] [DecidableEq κ'] {k : Nat → κ} {k' : Nat → κ'}, (∀ i j, i < N → j < N → k' i = k' j → k i = k j) → (firsts k N).Sublist (firsts k' N) := fun h => firsts_sub h
 have a := sub (k := clsOf k) (k' := k) fun i j hi hj e => (cls_iff (k := k) hi hj).2 e
 have b := sub (k := k) (k' := clsOf k) fun i j hi hj e => (cls_iff (k := k) hi hj).1 e
 exact a.eq_of_length (Nat.le_antisymm a.length_le b.length_le)
theorem cntR_of (r : Nat) : M.cntR r = (firsts (M.ofR r) M.N).length := by
 obtain ⟨κ, _, k, h1, h2⟩ := cntR_key (M := M) r
 rw [h2, h1, firsts_cls]
theorem cntR_mono (hM : M.Ok) (r : Nat) : M.cntR r ≤ M.cntR (r + 1) := by
 rw [cntR_of, cntR_of]
 exact (firsts_sub fun i j hi hj h => ((ofR_iff hM r hi hj).1 h).1).length_le
theorem ofR_stay (hM : M.Ok) {r : Nat} (h : M.cntR (r + 1) = M.cntR r) {i j : Nat} (hi : i < M.N) (hj : j < M.N) : M.ofR r i = M.ofR r j → M.ofR (r + 1) i = M.ofR (r + 1) j := by
 rw [cntR_of, cntR_of] at h
 exact same_kernel (fun i j hi hj h => ((ofR_iff hM r hi hj).1 h).1) h hi hj
structure Bis (M : Aut) (R : Nat → Nat → Prop) : Prop where
 good : ∀ i j, i < M.N → j < M.N → R i j → M.good i = M.good j
 next : ∀ i j k, i < M.N → j < M.N → k < M.n → R i j → R (M.nxt i k) (M.nxt j k)
theorem ofR_coarse (hM : M.Ok) {R : Nat → Nat → Prop} (hR : Bis M R) : ∀ (r : Nat) {i j : Nat} (hi : i < M.N) (hj : j < M.N), R i j → M.ofR r i = M.ofR r j
 | 0, i, j, hi, hj, h => (of0_iff hi hj).2 (hR.good i j hi hj h)
 | r + 1, i, j, hi, hj, h => (ofR_iff hM r hi hj).2 ⟨ofR_coarse hM hR r hi hj h, fun k hk => ofR_coarse hM hR r (hM.lt _ _ hi hk) (hM.lt _ _ hj hk) (hR.next i j k hi hj hk h)⟩
structure Cls (M : Aut) (of : Nat → Nat) : Prop where
 lt : ∀ i, i < M.N → of i < M.N
 bis : Bis M fun i j => of i = of j
 coarse : ∀ R, Bis M R → ∀ i j, i < M.N → j < M.N → R i j → of i = of j
theorem cls_done (hM : M.Ok) {r : Nat} (h : M.cntR (r + 1) = M.cntR r) : Cls M (M.ofR (r + 1)) := by
 refine ⟨fun i hi => Nat.lt_of_le_of_lt (cls_lt _ _) hi, ⟨fun i j hi hj e => ofR_good hM _ hi hj e, fun i j k hi hj hk e => ?_⟩, fun R hR i j hi hj e => ofR_coarse hM hR _ hi hj e⟩
 exact ofR_stay hM h (hM.lt _ _ hi hk) (hM.lt _ _ hj hk) (((ofR_iff hM r hi hj).1 e).2 k hk)
def visit (of : Nat → Nat) (l : List Nat) (x : Nat) : List Nat := if of x ∈ l.map of then l else l ++ [x]
def scan (M : Aut) (of : Nat → Nat) (l : List Nat) (s : Nat) : Nat → List Nat
 | 0 => l
 | k + 1 => visit of (scan M of l s k) (M.nxt s k)
def metF (M : Aut) (of : Nat → Nat) : Nat → List Nat
 | 0 => [0]
 | i + 1 => match (metF M of i)[i]? with
  | some s => scan M of (metF M of i) s M.n
  | none => metF M of i
inductive Reach (M : Aut) : Nat → Prop
 | zero : Reach M 0
 | next {i k : Nat} : Reach M i → k < M.n → Reach M (M.nxt i k)
structure Mid (M : Aut) (of : Nat → Nat) (l : List Nat) : Prop where
 nodup : (l.map of).Nodup
 lt : ∀ x ∈ l, x < M.N
 reach : ∀ x ∈ l, Reach M x
 zero : l[0]? = some 0
theorem visit_pre (of : Nat → Nat) (l : List Nat) (x : Nat) : l <+: visit of l x := by
 unfold visit
 split
 ·exact List.prefix_refl _
 ·exact List.prefix_append _ _
theorem visit_in (of : Nat → Nat) (l : List Nat) (x : Nat) : of x ∈ (visit of l x).map of := by
 unfold visit
 split
 ·assumption
 ·simp
theorem Mid.visit {of : Nat → Nat} {l : List Nat} (h : Mid M of l) {x : Nat} (hx : x < M.N) (hr : Reach M x) : Mid M of (visit of l x) := by
 unfold Aut.visit
 split
 ·exact h
 ·next hn =>
  refine ⟨?_, ?_, ?_, ?_⟩
  ·rw [List.map_append, List.nodup_append]
   refine ⟨h.nodup, by simp, ?_⟩
   intro a ha b hb e
   simp at hb
   subst hb
   subst e
   exact hn ha
  ·intro y hy
   rcases List.mem_append.1 hy with hy | hy
   ·exact h.lt y hy
   ·rw [List.mem_singleton.1 hy]; exact hx
  ·intro y hy
   rcases List.mem_append.1 hy with hy | hy
   ·exact h.reach y hy
   ·rw [List.mem_singleton.1 hy]; exact hr
  ·have := h.zero
   have hl := (List.getElem?_eq_some_iff.1 this).1
   rw [List.getElem?_append_left hl]
   exact this
theorem scan_pre (of : Nat → Nat) (l : List Nat) (s : Nat) : ∀ k, l <+: scan M of l s k
 | 0 => List.prefix_refl _
 | k + 1 => (scan_pre of l s k).trans (visit_pre _ _ _)
theorem scan_mono (of : Nat → Nat) (l : List Nat) (s k : Nat) : ∀ d, scan M of l s k <+: scan M of l s (k + d)
 | 0 => List.prefix_refl _
 | d + 1 => (scan_mono of l s k d).trans (visit_pre _ _ _)
theorem pre_map {of : Nat → Nat} {l m : List Nat} (h : l <+: m) {x : Nat} (hx : x ∈ l.map of) : x ∈ m.map of := by
 obtain ⟨t, rfl⟩ := h
 rw [List.map_append]
 exact List.mem_append_left _ hx
theorem scan_hit (of : Nat → Nat) (l : List Nat) (s : Nat) {k n : Nat} (hk : k < n) : of (M.nxt s k) ∈ (scan M of l s n).map of := by
 have := scan_mono (M := M) of l s (k + 1) (n - (k + 1))
 rw [show k + 1 + (n - (k + 1)) = n by omega] at this
 exact pre_map this (visit_in of _ _)
theorem Mid.scan (hM : M.Ok) {of : Nat → Nat} {l : List Nat} (h : Mid M of l) {s : Nat} (hs : s ∈ l) : ∀ {k : Nat}, k ≤ M.n → Mid M of (scan M of l s k)
 | 0, _ => h
 | k + 1, hk => (Mid.scan hM h hs (k := k) (by omega)).visit (hM.lt _ _ (h.lt s hs) (by omega)) (.next (h.reach s hs) (by omega))
theorem metF_pre (of : Nat → Nat) (i : Nat) : metF M of i <+: metF M of (i + 1) := by
 rw [metF]
 split
 ·exact scan_pre _ _ _ _
 ·exact List.prefix_refl _
theorem metF_mid (hM : M.Ok) (of : Nat → Nat) : ∀ i, Mid M of (metF M of i)
 | 0 => ⟨by simp [metF], by intro x hx; simp [metF] at hx; subst hx; exact hM.pos, by intro x hx; simp [metF] at hx; subst hx; exact .zero, rfl⟩
 | i + 1 => by
  rw [metF]
  split
  ·next s hs => exact (metF_mid hM of i).scan hM (List.mem_of_getElem? hs) (Nat.le_refl _)
  ·exact metF_mid hM of i
theorem metF_in (of : Nat → Nat) : ∀ {i j s : Nat}, j < i → (metF M of i)[j]? = some s → ∀ {k}, k < M.n → of (M.nxt s k) ∈ (metF M of i).map of
 | 0, _, _, h, _, _, _ => absurd h (Nat.not_lt_zero _)
 | i + 1, j, s, hj, hs, k, hk => by
  by_cases e : j < (metF M of i).length
  ·have hs' : (metF M of i)[j]? = some s := by
    obtain ⟨t, ht⟩ := metF_pre (M := M) of i
    rw [← ht, List.getElem?_append_left e] at hs
    exact hs
   by_cases ej : j = i
   ·subst ej
    rw [metF, hs']
    exact scan_hit of _ _ hk
   ·exact pre_map (metF_pre of i) (metF_in of (by omega) hs' hk)
  ·have hn : (metF M of i)[i]? = none := List.getElem?_eq_none_iff.2 (by omega)
   have : metF M of (i + 1) = metF M of i := by rw [metF, hn]
   rw [this] at hs
   have := (List.getElem?_eq_some_iff.1 hs).1
   omega
theorem metF_end (of : Nat → Nat) {i : Nat} (h : (metF M of i).length ≤ i) : ∀ d, metF M of (i + d) = metF M of i
 | 0 => rfl
 | d + 1 => by
  have ih := metF_end of h d
  rw [← Nat.add_assoc, metF, ih, List.getElem?_eq_none_iff.2 (by omega)]
end Aut
theorem nodup_le {α : Type} [DecidableEq α] : ∀ {l m : List α}, l.Nodup → (∀ x ∈ l, x ∈ m) → l.length ≤ m.length
 | [], _, _, _ => Nat.zero_le _
 | x :: l, m, h, hs => by
  have hx := hs x List.mem_cons_self
  have h' := List.nodup_cons.1 h
  have := nodup_le (l := l) (m := m.erase x) h'.2 fun y hy => by
   have : y ≠ x := fun e => h'.1 (e ▸ hy)
   exact (List.mem_erase_of_ne this).2 (hs y (List.mem_cons_of_mem _ hy))
  rw [List.length_erase_of_mem hx] at this
  have := List.length_pos_of_mem hx
  rw [List.length_cons]
  omega
namespace Aut
variable {M : Aut}
def metL (M : Aut) (of : Nat → Nat) : List Nat := metF M of M.N
theorem met_few (hM : M.Ok) {of : Nat → Nat} (h : ∀ i, i < M.N → of i < M.N) (i : Nat) : (metF M of i).length ≤ M.N := by
 have m := metF_mid hM of i
 have := nodup_le (m := List.range M.N) m.nodup fun x hx => by
  obtain ⟨y, hy, rfl⟩ := List.mem_map.1 hx
  exact List.mem_range.2 (h y (m.lt y hy))
 simpa using this
theorem met_done (hM : M.Ok) {of : Nat → Nat} (h : ∀ i, i < M.N → of i < M.N) {i : Nat} (hi : (metF M of i).length ≤ i) : metF M of i = metL M of := by
 unfold metL
 by_cases e : i ≤ M.N
 ·have := metF_end (M := M) of hi (M.N - i)
  rw [show i + (M.N - i) = M.N by omega] at this
  exact this.symm
 ·have := metF_end (M := M) of (met_few hM h M.N) (i - M.N)
  rw [show M.N + (i - M.N) = i by omega] at this
  exact this
theorem met_mid (hM : M.Ok) (of : Nat → Nat) : Mid M of (metL M of) := metF_mid hM of _
theorem met_in (hM : M.Ok) {of : Nat → Nat} (h : ∀ i, i < M.N → of i < M.N) {j s : Nat} (hs : (metL M of)[j]? = some s) {k : Nat} (hk : k < M.n) : of (M.nxt s k) ∈ (metL M of).map of := by
 have := met_few hM h M.N
 have hl := (List.getElem?_eq_some_iff.1 hs).1
 exact metF_in of (by unfold metL at hl; omega) hs hk
theorem met_pos (hM : M.Ok) (of : Nat → Nat) : 0 < (metL M of).length := (List.getElem?_eq_some_iff.1 (met_mid hM of).zero).1
def least (M : Aut) (of : Nat → Nat) : Aut where
 N := (metL M of).length
 n := M.n
 nxt p k := ((metL M of).map of).idxOf (of (M.nxt ((metL M of).getD p 0) k))
 good p := M.good ((metL M of).getD p 0)
theorem getD_at {l : List Nat} {p : Nat} (hp : p < l.length) : l.getD p 0 = l[p] := by simp [List.getD, hp]
theorem least_ok (hM : M.Ok) {of : Nat → Nat} (h : ∀ i, i < M.N → of i < M.N) : (least M of).Ok := by
 refine ⟨fun p k hp hk => ?_, met_pos hM of, Nat.le_trans (met_few hM h _) hM.few⟩
 change p < (metL M of).length at hp
 change k < M.n at hk
 show ((metL M of).map of).idxOf _ < (metL M of).length
 rw [getD_at hp]
 have := List.idxOf_lt_length_of_mem (met_in hM h (List.getElem?_eq_getElem hp) hk)
 rwa [List.length_map] at this
theorem least_at (hM : M.Ok) {of : Nat → Nat} (h : ∀ i, i < M.N → of i < M.N) {p k : Nat} (hp : p < (least M of).N) (hk : k < M.n) : of ((metL M of).getD ((least M of).nxt p k) 0) = of (M.nxt ((metL M of).getD p 0) k) := by
 have hlt := (least_ok hM h).lt p k hp hk
 change p < (metL M of).length at hp
 have hm := met_in hM h (List.getElem?_eq_getElem hp) hk
 rw [getD_at hlt]
 have e : ((metL M of).map of)[((metL M of).map of).idxOf (of (M.nxt (metL M of)[p] k))]'(List.idxOf_lt_length_of_mem hm) = of (M.nxt (metL M of)[p] k) := List.getElem_idxOf _
 rw [List.getElem_map] at e
 show of ((metL M of)[((metL M of).map of).idxOf (of (M.nxt ((metL M of).getD p 0) k))]) = _
 simp only [getD_at hp]
 exact e
structure Sim (M : Aut) (of : Nat → Nat) (x p : Nat) : Prop where
 hx : x < M.N
 hp : p < (least M of).N
 e : of x = of ((metL M of).getD p 0)
theorem getD_lt (hM : M.Ok) (of : Nat → Nat) {p : Nat} (hp : p < (metL M of).length) : (metL M of).getD p 0 < M.N := by
 rw [getD_at hp]
 exact (met_mid hM of).lt _ (List.getElem_mem hp)
theorem Sim.good {of : Nat → Nat} {x p : Nat} (h : Sim M of x p) (hM : M.Ok) (hc : Cls M of) : (least M of).good p = M.good x := (hc.bis.good _ _ h.hx (getD_lt hM of h.hp) h.e).symm
theorem Sim.next {of : Nat → Nat} {x p : Nat} (h : Sim M of x p) (hM : M.Ok) (hc : Cls M of) {k : Nat} (hk : k < M.n) : Sim M of (M.nxt x k) ((least M of).nxt p k) :=
 ⟨hM.lt _ _ h.hx hk, (least_ok hM hc.lt).lt _ _ h.hp hk, by rw [least_at hM hc.lt h.hp hk]; exact hc.bis.next _ _ _ h.hx (getD_lt hM of h.hp) hk h.e⟩
theorem Sim.zero (hM : M.Ok) (of : Nat → Nat) : Sim M of 0 0 := ⟨hM.pos, met_pos hM of, by
 have := (met_mid hM of).zero
 rw [List.getD, this]
 rfl⟩
end Aut
def mayA (n : Nat) (al : Nat → Bool) (rel : Nat → Nat → Bool) (i k : Nat) : Bool := if i = 0 then al k else if i ≤ n then rel (i - 1) k else false
def lastA (n : Nat) (al : Nat → Bool) (rel : Nat → Nat → Bool) : Aut where
 N := n + 2
 n := n
 nxt i k := if mayA n al rel i k then k + 1 else n + 1
 good i := decide (i ≤ n)
section
variable {n : Nat} {al : Nat → Bool} {rel : Nat → Nat → Bool}
open Aut
theorem last_ok (hn : n ≤ 50000) : (lastA n al rel).Ok := ⟨fun i k hi hk => by
 change i < n + 2 at hi
 change k < n at hk
 show (if mayA n al rel i k then k + 1 else n + 1) < n + 2
 split <;> omega, by show 0 < n + 2; omega, by show n + 2 ≤ 60000; omega⟩
theorem last_good_next (i : Nat) {k : Nat} (hk : k < n) : (lastA n al rel).good ((lastA n al rel).nxt i k) = mayA n al rel i k := by
 show decide ((if mayA n al rel i k then k + 1 else n + 1) ≤ n) = _
 cases mayA n al rel i k with
 | true => simp; omega
 | false => simp
theorem last_cls (hn : n ≤ 50000) {of : Nat → Nat} (hc : Cls (lastA n al rel) of) {i j : Nat} (hi : i ≤ n) (hj : j ≤ n) : of i = of j ↔ ∀ k, k < n → mayA n al rel i k = mayA n al rel j k := by
 have hM := last_ok (al := al) (rel := rel) hn
 constructor
 ·intro e k hk
  have hi' : i < (lastA n al rel).N := by show i < n + 2; omega
  have hj' : j < (lastA n al rel).N := by show j < n + 2; omega
  have := hc.bis.good _ _ (hM.lt i k hi' hk) (hM.lt j k hj' hk) (hc.bis.next i j k hi' hj' hk e)
  rw [last_good_next i hk, last_good_next j hk] at this
  exact this
 ·intro h
  refine hc.coarse (fun i j => i = j ∨ (i ≤ n ∧ j ≤ n ∧ ∀ k, k < n → mayA n al rel i k = mayA n al rel j k)) ⟨?_, ?_⟩ i j (by show i < n + 2; omega) (by show j < n + 2; omega) (.inr ⟨hi, hj, h⟩)
  ·rintro a b ha hb (rfl | ⟨h1, h2, _⟩)
   ·rfl
   ·show decide (a ≤ n) = decide (b ≤ n)
    rw [decide_eq_true h1, decide_eq_true h2]
  ·rintro a b k ha hb hk (rfl | ⟨h1, h2, h3⟩)
   ·exact .inl rfl
   ·refine .inl ?_
    show (if mayA n al rel a k then k + 1 else n + 1) = (if mayA n al rel b k then k + 1 else n + 1)
    rw [h3 k hk]
theorem last_bad {of : Nat → Nat} (hc : Cls (lastA n al rel) of) {i : Nat} (hi : i ≤ n) : of i ≠ of (n + 1) := by
 intro e
 have := hc.bis.good i (n + 1) (by show i < n + 2; omega) (by show n + 1 < n + 2; omega) e
 change decide (i ≤ n) = decide (n + 1 ≤ n) at this
 rw [decide_eq_true hi, decide_eq_false (by omega)] at this
 cases this
def rowB (n : Nat) (al : Nat → Bool) (rel : Nat → Nat → Bool) (i : Nat) : List Bool := (List.range n).map (mayA n al rel i)
def actA (al : Nat → Bool) (i : Nat) : Bool := i == 0 || al (i - 1)
def rowsA (n : Nat) (al : Nat → Bool) (rel : Nat → Nat → Bool) : Nat → List (List Bool)
 | 0 => []
 | i + 1 => if actA al i = true ∧ rowB n al rel i ∉ rowsA n al rel i then rowsA n al rel i ++ [rowB n al rel i] else rowsA n al rel i
def badA (n : Nat) (al : Nat → Bool) (rel : Nat → Nat → Bool) (m : Nat) : Bool := (List.range m).any fun i => actA al i && (rowB n al rel i).any (! ·)
theorem rowB_iff {i j : Nat} : rowB n al rel i = rowB n al rel j ↔ ∀ k, k < n → mayA n al rel i k = mayA n al rel j k := by
 constructor
 ·intro h k hk
  have := congrArg (fun l => l[k]?) h
  simpa [rowB, List.getElem?_range hk] using this
 ·intro h
  exact List.map_congr_left fun k hk => h k (List.mem_range.1 hk)
theorem rowsA_nodup : ∀ m, (rowsA n al rel m).Nodup
 | 0 => List.nodup_nil
 | m + 1 => by
  rw [rowsA]
  split
  ·next h =>
   rw [List.nodup_append]
   refine ⟨rowsA_nodup m, by simp, fun a ha b hb e => ?_⟩
   rw [List.mem_singleton.1 hb] at e
   subst e
   exact h.2 ha
  ·exact rowsA_nodup m
theorem rowsA_mem : ∀ m r, r ∈ rowsA n al rel m ↔ ∃ i, i < m ∧ actA al i = true ∧ rowB n al rel i = r
 | 0, r => ⟨fun h => (by cases h), fun ⟨i, h, _⟩ => absurd h (Nat.not_lt_zero i)⟩
 | m + 1, r => by
  have ih := rowsA_mem m r
  have ihm := rowsA_mem m (rowB n al rel m)
  rw [rowsA]
  split
  ·next h =>
   rw [List.mem_append, ih, List.mem_singleton]
   constructor
   ·rintro (⟨i, h1, h2, h3⟩ | rfl)
    ·exact ⟨i, by omega, h2, h3⟩
    ·exact ⟨m, by omega, h.1, rfl⟩
   ·rintro ⟨i, h1, h2, h3⟩
    by_cases e : i = m
    ·subst e; exact .inr h3.symm
    ·exact .inl ⟨i, by omega, h2, h3⟩
  ·next h =>
   rw [ih]
   constructor
   ·rintro ⟨i, h1, h2, h3⟩
    exact ⟨i, by omega, h2, h3⟩
   ·rintro ⟨i, h1, h2, h3⟩
    by_cases e : i = m
    ·subst e
     by_cases hm : rowB n al rel i ∈ rowsA n al rel i
     ·rw [h3] at hm
      exact ih.1 hm
     ·exact absurd ⟨h2, hm⟩ h
    ·exact ⟨i, by omega, h2, h3⟩
theorem badA_iff {m : Nat} : badA n al rel m = true ↔ ∃ i k, i < m ∧ actA al i = true ∧ k < n ∧ mayA n al rel i k = false := by
 unfold badA
 rw [List.any_eq_true]
 constructor
 ·rintro ⟨i, hi, h⟩
  rw [Bool.and_eq_true, List.any_eq_true] at h
  obtain ⟨h1, b, hb, h2⟩ := h
  obtain ⟨k, hk, rfl⟩ := List.mem_map.1 hb
  exact ⟨i, k, List.mem_range.1 hi, h1, List.mem_range.1 hk, by simpa using h2⟩
 ·rintro ⟨i, k, hi, h1, hk, h2⟩
  refine ⟨i, List.mem_range.2 hi, ?_⟩
  rw [Bool.and_eq_true, List.any_eq_true]
  exact ⟨h1, _, List.mem_map.2 ⟨k, List.mem_range.2 hk, rfl⟩, by rw [h2]; rfl⟩
theorem reach_last (hra : ∀ i k, i < n → k < n → rel i k = true → al k = true) {x : Nat} (h : Aut.Reach (lastA n al rel) x) : (x ≤ n ∧ actA al x = true) ∨ (x = n + 1 ∧ badA n al rel (n + 1) = true) := by
 induction h with
 | zero => exact .inl ⟨Nat.zero_le _, rfl⟩
 | @next i k h hk ih =>
  change k < n at hk
  show ((if mayA n al rel i k then k + 1 else n + 1) ≤ n ∧ _) ∨ _
  rw [show (lastA n al rel).nxt i k = (if mayA n al rel i k then k + 1 else n + 1) from rfl]
  cases hm : mayA n al rel i k with
  | true =>
   refine .inl ⟨by simp; omega, ?_⟩
   have : al k = true := by
    unfold mayA at hm
    split at hm
    ·exact hm
    ·split at hm
     ·exact hra _ _ (by omega) hk hm
     ·cases hm
   simp [actA, this]
  | false =>
   refine .inr ⟨by simp, ?_⟩
   rcases ih with ⟨h1, h2⟩ | ⟨_, h2⟩
   ·exact badA_iff.2 ⟨i, k, by omega, h2, hk, hm⟩
   ·exact h2
theorem filter_two {α : Type} (p : α → Bool) : ∀ l : List α, l.length = (l.filter p).length + (l.filter fun x => !p x).length
 | [] => rfl
 | x :: l => by
  have := filter_two p l
  cases h : p x <;> simp [h] <;> omega
theorem least_many (hn : n ≤ 50000) (hra : ∀ i k, i < n → k < n → rel i k = true → al k = true) {of : Nat → Nat} (hc : Cls (lastA n al rel) of) :
  (metL (lastA n al rel) of).length = (rowsA n al rel (n + 1)).length + (if badA n al rel (n + 1) then 1 else 0) := by
 have hM := last_ok (al := al) (rel := rel) hn
 have mid := met_mid hM of
 obtain ⟨l, hl⟩ : ∃ l, l = metL (lastA n al rel) of := ⟨_, rfl⟩
 have hin : ∀ x ∈ l, ∀ k, k < n → of ((lastA n al rel).nxt x k) ∈ l.map of := by
  intro x hx k hk
  rw [hl] at hx ⊢
  obtain ⟨j, hj⟩ := List.getElem?_of_mem hx
  exact met_in hM hc.lt hj hk
 rw [← hl] at mid ⊢
 have h0 : 0 ∈ l := List.mem_of_getElem? mid.zero
 have act : ∀ i, i ≤ n → actA al i = true → of i ∈ l.map of := by
  intro i hi ha
  by_cases e : i = 0
  ·subst e; exact List.mem_map_of_mem h0
  ·have hk : i - 1 < n := by omega
   have := hin 0 h0 (i - 1) hk
   have e2 : (lastA n al rel).nxt 0 (i - 1) = i := by
    show (if mayA n al rel 0 (i - 1) then i - 1 + 1 else n + 1) = i
    have : al (i - 1) = true := by simpa [actA, e] using ha
    rw [show mayA n al rel 0 (i - 1) = al (i - 1) from rfl, this]
    simp; omega
   rwa [e2] at this
 rw [filter_two (fun x => decide (x ≤ n)) l]
 congr 1
 ·have e : (l.filter fun x => decide (x ≤ n)).length = ((l.filter fun x => decide (x ≤ n)).map (rowB n al rel)).length := by simp
  rw [e]
  apply Nat.le_antisymm
  ·refine nodup_le ?_ ?_
   ·have nd := (List.pairwise_map.1 mid.nodup).filter fun x => decide (x ≤ n)
    rw [List.Nodup, List.pairwise_map]
    refine nd.imp_of_mem ?_
    intro a b ha hb hne he
    have ha := of_decide_eq_true (List.mem_filter.1 ha).2
    have hb := of_decide_eq_true (List.mem_filter.1 hb).2
    exact hne ((last_cls hn hc ha hb).2 (rowB_iff.1 he))
   ·intro r hr
    obtain ⟨x, hx, rfl⟩ := List.mem_map.1 hr
    obtain ⟨h1, h2⟩ := List.mem_filter.1 hx
    have h2 := of_decide_eq_true h2
    rcases reach_last hra (mid.reach x h1) with ⟨_, h⟩ | ⟨h, _⟩
    ·exact (rowsA_mem _ _).2 ⟨x, by omega, h, rfl⟩
    ·omega
  ·refine nodup_le (rowsA_nodup _) ?_
   intro r hr
   obtain ⟨i, hi, ha, rfl⟩ := (rowsA_mem _ _).1 hr
   obtain ⟨x, hx, he⟩ := List.mem_map.1 (act i (by omega) ha)
   have hxn : x ≤ n := by
    have hlt := mid.lt x hx
    change x < n + 2 at hlt
    by_cases e : x = n + 1
    ·subst e; exact absurd he.symm (last_bad hc (by omega))
    ·omega
   exact List.mem_map.2 ⟨x, List.mem_filter.2 ⟨hx, decide_eq_true hxn⟩, rowB_iff.2 ((last_cls hn hc hxn (by omega)).1 he)⟩
 ·have all : ∀ x ∈ l.filter fun x => !decide (x ≤ n), x = n + 1 := by
   intro x hx
   obtain ⟨h1, h2⟩ := List.mem_filter.1 hx
   have hlt := mid.lt x h1
   change x < n + 2 at hlt
   simp at h2
   omega
  have nd : (l.filter fun x => !decide (x ≤ n)).Nodup := by
   have nd := (List.pairwise_map.1 mid.nodup).filter fun x => !decide (x ≤ n)
   exact nd.imp fun hne e => hne (by rw [e])
  have le1 : (l.filter fun x => !decide (x ≤ n)).length ≤ 1 := nodup_le (m := [n + 1]) nd fun x hx => by rw [all x hx]; exact List.mem_singleton.2 rfl
  by_cases hb : badA n al rel (n + 1) = true
  ·rw [if_pos hb]
   obtain ⟨i, k, hi, ha, hk, hm⟩ := badA_iff.1 hb
   obtain ⟨x, hx, he⟩ := List.mem_map.1 (act i (by omega) ha)
   have hxi : of ((lastA n al rel).nxt x k) = of ((lastA n al rel).nxt i k) := hc.bis.next x i k (mid.lt x hx) (by show i < n + 2; omega) hk he
   have hy := hin x hx k hk
   rw [hxi] at hy
   obtain ⟨y, hy1, hy2⟩ := List.mem_map.1 hy
   have e : (lastA n al rel).nxt i k = n + 1 := by
    show (if mayA n al rel i k then k + 1 else n + 1) = n + 1
    rw [hm]; rfl
   rw [e] at hy2
   have hyn : ¬ y ≤ n := fun h => last_bad hc h hy2
   have : y ∈ l.filter fun x => !decide (x ≤ n) := List.mem_filter.2 ⟨hy1, by simp; omega⟩
   have := List.length_pos_of_mem this
   omega
  ·rw [if_neg hb]
   cases hf : l.filter fun x => !decide (x ≤ n) with
   | nil => rfl
   | cons y t =>
    exfalso
    have hy : y ∈ l.filter fun x => !decide (x ≤ n) := by rw [hf]; exact List.mem_cons_self
    obtain ⟨h1, h2⟩ := List.mem_filter.1 hy
    rcases reach_last hra (mid.reach y h1) with ⟨h, _⟩ | ⟨_, h⟩
    ·simp at h2; omega
    ·exact hb h
end
def vc12 (a : OA) (b c : Nat) (d : OA) (f g : Nat) (h : OA) (i j : Nat) (k : OA) (l m : Nat) (n : OA) (o p : Nat) (w : World) (R : RW) : Prop :=
 ∀ q, q = w.alloc (.cells #[slice a b c, slice d f g, slice h i j, slice k l m] 27) →
 ∃ r s t u x y z a1 b1 c1 d1 e1, (q.cell? (nb w) = some (slice r s t) ∧ q.cell? ((nb w).add 1) = some (slice u x y) ∧ q.cell? ((nb w).add 2) = some (slice z a1 b1) ∧ q.cell? ((nb w).add 3) = some (slice c1 d1 e1) ∧ True) ∧
 CP 15 #[agg #[slice r s t, slice u x y, slice z a1 b1, slice c1 d1 e1]] q (fun f1 g1 =>
 ∃ h1, f1 = .returned (int .i64 h1) ∧
 CondP (decide (h1 > 0))
 (CP 38 #[] g1 (fun i1 j1 =>
 ∃ k1, i1 = .returned (bool k1) ∧
 R (bool k1) j1))
 (CondP (decide ((o : Int) > 60))
 (CP 38 #[] g1 (fun l1 m1 =>
 ∃ n1, l1 = .returned (bool n1) ∧
 R (bool n1) m1))
 (CP 38 #[] g1 (fun o1 p1 =>
 ∃ q1, o1 = .returned (bool q1) ∧
 CondP (!q1)
 (CP 38 #[] p1 (fun r1 s1 =>
 ∃ t1, r1 = .returned (bool t1) ∧
 R (bool t1) s1))
 (∃ u1 v1 x1 y1 z1 a2 b2 c2 d2 e2 f2 g2, (p1.cell? (nb w) = some (slice u1 v1 x1) ∧ p1.cell? ((nb w).add 1) = some (slice y1 z1 a2) ∧ p1.cell? ((nb w).add 2) = some (slice b2 c2 d2) ∧ p1.cell? ((nb w).add 3) = some (slice e2 f2 g2) ∧ True) ∧
 CP 39 #[agg #[slice u1 v1 x1, slice y1 z1 a2, slice b2 c2 d2, slice e2 f2 g2]] p1 (fun h2 i2 =>
 ∃ j2 k2 l2 m2 n2 o2 p2 q2 r2 s2 t2 u2 v2 x2 y2 z2 a3, h2 = .returned (tuple #[pointer j2, pointer k2, agg #[slice l2 m2 n2, slice o2 p2 q2, slice r2 s2 t2, slice u2 v2 x2, slice y2 z2 a3]]) ∧
 ∀ b3, b3 = i2.alloc (.cells #[slice none 0 0, slice none 0 0, slice none 0 0, slice none 0 0, slice none 0 0] 39) →
 StoreP b3 (nb i2) (fun c3 =>
 CP 46 #[pointer k2] c3 (fun d3 e3 =>
 ∃ f3, d3 = .returned (pointer f3) ∧
 CondP (Option.isNone k2)
 (R (bool false) e3)
 (CondP (Option.isNone f3)
 (R (bool false) e3)
 (∃ g3 h3 i3 j3 k3 l3 m3 n3 o3 p3 q3 r3 s3 t3 u3, (e3.cell? (nb i2) = some (slice g3 h3 i3) ∧ e3.cell? ((nb i2).add 1) = some (slice j3 k3 l3) ∧ e3.cell? ((nb i2).add 2) = some (slice m3 n3 o3) ∧ e3.cell? ((nb i2).add 3) = some (slice p3 q3 r3) ∧ e3.cell? ((nb i2).add 4) = some (slice s3 t3 u3) ∧ True) ∧
 CP 21 #[agg #[slice g3 h3 i3, slice j3 k3 l3, slice m3 n3 o3, slice p3 q3 r3, slice s3 t3 u3], slice n o p] e3 (fun v3 x3 =>
 ∃ y3, v3 = .returned (int .i64 y3) ∧
 CP 59 #[pointer k2, slice n o p] x3 (fun z3 a4 =>
 ∃ b4 c4, z3 = .returned (tuple #[int .i64 b4, bool c4]) ∧
 CP 59 #[pointer f3, slice n o p] a4 (fun d4 e4 =>
 ∃ f4 g4, d4 = .returned (tuple #[int .i64 f4, bool g4]) ∧
 CondP (!(c4 == (decide (y3 ≥ 0))))
 (R (bool false) e4)
 (CondP c4
 (CondP (b4 != y3)
 (R (bool false) e4)
 (CondP (f4 != b4)
 (R (bool false) e4)
 (CondP (!(g4 == c4))
 (R (bool false) e4)
 (CP 60 #[pointer k2, slice n o p] e4 (fun h4 i4 =>
 ∃ j4 k4, h4 = .returned (tuple #[int .i64 j4, bool k4]) ∧
 CP 60 #[pointer f3, slice n o p] i4 (fun l4 m4 =>
 ∃ n4 o4, l4 = .returned (tuple #[int .i64 n4, bool o4]) ∧
 ∃ p4 q4 r4 s4 t4 u4 v4 x4 y4 z4 a5 b5 c5 d5 e5, (m4.cell? (nb i2) = some (slice p4 q4 r4) ∧ m4.cell? ((nb i2).add 1) = some (slice s4 t4 u4) ∧ m4.cell? ((nb i2).add 2) = some (slice v4 x4 y4) ∧ m4.cell? ((nb i2).add 3) = some (slice z4 a5 b5) ∧ m4.cell? ((nb i2).add 4) = some (slice c5 d5 e5) ∧ True) ∧
 CP 20 #[agg #[slice p4 q4 r4, slice s4 t4 u4, slice v4 x4 y4, slice z4 a5 b5, slice c5 d5 e5], slice n o p] m4 (fun f5 g5 =>
 ∃ h5, f5 = .returned (int .i64 h5) ∧
 CondP (k4 == (decide (h5 < 0)))
 (CondP (o4 == (decide (h5 < 0)))
 (CondP (!(decide (h5 < 0)))
 (R (bool true) g5)
 (CP 44 #[pointer k2, int .i64 j4] g5 (fun i5 j5 =>
 ∃ k5, i5 = .returned (bool k5) ∧
 CondP (k5 == (!c4))
 (CP 44 #[pointer f3, int .i64 n4] j5 (fun l5 m5 =>
 ∃ n5, l5 = .returned (bool n5) ∧
 R (bool (n5 == (!c4))) m5))
 (R (bool false) j5))))
 (R (bool false) g5))
 (R (bool false) g5))))))))
 (CondP (f4 != b4)
 (R (bool false) e4)
 (CondP (!(g4 == c4))
 (R (bool false) e4)
 (CP 60 #[pointer k2, slice n o p] e4 (fun o5 p5 =>
 ∃ q5 r5, o5 = .returned (tuple #[int .i64 q5, bool r5]) ∧
 CP 60 #[pointer f3, slice n o p] p5 (fun s5 t5 =>
 ∃ u5 v5, s5 = .returned (tuple #[int .i64 u5, bool v5]) ∧
 ∃ x5 y5 z5 a6 b6 c6 d6 e6 f6 g6 h6 i6 j6 k6 l6, (t5.cell? (nb i2) = some (slice x5 y5 z5) ∧ t5.cell? ((nb i2).add 1) = some (slice a6 b6 c6) ∧ t5.cell? ((nb i2).add 2) = some (slice d6 e6 f6) ∧ t5.cell? ((nb i2).add 3) = some (slice g6 h6 i6) ∧ t5.cell? ((nb i2).add 4) = some (slice j6 k6 l6) ∧ True) ∧
 CP 20 #[agg #[slice x5 y5 z5, slice a6 b6 c6, slice d6 e6 f6, slice g6 h6 i6, slice j6 k6 l6], slice n o p] t5 (fun m6 n6 =>
 ∃ o6, m6 = .returned (int .i64 o6) ∧
 CondP (r5 == (decide (o6 < 0)))
 (CondP (v5 == (decide (o6 < 0)))
 (CondP (!(decide (o6 < 0)))
 (R (bool true) n6)
 (CP 44 #[pointer k2, int .i64 q5] n6 (fun p6 q6 =>
 ∃ r6, p6 = .returned (bool r6) ∧
 CondP (r6 == (!c4))
 (CP 44 #[pointer f3, int .i64 u5] q6 (fun s6 t6 =>
 ∃ u6, s6 = .returned (bool u6) ∧
 R (bool (u6 == (!c4))) t6))
 (R (bool false) q6))))
 (R (bool false) n6))
 (R (bool false) n6))))))))))))))) [slice l2 m2 n2, slice o2 p2 q2, slice r2 s2 t2, slice u2 v2 x2, slice y2 z2 a3] 0))))))
theorem vc12_calls (a : OA) (b c : Nat) (d : OA) (f g : Nat) (h : OA) (i j : Nat) (k : OA) (l m : Nat) (n : OA) (o p : Nat) (w : World) (R : RW) (hh : vc12 a b c d f g h i j k l m n o p w R) : CR 12 #[agg #[slice a b c, slice d f g, slice h i j, slice k l m], slice n o p] w R :=
 cden (fn := Tryz.f12) (by kernel_rfl) (by kernel_rfl) (by kernel_rfl) (by kernel_rfl) (by kernel_rfl) hh
def vc38 (w : World) (R : RW) : Prop :=
 ∀ a, a = w.alloc (.cells #[int .i64 97, int .i64 98] 98) →
 CP 64 #[agg #[bool false, slice (some (nb w)) 1 1, slice none 0 0, slice none 0 0, slice none 0 0, slice none 0 0]] a (fun b c =>
 ∃ d f g, b = .returned (tuple #[pointer d, int .i64 f, int .i64 g]) ∧
 CP 61 #[pointer d, int .i64 1048576] c (fun h i =>
 ∃ j k, h = .returned (tuple #[pointer j, int .i64 k]) ∧
 CP 42 #[pointer j, int .i64 1048576] i (fun l m =>
 ∃ n o, l = .returned (tuple #[pointer n, int .i64 o]) ∧
 CondP (o == 0)
 (CP 43 #[pointer n] m (fun p q =>
 ∃ r, p = .returned (int .i64 r) ∧
 CondP (r == 259)
 (CP 46 #[pointer n] q (fun s t =>
 ∃ u, s = .returned (pointer u) ∧
 CP 43 #[pointer u] t (fun x y =>
 ∃ z, x = .returned (int .i64 z) ∧
 R (bool (z == 3)) y)))
 (R (bool false) q)))
 (R (bool false) m))))
theorem vc38_calls (w : World) (R : RW) (hh : vc38 w R) : CR 38 #[] w R :=
 cden (fn := Tryz.f38) (by kernel_rfl) (by kernel_rfl) (by kernel_rfl) (by kernel_rfl) (by kernel_rfl) hh
def vc39 (a : OA) (b c : Nat) (d : OA) (f g : Nat) (h : OA) (i j : Nat) (k : OA) (l m : Nat) (w : World) (R : RW) : Prop :=
 ∀ n, n = w.alloc (.cells #[slice a b c, slice d f g, slice h i j, slice k l m] 27) →
 ∀ o, o = n.alloc (.cells #[slice none 0 0, slice none 0 0, slice none 0 0, slice none 0 0, slice none 0 0] 39) →
 ∃ p q r s t u x y z a1 b1 c1, (o.cell? (nb w) = some (slice p q r) ∧ o.cell? ((nb w).add 1) = some (slice s t u) ∧ o.cell? ((nb w).add 2) = some (slice x y z) ∧ o.cell? ((nb w).add 3) = some (slice a1 b1 c1) ∧ True) ∧
 CP 17 #[agg #[slice p q r, slice s t u, slice x y z, slice a1 b1 c1]] o (fun d1 e1 =>
 ∃ f1 g1 h1 i1 j1 k1 l1 m1 n1 o1 p1 q1 r1 s1 t1 u1, d1 = .returned (tuple #[pointer f1, agg #[slice g1 h1 i1, slice j1 k1 l1, slice m1 n1 o1, slice p1 q1 r1, slice s1 t1 u1]]) ∧
 ∀ v1, v1 = e1.alloc (.cells #[slice none 0 0, slice none 0 0, slice none 0 0, slice none 0 0, slice none 0 0] 39) →
 StoreP v1 (nb e1) (fun x1 =>
 CP 61 #[pointer f1, int .i64 1048576] x1 (fun y1 z1 =>
 ∃ a2 b2, y1 = .returned (tuple #[pointer a2, int .i64 b2]) ∧
 CP 42 #[pointer a2, int .i64 1048576] z1 (fun c2 d2 =>
 ∃ e2 f2, c2 = .returned (tuple #[pointer e2, int .i64 f2]) ∧
 CondP (b2 != 0)
 (∀ g2, g2 = d2.drew →
 ∃ h2 i2 j2 k2 l2 m2 n2 o2 p2 q2 r2 s2 t2 u2 v2, (g2.cell? (nb e1) = some (slice h2 i2 j2) ∧ g2.cell? ((nb e1).add 1) = some (slice k2 l2 m2) ∧ g2.cell? ((nb e1).add 2) = some (slice n2 o2 p2) ∧ g2.cell? ((nb e1).add 3) = some (slice q2 r2 s2) ∧ g2.cell? ((nb e1).add 4) = some (slice t2 u2 v2) ∧ True) ∧
 StoreP g2 (nb n) (fun x2 =>
 ∃ y2 z2 a3 b3 c3 d3 e3 f3 g3 h3 i3 j3 k3 l3 m3, (x2.cell? (nb n) = some (slice y2 z2 a3) ∧ x2.cell? ((nb n).add 1) = some (slice b3 c3 d3) ∧ x2.cell? ((nb n).add 2) = some (slice e3 f3 g3) ∧ x2.cell? ((nb n).add 3) = some (slice h3 i3 j3) ∧ x2.cell? ((nb n).add 4) = some (slice k3 l3 m3) ∧ True) ∧
 R (tuple #[pointer none, pointer none, agg #[slice y2 z2 a3, slice b3 c3 d3, slice e3 f3 g3, slice h3 i3 j3, slice k3 l3 m3]]) x2) [slice h2 i2 j2, slice k2 l2 m2, slice n2 o2 p2, slice q2 r2 s2, slice t2 u2 v2] 0)
 (CondP (f2 != 0)
 (∀ n3, n3 = d2.drew →
 ∃ o3 p3 q3 r3 s3 t3 u3 v3 x3 y3 z3 a4 b4 c4 d4, (n3.cell? (nb e1) = some (slice o3 p3 q3) ∧ n3.cell? ((nb e1).add 1) = some (slice r3 s3 t3) ∧ n3.cell? ((nb e1).add 2) = some (slice u3 v3 x3) ∧ n3.cell? ((nb e1).add 3) = some (slice y3 z3 a4) ∧ n3.cell? ((nb e1).add 4) = some (slice b4 c4 d4) ∧ True) ∧
 StoreP n3 (nb n) (fun e4 =>
 ∃ f4 g4 h4 i4 j4 k4 l4 m4 n4 o4 p4 q4 r4 s4 t4, (e4.cell? (nb n) = some (slice f4 g4 h4) ∧ e4.cell? ((nb n).add 1) = some (slice i4 j4 k4) ∧ e4.cell? ((nb n).add 2) = some (slice l4 m4 n4) ∧ e4.cell? ((nb n).add 3) = some (slice o4 p4 q4) ∧ e4.cell? ((nb n).add 4) = some (slice r4 s4 t4) ∧ True) ∧
 R (tuple #[pointer none, pointer none, agg #[slice f4 g4 h4, slice i4 j4 k4, slice l4 m4 n4, slice o4 p4 q4, slice r4 s4 t4]]) e4) [slice o3 p3 q3, slice r3 s3 t3, slice u3 v3 x3, slice y3 z3 a4, slice b4 c4 d4] 0)
 (∀ u4, u4 = d2.drew →
 ∃ v4 x4 y4 z4 a5 b5 c5 d5 e5 f5 g5 h5 i5 j5 k5, (u4.cell? (nb e1) = some (slice v4 x4 y4) ∧ u4.cell? ((nb e1).add 1) = some (slice z4 a5 b5) ∧ u4.cell? ((nb e1).add 2) = some (slice c5 d5 e5) ∧ u4.cell? ((nb e1).add 3) = some (slice f5 g5 h5) ∧ u4.cell? ((nb e1).add 4) = some (slice i5 j5 k5) ∧ True) ∧
 StoreP u4 (nb n) (fun l5 =>
 ∃ m5 n5 o5 p5 q5 r5 s5 t5 u5 v5 x5 y5 z5 a6 b6, (l5.cell? (nb n) = some (slice m5 n5 o5) ∧ l5.cell? ((nb n).add 1) = some (slice p5 q5 r5) ∧ l5.cell? ((nb n).add 2) = some (slice s5 t5 u5) ∧ l5.cell? ((nb n).add 3) = some (slice v5 x5 y5) ∧ l5.cell? ((nb n).add 4) = some (slice z5 a6 b6) ∧ True) ∧
 R (tuple #[pointer a2, pointer e2, agg #[slice m5 n5 o5, slice p5 q5 r5, slice s5 t5 u5, slice v5 x5 y5, slice z5 a6 b6]]) l5) [slice v4 x4 y4, slice z4 a5 b5, slice c5 d5 e5, slice f5 g5 h5, slice i5 j5 k5] 0))))) [slice g1 h1 i1, slice j1 k1 l1, slice m1 n1 o1, slice p1 q1 r1, slice s1 t1 u1] 0)
theorem vc39_calls (a : OA) (b c : Nat) (d : OA) (f g : Nat) (h : OA) (i j : Nat) (k : OA) (l m : Nat) (w : World) (R : RW) (hh : vc39 a b c d f g h i j k l m w R) : CR 39 #[agg #[slice a b c, slice d f g, slice h i j, slice k l m]] w R :=
 cden (fn := Tryz.f39) (by kernel_rfl) (by kernel_rfl) (by kernel_rfl) (by kernel_rfl) (by kernel_rfl) hh
def vc42 (a : OA) (b : Int) (w : World) (R : RW) : Prop :=
 ∀ c, c = w.alloc (.cells #[pointer a] 48) →
 ∃ d, c.cell? (nb w) = some (pointer d) ∧
 CP 24 #[pointer d] c (fun f g =>
 ∃ h, f = .returned (int .i64 h) ∧
 ∃ i, g.cell? (nb w) = some (pointer i) ∧
 CondP (Option.isNone i)
 (R (tuple #[pointer none, int .i64 1]) g)
 (Ar .i64 (h + 2) (fun j =>
 Ar .i64 (j * h) (fun k =>
 CondP (decide (k > b))
 (R (tuple #[pointer none, int .i64 5]) g)
 (∃ l, g.cell? (nb w) = some (pointer l) ∧
 ∀ m, m = g.alloc (.cells #[pointer l, slice none 0 0, slice none 0 0, int .u32 0, int .i32 0, int .u32 0, slice none 0 0] 136) →
 Ar .i64 (h + 1) (fun n =>
 ∀ o, o = m.alloc (.cells #[Value.nilFunc] 137) →
 (func (.func 77) #[] #[pointer (some (nb w))]).oneCell' = true ∧ (∃ u, o.cell? (nb m) = some u) ∧ o.frozen? (nb m) = false ∧
 ∀ p, p = (o.setCell (nb m) (func (.func 77) #[] #[pointer (some (nb w))])) →
 ∀ q, q = p.drew →
 ∃ r s t, q.cell? ((nb g).add 1) = some (slice r s t) ∧
 CP 78 #[int .i64 h, int .i64 n, func (.func 79) #[] #[pointer (some (nb w)), pointer (some (nb m))]] q (fun x y =>
 ∃ z a1 b1, x = .returned (slice z a1 b1) ∧
 (y.cell? ((nb g).add 1) = some (slice r s t) ∧ True) ∧
 ∀ c1, c1 = y.alloc (.cells #[slice z a1 b1] 28) →
 (c1.cell? ((nb g).add 1) = some (slice r s t) ∧ True) ∧
 ∃ d1 e1 f1 g1, (Builtin.append_ #[120, 120] 120 #[slice r s t, slice (some (nb y)) 1 1]).run Tryz.prog c1 = .ok (slice d1 e1 f1) g1 ∧
 (slice d1 e1 f1).oneCell' = true ∧ (∃ u, g1.cell? ((nb g).add 1) = some u) ∧ g1.frozen? ((nb g).add 1) = false ∧
 ∀ h1, h1 = (g1.setCell ((nb g).add 1) (slice d1 e1 f1)) →
 ∀ i1 : KW, (∀ (j1 : Int) (k1 : World), (CondP (decide (j1 < h))
 (∀ l1, l1 = k1.drew →
 ∃ m1, l1.cell? (nb w) = some (pointer m1) ∧
 ∃ n1, l1.cell? (nb m) = some (n1) ∧
 (CallG ctx n1 [int .i64 j1] l1 (fun o1 p1 =>
 ∃ q1, o1 = .returned (int .i64 q1) ∧
 (p1.cell? (nb w) = some (pointer m1) ∧ True) ∧
 (CP 31 #[pointer m1, int .i64 q1] p1 (fun r1 s1 =>
 ∃ t1 u1 v1, r1 = .returned (slice t1 u1 v1) ∧
 ∀ x1, x1 = s1.alloc (.cells #[slice none 0 0] 55) →
 (slice t1 u1 v1).oneCell' = true ∧ (∃ u, x1.cell? (nb s1) = some u) ∧ x1.frozen? (nb s1) = false ∧
 ∀ y1, y1 = (x1.setCell (nb s1) (slice t1 u1 v1)) →
 ∀ z1, z1 = y1.drew →
 ∃ a2 b2 c2, z1.cell? ((nb g).add 1) = some (slice a2 b2 c2) ∧
 CP 78 #[int .i64 h, int .i64 n, func (.func 80) #[] #[pointer (some (nb s1))]] z1 (fun d2 e2 =>
 ∃ f2 g2 h2, d2 = .returned (slice f2 g2 h2) ∧
 (e2.cell? ((nb g).add 1) = some (slice a2 b2 c2) ∧ True) ∧
 ∀ i2, i2 = e2.alloc (.cells #[slice f2 g2 h2] 28) →
 (i2.cell? ((nb g).add 1) = some (slice a2 b2 c2) ∧ True) ∧
 ∃ j2 k2 l2 m2, (Builtin.append_ #[120, 120] 120 #[slice a2 b2 c2, slice (some (nb e2)) 1 1]).run Tryz.prog i2 = .ok (slice j2 k2 l2) m2 ∧
 (slice j2 k2 l2).oneCell' = true ∧ (∃ u, m2.cell? ((nb g).add 1) = some u) ∧ m2.frozen? ((nb g).add 1) = false ∧
 ∀ n2, n2 = (m2.setCell ((nb g).add 1) (slice j2 k2 l2)) →
 Ar .i64 (j1 + 1) (fun o2 =>
 i1 [int .i64 o2] n2)))) ∧
 (∀ p2, p2 = p1.alloc (.cells #[slice none 0 0] 55) →
 (p2.cell? (nb w) = some (pointer m1) ∧ True) ∧
 CP 31 #[pointer m1, int .i64 q1] p2 (fun q2 r2 =>
 ∃ s2 t2 u2, q2 = .returned (slice s2 t2 u2) ∧
 (slice s2 t2 u2).oneCell' = true ∧ (∃ u, r2.cell? (nb p1) = some u) ∧ r2.frozen? (nb p1) = false ∧
 ∀ v2, v2 = (r2.setCell (nb p1) (slice s2 t2 u2)) →
 ∀ x2, x2 = v2.drew →
 ∃ y2 z2 a3, x2.cell? ((nb g).add 1) = some (slice y2 z2 a3) ∧
 CP 78 #[int .i64 h, int .i64 n, func (.func 80) #[] #[pointer (some (nb p1))]] x2 (fun b3 c3 =>
 ∃ d3 e3 f3, b3 = .returned (slice d3 e3 f3) ∧
 (c3.cell? ((nb g).add 1) = some (slice y2 z2 a3) ∧ True) ∧
 ∀ g3, g3 = c3.alloc (.cells #[slice d3 e3 f3] 28) →
 (g3.cell? ((nb g).add 1) = some (slice y2 z2 a3) ∧ True) ∧
 ∃ h3 i3 j3 k3, (Builtin.append_ #[120, 120] 120 #[slice y2 z2 a3, slice (some (nb c3)) 1 1]).run Tryz.prog g3 = .ok (slice h3 i3 j3) k3 ∧
 (slice h3 i3 j3).oneCell' = true ∧ (∃ u, k3.cell? ((nb g).add 1) = some u) ∧ k3.frozen? ((nb g).add 1) = false ∧
 ∀ l3, l3 = (k3.setCell ((nb g).add 1) (slice h3 i3 j3)) →
 Ar .i64 (j1 + 1) (fun m3 =>
 i1 [int .i64 m3] l3)))))) ∧
 (∀ n3, n3 = l1.alloc (.cells #[slice none 0 0] 55) →
 (n3.cell? (nb m) = some (n1) ∧ True) ∧
 (n3.cell? (nb w) = some (pointer m1) ∧ True) ∧
 CallG ctx n1 [int .i64 j1] n3 (fun o3 p3 =>
 ∃ q3, o3 = .returned (int .i64 q3) ∧
 (p3.cell? (nb w) = some (pointer m1) ∧ True) ∧
 CP 31 #[pointer m1, int .i64 q3] p3 (fun r3 s3 =>
 ∃ t3 u3 v3, r3 = .returned (slice t3 u3 v3) ∧
 (slice t3 u3 v3).oneCell' = true ∧ (∃ u, s3.cell? (nb l1) = some u) ∧ s3.frozen? (nb l1) = false ∧
 ∀ x3, x3 = (s3.setCell (nb l1) (slice t3 u3 v3)) →
 ∀ y3, y3 = x3.drew →
 ∃ z3 a4 b4, y3.cell? ((nb g).add 1) = some (slice z3 a4 b4) ∧
 CP 78 #[int .i64 h, int .i64 n, func (.func 80) #[] #[pointer (some (nb l1))]] y3 (fun c4 d4 =>
 ∃ e4 f4 g4, c4 = .returned (slice e4 f4 g4) ∧
 (d4.cell? ((nb g).add 1) = some (slice z3 a4 b4) ∧ True) ∧
 ∀ h4, h4 = d4.alloc (.cells #[slice e4 f4 g4] 28) →
 (h4.cell? ((nb g).add 1) = some (slice z3 a4 b4) ∧ True) ∧
 ∃ i4 j4 k4 l4, (Builtin.append_ #[120, 120] 120 #[slice z3 a4 b4, slice (some (nb d4)) 1 1]).run Tryz.prog h4 = .ok (slice i4 j4 k4) l4 ∧
 (slice i4 j4 k4).oneCell' = true ∧ (∃ u, l4.cell? ((nb g).add 1) = some u) ∧ l4.frozen? ((nb g).add 1) = false ∧
 ∀ m4, m4 = (l4.setCell ((nb g).add 1) (slice i4 j4 k4)) →
 Ar .i64 (j1 + 1) (fun n4 =>
 i1 [int .i64 n4] m4))))))
 (∀ o4, o4 = k1.drew →
 ∃ p4 q4 r4, o4.cell? ((nb g).add 1) = some (slice p4 q4 r4) ∧
 CP 78 #[int .i64 h, int .i64 n, func (.func 81) #[] #[]] o4 (fun s4 t4 =>
 ∃ u4 v4 x4, s4 = .returned (slice u4 v4 x4) ∧
 (t4.cell? ((nb g).add 1) = some (slice p4 q4 r4) ∧ True) ∧
 ∀ y4, y4 = t4.alloc (.cells #[slice u4 v4 x4] 28) →
 (y4.cell? ((nb g).add 1) = some (slice p4 q4 r4) ∧ True) ∧
 ∃ z4 a5 b5 c5, (Builtin.append_ #[120, 120] 120 #[slice p4 q4 r4, slice (some (nb t4)) 1 1]).run Tryz.prog y4 = .ok (slice z4 a5 b5) c5 ∧
 (slice z4 a5 b5).oneCell' = true ∧ (∃ u, c5.cell? ((nb g).add 1) = some u) ∧ c5.frozen? ((nb g).add 1) = false ∧
 ∀ d5, d5 = (c5.setCell ((nb g).add 1) (slice z4 a5 b5)) →
 ∀ e5, e5 = d5.alloc (.cells #[bool true] 4) →
 Ar .i64 (h + 2) (fun f5 =>
 CP 82 #[slice (some (nb d5)) 1 1, int .i64 f5] e5 (fun g5 h5 =>
 ∃ i5 j5 k5, g5 = .returned (slice i5 j5 k5) ∧
 (slice i5 j5 k5).oneCell' = true ∧ (∃ u, h5.cell? ((nb g).add 2) = some u) ∧ h5.frozen? ((nb g).add 2) = false ∧
 ∀ l5, l5 = (h5.setCell ((nb g).add 2) (slice i5 j5 k5)) →
 ∃ m5 n5 o5, l5.cell? ((nb g).add 2) = some (slice m5 n5 o5) ∧
 NilC m5 (fun p5 =>
 (0 : Int) ≤ n ∧ n < (n5 : Int) ∧
 (bool false).oneCell' = true ∧ (∃ u, l5.cell? (p5.add (n.toNat * 1)) = some u) ∧ l5.frozen? (p5.add (n.toNat * 1)) = false ∧
 ∀ q5, q5 = (l5.setCell (p5.add (n.toNat * 1)) (bool false)) →
 R (tuple #[pointer (some (nb g)), int .i64 0]) q5)))))) → i1 [int .i64 j1] k1) →
 i1 [int .i64 0] h1)))))))
theorem vc42_calls (a : OA) (b : Int) (w : World) (R : RW) (hh : vc42 a b w R) : CR 42 #[pointer a, int .i64 b] w R :=
 cden (fn := Tryz.f42) (by kernel_rfl) (by kernel_rfl) (by kernel_rfl) (by kernel_rfl) (by kernel_rfl) hh
def vc43 (a : OA) (w : World) (R : RW) : Prop :=
 CondP (Option.isNone a)
 (R (int .i64 0) w)
 (NilC a (fun b =>
 ∃ c d f, w.cell? (b.add 1) = some (slice c d f) ∧
 R (int .i64 (d : Int)) w))
theorem vc43_calls (a : OA) (w : World) (R : RW) (hh : vc43 a w R) : CR 43 #[pointer a] w R :=
 cden (fn := Tryz.f43) (by kernel_rfl) (by kernel_rfl) (by kernel_rfl) (by kernel_rfl) (by kernel_rfl) hh
def vc44 (a : OA) (b : Int) (w : World) (R : RW) : Prop :=
 CP 75 #[pointer a, int .i64 b] w (fun c d =>
 ∃ f, c = .returned (bool f) ∧
 CondP f
 (NilC a (fun g =>
 ∃ h i j, d.cell? (g.add 2) = some (slice h i j) ∧
 NilC h (fun k =>
 (0 : Int) ≤ b ∧ b < (i : Int) ∧
 ∃ l, d.cell? (k.add (b.toNat * 1)) = some (bool l) ∧
 R (bool l) d)))
 (R (bool false) d))
theorem vc44_calls (a : OA) (b : Int) (w : World) (R : RW) (hh : vc44 a b w R) : CR 44 #[pointer a, int .i64 b] w R :=
 cden (fn := Tryz.f44) (by kernel_rfl) (by kernel_rfl) (by kernel_rfl) (by kernel_rfl) (by kernel_rfl) hh
def vc45 (a : OA) (b c : Int) (w : World) (R : RW) : Prop :=
 CP 75 #[pointer a, int .i64 b] w (fun d f =>
 ∃ g, d = .returned (bool g) ∧
 CondP (!g)
 (R (tuple #[int .i64 0, bool false]) f)
 (NilC a (fun h =>
 ∃ i, f.cell? (h.add 0) = some (pointer i) ∧
 CP 41 #[pointer i, int .i64 c] f (fun j k =>
 ∃ l m, j = .returned (tuple #[int .i64 l, bool m]) ∧
 CondP (!m)
 (R (tuple #[int .i64 0, bool false]) k)
 (NilC a (fun n =>
 ∃ o p q, k.cell? (n.add 1) = some (slice o p q) ∧
 NilC o (fun r =>
 (0 : Int) ≤ b ∧ b < (p : Int) ∧
 ∃ s t u, k.cell? (r.add (b.toNat * 1)) = some (slice s t u) ∧
 NilC s (fun x =>
 (0 : Int) ≤ l ∧ l < (t : Int) ∧
 ∃ y, k.cell? (x.add (l.toNat * 1)) = some (int .i64 y) ∧
 R (tuple #[int .i64 y, bool true]) k))))))))
theorem vc45_calls (a : OA) (b c : Int) (w : World) (R : RW) (hh : vc45 a b c w R) : CR 45 #[pointer a, int .i64 b, int .i64 c] w R :=
 cden (fn := Tryz.f45) (by kernel_rfl) (by kernel_rfl) (by kernel_rfl) (by kernel_rfl) (by kernel_rfl) hh
def vc46 (a : OA) (w : World) (R : RW) : Prop :=
 CondP (Option.isNone a)
 (R (pointer none) w)
 (CP 76 #[pointer a] w (fun b c =>
 ∃ d f g, b = .returned (slice d f g) ∧
 ∀ h, h = c.alloc (.cells #[slice none 0 0] 28) →
 (slice d f g).oneCell' = true ∧ (∃ u, h.cell? (nb c) = some u) ∧ h.frozen? (nb c) = false ∧
 ∀ i, i = (h.setCell (nb c) (slice d f g)) →
 CP 83 #[pointer a, func (.func 84) #[] #[pointer (some (nb c))]] i (fun j k =>
 ∃ l m n o, j = .returned (tuple #[slice l m n, map o]) ∧
 NilC a (fun p =>
 ∃ q, k.cell? (p.add 0) = some (pointer q) ∧
 ∀ r, r = k.alloc (.cells #[pointer q, slice none 0 0, slice none 0 0, int .u32 0, int .i32 0, int .u32 0, slice none 0 0] 136) →
 ∀ s : KW, (∀ (t : Int) (x : World), (CondP (decide (t < (m : Int)))
 (NilC l (fun y =>
 (0 : Int) ≤ t ∧ t < (m : Int) ∧
 ∃ z, x.cell? (y.add (t.toNat * 1)) = some (int .i64 z) ∧
 NilC a (fun a1 =>
 ∃ b1 c1 d1, x.cell? (a1.add 1) = some (slice b1 c1 d1) ∧
 NilC b1 (fun e1 =>
 (0 : Int) ≤ z ∧ z < (c1 : Int) ∧
 ∃ f1 g1 h1, x.cell? (e1.add (z.toNat * 1)) = some (slice f1 g1 h1) ∧
 ∀ i1 : KW, (∀ (j1 : Int) (k1 : OA) (l1 m1 : Nat) (n1 : World), (CondP (decide (j1 < (g1 : Int)))
 (NilC f1 (fun o1 =>
 (0 : Int) ≤ j1 ∧ j1 < (g1 : Int) ∧
 ∃ p1, n1.cell? (o1.add (j1.toNat * 1)) = some (int .i64 p1) ∧
 ∃ q1 r1 s1, n1.cell? (nb c) = some (slice q1 r1 s1) ∧
 NilC q1 (fun t1 =>
 (0 : Int) ≤ p1 ∧ p1 < (r1 : Int) ∧
 ∃ u1, n1.cell? (t1.add (p1.toNat * 1)) = some (int .i64 u1) ∧
 ∃ v1 x1, (Instr.lookup 107 (map o) (int .i64 u1) false).run Tryz.prog n1 = .ok (int .i64 v1) x1 ∧
 ∀ y1, y1 = x1.alloc (.cells #[int .i64 v1] 3) →
 ∃ z1 a2 b2 c2, (Builtin.append_ #[28, 28] 28 #[slice k1 l1 m1, slice (some (nb x1)) 1 1]).run Tryz.prog y1 = .ok (slice z1 a2 b2) c2 ∧
 Ar .i64 (j1 + 1) (fun d2 =>
 i1 [int .i64 d2, slice z1 a2 b2] c2))))
 (∃ e2 f2 g2, n1.cell? ((nb k).add 1) = some (slice e2 f2 g2) ∧
 ∀ h2, h2 = n1.alloc (.cells #[slice k1 l1 m1] 28) →
 ∃ i2 j2 k2 l2, (Builtin.append_ #[120, 120] 120 #[slice e2 f2 g2, slice (some (nb n1)) 1 1]).run Tryz.prog h2 = .ok (slice i2 j2 k2) l2 ∧
 (slice i2 j2 k2).oneCell' = true ∧ (∃ u, l2.cell? ((nb k).add 1) = some u) ∧ l2.frozen? ((nb k).add 1) = false ∧
 ∀ m2, m2 = (l2.setCell ((nb k).add 1) (slice i2 j2 k2)) →
 ∀ n2, n2 = m2.drew →
 ∃ o2 p2 q2, n2.cell? ((nb k).add 2) = some (slice o2 p2 q2) ∧
 NilC a (fun r2 =>
 ∃ s2 t2 u2, n2.cell? (r2.add 2) = some (slice s2 t2 u2) ∧
 NilC s2 (fun v2 =>
 (0 : Int) ≤ z ∧ z < (t2 : Int) ∧
 ∃ x2, n2.cell? (v2.add (z.toNat * 1)) = some (bool x2) ∧
 ∀ y2, y2 = n2.alloc (.cells #[bool x2] 4) →
 (y2.cell? ((nb k).add 2) = some (slice o2 p2 q2) ∧ True) ∧
 ∃ z2 a3 b3 c3, (Builtin.append_ #[72, 72] 72 #[slice o2 p2 q2, slice (some (nb n2)) 1 1]).run Tryz.prog y2 = .ok (slice z2 a3 b3) c3 ∧
 (slice z2 a3 b3).oneCell' = true ∧ (∃ u, c3.cell? ((nb k).add 2) = some u) ∧ c3.frozen? ((nb k).add 2) = false ∧
 ∀ d3, d3 = (c3.setCell ((nb k).add 2) (slice z2 a3 b3)) →
 Ar .i64 (t + 1) (fun e3 =>
 s [int .i64 e3] d3))))) → i1 [int .i64 j1, slice k1 l1 m1] n1) →
 i1 [int .i64 0, slice none 0 0] x))))
 (R (pointer (some (nb k))) x)) → s [int .i64 t] x) →
 s [int .i64 0] r))))
theorem vc46_calls (a : OA) (w : World) (R : RW) (hh : vc46 a w R) : CR 46 #[pointer a] w R :=
 cden (fn := Tryz.f46) (by kernel_rfl) (by kernel_rfl) (by kernel_rfl) (by kernel_rfl) (by kernel_rfl) hh
def vc59 (a b : OA) (c d : Nat) (w : World) (R : RW) : Prop :=
 ∀ f : KW, (∀ (g h : Int) (i : Bool) (j : Int) (k : World), (CondP (decide (g < (c : Int)))
 (NilC b (fun l =>
 (0 : Int) ≤ g ∧ g < (c : Int) ∧
 ∃ m, k.cell? (l.add (g.toNat * 1)) = some (int .i64 m) ∧
 CP 45 #[pointer a, int .i64 h, int .i64 m] k (fun n o =>
 ∃ p q, n = .returned (tuple #[int .i64 p, bool q]) ∧
 CondP (!q)
 (R (tuple #[int .i64 g, bool true]) o)
 (NilC a (fun r =>
 ∃ s t u, o.cell? (r.add 2) = some (slice s t u) ∧
 NilC s (fun x =>
 (0 : Int) ≤ p ∧ p < (t : Int) ∧
 ∃ y, o.cell? (x.add (p.toNat * 1)) = some (bool y) ∧
 CondP (!y)
 (R (tuple #[int .i64 g, bool true]) o)
 (Ar .i64 (g + 1) (fun z =>
 f [int .i64 z, int .i64 p, bool i, int .i64 j] o))))))))
 (R (tuple #[int .i64 0, bool false]) k)) → f [int .i64 g, int .i64 h, bool i, int .i64 j] k) →
 f [int .i64 0, int .i64 0, bool false, int .i64 0] w
theorem vc59_calls (a b : OA) (c d : Nat) (w : World) (R : RW) (hh : vc59 a b c d w R) : CR 59 #[pointer a, slice b c d] w R :=
 cden (fn := Tryz.f59) (by kernel_rfl) (by kernel_rfl) (by kernel_rfl) (by kernel_rfl) (by kernel_rfl) hh
def vc60 (a b : OA) (c d : Nat) (w : World) (R : RW) : Prop :=
 ∀ f : KW, (∀ (g h : Int) (i : Bool) (j : Int) (k : World), (CondP (decide (g < (c : Int)))
 (NilC b (fun l =>
 (0 : Int) ≤ g ∧ g < (c : Int) ∧
 ∃ m, k.cell? (l.add (g.toNat * 1)) = some (int .i64 m) ∧
 CP 45 #[pointer a, int .i64 h, int .i64 m] k (fun n o =>
 ∃ p q, n = .returned (tuple #[int .i64 p, bool q]) ∧
 CondP (!q)
 (R (tuple #[int .i64 0, bool false]) o)
 (Ar .i64 (g + 1) (fun r =>
 f [int .i64 r, int .i64 p, bool i, int .i64 j] o)))))
 (R (tuple #[int .i64 h, bool (!(Option.isNone a))]) k)) → f [int .i64 g, int .i64 h, bool i, int .i64 j] k) →
 f [int .i64 0, int .i64 0, bool false, int .i64 0] w
theorem vc60_calls (a b : OA) (c d : Nat) (w : World) (R : RW) (hh : vc60 a b c d w R) : CR 60 #[pointer a, slice b c d] w R :=
 cden (fn := Tryz.f60) (by kernel_rfl) (by kernel_rfl) (by kernel_rfl) (by kernel_rfl) (by kernel_rfl) hh
def vc75 (a : OA) (b : Int) (w : World) (R : RW) : Prop :=
 CondP (decide (b ≥ 0))
 (CP 43 #[pointer a] w (fun c d =>
 ∃ f, c = .returned (int .i64 f) ∧
 R (bool (decide (b < f))) d))
 (R (bool false) w)
theorem vc75_calls (a : OA) (b : Int) (w : World) (R : RW) (hh : vc75 a b w R) : CR 75 #[pointer a, int .i64 b] w R :=
 cden (fn := Tryz.f75) (by kernel_rfl) (by kernel_rfl) (by kernel_rfl) (by kernel_rfl) (by kernel_rfl) hh
def vc76 (a : OA) (w : World) (R : RW) : Prop :=
 NilC a (fun b =>
 CP 113 #[pointer (some ((b.add 3).add 0)), func (.func 114) #[pointer a] #[]] w (fun c d =>
 c = .returned (tuple #[]) ∧
 NilC a (fun f =>
 ∃ g h i, d.cell? ((f.add 3).add 3) = some (slice g h i) ∧
 R (slice g h i) d)))
theorem vc76_calls (a : OA) (w : World) (R : RW) (hh : vc76 a w R) : CR 76 #[pointer a] w R :=
 cden (fn := Tryz.f76) (by kernel_rfl) (by kernel_rfl) (by kernel_rfl) (by kernel_rfl) (by kernel_rfl) hh
def vc77 (a : Int) (b : OA) (w : World) (R : RW) : Prop :=
 NilC b (fun c =>
 ∃ d, w.cell? c = some (pointer d) ∧
 CP 25 #[pointer d, int .i64 a] w (fun f g =>
 ∃ h i, f = .returned (tuple #[int .i64 h, bool i]) ∧
 R (int .i64 h) g))
theorem vc77_calls (a : Int) (b : OA) (w : World) (R : RW) (hh : vc77 a b w R) : CR 77 #[int .i64 a, pointer b] w R :=
 cden (fn := Tryz.f77) (by kernel_rfl) (by kernel_rfl) (by kernel_rfl) (by kernel_rfl) (by kernel_rfl) hh
def vc78 (a b : Int) (c : Value) (w : World) (R : RW) : Prop :=
 ∃ d f g h, (Instr.makeSlice 28 (int .i64 a) (int .i64 a)).run Tryz.prog w = .ok (slice d f g) h ∧
 ∀ i : KW, (∀ (j : Int) (k : World), (CondP (decide (j < (f : Int)))
 (∀ l : KW, (∀ m : World, (Ar .i64 (j + 1) (fun n =>
 i [int .i64 n] m)) → l [] m) →
 NilC d (fun o =>
 (0 : Int) ≤ j ∧ j < (f : Int) ∧
 (int .i64 b).oneCell' = true ∧ (∃ u, k.cell? (o.add (j.toNat * 1)) = some u) ∧ k.frozen? (o.add (j.toNat * 1)) = false ∧
 ∀ p, p = (k.setCell (o.add (j.toNat * 1)) (int .i64 b)) →
 CallG ctx c [int .i64 j] p (fun q r =>
 ∃ s, q = .returned (bool s) ∧
 CondP s
 (Ar .i64 (j + 1) (fun t =>
 NilC d (fun x =>
 (0 : Int) ≤ j ∧ j < (f : Int) ∧
 (int .i64 t).oneCell' = true ∧ (∃ u, r.cell? (x.add (j.toNat * 1)) = some u) ∧ r.frozen? (x.add (j.toNat * 1)) = false ∧
 ∀ y, y = (r.setCell (x.add (j.toNat * 1)) (int .i64 t)) →
 l [] y)))
 (l [] r))))
 (R (slice d f g) k)) → i [int .i64 j] k) →
 i [int .i64 0] h
theorem vc78_calls (a b : Int) (c : Value) (w : World) (R : RW) (hh : vc78 a b c w R) : CR 78 #[int .i64 a, int .i64 b, c] w R :=
 cden (fn := Tryz.f78) (by kernel_rfl) (by kernel_rfl) (by kernel_rfl) (by kernel_rfl) (by kernel_rfl) hh
def vc79 (a : Int) (b c : OA) (w : World) (R : RW) : Prop :=
 ∀ d, d = w.drew →
 NilC b (fun f =>
 ∃ g, d.cell? f = some (pointer g) ∧
 NilC c (fun h =>
 ∃ i, d.cell? h = some (i) ∧
 CallG ctx i [int .i64 a] d (fun j k =>
 ∃ l, j = .returned (int .i64 l) ∧
 (k.cell? f = some (pointer g) ∧ True) ∧
 CP 32 #[pointer g, int .i64 l] k (fun m n =>
 ∃ o, m = .returned (bool o) ∧
 R (bool o) n))))
theorem vc79_calls (a : Int) (b c : OA) (w : World) (R : RW) (hh : vc79 a b c w R) : CR 79 #[int .i64 a, pointer b, pointer c] w R :=
 cden (fn := Tryz.f79) (by kernel_rfl) (by kernel_rfl) (by kernel_rfl) (by kernel_rfl) (by kernel_rfl) hh
def vc80 (a : Int) (b : OA) (w : World) (R : RW) : Prop :=
 NilC b (fun c =>
 ∃ d f g, w.cell? c = some (slice d f g) ∧
 (64 : Int) ≠ 0 ∧
 NilC d (fun h =>
 (0 : Int) ≤ (IntKind.wrap .i64 (Int.tdiv a 64)) ∧ (IntKind.wrap .i64 (Int.tdiv a 64)) < (f : Int) ∧
 ∃ i, w.cell? (h.add ((IntKind.wrap .i64 (Int.tdiv a 64) : Int).toNat * 1)) = some (int .u64 i) ∧
 (64 : Int) ≠ 0 ∧
 (0 : Int) ≤ (Int.tmod a 64) ∧
 R (bool ((IntKind.wrap .u64 ((BitVec.ofInt (IntKind.bits .u64) (Int.fdiv i (2 ^ (min (Int.tmod a 64 : Int).toNat (IntKind.bits .u64)))) &&& BitVec.ofInt (IntKind.bits .u64) 1).toNat : Int) : Int) == 1)) w))
theorem vc80_calls (a : Int) (b : OA) (w : World) (R : RW) (hh : vc80 a b w R) : CR 80 #[int .i64 a, pointer b] w R :=
 cden (fn := Tryz.f80) (by kernel_rfl) (by kernel_rfl) (by kernel_rfl) (by kernel_rfl) (by kernel_rfl) hh
def vc81 (a : Int) (w : World) (R : RW) : Prop :=
 R (bool false) w
theorem vc81_calls (a : Int) (w : World) (R : RW) (hh : vc81 a w R) : CR 81 #[int .i64 a] w R :=
 cden (fn := Tryz.f81) (by kernel_rfl) (by kernel_rfl) (by kernel_rfl) (by kernel_rfl) (by kernel_rfl) hh
def vc82 (a : OA) (b c : Nat) (d : Int) (w : World) (R : RW) : Prop :=
 ∀ f : KW, (∀ g : World, (CP 115 #[int .u64 (IntKind.wrap .u64 (b : Int)), int .u64 (IntKind.wrap .u64 d)] g (fun h i =>
 ∃ j k, h = .returned (tuple #[int .u64 j, int .u64 k]) ∧
 ∀ l : KW, (∀ m : World, (∃ n o p q, (Instr.makeSlice 72 (int .i64 (IntKind.wrap .i64 k)) (int .i64 (IntKind.wrap .i64 k))).run Tryz.prog m = .ok (slice n o p) q ∧
 ∃ r s, (Builtin.copy_ #[72, 72] 3 #[slice n o p, slice a b c]).run Tryz.prog q = .ok (int .i64 r) s ∧
 ∀ t : KW, (∀ (u : Int) (x : World), (CondP (decide (u < (o : Int)))
 (∀ y, y = x.drew →
 (0 : Int) ≤ u ∧ u ≤ (o : Int) ∧ True ∧ True ∧ True ∧
 (0 : Int) ≤ (0 : Int) ∧ (0 : Int) ≤ u ∧ u ≤ (p : Int) ∧ True ∧ True ∧
 ∃ z a1, (Builtin.copy_ #[72, 72] 3 #[slice (slBase n u.toNat (p : Int).toNat 1) ((o : Int).toNat - u.toNat) ((p : Int).toNat - u.toNat), slice (slBase n (0 : Int).toNat (p : Int).toNat 1) (u.toNat - (0 : Int).toNat) ((p : Int).toNat - (0 : Int).toNat)]).run Tryz.prog y = .ok (int .i64 z) a1 ∧
 Ar .i64 (u + z) (fun b1 =>
 t [int .i64 b1] a1))
 (R (slice n o p) x)) → t [int .i64 u] x) →
 t [int .i64 r] s) → l [] m) →
 CondP (decide (j > 0))
 (False)
 (CondP (decide (k > 9223372036854775807))
 (False)
 (l [] i)))) → f [] g) →
 CondP (decide (d < 0))
 (False)
 (f [] w)
theorem vc82_calls (a : OA) (b c : Nat) (d : Int) (w : World) (R : RW) (hh : vc82 a b c d w R) : CR 82 #[slice a b c, int .i64 d] w R :=
 cden (fn := Tryz.f82) (by kernel_rfl) (by kernel_rfl) (by kernel_rfl) (by kernel_rfl) (by kernel_rfl) hh
def vc83 (a : OA) (b : Value) (w : World) (R : RW) : Prop :=
 ∀ c, c = w.alloc (.cells #[int .i64 0] 3) →
 ∃ d f, (Instr.makeMap 107 none).run Tryz.prog c = .ok (map d) f ∧
 CallG ctx b [int .i64 0] f (fun g h =>
 ∃ i, g = .returned (int .i64 i) ∧
 ∃ j, (Instr.mapUpdate 107 (map d) (int .i64 i) (int .i64 0)).run Tryz.prog h = .ok () j ∧
 ∀ k : KW, (∀ (l : Int) (m : OA) (n o : Nat) (p : World), (CondP (decide (l < (n : Int)))
 (∀ q, q = p.drew →
 NilC a (fun r =>
 ∃ s t u, q.cell? (r.add 1) = some (slice s t u) ∧
 NilC m (fun x =>
 (0 : Int) ≤ l ∧ l < (n : Int) ∧
 ∃ y, q.cell? (x.add (l.toNat * 1)) = some (int .i64 y) ∧
 NilC s (fun z =>
 (0 : Int) ≤ y ∧ y < (t : Int) ∧
 ∃ a1 b1 c1, q.cell? (z.add (y.toNat * 1)) = some (slice a1 b1 c1) ∧
 ∀ d1 : KW, (∀ (e1 : Int) (f1 : OA) (g1 h1 : Nat) (i1 : World), (CondP (decide (e1 < (b1 : Int)))
 (∀ j1 : KW, (∀ (k1 : OA) (l1 m1 : Nat) (n1 : World), (Ar .i64 (e1 + 1) (fun o1 =>
 d1 [int .i64 o1, slice k1 l1 m1] n1)) → j1 [slice k1 l1 m1] n1) →
 NilC a1 (fun p1 =>
 (0 : Int) ≤ e1 ∧ e1 < (b1 : Int) ∧
 ∃ q1, i1.cell? (p1.add (e1.toNat * 1)) = some (int .i64 q1) ∧
 CallG ctx b [int .i64 q1] i1 (fun r1 s1 =>
 ∃ t1, r1 = .returned (int .i64 t1) ∧
 ∃ u1 v1 x1, (Instr.lookup 107 (map d) (int .i64 t1) true).run Tryz.prog s1 = .ok (tuple #[int .i64 u1, bool v1]) x1 ∧
 CondP (!v1)
 (CallG ctx b [int .i64 q1] x1 (fun y1 z1 =>
 ∃ a2, y1 = .returned (int .i64 a2) ∧
 ∃ b2, (Instr.mapUpdate 107 (map d) (int .i64 a2) (int .i64 (g1 : Int))).run Tryz.prog z1 = .ok () b2 ∧
 ∀ c2, c2 = b2.alloc (.cells #[int .i64 q1] 3) →
 ∃ d2 e2 f2 g2, (Builtin.append_ #[28, 28] 28 #[slice f1 g1 h1, slice (some (nb b2)) 1 1]).run Tryz.prog c2 = .ok (slice d2 e2 f2) g2 ∧
 j1 [slice d2 e2 f2] g2))
 (j1 [slice f1 g1 h1] x1))))
 (Ar .i64 (l + 1) (fun h2 =>
 k [int .i64 h2, slice f1 g1 h1] i1))) → d1 [int .i64 e1, slice f1 g1 h1] i1) →
 d1 [int .i64 0, slice m n o] q))))
 (R (tuple #[slice m n o, map d]) p)) → k [int .i64 l, slice m n o] p) →
 k [int .i64 0, slice (some (nb w)) 1 1] j)
theorem vc83_calls (a : OA) (b : Value) (w : World) (R : RW) (hh : vc83 a b w R) : CR 83 #[pointer a, b] w R :=
 cden (fn := Tryz.f83) (by kernel_rfl) (by kernel_rfl) (by kernel_rfl) (by kernel_rfl) (by kernel_rfl) hh
def vc84 (a : Int) (b : OA) (w : World) (R : RW) : Prop :=
 NilC b (fun c =>
 ∃ d f g, w.cell? c = some (slice d f g) ∧
 NilC d (fun h =>
 (0 : Int) ≤ a ∧ a < (f : Int) ∧
 ∃ i, w.cell? (h.add (a.toNat * 1)) = some (int .i64 i) ∧
 R (int .i64 i) w))
theorem vc84_calls (a : Int) (b : OA) (w : World) (R : RW) (hh : vc84 a b w R) : CR 84 #[int .i64 a, pointer b] w R :=
 cden (fn := Tryz.f84) (by kernel_rfl) (by kernel_rfl) (by kernel_rfl) (by kernel_rfl) (by kernel_rfl) hh
def vc114 (a : OA) (w : World) (R : RW) : Prop :=
 ∀ b, b = w.alloc (.cells #[pointer a] 62) →
 ∃ c, b.cell? (nb w) = some (pointer c) ∧
 CP 43 #[pointer c] b (fun d f =>
 ∃ g, d = .returned (int .i64 g) ∧
 CP 161 #[int .i64 g, func (.func 162) #[] #[pointer (some (nb w))]] f (fun h i =>
 ∃ j k l m, h = .returned (tuple #[slice j k l, int .i64 m]) ∧
 ∀ n, n = i.alloc (.cells #[slice none 0 0] 28) →
 (slice j k l).oneCell' = true ∧ (∃ u, n.cell? (nb i) = some u) ∧ n.frozen? (nb i) = false ∧
 ∀ o, o = (n.setCell (nb i) (slice j k l)) →
 ∀ p : KW, (∀ (q : Int) (r : World), (∃ s, r.cell? (nb w) = some (pointer s) ∧
 CP 43 #[pointer s] r (fun t x =>
 ∃ y, t = .returned (int .i64 y) ∧
 CP 163 #[int .i64 y, func (.func 164) #[] #[pointer (some (nb i)), pointer (some (nb w))]] x (fun z a1 =>
 ∃ b1 c1 d1 e1, z = .returned (tuple #[slice b1 c1 d1, int .i64 e1]) ∧
 (slice b1 c1 d1).oneCell' = true ∧ (∃ u, a1.cell? (nb i) = some u) ∧ a1.frozen? (nb i) = false ∧
 ∀ f1, f1 = (a1.setCell (nb i) (slice b1 c1 d1)) →
 CondP (e1 == q)
 (∃ g1, f1.cell? (nb w) = some (pointer g1) ∧
 ∃ h1 i1 j1, f1.cell? (nb i) = some (slice h1 i1 j1) ∧
 NilC g1 (fun k1 =>
 (slice h1 i1 j1).oneCell' = true ∧ (∃ u, f1.cell? ((k1.add 3).add 3) = some u) ∧ f1.frozen? ((k1.add 3).add 3) = false ∧
 ∀ l1, l1 = (f1.setCell ((k1.add 3).add 3) (slice h1 i1 j1)) →
 R (tuple #[]) l1))
 (p [int .i64 e1] f1)))) → p [int .i64 q] r) →
 p [int .i64 m] o))
theorem vc114_calls (a : OA) (w : World) (R : RW) (hh : vc114 a w R) : CR 114 #[pointer a] w R :=
 cden (fn := Tryz.f114) (by kernel_rfl) (by kernel_rfl) (by kernel_rfl) (by kernel_rfl) (by kernel_rfl) hh
def vc115 (a b : Int) (w : World) (R : RW) : Prop :=
 CP 167 #[int .u64 a, int .u64 b] w (fun c d =>
 ∃ f g, c = .returned (tuple #[int .u64 f, int .u64 g]) ∧
 R (tuple #[int .u64 f, int .u64 g]) d)
theorem vc115_calls (a b : Int) (w : World) (R : RW) (hh : vc115 a b w R) : CR 115 #[int .u64 a, int .u64 b] w R :=
 cden (fn := Tryz.f115) (by kernel_rfl) (by kernel_rfl) (by kernel_rfl) (by kernel_rfl) (by kernel_rfl) hh
def vc161 (a : Int) (b : Value) (w : World) (R : RW) : Prop :=
 ∃ c d, (Instr.makeMap 299 none).run Tryz.prog w = .ok (map c) d ∧
 ∃ f g h i, (Instr.makeSlice 28 (int .i64 a) (int .i64 a)).run Tryz.prog d = .ok (slice f g h) i ∧
 ∀ j : KW, (∀ (k : Int) (l : World), (CondP (decide (k < a))
 (CallG ctx b [int .i64 k] l (fun m n =>
 ∃ o, m = .returned (bool o) ∧
 ∃ p q r, (Instr.lookup 299 (map c) (bool o) true).run Tryz.prog n = .ok (tuple #[int .i64 p, bool q]) r ∧
 ∀ s : KW, (∀ (t : Int) (x : World), (NilC f (fun y =>
 (0 : Int) ≤ k ∧ k < (g : Int) ∧
 (int .i64 t).oneCell' = true ∧ (∃ u, x.cell? (y.add (k.toNat * 1)) = some u) ∧ x.frozen? (y.add (k.toNat * 1)) = false ∧
 ∀ z, z = (x.setCell (y.add (k.toNat * 1)) (int .i64 t)) →
 Ar .i64 (k + 1) (fun a1 =>
 j [int .i64 a1] z))) → s [int .i64 t] x) →
 CondP (!q)
 (∃ b1 c1, (Builtin.len_ #[299] 3 #[map c]).run Tryz.prog r = .ok (int .i64 b1) c1 ∧
 ∃ d1, (Instr.mapUpdate 299 (map c) (bool o) (int .i64 b1)).run Tryz.prog c1 = .ok () d1 ∧
 s [int .i64 b1] d1)
 (s [int .i64 p] r)))
 (∃ e1 f1, (Builtin.len_ #[299] 3 #[map c]).run Tryz.prog l = .ok (int .i64 e1) f1 ∧
 R (tuple #[slice f g h, int .i64 e1]) f1)) → j [int .i64 k] l) →
 j [int .i64 0] i
theorem vc161_calls (a : Int) (b : Value) (w : World) (R : RW) (hh : vc161 a b w R) : CR 161 #[int .i64 a, b] w R :=
 cden (fn := Tryz.f161) (by kernel_rfl) (by kernel_rfl) (by kernel_rfl) (by kernel_rfl) (by kernel_rfl) hh
def vc162 (a : Int) (b : OA) (w : World) (R : RW) : Prop :=
 NilC b (fun c =>
 ∃ d, w.cell? c = some (pointer d) ∧
 NilC d (fun f =>
 ∃ g h i, w.cell? (f.add 2) = some (slice g h i) ∧
 NilC g (fun j =>
 (0 : Int) ≤ a ∧ a < (h : Int) ∧
 ∃ k, w.cell? (j.add (a.toNat * 1)) = some (bool k) ∧
 R (bool k) w)))
theorem vc162_calls (a : Int) (b : OA) (w : World) (R : RW) (hh : vc162 a b w R) : CR 162 #[int .i64 a, pointer b] w R :=
 cden (fn := Tryz.f162) (by kernel_rfl) (by kernel_rfl) (by kernel_rfl) (by kernel_rfl) (by kernel_rfl) hh
def vc163 (a : Int) (b : Value) (w : World) (R : RW) : Prop :=
 ∃ c d, (Instr.makeMap 177 none).run Tryz.prog w = .ok (map c) d ∧
 ∃ f g h i, (Instr.makeSlice 28 (int .i64 a) (int .i64 a)).run Tryz.prog d = .ok (slice f g h) i ∧
 ∀ j : KW, (∀ (k : Int) (l : World), (CondP (decide (k < a))
 (CallG ctx b [int .i64 k] l (fun m n =>
 ∃ o, m = .returned (string o) ∧
 ∃ p q r, (Instr.lookup 177 (map c) (string o) true).run Tryz.prog n = .ok (tuple #[int .i64 p, bool q]) r ∧
 ∀ s : KW, (∀ (t : Int) (x : World), (NilC f (fun y =>
 (0 : Int) ≤ k ∧ k < (g : Int) ∧
 (int .i64 t).oneCell' = true ∧ (∃ u, x.cell? (y.add (k.toNat * 1)) = some u) ∧ x.frozen? (y.add (k.toNat * 1)) = false ∧
 ∀ z, z = (x.setCell (y.add (k.toNat * 1)) (int .i64 t)) →
 Ar .i64 (k + 1) (fun a1 =>
 j [int .i64 a1] z))) → s [int .i64 t] x) →
 CondP (!q)
 (∃ b1 c1, (Builtin.len_ #[177] 3 #[map c]).run Tryz.prog r = .ok (int .i64 b1) c1 ∧
 ∃ d1, (Instr.mapUpdate 177 (map c) (string o) (int .i64 b1)).run Tryz.prog c1 = .ok () d1 ∧
 s [int .i64 b1] d1)
 (s [int .i64 p] r)))
 (∃ e1 f1, (Builtin.len_ #[177] 3 #[map c]).run Tryz.prog l = .ok (int .i64 e1) f1 ∧
 R (tuple #[slice f g h, int .i64 e1]) f1)) → j [int .i64 k] l) →
 j [int .i64 0] i
theorem vc163_calls (a : Int) (b : Value) (w : World) (R : RW) (hh : vc163 a b w R) : CR 163 #[int .i64 a, b] w R :=
 cden (fn := Tryz.f163) (by kernel_rfl) (by kernel_rfl) (by kernel_rfl) (by kernel_rfl) (by kernel_rfl) hh
def vc164 (a : Int) (b c : OA) (w : World) (R : RW) : Prop :=
 ∀ d, d = w.drew →
 NilC b (fun f =>
 ∃ g h i, d.cell? f = some (slice g h i) ∧
 NilC g (fun j =>
 (0 : Int) ≤ a ∧ a < (h : Int) ∧
 ∃ k, d.cell? (j.add (a.toNat * 1)) = some (int .i64 k) ∧
 NilC c (fun l =>
 ∃ m, d.cell? l = some (pointer m) ∧
 NilC m (fun n =>
 ∃ o p q, d.cell? (n.add 1) = some (slice o p q) ∧
 NilC o (fun r =>
 (0 : Int) ≤ a ∧ a < (p : Int) ∧
 ∃ s t u, d.cell? (r.add (a.toNat * 1)) = some (slice s t u) ∧
 NilC b (fun x =>
 ∃ y z a1, d.cell? x = some (slice y z a1) ∧
 CP 165 #[int .i64 k, slice s t u, slice y z a1] d (fun b1 c1 =>
 ∃ d1, b1 = .returned (string d1) ∧
 R (string d1) c1)))))))
theorem vc164_calls (a : Int) (b c : OA) (w : World) (R : RW) (hh : vc164 a b c w R) : CR 164 #[int .i64 a, pointer b, pointer c] w R :=
 cden (fn := Tryz.f164) (by kernel_rfl) (by kernel_rfl) (by kernel_rfl) (by kernel_rfl) (by kernel_rfl) hh
def vc165 (a : Int) (b : OA) (c d : Nat) (f : OA) (g h : Nat) (w : World) (R : RW) : Prop :=
 Ar .i64 ((2 : Int) * (c : Int)) (fun i =>
 Ar .i64 (i + 2) (fun j =>
 ∃ k l m n, (Instr.makeSlice 178 (int .i64 0) (int .i64 j)).run Tryz.prog w = .ok (slice k l m) n ∧
 (0 : Int) ≤ 8 ∧
 ∀ o, o = n.alloc (.cells #[int .u8 (IntKind.wrap .u8 a), int .u8 (IntKind.wrap .u8 (Int.fdiv a (2 ^ (min (8 : Int).toNat (IntKind.bits .i64)))))] 5) →
 ∃ p q r s, (Builtin.append_ #[178, 178] 178 #[slice k l m, slice (some (nb n)) 2 2]).run Tryz.prog o = .ok (slice p q r) s ∧
 ∀ t : KW, (∀ (u : Int) (x : OA) (y z : Nat) (a1 : World), (CondP (decide (u < (c : Int)))
 (NilC b (fun b1 =>
 (0 : Int) ≤ u ∧ u < (c : Int) ∧
 ∃ c1, a1.cell? (b1.add (u.toNat * 1)) = some (int .i64 c1) ∧
 ∀ d1, d1 = a1.drew →
 NilC f (fun e1 =>
 (0 : Int) ≤ c1 ∧ c1 < (g : Int) ∧
 ∃ f1, d1.cell? (e1.add (c1.toNat * 1)) = some (int .i64 f1) ∧
 NilC f (fun g1 =>
 (0 : Int) ≤ c1 ∧ c1 < (g : Int) ∧
 ∃ h1, d1.cell? (g1.add (c1.toNat * 1)) = some (int .i64 h1) ∧
 (0 : Int) ≤ 8 ∧
 ∀ i1, i1 = d1.alloc (.cells #[int .u8 (IntKind.wrap .u8 f1), int .u8 (IntKind.wrap .u8 (Int.fdiv h1 (2 ^ (min (8 : Int).toNat (IntKind.bits .i64)))))] 5) →
 ∃ j1 k1 l1 m1, (Builtin.append_ #[178, 178] 178 #[slice x y z, slice (some (nb d1)) 2 2]).run Tryz.prog i1 = .ok (slice j1 k1 l1) m1 ∧
 Ar .i64 (u + 1) (fun n1 =>
 t [int .i64 n1, slice j1 k1 l1] m1)))))
 (∃ o1 p1, (convert 178 9 (slice x y z)).run Tryz.prog a1 = .ok (string o1) p1 ∧
 R (string o1) p1)) → t [int .i64 u, slice x y z] a1) →
 t [int .i64 0, slice p q r] s))
theorem vc165_calls (a : Int) (b : OA) (c d : Nat) (f : OA) (g h : Nat) (w : World) (R : RW) (hh : vc165 a b c d f g h w R) : CR 165 #[int .i64 a, slice b c d, slice f g h] w R :=
 cden (fn := Tryz.f165) (by kernel_rfl) (by kernel_rfl) (by kernel_rfl) (by kernel_rfl) (by kernel_rfl) hh
def vc167 (a b : Int) (w : World) (R : RW) : Prop :=
 (0 : Int) ≤ 32 ∧
 (0 : Int) ≤ 32 ∧
 Ar .u64 ((IntKind.wrap .u64 ((BitVec.ofInt (IntKind.bits .u64) a &&& BitVec.ofInt (IntKind.bits .u64) 4294967295).toNat : Int) : Int) * (IntKind.wrap .u64 ((BitVec.ofInt (IntKind.bits .u64) b &&& BitVec.ofInt (IntKind.bits .u64) 4294967295).toNat : Int))) (fun c =>
 Ar .u64 ((Int.fdiv a (2 ^ (min (32 : Int).toNat (IntKind.bits .u64))) : Int) * (IntKind.wrap .u64 ((BitVec.ofInt (IntKind.bits .u64) b &&& BitVec.ofInt (IntKind.bits .u64) 4294967295).toNat : Int))) (fun d =>
 (0 : Int) ≤ 32 ∧
 Ar .u64 (d + (Int.fdiv c (2 ^ (min (32 : Int).toNat (IntKind.bits .u64))))) (fun f =>
 (0 : Int) ≤ 32 ∧
 Ar .u64 ((IntKind.wrap .u64 ((BitVec.ofInt (IntKind.bits .u64) a &&& BitVec.ofInt (IntKind.bits .u64) 4294967295).toNat : Int) : Int) * (Int.fdiv b (2 ^ (min (32 : Int).toNat (IntKind.bits .u64))))) (fun g =>
 Ar .u64 ((IntKind.wrap .u64 ((BitVec.ofInt (IntKind.bits .u64) f &&& BitVec.ofInt (IntKind.bits .u64) 4294967295).toNat : Int) : Int) + g) (fun h =>
 Ar .u64 ((Int.fdiv a (2 ^ (min (32 : Int).toNat (IntKind.bits .u64))) : Int) * (Int.fdiv b (2 ^ (min (32 : Int).toNat (IntKind.bits .u64))))) (fun i =>
 Ar .u64 (i + (Int.fdiv f (2 ^ (min (32 : Int).toNat (IntKind.bits .u64))))) (fun j =>
 (0 : Int) ≤ 32 ∧
 Ar .u64 (j + (Int.fdiv h (2 ^ (min (32 : Int).toNat (IntKind.bits .u64))))) (fun k =>
 Ar .u64 (a * b) (fun l =>
 R (tuple #[int .u64 k, int .u64 l]) w)))))))))
theorem vc167_calls (a b : Int) (w : World) (R : RW) (hh : vc167 a b w R) : CR 167 #[int .u64 a, int .u64 b] w R :=
 cden (fn := Tryz.f167) (by kernel_rfl) (by kernel_rfl) (by kernel_rfl) (by kernel_rfl) (by kernel_rfl) hh
end Go.Proofs.YtboemnagahmlkaaGreat.Eng
