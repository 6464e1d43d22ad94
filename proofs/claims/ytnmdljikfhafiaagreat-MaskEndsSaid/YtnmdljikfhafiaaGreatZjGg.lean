/- The grid of a vocabulary, walked by the engine. -/
import Derived.Test.YtnmdljikfhafiaaGreatZjTz
import Derived.Test.YtnmdljikfhafiaaGreatZjRj
import Derived.Test.YtnmdljikfhafiaaGreatZjVc
set_option linter.unusedVariables false
set_option linter.unusedSimpArgs false
set_option maxRecDepth 100000
namespace Go.Proofs.YtnmdljikfhafiaaGreat.Eng
open Go Go.RowKit
theorem valid_spec (w : World) (v : Nat) (s : SpecV) (T : List Ent) (hV : VocIs w v s T) (a b : Int) (ha : (vocOf s T).Has a) (hb : (vocOf s T).Has b) :
  CP 84 #[.pointer (some ⟨v, 0, none⟩), .int .i64 a, .int .i64 b] w fun e w' => e = .returned (.bool (decide ((vocOf s T).Canon [a, b]))) ∧ VocIs w' v s T ∧ Touch v w w' := by
 refine calls_ret (vc84_calls (some ⟨v, 0, none⟩) a b w (fun u w' => u = .bool (decide ((vocOf s T).Canon [a, b])) ∧ VocIs w' v s T ∧ Touch v w w') ?_) (by rintro v w' ⟨rfl, h⟩; exact ⟨rfl, h⟩)
 have parts : ∀ {q : World}, VocIs q v s T → ∃ x tp bp mp, VocParts q s T x tp bp mp ∧ ∃ c, VBlk q v c tp bp mp := by
  rintro q ⟨w0, x, tp, bp, mp, d, l, uses, hR⟩
  exact ⟨x, tp, bp, mp, hR.now, _, hR.vblk⟩
 obtain ⟨x, tp, bp, mp, hP, _⟩ := parts hV
 have hok := voc_ok hP
 have hab : ∀ t ∈ [a] ++ [b], (vocOf s T).Has t := by
  intro t ht
  simp at ht
  rcases ht with rfl | rfl
  ·exact ha
  ·exact hb
 refine (alone_spec w v s T hV a).mono ?_
 rintro e w1 ⟨rfl, hV1, t1⟩
 refine ⟨_, rfl, CondP.mk (fun h1 => ?_) fun h1 => ⟨?_, hV1, t1⟩⟩
 ·have ca := (aloneV_iff hP ha).1 h1
  refine (alone_spec w1 v s T hV1 b).mono ?_
  rintro e w2 ⟨rfl, hV2, t2⟩
  have t12 := t1.trans t2
  refine ⟨_, rfl, CondP.mk (fun h2 => ?_) fun h2 => ⟨?_, hV2, t12⟩⟩
  ·have cb := (aloneV_iff hP hb).1 h2
   obtain ⟨x2, tp2, bp2, mp2, hP2, c2, hB2⟩ := parts hV2
   refine (beside_spec hB2 hP2 a b ha hb ca cb).mono ?_
   rintro e w3 ⟨r, rfl, hr, b3⟩
   refine ⟨r, rfl, ?_, hV2.on b3, t12.trans (Touch.of_below b3)⟩
   have hm := Voc.canon_more hok (init := []) (l := a) (t := b) (fun x hx => by simp at hx; rw [hx]; exact ha) ca hb
   congr 1
   have hm2 : (vocOf s T).Canon [a, b] ↔ (vocOf s T).Canon [b] ∧ (vocOf s T).Pair a b := hm
   cases r with
   | true => exact (decide_eq_true (hm2.2 ⟨cb, hr.1 rfl⟩)).symm
   | false => exact (decide_eq_false fun e => by have := hr.2 (hm2.1 e).2; cases this).symm
  ·rw [decide_eq_false fun e => ?_]
   have := (aloneV_iff hP hb).2 (Voc.canon_append hok (P := [a]) (Q := [b]) hab e).2
   rw [h2] at this
   cases this
 ·rw [decide_eq_false fun e => ?_]
  have := (aloneV_iff hP ha).2 (Voc.canon_append hok (P := [a]) (Q := [b]) hab e).1
  rw [h1] at this
  cases this
abbrev tGrid : TypeId := 128
abbrev tRows : TypeId := 125
theorem undRows : Tryz.prog.underlying tRows = some (.slice tRow) := by kernel_rfl
theorem infoRow : (Tryz.prog.info? tRow).map (fun i => (i.zero, i.size, i.bytes)) = some (some (.slice none 0 0), 1, 24) := by kernel_rfl
def encS (r : Sl) : List Value := [r.v]
theorem elRow : ElT encS 1 tRows tRow 24 := ⟨fun _ => rfl, by decide, fun x u hu => by rw [List.mem_singleton.1 hu]; rfl, undRows, _, infoRow, rfl⟩
def gmap (G : List Int) : List (Int × Value) := G.zipIdx.map fun x => (x.1, .int .i64 (x.2 : Int))
theorem gmap_snoc (G : List Int) (x : Int) : gmap (G ++ [x]) = gmap G ++ [(x, .int .i64 (G.length : Int))] := by simp [gmap, List.zipIdx_append]
theorem look_gmap (G : List Int) (k : Int) : look k (gmap G) = (G.idxOf? k).map fun i : Nat => Value.int .i64 (i : Int) := by
 have := look_zipf (fun x : Int => x) k G 0
 simp only [Nat.zero_add, List.map_id'] at this
 exact this
def alB (s : SpecV) (T : List Ent) (i : Nat) : Bool := decide ((vocOf s T).Canon [(gids s T).getD i 0])
def relB (s : SpecV) (T : List Ent) (i k : Nat) : Bool := decide ((vocOf s T).Canon [(gids s T).getD i 0, (gids s T).getD k 0])
structure GridR (w : World) (g : Nat) (G : List Int) (al : Nat → Bool) (rel : Nat → Nat → Bool) (ids rows alone : Sl) (mb : Nat) (rs : List Sl) (m : Nat) : Prop where
 blk : w.heap[g]? = some (.cells #[ids.v, .map (some mb), rows.v, alone.v] tGrid (0, 0))
 oi : w.ownsRow 0 tInt 1 ids.v ids.n (G.flatMap encInt)
 map : MapIs intKey w mb (gmap G)
 orows : w.ownsRow 0 tRow 1 rows.v rows.n (rs.flatMap encS)
 rl : rs.length = m
 each : ∀ (i : Nat) (r : Sl), rs[i]? = some r → w.ownsRow 0 tU64 1 r.v r.n ((wordsOf G.length (rel i)).flatMap encU64)
 oal : w.ownsRow 0 tU64 1 alone.v alone.n ((wordsOf G.length al).flatMap encU64)
def GridIs (w : World) (g : Nat) (G : List Int) (al : Nat → Bool) (rel : Nat → Nat → Bool) : Prop := ∃ ids rows alone mb rs, GridR w g G al rel ids rows alone mb rs G.length
theorem GridR.on {w w' : World} {g : Nat} {G : List Int} {al : Nat → Bool} {rel : Nat → Nat → Bool} {ids rows alone : Sl} {mb : Nat} {rs : List Sl} {m : Nat} (h : GridR w g G al rel ids rows alone mb rs m) (hb : Below w.heap.size w w') : GridR w' g G al rel ids rows alone mb rs m :=
 ⟨held_on hb h.blk, own_on h.oi hb, h.map.on hb, own_on h.orows hb, h.rl, fun i r hr => own_on (h.each i r hr) hb, own_on h.oal hb⟩
theorem GridIs.on {w w' : World} {g : Nat} {G : List Int} {al : Nat → Bool} {rel : Nat → Nat → Bool} (h : GridIs w g G al rel) (hb : Below w.heap.size w w') : GridIs w' g G al rel := by
 obtain ⟨ids, rows, alone, mb, rs, h⟩ := h
 exact ⟨ids, rows, alone, mb, rs, h.on hb⟩
theorem VocIs.typed {w : World} {v : Nat} {s : SpecV} {T : List Ent} (h : VocIs w v s T) : ∃ c, w.heap[v]? = some (.cells c tVocab (0, 0)) := by
 obtain ⟨w0, x, tp, bp, mp, d, l, uses, hR⟩ := h
 exact ⟨_, hR.blk⟩
theorem VocIs.ne_cells {w : World} {v : Nat} {s : SpecV} {T : List Ent} (h : VocIs w v s T) {k : Nat} {c : Array Value} {e : TypeId} {fz : Nat × Nat} (hk : w.heap[k]? = some (.cells c e fz)) (he : e ≠ tVocab) : k ≠ v := by
 obtain ⟨c', hc⟩ := h.typed
 rintro rfl
 rw [hc] at hk
 cases hk
 exact he rfl
theorem VocIs.ne_map {w : World} {v : Nat} {s : SpecV} {T : List Ent} (h : VocIs w v s T) {κ : Type} [DecidableEq κ] {kv : κ → Value} {r : Nat} {m : List (κ × Value)} (hm : MapIs kv w r m) : r ≠ v := by
 obtain ⟨c', hc⟩ := h.typed
 rintro rfl
 obtain ⟨es, k, hk, _⟩ := hm
 rw [hc] at hk
 cases hk
theorem GridR.touch {w w' : World} {g : Nat} {G : List Int} {al : Nat → Bool} {rel : Nat → Nat → Bool} {ids rows alone : Sl} {mb : Nat} {rs : List Sl} {m : Nat} (h : GridR w g G al rel ids rows alone mb rs m) {v : Nat} {s : SpecV} {T : List Ent} (hV : VocIs w v s T) (t : Touch v w w') : GridR w' g G al rel ids rows alone mb rs m :=
 ⟨t.held (hV.ne_cells h.blk (by decide)) h.blk, hV.own_touch t h.oi (by decide), h.map.same (t.block mb h.map.lt (hV.ne_map h.map)), hV.own_touch t h.orows (by decide), h.rl, fun i r hr => hV.own_touch t (h.each i r hr) (by decide), hV.own_touch t h.oal (by decide)⟩
theorem box_store {w2 w3 : World} {x u : Value} {e : TypeId} (hw : w3 = w2.alloc (.cells #[x] e)) (hu : u.oneCell' = true) {k : World → Prop} (hk : ∀ w4, w4.heap[w2.heap.size]? = some (.cells #[u] e (0, 0)) → Below w2.heap.size w2 w4 → k w4) : u.oneCell' = true ∧ (∃ y, w3.cell? (nb w2) = some y) ∧ w3.frozen? (nb w2) = false ∧ ∀ w4, w4 = w3.setCell (nb w2) u → k w4 :=
 store_one (storeP_new [x] [u] rfl (by intro y hy; rw [List.mem_singleton.1 hy]; exact hu) w3 hw fun w4 h4 _ b4 => hk w4 h4 b4)
theorem cell1 {w : World} {b : Nat} {x : Value} {e : TypeId} {fz : Nat × Nat} (h : w.heap[b]? = some (.cells #[x] e fz)) : w.cell? ⟨b, 0, none⟩ = some x := cell_heap h
theorem getD_of {α : Type} {l : List α} {i : Nat} (h : i < l.length) (d : α) : l.getD i d = l[i] := by simp [List.getD, h]
theorem gids_bound {s : SpecV} {T : List Ent} (h1 : TOk T) (h2 : s.right = true) : 256 ≤ (gids s T).length ∧ (gids s T).length ≤ 1032 := by
 have := h1.most
 have := h1.len
 have := allOk_len (right_parts h2).2.2.2.1
 rw [gids_length]
 omega
theorem Touch.put {v d j : Nat} {a b : World} (t : Touch v a b) (hd : a.heap.size ≤ d) (u : Value) : Touch v a (b.setCell ((⟨d, 0, none⟩ : Addr).add j) u) :=
 ⟨t.os, t.tape, t.output, by rw [size_setCell]; exact t.size, fun k hk hv => by rw [heap_setCell_ne (by rw [add_block]; show k ≠ d; omega)]; exact t.block k hk hv⟩
theorem VocIs.put {w : World} {v d j : Nat} {s : SpecV} {T : List Ent} (h : VocIs w v s T) {c : Array Value} {e : TypeId} (hd : w.heap[d]? = some (.cells c e (0, 0))) (he : tBool ≠ e) (hv : v < d) (u : Value) : VocIs (w.setCell ((⟨d, 0, none⟩ : Addr).add j) u) v s T := by
 obtain ⟨w0, x, tp, bp, mp, q, l, uses, hR⟩ := h
 have hlt := hR.lt
 refine ⟨w0, x, tp, bp, mp, q, l, uses, hR.parts, below_put hR.below (by omega) u, hlt, by rw [heap_setCell_ne (by rw [add_block]; show v ≠ d; omega)]; exact hR.blk, ?_⟩
 rcases hR.once with h | ⟨h1, h2, h3⟩
 ·exact .inl h
 ·exact .inr ⟨h1, h2, own_setCell h3 u (by rw [add_block]; exact row_ne_blk h3 hd he)⟩
theorem VocIs.growE {w w' : World} {v : Nat} {s : SpecV} {T : List Ent} (h : VocIs w v s T) {B : Nat} (hb : Below B w w') (hv : v < B) {B' n sz : Nat} {e : TypeId} {u : Value} {xs : List Value} (ho : w.ownsRow B' e sz u n xs) (he : tBool ≠ e) (hk : ∀ k, k < w.heap.size → u.ownBlock ≠ some k → w'.heap[k]? = w.heap[k]?) : VocIs w' v s T := by
 obtain ⟨w0, x, tp, bp, mp, d, l, uses, hR⟩ := h
 have hlt := hR.lt
 refine ⟨w0, x, tp, bp, mp, d, l, uses, hR.parts, hR.below.trans (hb.mono (by omega)), hlt, by rw [hb.block v hv]; exact hR.blk, ?_⟩
 rcases hR.once with h | ⟨h1, h2, h3⟩
 ·exact .inl h
 ·exact .inr ⟨h1, h2, own_same h3 fun k hk3 => hk k (own_lt h3 k hk3).2 (row_ne_row h3 ho he k hk3)⟩
theorem alone_dec (w : World) (v : Nat) (s : SpecV) (T : List Ent) (hV : VocIs w v s T) (t : Int) (ht : (vocOf s T).Has t) :
  CP 81 #[.pointer (some ⟨v, 0, none⟩), .int .i64 t] w fun e w' => e = .returned (.bool (decide ((vocOf s T).Canon [t]))) ∧ VocIs w' v s T ∧ Touch v w w' := by
 have hP : ∃ x tp bp mp, VocParts w s T x tp bp mp := by
  obtain ⟨w0, x, tp, bp, mp, d, l, uses, hR⟩ := hV
  exact ⟨x, tp, bp, mp, hR.now⟩
 obtain ⟨x, tp, bp, mp, hP⟩ := hP
 refine (alone_spec w v s T hV t).mono ?_
 rintro e w1 ⟨rfl, h⟩
 refine ⟨?_, h⟩
 congr 2
 have := aloneV_iff hP ht
 cases ha : aloneV s T t with
 | true => exact (decide_eq_true (this.1 ha)).symm
 | false => exact (decide_eq_false fun e => by rw [this.2 e] at ha; cases ha).symm
theorem new1_spec (w : World) (v : Nat) (s : SpecV) (T : List Ent) (hV : VocIs w v s T) (b0 b1 : Nat) {e0 e1 : TypeId} (ids : Sl) (G : List Int) (h0 : w.heap[b0]? = some (.cells #[.pointer (some ⟨v, 0, none⟩)] e0 (0, 0))) (h1 : w.heap[b1]? = some (.cells #[ids.v] e1 (0, 0))) (oi : w.ownsRow 0 tInt 1 ids.v ids.n (G.flatMap encInt)) (hG : ∀ t ∈ G, (vocOf s T).Has t) (i : Nat) (hi : i < G.length) :
  CP 80 #[.int .i64 (i : Int), .pointer (some ⟨b0, 0, none⟩), .pointer (some ⟨b1, 0, none⟩)] w fun e w' => e = .returned (.bool (decide ((vocOf s T).Canon [G.getD i 0]))) ∧ VocIs w' v s T ∧ Touch v w w' := by
 refine calls_ret (vc80_calls i (some ⟨b0, 0, none⟩) (some ⟨b1, 0, none⟩) w (fun u w' => u = .bool (decide ((vocOf s T).Canon [G.getD i 0])) ∧ VocIs w' v s T ∧ Touch v w w') ?_) (by rintro v w' ⟨rfl, h⟩; exact ⟨rfl, h⟩)
 intro w1 hw1
 have b1' : Below w.heap.size w w1 := by subst hw1; exact drew_on w
 have hls := LsAt.of_own elInt (own_on oi b1')
 have hn := hls.n
 obtain ⟨p, hp, c0⟩ := cell_rw hls.r hi rfl
 refine NilC.mk _ rfl ⟨_, cell1 (held_on b1' h0), NilC.mk _ rfl ⟨ids.a, ids.n, ids.c, cell1 (held_on b1' h1), NilC.mk p hp ⟨by omega, by omega, _, c0, ?_⟩⟩⟩
 refine (alone_dec w1 v s T (hV.on b1') G[i] (hG _ (List.getElem_mem hi))).mono ?_
 rintro e w2 ⟨rfl, hV2, t2⟩
 refine ⟨_, rfl, ?_, hV2, (Touch.of_below b1').trans t2⟩
 rw [getD_of hi]
theorem new2_spec (w : World) (v : Nat) (s : SpecV) (T : List Ent) (hV : VocIs w v s T) (cg ci cv ca cids : Nat) {eg ei ev ea ed : TypeId} (g : Nat) (ids rows alone : Sl) (mb : Nat) (rs : List Sl) (m i k : Nat) (hb : v < cg ∧ v < ci ∧ v < cv ∧ v < ca ∧ v < cids)
  (hR : GridR w g (gids s T) (alB s T) (relB s T) ids rows alone mb rs m) (hgh : ∀ t ∈ gids s T, (vocOf s T).Has t) (hgl : (gids s T).length ≤ 1032)
  (h0 : w.heap[cg]? = some (.cells #[.pointer (some ⟨g, 0, none⟩)] eg (0, 0))) (h1 : w.heap[ci]? = some (.cells #[.int .i64 (i : Int)] ei (0, 0))) (h2 : w.heap[cv]? = some (.cells #[.pointer (some ⟨v, 0, none⟩)] ev (0, 0))) (h3 : w.heap[ca]? = some (.cells #[.int .i64 ((gids s T).getD i 0)] ea (0, 0))) (h4 : w.heap[cids]? = some (.cells #[ids.v] ed (0, 0)))
  (hi : i < (gids s T).length) (hk : k < (gids s T).length) :
  CP 82 #[.int .i64 (k : Int), .pointer (some ⟨cg, 0, none⟩), .pointer (some ⟨ci, 0, none⟩), .pointer (some ⟨cv, 0, none⟩), .pointer (some ⟨ca, 0, none⟩), .pointer (some ⟨cids, 0, none⟩)] w fun e w' => e = .returned (.bool (relB s T i k)) ∧ VocIs w' v s T ∧ Touch v w w' := by
 refine calls_ret (vc82_calls k (some ⟨cg, 0, none⟩) (some ⟨ci, 0, none⟩) (some ⟨cv, 0, none⟩) (some ⟨ca, 0, none⟩) (some ⟨cids, 0, none⟩) w (fun u w' => u = .bool (relB s T i k) ∧ VocIs w' v s T ∧ Touch v w w') ?_) (by rintro v w' ⟨rfl, h⟩; exact ⟨rfl, h⟩)
 have hP : ∃ x tp bp mp, VocParts w s T x tp bp mp := by
  obtain ⟨w0, x, tp, bp, mp, d, l, uses, hR⟩ := hV
  exact ⟨x, tp, bp, mp, hR.now⟩
 obtain ⟨x, tp, bp, mp, hP⟩ := hP
 have hok := voc_ok hP
 have hA : (vocOf s T).Has ((gids s T).getD i 0) := by rw [getD_of hi]; exact hgh _ (List.getElem_mem hi)
 have hB : (vocOf s T).Has ((gids s T).getD k 0) := by rw [getD_of hk]; exact hgh _ (List.getElem_mem hk)
 have hpair : relB s T i k = true → alB s T i = true ∧ alB s T k = true := by
  intro h
  have := Voc.canon_append hok (P := [(gids s T).getD i 0]) (Q := [(gids s T).getD k 0]) (by
   intro t ht
   simp only [List.cons_append, List.nil_append, List.mem_cons, List.not_mem_nil, or_false] at ht
   rcases ht with rfl | rfl
   ·exact hA
   ·exact hB) (of_decide_eq_true h)
  exact ⟨decide_eq_true this.1, decide_eq_true this.2⟩
 intro w1 hw1
 have b1' : Below w.heap.size w w1 := by subst hw1; exact drew_on w
 have t1 : Touch v w w1 := Touch.of_below b1'
 have hR1 := hR.on b1'
 have hV1 := hV.on b1'
 have al1 := LsAt.of_own elU64 hR1.oal
 refine NilC.mk _ rfl ⟨_, cell1 (held_on b1' h0), NilC.mk _ rfl ⟨alone.a, alone.n, alone.c, by rw [cell_put hR1.blk]; rfl, NilC.mk _ rfl ⟨_, cell1 (held_on b1' h1), ?_⟩⟩⟩
 refine (rowHas_spec w1 alone.a alone.n alone.c _ (alB s T) al1.r al1.n (by omega) i hi).mono ?_
 rintro e w2 ⟨rfl, hw2⟩
 rw [hw2]
 refine ⟨_, rfl, CondP.mk (fun ha => ?_) fun ha => ⟨?_, hV1, t1⟩⟩
 ·refine NilC.mk _ rfl ⟨_, cell1 (held_on b1' h0), NilC.mk _ rfl ⟨alone.a, alone.n, alone.c, by rw [cell_put hR1.blk]; rfl, ?_⟩⟩
  refine (rowHas_spec w1 alone.a alone.n alone.c _ (alB s T) al1.r al1.n (by omega) k hk).mono ?_
  rintro e w3 ⟨rfl, hw3⟩
  rw [hw3]
  refine ⟨_, rfl, CondP.mk (fun hb => ?_) fun hb => ⟨?_, hV1, t1⟩⟩
  ·have hls := LsAt.of_own elInt hR1.oi
   have hn := hls.n
   obtain ⟨p, hp, c0⟩ := cell_rw hls.r hk rfl
   refine NilC.mk _ rfl ⟨_, cell1 (held_on b1' h2), NilC.mk _ rfl ⟨_, cell1 (held_on b1' h3), NilC.mk _ rfl ⟨ids.a, ids.n, ids.c, cell1 (held_on b1' h4), NilC.mk p hp ⟨by omega, by omega, _, c0, ?_⟩⟩⟩⟩
   rw [← getD_of hk 0]
   refine (valid_spec w1 v s T hV1 _ _ hA hB).mono ?_
   rintro e w4 ⟨rfl, hV4, t4⟩
   exact ⟨_, rfl, rfl, hV4, t1.trans t4⟩
  ·cases hr : relB s T i k with
   | false => rfl
   | true => rw [(hpair hr).2] at hb; cases hb
 ·cases hr : relB s T i k with
  | false => rfl
  | true => rw [(hpair hr).1] at ha; cases ha
theorem own_ne_map {w : World} {B : Nat} {e : TypeId} {sz n : Nat} {u : Value} {xs : List Value} (h : w.ownsRow B e sz u n xs) {κ : Type} [DecidableEq κ] {kv : κ → Value} {r : Nat} {m : List (κ × Value)} (hm : MapIs kv w r m) : u.ownBlock ≠ some r := by
 obtain ⟨es, k, hk, _⟩ := hm
 intro hb
 rcases h.2 with ⟨rfl, _⟩ | ⟨g, cap, cur, rfl, _, hg, _⟩
 ·cases hb
 ·cases hb
  rw [hk] at hg
  cases hg
theorem two_boxes {q w1 w2 : World} {x y u z : Value} {e e' : TypeId} (h1 : w1 = q.alloc (.cells #[x] e)) (h2 : w2 = w1.alloc (.cells #[y] e')) (hu : u.oneCell' = true) (hz : z.oneCell' = true) {k : World → Prop} (hk : ∀ w4, w4.heap[q.heap.size]? = some (.cells #[u] e (0, 0)) → w4.heap[w1.heap.size]? = some (.cells #[z] e' (0, 0)) → Below q.heap.size q w4 → k w4) :
  u.oneCell' = true ∧ (∃ a, w2.cell? (nb q) = some a) ∧ w2.frozen? (nb q) = false ∧ ∀ w3, w3 = w2.setCell (nb q) u → z.oneCell' = true ∧ (∃ a, w3.cell? (nb w1) = some a) ∧ w3.frozen? (nb w1) = false ∧ ∀ w4, w4 = w3.setCell (nb w1) z → k w4 := by
 have b1 : Below q.heap.size q w1 := by subst h1; exact below_alloc _ _
 have a1 : w1.heap[q.heap.size]? = some (.cells #[x] e (0, 0)) := by subst h1; exact alloc_new _ _
 have b2 : Below w1.heap.size w1 w2 := by subst h2; exact below_alloc _ _
 have a2 : w2.heap[w1.heap.size]? = some (.cells #[y] e' (0, 0)) := by subst h2; exact alloc_new _ _
 have a12 := held_on b2 a1
 have hlt : q.heap.size < w1.heap.size := (Array.getElem?_eq_some_iff.1 a1).1
 have b02 := below_then b1 b2
 refine ⟨hu, ⟨_, cell_heap a12⟩, frozen_heap a12, ?_⟩
 intro w3 h3
 have a13 : w3.heap[q.heap.size]? = some (.cells #[u] e (0, 0)) := by subst h3; exact setCell_heap a12 u
 have a23 : w3.heap[w1.heap.size]? = some (.cells #[y] e' (0, 0)) := by subst h3; rw [heap_setCell_ne (by show w1.heap.size ≠ q.heap.size; omega)]; exact a2
 have b03 : Below q.heap.size q w3 := by subst h3; exact b02.setCell (p := nb q) (Nat.le_refl _) u
 refine ⟨hz, ⟨_, cell_heap a23⟩, frozen_heap a23, ?_⟩
 intro w4 h4
 refine hk w4 ?_ ?_ ?_
 ·subst h4; rw [heap_setCell_ne (by show q.heap.size ≠ w1.heap.size; omega)]; exact a13
 ·subst h4; exact setCell_heap a23 z
 ·subst h4; exact b03.setCell (p := nb w1) (Nat.le_of_lt hlt) z
def NewGR (w : World) (v : Nat) (s : SpecV) (T : List Ent) (most : Int) (u : Value) (w' : World) : Prop := VocIs w' v s T ∧ Touch v w w' ∧ (if (((gids s T).length * (gids s T).length : Nat) : Int) > most then u = .tuple #[.pointer none, .int .i64 5] else ∃ g, u = .tuple #[.pointer (some ⟨g, 0, none⟩), .int .i64 0] ∧ GridIs w' g (gids s T) (alB s T) (relB s T) ∧ w.heap.size ≤ g)
set_option maxHeartbeats 2000000 in
theorem gridNew_spec (w : World) (v : Nat) (s : SpecV) (T : List Ent) (hV : VocIs w v s T) (hasc : (s.specials.map (·.1)).Pairwise (· < ·)) (most : Int) :
  CP 51 #[.pointer (some ⟨v, 0, none⟩), .int .i64 most] w fun e w' => ∃ u, e = .returned u ∧ NewGR w v s T most u w' := by
 refine vc51_calls (some ⟨v, 0, none⟩) most w (NewGR w v s T most) ?_
 have hgb : 256 ≤ (gids s T).length ∧ (gids s T).length ≤ 1032 ∧ (∀ t ∈ gids s T, (vocOf s T).Has t) ∧ (gids s T).Pairwise (· < ·) := by
  obtain ⟨w0, x, tp, bp, mp, d, l, uses, hR⟩ := hV
  have hP := hR.now
  exact ⟨(gids_bound hP.ok hP.right).1, (gids_bound hP.ok hP.right).2, fun t ht => (has_iff hP t).1 ((gids_has s T t).1 ht), gids_rising hasc hP.ids⟩
 obtain ⟨hg1, hg2, hgh, hgr⟩ := hgb
 intro w1 hw1
 have b1 : Below w.heap.size w w1 := by subst hw1; exact below_alloc _ _
 have l1 : w1.heap[w.heap.size]? = some (.cells #[.pointer (some ⟨v, 0, none⟩)] 31 (0, 0)) := by subst hw1; exact alloc_new _ _
 refine ⟨_, cell1 l1, ?_⟩
 have hV1 := hV.on b1
 refine (vocIds_spec w1 v s T hV1 hasc).mono ?_
 rintro e w2 ⟨ids, rfl, oids, b2⟩
 refine ⟨_, _, _, rfl, ?_⟩
 intro w3 hw3
 refine box_store hw3 rfl ?_
 intro w4 l4 b4
 have b24 := below_then b2 b4
 have b14 := below_then b1 b24
 have oids4 := own_base (own_on oids b4) (Nat.zero_le _)
 have hin := (LsAt.of_own elInt oids4).n
 have l14 := held_on b24 l1
 have hV4 := hV.on b14
 refine ⟨_, cell1 l14, CondP.no rfl ⟨ids.a, ids.n, ids.c, cell1 l4, ids.a, ids.n, ids.c, cell1 l4, Ar.nat ((gids s T).length * (gids s T).length) (by rw [hin]; simp) (by
  have : (gids s T).length * (gids s T).length ≤ 1032 * 1032 := Nat.mul_le_mul hg2 hg2
  omega) (CondP.mk (fun hm => ⟨hV4, Touch.of_below b14, ?_⟩) fun hm => ?_)⟩⟩
 ·rw [if_pos (of_decide_eq_true hm)]
 have hm := of_decide_eq_false hm
 obtain ⟨G, hG⟩ : ∃ G, G = gids s T := ⟨_, rfl⟩
 rw [← hG] at oids4 hin hg1 hg2 hgh hgr hm
 obtain ⟨n, hn⟩ : ∃ n, n = G.length := ⟨_, rfl⟩
 rw [← hn] at hin
 refine ⟨ids.a, ids.n, ids.c, cell1 l4, _, _, run_make _, ?_⟩
 have b5 := below_alloc w4 (.map #[] 0)
 have m5 : MapIs intKey (w4.alloc (.map #[] 0)) w4.heap.size (gmap []) := map_new w4
 obtain ⟨w5, hw5⟩ : ∃ w5, w5 = w4.alloc (.map #[] 0) := ⟨_, rfl⟩
 rw [← hw5] at b5 m5
 rw [← hw5]
 intro w6 hw6 w7 hw7
 have b6 : Below w5.heap.size w5 w6 := by subst hw6; exact below_alloc _ _
 have g6 : w6.heap[w5.heap.size]? = some (.cells #[ids.v, .map (some w4.heap.size), sl0.v, sl0.v] tGrid (0, 0)) := by subst hw6; exact alloc_new _ _
 refine box_store hw7 rfl ?_
 intro w8 l8 b8
 have b58 := below_then b6 b8
 have b48 := below_then b5 b58
 have b08 := below_then b14 b48
 have hz4 := b14.size
 have hz5 := b5.size
 have lt4 : w4.heap.size < w5.heap.size := m5.lt
 have lt6 : w5.heap.size < w6.heap.size := (Array.getElem?_eq_some_iff.1 g6).1
 have lt8 : w6.heap.size < w8.heap.size := (Array.getElem?_eq_some_iff.1 l8).1
 have lt2 : w2.heap.size < w4.heap.size := (Array.getElem?_eq_some_iff.1 l4).1
 have lt1 : w.heap.size < w4.heap.size := (Array.getElem?_eq_some_iff.1 l14).1
 have hvl := hV.lt
 have boxes : ∀ {q : World}, Below (w4.heap.size) w8 q → q.heap[w.heap.size]? = some (.cells #[.pointer (some ⟨v, 0, none⟩)] 31 (0, 0)) ∧ q.heap[w2.heap.size]? = some (.cells #[ids.v] tInts (0, 0)) := by
  intro q hq
  exact ⟨Below.keeps hq lt1 (held_on b48 l14), Below.keeps hq lt2 (held_on b48 l4)⟩
 refine ⟨ids.a, ids.n, ids.c, cell1 (held_on b48 l4), ?_⟩
 have oids8 := own_on oids4 b48
 have idsLt : ∀ k, ids.v.ownBlock = some k → k < w4.heap.size := fun k hk => (own_lt oids4 k hk).2
 intro I hI
 let Inv (i : Nat) (q : World) : Prop := MapIs intKey q w4.heap.size (gmap (G.take i)) ∧ (∀ j, j ≠ w4.heap.size → q.heap[j]? = w8.heap[j]?) ∧ q.heap.size = w8.heap.size ∧ Below w4.heap.size w4 q
 have key := climb2 (α := World) n Inv (fun i q => I [.int .i64 (i : Int)] q) w8 ⟨by rw [List.take_zero]; exact m5.on b58, fun _ _ => rfl, rfl, b48⟩ ?_ ?_
 ·exact key
 ·rintro i hi ih q ⟨hmap, hs, hz, hB⟩
  have hiG : i < G.length := by omega
  have oq : q.ownsRow 0 tInt 1 ids.v ids.n (G.flatMap encInt) := own_same oids8 fun k hk => hs k (by have := idsLt k hk; omega)
  obtain ⟨p, hp, c0⟩ := cell_rw (LsAt.of_own elInt oq).r hiG rfl
  have hlook : look G[i] (gmap (G.take i)) = none := by
   rw [look_gmap, List.idxOf?_eq_none_iff.2]
   ·rfl
   ·intro hmem
    obtain ⟨j, hj, e⟩ := List.mem_take_iff_getElem.1 hmem
    have := List.pairwise_iff_getElem.1 hgr j i (by omega) hiG (by omega)
    omega
  obtain ⟨q', hr', hm', hs', hz', hB'⟩ := run_put_new keysI undMapI hmap G[i] (.int .i64 (i : Int)) hlook
  refine hI _ _ (CondP.yes (by simp; omega) (NilC.mk p hp ⟨by omega, by omega, _, c0, _, cell1 (by rw [hs w6.heap.size (by omega)]; exact l8), NilC.mk _ rfl ⟨_, ptr_add0 _ _ (by rw [hs w5.heap.size (by omega)]; exact held_on b8 g6) 1, q', hr', Ar.nat (i + 1) rfl (by omega) (ih q' ⟨?_, fun j hj => by rw [hs' j hj, hs j hj], by rw [hz', hz], hB' _ _ (Nat.le_refl _) hB⟩)⟩⟩))
  have e : gmap (G.take (i + 1)) = gmap (G.take i) ++ [(G[i], .int .i64 (i : Int))] := by
   rw [List.take_add_one, List.getElem?_eq_getElem hiG]
   have := gmap_snoc (G.take i) G[i]
   rw [List.length_take, Nat.min_eq_left (by omega)] at this
   exact this
  rw [e]
  exact hm'
 ·rintro q ⟨hmap, hs, hz, hB⟩
  rw [List.take_of_length_le (by omega)] at hmap
  refine hI _ _ (CondP.no (by simp; omega) ?_)
  intro w11 hw11
  have b11 : Below q.heap.size q w11 := by subst hw11; exact drew_on q
  have hq8 : Below w4.heap.size w8 q := ⟨by rw [hB.os, ← b48.os], by rw [hB.tape, ← b48.tape], by rw [hB.output, ← b48.output], by rw [hz]; exact Nat.le_refl _, fun k hk => hs k (by omega)⟩
  have hq8' : Below w4.heap.size w8 w11 := hq8.trans (b11.mono (by have := hq8.size; omega))
  have hV11 : VocIs w11 v s T := (hV4.on b5 |> fun h5 => (hV4.on ⟨hB.os, hB.tape, hB.output, hB.size, hB.block⟩)).on b11
  have t11 : Touch v w w11 := (Touch.of_below b14).trans (Touch.of_below (hB.trans (b11.mono hB.size)))
  have g11 := held_on b11 (show q.heap[w5.heap.size]? = some (.cells #[ids.v, .map (some w4.heap.size), sl0.v, sl0.v] tGrid (0, 0)) by rw [hs _ (by omega)]; exact held_on b8 g6)
  have lg11 := held_on b11 (show q.heap[w6.heap.size]? = _ by rw [hs _ (by omega)]; exact l8)
  have bx11 := boxes hq8'
  have m11 := hmap.on b11
  have o11 : w11.ownsRow 0 tInt 1 ids.v ids.n (G.flatMap encInt) := own_on (own_same oids8 fun k hk => hs k (by have := idsLt k hk; omega)) b11
  subst hG
  have bxL : w.heap.size < w11.heap.size ∧ w2.heap.size < w11.heap.size ∧ w6.heap.size < w11.heap.size ∧ w5.heap.size < w11.heap.size := ⟨(Array.getElem?_eq_some_iff.1 bx11.1).1, (Array.getElem?_eq_some_iff.1 bx11.2).1, (Array.getElem?_eq_some_iff.1 lg11).1, (Array.getElem?_eq_some_iff.1 g11).1⟩
  have sz2 : w.heap.size ≤ w2.heap.size := Nat.le_trans b1.size b2.size
  refine ⟨_, cell1 lg11, ids.a, ids.n, ids.c, cell1 bx11.2, ?_⟩
  refine (fill_spec w11 ids.n _ (fun i => alB s T i) v s T hV11 (by omega) ?_).mono ?_
  ·intro i hi q hVq tq
   refine callG_of (by kernel_rfl) ?_
   exact new1_spec q v s T hVq w.heap.size w2.heap.size ids (gids s T) (tq.held (by omega) bx11.1) (tq.held (by omega) bx11.2) (hV11.own_touch tq o11 (by decide)) hgh i (by omega)
  rintro e w12 ⟨al, rfl, oal, hV12, t12⟩
  rw [hin, hn] at oal
  have lg12 := t12.held (by omega) lg11
  have g12 := t12.held (by omega) g11
  have x12 := t12.held (by omega) bx11.1
  have y12 := t12.held (by omega) bx11.2
  have o12 := hV11.own_touch t12 o11 (by decide)
  have m12 := m11.same (t12.block _ m11.lt (by omega))
  refine ⟨al.a, al.n, al.c, rfl, ⟨cell1 lg12, trivial⟩, NilC.mk _ rfl ⟨rfl, ⟨_, by rw [cell_put g12]; rfl⟩, frozen_put g12, ?_⟩⟩
  intro w13 hw13
  have g13 : w13.heap[w5.heap.size]? = some (.cells #[ids.v, .map (some w4.heap.size), sl0.v, al.v] tGrid (0, 0)) := by subst hw13; exact heap_put g12 _
  have hs13 : ∀ j, j ≠ w5.heap.size → w13.heap[j]? = w12.heap[j]? := by
   intro j hj
   subst hw13
   exact heap_setCell_ne (by rw [add_block]; exact hj)
  have hV13 : VocIs w13 v s T := by subst hw13; exact hV12.put g12 (by decide) (by omega) _
  have t13 : Touch v w w13 := by subst hw13; exact (t11.trans t12).put (by omega) _
  have lg13 : w13.heap[w6.heap.size]? = _ := (hs13 _ (by omega)).trans lg12
  have x13 : w13.heap[w.heap.size]? = _ := (hs13 _ (by omega)).trans x12
  have y13 : w13.heap[w2.heap.size]? = _ := (hs13 _ (by omega)).trans y12
  have hR13 : GridR w13 w5.heap.size (gids s T) (alB s T) (relB s T) ids sl0 al w4.heap.size [] 0 :=
   ⟨g13, own_same o12 fun k hk => hs13 k fun e => row_ne_blk o12 g12 (by decide) (by rw [hk, e]), m12.same (hs13 _ (by omega)), own_none _ _ _ _ encS, rfl, (by intro i r h; cases h), own_same (own_base oal (Nat.zero_le _)) fun k hk => hs13 k fun e => row_ne_blk oal g12 (by decide) (by rw [hk, e])⟩
  refine ⟨ids.a, ids.n, ids.c, cell1 y13, ?_⟩
  intro I2 hI2
  let Inv2 (i : Nat) (q : World) : Prop := ∃ rows rs, GridR q w5.heap.size (gids s T) (alB s T) (relB s T) ids rows al w4.heap.size rs i ∧ q.ownsRow w.heap.size tRow 1 rows.v rows.n (rs.flatMap encS) ∧ VocIs q v s T ∧ Touch v w q ∧ q.heap[w6.heap.size]? = some (.cells #[.pointer (some (nb w5))] 49 (0, 0)) ∧ q.heap[w.heap.size]? = some (.cells #[.pointer (some ⟨v, 0, none⟩)] 31 (0, 0)) ∧ q.heap[w2.heap.size]? = some (.cells #[ids.v] tInts (0, 0))
  have key2 := climb2 (α := World) n Inv2 (fun i q => I2 [.int .i64 (i : Int)] q) w13 ⟨sl0, [], hR13, own_none _ _ _ _ encS, hV13, t13, lg13, x13, y13⟩ ?_ ?_
  ·exact key2
  ·rintro i hi ih z ⟨rows, rs, hR, orow, hVz, tz, lgz, xz, yz⟩
   have hiG : i < (gids s T).length := by omega
   have zb : w.heap.size < z.heap.size ∧ w2.heap.size < z.heap.size ∧ w6.heap.size < z.heap.size ∧ w5.heap.size < z.heap.size := ⟨(Array.getElem?_eq_some_iff.1 xz).1, (Array.getElem?_eq_some_iff.1 yz).1, (Array.getElem?_eq_some_iff.1 lgz).1, (Array.getElem?_eq_some_iff.1 hR.blk).1⟩
   have hlz := LsAt.of_own elInt hR.oi
   obtain ⟨p, hp, c0⟩ := cell_rw hlz.r hiG rfl
   have hnz := hlz.n
   refine hI2 _ _ (CondP.yes (by simp; omega) (NilC.mk p hp ⟨by omega, by omega, _, c0, ?_⟩))
   intro w15 hw15 w16 hw16
   refine two_boxes hw15 hw16 rfl rfl ?_
   intro w18 bi18 ba18 b18
   have zs15 : z.heap.size < w15.heap.size := by subst hw15; rw [alloc_size]; omega
   intro w19 hw19
   have b19' : Below w18.heap.size w18 w19 := by subst hw19; exact drew_on w18
   have b19 := below_then b18 b19'
   have bi19 := held_on b19' bi18
   have ba19 := held_on b19' ba18
   have hR19 := hR.on b19
   have hV19 := hVz.on b19
   have lg19 := held_on b19 lgz
   have x19 := held_on b19 xz
   have y19 := held_on b19 yz
   have or19 := own_on orow b19
   have t19 : Touch v w w19 := tz.then_off b19 tz.size
   refine ⟨_, cell1 lg19, _, cell1 lg19, NilC.mk _ rfl ⟨rows.a, rows.n, rows.c, by rw [cell_put hR19.blk]; rfl, ids.a, ids.n, ids.c, cell1 y19, ?_⟩⟩
   refine (fill_spec w19 ids.n _ (fun k => relB s T i k) v s T hV19 (by omega) ?_).mono ?_
   ·intro k hk q hVq tq
    refine callG_of (by kernel_rfl) ?_
    refine new2_spec q v s T hVq w6.heap.size z.heap.size w.heap.size w15.heap.size w2.heap.size w5.heap.size ids rows al w4.heap.size rs i i k ⟨by omega, by omega, by omega, by omega, by omega⟩ (hR19.touch hV19 tq) hgh hg2 (tq.held (by omega) lg19) (tq.held (by omega) bi19) (tq.held (by omega) x19) (tq.held (by omega) (by rw [getD_of hiG]; exact ba19)) (tq.held (by omega) y19) hiG (by omega)
   rintro e w20 ⟨r, rfl, orw, hV20, t20⟩
   rw [hin, hn] at orw
   have hR20 := hR19.touch hV19 t20
   have lg20 := t20.held (by omega) lg19
   have x20 := t20.held (by omega) x19
   have y20 := t20.held (by omega) y19
   have or20 := hV19.own_touch t20 or19 (by decide)
   refine ⟨r.a, r.n, r.c, rfl, ⟨by rw [cell_put hR20.blk]; rfl, trivial⟩, ⟨cell1 lg20, trivial⟩, ⟨cell1 lg20, trivial⟩, ?_⟩
   intro w21 hw21
   have b21 : Below w20.heap.size w20 w21 := by subst hw21; exact below_alloc _ _
   have lg21 := held_on b21 lg20
   have wb : w.heap.size ≤ w20.heap.size := (t19.trans t20).size
   obtain ⟨rows', w22, hn22, hrun, own22, hB22, hk22⟩ := elRow.push or20 r hw21 rfl wb (by have := (LsAt.of_own elRow or20).n; have := hR.rl; omega) (by decide)
   refine ⟨⟨by rw [cell_put (held_on b21 hR20.blk)]; rfl, trivial⟩, ⟨cell1 lg21, trivial⟩, ⟨cell1 lg21, trivial⟩, rows'.a, rows'.n, rows'.c, w22, hrun, ?_⟩
   have kp : ∀ {k : Nat} {o : Obj}, w20.heap[k]? = some o → rows.v.ownBlock ≠ some k → w22.heap[k]? = some o := fun {k o} h hne => (hk22 k (Array.getElem?_eq_some_iff.1 h).1 hne).trans h
   have lg22 := kp lg20 (row_ne_blk or20 lg20 (by decide))
   have x22 := kp x20 (row_ne_blk or20 x20 (by decide))
   have y22 := kp y20 (row_ne_blk or20 y20 (by decide))
   have g22 := kp hR20.blk (row_ne_blk or20 hR20.blk (by decide))
   have B22 := hB22 w20 (Below.refl _ _)
   have hV22 := hV20.growE B22 hvl or20 (by decide) hk22
   have t22 : Touch v w w22 := (t19.trans t20).then_off B22 (Nat.le_refl _)
   refine ⟨⟨cell1 lg22, trivial⟩, NilC.mk _ rfl ⟨rfl, ⟨_, by rw [cell_put g22]; rfl⟩, frozen_put g22, ?_⟩⟩
   intro w23 hw23
   have hs23 : ∀ j, j ≠ w5.heap.size → w23.heap[j]? = w22.heap[j]? := by
    intro j hj
    subst hw23
    exact heap_setCell_ne (by rw [add_block]; exact hj)
   have same : ∀ {B sz n : Nat} {e : TypeId} {u : Value} {xs : List Value}, w20.ownsRow B e sz u n xs → e ≠ tRow → e ≠ tGrid → w23.ownsRow B e sz u n xs := by
    intro B sz n e u xs h h1 h2
    refine own_same h fun k hk => ?_
    rw [hs23 k fun e => row_ne_blk h hR20.blk h2 (by rw [hk, e])]
    exact hk22 k (own_lt h k hk).2 (row_ne_row h or20 h1 k hk)
   have own23 : w23.ownsRow w.heap.size tRow 1 rows'.v rows'.n ((rs ++ [r]).flatMap encS) := own_same own22 fun k hk => hs23 k fun e => row_ne_blk own22 g22 (by decide) (by rw [hk, e])
   refine Ar.nat (i + 1) rfl (by omega) (ih w23 ⟨rows', rs ++ [r], ?_, own23, ?_, ?_, (hs23 _ (by omega)).trans lg22, (hs23 _ (by omega)).trans x22, (hs23 _ (by omega)).trans y22⟩)
   ·refine ⟨by subst hw23; exact heap_put g22 _, same hR20.oi (by decide) (by decide), ?_, own_base own23 (Nat.zero_le _), by have := hR.rl; simp; omega, ?_, same hR20.oal (by decide) (by decide)⟩
    ·exact hR20.map.same ((hs23 _ (by omega)).trans (hk22 _ hR20.map.lt (own_ne_map or20 hR20.map)))
    ·intro j r' hj
     have hrl := hR.rl
     by_cases h : j < rs.length
     ·rw [List.getElem?_append_left h] at hj
      exact same (hR20.each j r' hj) (by decide) (by decide)
     ·have hji : j = i := by
       have := (List.getElem?_eq_some_iff.1 hj).1
       simp at this
       omega
      subst hji
      rw [List.getElem?_append_right (by omega), hrl, Nat.sub_self] at hj
      cases hj
      exact same (own_base orw (Nat.zero_le _)) (by decide) (by decide)
   ·subst hw23; exact hV22.put g22 (by decide) (by omega) _
   ·subst hw23; exact t22.put (by omega) _
  ·rintro z ⟨rows, rs, hR, orow, hVz, tz, lgz, xz, yz⟩
   rw [hn] at hR
   refine hI2 _ _ (CondP.no (by simp; omega) ⟨_, cell1 lgz, hVz, tz, ?_⟩)
   rw [if_neg (by have := hm; rw [hn] at *; omega)]
   exact ⟨w5.heap.size, rfl, ⟨ids, rows, al, w4.heap.size, rs, hR⟩, by omega⟩
def s1 (x : Nat) : Nat := (x / 2 &&& 6148914691236517205) + (x &&& 6148914691236517205)
def s2 (x : Nat) : Nat := (x / 4 &&& 3689348814741910323) + (x &&& 3689348814741910323)
def s3 (x : Nat) : Nat := x / 16 + x
def s4 (x : Nat) : Nat := (x &&& 1085102592571150095) + (x &&& 1085102592571150095) / 256
def s5 (x : Nat) : Nat := x + x / 65536
abbrev GrIs (w : World) (g : Nat) (s : SpecV) (T : List Ent) : Prop := GridIs w g (gids s T) (alB s T) (relB s T)
def plc (s : SpecV) (T : List Ent) (id : Int) : Option Nat := (gids s T).idxOf? id
theorem idxOf_some {l : List Int} {a : Int} {i : Nat} (h : l.idxOf? a = some i) : ∃ h : i < l.length, l[i] = a := by
 have := List.findIdx?_eq_some_iff_getElem.1 h
 obtain ⟨h1, h2, _⟩ := this
 exact ⟨h1, by simpa using h2⟩
theorem plc_some {s : SpecV} {T : List Ent} {id : Int} {i : Nat} (h : plc s T id = some i) : i < (gids s T).length ∧ (gids s T).getD i 0 = id ∧ hasV2 s T id = true := by
 obtain ⟨h1, h2⟩ := idxOf_some h
 exact ⟨h1, by rw [getD_of h1]; exact h2, (gids_has s T id).1 (by rw [← h2]; exact List.getElem_mem h1)⟩
theorem plc_none {s : SpecV} {T : List Ent} {id : Int} (h : plc s T id = none) : hasV2 s T id = false := by
 have h1 := List.idxOf?_eq_none_iff.1 h
 cases hh : hasV2 s T id with
 | false => rfl
 | true => exact absurd ((gids_has s T id).2 hh) h1
theorem plc_has {s : SpecV} {T : List Ent} (id : Int) : (plc s T id).isSome = hasV2 s T id := by
 cases h : plc s T id with
 | none => exact (plc_none h).symm
 | some i => exact (plc_some h).2.2.symm
def gAl (s : SpecV) (T : List Ent) (id : Int) : Bool := hasV2 s T id && decide ((vocOf s T).Canon [id])
def gHas (s : SpecV) (T : List Ent) (a b : Int) : Bool := hasV2 s T a && hasV2 s T b && decide ((vocOf s T).Canon [a, b])
theorem infoI : (Tryz.prog.info? tInt).map (·.zero) = some (some (.int .i64 0)) := by kernel_rfl
theorem gPlace_spec (w : World) (g : Nat) (s : SpecV) (T : List Ent) (h : GrIs w g s T) (id : Int) :
  CP 26 #[.pointer (some ⟨g, 0, none⟩), .int .i64 id] w fun e w' => e = .returned (.tuple #[.int .i64 (((plc s T id).getD 0 : Nat) : Int), .bool (plc s T id).isSome]) ∧ w' = w := by
 refine calls_ret (vc26_calls (some ⟨g, 0, none⟩) id w (fun u w' => u = .tuple #[.int .i64 (((plc s T id).getD 0 : Nat) : Int), .bool (plc s T id).isSome] ∧ w' = w) ?_) (by rintro v w' ⟨rfl, h⟩; exact ⟨rfl, h⟩)
 obtain ⟨ids, rows, alone, mb, rs, hR⟩ := h
 refine CondP.no rfl (NilC.mk _ rfl ⟨some mb, by rw [cell_put hR.blk]; rfl, ?_⟩)
 have hl := run_look keysI undMapI infoI hR.map id
 rw [look_gmap] at hl
 have e : ((((gids s T).idxOf? id).map fun i : Nat => Value.int .i64 (i : Int)).getD (.int .i64 0)) = .int .i64 (((plc s T id).getD 0 : Nat) : Int) := by
  show _ = Value.int .i64 ((((gids s T).idxOf? id).getD 0 : Nat) : Int)
  cases (gids s T).idxOf? id <;> rfl
 rw [e, Option.isSome_map] at hl
 exact ⟨_, _, w, hl, rfl, rfl⟩
theorem gAlone_spec (w : World) (g : Nat) (s : SpecV) (T : List Ent) (h : GrIs w g s T) (hn : (gids s T).length ≤ 1032) (id : Int) :
  CP 110 #[.pointer (some ⟨g, 0, none⟩), .int .i64 id] w fun e w' => e = .returned (.bool (gAl s T id)) ∧ w' = w := by
 refine calls_ret (vc110_calls (some ⟨g, 0, none⟩) id w (fun u w' => u = .bool (gAl s T id) ∧ w' = w) ?_) (by rintro v w' ⟨rfl, h⟩; exact ⟨rfl, h⟩)
 refine (gPlace_spec w g s T h id).mono ?_
 rintro e w1 ⟨rfl, rfl⟩
 obtain ⟨ids, rows, alone, mb, rs, hR⟩ := h
 refine ⟨_, _, rfl, CondP.mk (fun h1 => ?_) fun h1 => ⟨?_, rfl⟩⟩
 ·obtain ⟨i, hi⟩ := Option.isSome_iff_exists.1 h1
  obtain ⟨hi1, hi2, hi3⟩ := plc_some hi
  have al1 := LsAt.of_own elU64 hR.oal
  refine NilC.mk _ rfl ⟨alone.a, alone.n, alone.c, by rw [cell_put hR.blk]; rfl, ?_⟩
  rw [hi]
  refine (rowHas_spec w1 alone.a alone.n alone.c _ (alB s T) al1.r al1.n (by omega) i hi1).mono ?_
  rintro e w2 ⟨rfl, rfl⟩
  refine ⟨_, rfl, ?_, rfl⟩
  unfold gAl alB
  rw [hi2, hi3, Bool.true_and]
 ·rw [plc_has] at h1
  unfold gAl
  rw [h1, Bool.false_and]
theorem row_get {s : SpecV} {T : List Ent} {w : World} {g : Nat} {ids rows alone : Sl} {mb : Nat} {rs : List Sl} (hR : GridR w g (gids s T) (alB s T) (relB s T) ids rows alone mb rs (gids s T).length) (i : Nat) (hi : i < (gids s T).length) : ∃ (p : Addr) (r : Sl), rows.a = some p ∧ i < rows.n ∧ w.cell? (p.add (i * 1)) = some (.slice r.a r.n r.c) ∧ LsAt encU64 1 w r (wordsOf (gids s T).length (relB s T i)) := by
 have hls := LsAt.of_own elRow hR.orows
 have hl := hR.rl
 have hi2 : i < rs.length := by omega
 obtain ⟨p, hp, c0⟩ := cell_rw hls.r hi2 (v := rs[i].v) rfl
 exact ⟨p, rs[i], hp, by rw [hls.n]; exact hi2, c0, LsAt.of_own elU64 (hR.each i _ (List.getElem?_eq_getElem hi2))⟩
theorem gHas_spec (w : World) (g : Nat) (s : SpecV) (T : List Ent) (h : GrIs w g s T) (hn : (gids s T).length ≤ 1032) (a b : Int) :
  CP 111 #[.pointer (some ⟨g, 0, none⟩), .int .i64 a, .int .i64 b] w fun e w' => e = .returned (.bool (gHas s T a b)) ∧ w' = w := by
 refine calls_ret (vc111_calls (some ⟨g, 0, none⟩) a b w (fun u w' => u = .bool (gHas s T a b) ∧ w' = w) ?_) (by rintro v w' ⟨rfl, h⟩; exact ⟨rfl, h⟩)
 refine (gPlace_spec w g s T h a).mono ?_
 rintro e w1 ⟨rfl, rfl⟩
 refine ⟨_, _, rfl, (gPlace_spec w1 g s T h b).mono ?_⟩
 rintro e w2 ⟨rfl, rfl⟩
 obtain ⟨ids, rows, alone, mb, rs, hR⟩ := h
 refine ⟨_, _, rfl, CondP.mk (fun h1 => CondP.mk (fun h2 => ?_) fun h2 => ⟨?_, rfl⟩) fun h1 => ⟨?_, rfl⟩⟩
 ·obtain ⟨i, hi⟩ := Option.isSome_iff_exists.1 h1
  obtain ⟨hi1, hi2, hi3⟩ := plc_some hi
  obtain ⟨j, hj⟩ := Option.isSome_iff_exists.1 h2
  obtain ⟨hj1, hj2, hj3⟩ := plc_some hj
  obtain ⟨p, r, hp, hin, hc, hls⟩ := row_get hR i hi1
  rw [hi, hj]
  refine NilC.mk _ rfl ⟨rows.a, rows.n, rows.c, by rw [cell_put hR.blk]; rfl, NilC.mk p hp ⟨by omega, by show ((i : Nat) : Int) < _; omega, r.a, r.n, r.c, hc, ?_⟩⟩
  refine (rowHas_spec w2 r.a r.n r.c _ (relB s T i) hls.r hls.n (by omega) j hj1).mono ?_
  rintro e w2 ⟨rfl, rfl⟩
  refine ⟨_, rfl, ?_, rfl⟩
  unfold gHas relB
  rw [hi2, hi3, hj2, hj3, Bool.true_and, Bool.true_and]
 ·rw [plc_has] at h2
  unfold gHas
  rw [h2, Bool.and_false, Bool.false_and]
 ·rw [plc_has] at h1
  unfold gHas
  rw [h1, Bool.false_and, Bool.false_and]
theorem gSize_spec (w : World) (g : Nat) (s : SpecV) (T : List Ent) (h : GrIs w g s T) :
  CP 25 #[.pointer (some ⟨g, 0, none⟩)] w fun e w' => e = .returned (.int .i64 (((gids s T).length : Nat) : Int)) ∧ w' = w := by
 refine calls_ret (vc25_calls (some ⟨g, 0, none⟩) w (fun u w' => u = .int .i64 (((gids s T).length : Nat) : Int) ∧ w' = w) ?_) (by rintro v w' ⟨rfl, h⟩; exact ⟨rfl, h⟩)
 obtain ⟨ids, rows, alone, mb, rs, hR⟩ := h
 refine CondP.no rfl (NilC.mk _ rfl ⟨ids.a, ids.n, ids.c, by rw [cell_put hR.blk]; rfl, ?_, rfl⟩)
 rw [(LsAt.of_own elInt hR.oi).n]
theorem gId_spec (w : World) (g : Nat) (s : SpecV) (T : List Ent) (h : GrIs w g s T) (place : Int) :
  CP 85 #[.pointer (some ⟨g, 0, none⟩), .int .i64 place] w fun e w' => e = .returned (if 0 ≤ place ∧ place < ((gids s T).length : Int) then .tuple #[.int .i64 ((gids s T).getD place.toNat 0), .bool true] else .tuple #[.int .i64 0, .bool false]) ∧ w' = w := by
 refine calls_ret (vc85_calls (some ⟨g, 0, none⟩) place w (fun u w' => u = (if 0 ≤ place ∧ place < ((gids s T).length : Int) then .tuple #[.int .i64 ((gids s T).getD place.toNat 0), .bool true] else .tuple #[.int .i64 0, .bool false]) ∧ w' = w) ?_) (by rintro v w' ⟨rfl, h⟩; exact ⟨rfl, h⟩)
 refine CondP.mk (fun h1 => ⟨?_, rfl⟩) fun h1 => ?_
 ·rw [if_neg (by have := of_decide_eq_true h1; omega)]
 have h1 := of_decide_eq_false h1
 refine (gSize_spec w g s T h).mono ?_
 rintro e w1 ⟨rfl, rfl⟩
 refine ⟨_, rfl, CondP.mk (fun h2 => ⟨?_, rfl⟩) fun h2 => ?_⟩
 ·rw [if_neg (by have := of_decide_eq_true h2; omega)]
 have h2 := of_decide_eq_false h2
 obtain ⟨ids, rows, alone, mb, rs, hR⟩ := h
 obtain ⟨i, rfl⟩ : ∃ i : Nat, place = i := ⟨place.toNat, by omega⟩
 have hi : i < (gids s T).length := by omega
 have hls := LsAt.of_own elInt hR.oi
 obtain ⟨p, hp, c0⟩ := cell_rw hls.r hi rfl
 have := hls.n
 refine NilC.mk _ rfl ⟨ids.a, ids.n, ids.c, by rw [cell_put hR.blk]; rfl, NilC.mk p hp ⟨by omega, by omega, _, c0, ?_, rfl⟩⟩
 rw [if_pos ⟨by omega, by omega⟩]
 show _ = Value.tuple #[.int .i64 ((gids s T).getD i 0), .bool true]
 rw [getD_of hi]
theorem gFirst_spec (w : World) (g : Nat) (s : SpecV) (T : List Ent) (h : GrIs w g s T) (hn : (gids s T).length ≤ 1032) (hok : TOk T) (hV : (vocOf s T).Ok) (A : Option Addr) (C : Nat) (ids : List Int) (hr : Rw encInt 1 w A ids) (hl : ids.length ≤ 10000) :
  CP 97 #[.pointer (some ⟨g, 0, none⟩), .slice A ids.length C] w fun e w' => ∃ o : Option Nat, e = .returned (.tuple #[.int .i64 ((o.getD 0 : Nat) : Int), .bool o.isSome]) ∧ FirstR (vocOf s T) ids o ∧ w' = w := by
 refine calls_ret (vc97_calls (some ⟨g, 0, none⟩) A ids.length C w (fun u w' => ∃ o : Option Nat, u = .tuple #[.int .i64 ((o.getD 0 : Nat) : Int), .bool o.isSome] ∧ FirstR (vocOf s T) ids o ∧ w' = w) ?_) (by rintro v w' ⟨o, rfl, h⟩; exact ⟨o, rfl, h⟩)
 have hal : ∀ t, gAl s T t = true ↔ (vocOf s T).Has t ∧ (vocOf s T).Canon [t] := by
  intro t
  unfold gAl
  rw [Bool.and_eq_true, has_iff2 hok, decide_eq_true_iff]
 have hpr : ∀ a b, gHas s T a b = true ↔ ((vocOf s T).Has a ∧ (vocOf s T).Has b) ∧ (vocOf s T).Canon [a, b] := by
  intro a b
  unfold gHas
  rw [Bool.and_eq_true, Bool.and_eq_true, has_iff2 hok, has_iff2 hok, decide_eq_true_iff]
 intro I hI
 have key := climb2 (α := World) ids.length (fun i q => (∀ (j : Nat) (h : j < ids.length), j < i → (vocOf s T).Has ids[j] ∧ (vocOf s T).Canon (ids.take (j + 1))) ∧ q = w) (fun i q => ∀ y5 y4, I [.int .i64 (i : Int), .bool y5, .int .i64 y4] q) w ⟨fun j _ hj => absurd hj (Nat.not_lt_zero j), rfl⟩ ?_ ?_
 ·exact key _ _
 ·rintro i hi ih q ⟨hinv, rfl⟩ y5 y4
  obtain ⟨p, hp, c0⟩ := cell_rw hr hi rfl
  refine hI _ _ _ _ (CondP.yes (by simp; omega) (NilC.mk p hp ⟨by omega, by omega, _, c0, ?_⟩))
  refine (gAlone_spec q g s T h hn _).mono ?_
  rintro e w2 ⟨rfl, rfl⟩
  refine ⟨_, rfl, CondP.mk (fun h0 => ?_) fun h0 => ?_⟩
  ·refine ⟨some i, rfl, ⟨fun j hj hji => hinv j hj hji, hi, fun e => ?_⟩, rfl⟩
   have hh : ∀ t ∈ ids.take (i + 1), (vocOf s T).Has t := by
    intro t ht
    obtain ⟨j, hj, rfl⟩ := List.mem_take_iff_getElem.1 ht
    by_cases e2 : j = i
    ·subst e2; exact e.1
    ·exact (hinv j (by omega) (by omega)).1
   have htk : ids.take (i + 1) = ids.take i ++ [ids[i]] := by rw [List.take_add_one, List.getElem?_eq_getElem hi]; rfl
   rw [htk] at hh e
   rw [(hal _).2 ⟨e.1, (Voc.canon_append hV hh e.2).2⟩] at h0
   cases h0
  ·have h1 := (hal _).1 (by simpa using h0)
   have htk : ids.take (i + 1) = ids.take i ++ [ids[i]] := by rw [List.take_add_one, List.getElem?_eq_getElem hi]; rfl
   have next : (vocOf s T).Canon (ids.take (i + 1)) → Ar .i64 ((i : Int) + 1) (fun n => I [.int .i64 n, .bool y5, .int .i64 y4] w2) := by
    intro hc
    refine Ar.nat (i + 1) rfl (by omega) (ih w2 ⟨fun j hj hji => ?_, rfl⟩ _ _)
    by_cases e2 : j = i
    ·subst e2; exact ⟨h1.1, hc⟩
    ·exact hinv j hj (by omega)
   refine CondP.mk (fun hi0 => ?_) fun hi0 => ?_
   ·have hi0 := of_decide_eq_true hi0
    obtain ⟨k, rfl⟩ : ∃ k, i = k + 1 := ⟨i - 1, by omega⟩
    obtain ⟨p2, hp2, c1⟩ := cell_rw hr (show k < ids.length by omega) rfl
    refine Ar.nat k (by omega) (by omega) (NilC.mk p2 hp2 ⟨by omega, by omega, _, c1, ?_⟩)
    refine (gHas_spec w2 g s T h hn _ _).mono ?_
    rintro e w3 ⟨rfl, rfl⟩
    have hk := hinv k (by omega) (by omega)
    have htk2 : ids.take (k + 1) = ids.take k ++ [ids[k]] := by rw [List.take_add_one, List.getElem?_eq_getElem (by omega)]; rfl
    have hh : ∀ t ∈ ids.take k ++ [ids[k]], (vocOf s T).Has t := by
     intro t ht
     rw [← htk2] at ht
     obtain ⟨j, hj, rfl⟩ := List.mem_take_iff_getElem.1 ht
     exact (hinv j (by omega) (by omega)).1
    have hc2 := hk.2
    rw [htk2] at hc2
    have m1 := Voc.canon_more hV hh hc2 h1.1
    have m2 : (vocOf s T).Canon [ids[k], ids[k + 1]] ↔ (vocOf s T).Canon [ids[k + 1]] ∧ (vocOf s T).Pair ids[k] ids[k + 1] := Voc.canon_more hV (init := []) (l := ids[k]) (t := ids[k + 1]) (fun x hx => by rw [List.nil_append, List.mem_singleton] at hx; rw [hx]; exact hk.1) (Voc.canon_append hV hh hc2).2 h1.1
    refine ⟨_, rfl, CondP.mk (fun h2 => ?_) fun h2 => ?_⟩
    ·refine ⟨some (k + 1), rfl, ⟨fun j hj hji => hinv j hj hji, hi, fun e => ?_⟩, rfl⟩
     have e2 := e.2
     rw [htk, htk2] at e2
     rw [(hpr _ _).2 ⟨⟨hk.1, h1.1⟩, m2.2 (m1.1 e2)⟩] at h2
     cases h2
    ·have h3 := (hpr _ _).1 (by simpa using h2)
     exact next (by rw [htk, htk2]; exact m1.2 (m2.1 h3.2))
   ·have hi0 := of_decide_eq_false hi0
    obtain rfl : i = 0 := by omega
    refine next ?_
    rw [htk, List.take_zero, List.nil_append]
    exact h1.2
 ·rintro q ⟨hinv, rfl⟩ y5 y4
  exact hI _ _ _ _ (CondP.no (by simp) ⟨none, rfl, fun j hj => hinv j hj hj, rfl⟩)
theorem gids_aw : (gids sAw tAw).length = 257 := by decide +kernel
theorem gids_few {w : World} {v : Nat} {y : RvW} {s : SpecV} {T : List Ent} (h : Both w v y s T) : (gids s T).length ≤ 1006 ∧ (((gids s T).length * (gids s T).length : Nat) : Int) ≤ 1048576 := by
 have h1 := h.now.ok.most
 have h2 := h.few
 have h3 := h.ids
 have hT : T.length ≤ 1000 := h1
 have hl : (gids s T).length ≤ 1006 := by rw [gids_length]; omega
 refine ⟨hl, ?_⟩
 have : (gids s T).length * (gids s T).length ≤ 1006 * 1006 := Nat.mul_le_mul hl hl
 omega
theorem firstR_unique {V : Voc} {ids : List Int} {o o' : Option Nat} (h : FirstR V ids o) (h' : FirstR V ids o') : o = o' := by
 cases o with
 | none =>
  cases o' with
  | none => rfl
  | some k => obtain ⟨_, hk, h2⟩ := h'; exact absurd (h k hk) h2
 | some k =>
  obtain ⟨h1, hk, h2⟩ := h
  cases o' with
  | none => exact absurd (h' k hk) h2
  | some k' =>
   obtain ⟨h1', hk', h2'⟩ := h'
   rcases Nat.lt_trichotomy k k' with h | h | h
   ·exact absurd (h1' k hk h) h2
   ·rw [h]
   ·exact absurd (h1 k' hk' h) h2'
abbrev tMask : TypeId := 122
abbrev tMaskP : TypeId := 48
structure MaskIs (w : World) (m v g r n1 : Nat) (s : SpecV) (T : List Ent) (S : List Bs) (nd mp : Bs → Nat) : Prop where
 blk : w.heap[m]? = some (.cells #[.pointer (some ⟨r, 0, none⟩), .pointer (some ⟨v, 0, none⟩), .pointer (some ⟨g, 0, none⟩)] tMask (0, 0))
 voc : VocIs w v s T
 grid : GrIs w g s T
 trie : TrieAt w n1 S nd mp (idOf T)
 root : ∃ n, RootAt w r (nd []) n
 mem : ∀ u, u ∈ S ↔ u = [] ∨ ∃ e ∈ T, u <+: e.1
 few : (gids s T).length ≤ 1032
 ok : TOk T
 vok : (vocOf s T).Ok
 asc : (s.specials.map (·.1)).Pairwise (· < ·)
def MaskAt (w : World) (m v g : Nat) (s : SpecV) (T : List Ent) : Prop := ∃ r n1 S nd mp, MaskIs w m v g r n1 s T S nd mp
theorem MaskIs.on {w w' : World} {m v g r n1 : Nat} {s : SpecV} {T : List Ent} {S : List Bs} {nd mp : Bs → Nat} (h : MaskIs w m v g r n1 s T S nd mp) (hb : Below w.heap.size w w') : MaskIs w' m v g r n1 s T S nd mp := by
 obtain ⟨n, hn⟩ := h.root
 exact ⟨held_on hb h.blk, h.voc.on hb, h.grid.on hb, h.trie.on hb, ⟨n, held_on hb hn⟩, h.mem, h.few, h.ok, h.vok, h.asc⟩
theorem MaskAt.on {w w' : World} {m v g : Nat} {s : SpecV} {T : List Ent} (h : MaskAt w m v g s T) (hb : Below w.heap.size w w') : MaskAt w' m v g s T := by
 obtain ⟨r, n1, S, nd, mp, h⟩ := h
 exact ⟨r, n1, S, nd, mp, h.on hb⟩
theorem maskNew_spec (w : World) (v g : Nat) (s : SpecV) (T : List Ent) (hV : VocIs w v s T) (hG : GrIs w g s T) (hn : (gids s T).length ≤ 1032) (hvok : (vocOf s T).Ok) (hasc : (s.specials.map (·.1)).Pairwise (· < ·)) :
  CP 52 #[.pointer (some ⟨v, 0, none⟩), .pointer (some ⟨g, 0, none⟩)] w fun e w' => ∃ m, e = .returned (.tuple #[.pointer (some ⟨m, 0, none⟩), .int .i64 0]) ∧ MaskAt w' m v g s T ∧ w.heap.size ≤ m ∧ Below w.heap.size w w' := by
 refine calls_ret (vc52_calls (some ⟨v, 0, none⟩) (some ⟨g, 0, none⟩) w (fun u w' => ∃ m, u = .tuple #[.pointer (some ⟨m, 0, none⟩), .int .i64 0] ∧ MaskAt w' m v g s T ∧ w.heap.size ≤ m ∧ Below w.heap.size w w') ?_) (by rintro u w' ⟨m, rfl, h⟩; exact ⟨m, rfl, h⟩)
 refine CondP.no rfl (CondP.no rfl ((gSize_spec w g s T hG).mono ?_))
 rintro e w1 ⟨rfl, hw1⟩
 subst w1
 refine ⟨_, rfl, (vocIds_spec w v s T hV hasc).mono ?_⟩
 rintro e w2 ⟨l, rfl, ho, b2⟩
 have hln : l.n = (gids s T).length := (Rw.of_own ho (fun _ => rfl) (by decide)).2
 refine ⟨l.a, l.n, l.c, rfl, CondP.no (by rw [hln]; simp) ((vocIds_spec w2 v s T (hV.on b2) hasc).mono ?_)⟩
 rintro e w3 ⟨k, rfl, hk, b3⟩
 obtain ⟨hkr, hkn⟩ := Rw.of_own hk (fun _ => rfl) (by decide)
 have hkn : k.n = (gids s T).length := hkn
 have hb3 := below_then b2 b3
 refine ⟨k.a, k.n, k.c, rfl, ?_⟩
 intro I hI
 have key := climb2 (α := Int × Option Addr) (gids s T).length (fun _ _ => True) (fun i y => I [.int .i64 (i : Int), .int .i64 y.1, .pointer y.2] w3) (0, none) trivial ?_ ?_
 ·exact key
 ·rintro i hi ih ⟨y5, y4⟩ _
  obtain ⟨p, hp, c0⟩ := cell_rw hkr hi rfl
  refine hI _ y5 y4 w3 (CondP.yes (decide_eq_true (by omega)) (NilC.mk p hp ⟨by omega, by omega, _, c0, (gId_spec w3 g s T (hG.on hb3) (i : Int)).mono ?_⟩))
  rintro e w5 ⟨rfl, hw5⟩
  subst w5
  rw [if_pos ⟨by omega, by omega⟩]
  refine ⟨_, _, rfl, CondP.no rfl (CondP.no ?_ (Ar.nat (i + 1) rfl (by omega) (ih (y5, y4) trivial)))⟩
  rw [Int.toNat_natCast, getD_of hi]
  simp
 ·rintro ⟨y5, y4⟩ _
  have hV3 := hV.on hb3
  have hV3' := hV3
  obtain ⟨w0, x, tp, bp, mp', d, l0, uses, hR⟩ := hV3'
  have hok := hR.now.ok
  refine hI _ y5 y4 w3 (CondP.no (decide_eq_false (by omega)) ((vocTable_spec hR.vblk).mono ?_))
  rintro e w6 ⟨rfl, hw6⟩
  subst w6
  refine ⟨_, rfl, (trieNew_spec w3 tp T hR.now.tab hok).mono ?_⟩
  rintro e w7 ⟨r, S, nd, mp, n, rfl, hr1, hT7, hroot, hmem, b7⟩
  refine ⟨_, rfl, ?_⟩
  intro w8 hw8
  have b8 : Below w7.heap.size w7 w8 := by subst hw8; exact below_alloc _ _
  have x8 : w8.heap[w7.heap.size]? = some (.cells #[.pointer (some ⟨r, 0, none⟩), .pointer (some ⟨v, 0, none⟩), .pointer (some ⟨g, 0, none⟩)] tMask (0, 0)) := by subst hw8; exact alloc_new _ _
  have hb7 := below_then hb3 b7
  have hb8 := below_then hb7 b8
  exact ⟨w7.heap.size, rfl, ⟨r, w3.heap.size, S, nd, mp, x8, hV.on hb8, hG.on hb8, hT7.on b8, ⟨n, held_on b8 hroot⟩, hmem, hn, hok, hvok, hasc⟩, hb7.size, hb8⟩
def mayB (s : SpecV) (T : List Ent) (ids : List Int) (id : Int) : Bool := match ids.getLast? with
 | none => gAl s T id
 | some a => gHas s T a id
theorem maskMay_spec (w : World) (m v g : Nat) (s : SpecV) (T : List Ent) (h : MaskAt w m v g s T) (A : Option Addr) (C : Nat) (ids : List Int) (hr : Rw encInt 1 w A ids) (hl : ids.length ≤ 1000000) (id : Int) :
  CP 69 #[.pointer (some ⟨m, 0, none⟩), .slice A ids.length C, .int .i64 id] w fun e w' => e = .returned (.bool (mayB s T ids id)) ∧ Below w.heap.size w w' := by
 refine calls_ret (vc69_calls (some ⟨m, 0, none⟩) A ids.length C id w (fun u w' => u = .bool (mayB s T ids id) ∧ Below w.heap.size w w') ?_) (by rintro v w' ⟨rfl, h⟩; exact ⟨rfl, h⟩)
 obtain ⟨r, n1, S, nd, mp, h⟩ := h
 refine CondP.mk (fun h0 => ?_) fun h0 => ?_
 ·have h0 : (ids.length : Int) = 0 := by simpa using h0
  have : ids = [] := List.eq_nil_of_length_eq_zero (by omega)
  subst this
  refine NilC.mk _ rfl ⟨_, ptr_add0 _ _ h.blk 2, (gAlone_spec w g s T h.grid h.few id).mono ?_⟩
  rintro e w1 ⟨rfl, hw1⟩
  subst w1
  exact ⟨_, rfl, rfl, Below.refl _ _⟩
 ·have h0 : ¬ (ids.length : Int) = 0 := by simpa using h0
  intro w2 hw2
  have b2 : Below w.heap.size w w2 := by subst hw2; exact drew_on w
  have h2 := h.on b2
  have hlt : ids.length - 1 < ids.length := by omega
  obtain ⟨p, hp, c0⟩ := cell_rw (hr.on b2) hlt rfl
  refine NilC.mk _ rfl ⟨_, ptr_add0 _ _ h2.blk 2, Ar.nat (ids.length - 1) (by omega) (by omega) (NilC.mk p hp ⟨by omega, by omega, _, c0, (gHas_spec w2 g s T h2.grid h.few _ id).mono ?_⟩)⟩
  rintro e w3 ⟨rfl, hw3⟩
  subst w3
  refine ⟨_, rfl, ?_, b2⟩
  unfold mayB
  rw [List.getLast?_eq_getElem?, List.getElem?_eq_getElem hlt]
set_option maxHeartbeats 1000000 in
theorem maskSome_spec (w0 w : World) (hb : Below w0.heap.size w0 w) (m v g : Nat) (s : SpecV) (T : List Ent) (h : MaskAt w0 m v g s T) (l : Sl) (xs : List Int) (ho : w.ownsRow w0.heap.size tInt 1 l.v l.n (xs.flatMap encInt)) (hx : xs.length ≤ 1000000) (A : Option Addr) (C : Nat) (ids : List Int) (hr : Rw encInt 1 w0 A ids) (hl : ids.length ≤ 1000000) :
  CP 58 #[.pointer (some ⟨m, 0, none⟩), l.v, .slice A ids.length C] w fun e w' => ∃ l' : Sl, e = .returned l'.v ∧ w'.ownsRow w0.heap.size tInt 1 l'.v l'.n ((xs.filter (mayB s T ids)).flatMap encInt) ∧ Below w0.heap.size w0 w' := by
 refine calls_ret (vc58_calls (some ⟨m, 0, none⟩) l.a l.n l.c A ids.length C w (fun u w' => ∃ l' : Sl, u = l'.v ∧ w'.ownsRow w0.heap.size tInt 1 l'.v l'.n ((xs.filter (mayB s T ids)).flatMap encInt) ∧ Below w0.heap.size w0 w') ?_) (by rintro v w' ⟨l', rfl, h⟩; exact ⟨l', rfl, h⟩)
 intro w1 hw1 w2 hw2
 have b1 : Below w.heap.size w w1 := by subst hw1; exact below_alloc _ _
 have l1 : w1.heap[w.heap.size]? = some (.cells #[.pointer (some ⟨m, 0, none⟩)] tMaskP (0, 0)) := by subst hw1; exact alloc_new _ _
 have b2 : Below w1.heap.size w1 w2 := by subst hw2; exact below_alloc _ _
 have l2 : w2.heap[w1.heap.size]? = some (.cells #[.slice A ids.length C] tInts (0, 0)) := by subst hw2; exact alloc_new _ _
 have l12 := held_on b2 l1
 have hb1 := below_then hb b1
 have hb2 := below_then hb1 b2
 have ho2 := own_on (own_on ho b1) b2
 have clo : ∀ (x : Int) (q : World), Below w0.heap.size w0 q → q.heap[w.heap.size]? = some (.cells #[.pointer (some ⟨m, 0, none⟩)] tMaskP (0, 0)) → q.heap[w1.heap.size]? = some (.cells #[.slice A ids.length C] tInts (0, 0)) → CallG ctx (.func (.func 99) #[] #[.pointer (some (nb w)), .pointer (some (nb w1))]) [.int .i64 x] q fun e q' => e = .returned (.bool (!mayB s T ids x)) ∧ Below q.heap.size q q' := by
  intro x q hq e1 e2
  refine callG_of (by kernel_rfl) ?_
  refine calls_ret (vc99_calls x (some (nb w)) (some (nb w1)) q (fun u q' => u = .bool (!mayB s T ids x) ∧ Below q.heap.size q q') ?_) (by rintro v w' ⟨rfl, h⟩; exact ⟨rfl, h⟩)
  refine NilC.mk _ rfl ⟨_, cell_heap e1, NilC.mk _ rfl ⟨_, _, _, cell_heap e2, (maskMay_spec q m v g s T (h.on hq) A C ids (hr.on hq) hl x).mono ?_⟩⟩
  rintro e q' ⟨rfl, bq⟩
  exact ⟨_, rfl, rfl, bq⟩
 obtain ⟨hln, hc⟩ := RowB.of_own ho2
 rcases hc with rfl | ⟨b, cap, rfl, hB, hrow⟩
 ·have h0 : xs = [] := List.eq_nil_of_length_eq_zero hln.symm
  subst h0
  have hdel : CP 98 #[.slice none 0 0, .func (.func 99) #[] #[.pointer (some (nb w)), .pointer (some (nb w1))]] w2 fun e w' => e = .returned (.slice none 0 0) ∧ Below w2.heap.size w2 w' := by
   refine calls_ret (vc98_calls none 0 0 _ w2 (fun u w' => u = .slice none 0 0 ∧ Below w2.heap.size w2 w') ?_) (by rintro v w' ⟨rfl, h⟩; exact ⟨rfl, h⟩)
   refine (indexI_spec none 0 [] _ (fun _ => false) w2 (fun j x hj => by cases hj) (by simp) (fun x hx => by cases hx)).mono ?_
   rintro e w5 ⟨rfl, b5⟩
   exact ⟨_, rfl, CondP.yes rfl ⟨rfl, b5⟩⟩
  refine hdel.mono ?_
  rintro e w5 ⟨rfl, b5⟩
  exact ⟨none, 0, 0, rfl, sl0, rfl, own_none _ _ _ _ encInt, below_then hb2 b5⟩
 ·have hbw : b < w.heap.size := by
   obtain ⟨_, hc'⟩ := RowB.of_own ho
   rcases hc' with e | ⟨b', cap', e, _, hrow'⟩
   ·simp [sl0] at e
   ·simp only [Sl.mk.injEq, Option.some.injEq, Addr.mk.injEq, and_true] at e
    obtain ⟨rfl, _, rfl⟩ := e
    obtain ⟨cur, hcur, _⟩ := hrow'
    exact (Array.getElem?_eq_some_iff.1 hcur).1
  have hz1 := b1.size
  refine (deleteI_spec (fun q => Below w0.heap.size w0 q ∧ q.heap[w.heap.size]? = some (.cells #[.pointer (some ⟨m, 0, none⟩)] tMaskP (0, 0)) ∧ q.heap[w1.heap.size]? = some (.cells #[.slice A ids.length C] tInts (0, 0))) b cap xs (by omega) _ (fun x => !mayB s T ids x) ?_ ?_ w2 ⟨hb2, l12, l2⟩ hrow).mono ?_
  ·rintro q q' ⟨hq, e1, e2⟩ _ hO
   exact ⟨hq.trans (hO.below hB), by rw [hO.ne _ (by omega)]; exact e1, by rw [hO.ne _ (by omega)]; exact e2⟩
  ·rintro x _ q ⟨hq, e1, e2⟩ hints
   refine (clo x q hq e1 e2).mono ?_
   rintro e q' ⟨rfl, bq⟩
   obtain ⟨c, hc⟩ := hints
   exact ⟨rfl, ⟨below_then hq bq, held_on bq e1, held_on bq e2⟩, bq.block _ (Array.getElem?_eq_some_iff.1 hc).1⟩
  ·rintro e w5 ⟨rfl, ⟨hq, _, _⟩, hrow5⟩
   have ef : xs.filter (fun x => !!mayB s T ids x) = xs.filter (mayB s T ids) := by
    congr 1
    funext x
    rw [Bool.not_not]
   rw [ef] at hrow5 ⊢
   exact ⟨_, _, _, rfl, ⟨some ⟨b, 0, none⟩, (xs.filter (mayB s T ids)).length, cap⟩, rfl, hrow5.own hB, hq⟩
def ReadyIs (s : SpecV) (T : List Ent) (ids : List Int) (n e : Int) : Prop := (0 ≤ badId s T ids ∧ n = badId s T ids ∧ e = 4) ∨ (badId s T ids < 0 ∧ ∃ o, FirstR (vocOf s T) ids o ∧ ((∃ k : Nat, o = some k ∧ n = k ∧ e = 11) ∨ (o = none ∧ n = ids.length ∧ e = 0)))
theorem maskReady_spec (w : World) (m v g : Nat) (s : SpecV) (T : List Ent) (h : MaskAt w m v g s T) (A : Option Addr) (C : Nat) (ids : List Int) (hr : Rw encInt 1 w A ids) (hl : ids.length ≤ 10000) :
  CP 57 #[.pointer (some ⟨m, 0, none⟩), .slice A ids.length C] w fun e w' => ∃ n k : Int, e = .returned (.tuple #[.int .i64 n, .int .i64 k]) ∧ ReadyIs s T ids n k ∧ Below w.heap.size w w' := by
 refine calls_ret (vc57_calls (some ⟨m, 0, none⟩) A ids.length C w (fun u w' => ∃ n k : Int, u = .tuple #[.int .i64 n, .int .i64 k] ∧ ReadyIs s T ids n k ∧ Below w.heap.size w w') ?_) (by rintro v w' ⟨n, k, rfl, h⟩; exact ⟨n, k, rfl, h⟩)
 obtain ⟨r, n1, S, nd, mp, h⟩ := h
 intro w1 hw1
 have b1 : Below w.heap.size w w1 := by subst hw1; exact below_alloc _ _
 have l1 : w1.heap[w.heap.size]? = some (.cells #[.pointer (some ⟨m, 0, none⟩)] tMaskP (0, 0)) := by subst hw1; exact alloc_new _ _
 have h1 := h.on b1
 refine ⟨_, cell_heap l1, CondP.no rfl ?_⟩
 refine (indexI_spec A C ids _ (fun id => !hasV2 s T id) w1 (hr.on b1) (by omega) ?_).mono ?_
 ·intro id hid w2 hb2
  refine callG_of (by kernel_rfl) ?_
  refine calls_ret (vc95_calls id (some (nb w)) w2 (fun u w' => u = .bool (!hasV2 s T id) ∧ Below w2.heap.size w2 w') ?_) (by rintro v w' ⟨rfl, h⟩; exact ⟨rfl, h⟩)
  have h2 := h1.on hb2
  obtain ⟨w0, x, tp, bp, mp', d, l0, uses, hR⟩ := h2.voc
  refine NilC.mk _ rfl ⟨_, cell_heap (held_on hb2 l1), NilC.mk _ rfl ⟨_, ptr_add0 _ _ h2.blk 1, (vocHas_spec hR.vblk hR.now id).mono ?_⟩⟩
  rintro e w3 ⟨rfl, hw⟩
  subst hw
  exact ⟨_, rfl, rfl, Below.refl _ _⟩
 ·rintro e w2 ⟨rfl, b2⟩
  have hb2 := below_then b1 b2
  have h2 := h1.on b2
  refine ⟨_, rfl, CondP.mk (fun h0 => ?_) fun h0 => ?_⟩
  ·have h0 := of_decide_eq_true h0
   exact ⟨_, _, rfl, .inl ⟨h0, rfl, rfl⟩, hb2⟩
  ·have h0 := of_decide_eq_false h0
   refine ⟨_, cell_heap (held_on b2 l1), NilC.mk _ rfl ⟨_, ptr_add0 _ _ h2.blk 2, (gFirst_spec w2 g s T h2.grid h.few h.ok h.vok A C ids (hr.on hb2) hl).mono ?_⟩⟩
   rintro e w3 ⟨o, rfl, hF, hw3⟩
   subst w3
   refine ⟨_, _, rfl, CondP.mk (fun h3 => ?_) fun h3 => ?_⟩
   ·obtain ⟨k, rfl⟩ := Option.isSome_iff_exists.1 h3
    exact ⟨_, _, rfl, .inr ⟨by show badId s T ids < 0; unfold badId; omega, _, hF, .inl ⟨k, rfl, rfl, rfl⟩⟩, hb2⟩
   ·have : o = none := by simpa using h3
    subst this
    exact ⟨_, _, rfl, .inr ⟨by show badId s T ids < 0; unfold badId; omega, _, hF, .inr ⟨rfl, rfl, rfl⟩⟩, hb2⟩
theorem maskNext_spec (w : World) (m v g : Nat) (s : SpecV) (T : List Ent) (h : MaskAt w m v g s T) (A : Option Addr) (C : Nat) (ids : List Int) (hr : Rw encInt 1 w A ids) (hl : ids.length ≤ 10000) :
  CP 22 #[.pointer (some ⟨m, 0, none⟩), .slice A ids.length C] w fun e w' => ∃ (l : Sl) (n k : Int), e = .returned (.tuple #[l.v, .int .i64 n, .int .i64 k]) ∧ ReadyIs s T ids n k ∧ (k ≠ 0 → l = sl0) ∧ (k = 0 → w'.ownsRow w.heap.size tInt 1 l.v l.n (((gids s T).filter (mayB s T ids)).flatMap encInt)) ∧ Below w.heap.size w w' := by
 refine calls_ret (vc22_calls (some ⟨m, 0, none⟩) A ids.length C w (fun u w' => ∃ (l : Sl) (n k : Int), u = .tuple #[l.v, .int .i64 n, .int .i64 k] ∧ ReadyIs s T ids n k ∧ (k ≠ 0 → l = sl0) ∧ (k = 0 → w'.ownsRow w.heap.size tInt 1 l.v l.n (((gids s T).filter (mayB s T ids)).flatMap encInt)) ∧ Below w.heap.size w w') ?_) (by rintro v w' ⟨l, n, k, rfl, h⟩; exact ⟨l, n, k, rfl, h⟩)
 refine (maskReady_spec w m v g s T h A C ids hr hl).mono ?_
 rintro e w1 ⟨n, k, rfl, hR, b1⟩
 refine ⟨_, _, rfl, CondP.mk (fun hk => ?_) fun hk => ?_⟩
 ·have hk : k ≠ 0 := by simpa using hk
  exact ⟨sl0, _, _, rfl, hR, fun _ => rfl, fun h => absurd h hk, b1⟩
 ·have hk : k = 0 := by simpa using hk
  subst hk
  have h1 := h.on b1
  have h1' := h1
  obtain ⟨r, n1, S, nd, mp, hM⟩ := h1'
  refine NilC.mk _ rfl ⟨_, ptr_add0 _ _ hM.blk 1, (vocIds_spec w1 v s T hM.voc hM.asc).mono ?_⟩
  rintro e w2 ⟨l, rfl, ho, b2⟩
  have hfew := hM.few
  refine ⟨l.a, l.n, l.c, rfl, (maskSome_spec w1 w2 b2 m v g s T h1 l _ ho (by omega) A C ids (hr.on b1) (by omega)).mono ?_⟩
  rintro e w3 ⟨l', rfl, ho3, b3⟩
  exact ⟨l'.a, l'.n, l'.c, rfl, l', _, _, rfl, hR, fun h => absurd rfl h, fun _ => own_base ho3 b1.size, below_then b1 b3⟩
set_option maxHeartbeats 1000000 in
theorem maskAgree_spec (w : World) (m v g : Nat) (s : SpecV) (T : List Ent) (h : MaskAt w m v g s T) (t : Bs) (ht : t.length ≤ 100000) :
  CP 60 #[.pointer (some ⟨m, 0, none⟩), .string (str t)] w fun e w' => ∃ l : Sl, e = .returned l.v ∧ w'.ownsRow w.heap.size tInt 1 l.v l.n ((agreeL T t).flatMap encInt) ∧ Below w.heap.size w w' := by
 refine calls_ret (vc60_calls (some ⟨m, 0, none⟩) (str t) w (fun u w' => ∃ l : Sl, u = l.v ∧ w'.ownsRow w.heap.size tInt 1 l.v l.n ((agreeL T t).flatMap encInt) ∧ Below w.heap.size w w') ?_) (by rintro v w' ⟨l, rfl, h⟩; exact ⟨l, rfl, h⟩)
 obtain ⟨r, n1, S, nd, mp, h⟩ := h
 obtain ⟨n, hroot⟩ := h.root
 intro w1 hw1
 have b1 : Below w.heap.size w w1 := by subst hw1; exact drew_on w
 have h1 := h.on b1
 have hI := idsOk_of h.ok h.mem
 refine NilC.mk _ rfl ⟨_, ptr_add0 _ _ h1.blk 0, NilC.mk _ rfl ⟨_, ptr_add0 _ _ h1.blk 0, (trieBegin_spec h1.trie (held_on b1 hroot) t (by omega)).mono ?_⟩⟩
 rintro e w2 ⟨l, zs, rfl, ho, hz, b2⟩
 have hb2 := below_then b1 b2
 have h2 := h1.on b2
 refine ⟨l.a, l.n, l.c, rfl, ⟨ptr_add0 _ _ h2.blk 0, trivial⟩, (trieWithin_spec h2.trie (held_on hb2 hroot) hI t (by omega)).mono ?_⟩
 rintro e w3 ⟨k, ys, rfl, hk, hp, hy, b3⟩
 have hz1 := b1.size
 have hz2 := b2.size
 have hz3 := b3.size
 have hB3 : Below w1.heap.size w1 w3 := below_then b2 b3
 have hln : l.n = zs.length := (Rw.of_own ho (fun _ => rfl) (by decide)).2
 have hzl := hz.1
 have hyl : ys.length ≤ 1000 := by
  have := few_of (N := T.length) (hp.imp fun h e => by omega) (fun x hx => by
   obtain ⟨h1, u, _, _, he⟩ := (hy x).1 hx
   have := ((idOf_iff h.ok.nodup).1 ⟨h1, he⟩).1
   exact this)
  have := h.ok.most
  omega
 have hkls := LsAt.of_own elInt hk
 obtain ⟨f, w4, e1, e2, e3, e4, e5, _⟩ := elInt.spread (own_on ho b3) hkls (by omega) (by omega) (by rw [hkls.n]; omega) (by decide)
 have hB4 : Below w1.heap.size w1 w4 := e4 w1 hB3
 refine ⟨k.a, k.n, k.c, rfl, f.a, f.n, f.c, w4, e2, ?_⟩
 have hfl : (zs ++ ys).length ≤ 1000000 := by rw [List.length_append]; omega
 refine (sortI_spec w4 w1.heap.size f (zs ++ ys) e3 hfl).mono ?_
 rintro e w5 ⟨rfl, ho5, hg5⟩
 have hsl : (sortI (zs ++ ys)).length ≤ 1000000 := by rw [List.length_mergeSort]; exact hfl
 refine ⟨rfl, (compactI_spec w5 w1.heap.size f _ ho5 hsl).mono ?_⟩
 rintro e w6 ⟨c, rfl, ho6, hg6⟩
 have hown : ∀ {q : World} {xs : List Int}, q.ownsRow w1.heap.size tInt 1 f.v f.n (xs.flatMap encInt) → ∀ j, f.v.ownBlock = some j → w1.heap.size ≤ j := fun ho j hj => (own_lt ho j hj).1
 have hB5 : Below w1.heap.size w1 w5 := hB4.grown hg5 hB4.size (hown e3)
 have hB6 : Below w1.heap.size w1 w6 := hB5.grown hg6 hB5.size (hown ho5)
 have fin : Lib.compact (sortI (zs ++ ys)) = agreeL T t := by
  refine rising_ext (compact_rising (sortI_le _)) (agreeL_rising T t) fun x => ?_
  rw [compact_mem, List.mem_mergeSort, List.mem_append, hz.2, hy, mem_agreeL]
  have hiff : ∀ u, (x ≠ -1 ∧ idOf T u = x) ↔ inTab T x ∧ bytesOf T x = u := fun u => idOf_iff h.ok.nodup
  constructor
  ·rintro (⟨h1, j, h2, h3, h4⟩ | ⟨h1, u, h2, h3, h4⟩)
   ·obtain ⟨h5, h6⟩ := (hiff _).1 ⟨h1, h4⟩
    exact ⟨h5, .inr (by rw [h6]; exact List.take_prefix _ _)⟩
   ·obtain ⟨h5, h6⟩ := (hiff _).1 ⟨h1, h4⟩
    exact ⟨h5, .inl (by rw [h6]; exact h3)⟩
  ·rintro ⟨h5, h6 | h6⟩
   ·right
    obtain ⟨h1, h4⟩ := (hiff _).2 ⟨h5, rfl⟩
    refine ⟨h1, bytesOf T x, (h.mem _).2 (.inr ?_), h6, h4⟩
    obtain ⟨h7, h8⟩ := h5
    have hlt : x.toNat < T.length := by omega
    refine ⟨T[x.toNat], List.getElem_mem hlt, ?_⟩
    unfold bytesOf
    rw [List.getElem?_eq_getElem hlt]
    exact List.prefix_refl _
   ·left
    have hne := tok_ne h.ok h5
    have hpos : 1 ≤ (bytesOf T x).length := by
     cases hb : bytesOf T x with
     | nil => exact absurd hb hne
     | cons a r => simp
    obtain ⟨h1, h4⟩ := (hiff _).2 ⟨h5, rfl⟩
    refine ⟨h1, (bytesOf T x).length, hpos, h6.length_le, ?_⟩
    rw [← List.prefix_iff_eq_take.1 h6]
    exact h4
 rw [fin] at ho6
 exact ⟨c.a, c.n, c.c, rfl, c, rfl, own_base ho6 hz1, b1.trans (hB6.mono hz1)⟩
theorem agreeL_few {T : List Ent} (hok : TOk T) (t : Bs) : (agreeL T t).length ≤ 1000 := by
 have := few_of (N := T.length) ((agreeL_rising T t).imp fun h e => by omega) (fun x hx => (mem_agreeL.1 hx).1)
 have := hok.most
 omega
theorem maskWith_spec (w : World) (m v g : Nat) (s : SpecV) (T : List Ent) (h : MaskAt w m v g s T) (t : Bs) (ht : t.length ≤ 100000) (A : Option Addr) (C : Nat) (ids : List Int) (hr : Rw encInt 1 w A ids) (hl : ids.length ≤ 10000) :
  CP 23 #[.pointer (some ⟨m, 0, none⟩), .string (str t), .slice A ids.length C] w fun e w' => ∃ (l : Sl) (n k : Int), e = .returned (.tuple #[l.v, .int .i64 n, .int .i64 k]) ∧ ReadyIs s T ids n k ∧ (k ≠ 0 → l = sl0) ∧ (k = 0 → w'.ownsRow w.heap.size tInt 1 l.v l.n (((agreeL T t).filter (mayB s T ids)).flatMap encInt)) ∧ Below w.heap.size w w' := by
 refine calls_ret (vc23_calls (some ⟨m, 0, none⟩) (str t) A ids.length C w (fun u w' => ∃ (l : Sl) (n k : Int), u = .tuple #[l.v, .int .i64 n, .int .i64 k] ∧ ReadyIs s T ids n k ∧ (k ≠ 0 → l = sl0) ∧ (k = 0 → w'.ownsRow w.heap.size tInt 1 l.v l.n (((agreeL T t).filter (mayB s T ids)).flatMap encInt)) ∧ Below w.heap.size w w') ?_) (by rintro v w' ⟨l, n, k, rfl, h⟩; exact ⟨l, n, k, rfl, h⟩)
 refine (maskReady_spec w m v g s T h A C ids hr hl).mono ?_
 rintro e w1 ⟨n, k, rfl, hR, b1⟩
 refine ⟨_, _, rfl, CondP.mk (fun hk => ?_) fun hk => ?_⟩
 ·have hk : k ≠ 0 := by simpa using hk
  exact ⟨sl0, _, _, rfl, hR, fun _ => rfl, fun h => absurd h hk, b1⟩
 ·have hk : k = 0 := by simpa using hk
  subst hk
  have h1 := h.on b1
  have hok : TOk T := by obtain ⟨r, n1, S, nd, mp, hM⟩ := h1; exact hM.ok
  refine (maskAgree_spec w1 m v g s T h1 t ht).mono ?_
  rintro e w2 ⟨l, rfl, ho, b2⟩
  have hfew := agreeL_few hok t
  refine ⟨l.a, l.n, l.c, rfl, (maskSome_spec w1 w2 b2 m v g s T h1 l _ ho (by omega) A C ids (hr.on b1) (by omega)).mono ?_⟩
  rintro e w3 ⟨l', rfl, ho3, b3⟩
  exact ⟨l'.a, l'.n, l'.c, rfl, l', _, _, rfl, hR, fun h => absurd rfl h, fun _ => own_base ho3 b1.size, below_then b1 b3⟩
def findO (T : List Ent) (t : Bs) : Option Nat := (T.map (·.1)).idxOf? t
theorem findI_O (T : List Ent) (t : Bs) : findI T t = match findO T t with
  | some i => (i : Int)
  | none => -1 := by
 have e : (T.map (·.1)).findIdx? (fun b => decide (b = t)) = findO T t := by
  unfold findO List.idxOf?
  congr 1
  funext b
  by_cases hb : b = t
  ·subst hb; simp
  ·simp [hb]
 unfold findI idx
 rw [e]
 cases findO T t <;> rfl
theorem tokFind_spec (w : World) (p : Nat) (es : List Ent) (h : TabIs w p es) (t : Bs) : CP 68 #[.pointer (some ⟨p, 0, none⟩), .string (str t)] w fun e w' => e = .returned (.tuple #[.int .i64 (((findO es t).getD 0 : Nat) : Int), .bool (findO es t).isSome]) ∧ w' = w := by
 refine calls_ret (vc68_calls (some ⟨p, 0, none⟩) (str t) w (fun v w' => v = .tuple #[.int .i64 (((findO es t).getD 0 : Nat) : Int), .bool (findO es t).isSome] ∧ w' = w) ?_) (by rintro v w' ⟨rfl, h⟩; exact ⟨rfl, h⟩)
 obtain ⟨l, mb, mp, most, h1, _, _, h4, _⟩ := h
 refine CondP.no rfl (NilC.mk _ rfl ⟨some mb, by rw [ptr_add0 p _ h1]; rfl, ?_⟩)
 have hl := run_look keysB undMapB zeroInt h4 t
 have e0 : look t (bmap es) = (findO es t).map fun i : Nat => Value.int .i64 (i : Int) := by
  have := look_zipf (fun e : Ent => e.1) t es 0
  simp only [Nat.zero_add] at this
  exact this
 rw [e0, Option.isSome_map] at hl
 have e : (((findO es t).map fun i : Nat => Value.int .i64 (i : Int)).getD (.int .i64 0)) = .int .i64 (((findO es t).getD 0 : Nat) : Int) := by
  cases findO es t <;> rfl
 rw [e] at hl
 exact ⟨_, _, w, hl, rfl, rfl⟩
theorem maskEnds_spec (w : World) (m v g : Nat) (s : SpecV) (T : List Ent) (h : MaskAt w m v g s T) (t : Bs) (A : Option Addr) (C : Nat) (ids : List Int) (hr : Rw encInt 1 w A ids) (hl : ids.length ≤ 10000) :
  CP 37 #[.pointer (some ⟨m, 0, none⟩), .string (str t), .slice A ids.length C] w fun e w' => ∃ (b : Bool) (n k : Int), e = .returned (.bool b) ∧ ReadyIs s T ids n k ∧ b = (decide (k = 0) && (findO T t).isSome && mayB s T ids (((findO T t).getD 0 : Nat) : Int)) ∧ Below w.heap.size w w' := by
 refine calls_ret (vc37_calls (some ⟨m, 0, none⟩) (str t) A ids.length C w (fun u w' => ∃ (b : Bool) (n k : Int), u = .bool b ∧ ReadyIs s T ids n k ∧ b = (decide (k = 0) && (findO T t).isSome && mayB s T ids (((findO T t).getD 0 : Nat) : Int)) ∧ Below w.heap.size w w') ?_) (by rintro v w' ⟨b, n, k, rfl, h⟩; exact ⟨b, n, k, rfl, h⟩)
 refine (maskReady_spec w m v g s T h A C ids hr hl).mono ?_
 rintro e w1 ⟨n, k, rfl, hR, b1⟩
 refine ⟨_, _, rfl, CondP.mk (fun hk => ?_) fun hk => ?_⟩
 ·have hk : k ≠ 0 := by simpa using hk
  exact ⟨_, _, _, rfl, hR, by rw [decide_eq_false hk]; rfl, b1⟩
 ·have hk : k = 0 := by simpa using hk
  subst hk
  have h1 := h.on b1
  have h1' := h1
  obtain ⟨r, n1, S, nd, mp, hM⟩ := h1'
  obtain ⟨w0, x, tp, bp, mp', d, l0, uses, hV⟩ := hM.voc
  refine NilC.mk _ rfl ⟨_, ptr_add0 _ _ hM.blk 1, (vocTable_spec hV.vblk).mono ?_⟩
  rintro e w2 ⟨rfl, hw2⟩
  subst w2
  refine ⟨_, rfl, (tokFind_spec w1 tp T hV.now.tab t).mono ?_⟩
  rintro e w3 ⟨rfl, hw3⟩
  subst w3
  refine ⟨_, _, rfl, CondP.mk (fun hf => ?_) fun hf => ?_⟩
  ·refine (maskMay_spec w1 m v g s T h1 A C ids (hr.on b1) (by omega) _).mono ?_
   rintro e w4 ⟨rfl, b4⟩
   exact ⟨_, rfl, _, _, _, rfl, hR, by rw [hf]; rfl, below_then b1 b4⟩
  ·exact ⟨_, _, _, rfl, hR, by rw [hf]; rfl, b1⟩
section
variable {pb v r n1 : Nat} {s : SpecV} {T : List Ent} {S : List Bs} {nd mp : Bs → Nat} {A : Option Addr} {C : Nat} {Z : List Int}
end
section
variable {pb v r n1 : Nat} {s : SpecV} {T : List Ent} {S : List Bs} {nd mp : Bs → Nat} {A : Option Addr} {C : Nat} {Z : List Int}
end
theorem idx_get {l : List Bs} {k : Bs} {i : Nat} (h : l.idxOf? k = some i) : ∃ hi : i < l.length, l[i] = k := by
 unfold List.idxOf? at h
 obtain ⟨hi, hp, _⟩ := List.findIdx?_eq_some_iff_getElem.1 h
 exact ⟨hi, by simpa using hp⟩
section
variable {w w' : World} {b : Nat} {c : Array Value} {e : TypeId} {fz : Nat × Nat}
theorem held_past (hb : w.heap[b]? = some (.cells c e fz)) (t : Touch b w w') {k : Nat} {c2 : Array Value} {e2 : TypeId} {fz2 : Nat × Nat} (hk : w.heap[k]? = some (.cells c2 e2 fz2)) (he : e2 ≠ e) : w'.heap[k]? = some (.cells c2 e2 fz2) := by
 refine t.held ?_ hk
 rintro rfl
 rw [hb] at hk
 cases hk
 exact he rfl
theorem mapIs_past {κ : Type} [DecidableEq κ] {kv : κ → Value} {r : Nat} {m : List (κ × Value)} (hb : w.heap[b]? = some (.cells c e fz)) (t : Touch b w w') (h : MapIs kv w r m) : MapIs kv w' r m := by
 refine h.same (t.block _ h.lt ?_)
 rintro rfl
 obtain ⟨es, k, hm, _⟩ := h
 rw [hb] at hm
 cases hm
theorem own_past (hb : w.heap[b]? = some (.cells c e fz)) (t : Touch b w w') {B sz n : Nat} {e2 : TypeId} {u : Value} {xs : List Value} (ho : w.ownsRow B e2 sz u n xs) (he : e2 ≠ e) : w'.ownsRow B e2 sz u n xs :=
 own_same ho fun k hk => t.block k (own_lt ho k hk).2 fun e3 => row_ne_blk ho hb he (by rw [hk, e3])
theorem VocParts.past {s : SpecV} {T : List Ent} {x : SpecW} {tp bp mp : Nat} (h : VocParts w s T x tp bp mp) (hb : w.heap[b]? = some (.cells c e fz)) (hc : ∀ v ∈ c, ¬ Solid v) (t : Touch b w w') (n1 : tTable ≠ e) (n2 : tBound ≠ e) (n3 : tSet ≠ e) : VocParts w' s T x tp bp mp := by
 have hne : ∀ j, j < w.heap.size → j ≠ b → w'.heap[j]? = w.heap[j]? := fun j hj hn => t.block j hj hn
 refine ⟨h.spec.past hb hc hne t.size, ?_, h.ok, ?_, ?_, h.right, h.ids, h.nodup⟩
 ·obtain ⟨l, mb, mp, most, h1, h2, h3, h4, h5, h6⟩ := h.tab
  exact ⟨l, mb, mp, most, held_past hb t h1 n1, h2, h3.past (fun x => ⟨_, rfl, .inr ⟨_, rfl⟩⟩) hb hc hne t.size, mapIs_past hb t h4, mapIs_past hb t h5, h6⟩
 ·obtain ⟨c2, h1, h2⟩ := h.bound
  exact ⟨c2, held_past hb t h1 n2, h2⟩
 ·obtain ⟨l, mi, mt, c2, h1, h2, h3, h4, h5, h6⟩ := h.marks
  exact ⟨l, mi, mt, c2, held_past hb t h1 n3, h2, h3, h4.past (fun x => ⟨_, rfl, solid_int _ _⟩) hb hc hne t.size, mapIs_past hb t h5, mapIs_past hb t h6⟩
theorem VocIs.past {v : Nat} {s : SpecV} {T : List Ent} (h : VocIs w v s T) (hb : w.heap[b]? = some (.cells c e fz)) (hc : ∀ v ∈ c, ¬ Solid v) (t : Touch b w w') (n0 : tVocab ≠ e) (n1 : tTable ≠ e) (n2 : tBound ≠ e) (n3 : tSet ≠ e) (n4 : tBool ≠ e) : VocIs w' v s T := by
 obtain ⟨w0, x, tp, bp, mp, d, l, uses, hR⟩ := h
 have hz := hR.below.size
 let w1 : World := { w' with heap := w'.heap.extract 0 w0.heap.size }
 have hz1 : w1.heap.size = w0.heap.size := by
  show (w'.heap.extract 0 w0.heap.size).size = _
  rw [Array.size_extract]
  have := t.size
  omega
 have h1 : ∀ k, k < w0.heap.size → w1.heap[k]? = w'.heap[k]? := by
  intro k hk
  show (w'.heap.extract 0 w0.heap.size)[k]? = _
  rw [Array.getElem?_extract]
  rw [if_pos (by have := t.size; omega), Nat.zero_add]
 have b1 : Below w1.heap.size w1 w' := ⟨rfl, rfl, rfl, by rw [hz1]; have := t.size; omega, fun k hk => (h1 k (by omega)).symm⟩
 have ht : Touch b w0 w1 := ⟨t.os.trans hR.below.os, t.tape.trans hR.below.tape, t.output.trans hR.below.output, by omega, fun k hk hne => by rw [h1 k hk, t.block k (by omega) hne, hR.below.block k hk]⟩
 have hp : VocParts w1 s T x tp bp mp := by
  by_cases hlt : b < w0.heap.size
  ·exact hR.parts.past (by rw [← hR.below.block b hlt]; exact hb) hc ht n1 n2 n3
  ·exact hR.parts.on ⟨ht.os, ht.tape, ht.output, ht.size, fun k hk => ht.block k hk (by omega)⟩
 exact ⟨w1, x, tp, bp, mp, d, l, uses, hp, b1, by rw [hz1]; exact hR.lt, held_past hb t hR.blk n0, hR.once.imp id fun ⟨x1, x2, x3⟩ => ⟨x1, x2, own_past hb t x3 n4⟩⟩
theorem GrIs.by {g : Nat} {s : SpecV} {T : List Ent} (h : GrIs w g s T) (hb : w.heap[b]? = some (.cells c e fz)) (t : Touch b w w') (n1 : tGrid ≠ e) (n2 : tInt ≠ e) (n3 : tRow ≠ e) (n4 : tU64 ≠ e) : GrIs w' g s T := by
 obtain ⟨ids, rows, alone, mb, rs, hR⟩ := h
 exact ⟨ids, rows, alone, mb, rs, held_past hb t hR.blk n1, own_past hb t hR.oi n2, mapIs_past hb t hR.map, own_past hb t hR.orows n3, hR.rl, fun i r hi => own_past hb t (hR.each i r hi) n4, own_past hb t hR.oal n4⟩
theorem TrieAt.past {n₀ : Nat} {S : List Bs} {nd mp : Bs → Nat} {idf : Bs → Int} (h : TrieAt w n₀ S nd mp idf) (hb : w.heap[b]? = some (.cells c e fz)) (t : Touch b w w') (n1 : tTNode ≠ e) : TrieAt w' n₀ S nd mp idf := by
 refine ⟨h.root, h.nodup, h.closed, h.base, fun u hu => held_past hb t (h.node u hu) n1, fun u hu => (h.map u hu).same (t.block _ (h.map u hu).lt ?_), h.ndInj, h.mpInj, h.off⟩
 intro e0
 obtain ⟨es, k, hm, _⟩ := h.map u hu
 rw [e0, hb] at hm
 cases hm
theorem MaskAt.past {m v g : Nat} {s : SpecV} {T : List Ent} (h : MaskAt w m v g s T) (hb : w.heap[b]? = some (.cells c tRv fz)) (hc : ∀ v ∈ c, ¬ Solid v) (t : Touch b w w') : MaskAt w' m v g s T := by
 obtain ⟨r, n1, S, nd, mp, h⟩ := h
 obtain ⟨n, hn⟩ := h.root
 exact ⟨r, n1, S, nd, mp, held_past hb t h.blk (by decide), h.voc.past hb hc t (by decide) (by decide) (by decide) (by decide) (by decide), h.grid.by hb t (by decide) (by decide) (by decide) (by decide), h.trie.past hb t (by decide), ⟨n, held_past hb t hn (by decide)⟩, h.mem, h.few, h.ok, h.vok, h.asc⟩
end
structure BothM (w : World) (m g : Nat) (r : RvW) (s : SpecV) (T : List Ent) : Prop where
 mask : ∃ v, MaskAt w m v g s T
 rv : RvAt w r s T
 few : s.specials.length ≤ 6
 rise : (gids s T).Pairwise (· < ·)
theorem BothM.on {w w' : World} {m g : Nat} {r : RvW} {s : SpecV} {T : List Ent} (h : BothM w m g r s T) (hb : Below w.heap.size w w') : BothM w' m g r s T := by
 obtain ⟨v, hv⟩ := h.mask
 exact ⟨⟨v, hv.on hb⟩, h.rv.on hb, h.few, h.rise⟩
set_option maxHeartbeats 1000000 in
theorem both32_spec (w : World) (y : CsW) (ls : List Int) (cs : List (Int × Int × Int)) (js : List (Int × Int)) (xs : List (Int × Bs)) (h : CsAt w y ls cs js xs) :
  CP 21 #[y.v] w fun e w' => ∃ m g r s T, e = .returned (.tuple #[.pointer (some ⟨m, 0, none⟩), .pointer (some ⟨g, 0, none⟩), r.v]) ∧ BothM w' m g r s T ∧ Below w.heap.size w w' := by
 let R : Value → World → Prop := fun u w' => ∃ m g r s T, u = .tuple #[.pointer (some ⟨m, 0, none⟩), .pointer (some ⟨g, 0, none⟩), r.v] ∧ BothM w' m g r s T ∧ Below w.heap.size w w'
 refine calls_ret (vc21_calls y.l.a y.l.n y.l.c y.c.a y.c.n y.c.c y.j.a y.j.n y.j.c y.x.a y.x.n y.x.c w R ?_) (by rintro v w' ⟨m, g, r, s, T, rfl, h⟩; exact ⟨m, g, r, s, T, rfl, h⟩)
 intro w1 hw1 w2 hw2
 have hb1 : Below w.heap.size w w1 := by subst hw1; exact below_alloc _ _
 have b2 : Below w1.heap.size w1 w2 := by subst hw2; exact below_alloc _ _
 have hb2 := below_then hb1 b2
 have l2 : w2.heap[w.heap.size]? = some (.cells y.cells tCs (0, 0)) := held_on b2 (by subst hw1; exact alloc_new _ _)
 have z2 : w2.heap[w1.heap.size]? = some (.cells rv0.cells tRv (0, 0)) := by subst hw2; exact alloc_new _ _
 have lt1 : w.heap.size < w1.heap.size := by subst hw1; rw [alloc_size]; omega
 refine ⟨_, _, _, _, _, _, _, _, _, _, _, _, agg4 l2, ?_⟩
 refine (lawOf_spec w2 y ls cs js xs (h.on hb2)).mono ?_
 rintro e w3 ⟨u, rfl, v, r, s, T, rfl, hB3, hv, b3⟩
 have hb3 := below_then hb2 b3
 refine ⟨_, _, _, _, _, _, _, _, _, _, _, _, _, _, _, _, rfl, ?_⟩
 intro w4 hw4
 refine storeP_new (slRv rv0) (slRv r) rfl (ones_rv r) w4 hw4 ?_
 intro w5 h5 hz5 b5
 have hB := hB3.on b5
 have hb5 := below_then hb3 b5
 have z5 := held_on (below_then b3 b5) z2
 have hz2 := hb2.size
 obtain ⟨hl, hsq⟩ := gids_few hB
 have hrise : (gids s T).Pairwise (· < ·) := gids_rising hB.asc (by
  obtain ⟨w0', x, tp, bp, mp, d, l, uses, hR⟩ := hB.voc
  exact hR.now.ids)
 refine (gridNew_spec w5 v s T hB.voc hB.asc 1048576).mono ?_
 rintro e w6 ⟨u, rfl, hV6, t6, hu⟩
 rw [if_neg (by omega)] at hu
 obtain ⟨g, rfl, hG, hg⟩ := hu
 have hvl : w2.heap.size ≤ v := hv
 have lt2 : w1.heap.size < w2.heap.size := (Array.getElem?_eq_some_iff.1 z2).1
 have b56 : Below w2.heap.size w5 w6 := t6.below hvl (below_then b3 b5).size
 have hb6 : Below w.heap.size w w6 := hb5.trans (b56.mono hz2)
 have z6 : w6.heap[w1.heap.size]? = some (.cells rv0.cells tRv (0, 0)) := (b56.block _ lt2).trans z5
 have h6 := t6.held (by have := hB3.voc.lt; omega) h5
 have hR6 := hB.rv w6 t6
 refine ⟨_, _, rfl, (maskNew_spec w6 v g s T hV6 hG (by omega) hB.now.vok hB.asc).mono ?_⟩
 rintro e w7 ⟨m, rfl, hM, hm, b7⟩
 refine ⟨_, _, rfl, CondP.no rfl (CondP.no rfl ?_)⟩
 intro w8 hw8
 have b8 : Below w7.heap.size w7 w8 := by subst hw8; exact drew_on w7
 have b68 := below_then b7 b8
 have z8 := held_on b68 z6
 refine ⟨_, _, _, _, _, _, _, _, _, _, _, _, _, _, _, agg5 (x := r) (held_on b68 h6), ?_⟩
 refine storeP_cells z8 (slRv r) rfl (ones_rv r) ?_
 intro w9 h9 hs9 hz9 hB9
 have hb9 : Below w.heap.size w w9 := hB9 _ _ (Nat.le_of_lt lt1) (below_then hb6 b68)
 have h0 := hB9 0 w8 (Nat.zero_le _) (Below.refl _ _)
 have t9 : Touch w1.heap.size w8 w9 := ⟨h0.os, h0.tape, h0.output, by omega, fun k _ hk => hs9 k hk⟩
 exact ⟨_, _, _, _, _, _, _, _, _, _, _, _, _, _, _, agg5 (x := r) h9, m, g, r, s, T, rfl, ⟨⟨v, (hM.on b8).past z8 (soft_rv rv0) t9⟩, (hR6.on b68).past z8 (soft_rv rv0) (fun j _ hj => hs9 j hj) (Nat.le_of_eq hz9.symm), hB.few, hrise⟩, hb9⟩
theorem next_aw : ((gids sAw tAw).filter (mayB sAw tAw [97])).length = 256 := by decide +kernel
theorem with_aw : ((agreeL tAw [98]).filter (mayB sAw tAw [97])).length = 0 := by decide +kernel
theorem bad_aw : badId sAw tAw [97] = -1 := by decide +kernel
theorem can_aw : hasV2 sAw tAw 97 = true ∧ (vocOf sAw tAw).Canon [97] := by decide +kernel
theorem ready_aw (hok : TOk tAw) {n k : Int} (h : ReadyIs sAw tAw [97] n k) : n = 1 ∧ k = 0 := by
 rcases h with ⟨h1, _⟩ | ⟨_, o, hF, ⟨j, rfl, _⟩ | ⟨_, rfl, rfl⟩⟩
 ·rw [bad_aw] at h1; omega
 ·obtain ⟨_, hj, hn⟩ := hF
  have hj0 : j = 0 := by simpa using hj
  subst hj0
  exact absurd ⟨(has_iff2 hok 97).1 can_aw.1, can_aw.2⟩ hn
 ·exact ⟨rfl, rfl⟩
theorem awake32_spec (w : World) : CP 20 #[] w fun e w' => e = .returned (.bool true) ∧ Below w.heap.size w w' := by
 refine calls_ret (vc20_calls w (fun u w' => u = .bool true ∧ Below w.heap.size w w') ?_) (by rintro v w' ⟨rfl, h⟩; exact ⟨rfl, h⟩)
 intro w1 hw1
 have hb1 : Below w.heap.size w w1 := by subst hw1; exact below_alloc _ _
 refine (vocabNew_spec w1 _ sAw (specAt_aw w w1 hw1)).mono ?_
 rintro e w2 ⟨u, rfl, hb2, hp⟩
 rw [if_pos right_aw, build_aw] at hp
 obtain ⟨v, rfl, hV, hv⟩ := hp
 have hb12 := below_then hb1 hb2
 have hz1 := hb1.size
 have hvok : (vocOf sAw tAw).Ok := by
  obtain ⟨w0, x, tp, bp, mp, d, l, uses, hR⟩ := hV
  exact voc_ok hR.now
 have hok : TOk tAw := by
  obtain ⟨w0, x, tp, bp, mp, d, l, uses, hR⟩ := hV
  exact hR.now.ok
 refine ⟨_, _, _, rfl, ?_⟩
 refine (gridNew_spec w2 v sAw tAw hV List.Pairwise.nil 1048576).mono ?_
 rintro e w3 ⟨u, rfl, hV3, t3, hu⟩
 rw [gids_aw, if_neg (by decide)] at hu
 obtain ⟨g, rfl, hG, hg⟩ := hu
 have hb3 : Below w.heap.size w w3 := hb12.trans (t3.below (by omega) hb12.size)
 have hn : (gids sAw tAw).length ≤ 1032 := by rw [gids_aw]; decide
 refine ⟨_, _, rfl, (maskNew_spec w3 v g sAw tAw hV3 hG hn hvok List.Pairwise.nil).mono ?_⟩
 rintro e w4 ⟨m, rfl, hM, hm, b4⟩
 have hb4 := below_then hb3 b4
 refine ⟨_, _, rfl, ?_⟩
 intro w5 hw5
 have b5 : Below w4.heap.size w4 w5 := by subst hw5; exact below_alloc _ _
 have hb5 := below_then hb4 b5
 refine Calls.mono (show Calls _ _ #[_, .slice (some (nb w4)) 1 1] w5 _ from maskNext_spec w5 m v g sAw tAw (hM.on b5) (some (nb w4)) 1 [97] (intsAt w4 w5 [97] _ rfl hw5) (by decide)) ?_
 rintro e w6 ⟨l, n, k, rfl, hR, _, hl, b6⟩
 obtain ⟨rfl, rfl⟩ := ready_aw hok hR
 have hln : l.n = 256 := ((Rw.of_own (hl rfl) (fun _ => rfl) (by decide)).2).trans next_aw
 have hb6 := below_then hb5 b6
 refine ⟨_, _, _, _, _, rfl, ?_⟩
 intro w7 hw7
 have b7 : Below w6.heap.size w6 w7 := by subst hw7; exact below_alloc _ _
 have hb7 := below_then hb6 b7
 refine Calls.mono (show Calls _ _ #[_, .string (str [98]), .slice (some (nb w6)) 1 1] w7 _ from maskWith_spec w7 m v g sAw tAw (((hM.on b5).on b6).on b7) [98] (by decide) (some (nb w6)) 1 [97] (intsAt w6 w7 [97] _ rfl hw7) (by decide)) ?_
 rintro e w8 ⟨l2, n2, k2, rfl, hR2, _, hl2, b8⟩
 obtain ⟨rfl, rfl⟩ := ready_aw hok hR2
 have hln2 : l2.n = 0 := ((Rw.of_own (hl2 rfl) (fun _ => rfl) (by decide)).2).trans with_aw
 exact ⟨_, _, _, _, _, rfl, CondP.yes rfl (CondP.yes (by rw [hln]; rfl) (CondP.yes rfl (CondP.yes rfl (CondP.yes (by rw [hln2]; rfl) ⟨rfl, below_then hb7 b8⟩))))⟩
theorem may32_spec (w : World) (x : RvW) (s : SpecV) (T : List Ent) (h : RvAt w x s T) (A : Option Addr) (C : Nat) (ids : List Int) (hr : Rw encInt 1 w A ids) (hl : ids.length ≤ 1000000) (hh : ∀ t ∈ ids, (vocOf s T).Has t) (id : Int) (hid : (vocOf s T).Has id) :
  CP 28 #[x.v, .slice A ids.length C, .int .i64 id] w fun e w' => e = .returned (.bool (mayB s T ids id)) ∧ Below w.heap.size w w' := by
 refine calls_ret (vc28_calls x.t.b.a x.t.b.n x.t.b.c x.t.m.a x.t.m.n x.t.m.c x.b.b.a x.b.b.n x.b.b.c x.b.m.a x.b.m.n x.b.m.c x.sp.a x.sp.n x.sp.c A ids.length C id w (fun u w' => u = .bool (mayB s T ids id) ∧ Below w.heap.size w w') ?_) (by rintro v w' ⟨rfl, h⟩; exact ⟨rfl, h⟩)
 intro w1 hw1
 have b1 : Below w.heap.size w w1 := by subst hw1; exact below_alloc _ _
 have l1 : w1.heap[w.heap.size]? = some (.cells x.cells tRv (0, 0)) := by subst hw1; exact alloc_new _ _
 have hok := h.ok
 intro J hJ
 have go : ∀ (f : Sl) (q : World) (pre : List Int), pre.length ≤ 1 → (∀ t ∈ pre, (vocOf s T).Has t) → mayB s T ids id = decide ((vocOf s T).Canon (pre ++ [id])) → q.ownsRow w1.heap.size tInt 1 f.v f.n (pre.flatMap encInt) → Below w1.heap.size w1 q → J [f.v] q := by
  intro f q pre hp hph he ho hq
  have hfn : f.n = pre.length := (Rw.of_own ho (fun _ => rfl) (by decide)).2
  refine hJ f.a f.n f.c q ?_
  intro w3 hw3
  have b3 : Below q.heap.size q w3 := by subst hw3; exact drew_on q
  have hq3 := below_then hq b3
  refine ⟨_, _, _, _, _, _, _, _, _, _, _, _, _, _, _, agg5 (x := x) (held_on hq3 l1), ?_⟩
  intro w4 hw4
  have b4 : Below w3.heap.size w3 w4 := by subst hw4; exact below_alloc _ _
  have hq4 := below_then hq3 b4
  obtain ⟨f', w5, e1, e2, e3, e4, _⟩ := elInt.push (own_on ho b3) id hw4 rfl hq3.size (by omega) (by decide)
  have hq5 : Below w1.heap.size w1 w5 := e4 _ hq3
  obtain ⟨hrow, hn⟩ := Rw.of_own e3 (fun _ => rfl) (by decide)
  refine ⟨agg5 (x := x) (held_on hq4 l1), f'.a, f'.n, f'.c, w5, e2, agg5 (x := x) (held_on hq5 l1), ?_⟩
  have hb5 := below_then b1 hq5
  have hcan := refCanon_spec w5 x s T (h.on hb5) f'.a f'.c (pre ++ [id]) hrow (by rw [List.length_append]; simp; omega) (fun t ht => by
   rcases List.mem_append.1 ht with ht | ht
   ·exact hph t ht
   ·rw [List.mem_singleton.1 ht]; exact hid)
  rw [← hn] at hcan
  refine hcan.mono ?_
  rintro e w6 ⟨rfl, b6⟩
  exact ⟨_, rfl, by rw [he], below_then hb5 b6⟩
 refine CondP.mk (fun h0 => ?_) fun h0 => ?_
 ·have h0 := of_decide_eq_true h0
  have hlt : ids.length - 1 < ids.length := by omega
  obtain ⟨p, hp, c0⟩ := cell_rw (hr.on b1) hlt rfl
  refine Ar.nat (ids.length - 1) (by omega) (by omega) (NilC.mk p hp ⟨by omega, by omega, _, c0, ?_⟩)
  intro w7 hw7
  obtain ⟨f', w8, e1, e2, e3, e4, _⟩ := elInt.push (s := sl0) (own_none w1 w1.heap.size tInt 1 encInt) ids[ids.length - 1] hw7 rfl (Nat.le_refl _) (by show 0 ≤ _; omega) (by decide)
  rw [List.nil_append] at e3
  have hm : (vocOf s T).Has ids[ids.length - 1] := hh _ (List.getElem_mem hlt)
  refine ⟨f'.a, f'.n, f'.c, w8, e2, go f' w8 [ids[ids.length - 1]] (Nat.le_refl _) (fun t ht => by rw [List.mem_singleton.1 ht]; exact hm) ?_ e3 (e4 _ (Below.refl _ _))⟩
  unfold mayB
  rw [List.getLast?_eq_getElem?, List.getElem?_eq_getElem hlt]
  show gHas s T _ id = _
  unfold gHas
  rw [(has_iff2 hok _).2 hm, (has_iff2 hok _).2 hid, Bool.true_and, Bool.true_and]
  rfl
 ·have h0 := of_decide_eq_false h0
  have : ids = [] := List.eq_nil_of_length_eq_zero (by omega)
  subst this
  refine go sl0 w1 [] (Nat.zero_le _) (fun t ht => by cases ht) ?_ (own_none _ _ _ _ encInt) (Below.refl _ _)
  show gAl s T id = _
  unfold gAl
  rw [(has_iff2 hok _).2 hid, Bool.true_and]
  rfl
theorem ready_bad {s : SpecV} {T : List Ent} {ids : List Int} {n k : Int} (h : ReadyIs s T ids n k) (hb : 0 ≤ badId s T ids) : n = badId s T ids ∧ k = 4 := by
 rcases h with ⟨_, h1, h2⟩ | ⟨h1, _⟩
 ·exact ⟨h1, h2⟩
 ·omega
theorem ready_off {s : SpecV} {T : List Ent} {ids : List Int} {n k : Int} (h : ReadyIs s T ids n k) {o : Option Nat} (hF : FirstR (vocOf s T) ids o) (hb : badId s T ids < 0) : (∃ j : Nat, o = some j ∧ n = j ∧ k = 11) ∨ (o = none ∧ n = ids.length ∧ k = 0) := by
 rcases h with ⟨h1, _⟩ | ⟨_, o', h2, h3⟩
 ·omega
 ·have := firstR_unique hF h2
  subst this
  exact h3
theorem firstR_has {V : Voc} {ids : List Int} (h : FirstR V ids none) : ∀ t ∈ ids, V.Has t := by
 intro t ht
 obtain ⟨j, hj, rfl⟩ := List.getElem_of_mem ht
 exact (h j hj).1
theorem findO_tab {T : List Ent} {t : Bs} {k : Nat} (h : findO T t = some k) : inTab T (k : Int) ∧ bytesOf T (k : Int) = t := by
 unfold findO at h
 obtain ⟨hi, he⟩ := idx_get h
 rw [List.length_map] at hi
 rw [List.getElem_map] at he
 refine ⟨⟨by omega, by omega⟩, ?_⟩
 unfold bytesOf
 rw [show ((k : Nat) : Int).toNat = k by omega, List.getElem?_eq_getElem hi]
 exact he
set_option maxHeartbeats 1000000 in
theorem MaskEnds_spec (w : World) (y : CsW) (ls : List Int) (cs : List (Int × Int × Int)) (js : List (Int × Int)) (xs : List (Int × Bs)) (h : CsAt w y ls cs js xs) (t : Bs) (A : Option Addr) (C : Nat) (ids : List Int) (hr : Rw encInt 1 w A ids) (hC : ids.length ≤ C) :
  CP 6 #[y.v, .string (str t), .slice A ids.length C] w fun e w' => e = .returned (.bool true) ∧ Below w.heap.size w w' := by
 refine calls_ret (vc6_calls y.l.a y.l.n y.l.c y.c.a y.c.n y.c.c y.j.a y.j.n y.j.c y.x.a y.x.n y.x.c (str t) A ids.length C w (fun u w' => u = .bool true ∧ Below w.heap.size w w') ?_) (by rintro v w' ⟨rfl, h⟩; exact ⟨rfl, h⟩)
 intro w1 hw1
 have hb1 : Below w.heap.size w w1 := by subst hw1; exact below_alloc _ _
 have l1 : w1.heap[w.heap.size]? = some (.cells y.cells tCs (0, 0)) := by subst hw1; exact alloc_new _ _
 refine ⟨_, _, _, _, _, _, _, _, _, _, _, _, agg4 l1, ?_⟩
 refine (lawGreat_spec w1 y ls cs js xs (h.on hb1)).mono ?_
 rintro e w2 ⟨c0, rfl, b2⟩
 have hb2 := below_then hb1 b2
 have aw : ∀ {q : World}, Below w.heap.size w q → CP 20 #[] q fun e w' => ∃ b : Bool, e = .returned (.bool b) ∧ (Value.bool b = Value.bool true ∧ Below w.heap.size w w') := by
  intro q hq
  refine (awake32_spec q).mono ?_
  rintro e w3 ⟨rfl, b3⟩
  exact ⟨true, rfl, rfl, below_then hq b3⟩
 refine ⟨c0, rfl, CondP.mk (fun _ => aw hb2) fun _ => CondP.mk (fun _ => aw hb2) fun h70 => CondP.mk (fun _ => aw hb2) fun h40 => ?_⟩
 have h70 := of_decide_eq_false h70
 rw [str_size] at h70
 have h40 := of_decide_eq_false h40
 refine (awake32_spec w2).mono ?_
 rintro e w6 ⟨rfl, b6⟩
 have hb6 := below_then hb2 b6
 refine ⟨_, rfl, CondP.no rfl ⟨_, _, _, _, _, _, _, _, _, _, _, _, agg4 (held_on b6 (held_on b2 l1)), ?_⟩⟩
 refine (both32_spec w6 y ls cs js xs (h.on hb6)).mono ?_
 rintro e w8 ⟨m, g, r, s, T, rfl, hB8, b8⟩
 have hb8 := below_then hb6 b8
 refine ⟨_, _, _, _, _, _, _, _, _, _, _, _, _, _, _, _, _, rfl, ?_⟩
 intro w9 hw9
 refine storeP_new (slRv rv0) (slRv r) rfl (ones_rv r) w9 hw9 ?_
 intro w10 h10 hz10 b10
 have hb10 := below_then hb8 b10
 have hB10 := hB8.on b10
 have hok := hB10.rv.ok
 have hmost := hok.most
 refine CondP.no rfl ⟨_, _, _, _, _, _, agg_in h10 0 rfl rfl, ?_⟩
 refine (refFind_spec w10 r.t T hB10.rv.t (by omega) t).mono ?_
 rintro e w11 ⟨rfl, b11⟩
 have hb11 := below_then hb10 b11
 have hB11 := hB10.on b11
 refine ⟨_, rfl, _, _, _, _, _, _, _, _, _, _, _, _, _, _, _, agg5 (held_on b11 h10), ?_⟩
 refine (refBad_spec w11 r s T hB11.rv A C ids (hr.on hb11) (by omega)).mono ?_
 rintro e w12 ⟨rfl, b12⟩
 have hb12 := below_then hb11 b12
 have hB12 := hB11.on b12
 have h12 := held_on b12 (held_on b11 h10)
 have ends : ∀ {q : World}, Below w12.heap.size w12 q → ∀ (want : Bool), (∀ (n k : Int), ReadyIs s T ids n k → (decide (k = 0) && (findO T t).isSome && mayB s T ids (((findO T t).getD 0 : Nat) : Int)) = want) → CP 37 #[.pointer (some ⟨m, 0, none⟩), .string (str t), .slice A ids.length C] q fun e q' => ∃ b : Bool, e = .returned (.bool b) ∧ (Value.bool (b == want) = .bool true ∧ Below w.heap.size w q') := by
  intro q hq want hwant
  obtain ⟨v, hM⟩ := (hB12.on hq).mask
  have hbq := below_then hb12 hq
  refine (maskEnds_spec q m v g s T hM t A C ids (hr.on hbq) (by omega)).mono ?_
  rintro e q' ⟨b, n, k, rfl, hR, hb, bq⟩
  refine ⟨b, rfl, ?_, below_then hbq bq⟩
  rw [hb, hwant n k hR]
  simp
 refine ⟨_, rfl, CondP.mk (fun hbad => ?_) fun hbad => ?_⟩
 ·have hbad := of_decide_eq_true hbad
  refine ⟨_, _, _, _, _, _, _, _, _, _, _, _, _, _, _, agg5 h12, ?_⟩
  refine (refFirst_spec w12 r s T hB12.rv A C ids (hr.on hb12) hC (by omega)).mono ?_
  rintro e w13 ⟨o, rfl, hF, b13⟩
  refine ⟨_, rfl, CondP.mk (fun ho => ?_) fun ho => ?_⟩
  ·have ho := of_decide_eq_true ho
   have : o = none := by
    cases o with
    | none => rfl
    | some k =>
     have ho : (k : Int) < 0 := ho
     omega
   subst this
   rw [findI_O]
   refine CondP.mk (fun hk => ?_) fun hk => ?_
   ·have hk := of_decide_eq_true hk
    cases hf : findO T t with
    | none =>
     rw [hf] at hk
     have hk : (-1 : Int) ≥ 0 := hk
     omega
    | some k =>
     have hB13 := hB12.on b13
     obtain ⟨hin, _⟩ := findO_tab hf
     refine ⟨_, _, _, _, _, _, _, _, _, _, _, _, _, _, _, agg5 (held_on b13 h12), ?_⟩
     refine (may32_spec w13 r s T hB13.rv A C ids (hr.on (below_then hb12 b13)) (by omega) (firstR_has hF) (k : Int) (.inl ((tok_iff hok _).1 hin))).mono ?_
     rintro e w14 ⟨rfl, b14⟩
     refine ⟨_, rfl, (ends (below_then b13 b14) (mayB s T ids (k : Int)) fun n k' hR => ?_)⟩
     rcases ready_off hR hF hbad with ⟨j, e0, _⟩ | ⟨_, _, rfl⟩
     ·cases e0
     ·rw [hf]
      simp
   ·have hk := of_decide_eq_false hk
    refine ends b13 false fun n k' hR => ?_
    cases hf : findO T t with
    | none => simp
    | some k =>
     rw [hf] at hk
     have hk : ¬ (k : Int) ≥ 0 := hk
     omega
  ·have ho := of_decide_eq_false ho
   refine ends b13 false fun n k' hR => ?_
   rcases ready_off hR hF hbad with ⟨j, _, _, rfl⟩ | ⟨rfl, _⟩
   ·rfl
   ·exact absurd (show (-1 : Int) < 0 by decide) ho
 ·have hbad := of_decide_eq_false hbad
  refine ends (Below.refl _ _) false fun n k' hR => ?_
  obtain ⟨_, rfl⟩ := ready_bad hR (by omega)
  rfl
theorem law_frame0 {H : Type} {enc : TypeId × Value → H} {C : Checked} {os : Os} {f : FuncId} {fn : Func} {s : ChangeSpec}
  (own : ownKnob C.prog.godebug = none) (started : os.Started) (noInit : C.prog.inits.idxOf? f = none) (hfn : C.prog.funcs[f]? = some fn)
  (witness : ∃ (w : World) (tape : Tape) (i : Input), w.os = os ∧ (w.forCall tape i).Shaped C.prog ∧ i.vars = [] ∧ Input.okWide C.prog (w.forCall tape i) .any w.heap.size f i ∧
   ((s.pre enc C.prog fn [] false (w.forCall tape i).memory i.args ∧ True) ∧ sizedMet enc C.prog fn (OpenSpec.ofChange s) false (w.forCall tape i).memory i.args) ∧ ({} : Assume).holds C.prog (lone (Frame.enter C.prog f i.args .normal) [] (w.forCall tape i)))
  (contract : ∀ (W : World) (base : Nat) (args : Array Value) (ds gs : List (DataW H)) (before : List MemPlace),
   (∀ (j : Nat) t v, fn.params[j]? = some t → args[j]? = some v → Value.okWide C.prog W .any base t v) →
   DataW.Whole enc C.prog fn.params.toList s.vars false W args.toList ds gs before →
   (DataW.weightsEach C.prog (fn.params.toList ++ s.plain.varTypes C.prog) (ds ++ gs)).all (· ≤ reachBytes) = true →
   W.ShapedOpen C.prog →
   Calls C.prog f args W fun e W' => ∃ v, e = .returned v ∧ s.post enc C.prog fn false true false false W args v W') :
  ReturnsInHanded {} C os f .any (fun w args => s.pre enc C.prog fn [] false w args ∧ sizedMet enc C.prog fn (OpenSpec.ofChange s) false w args) (s.post enc C.prog fn false true false false) := by
 have witness' : ∃ (w : World) (tape : Tape) (i : Input), w.os = os ∧ (w.forCall tape i).Shaped C.prog ∧ i.vars = [] ∧ Input.okWide C.prog (w.forCall tape i) .any w.heap.size f i ∧
   (s.pre enc C.prog fn [] false (w.forCall tape i).memory i.args ∧ sizedMet enc C.prog fn (OpenSpec.ofChange s) false (w.forCall tape i).memory i.args) ∧ ({} : Assume).holds C.prog (lone (Frame.enter C.prog f i.args .normal) [] (w.forCall tape i)) := by
  obtain ⟨w, tape, i, h1, h2, h3, h4, ⟨⟨h5, _⟩, h6⟩, h7⟩ := witness
  exact ⟨w, tape, i, h1, h2, h3, h4, ⟨h5, h6⟩, h7⟩
 refine returnsInHanded_of_calls own started noInit witness' ?_
 intro w tape i _ hshape _ hok hpre _
 obtain ⟨_, _, _, fn', hfn', _, _, _, _, hval⟩ := hok
 obtain rfl : fn' = fn := Option.some.inj (hfn'.symm.trans hfn)
 obtain ⟨⟨ds, gs, before, hw, _⟩, hz⟩ := hpre
 refine (contract (w.forCall tape i) w.heap.size i.args ds gs before hval (DataW.Whole.of_heap (w' := w.forCall tape i) (by rfl) hw) (hz.weights hw) hshape).mono ?_
 rintro e W' ⟨v, rfl, hp⟩
 exact ChangeSpec.post_blind hp
end Go.Proofs.YtnmdljikfhafiaaGreat.Eng
