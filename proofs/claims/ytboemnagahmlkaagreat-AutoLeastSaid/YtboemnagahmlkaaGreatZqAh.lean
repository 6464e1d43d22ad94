/- The automaton by the last token, walked by the engine. -/
import Derived.Test.YtboemnagahmlkaaGreatZqVa
import Derived.Test.YtboemnagahmlkaaGreatZqVc
set_option linter.unusedVariables false
set_option linter.unusedSimpArgs false
set_option maxRecDepth 100000
namespace Go.Proofs.YtboemnagahmlkaaGreat.Eng
open Go Go.RowKit
abbrev tGp : TypeId := 48
abbrev tU64s : TypeId := 55
abbrev tIdF : TypeId := 137
def lastM (s : SpecV) (T : List Ent) : Aut := lastA (gN s T) (alB s T) (relB s T)
abbrev idFn (b : Nat) : Value := .func (.func 77) #[] #[.pointer (some ⟨b, 0, none⟩)]
theorem idKey_spec (w : World) (gb g : Nat) {ec : TypeId} (s : SpecV) (T : List Ent) (h : GrIs w g s T) (hc : w.heap[gb]? = some (.cells #[.pointer (some ⟨g, 0, none⟩)] ec (0, 0))) (i : Nat) (hi : i < gN s T) :
  CP 77 #[.int .i64 (i : Int), .pointer (some ⟨gb, 0, none⟩)] w fun e w' => e = .returned (.int .i64 ((gids s T).getD i 0)) ∧ w' = w := by
 refine calls_ret (vc77_calls i (some ⟨gb, 0, none⟩) w (fun u w' => u = .int .i64 ((gids s T).getD i 0) ∧ w' = w) ?_) (by rintro v w' ⟨rfl, h⟩; exact ⟨rfl, h⟩)
 refine NilC.mk _ rfl ⟨_, cell1 hc, (gId_at w g s T h i hi).mono ?_⟩
 rintro e w1 ⟨rfl, hw⟩
 exact ⟨_, _, rfl, rfl, hw⟩
theorem aloneKey_spec (w : World) (gb fb g : Nat) {ec ef : TypeId} (s : SpecV) (T : List Ent) (h : GrIs w g s T) (hn : gN s T ≤ 1032) (hc : w.heap[gb]? = some (.cells #[.pointer (some ⟨g, 0, none⟩)] ec (0, 0))) (hf : w.heap[fb]? = some (.cells #[idFn gb] ef (0, 0))) (i : Nat) (hi : i < gN s T) :
  CP 79 #[.int .i64 (i : Int), .pointer (some ⟨gb, 0, none⟩), .pointer (some ⟨fb, 0, none⟩)] w fun e w' => e = .returned (.bool (alB s T i)) ∧ Below w.heap.size w w' := by
 refine calls_ret (vc79_calls i (some ⟨gb, 0, none⟩) (some ⟨fb, 0, none⟩) w (fun u w' => u = .bool (alB s T i) ∧ Below w.heap.size w w') ?_) (by rintro v w' ⟨rfl, h⟩; exact ⟨rfl, h⟩)
 intro w1 hw1
 have b1 : Below w.heap.size w w1 := by subst hw1; exact drew_on w
 have hc1 := held_on b1 hc
 refine NilC.mk _ rfl ⟨_, cell1 hc1, NilC.mk _ rfl ⟨_, cell1 (held_on b1 hf), (show CallG ctx (idFn gb) [.int .i64 (i : Int)] w1 _ from callG_of (by kernel_rfl) (idKey_spec w1 gb g s T (h.on b1) hc1 i hi)).mono ?_⟩⟩
 rintro e w2 ⟨rfl, hw⟩
 subst w2
 refine ⟨_, rfl, ⟨cell1 hc1, trivial⟩, (gAlone_spec w1 g s T (h.on b1) hn _).mono ?_⟩
 rintro e w3 ⟨rfl, hw⟩
 subst w3
 rw [gAl_at hi]
 exact ⟨_, rfl, rfl, b1⟩
theorem rowKey_spec (w : World) (rb : Nat) {er : TypeId} (r : Sl) (n : Nat) (p : Nat → Bool) (hr : Rw encU64 1 w r.a (wordsOf n p)) (hl : r.n = (wordsOf n p).length) (hn : n ≤ 100000) (hb : w.heap[rb]? = some (.cells #[r.v] er (0, 0))) (i : Nat) (hi : i < n) :
  CP 80 #[.int .i64 (i : Int), .pointer (some ⟨rb, 0, none⟩)] w fun e w' => e = .returned (.bool (p i)) ∧ Below w.heap.size w w' := by
 refine calls_ret (vc80_calls i (some ⟨rb, 0, none⟩) w (fun u w' => u = .bool (p i) ∧ Below w.heap.size w w') ?_) (by rintro v w' ⟨rfl, h⟩; exact ⟨rfl, h⟩)
 unfold vc80
 rw [div64 i (by omega), mod64]
 rw [wordsOf_length] at hl
 have hk : i / 64 < (n + 63) / 64 := by omega
 obtain ⟨q, hq, _, hc⟩ := hr _ _ (wordsOf_get n p hk)
 have c0 := hc 0 _ rfl
 rw [add_zero] at c0
 refine NilC.mk _ rfl ⟨_, _, _, cell1 hb, by decide, NilC.mk q hq ⟨by omega, by omega, _, c0, by decide, by omega, ?_, Below.refl _ _⟩⟩
 rw [has_bit _ _ (wordAt_lt _ _ _) (Nat.mod_lt _ (by decide)), wordAt_test n p hi]
theorem noKey_spec (i : Nat) (w : World) : CP 81 #[.int .i64 (i : Int)] w fun e w' => e = .returned (.bool false) ∧ Below w.heap.size w w' :=
 calls_ret (vc81_calls i w (fun u w' => u = .bool false ∧ Below w.heap.size w w') ⟨rfl, Below.refl _ _⟩) (by rintro v w' ⟨rfl, h⟩; exact ⟨rfl, h⟩)
theorem lead_row {n : Nat} {al : Nat → Bool} {rel : Nat → Nat → Bool} {m : Nat → Bool} {i : Nat} (h : ∀ k, k < n → m k = mayA n al rel i k) : ((List.range n).map fun k => ((if m k then k + 1 else n + 1 : Nat) : Int)).flatMap encInt = nat1 ((List.range (lastA n al rel).n).map ((lastA n al rel).nxt i)) := by
 unfold nat1
 rw [List.map_map]
 congr 1
 apply List.map_congr_left
 intro k hk
 show ((if m k then k + 1 else n + 1 : Nat) : Int) = ((if mayA n al rel i k then k + 1 else n + 1 : Nat) : Int)
 rw [h k (List.mem_range.1 hk)]
theorem AutB.put {w : World} {B b g : Nat} {M : Aut} {nx gd : Sl} {rs : List Sl} {m j : Nat} (h : AutB w B b g M nx gd rs m j) {k : Nat} {c : Array Value} (hk : w.heap[k]? = some (.cells c tU64s (0, 0))) (u : Value) : AutB (w.setCell ⟨k, 0, none⟩ u) B b g M nx gd rs m j := by
 have hkb : b ≠ k := by
  rintro rfl
  rw [h.blk] at hk
  cases hk
 exact ⟨(heap_setCell_ne hkb).trans h.blk, own_setCell h.onx u (row_ne_blk h.onx hk (by decide)), h.rl, fun i r hr => own_setCell (h.each i r hr) u (row_ne_blk (h.each i r hr) hk (by decide)), own_setCell h.ogd u (row_ne_blk h.ogd hk (by decide))⟩
set_option maxHeartbeats 4000000 in
theorem last_spec (w : World) (g : Nat) (s : SpecV) (T : List Ent) (h : GrIs w g s T) (hn : gN s T ≤ 1032) (hr : RiseG s T) (most : Int) :
  CP 42 #[.pointer (some ⟨g, 0, none⟩), .int .i64 most] w fun e w' => Below w.heap.size w w' ∧ ((((gN s T + 2) * gN s T : Nat) : Int) > most → e = .returned (.tuple #[.pointer none, .int .i64 5])) ∧ (¬ (((gN s T + 2) * gN s T : Nat) : Int) > most → ∃ a, e = .returned (.tuple #[.pointer (some ⟨a, 0, none⟩), .int .i64 0]) ∧ w.heap.size ≤ a ∧ AutIs w' a g (lastM s T)) := by
 let R : Value → World → Prop := fun u w' => Below w.heap.size w w' ∧ ((((gN s T + 2) * gN s T : Nat) : Int) > most → u = .tuple #[.pointer none, .int .i64 5]) ∧ (¬ (((gN s T + 2) * gN s T : Nat) : Int) > most → ∃ a, u = .tuple #[.pointer (some ⟨a, 0, none⟩), .int .i64 0] ∧ w.heap.size ≤ a ∧ AutIs w' a g (lastM s T))
 refine calls_ret (vc42_calls (some ⟨g, 0, none⟩) most w R ?_) (by rintro v w' ⟨h1, h2, h3⟩; exact ⟨h1, fun e => by rw [h2 e], fun e => by obtain ⟨a, rfl, h⟩ := h3 e; exact ⟨a, rfl, h⟩⟩)
 intro w1 hw1
 have b1 : Below w.heap.size w w1 := by subst hw1; exact below_alloc _ _
 have l1 : w1.heap[w.heap.size]? = some (.cells #[.pointer (some ⟨g, 0, none⟩)] tGp (0, 0)) := by subst hw1; exact alloc_new _ _
 have s1 : w.heap.size < w1.heap.size := (Array.getElem?_eq_some_iff.1 l1).1
 refine ⟨_, cell1 l1, (gSize_spec w1 g s T (h.on b1)).mono ?_⟩
 rintro e w2 ⟨rfl, hw⟩
 subst w2
 obtain ⟨n, hgn⟩ : ∃ n, n = gN s T := ⟨_, rfl⟩
 have hgl : (gids s T).length = n := hgn.symm
 have hn2 : n ≤ 1032 := by omega
 have hmul : (n + 2) * n ≤ 1034 * 1032 := Nat.mul_le_mul (by omega) hn2
 rw [hgl]
 refine ⟨_, rfl, _, cell1 l1, CondP.no rfl (Ar.nat (n + 2) rfl (by omega) (Ar.nat ((n + 2) * n) (by simp) (by omega) (CondP.mk (fun hm => ?_) fun hm => ?_)))⟩
 ·have hm := of_decide_eq_true hm
  rw [hgn] at hm
  exact ⟨b1, fun _ => rfl, fun h => absurd hm h⟩
 have hm := of_decide_eq_false hm
 rw [hgn] at hm
 refine ⟨_, cell1 l1, ?_⟩
 intro w3 hw3
 have b3 : Below w1.heap.size w1 w3 := by subst hw3; exact below_alloc _ _
 obtain ⟨M, hM⟩ : ∃ M, M = lastM s T := ⟨_, rfl⟩
 have hMn : M.n = n := by rw [hM, hgn]; rfl
 have hMN : M.N = n + 2 := by rw [hM, hgn]; rfl
 have R3 : AutB w3 w1.heap.size w1.heap.size g M sl0 sl0 [] 0 0 := ⟨by subst hw3; exact alloc_new _ _, own_none _ _ _ _ encS, rfl, (by intro i r h; cases h), own_none _ _ _ _ encB1⟩
 refine Ar.nat (n + 1) rfl (by omega) ?_
 intro w4 hw4
 refine box_store hw4 rfl ?_
 intro w5 l5 b5
 intro w6 hw6
 have b6 : Below w5.heap.size w5 w6 := by subst hw6; exact drew_on w5
 have b36 := below_then b5 b6
 have b16 := below_then b3 b36
 have hb6 := below_then b1 b16
 have R6 := R3.on b36
 have f6 := held_on b6 l5
 have g6 := held_on b16 l1
 have h6 := h.on hb6
 have hall : ∀ (f : Nat → Bool) (i : Nat), (∀ k, k < n → f k = mayA (gN s T) (alB s T) (relB s T) i k) → ((List.range n).map fun k => ((if f k then k + 1 else n + 1 : Nat) : Int)).flatMap encInt = nat1 ((List.range M.n).map (M.nxt i)) := by
  intro f i hf
  rw [hM, hgn]
  exact lead_row (by rw [← hgn] at hf ⊢; exact hf)
 refine ⟨sl0.a, sl0.n, sl0.c, by rw [cell_put R6.blk]; rfl, (leads_spec w6 n (n + 1) _ (alB s T) (by omega) fun k hk q hq => callG_of (by kernel_rfl) (aloneKey_spec q w.heap.size w3.heap.size g s T (h6.on hq) hn (held_on hq g6) (held_on hq f6) k (by omega))).mono ?_⟩
 rintro e w7 ⟨l, rfl, hl, hlo, b7⟩
 have R7 := R6.on b7
 refine ⟨l.a, l.n, l.c, rfl, ⟨by rw [cell_put R7.blk]; rfl, trivial⟩, ?_⟩
 intro w8 hw8
 have b8 : Below w7.heap.size w7 w8 := by subst hw8; exact below_alloc _ _
 have b17 := below_then b16 b7
 have f7 := held_on b7 f6
 have hs1 : w1.heap.size ≤ w6.heap.size := b16.size
 obtain ⟨nx, w9, e9, u9, z9, k9⟩ := R7.pushRow (Nat.le_refl _) (r := l) (by rw [← hall (alB s T) 0 (fun k _ => rfl)]; exact own_base hlo hs1) hw8 b17.size (by omega)
 refine ⟨⟨by rw [cell_put (R7.on b8).blk]; rfl, trivial⟩, nx.a, nx.n, nx.c, w9, e9, rfl, u9, z9, ?_⟩
 intro w10 hw10
 obtain ⟨R10, B10, K10⟩ := k9 w10 hw10
 have f10 := K10 f7 (by decide) (by decide)
 have b110 := B10 w1 b17
 intro I hI
 let Inv (i : Nat) (q : World) : Prop := ∃ nx rs, AutB q w1.heap.size w1.heap.size g M nx sl0 rs (i + 1) 0 ∧ Below w1.heap.size w1 q ∧ q.heap[w3.heap.size]? = some (.cells #[idFn w.heap.size] tIdF (0, 0))
 have key := climb2 (α := World) n Inv (fun i q => I [.int .i64 (i : Int)] q) w10 ⟨nx, _, R10, b110, f10⟩ ?_ ?_
 ·exact key
 ·rintro i hi ih q ⟨nx, rs, Rq, Bq, fq⟩
  have hi' : i < gN s T := by omega
  have tail : ∀ (z : World) (rb : Nat) (r : Sl), z.heap[rb]? = some (.cells #[r.v] tU64s (0, 0)) → Rw encU64 1 z r.a (wordsOf n (relB s T i)) → r.n = (wordsOf n (relB s T i)).length → AutB z w1.heap.size w1.heap.size g M nx sl0 rs (i + 1) 0 → Below w1.heap.size w1 z → z.heap[w3.heap.size]? = some (.cells #[idFn w.heap.size] tIdF (0, 0)) →
    ∀ w17 : World, w17 = z.drew →
           ∃ lA_18 : Option Addr, ∃ lN_19 : Nat, ∃ lC_20 : Nat, w17.cell? ((nb w1).add 1) = some (Value.slice lA_18 lN_19 lC_20) ∧
           CP 78 #[Value.int .i64 (n : Int), Value.int .i64 ((n + 1 : Nat) : Int), Value.func (.func 80) #[] #[Value.pointer (some ⟨rb, 0, none⟩)]] w17 (fun e18 w18 =>
           ∃ lA_21 : Option Addr, ∃ lN_22 : Nat, ∃ lC_23 : Nat, e18 = .returned (Value.slice lA_21 lN_22 lC_23) ∧
           (w18.cell? ((nb w1).add 1) = some (Value.slice lA_18 lN_19 lC_20) ∧ True) ∧
           ∀ w19 : World, w19 = w18.alloc (.cells #[Value.slice lA_21 lN_22 lC_23] tInts) →
           (w19.cell? ((nb w1).add 1) = some (Value.slice lA_18 lN_19 lC_20) ∧ True) ∧
           ∃ lA_24 : Option Addr, ∃ lN_25 : Nat, ∃ lC_26 : Nat, ∃ w20 : World, (Builtin.append_ #[tIntss, tIntss] tIntss #[Value.slice lA_18 lN_19 lC_20, Value.slice (some (nb w18)) 1 1]).run Tryz.prog w19 = .ok (Value.slice lA_24 lN_25 lC_26) w20 ∧
           (Value.slice lA_24 lN_25 lC_26).oneCell' = true ∧ (∃ u, w20.cell? ((nb w1).add 1) = some u) ∧ w20.frozen? ((nb w1).add 1) = false ∧
           ∀ w21 : World, w21 = (w20.setCell ((nb w1).add 1) (Value.slice lA_24 lN_25 lC_26)) →
           Ar .i64 ((i : Int) + 1) (fun n_27 => I [Value.int .i64 n_27] w21)) := by
   intro z rb r hz hrw hrl Rz Bz fz w17 hw17
   have bd : Below z.heap.size z w17 := by subst hw17; exact drew_on z
   have Rd := Rz.on bd
   refine ⟨nx.a, nx.n, nx.c, by rw [cell_put Rd.blk]; rfl, (leads_spec w17 n (n + 1) _ (relB s T i) (by omega) fun k hk q hq => callG_of (by kernel_rfl) (rowKey_spec q rb r n (relB s T i) ((hrw.on bd).on hq) hrl (by omega) (held_on hq (held_on bd hz)) k hk)).mono ?_⟩
   rintro e w18 ⟨l, rfl, hl, hlo, b18⟩
   have R18 := Rd.on b18
   refine ⟨l.a, l.n, l.c, rfl, ⟨by rw [cell_put R18.blk]; rfl, trivial⟩, ?_⟩
   intro w19 hw19
   have b19 : Below w18.heap.size w18 w19 := by subst hw19; exact below_alloc _ _
   have Bd := below_then Bz bd
   have B18 := below_then Bd b18
   have f18 := held_on b18 (held_on bd fz)
   obtain ⟨nx', w20, e20, u20, z20, k20⟩ := R18.pushRow (Nat.le_refl _) (r := l) (by
    rw [← hall (relB s T i) (i + 1) (fun k _ => by
     unfold mayA
     rw [if_neg (by omega), if_pos (by omega)]
     rfl)]
    exact own_base hlo Bd.size) hw19 B18.size (by omega)
   refine ⟨⟨by rw [cell_put (R18.on b19).blk]; rfl, trivial⟩, nx'.a, nx'.n, nx'.c, w20, e20, rfl, u20, z20, ?_⟩
   intro w21 hw21
   obtain ⟨R21, B21, K21⟩ := k20 w21 hw21
   exact Ar.nat (i + 1) rfl (by omega) (ih w21 ⟨nx', _, R21, B21 w1 B18, K21 f18 (by decide) (by decide)⟩)
  refine hI _ _ (CondP.yes (decide_eq_true (by omega)) ?_)
  intro w12 hw12
  have b12 : Below q.heap.size q w12 := by subst hw12; exact drew_on q
  have B12 := below_then Bq b12
  have R12 := Rq.on b12
  have f12 := held_on b12 fq
  have g12 := held_on B12 l1
  have h12 : GrIs w12 g s T := (h.on b1).on B12
  have rowOf : ∀ (z : World), GrIs z g s T → CP 31 #[.pointer (some ⟨g, 0, none⟩), .int .i64 ((gids s T).getD i 0)] z fun e z' => ∃ r : Sl, e = .returned r.v ∧ Rw encU64 1 z' r.a (wordsOf n (relB s T i)) ∧ r.n = (wordsOf n (relB s T i)).length ∧ z'.ownsRow z.heap.size tU64 1 r.v r.n ((wordsOf n (relB s T i)).flatMap encU64) ∧ Below z.heap.size z z' := by
   intro z hz
   refine (gRow_spec z g s T hz hn _).mono ?_
   rintro e z' ⟨bz, ⟨hno, _⟩ | ⟨k, l, hk, rfl, ho⟩⟩
   ·rw [plc_at hr hi'] at hno; cases hno
   ·rw [plc_at hr hi'] at hk
    cases hk
    rw [hgl] at ho
    have hls := LsAt.of_own elU64 ho
    exact ⟨l, rfl, hls.r, hls.n, ho, bz⟩
  refine ⟨_, cell1 g12, _, cell1 f12, (show CallG ctx (idFn w.heap.size) [.int .i64 (i : Int)] w12 _ from callG_of (by kernel_rfl) (idKey_spec w12 w.heap.size g s T h12 g12 i hi')).mono ?_, ?_⟩
  ·rintro e w13 ⟨rfl, hw⟩
   subst w13
   refine ⟨_, rfl, ⟨cell1 g12, trivial⟩, (rowOf w12 h12).mono ?_, ?_⟩
   ·rintro e w14 ⟨r, rfl, hrw, hrl, _, b14⟩
    refine ⟨_, _, _, rfl, ?_⟩
    intro w15 hw15
    refine box_store hw15 rfl ?_
    intro w16 l16 b16'
    exact tail w16 w14.heap.size r l16 (hrw.on b16') hrl ((R12.on b14).on b16') (below_then (below_then B12 b14) b16') (held_on b16' (held_on b14 f12))
   ·intro w22 hw22
    have b22 : Below w12.heap.size w12 w22 := by subst hw22; exact below_alloc _ _
    have o22 : w22.heap[w12.heap.size]? = some (.cells #[.slice none 0 0] tU64s (0, 0)) := by subst hw22; exact alloc_new _ _
    refine ⟨⟨cell1 (held_on b22 g12), trivial⟩, (rowOf w22 (h12.on b22)).mono ?_⟩
    rintro e w23 ⟨r, rfl, hrw, hrl, hro, b23⟩
    have o23 := held_on b23 o22
    have b1223 := below_then b22 b23
    refine ⟨_, _, _, rfl, rfl, ⟨_, cell1 o23⟩, frozen_heap o23, ?_⟩
    intro w24 hw24
    have hrl' := hrl
    subst hw24
    have hb24 : Below w1.heap.size w1 (w23.setCell (nb w12) r.v) := (below_then B12 b1223).setCell (p := ⟨w12.heap.size, 0, none⟩) B12.size _
    have hne : w3.heap.size ≠ w12.heap.size := by have := (Array.getElem?_eq_some_iff.1 f12).1; omega
    exact tail _ w12.heap.size r (setCell_heap o23 r.v) (LsAt.of_own elU64 (own_setCell hro r.v (row_ne_blk hro o23 (by decide)))).r hrl ((R12.on b1223).put o23 _) hb24 ((heap_setCell_ne (show w3.heap.size ≠ (nb w12).block from hne)).trans (held_on b1223 f12))
  ·intro w30 hw30
   have b30 : Below w12.heap.size w12 w30 := by subst hw30; exact below_alloc _ _
   have o30 : w30.heap[w12.heap.size]? = some (.cells #[.slice none 0 0] tU64s (0, 0)) := by subst hw30; exact alloc_new _ _
   have g30 := held_on b30 g12
   refine ⟨⟨cell1 (held_on b30 f12), trivial⟩, ⟨cell1 g30, trivial⟩, (show CallG ctx (idFn w.heap.size) [.int .i64 (i : Int)] w30 _ from callG_of (by kernel_rfl) (idKey_spec w30 w.heap.size g s T (h12.on b30) g30 i hi')).mono ?_⟩
   rintro e w31 ⟨rfl, hw⟩
   subst w31
   refine ⟨_, rfl, ⟨cell1 g30, trivial⟩, (rowOf w30 (h12.on b30)).mono ?_⟩
   rintro e w32 ⟨r, rfl, hrw, hrl, hro, b32⟩
   have o32 := held_on b32 o30
   have b1232 := below_then b30 b32
   refine ⟨_, _, _, rfl, rfl, ⟨_, cell1 o32⟩, frozen_heap o32, ?_⟩
   intro w33 hw33
   subst hw33
   have hb33 : Below w1.heap.size w1 (w32.setCell (nb w12) r.v) := (below_then B12 b1232).setCell (p := ⟨w12.heap.size, 0, none⟩) B12.size _
   have hne : w3.heap.size ≠ w12.heap.size := by have := (Array.getElem?_eq_some_iff.1 f12).1; omega
   exact tail _ w12.heap.size r (setCell_heap o32 r.v) (LsAt.of_own elU64 (own_setCell hro r.v (row_ne_blk hro o32 (by decide)))).r hrl ((R12.on b1232).put o32 _) hb33 ((heap_setCell_ne (show w3.heap.size ≠ (nb w12).block from hne)).trans (held_on b1232 f12))
 ·rintro q ⟨nx, rs, Rq, Bq, fq⟩
  refine hI _ _ (CondP.no (decide_eq_false (by omega)) ?_)
  intro w39 hw39
  have b39 : Below q.heap.size q w39 := by subst hw39; exact drew_on q
  have R39 := Rq.on b39
  have B39 := below_then Bq b39
  refine ⟨nx.a, nx.n, nx.c, by rw [cell_put R39.blk]; rfl, (leads_spec w39 n (n + 1) _ (fun _ => false) (by omega) fun k hk z hz => callG_of (by kernel_rfl) (noKey_spec k z)).mono ?_⟩
  rintro e w40 ⟨l, rfl, hl, hlo, b40⟩
  have R40 := R39.on b40
  have B40 := below_then B39 b40
  refine ⟨l.a, l.n, l.c, rfl, ⟨by rw [cell_put R40.blk]; rfl, trivial⟩, ?_⟩
  intro w41 hw41
  have b41 : Below w40.heap.size w40 w41 := by subst hw41; exact below_alloc _ _
  obtain ⟨nx', w42, e42, u42, z42, k42⟩ := R40.pushRow (Nat.le_refl _) (r := l) (by
   rw [← hall (fun _ => false) (n + 1) (fun k _ => by
    unfold mayA
    rw [if_neg (by omega), if_neg (by omega)])]
   exact own_base hlo B39.size) hw41 B40.size (by omega)
  refine ⟨⟨by rw [cell_put (R40.on b41).blk]; rfl, trivial⟩, nx'.a, nx'.n, nx'.c, w42, e42, rfl, u42, z42, ?_⟩
  intro w43 hw43
  obtain ⟨R43, B43, _⟩ := k42 w43 hw43
  have B43 := B43 w1 B40
  intro w44 hw44
  have b44 : Below w43.heap.size w43 w44 := by subst hw44; exact below_alloc _ _
  have hx : Rw encB1 1 w44 (some (nb w43)) [true] := by
   have o : w44.ownsRow 0 tBool 1 (.slice (some (nb w43)) 1 1) 1 ([true].flatMap encB1) := by subst hw44; exact own_made _ rfl (by decide) (Nat.zero_le _)
   exact (LsAt.of_own (l := ⟨some (nb w43), 1, 1⟩) elBl o).r
  refine Ar.nat (n + 2) rfl (by omega) ((repeat_spec w44 _ 1 (n + 2) (Nat.le_refl _) hx (by omega) (by omega)).mono ?_)
  rintro e w45 ⟨gd, rfl, hgd, hgo, b45⟩
  have b4345 := below_then b44 b45
  have R45 := R43.on b4345
  have B45 := below_then B43 b4345
  refine ⟨gd.a, gd.n, gd.c, rfl, rfl, ⟨_, by rw [cell_put R45.blk]; rfl⟩, frozen_put R45.blk, ?_⟩
  intro w46 hw46
  have k46 : w46.heap[w1.heap.size]? = some (.cells (autC g nx' gd 0 0 sl0) tAuto (0, 0)) := by subst hw46; exact heap_put R45.blk _
  have same46 : ∀ {B sz n : Nat} {e : TypeId} {u : Value} {xs : List Value}, w45.ownsRow B e sz u n xs → e ≠ tAuto → w46.ownsRow B e sz u n xs := by
   intro B sz n e u xs ho hne
   subst hw46
   exact own_setCell ho _ (by rw [add_block]; exact row_ne_blk ho R45.blk hne)
  have B46 : Below w1.heap.size w1 w46 := by subst hw46; exact below_put B45 (Nat.le_refl _) _
  have go46 := same46 hgo (by decide)
  obtain ⟨ga, hga⟩ : ∃ ga, gd.a = some ga := by
   obtain ⟨p, hp, _⟩ := (LsAt.of_own elBl go46).r 0 true (by simp [List.getElem?_replicate])
   exact ⟨p, hp⟩
  obtain ⟨u, fz, k⟩ := own_write (l := gd) (enc := encB1) (sz := 1) (fun _ => rfl) (by decide) go46 (by simp [hgd]) hga (i := n + 1) (x := true) (by simp [List.getElem?_replicate]) (k := 0) (by decide) false (.bool false) rfl
  rw [add_zero] at u fz k
  refine ⟨_, _, _, by rw [cell_put k46]; rfl, NilC.mk ga hga ⟨by omega, by omega, rfl, u, fz, ?_⟩⟩
  intro w47 hw47
  obtain ⟨o47, s47, z47, b47⟩ := k w47 hw47
  have ne47 : gd.v.ownBlock ≠ some w1.heap.size := row_ne_blk go46 k46 (by decide)
  have same47 : ∀ {B sz n : Nat} {e : TypeId} {u : Value} {xs : List Value}, w46.ownsRow B e sz u n xs → e ≠ tBool → w47.ownsRow B e sz u n xs := fun ho hne => own_same ho fun j hj => s47 j (row_ne_row ho go46 hne j hj)
  have hgood : ((List.replicate (n + 2) true).set (n + 1) false) = (List.range M.N).map M.good := by
   rw [hMN, hM]
   apply List.ext_getElem?
   intro j
   by_cases hj : j < n + 2
   ·rw [List.getElem?_set, List.getElem?_map, List.getElem?_range hj]
    show _ = some (decide (j ≤ gN s T))
    rw [← hgn]
    by_cases e : n + 1 = j
    ·subst e; simp
    ·rw [if_neg e, List.getElem?_replicate, if_pos hj, decide_eq_true (by omega)]
   ·rw [List.getElem?_eq_none_iff.2 (by simp; omega), List.getElem?_eq_none_iff.2 (by simp; omega)]
  rw [hgood] at o47
  have hbf : Below w1.heap.size w1 w47 := b47 _ _ (by have := b17.size; have := (below_then B43 b44).size; omega) B46
  refine ⟨below_then b1 hbf, fun h => absurd h hm, fun _ => ⟨w1.heap.size, rfl, Nat.le_of_lt s1, ?_⟩⟩
  rw [← hM]
  have hok : M.Ok := by rw [hM]; exact last_ok (by omega)
  refine ⟨none, nx', gd, sl0, _, 0, (s47 _ ne47).trans k46, ⟨own_base (same47 (same46 R45.onx (by decide)) (by decide)) (Nat.zero_le _), by rw [R45.rl, hMN], fun i r hi => own_base (same47 (same46 (R45.each i r hi) (by decide)) (by decide)) (Nat.zero_le _), own_base o47 (Nat.zero_le _), hok⟩, rfl, rfl⟩
theorem lastM_ok {s : SpecV} {T : List Ent} (hn : gN s T ≤ 1032) : (lastM s T).Ok := last_ok (by omega)
theorem GrIs.past {w w' : World} {g : Nat} {s : SpecV} {T : List Ent} (h : GrIs w g s T) {b : Nat} {c : Array Value} {e : TypeId} {fz : Nat × Nat} (hb : w.heap[b]? = some (.cells c e fz)) (hs : ∀ j, j < w.heap.size → j ≠ b → w'.heap[j]? = w.heap[j]?) (n1 : tGrid ≠ e) (n2 : tInt ≠ e) (n3 : tRow ≠ e) (n4 : tU64 ≠ e) : GrIs w' g s T := by
 obtain ⟨ids, rows, alone, mb, rs, hR⟩ := h
 have own : ∀ {B sz n : Nat} {t : TypeId} {u : Value} {xs : List Value}, w.ownsRow B t sz u n xs → t ≠ e → w'.ownsRow B t sz u n xs := fun ho hne => own_same ho fun k hk => hs k (own_lt ho k hk).2 fun e2 => row_ne_blk ho hb hne (by rw [hk, e2])
 refine ⟨ids, rows, alone, mb, rs, (hs g (Array.getElem?_eq_some_iff.1 hR.blk).1 ?_).trans hR.blk, own hR.oi n2, hR.map.same (hs mb hR.map.lt ?_), own hR.orows n3, hR.rl, fun i r hi => own (hR.each i r hi) n4, own hR.oal n4⟩
 ·rintro rfl
  have := hR.blk
  rw [hb] at this
  cases this
  exact n1 rfl
 ·rintro rfl
  obtain ⟨es, k, hm, _⟩ := hR.map
  rw [hb] at hm
  cases hm
theorem AutIs.skip {w w' : World} {a g : Nat} {M : Aut} (h : AutIs w a g M) {b : Nat} {c : Array Value} {e : TypeId} {fz : Nat × Nat} (hb : w.heap[b]? = some (.cells c e fz)) (hs : ∀ j, j < w.heap.size → j ≠ b → w'.heap[j]? = w.heap[j]?) (n1 : tAuto ≠ e) (n2 : tInt ≠ e) (n3 : tInts ≠ e) (n4 : tBool ≠ e) : AutIs w' a g M := by
 obtain ⟨o, next, good, of, rs, d, h1, h2, h3⟩ := h
 have own : ∀ {B sz n : Nat} {t : TypeId} {u : Value} {xs : List Value}, w.ownsRow B t sz u n xs → t ≠ e → w'.ownsRow B t sz u n xs := fun ho hne => own_same ho fun k hk => hs k (own_lt ho k hk).2 fun e2 => row_ne_blk ho hb hne (by rw [hk, e2])
 refine ⟨o, next, good, of, rs, d, (hs a (Array.getElem?_eq_some_iff.1 h1).1 ?_).trans h1, ⟨own h2.onx n3, h2.rl, fun i r hi => own (h2.each i r hi) n2, own h2.ogd n4, h2.ok⟩, ?_⟩
 ·rintro rfl
  rw [hb] at h1
  cases h1
  exact n1 rfl
 ·cases o with
  | none => exact h3
  | some f => exact ⟨h3.1, h3.2.1, h3.2.2.1, own h3.2.2.2 n2⟩
structure BothA (w : World) (g a : Nat) (y : RvW) (s : SpecV) (T : List Ent) : Prop where
 base : ∃ w0, GrIs w0 g s T ∧ RvAt w0 y s T ∧ w0.heap.size ≤ a ∧ Below w0.heap.size w0 w
 aut : AutIs w a g (lastM s T)
 n : gN s T ≤ 1006
 pos : 0 < gN s T
 rise : RiseG s T
 ok : TOk T
 vok : (vocOf s T).Ok
theorem BothA.grid {w : World} {g a : Nat} {y : RvW} {s : SpecV} {T : List Ent} (h : BothA w g a y s T) : GrIs w g s T := by
 obtain ⟨w0, h1, _, _, h4⟩ := h.base
 exact h1.on h4
theorem BothA.on {w w' : World} {g a : Nat} {y : RvW} {s : SpecV} {T : List Ent} (h : BothA w g a y s T) (hb : Below w.heap.size w w') : BothA w' g a y s T := by
 obtain ⟨w0, h1, h2, h3, h4⟩ := h.base
 exact ⟨⟨w0, h1, h2, h3, below_then h4 hb⟩, h.aut.on hb, h.n, h.pos, h.rise, h.ok, h.vok⟩
theorem BothA.touch {w w' : World} {g a : Nat} {y : RvW} {s : SpecV} {T : List Ent} (h : BothA w g a y s T) (t : Touch a w w') (hA : AutIs w' a g (lastM s T)) : BothA w' g a y s T := by
 obtain ⟨w0, h1, h2, h3, h4⟩ := h.base
 exact ⟨⟨w0, h1, h2, h3, h4.trans (t.below h3 h4.size)⟩, hA, h.n, h.pos, h.rise, h.ok, h.vok⟩
theorem both17_spec (w : World) (y : CsW) (ls : List Int) (cs : List (Int × Int × Int)) (js : List (Int × Int)) (xs : List (Int × Bs)) (h : CsAt w y ls cs js xs) :
  CP 39 #[y.v] w fun e w' => ∃ g a r s T, e = .returned (.tuple #[.pointer (some ⟨g, 0, none⟩), .pointer (some ⟨a, 0, none⟩), r.v]) ∧ BothA w' g a r s T ∧ Below w.heap.size w w' ∧ w.heap.size ≤ a := by
 let R : Value → World → Prop := fun u w' => ∃ g a r s T, u = .tuple #[.pointer (some ⟨g, 0, none⟩), .pointer (some ⟨a, 0, none⟩), r.v] ∧ BothA w' g a r s T ∧ Below w.heap.size w w' ∧ w.heap.size ≤ a
 refine calls_ret (vc39_calls y.l.a y.l.n y.l.c y.c.a y.c.n y.c.c y.j.a y.j.n y.j.c y.x.a y.x.n y.x.c w R ?_) (by rintro v w' ⟨g, a, r, s, T, rfl, h⟩; exact ⟨g, a, r, s, T, rfl, h⟩)
 intro w1 hw1 w2 hw2
 have hb1 : Below w.heap.size w w1 := by subst hw1; exact below_alloc _ _
 have b2 : Below w1.heap.size w1 w2 := by subst hw2; exact below_alloc _ _
 have hb2 := below_then hb1 b2
 have l2 : w2.heap[w.heap.size]? = some (.cells y.cells tCs (0, 0)) := held_on b2 (by subst hw1; exact alloc_new _ _)
 have z2 : w2.heap[w1.heap.size]? = some (.cells rv0.cells tRv (0, 0)) := by subst hw2; exact alloc_new _ _
 have lt1 : w.heap.size < w1.heap.size := by subst hw1; rw [alloc_size]; omega
 refine ⟨_, _, _, _, _, _, _, _, _, _, _, _, agg4 l2, ?_⟩
 refine (lawOf_spec w2 y ls cs js xs (h.on hb2)).mono ?_
 rintro e w3 ⟨u, rfl, v, r, s, T, rfl, hB3, hv, b3⟩
 have hb3 := below_then hb2 b3
 refine ⟨_, _, _, _, _, _, _, _, _, _, _, _, _, _, _, _, rfl, ?_⟩
 intro w4 hw4
 refine storeP_new (slRv rv0) (slRv r) rfl (ones_rv r) w4 hw4 ?_
 intro w5 h5 hz5 b5
 have hB := hB3.on b5
 have hb5 := below_then hb3 b5
 have z5 := held_on (below_then b3 b5) z2
 have hz2 := hb2.size
 obtain ⟨hl, hsq⟩ := gids_few hB
 refine (gridNew_spec w5 v s T hB.voc hB.asc 1048576).mono ?_
 rintro e w6 ⟨u, rfl, hV6, t6, hu⟩
 rw [if_neg (by omega)] at hu
 obtain ⟨g, rfl, hG, hg⟩ := hu
 have hvl : w2.heap.size ≤ v := hv
 have lt2 : w1.heap.size < w2.heap.size := (Array.getElem?_eq_some_iff.1 z2).1
 have b56 : Below w2.heap.size w5 w6 := t6.below hvl (below_then b3 b5).size
 have hb6 : Below w.heap.size w w6 := hb5.trans (b56.mono hz2)
 have z6 : w6.heap[w1.heap.size]? = some (.cells rv0.cells tRv (0, 0)) := (b56.block _ lt2).trans z5
 have h6 := t6.held (by have := hB3.voc.lt; omega) h5
 have hR6 := hB.rv w6 t6
 have hrise : RiseG s T := gids_rising hB.asc (by
  obtain ⟨w0', x, tp, bp, mp, d, l, uses, hR⟩ := hB.voc
  exact hR.now.ids)
 have hn : gN s T ≤ 1006 := hl
 have hmost : ¬ (((gN s T + 2) * gN s T : Nat) : Int) > 1048576 := by
  have : (gN s T + 2) * gN s T ≤ 1008 * 1006 := Nat.mul_le_mul (by omega) hn
  omega
 have hok := hB.now.ok
 refine ⟨_, _, rfl, (last_spec w6 g s T hG (by omega) hrise 1048576).mono ?_⟩
 rintro e w7 ⟨b7, _, hu⟩
 obtain ⟨a, rfl, ha, hA⟩ := hu hmost
 refine ⟨_, _, rfl, CondP.no rfl (CondP.no rfl ?_)⟩
 intro w8 hw8
 have b8 : Below w7.heap.size w7 w8 := by subst hw8; exact drew_on w7
 have b68 := below_then b7 b8
 have z8 := held_on b68 z6
 refine ⟨_, _, _, _, _, _, _, _, _, _, _, _, _, _, _, agg5 (x := r) (held_on b68 h6), ?_⟩
 refine storeP_cells z8 (slRv r) rfl (ones_rv r) ?_
 intro w9 h9 hs9 hz9 hB9
 have hb9 : Below w.heap.size w w9 := hB9 _ _ (Nat.le_of_lt lt1) (below_then hb6 b68)
 refine ⟨_, _, _, _, _, _, _, _, _, _, _, _, _, _, _, agg5 (x := r) h9, g, a, r, s, T, rfl, ⟨?_, (hA.on b8).skip z8 (fun j _ hj => hs9 j hj) (by decide) (by decide) (by decide) (by decide), hn, ?_, hrise, hok, hB.now.vok⟩, hb9, by have := hb6.size; omega⟩
 ·have h0 : w1.heap.size < w6.heap.size := (Array.getElem?_eq_some_iff.1 z6).1
  let w0 : World := { w6 with heap := w6.heap.setIfInBounds w1.heap.size (.cells (slRv r).toArray tRv (0, 0)) }
  have hz0 : w0.heap.size = w6.heap.size := by simp [w0]
  have same : ∀ j, j ≠ w1.heap.size → w0.heap[j]? = w6.heap[j]? := fun j hj => by
   show (w6.heap.setIfInBounds w1.heap.size _)[j]? = _
   rw [Array.getElem?_setIfInBounds_ne (fun e => hj e.symm)]
  refine ⟨w0, GrIs.past hG z6 (fun j _ hj => same j hj) (by decide) (by decide) (by decide) (by decide), hR6.past z6 (soft_rv rv0) (fun j _ hj => same j hj) (Nat.le_of_eq hz0.symm), by rw [hz0]; exact ha, ?_⟩
  have hB9' := hB9 0 w8 (Nat.zero_le _) (Below.refl _ _)
  refine ⟨hB9'.os.trans b68.os, hB9'.tape.trans b68.tape, hB9'.output.trans b68.output, by rw [hz0, hz9]; exact b68.size, fun k hk => ?_⟩
  rw [hz0] at hk
  by_cases e : k = w1.heap.size
  ·subst e
   rw [h9]
   show _ = (w6.heap.setIfInBounds w1.heap.size _)[w1.heap.size]?
   rw [Array.getElem?_setIfInBounds_self_of_lt h0]
  ·rw [same k e, hs9 k e]
   exact b68.block k hk
 ·have := hok.len
  unfold gN
  rw [gids_length]
  omega
theorem may_aw {i k : Nat} (hi : i ≤ 257) (hk : k < 257) : mayA 257 (alB sAw tAw) (relB sAw tAw) i k = !(decide (i = 98) && decide (k = 98)) := by
 unfold mayA
 by_cases e : i = 0
 ·subst e
  rw [if_pos rfl, al_aw hk]
  rfl
 ·rw [if_neg e, if_pos hi, rel_aw (by omega) hk]
  congr 2
  exact decide_eq_decide.2 (by omega)
theorem many_of {al : Nat → Bool} {rel : Nat → Nat → Bool} (ha : ∀ i, i < 257 → al i = true) (hm : ∀ i k, i ≤ 257 → k < 257 → mayA 257 al rel i k = !(decide (i = 98) && decide (k = 98))) : (rowsA 257 al rel (257 + 1)).length = 2 := by
 have hact : ∀ i, i < 258 → actA al i = true := by
  intro i hi
  unfold actA
  by_cases e : i = 0
  ·subst e; rfl
  ·rw [ha _ (by omega)]
   simp
 have hrow : ∀ i, i < 258 → rowB 257 al rel i = rowB 257 al rel (if i = 98 then 98 else 0) := by
  intro i hi
  refine rowB_iff.2 fun k hk => ?_
  by_cases e : i = 98
  ·subst e; rfl
  ·rw [if_neg e, hm _ _ (by omega) hk, hm _ _ (by omega) hk, decide_eq_false e]
   rfl
 have hne : rowB 257 al rel 0 ≠ rowB 257 al rel 98 := by
  intro e
  have := rowB_iff.1 e 98 (by decide)
  rw [hm _ _ (by decide) (by decide), hm _ _ (by decide) (by decide)] at this
  revert this
  decide
 apply Nat.le_antisymm
 ·refine nodup_le (m := [rowB 257 al rel 0, rowB 257 al rel 98]) (rowsA_nodup _) fun r hr => ?_
  obtain ⟨i, hi, _, rfl⟩ := (rowsA_mem _ _).1 hr
  rw [hrow i hi]
  split
  ·exact List.mem_cons_of_mem _ List.mem_cons_self
  ·exact List.mem_cons_self
 ·refine nodup_le (l := [rowB 257 al rel 0, rowB 257 al rel 98]) ?_ fun r hr => ?_
  ·simp [hne]
  ·rcases List.mem_cons.1 hr with rfl | hr
   ·exact (rowsA_mem _ _).2 ⟨0, by decide, hact 0 (by decide), rfl⟩
   ·rw [List.mem_singleton.1 hr]
    exact (rowsA_mem _ _).2 ⟨98, by decide, hact 98 (by decide), rfl⟩
theorem bad_of {al : Nat → Bool} {rel : Nat → Nat → Bool} (ha : ∀ i, i < 257 → al i = true) (hm : ∀ i k, i ≤ 257 → k < 257 → mayA 257 al rel i k = !(decide (i = 98) && decide (k = 98))) : badA 257 al rel (257 + 1) = true := by
 refine badA_iff.2 ⟨98, 98, by decide, ?_, by decide, ?_⟩
 ·unfold actA
  rw [ha _ (by decide)]
  rfl
 ·rw [hm _ _ (by decide) (by decide)]
  rfl
theorem least_N (M : Aut) (f : Nat → Nat) : (Aut.least M f).N = (Aut.metL M f).length := rfl
theorem least_of {al : Nat → Bool} {rel : Nat → Nat → Bool} (ha : ∀ i, i < 257 → al i = true) (hm : ∀ i k, i ≤ 257 → k < 257 → mayA 257 al rel i k = !(decide (i = 98) && decide (k = 98))) {M : Aut} (hM : M = lastA 257 al rel) {f : Nat → Nat} (hc : Aut.Cls M f) : (Aut.least M f).N = 3 := by
 subst hM
 rw [least_N, least_many (n := 257) (by decide) (fun i k hi hk _ => ha k hk) hc, many_of ha hm, bad_of ha hm, if_pos rfl]
theorem least_aw {f : Nat → Nat} (hc : Aut.Cls (lastM sAw tAw) f) : (Aut.least (lastM sAw tAw) f).N = 3 :=
 least_of (fun i hi => al_aw hi) (fun i k hi hk => may_aw hi hk) (by unfold lastM; rw [gN_aw]) hc
theorem awake17_spec (w : World) : CP 38 #[] w fun e w' => e = .returned (.bool true) ∧ Below w.heap.size w w' := by
 refine calls_ret (vc38_calls w (fun u w' => u = .bool true ∧ Below w.heap.size w w') ?_) (by rintro v w' ⟨rfl, h⟩; exact ⟨rfl, h⟩)
 intro w1 hw1
 have hb1 : Below w.heap.size w w1 := by subst hw1; exact below_alloc _ _
 refine (vocabNew_spec w1 _ sAw (specAt_aw w w1 hw1)).mono ?_
 rintro e w2 ⟨u, rfl, hb2, hp⟩
 rw [if_pos right_aw, build_aw] at hp
 obtain ⟨v, rfl, hV, hv⟩ := hp
 have hb12 := below_then hb1 hb2
 have hz1 := hb1.size
 refine ⟨_, _, _, rfl, ?_⟩
 refine (gridNew_spec w2 v sAw tAw hV List.Pairwise.nil 1048576).mono ?_
 rintro e w3 ⟨u, rfl, hV3, t3, hu⟩
 rw [gids_aw, if_neg (by decide)] at hu
 obtain ⟨g, rfl, hG, hg⟩ := hu
 have hb3 : Below w.heap.size w w3 := hb12.trans (t3.below (by omega) hb12.size)
 have hn : gN sAw tAw ≤ 1032 := by rw [gN_aw]; decide
 refine ⟨_, _, rfl, (last_spec w3 g sAw tAw hG hn rise_aw 1048576).mono ?_⟩
 rintro e w4 ⟨b4, _, hu⟩
 obtain ⟨a, rfl, ha, hA⟩ := hu (by rw [gN_aw]; decide)
 have hMN : (lastM sAw tAw).N = 259 := by
  show gN sAw tAw + 2 = 259
  rw [gN_aw]
 have hMn : (lastM sAw tAw).n = 257 := gN_aw
 refine ⟨_, _, rfl, CondP.yes rfl ((aStates_spec w4 a g _ hA).mono ?_)⟩
 rintro e w5 ⟨rfl, hw⟩
 subst w5
 rw [hMN]
 refine ⟨_, rfl, CondP.yes rfl ((least_spec w4 a g _ hA (by rw [hMN]; decide) (by rw [hMn]; decide)).mono ?_)⟩
 rintro e w6 ⟨b, f, rfl, hc, hb, _, _, t6⟩
 refine ⟨_, rfl, (aStates_spec w6 b g _ hb).mono ?_⟩
 rintro e w7 ⟨rfl, hw⟩
 subst w7
 rw [least_aw hc]
 have hb4 := below_then hb3 b4
 have hz3 := hb3.size
 exact ⟨_, rfl, rfl, hb4.trans (t6.below (by omega) hb4.size)⟩
theorem rel_al {s : SpecV} {T : List Ent} (hok : TOk T) (hV : (vocOf s T).Ok) {i k : Nat} (hi : i < gN s T) (hk : k < gN s T) (h : relB s T i k = true) : alB s T k = true := by
 unfold relB at h
 rw [decide_eq_true_iff] at h
 unfold alB
 rw [decide_eq_true_iff]
 have hh : ∀ t ∈ [(gids s T).getD i 0] ++ [(gids s T).getD k 0], (vocOf s T).Has t := by
  intro t ht
  rw [List.mem_append, List.mem_singleton, List.mem_singleton] at ht
  rcases ht with rfl | rfl
  ·exact (has_iff2 hok _).1 (has_at hi)
  ·exact (has_iff2 hok _).1 (has_at hk)
 exact (Voc.canon_append hV (P := [(gids s T).getD i 0]) (Q := [(gids s T).getD k 0]) hh h).2
theorem rowB_get {n : Nat} {al : Nat → Bool} {rel : Nat → Nat → Bool} {m k : Nat} (hk : k < n) : (rowB n al rel m)[k]? = some (mayA n al rel m k) := by simp [rowB, List.getElem?_range hk]
theorem rowB_take {n : Nat} {al : Nat → Bool} {rel : Nat → Nat → Bool} {m k : Nat} (hk : k < n) : (rowB n al rel m).take (k + 1) = (rowB n al rel m).take k ++ [mayA n al rel m k] := by rw [List.take_add_one, rowB_get hk]; rfl
theorem rowB_length {n : Nat} {al : Nat → Bool} {rel : Nat → Nat → Bool} {m : Nat} : (rowB n al rel m).length = n := by simp [rowB]
theorem badA_succ {n : Nat} {al : Nat → Bool} {rel : Nat → Nat → Bool} {m : Nat} : badA n al rel (m + 1) = (badA n al rel m || (actA al m && (rowB n al rel m).any (! ·))) := by
 unfold badA
 rw [List.range_succ, List.any_append]
 simp
theorem rowsA_len {n : Nat} {al : Nat → Bool} {rel : Nat → Nat → Bool} {m : Nat} {r : List Bool} (h : r ∈ rowsA n al rel m) : r.length = n := by
 obtain ⟨i, _, _, rfl⟩ := (rowsA_mem _ _).1 h
 exact rowB_length
theorem rowsA_few {n : Nat} {al : Nat → Bool} {rel : Nat → Nat → Bool} : ∀ m, (rowsA n al rel m).length ≤ m
 | 0 => Nat.le_refl _
 | m + 1 => by
  have := rowsA_few (n := n) (al := al) (rel := rel) m
  rw [rowsA]
  split
  ·rw [List.length_append, List.length_singleton]; omega
  ·omega
set_option maxHeartbeats 4000000 in
theorem AutoLeast_spec (w : World) (y : CsW) (ls : List Int) (cs : List (Int × Int × Int)) (js : List (Int × Int)) (xs : List (Int × Bs)) (h : CsAt w y ls cs js xs) :
  CP 9 #[y.v] w fun e w' => e = .returned (.bool true) ∧ Below w.heap.size w w' := by
 refine calls_ret (vc9_calls y.l.a y.l.n y.l.c y.c.a y.c.n y.c.c y.j.a y.j.n y.j.c y.x.a y.x.n y.x.c w (fun u w' => u = .bool true ∧ Below w.heap.size w w') ?_) (by rintro v w' ⟨rfl, h⟩; exact ⟨rfl, h⟩)
 intro w1 hw1
 have hb1 : Below w.heap.size w w1 := by subst hw1; exact below_alloc _ _
 have l1 : w1.heap[w.heap.size]? = some (.cells y.cells tCs (0, 0)) := by subst hw1; exact alloc_new _ _
 refine ⟨_, _, _, _, _, _, _, _, _, _, _, _, agg4 l1, ?_⟩
 refine (lawGreat_spec w1 y ls cs js xs (h.on hb1)).mono ?_
 rintro e w2 ⟨c0, rfl, b2⟩
 have hb2 := below_then hb1 b2
 have aw : ∀ {q : World}, Below w.heap.size w q → CP 38 #[] q fun e w' => ∃ b : Bool, e = .returned (.bool b) ∧ (Value.bool b = Value.bool true ∧ Below w.heap.size w w') := by
  intro q hq
  refine (awake17_spec q).mono ?_
  rintro e w3 ⟨rfl, b3⟩
  exact ⟨true, rfl, rfl, below_then hq b3⟩
 refine ⟨c0, rfl, CondP.mk (fun _ => aw hb2) fun _ => ?_⟩
 refine (awake17_spec w2).mono ?_
 rintro e w5 ⟨rfl, b5⟩
 have hb5 := below_then hb2 b5
 refine ⟨_, rfl, CondP.no rfl ⟨_, _, _, _, _, _, _, _, _, _, _, _, agg4 (held_on b5 (held_on b2 l1)), ?_⟩⟩
 refine (both17_spec w5 y ls cs js xs (h.on hb5)).mono ?_
 rintro e w6 ⟨g, a, r, s, T, rfl, hB6, b6, ha6⟩
 have hb6 := below_then hb5 b6
 have haw : w.heap.size ≤ a := Nat.le_trans hb5.size ha6
 refine ⟨_, _, _, _, _, _, _, _, _, _, _, _, _, _, _, _, _, rfl, ?_⟩
 intro w7 hw7
 refine storeP_new (slRv rv0) (slRv r) rfl (ones_rv r) w7 hw7 ?_
 intro w8 h8 hz8 b8
 have hB := hB6.on b8
 have hb8 := below_then hb6 b8
 have hn := hB.n
 have hok := hB.ok
 have hV := hB.vok
 have hrise := hB.rise
 refine (least_spec w8 a g (lastM s T) hB.aut (by show gN s T + 2 ≤ 10000; omega) (by show gN s T ≤ 10000; omega)).mono ?_
 rintro e w9 ⟨b, f, rfl, hc, hbA, hA9, hbl, t9⟩
 have hB9 := hB.touch t9 hA9
 have hb9 : Below w.heap.size w w9 := hb8.trans (t9.below haw hb8.size)
 have hwb : w.heap.size ≤ b := Nat.le_trans hb8.size hbl
 obtain ⟨n, hgn⟩ : ∃ n, n = gN s T := ⟨_, rfl⟩
 have hgl : (gids s T).length = n := hgn.symm
 have hG9 := hB9.grid
 have hMok : (lastM s T).Ok := lastM_ok (by omega)
 have many := least_many (n := gN s T) (al := alB s T) (rel := relB s T) (by omega) (fun i k hi hk h => rel_al hok hV hi hk h) hc
 rw [← hgn] at many
 obtain ⟨al, hal⟩ : ∃ al, al = alB s T := ⟨_, rfl⟩
 obtain ⟨rel, hrel⟩ : ∃ rel, rel = relB s T := ⟨_, rfl⟩
 rw [← hal, ← hrel] at many
 refine ⟨_, rfl, CondP.no rfl (CondP.no rfl ?_)⟩
 intro I hI
 let Inv (m : Nat) (y : (Bool × Sl) × World) : Prop := y.1.1 = badA n al rel m ∧ ∃ rl : List Sl, y.2.ownsRow w9.heap.size tBools 1 y.1.2.v y.1.2.n (rl.flatMap encS) ∧ rl.length = (rowsA n al rel m).length ∧ (∀ (i : Nat) (r : Sl) (b : List Bool), rl[i]? = some r → (rowsA n al rel m)[i]? = some b → y.2.ownsRow w9.heap.size tBool 1 r.v r.n (b.flatMap encB1)) ∧ Below w9.heap.size w9 y.2
 have key := climb2 (α := (Bool × Sl) × World) (n + 1) Inv (fun m y => I [.int .i64 ((m : Int) - 1), .bool y.1.1, y.1.2.v] y.2) ((false, sl0), w9) ⟨rfl, [], own_none _ _ _ _ encS, rfl, (by intro i r b h; cases h), Below.refl _ _⟩ ?_ ?_
 ·exact key
 ·rintro m hm ih ⟨⟨bad, rows⟩, q⟩ ⟨hbad, rl, hro, hrl, hre, hq⟩
  change bad = badA n al rel m at hbad
  change q.ownsRow w9.heap.size tBools 1 rows.v rows.n _ at hro
  change Below w9.heap.size w9 q at hq
  have hGq := hG9.on hq
  have hrn := (LsAt.of_own elBls hro).n
  have hfew := rowsA_few (n := n) (al := al) (rel := rel) m
  refine hI _ bad rows.a rows.n rows.c q ((gSize_spec q g s T hGq).mono ?_)
  rintro e q1 ⟨rfl, hw⟩
  subst q1
  rw [hgl]
  refine ⟨_, rfl, CondP.yes (decide_eq_true (by omega)) ?_⟩
  intro J hJ
  have hJ' : ∀ (bad' : Bool) (rows' : Sl) (q' : World), Inv (m + 1) ((bad', rows'), q') → J [.bool bad', .slice rows'.a rows'.n rows'.c] q' := fun bad' rows' q' hi => hJ _ _ _ _ _ (Ar.ok64 (by omega) (by omega) (by
   rw [show (m : Int) - 1 + 1 = ((m + 1 : Nat) : Int) - 1 by omega]
   exact ih _ hi))
  refine (gId_spec q g s T hGq ((m : Int) - 1)).mono ?_
  rintro e q1 ⟨he, hw⟩
  subst q1
  obtain ⟨id0, fl, rfl, hid⟩ : ∃ (id0 : Int) (fl : Bool), e = .returned (.tuple #[.int .i64 id0, .bool fl]) ∧ (0 < m → id0 = (gids s T).getD (m - 1) 0) := by
   rw [he]
   by_cases h0 : 0 < m
   ·rw [if_pos ⟨by omega, by omega⟩]
    exact ⟨_, true, rfl, fun _ => by rw [show ((m : Int) - 1).toNat = m - 1 by omega]⟩
   ·rw [if_neg (by omega)]
    exact ⟨_, false, rfl, fun h => absurd h h0⟩
  refine ⟨_, _, rfl, CondP.mk (fun hi0 => (gAlone_spec q g s T hGq (by omega) id0).mono ?_) fun hi0 => ?_⟩
  rintro e q1 ⟨rfl, hw⟩
  subst q1
  have hi0 := of_decide_eq_true hi0
  rw [hid (by omega), gAl_at (show m - 1 < gN s T by omega)]
  refine ⟨_, rfl, CondP.mk (fun hna => hJ' bad rows q ⟨?_, rl, hro, ?_, ?_, hq⟩) fun hna => ?_⟩
  ·have : actA al m = false := by
    rw [hal]
    unfold actA
    rw [show alB s T (m - 1) = false by simpa using hna]
    simp; omega
   rw [badA_succ, this, Bool.false_and, Bool.or_false]
   exact hbad
  ·have : actA al m = false := by
    rw [hal]
    unfold actA
    rw [show alB s T (m - 1) = false by simpa using hna]
    simp; omega
   rw [rowsA, if_neg (by rw [this]; simp)]
   exact hrl
  ·have : actA al m = false := by
    rw [hal]
    unfold actA
    rw [show alB s T (m - 1) = false by simpa using hna]
    simp; omega
   rw [rowsA, if_neg (by rw [this]; simp)]
   exact hre
  have hact : actA al m = true := by
   rw [hal]
   unfold actA
   rw [show alB s T (m - 1) = true by simpa using hna]
   simp
  rotate_left
  have hi0 := of_decide_eq_false hi0
  have hact : actA al m = true := by
   obtain rfl : m = 0 := by omega
   rfl
  all_goals
   intro I2 hI2
   have key2 := climb2 (α := (Sl × Bool) × World) n (fun k y => y.2.ownsRow q.heap.size tBool 1 y.1.1.v y.1.1.n (((rowB n al rel m).take k).flatMap encB1) ∧ y.1.1.n = k ∧ y.1.2 = (bad || ((rowB n al rel m).take k).any (! ·)) ∧ Below q.heap.size q y.2) (fun k y => I2 [.int .i64 (k : Int), y.1.1.v, .bool y.1.2] y.2) ((sl0, bad), q) ⟨own_none _ _ _ _ encB1, rfl, by simp, Below.refl _ _⟩ ?_ ?_
   ·exact key2
   ·rintro k hk ih2 ⟨⟨row, bd⟩, z⟩ ⟨hrow, hrown, hbd, hz⟩
    change z.ownsRow q.heap.size tBool 1 row.v row.n _ at hrow
    change row.n = k at hrown
    change bd = _ at hbd
    change Below q.heap.size q z at hz
    have hGz := hGq.on hz
    have go : ∀ (v : Bool) (z2 : World) (l' : Sl) (bd' : Bool), v = mayA n al rel m k → z2.ownsRow q.heap.size tBool 1 l'.v l'.n (((rowB n al rel m).take k ++ [v]).flatMap encB1) → l'.n = row.n + 1 → Below q.heap.size q z2 → bd' = (bd || !v) → Ar .i64 ((k : Int) + 1) (fun n => I2 [.int .i64 n, .slice l'.a l'.n l'.c, .bool bd'] z2) := by
     intro v z2 l' bd' hv ho hl hB hbd'
     refine Ar.nat (k + 1) rfl (by omega) (ih2 ((l', bd'), z2) ⟨?_, by show l'.n = k + 1; omega, ?_, hB⟩)
     ·rw [rowB_take hk, ← hv]; exact ho
     ·show bd' = _
      rw [hbd', hbd, rowB_take hk, ← hv, List.any_append]
      simp [Bool.or_assoc]
    refine hI2 _ row.a row.n row.c bd z ((gSize_spec z g s T hGz).mono ?_)
    rintro e z1 ⟨rfl, hw⟩
    subst z1
    rw [hgl]
    refine ⟨_, rfl, CondP.yes (decide_eq_true (by omega)) ((gId_at z g s T hGz k (by omega)).mono ?_)⟩
    rintro e z1 ⟨rfl, hw⟩
    subst z1
    refine ⟨_, _, rfl, ?_⟩
    rcases Nat.eq_zero_or_pos m with hm0 | hm0
    ·refine CondP.yes (decide_eq_true (by omega)) ((gAlone_spec z g s T hGz (by omega) _).mono ?_)
     rintro e z1 ⟨rfl, hw⟩
     subst z1
     rw [gAl_at (show k < gN s T by omega)]
     have hmay : alB s T k = mayA n al rel m k := by rw [hm0, hal]; rfl
     refine ⟨_, rfl, CondP.mk (fun hv => ?_) fun hv => CondP.no (decide_eq_false (by omega)) ?_⟩
     ·intro z1 hz1
      obtain ⟨l', z2, e1, e2, e3, e4, _⟩ := elBl.push hrow true hz1 rfl hz.size (by omega) (by decide)
      exact ⟨l'.a, l'.n, l'.c, z2, e2, CondP.mk (fun hb => go true z2 l' true (hv.symm.trans hmay) e3 e1 (e4 _ hz) (by rw [hb]; rfl)) fun hb => go true z2 l' false (hv.symm.trans hmay) e3 e1 (e4 _ hz) (by rw [hb]; rfl)⟩
     ·intro z1 hz1
      obtain ⟨l', z2, e1, e2, e3, e4, _⟩ := elBl.push hrow false hz1 rfl hz.size (by omega) (by decide)
      exact ⟨l'.a, l'.n, l'.c, z2, e2, CondP.mk (fun hb => go false z2 l' true (hv.symm.trans hmay) e3 e1 (e4 _ hz) (by simp)) fun hb => go false z2 l' true (hv.symm.trans hmay) e3 e1 (e4 _ hz) (by simp)⟩
    ·refine CondP.no (decide_eq_false (by omega)) (CondP.yes (decide_eq_true (by omega)) ((gHas_spec z g s T hGz (by omega) _ _).mono ?_))
     rintro e z1 ⟨rfl, hw⟩
     subst z1
     have hmay : gHas s T id0 ((gids s T).getD k 0) = mayA n al rel m k := by
      rw [hid hm0, gHas_at (show m - 1 < gN s T by omega) (show k < gN s T by omega), hrel]
      unfold mayA
      rw [if_neg (by omega), if_pos (by omega)]
     first | rw [hmay] | rw [show gHas s T ((gids s T).getD (m - 1) 0) ((gids s T).getD k 0) = mayA n al rel m k from by rw [← hid hm0]; exact hmay]
     refine ⟨_, rfl, ?_⟩
     intro z1 hz1
     obtain ⟨l', z2, e1, e2, e3, e4, _⟩ := elBl.push hrow (mayA n al rel m k) hz1 rfl hz.size (by omega) (by decide)
     exact ⟨l'.a, l'.n, l'.c, z2, e2, CondP.mk (fun hb => go _ z2 l' true rfl e3 e1 (e4 _ hz) (by rw [hb]; rfl)) fun hb => go _ z2 l' _ rfl e3 e1 (e4 _ hz) (by rw [hb]; rfl)⟩
   ·rintro ⟨⟨row, bd⟩, z⟩ ⟨hrow, hrown, hbd, hz⟩
    change z.ownsRow q.heap.size tBool 1 row.v row.n _ at hrow
    change row.n = n at hrown
    change bd = _ at hbd
    change Below q.heap.size q z at hz
    rw [List.take_of_length_le (by rw [rowB_length]; exact Nat.le_refl _)] at hrow hbd
    have hGz := hGq.on hz
    have hqz := below_then hq hz
    have hroz := own_on hro hz
    have hrez : ∀ (i : Nat) (r : Sl) (b : List Bool), rl[i]? = some r → (rowsA n al rel m)[i]? = some b → z.ownsRow w9.heap.size tBool 1 r.v r.n (b.flatMap encB1) := fun i r b h1 h2 => own_on (hre i r b h1 h2) hz
    have hbd' : bd = badA n al rel (m + 1) := by rw [badA_succ, hact, Bool.true_and, ← hbad]; exact hbd
    refine hI2 _ row.a row.n row.c bd z ((gSize_spec z g s T hGz).mono ?_)
    rintro e z1 ⟨rfl, hw⟩
    subst z1
    rw [hgl]
    refine ⟨_, rfl, CondP.no (decide_eq_false (by omega)) ?_⟩
    intro I3 hI3
    have hrl2 : rows.n = (rowsA n al rel m).length := by rw [hrn, hrl]
    have key3 := climb2 (α := Bool × World) rows.n (fun k y => (y.1 = true ↔ ∃ j, j < k ∧ (rowsA n al rel m)[j]? = some (rowB n al rel m)) ∧ Below z.heap.size z y.2) (fun k y => I3 [.int .i64 (k : Int), .bool y.1] y.2) (false, z) ⟨⟨fun e => (by cases e), fun ⟨j, hj, _⟩ => absurd hj (Nat.not_lt_zero j)⟩, Below.refl _ _⟩ ?_ ?_
    ·exact key3
    ·rintro k hk ih3 ⟨seen, u⟩ ⟨hseen, hu⟩
     change seen = true ↔ _ at hseen
     change Below z.heap.size z u at hu
     refine hI3 _ seen u (CondP.yes (decide_eq_true (by omega)) ?_)
     intro I4 hI4
     have hkl : k < rl.length := by omega
     have hka : k < (rowsA n al rel m).length := by omega
     obtain ⟨R, hR⟩ : ∃ R, R = (rowsA n al rel m)[k] := ⟨_, rfl⟩
     have hRl : R.length = n := by rw [hR]; exact rowsA_len (List.getElem_mem hka)
     have key4 := climb2 (α := Bool × World) n (fun j y => (y.1 = true ↔ ∀ j', j' < j → R[j']? = (rowB n al rel m)[j']?) ∧ Below z.heap.size z y.2) (fun j y => I4 [.int .i64 (j : Int), .bool y.1] y.2) (true, u) ⟨⟨fun _ j hj => absurd hj (Nat.not_lt_zero j), fun _ => rfl⟩, hu⟩ ?_ ?_
     ·exact key4
     ·rintro j hj ih4 ⟨same, u1⟩ ⟨hsame, hu1⟩
      change same = true ↔ _ at hsame
      change Below z.heap.size z u1 at hu1
      refine hI4 _ same u1 (CondP.yes (decide_eq_true (by omega)) ?_)
      intro u2 hu2
      have hu2' := below_then hu1 (show Below u1.heap.size u1 u2 by subst hu2; exact drew_on u1)
      refine CondP.mk (fun hs => ?_) fun hs => ?_
      ·obtain ⟨p1, hp1, c1⟩ := cell_rw (LsAt.of_own elBls (own_on hroz hu2')).r hkl (v := rl[k].v) rfl
       have o1 := hrez k rl[k] R (List.getElem?_eq_getElem hkl) (by rw [hR]; exact List.getElem?_eq_getElem hka)
       have ls1 := LsAt.of_own elBl (own_on o1 hu2')
       have ln1 := ls1.n
       obtain ⟨p2, hp2, c2⟩ := cell_rw ls1.r (show j < R.length by omega) (v := .bool R[j]) rfl
       have ls3 := LsAt.of_own elBl (own_on hrow hu2')
       obtain ⟨p3, hp3, c3⟩ := cell_rw ls3.r (show j < (rowB n al rel m).length by rw [rowB_length]; exact hj) (v := .bool (mayA n al rel m j)) (by
        have := rowB_get (al := al) (rel := rel) (m := m) hj
        rw [List.getElem?_eq_getElem (by rw [rowB_length]; exact hj)] at this
        rw [Option.some.inj this]
        rfl)
       refine NilC.mk p1 hp1 ⟨by omega, by omega, _, _, _, c1, NilC.mk p2 hp2 ⟨by omega, by omega, _, c2, NilC.mk p3 hp3 ⟨by omega, by omega, _, c3, Ar.nat (j + 1) rfl (by omega) (ih4 (_, u2) ⟨?_, hu2'⟩)⟩⟩⟩
       show (R[j] == mayA n al rel m j) = true ↔ _
       rw [beq_iff_eq]
       have hs' := hsame.1 hs
       constructor
       ·intro e j' hj'
        by_cases ej : j' = j
        ·subst ej
         rw [List.getElem?_eq_getElem (by omega), e, rowB_get hj]
        ·exact hs' j' (by omega)
       ·intro e
        have := e j (by omega)
        rw [List.getElem?_eq_getElem (show j < R.length by omega), rowB_get hj] at this
        exact Option.some.inj this
      ·refine Ar.nat (j + 1) rfl (by omega) (ih4 (false, u2) ⟨?_, hu2'⟩)
       show false = true ↔ _
       refine ⟨fun e => (by cases e), fun e => ?_⟩
       exact absurd ((hsame.2 fun j' hj' => e j' (by omega)).symm.trans hs) (by decide)
     ·rintro ⟨same, u1⟩ ⟨hsame, hu1⟩
      change same = true ↔ _ at hsame
      change Below z.heap.size z u1 at hu1
      have hsR : same = true ↔ R = rowB n al rel m := by
       rw [hsame]
       constructor
       ·intro e
        apply List.ext_getElem?
        intro j
        by_cases hj : j < n
        ·exact e j hj
        ·rw [List.getElem?_eq_none_iff.2 (by omega), List.getElem?_eq_none_iff.2 (by rw [rowB_length]; omega)]
       ·intro e j _
        rw [e]
      refine hI4 _ same u1 (CondP.no (decide_eq_false (by omega)) (CondP.mk (fun hs => ?_) fun hs => ?_))
      ·refine Ar.nat (k + 1) rfl (by omega) (ih3 (true, u1) ⟨⟨fun _ => ?_, fun _ => rfl⟩, hu1⟩)
       obtain ⟨j, hj, e⟩ := hseen.1 hs
       exact ⟨j, by omega, e⟩
      ·refine Ar.nat (k + 1) rfl (by omega) (ih3 (same, u1) ⟨?_, hu1⟩)
       show same = true ↔ _
       rw [hsR]
       constructor
       ·intro e
        exact ⟨k, by omega, by rw [← e, hR]; exact List.getElem?_eq_getElem hka⟩
       ·rintro ⟨j, hj, e⟩
        by_cases ej : j = k
        ·subst ej
         rw [List.getElem?_eq_getElem hka] at e
         rw [hR]
         exact Option.some.inj e
        ·exact absurd ((hseen.2 ⟨j, by omega, e⟩).symm.trans hs) (by decide)
    ·rintro ⟨seen, u⟩ ⟨hseen, hu⟩
     change seen = true ↔ _ at hseen
     change Below z.heap.size z u at hu
     have hmem : seen = true ↔ rowB n al rel m ∈ rowsA n al rel m := by
      rw [hseen, List.mem_iff_getElem?]
      constructor
      ·rintro ⟨j, _, e⟩
       exact ⟨j, e⟩
      ·rintro ⟨j, e⟩
       exact ⟨j, by have := (List.getElem?_eq_some_iff.1 e).1; omega, e⟩
     have hqu := below_then hqz hu
     have hrou := own_on hroz hu
     refine hI3 _ seen u (CondP.no (decide_eq_false (by omega)) (CondP.mk (fun hs => ?_) fun hs => ?_))
     ·have hnm : rowB n al rel m ∉ rowsA n al rel m := fun e => by rw [hmem.2 e] at hs; cases hs
      intro u1 hu1
      obtain ⟨rows', u2, e1, e2, e3, e4, e5⟩ := elBls.push hrou row hu1 rfl hqu.size (by omega) (by decide)
      have same : ∀ {B sz n : Nat} {u' : Value} {xs : List Value}, u.ownsRow B tBool sz u' n xs → u2.ownsRow B tBool sz u' n xs := fun ho => own_same ho fun k hk => e5 k (own_lt ho k hk).2 (row_ne_row ho hrou (by decide) k hk)
      have hnew : rowsA n al rel (m + 1) = rowsA n al rel m ++ [rowB n al rel m] := by rw [rowsA, if_pos ⟨hact, hnm⟩]
      refine ⟨rows'.a, rows'.n, rows'.c, u2, e2, hJ' bd rows' u2 ⟨hbd', rl ++ [row], e3, by rw [hnew, List.length_append, List.length_append, hrl]; rfl, fun i r b h1 h2 => ?_, e4 _ hqu⟩⟩
      rw [hnew] at h2
      by_cases hi : i < rl.length
      ·rw [List.getElem?_append_left hi] at h1
       rw [List.getElem?_append_left (by omega)] at h2
       exact same (own_on (hrez i r b h1 h2) hu)
      ·have hi2 : i = rl.length := by
        have := (List.getElem?_eq_some_iff.1 h1).1
        simp at this
        omega
       subst hi2
       rw [List.getElem?_append_right (Nat.le_refl _), Nat.sub_self] at h1
       rw [List.getElem?_append_right (by omega), hrl, Nat.sub_self] at h2
       cases h1
       cases h2
       exact same (own_base (own_on hrow hu) hq.size)
     ·have hm2 : rowB n al rel m ∈ rowsA n al rel m := hmem.1 (by simpa using hs)
      have hnew : rowsA n al rel (m + 1) = rowsA n al rel m := by rw [rowsA, if_neg (fun e => e.2 hm2)]
      exact hJ' bd rows u ⟨hbd', rl, hrou, by rw [hnew]; exact hrl, fun i r b h1 h2 => own_on (hrez i r b h1 (by rw [hnew] at h2; exact h2)) hu, hqu⟩
 ·rintro ⟨⟨bad, rows⟩, q⟩ ⟨hbad, rl, hro, hrl, hre, hq⟩
  change bad = badA n al rel (n + 1) at hbad
  change q.ownsRow w9.heap.size tBools 1 rows.v rows.n _ at hro
  change Below w9.heap.size w9 q at hq
  have hGq := hG9.on hq
  have hrn := (LsAt.of_own elBls hro).n
  have hfew := rowsA_few (n := n) (al := al) (rel := rel) (n + 1)
  have hbq := below_then hb9 hq
  have hbAq := hbA.on hq
  obtain ⟨M', hM'⟩ : ∃ M', M' = Aut.least (lastM s T) f := ⟨_, rfl⟩
  rw [← hM'] at hbAq
  have hMok' : M'.Ok := by rw [hM']; exact Aut.least_ok hMok hc.lt
  have hfewM := Aut.met_few hMok hc.lt (lastM s T).N
  change (Aut.metL (lastM s T) f).length ≤ gN s T + 2 at hfewM
  have hN : M'.N = (rowsA n al rel (n + 1)).length + (if badA n al rel (n + 1) = true then 1 else 0) := by
   rw [hM', least_N, ← many]
   unfold lastM
   rw [← hgn, hal, hrel]
  have hN' : M'.N ≤ 10000 := by
   rw [hM', least_N]
   omega
  have hn' : M'.n ≤ 10000 := by
   rw [hM']
   show gN s T ≤ 10000
   omega
  have hinj : ∀ (f' : Nat → Nat), Aut.Cls M' f' → ∀ p q, p < M'.N → q < M'.N → f' p = f' q → p = q := by
   intro f' hc' p q hp hq' e
   rw [hM'] at hc' hp hq'
   exact Aut.least_cls hMok hc hc' hp hq' e
  have hall : ∀ (f' : Nat → Nat), (∀ p q, p < M'.N → q < M'.N → f' p = f' q → p = q) → Aut.metL M' f' = List.range M'.N := by
   intro f' hi
   rw [hM'] at hi ⊢
   exact Aut.least_all hMok hc.lt hi
  refine hI _ bad rows.a rows.n rows.c q ((gSize_spec q g s T hGq).mono ?_)
  rintro e q1 ⟨rfl, hw⟩
  subst q1
  rw [hgl]
  refine ⟨_, rfl, CondP.no (decide_eq_false (by omega)) ?_⟩
  intro J hJ
  have go : J [.int .i64 ((M'.N : Nat) : Int)] q := by
   refine hJ _ _ ((aStates_spec q b g M' hbAq).mono ?_)
   rintro e q1 ⟨rfl, hw⟩
   subst q1
   refine ⟨_, rfl, CondP.no (by simp) ((reached_spec q b g M' hbAq hN' hn' (hall _ fun p q _ _ e => e)).mono ?_)⟩
   rintro e q1 ⟨l, rfl, hl, b1⟩
   have hbA1 := hbAq.on b1
   refine ⟨_, _, _, rfl, CondP.no (by rw [hl]; simp) ((least_spec q1 b g M' hbA1 hN' hn').mono ?_)⟩
   rintro e q2 ⟨b2, f2, rfl, hc2, hbA2, hbA2', _, t2⟩
   refine ⟨_, rfl, (aStates_spec q2 b2 g _ hbA2).mono ?_⟩
   rintro e q3 ⟨rfl, hw⟩
   subst q3
   have hN2 : (Aut.least M' f2).N = M'.N := by rw [least_N, hall f2 (hinj f2 hc2), List.length_range]
   rw [hN2]
   have hbq1 := below_then hbq b1
   have hbq2 : Below w.heap.size w q2 := hbq1.trans (t2.below hwb hbq1.size)
   refine ⟨_, rfl, CondP.no (by simp) ?_⟩
   intro I5 hI5
   have key5 := climb2 (α := World) M'.N (fun i z => AutIs z b g M' ∧ Below w.heap.size w z) (fun i z => ∀ y2, I5 [.int .i64 (i : Int), .bool y2] z) q2 ⟨hbA2', hbq2⟩ ?_ ?_
   ·exact key5 _
   ·rintro i hi ih5 z ⟨hz1, hz2⟩ y2
    refine hI5 _ y2 z (CondP.yes (decide_eq_true (by omega)) ?_)
    intro I6 hI6
    have key6 := climb2 (α := World) M'.N (fun i z => AutIs z b g M' ∧ Below w.heap.size w z) (fun k z => ∀ y2, I6 [.int .i64 (k : Int), .bool y2] z) z ⟨hz1, hz2⟩ ?_ ?_
    ·exact key6 _
    ·rintro k hk ih6 u ⟨hu1, hu2⟩ y3
     refine hI6 _ y3 u (CondP.yes (decide_eq_true (by omega)) ((Alike_spec u b g M' hu1 hN' hn' (i : Int) (k : Int)).mono ?_))
     rintro e u1 ⟨v, rfl, k1, _, hu3, t3⟩
     obtain ⟨f3, hc3, hv⟩ := k1 ⟨⟨by omega, by omega⟩, by omega, by omega⟩
     have hv2 : v = ((i : Int) == (k : Int)) := by
      rw [Bool.eq_iff_iff, beq_iff_eq, hv, decide_eq_true_eq]
      show f3 i = f3 k ↔ _
      constructor
      ·intro e
       rw [hinj f3 hc3 i k hi hk e]
      ·intro e
       have : i = k := by omega
       rw [this]
     exact ⟨_, rfl, CondP.no (by rw [hv2]; simp) (Ar.nat (k + 1) rfl (by omega) (ih6 u1 ⟨hu3, hu2.trans (t3.below hwb hu2.size)⟩ _))⟩
    ·rintro u hu y3
     exact hI6 _ y3 u (CondP.no (decide_eq_false (by omega)) (Ar.nat (i + 1) rfl (by omega) (ih5 u hu _)))
   ·rintro z ⟨_, hz2⟩ y2
    exact hI5 _ y2 z (CondP.no (decide_eq_false (by omega)) ⟨rfl, hz2⟩)
  rw [hrn, hrl]
  refine CondP.mk (fun hb => ?_) fun hb => ?_
  ·rw [hN, if_pos (by rw [← hbad]; exact hb)] at go
   exact Ar.nat ((rowsA n al rel (n + 1)).length + 1) (by omega) (by omega) go
  ·rw [hN, if_neg (by rw [← hbad, hb]; simp), Nat.add_zero] at go
   exact go
theorem law_frame0 {H : Type} {enc : TypeId × Value → H} {C : Checked} {os : Os} {f : FuncId} {fn : Func} {s : ChangeSpec}
  (own : ownKnob C.prog.godebug = none) (started : os.Started) (noInit : C.prog.inits.idxOf? f = none) (hfn : C.prog.funcs[f]? = some fn)
  (witness : ∃ (w : World) (tape : Tape) (i : Input), w.os = os ∧ (w.forCall tape i).Shaped C.prog ∧ i.vars = [] ∧ Input.okWide C.prog (w.forCall tape i) .any w.heap.size f i ∧
   ((s.pre enc C.prog fn [] false (w.forCall tape i).memory i.args ∧ True) ∧ sizedMet enc C.prog fn (OpenSpec.ofChange s) false (w.forCall tape i).memory i.args) ∧ ({} : Assume).holds C.prog (lone (Frame.enter C.prog f i.args .normal) [] (w.forCall tape i)))
  (contract : ∀ (W : World) (base : Nat) (args : Array Value) (ds gs : List (DataW H)) (before : List MemPlace),
   (∀ (j : Nat) t v, fn.params[j]? = some t → args[j]? = some v → Value.okWide C.prog W .any base t v) →
   DataW.Whole enc C.prog fn.params.toList s.vars false W args.toList ds gs before →
   (DataW.weightsEach C.prog (fn.params.toList ++ s.plain.varTypes C.prog) (ds ++ gs)).all (· ≤ reachBytes) = true →
   W.ShapedOpen C.prog →
   Calls C.prog f args W fun e W' => ∃ v, e = .returned v ∧ s.post enc C.prog fn false true false false W args v W') :
  ReturnsInHanded {} C os f .any (fun w args => s.pre enc C.prog fn [] false w args ∧ sizedMet enc C.prog fn (OpenSpec.ofChange s) false w args) (s.post enc C.prog fn false true false false) := by
 have witness' : ∃ (w : World) (tape : Tape) (i : Input), w.os = os ∧ (w.forCall tape i).Shaped C.prog ∧ i.vars = [] ∧ Input.okWide C.prog (w.forCall tape i) .any w.heap.size f i ∧
   (s.pre enc C.prog fn [] false (w.forCall tape i).memory i.args ∧ sizedMet enc C.prog fn (OpenSpec.ofChange s) false (w.forCall tape i).memory i.args) ∧ ({} : Assume).holds C.prog (lone (Frame.enter C.prog f i.args .normal) [] (w.forCall tape i)) := by
  obtain ⟨w, tape, i, h1, h2, h3, h4, ⟨⟨h5, _⟩, h6⟩, h7⟩ := witness
  exact ⟨w, tape, i, h1, h2, h3, h4, ⟨h5, h6⟩, h7⟩
 refine returnsInHanded_of_calls own started noInit witness' ?_
 intro w tape i _ hshape _ hok hpre _
 obtain ⟨_, _, _, fn', hfn', _, _, _, _, hval⟩ := hok
 obtain rfl : fn' = fn := Option.some.inj (hfn'.symm.trans hfn)
 obtain ⟨⟨ds, gs, before, hw, _⟩, hz⟩ := hpre
 refine (contract (w.forCall tape i) w.heap.size i.args ds gs before hval (DataW.Whole.of_heap (w' := w.forCall tape i) (by rfl) hw) (hz.weights hw) hshape).mono ?_
 rintro e W' ⟨v, rfl, hp⟩
 exact ChangeSpec.post_blind hp
end Go.Proofs.YtboemnagahmlkaaGreat.Eng
