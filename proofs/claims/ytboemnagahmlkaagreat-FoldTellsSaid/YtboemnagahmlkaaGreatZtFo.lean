/- Words as texts, and things put together, walked by the engine. -/
import Derived.Test.YtboemnagahmlkaaGreatZtGg
import Derived.Test.YtboemnagahmlkaaGreatZtLib
set_option linter.unusedVariables false
set_option linter.unusedSimpArgs false
set_option maxRecDepth 100000
namespace Go.Proofs.YtboemnagahmlkaaGreat.Eng
open Go Go.RowKit
theorem wrap_u8 (z : Nat) : IntKind.wrap .u8 (z : Int) = (((UInt8.ofNat z).toNat : Nat) : Int) := by
  rw [UInt8.toNat_ofNat']
  unfold IntKind.wrap
  rw [if_neg (by rw [show IntKind.u8.signed = false from rfl, Bool.false_and]; exact Bool.false_ne_true)]
  rfl
theorem text_spec (w : World) (A : Option Addr) (C : Nat) (l : List Nat) (hr : Rw encU64 1 w A (l.map fun x : Nat => (x : Int))) (hl : l.length ≤ 1000) :
    Calls Tryz.prog 73 #[.slice A l.length C] w fun e w' => e = .returned (.string (str (wTextOf l))) ∧ Below w.heap.size w w' := by
  refine calls_ret (vc73_calls A l.length C w (fun u w' => u = .string (str (wTextOf l)) ∧ Below w.heap.size w w') ?_) (by rintro v w' ⟨rfl, h⟩; exact ⟨rfl, h⟩)
  intro I hI
  have key := climb2 (α := Sl × World) l.length (fun i y => y.2.ownsRow w.heap.size tU8 1 y.1.v y.1.n ((wTextOf (l.take i)).flatMap encU8) ∧ y.1.n = 8 * i ∧ Below w.heap.size w y.2) (fun i y => I [.int .i64 (i : Int), y.1.v] y.2) (sl0, w) ⟨own_none _ _ _ _ encU8, rfl, Below.refl _ _⟩ ?_ ?_
  · exact key
  · rintro i hi ih ⟨f, q⟩ ⟨hown, hn, hB⟩
    change q.ownsRow w.heap.size tU8 1 f.v f.n _ at hown
    change f.n = 8 * i at hn
    change Below w.heap.size w q at hB
    obtain ⟨p, hp, c0⟩ := cell_rw (hr.on hB) (show i < (l.map fun x : Nat => (x : Int)).length by simpa using hi) (v := .int .u64 ((l[i] : Nat) : Int)) (by simp [encU64])
    refine hI _ f.a f.n f.c q (CondP.yes (decide_eq_true (by omega)) (NilC.mk p hp ⟨by omega, by omega, _, c0, ?_⟩))
    intro I2 hI2
    have key2 := climb2 (α := Sl × World) 8 (fun j y => y.2.ownsRow w.heap.size tU8 1 y.1.v y.1.n ((wTextOf (l.take i) ++ (List.range j).map (byteOf l[i])).flatMap encU8) ∧ y.1.n = 8 * i + j ∧ Below w.heap.size w y.2) (fun j y => I2 [.int .i64 ((8 * j : Nat) : Int), y.1.v] y.2) (f, q) ⟨by simpa using hown, hn, hB⟩ ?_ ?_
    · exact key2
    · rintro j hj ih2 ⟨g, z⟩ ⟨hg, hgn, hBz⟩
      change z.ownsRow w.heap.size tU8 1 g.v g.n _ at hg
      change g.n = 8 * i + j at hgn
      change Below w.heap.size w z at hBz
      refine hI2 _ g.a g.n g.c z (CondP.yes (decide_eq_true (by omega)) ⟨by omega, ?_⟩)
      intro w3 hw3
      rw [sh_k _ _ (by omega), wrap_u8] at hw3
      obtain ⟨g', w4, e1, e2, e3, e4, _⟩ := elU8.push hg (byteOf l[i] j) hw3 rfl hBz.size (by omega) (by decide)
      refine ⟨g'.a, g'.n, g'.c, w4, e2, Ar.nat (8 * (j + 1)) (by omega) (by omega) (ih2 (g', w4) ⟨?_, by show g'.n = 8 * i + (j + 1); omega, e4 _ hBz⟩)⟩
      rw [List.range_succ, List.map_append, ← List.append_assoc]
      exact e3
    · rintro ⟨g, z⟩ ⟨hg, hgn, hBz⟩
      change z.ownsRow w.heap.size tU8 1 g.v g.n _ at hg
      change g.n = 8 * i + 8 at hgn
      refine hI2 _ g.a g.n g.c z (CondP.no rfl (Ar.nat (i + 1) rfl (by omega) (ih (g, z) ⟨?_, by show g.n = 8 * (i + 1); omega, hBz⟩)))
      have e : wTextOf (l.take (i + 1)) = wTextOf (l.take i) ++ (List.range 8).map (byteOf l[i]) := by
        rw [List.take_add_one, List.getElem?_eq_getElem hi]
        simp only [wTextOf, List.flatMap_append, Option.toList, List.flatMap_cons, List.flatMap_nil, List.append_nil]
        rfl
      rw [e]
      exact hg
  · rintro ⟨f, q⟩ ⟨hown, hn, hB⟩
    change q.ownsRow w.heap.size tU8 1 f.v f.n _ at hown
    rw [List.take_length] at hown
    exact hI _ f.a f.n f.c q (CondP.no (decide_eq_false (by omega)) ⟨_, q, run_str_own (P := Tryz.prog) undBytes undU8 undStr (by rw [← u8_cells]; exact hown), rfl, hB⟩)

/-! ### Groups -/
abbrev tGr : TypeId := 113
theorem pushI {B : Nat} {w2 w3 : World} {s : Sl} {xs : List Int} (hown : w2.ownsRow B tInt 1 s.v s.n (xs.flatMap encInt)) (x : Int) (hw : w3 = w2.alloc (.cells #[.int .i64 x] tInt)) (hB : B ≤ w2.heap.size) (hn : s.n ≤ 1000000) :
    ∃ (l : Sl) (w4 : World), l.n = s.n + 1 ∧ (Builtin.append_ #[tInts, tInts] tInts #[.slice s.a s.n s.c, .slice (some (nb w2)) 1 1]).run Tryz.prog w3 = .ok (.slice l.a l.n l.c) w4 ∧ w4.ownsRow B tInt 1 l.v l.n ((xs ++ [x]).flatMap encInt) ∧ (∀ w0, Below B w0 w2 → Below B w0 w4) ∧ (∀ k, k < w2.heap.size → s.v.ownBlock ≠ some k → w4.heap[k]? = w2.heap[k]?) ∧ ∀ k, l.v.ownBlock = some k → s.v.ownBlock = some k ∨ w2.heap.size ≤ k := by
  have hba := below_alloc w2 (.cells #[.int .i64 x] tInt)
  have hb3 : Below w2.heap.size w2 w3 := by subst hw; exact hba
  have hl : LsAt encInt 1 w3 ⟨some (nb w2), 1, 1⟩ [x] := ⟨rfl, intsAt w2 w3 [x] _ rfl hw, .inr ⟨_, rfl⟩⟩
  obtain ⟨l, w4, h1, h2, h3, h4, h5, h6⟩ := elInt.spread (own_on hown hb3) hl (Nat.le_trans hB hb3.size) (by omega) (show 1 ≤ 1000000000 by decide) (by decide)
  refine ⟨l, w4, h1, h2, h3, fun w0 h => h4 w0 (h.trans (hb3.mono hB)), fun k hk hne => (h5 k (Nat.lt_of_lt_of_le hk hb3.size) hne).trans (hb3.block k hk), fun k hk => ?_⟩
  rcases h6 k hk with h | h
  · exact .inl h
  · exact .inr (Nat.le_trans hb3.size h)
def gkm (k : Nat → Bs) (i : Nat) : List (Bs × Value) := (firsts k i).zipIdx.map fun x => (k x.1, .int .i64 (x.2 : Int))
theorem look_gkm (k : Nat → Bs) (i : Nat) : look (k i) (gkm k i) = ((firsts k i).findIdx? fun a => decide (k a = k i)).map fun c : Nat => Value.int .i64 (c : Int) := by
  have := look_zipf k (k i) (firsts k i) 0
  simp only [Nat.zero_add] at this
  rw [show look (k i) (gkm k i) = _ from this]
  congr 1
  rw [List.idxOf?, List.findIdx?_map]
  congr 1
  funext a
  show (k a == k i) = _
  by_cases h : k a = k i
  · simp [h]
  · simp [h]
theorem ints_snoc (l : List Nat) (x : Nat) : ((l ++ [x]).map fun i : Nat => (i : Int)) = (l.map fun i : Nat => (i : Int)) ++ [(x : Int)] := by simp
theorem gkm_new {k : Nat → Bs} {i : Nat} (h : firsts k (i + 1) = firsts k i ++ [i]) : gkm k (i + 1) = gkm k i ++ [(k i, .int .i64 (((firsts k i).length : Nat) : Int))] := by
  unfold gkm
  rw [h, List.zipIdx_append, List.map_append]
  simp
def GroupR (w : World) (k : Nat → Bs) (n : Nat) (of fi : Sl) (w' : World) : Prop := w'.ownsRow w.heap.size tInt 1 of.v of.n (((List.range n).map fun i => ((clsOf k i : Nat) : Int)).flatMap encInt) ∧ w'.ownsRow w.heap.size tInt 1 fi.v fi.n (((firsts k n).map fun i : Nat => (i : Int)).flatMap encInt) ∧ Below w.heap.size w w'
set_option maxHeartbeats 1000000 in
theorem group_spec (w : World) (n : Nat) (key : Value) (k : Nat → Bs) (hn : n ≤ 10000) (his : ∀ i, i < n → ∀ w1, Below w.heap.size w w1 → CallG ctx key [.int .i64 (i : Int)] w1 (fun e w2 => e = .returned (.string (str (k i))) ∧ Below w1.heap.size w1 w2)) :
    Calls Tryz.prog 71 #[.int .i64 (n : Int), key] w fun e w' => ∃ of fi : Sl, e = .returned (.agg #[of.v, fi.v]) ∧ GroupR w k n of fi w' := by
  refine calls_ret (vc71_calls n key w (fun u w' => ∃ of fi : Sl, u = .agg #[of.v, fi.v] ∧ GroupR w k n of fi w') ?_) (by rintro v w' ⟨of, fi, rfl, h⟩; exact ⟨of, fi, rfl, h⟩)
  intro w1 hw1 w2 hw2
  have b1 : Below w.heap.size w w1 := by subst hw1; exact below_alloc _ _
  have b2 : Below w1.heap.size w1 w2 := by subst hw2; exact below_alloc _ _
  have l0 : w2.heap[w.heap.size]? = some (.cells #[sl0.v, sl0.v] tGr (0, 0)) := held_on b2 (by subst hw1; exact alloc_new _ _)
  have l1 : w2.heap[w1.heap.size]? = some (.cells #[sl0.v, sl0.v] tGr (0, 0)) := by subst hw2; exact alloc_new _ _
  have lt0 : w.heap.size < w1.heap.size := by subst hw1; rw [alloc_size]; omega
  have lt1 : w1.heap.size < w2.heap.size := (Array.getElem?_eq_some_iff.1 l1).1
  have hb2 := below_then b1 b2
  refine ⟨_, _, run_make _, ?_⟩
  have b3 := below_alloc w2 (.map #[] 0)
  have m3 : MapIs strKey (w2.alloc (.map #[] 0)) w2.heap.size (gkm k 0) := map_new w2
  obtain ⟨w3, hw3⟩ : ∃ w3, w3 = w2.alloc (.map #[] 0) := ⟨_, rfl⟩
  rw [← hw3] at b3 m3
  rw [← hw3]
  intro I hI
  let Inv (i : Nat) (q : World) : Prop := ∃ of fi : Sl, q.heap[w1.heap.size]? = some (.cells #[of.v, fi.v] tGr (0, 0)) ∧ q.heap[w.heap.size]? = some (.cells #[sl0.v, sl0.v] tGr (0, 0)) ∧ q.ownsRow w.heap.size tInt 1 of.v of.n (((List.range i).map fun i => ((clsOf k i : Nat) : Int)).flatMap encInt) ∧ q.ownsRow w.heap.size tInt 1 fi.v fi.n (((firsts k i).map fun i : Nat => (i : Int)).flatMap encInt) ∧ (∀ j, of.v.ownBlock = some j → fi.v.ownBlock ≠ some j) ∧ MapIs strKey q w2.heap.size (gkm k i) ∧ Below w.heap.size w q
  have key := climb2 (α := World) n Inv (fun i q => I [.int .i64 (i : Int)] q) w3 ⟨sl0, sl0, held_on b3 l1, held_on b3 l0, own_none _ _ _ _ encInt, own_none _ _ _ _ encInt, fun j hj => (by cases hj), m3, below_then hb2 b3⟩ ?_ ?_
  · exact key
  · rintro i hi ih q ⟨of, fi, g1, g0, oof, ofi, hd, hm, hB⟩
    refine hI _ _ (CondP.yes (decide_eq_true (by omega)) ((his i hi q hB).mono ?_))
    rintro e w5 ⟨rfl, b5⟩
    have hB5 := below_then hB b5
    have g1' := held_on b5 g1
    have g0' := held_on b5 g0
    have oof' := own_on oof b5
    have ofi' := own_on ofi b5
    have hm5 := hm.on b5
    have hof := (LsAt.of_own elInt oof').n
    have hfi := (LsAt.of_own elInt ofi').n
    rw [List.length_map, List.length_range] at hof
    rw [List.length_map] at hfi
    have hfl : (firsts k i).length ≤ i := by
      have : ∀ i, (firsts k i).length ≤ i := by
        intro i
        induction i with
        | zero => exact Nat.le_refl _
        | succ i ih =>
          have h1 := cls_next (k := k) i
          omega
      exact this i
    have hl := run_look keysB undMapB zeroInt hm5 (k i)
    rw [look_gkm] at hl
    refine ⟨_, rfl, ?_⟩
    have next : ∀ (z : World) (fi' : Sl) (J : List Value → World → Prop), (∀ (c : Int) (w7 : World), (∃ lA : Option Addr, ∃ lN : Nat, ∃ lC : Nat, w7.cell? ((nb w1).add 0) = some (Value.slice lA lN lC) ∧
         ∀ w8 : World, w8 = w7.alloc (.cells #[Value.int .i64 c] tInt) →
         ∃ lA_3 : Option Addr, ∃ lN_4 : Nat, ∃ lC_5 : Nat, ∃ w9 : World, (Builtin.append_ #[tInts, tInts] tInts #[Value.slice lA lN lC, Value.slice (some (nb w7)) 1 1]).run Tryz.prog w8 = .ok (Value.slice lA_3 lN_4 lC_5) w9 ∧
         (Value.slice lA_3 lN_4 lC_5).oneCell' = true ∧ (∃ u, w9.cell? ((nb w1).add 0) = some u) ∧ w9.frozen? ((nb w1).add 0) = false ∧
         ∀ w10 : World, w10 = (w9.setCell ((nb w1).add 0) (Value.slice lA_3 lN_4 lC_5)) →
         Ar .i64 ((i : Int) + 1) (fun n_6 =>
         I [Value.int .i64 n_6] w10)) → J [Value.int .i64 c] w7) →
        z.heap[w1.heap.size]? = some (.cells #[of.v, fi'.v] tGr (0, 0)) → z.heap[w.heap.size]? = some (.cells #[sl0.v, sl0.v] tGr (0, 0)) → z.ownsRow w.heap.size tInt 1 of.v of.n (((List.range i).map fun i => ((clsOf k i : Nat) : Int)).flatMap encInt) → z.ownsRow w.heap.size tInt 1 fi'.v fi'.n (((firsts k (i + 1)).map fun i : Nat => (i : Int)).flatMap encInt) → (∀ j, of.v.ownBlock = some j → fi'.v.ownBlock ≠ some j) → MapIs strKey z w2.heap.size (gkm k (i + 1)) → Below w.heap.size w z → J [.int .i64 ((clsOf k i : Nat) : Int)] z := by
      intro z fi' J hJ z1 z0 zo zf zd zm zB
      refine hJ _ _ ⟨of.a, of.n, of.c, by rw [cell_put z1]; rfl, ?_⟩
      intro w8 hw8
      obtain ⟨of', w9, e1, e2, e3, e4, e5, e6⟩ := pushI zo ((clsOf k i : Nat) : Int) hw8 zB.size (by omega)
      have kp : ∀ {j : Nat} {o : Obj}, z.heap[j]? = some o → of.v.ownBlock ≠ some j → w9.heap[j]? = some o := fun {j o} h hne => (e5 j (Array.getElem?_eq_some_iff.1 h).1 hne).trans h
      have y1 := kp z1 (row_ne_blk zo z1 (by decide))
      have y0 := kp z0 (row_ne_blk zo z0 (by decide))
      have yf : w9.ownsRow w.heap.size tInt 1 fi'.v fi'.n _ := own_same zf fun j hj => e5 j (own_lt zf j hj).2 fun h => zd j h hj
      have ym := zm.same (e5 _ zm.lt (own_ne_map zo zm))
      refine ⟨of'.a, of'.n, of'.c, w9, e2, rfl, ⟨_, by rw [cell_put y1]; rfl⟩, frozen_put y1, ?_⟩
      intro w10 hw10
      have hs : ∀ j, j ≠ w1.heap.size → w10.heap[j]? = w9.heap[j]? := by
        intro j hj
        subst hw10
        exact heap_setCell_ne (by rw [add_block]; exact hj)
      refine Ar.nat (i + 1) rfl (by omega) (ih w10 ⟨of', fi', by subst hw10; exact heap_put y1 _, (hs _ (by omega)).trans y0, ?_, own_same yf fun j hj => hs j fun e => row_ne_blk yf y1 (by decide) (by rw [hj, e]), ?_, ym.same (hs _ (by omega)), ?_⟩)
      · rw [List.range_succ, List.map_append]
        exact own_same e3 fun j hj => hs j fun e => row_ne_blk e3 y1 (by decide) (by rw [hj, e])
      · intro j hj hf
        rcases e6 j hj with h | h
        · exact zd j h hf
        · have := (own_lt zf j hf).2
          omega
      · subst hw10
        exact below_put (e4 _ zB) (by omega) _
    rcases firsts_step (k := k) i with ⟨c, hc, h2, h3, _⟩ | ⟨hc, h2, h3, _⟩
    · rw [hc] at hl
      refine ⟨_, _, w5, hl, ?_⟩
      intro J hJ
      refine CondP.no rfl ?_
      have := next w5 fi J hJ g1' g0' oof' (by rw [h2]; exact ofi') hd (by rw [show gkm k (i + 1) = gkm k i by unfold gkm; rw [h2]]; exact hm5) hB5
      rw [h3] at this
      exact this
    · rw [hc] at hl
      refine ⟨_, _, w5, hl, ?_⟩
      intro J hJ
      refine CondP.yes rfl ⟨fi.a, fi.n, fi.c, by rw [cell_put g1']; rfl, ?_⟩
      obtain ⟨w11, hr, hm11, hs11, hz11, hB11⟩ := run_put_new keysB undMapB hm5 (k i) (.int .i64 ((fi.n : Nat) : Int)) (by rw [look_gkm, hc]; rfl)
      have a1 := (hs11 w1.heap.size (by omega)).trans g1'
      have a0 := (hs11 w.heap.size (by omega)).trans g0'
      have ao := own_same oof' fun j hj => hs11 j fun e => own_ne_map oof' hm5 (by rw [hj, e])
      have af := own_same ofi' fun j hj => hs11 j fun e => own_ne_map ofi' hm5 (by rw [hj, e])
      have aB : Below w.heap.size w w11 := hB11 _ _ (by omega) hB5
      refine ⟨w11, hr, fi.a, fi.n, fi.c, by rw [cell_put a1]; rfl, ?_⟩
      intro w12 hw12
      obtain ⟨fi', w13, e1, e2, e3, e4, e5, e6⟩ := pushI af (i : Int) hw12 aB.size (by omega)
      have kp : ∀ {j : Nat} {o : Obj}, w11.heap[j]? = some o → fi.v.ownBlock ≠ some j → w13.heap[j]? = some o := fun {j o} h hne => (e5 j (Array.getElem?_eq_some_iff.1 h).1 hne).trans h
      have y1 := kp a1 (row_ne_blk af a1 (by decide))
      have y0 := kp a0 (row_ne_blk af a0 (by decide))
      have yo : w13.ownsRow w.heap.size tInt 1 of.v of.n _ := own_same ao fun j hj => e5 j (own_lt ao j hj).2 (hd j hj)
      have ym := hm11.same (e5 _ hm11.lt (own_ne_map af hm11))
      refine ⟨fi'.a, fi'.n, fi'.c, w13, e2, rfl, ⟨_, by rw [cell_put y1]; rfl⟩, frozen_put y1, ?_⟩
      intro w14 hw14
      have hs : ∀ j, j ≠ w1.heap.size → w14.heap[j]? = w13.heap[j]? := by
        intro j hj
        subst hw14
        exact heap_setCell_ne (by rw [add_block]; exact hj)
      have := next w14 fi' J hJ (by subst hw14; exact heap_put y1 _) ((hs _ (by omega)).trans y0) (own_same yo fun j hj => hs j fun e => row_ne_blk yo y1 (by decide) (by rw [hj, e])) (by rw [h2, ints_snoc]; exact own_same e3 fun j hj => hs j fun e => row_ne_blk e3 y1 (by decide) (by rw [hj, e])) (fun j hj hf => by
        rcases e6 j hf with h | h
        · exact hd j hj h
        · have := (own_lt ao j hj).2
          omega) (by rw [gkm_new h2, ← hfi]; exact ym.same (hs _ (by omega))) (by subst hw14; exact below_put (e4 _ aB) (by omega) _)
      rw [h3, ← hfi] at this
      exact this
  · rintro q ⟨of, fi, g1, g0, oof, ofi, hd, hm, hB⟩
    refine hI _ _ (CondP.no (decide_eq_false (by omega)) ⟨of.a, of.n, of.c, fi.a, fi.n, fi.c, ⟨cell_heap g1, by rw [cell_put g1]; rfl, trivial⟩, ?_⟩)
    refine storeP_cells g0 [of.v, fi.v] rfl (by intro v hv; simp only [List.mem_cons, List.not_mem_nil, or_false] at hv; rcases hv with rfl | rfl <;> rfl) ?_
    intro w15 h15 hs hz hB'
    refine ⟨of.a, of.n, of.c, fi.a, fi.n, fi.c, ⟨cell_heap h15, by rw [cell_put h15]; rfl, trivial⟩, of, fi, rfl, ?_, ?_, hB' _ _ (Nat.le_refl _) hB⟩
    · exact own_same oof fun j hj => hs j fun e => row_ne_blk oof g0 (by decide) (by rw [hj, e])
    · exact own_same ofi fun j hj => hs j fun e => row_ne_blk ofi g0 (by decide) (by rw [hj, e])
end Go.Proofs.YtboemnagahmlkaaGreat.Eng

/- The fold's keys, walked by the engine. -/
set_option linter.unusedVariables false
set_option linter.unusedSimpArgs false
set_option maxRecDepth 100000
namespace Go.Proofs.YtboemnagahmlkaaGreat.Eng
open Go Go.RowKit
def gN (s : SpecV) (T : List Ent) : Nat := (gids s T).length
def rowK (s : SpecV) (T : List Ent) (i : Nat) : Bs := rowText (gN s T) (relB s T i)
def colK (s : SpecV) (T : List Ent) (i : Nat) : Bs := (if alB s T i then 1 else 0) :: (firsts (rowK s T) (gN s T)).map fun a => if relB s T a i then 1 else 0
/-- Numbers rise. -/
abbrev RiseG (s : SpecV) (T : List Ent) : Prop := (gids s T).Pairwise (· < ·)
theorem plc_at {s : SpecV} {T : List Ent} (hr : RiseG s T) {i : Nat} (hi : i < gN s T) : plc s T ((gids s T).getD i 0) = some i := by
  unfold plc
  rw [getD_of hi]
  refine List.findIdx?_eq_some_iff_getElem.2 ⟨hi, by simp, fun j hj => ?_⟩
  have := List.pairwise_iff_getElem.1 hr j i (by unfold gN at hi; omega) hi hj
  simp
  omega
theorem has_at {s : SpecV} {T : List Ent} {i : Nat} (hi : i < gN s T) : hasV2 s T ((gids s T).getD i 0) = true := (gids_has s T _).1 (by rw [getD_of hi]; exact List.getElem_mem hi)
theorem gHas_at {s : SpecV} {T : List Ent} {a i : Nat} (ha : a < gN s T) (hi : i < gN s T) : gHas s T ((gids s T).getD a 0) ((gids s T).getD i 0) = relB s T a i := by
  unfold gHas relB
  rw [has_at ha, has_at hi, Bool.true_and, Bool.true_and]
theorem gAl_at {s : SpecV} {T : List Ent} {i : Nat} (hi : i < gN s T) : gAl s T ((gids s T).getD i 0) = alB s T i := by
  unfold gAl alB
  rw [has_at hi, Bool.true_and]
theorem gId_at (w : World) (g : Nat) (s : SpecV) (T : List Ent) (h : GrIs w g s T) (i : Nat) (hi : i < gN s T) :
    Calls Tryz.prog 25 #[.pointer (some ⟨g, 0, none⟩), .int .i64 (i : Int)] w fun e w' => e = .returned (.tuple #[.int .i64 ((gids s T).getD i 0), .bool true]) ∧ w' = w := by
  refine (gId_spec w g s T h i).mono ?_
  rintro e w1 ⟨rfl, hw⟩
  refine ⟨?_, hw⟩
  rw [if_pos ⟨by omega, by unfold gN at hi; omega⟩]
  rfl
theorem key1_spec (w : World) (cb g : Nat) {ec : TypeId} (s : SpecV) (T : List Ent) (h : GrIs w g s T) (hn : gN s T ≤ 1032) (hr : RiseG s T) (hc : w.heap[cb]? = some (.cells #[.pointer (some ⟨g, 0, none⟩)] ec (0, 0))) (i : Nat) (hi : i < gN s T) :
    Calls Tryz.prog 72 #[.int .i64 (i : Int), .pointer (some ⟨cb, 0, none⟩)] w fun e w' => e = .returned (.string (str (rowK s T i))) ∧ Below w.heap.size w w' := by
  refine calls_ret (vc72_calls i (some ⟨cb, 0, none⟩) w (fun u w' => u = .string (str (rowK s T i)) ∧ Below w.heap.size w w') ?_) (by rintro v w' ⟨rfl, h⟩; exact ⟨rfl, h⟩)
  refine NilC.mk _ rfl ⟨_, cell1 hc, (gId_at w g s T h i hi).mono ?_⟩
  rintro e w1 ⟨rfl, rfl⟩
  refine ⟨_, _, rfl, NilC.mk _ rfl ⟨_, cell1 hc, (gRow_spec w1 g s T h hn _).mono ?_⟩⟩
  rintro e w2 ⟨b2, hrow⟩
  rcases hrow with ⟨hno, _⟩ | ⟨k, l, hk, rfl, ho⟩
  · rw [plc_at hr hi] at hno; cases hno
  rw [plc_at hr hi] at hk
  cases hk
  have hls := LsAt.of_own elU64 ho
  have hln := hls.n
  obtain ⟨L, hL⟩ : ∃ L : List Nat, L = (List.range ((gN s T + 63) / 64)).map (wordAt (gN s T) (relB s T i)) := ⟨_, rfl⟩
  have hw : wordsOf (gids s T).length (relB s T i) = L.map fun x : Nat => (x : Int) := by rw [hL, List.map_map]; rfl
  rw [hw, List.length_map] at hln
  have ht := text_spec w2 l.a l.c L (by rw [← hw]; exact hls.r) (by rw [hL]; simp; omega)
  rw [← hln] at ht
  refine ⟨l.a, l.n, l.c, rfl, ht.mono ?_⟩
  rintro e w3 ⟨rfl, b3⟩
  refine ⟨_, rfl, ?_, below_then b2 b3⟩
  rw [hL]
  rfl
abbrev tFold : TypeId := 115
theorem column_spec (w : World) (f g : Nat) (s : SpecV) (T : List Ent) (h : GrIs w g s T) (hn : gN s T ≤ 1032) (c : Array Value) (hb : w.heap[f]? = some (.cells c tFold (0, 0))) (rfi : Sl) (c0 : c[0]? = some (.pointer (some ⟨g, 0, none⟩))) (c2 : c[2]? = some rfi.v) (hf : w.ownsRow 0 tInt 1 rfi.v rfi.n (((firsts (rowK s T) (gN s T)).map fun i : Nat => (i : Int)).flatMap encInt)) (i : Nat) (hi : i < gN s T) :
    Calls Tryz.prog 74 #[.pointer (some ⟨f, 0, none⟩), .int .i64 (i : Int)] w fun e w' => e = .returned (.string (str (colK s T i))) ∧ Below w.heap.size w w' := by
  refine calls_ret (vc74_calls (some ⟨f, 0, none⟩) i w (fun u w' => u = .string (str (colK s T i)) ∧ Below w.heap.size w w') ?_) (by rintro v w' ⟨rfl, h⟩; exact ⟨rfl, h⟩)
  refine NilC.mk _ rfl ⟨_, by rw [cell_put hb]; exact c0, (gId_at w g s T h i hi).mono ?_⟩
  rintro e w1 ⟨rfl, rfl⟩
  refine ⟨_, _, rfl, ?_⟩
  intro w2 hw2
  have b2 : Below w1.heap.size w1 w2 := by subst hw2; exact below_alloc _ _
  have o2 : w2.ownsRow w1.heap.size tU8 1 (.slice (some (nb w1)) 1 1) 1 (([0] : List UInt8).flatMap encU8) := by subst hw2; exact own_made [.int .u8 0] rfl (by decide) (Nat.le_refl _)
  have hfl : (firsts (rowK s T) (gN s T)).length ≤ 1032 := by
    have : ∀ i, (firsts (rowK s T) i).length ≤ i := by
      intro i
      induction i with
      | zero => exact Nat.le_refl _
      | succ i ih =>
        have h1 := cls_next (k := rowK s T) i
        omega
    have := this (gN s T)
    omega
  intro J hJ
  have rest : ∀ z : World, Below w1.heap.size w1 z → z.ownsRow w1.heap.size tU8 1 (.slice (some (nb w1)) 1 1) 1 (([if alB s T i then 1 else 0] : List UInt8).flatMap encU8) → J [] z := by
    intro z hz oz
    have hbz := held_on hz hb
    refine hJ _ (NilC.mk _ rfl ⟨rfi.a, rfi.n, rfi.c, by rw [add_lit, add_lit, cell_heap hbz]; exact c2, ?_⟩)
    intro I hI
    have hfz := own_on hf hz
    have hfn := (LsAt.of_own elInt hfz).n
    rw [List.length_map] at hfn
    have key := climb2 (α := Sl × World) (firsts (rowK s T) (gN s T)).length (fun j y => y.2.ownsRow w1.heap.size tU8 1 y.1.v y.1.n ((((if alB s T i then 1 else 0) :: ((firsts (rowK s T) (gN s T)).take j).map fun a => if relB s T a i then 1 else 0 : List UInt8)).flatMap encU8) ∧ y.1.n = j + 1 ∧ Below w1.heap.size w1 y.2) (fun j y => I [.int .i64 (j : Int), y.1.v] y.2) (⟨some (nb w1), 1, 1⟩, z) ⟨oz, rfl, hz⟩ ?_ ?_
    · exact key
    · rintro j hj ih ⟨b, q⟩ ⟨hown, hbn, hB⟩
      change q.ownsRow w1.heap.size tU8 1 b.v b.n _ at hown
      change b.n = j + 1 at hbn
      change Below w1.heap.size w1 q at hB
      refine hI _ b.a b.n b.c q (CondP.yes (decide_eq_true (by omega)) ?_)
      intro J4 hJ4
      have hfq := LsAt.of_own elInt (own_on hf hB)
      have hbq := held_on hB hb
      have hGq := h.on hB
      obtain ⟨p, hp, cc⟩ := cell_rw hfq.r (show j < ((firsts (rowK s T) (gN s T)).map fun i : Nat => (i : Int)).length by simpa using hj) (v := .int .i64 (((firsts (rowK s T) (gN s T))[j] : Nat) : Int)) (by simp [encInt])
      have ha := firsts_lt (List.getElem_mem hj)
      refine NilC.mk p hp ⟨by omega, by omega, _, cc, NilC.mk _ rfl ⟨_, by rw [cell_put hbq]; exact c0, (gId_at q g s T hGq _ ha).mono ?_⟩⟩
      rintro e q1 ⟨rfl, rfl⟩
      refine ⟨_, _, rfl, NilC.mk _ rfl ⟨_, by rw [cell_put hbq]; exact c0, (gHas_spec q1 g s T hGq hn _ _).mono ?_⟩⟩
      rintro e q2 ⟨rfl, rfl⟩
      rw [gHas_at ha hi]
      have fin : ∀ (x : UInt8) (q3 : World), x = (if relB s T (firsts (rowK s T) (gN s T))[j] i then 1 else 0) → q3 = q2.alloc (.cells #[.int .u8 ((x.toNat : Nat) : Int)] tU8) → ∃ lA : Option Addr, ∃ lN : Nat, ∃ lC : Nat, ∃ w9 : World, (Builtin.append_ #[tBytes, tBytes] tBytes #[Value.slice b.a b.n b.c, Value.slice (some (nb q2)) 1 1]).run Tryz.prog q3 = .ok (Value.slice lA lN lC) w9 ∧ J4 [Value.slice lA lN lC] w9 := by
        intro x q3 hx hq3
        obtain ⟨b', w9, e1, e2, e3, e4, _⟩ := elU8.push hown x hq3 rfl hB.size (by omega) (by decide)
        refine ⟨b'.a, b'.n, b'.c, w9, e2, hJ4 _ _ _ _ (Ar.nat (j + 1) rfl (by omega) (ih (b', w9) ⟨?_, by show b'.n = j + 1 + 1; omega, e4 _ hB⟩))⟩
        rw [List.take_add_one, List.getElem?_eq_getElem hj, List.map_append]
        show w9.ownsRow w1.heap.size tU8 1 b'.v b'.n ((((if alB s T i then 1 else 0) :: ((firsts (rowK s T) (gN s T)).take j).map fun a => if relB s T a i then 1 else 0 : List UInt8) ++ [if relB s T (firsts (rowK s T) (gN s T))[j] i then 1 else 0]).flatMap encU8)
        rw [← hx]
        exact e3
      refine ⟨_, rfl, CondP.mk (fun ht => ?_) fun ht => ?_⟩
      · intro w8 hw8
        exact fin 1 w8 (by rw [ht]; rfl) hw8
      · intro w8 hw8
        exact fin 0 w8 (by rw [ht]; rfl) hw8
    · rintro ⟨b, q⟩ ⟨hown, hbn, hB⟩
      change q.ownsRow w1.heap.size tU8 1 b.v b.n _ at hown
      change Below w1.heap.size w1 q at hB
      rw [List.take_length] at hown
      exact hI _ b.a b.n b.c q (CondP.no (decide_eq_false (by omega)) ⟨_, q, run_str_own (P := Tryz.prog) undBytes undU8 undStr (by rw [← u8_cells]; exact hown), rfl, hB⟩)
  have hb2 := held_on b2 hb
  refine NilC.mk _ rfl ⟨_, by rw [cell_put hb2]; exact c0, (gAlone_spec w2 g s T (h.on b2) hn _).mono ?_⟩
  rintro e w13 ⟨rfl, rfl⟩
  rw [gAl_at hi]
  refine ⟨_, rfl, CondP.mk (fun ha => ⟨by decide, by decide, ?_⟩) fun ha => rest _ b2 (by rw [ha]; exact o2)⟩
  refine store_one (own_set (enc := encU8) (l := ⟨some (nb w1), 1, 1⟩) (fun _ => rfl) (by decide) (fun y u hu => by rw [List.mem_singleton.1 hu]; rfl) o2 rfl rfl 0 (by decide) (1 : UInt8) ?_)
  intro z oz _ _ hB
  exact rest z (hB _ _ (Nat.le_refl _) b2) (by rw [ha]; exact oz)
end Go.Proofs.YtboemnagahmlkaaGreat.Eng

/- The fold of a grid, walked by the engine. -/
set_option linter.unusedVariables false
set_option linter.unusedSimpArgs false
set_option maxRecDepth 100000
namespace Go.Proofs.YtboemnagahmlkaaGreat.Eng
open Go Go.RowKit
abbrev tBools : TypeId := 72
abbrev tBoolss : TypeId := 71
theorem undBls : Tryz.prog.underlying tBools = some (.slice tBool) := by kernel_rfl
theorem undBlss : Tryz.prog.underlying tBoolss = some (.slice tBools) := by kernel_rfl
theorem infoBl : (Tryz.prog.info? tBool).map (fun i => (i.zero, i.size, i.bytes)) = some (some (.bool false), 1, 1) := by kernel_rfl
theorem infoBls : (Tryz.prog.info? tBools).map (fun i => (i.zero, i.size, i.bytes)) = some (some (.slice none 0 0), 1, 24) := by kernel_rfl
theorem elBl : ElT encB1 1 tBools tBool 1 := ⟨fun _ => rfl, by decide, fun x u hu => by rw [List.mem_singleton.1 hu]; rfl, undBls, _, infoBl, rfl⟩
theorem elBls : ElT encS 1 tBoolss tBools 24 := ⟨fun _ => rfl, by decide, fun x u hu => by rw [List.mem_singleton.1 hu]; rfl, undBlss, _, infoBls, rfl⟩
def rowF (s : SpecV) (T : List Ent) : List Nat := firsts (rowK s T) (gN s T)
def colF (s : SpecV) (T : List Ent) : List Nat := firsts (colK s T) (gN s T)
def cints (l : List Nat) : List Value := (l.map fun i : Nat => (i : Int)).flatMap encInt
def clss (k : Nat → Bs) (n : Nat) : List Value := ((List.range n).map fun i => ((clsOf k i : Nat) : Int)).flatMap encInt
/-- The bits of one class of rows. -/
def bitsRow (s : SpecV) (T : List Ent) (a : Nat) : List Bool := (colF s T).map fun i => relB s T a i
structure FoldR (w : World) (B f g : Nat) (s : SpecV) (T : List Ent) (rof rfi cof cfi bits alone : Sl) (bl : List Sl) (m j : Nat) : Prop where
  blk : w.heap[f]? = some (.cells #[.pointer (some ⟨g, 0, none⟩), rof.v, rfi.v, cof.v, cfi.v, bits.v, alone.v] tFold (0, 0))
  grid : GrIs w g s T
  orof : w.ownsRow B tInt 1 rof.v rof.n (clss (rowK s T) (gN s T))
  orfi : w.ownsRow B tInt 1 rfi.v rfi.n (cints (rowF s T))
  ocof : w.ownsRow B tInt 1 cof.v cof.n (clss (colK s T) (gN s T))
  ocfi : w.ownsRow B tInt 1 cfi.v cfi.n (cints (colF s T))
  obits : w.ownsRow B tBools 1 bits.v bits.n (bl.flatMap encS)
  blen : bl.length = m
  each : ∀ (c : Nat) (r : Sl) (h : c < (rowF s T).length), bl[c]? = some r → w.ownsRow B tBool 1 r.v r.n ((bitsRow s T (rowF s T)[c]).flatMap encB1)
  oal : w.ownsRow B tBool 1 alone.v alone.n ((((colF s T).take j).map fun i => alB s T i).flatMap encB1)
def FoldIs (w : World) (f g : Nat) (s : SpecV) (T : List Ent) : Prop := ∃ rof rfi cof cfi bits alone bl, FoldR w 0 f g s T rof rfi cof cfi bits alone bl (rowF s T).length (colF s T).length
theorem FoldR.on {w w' : World} {B f g : Nat} {s : SpecV} {T : List Ent} {rof rfi cof cfi bits alone : Sl} {bl : List Sl} {m j : Nat} (h : FoldR w B f g s T rof rfi cof cfi bits alone bl m j) (hb : Below w.heap.size w w') : FoldR w' B f g s T rof rfi cof cfi bits alone bl m j :=
  ⟨held_on hb h.blk, h.grid.on hb, own_on h.orof hb, own_on h.orfi hb, own_on h.ocof hb, own_on h.ocfi hb, own_on h.obits hb, h.blen, fun c r hc hr => own_on (h.each c r hc hr) hb, own_on h.oal hb⟩
theorem FoldIs.on {w w' : World} {f g : Nat} {s : SpecV} {T : List Ent} (h : FoldIs w f g s T) (hb : Below w.heap.size w w') : FoldIs w' f g s T := by
  obtain ⟨rof, rfi, cof, cfi, bits, alone, bl, h⟩ := h
  exact ⟨rof, rfi, cof, cfi, bits, alone, bl, h.on hb⟩
theorem firsts_few (k : Nat → Bs) : ∀ i, (firsts k i).length ≤ i
  | 0 => Nat.le_refl _
  | i + 1 => by
    have h1 := cls_next (k := k) i
    have h2 := firsts_few k i
    omega
theorem cints_cell {w : World} {B : Nat} {l : Sl} {xs : List Nat} (h : w.ownsRow B tInt 1 l.v l.n (cints xs)) {i : Nat} (hi : i < xs.length) : l.n = xs.length ∧ ∃ p, l.a = some p ∧ w.cell? (p.add (i * 1)) = some (.int .i64 ((xs[i] : Nat) : Int)) := by
  have hls := LsAt.of_own elInt (B := B) (xs := xs.map fun i : Nat => (i : Int)) h
  obtain ⟨p, hp, c⟩ := cell_rw hls.r (show i < (xs.map fun i : Nat => (i : Int)).length by simpa using hi) (v := .int .i64 ((xs[i] : Nat) : Int)) (by simp [encInt])
  exact ⟨by simpa using hls.n, p, hp, c⟩
theorem cints_n {w : World} {B : Nat} {l : Sl} {xs : List Nat} (h : w.ownsRow B tInt 1 l.v l.n (cints xs)) : l.n = xs.length := by
  have hls := LsAt.of_own elInt (B := B) (xs := xs.map fun i : Nat => (i : Int)) h
  simpa using hls.n
set_option maxHeartbeats 4000000 in
theorem foldNew_spec (w : World) (g : Nat) (s : SpecV) (T : List Ent) (h : GrIs w g s T) (hn : gN s T ≤ 1032) (hr : RiseG s T) (hg : g < w.heap.size) :
    Calls Tryz.prog 37 #[.pointer (some ⟨g, 0, none⟩)] w fun e w' => ∃ f, e = .returned (.pointer (some ⟨f, 0, none⟩)) ∧ FoldIs w' f g s T ∧ Below w.heap.size w w' := by
  refine calls_ret (vc37_calls (some ⟨g, 0, none⟩) w (fun u w' => ∃ f, u = .pointer (some ⟨f, 0, none⟩) ∧ FoldIs w' f g s T ∧ Below w.heap.size w w') ?_) (by rintro v w' ⟨f, rfl, h⟩; exact ⟨f, rfl, h⟩)
  intro w1 hw1
  have b1 : Below w.heap.size w w1 := by subst hw1; exact below_alloc _ _
  have l1 : w1.heap[w.heap.size]? = some (.cells #[.pointer (some ⟨g, 0, none⟩)] 48 (0, 0)) := by subst hw1; exact alloc_new _ _
  have s1 : w.heap.size < w1.heap.size := (Array.getElem?_eq_some_iff.1 l1).1
  refine ⟨_, cell1 l1, CondP.no rfl ⟨_, cell1 l1, ?_⟩⟩
  intro w2 hw2
  have b2 : Below w1.heap.size w1 w2 := by subst hw2; exact below_alloc _ _
  have f2 : w2.heap[w1.heap.size]? = some (.cells #[.pointer (some ⟨g, 0, none⟩), sl0.v, sl0.v, sl0.v, sl0.v, sl0.v, sl0.v] tFold (0, 0)) := by subst hw2; exact alloc_new _ _
  have l2 := held_on b2 l1
  have s2 : w1.heap.size < w2.heap.size := (Array.getElem?_eq_some_iff.1 f2).1
  have hb2 := below_then b1 b2
  have h2 := h.on hb2
  refine ⟨_, cell1 l2, (gSize_spec w2 g s T h2).mono ?_⟩
  rintro e w3 ⟨rfl, rfl⟩
  refine ⟨_, rfl, (group_spec w3 (gN s T) _ (rowK s T) (by omega) fun i hi q hq => callG_of (by kernel_rfl) (key1_spec q w.heap.size g s T (h2.on hq) hn hr (held_on hq l2) i hi)).mono ?_⟩
  rintro e w4 ⟨rof, rfi, rfl, orof, orfi, b4⟩
  have f4 := held_on b4 f2
  have l4 := held_on b4 l2
  have hb4 := below_then hb2 b4
  refine ⟨_, _, _, _, _, _, rfl, ?_⟩
  rw [add_lit]
  refine storeP_block [rof.v, rfi.v] 0 w4 _ (0 + 1) f4 (by simp) (by intro v hv; simp only [List.mem_cons, List.not_mem_nil, or_false] at hv; rcases hv with rfl | rfl <;> rfl) ?_
  intro w5 f5 hs5 hz5 hB5
  have f5 : w5.heap[w1.heap.size]? = some (.cells #[.pointer (some ⟨g, 0, none⟩), rof.v, rfi.v, sl0.v, sl0.v, sl0.v, sl0.v] tFold (0, 0)) := f5
  have l5 := (hs5 _ (by omega)).trans l4
  have hb5 : Below w.heap.size w w5 := hB5 _ _ (by omega) hb4
  have h5 := h.on hb5
  have orof5 := own_same orof fun k hk => hs5 k (by have := (own_lt orof k hk).1; omega)
  have orfi5 := own_same orfi fun k hk => hs5 k (by have := (own_lt orfi k hk).1; omega)
  refine ⟨_, cell1 l5, (gSize_spec w5 g s T h5).mono ?_⟩
  rintro e w6 ⟨rfl, rfl⟩
  have key2 : ∀ i, i < gN s T → ∀ q, Below w6.heap.size w6 q → CallG ctx (.func (.func 74) #[.pointer (some (nb w1))] #[]) [.int .i64 (i : Int)] q (fun e q2 => e = .returned (.string (str (colK s T i))) ∧ Below q.heap.size q q2) := by
    intro i hi q hq
    have := column_spec q w1.heap.size g s T (h5.on hq) hn _ (held_on hq f5) rfi rfl rfl (own_base (own_on orfi5 hq) (Nat.zero_le _)) i hi
    unfold CallG
    have hc : ctx.fns 74 = true := by kernel_rfl
    simp only [hc]
    exact this
  refine ⟨_, rfl, (group_spec w6 (gN s T) _ (colK s T) (by omega) key2).mono ?_⟩
  rintro e w7 ⟨cof, cfi, rfl, ocof, ocfi, b7⟩
  have f7 := held_on b7 f5
  have l7 := held_on b7 l5
  have hb7 := below_then hb5 b7
  refine ⟨_, _, _, _, _, _, rfl, ?_⟩
  rw [add_lit]
  refine storeP_block [cof.v, cfi.v] 0 w7 _ (0 + 3) f7 (by simp) (by intro v hv; simp only [List.mem_cons, List.not_mem_nil, or_false] at hv; rcases hv with rfl | rfl <;> rfl) ?_
  intro w8 f8 hs8 hz8 hB8
  have f8 : w8.heap[w1.heap.size]? = some (.cells #[.pointer (some ⟨g, 0, none⟩), rof.v, rfi.v, cof.v, cfi.v, sl0.v, sl0.v] tFold (0, 0)) := f8
  have l8 := (hs8 _ (by omega)).trans l7
  have hb8 : Below w.heap.size w w8 := hB8 _ _ (by omega) hb7
  have z6 : w1.heap.size < w6.heap.size := by rw [hz5]; exact Nat.lt_of_lt_of_le s2 b4.size
  have orof8 := own_same (own_on orof5 b7) fun k hk => hs8 k (by have := (own_lt orof k hk).1; omega)
  have orfi8 := own_same (own_on orfi5 b7) fun k hk => hs8 k (by have := (own_lt orfi k hk).1; omega)
  have ocof8 := own_same ocof fun k hk => hs8 k (by have := (own_lt ocof k hk).1; omega)
  have ocfi8 := own_same ocfi fun k hk => hs8 k (by have := (own_lt ocfi k hk).1; omega)
  have s3 : w.heap.size ≤ w3.heap.size := hb2.size
  have s6 : w.heap.size ≤ w6.heap.size := hb5.size
  have R8 : FoldR w8 w.heap.size w1.heap.size g s T rof rfi cof cfi sl0 sl0 [] 0 0 :=
    ⟨f8, h.on hb8, own_base orof8 s3, own_base orfi8 s3, own_base ocof8 s6, own_base ocfi8 s6, own_none _ _ _ _ encS, rfl, (by intro c r _ h; cases h), own_none _ _ _ _ encB1⟩
  have hrf : (rowF s T).length ≤ 1032 := Nat.le_trans (firsts_few _ _) hn
  have hcf : (colF s T).length ≤ 1032 := Nat.le_trans (firsts_few _ _) hn
  refine ⟨rfi.a, rfi.n, rfi.c, (by first | (rw [cell_heap f8]; rfl) | (rw [add_lit, cell_heap f8]; rfl) | (rw [add_lit, add_lit, cell_heap f8]; rfl)), ?_⟩
  have hrn := cints_n R8.orfi
  have hcn := cints_n R8.ocfi
  intro I hI
  let Inv (i : Nat) (q : World) : Prop := ∃ bits bl, FoldR q w.heap.size w1.heap.size g s T rof rfi cof cfi bits sl0 bl i 0 ∧ q.heap[w.heap.size]? = some (.cells #[.pointer (some ⟨g, 0, none⟩)] 48 (0, 0)) ∧ Below w.heap.size w q
  have key := climb2 (α := World) (rowF s T).length Inv (fun i q => I [.int .i64 (i : Int)] q) w8 ⟨sl0, [], R8, l8, hb8⟩ ?_ ?_
  · exact key
  · rintro i hi ih q ⟨bits, bl, R, lq, hB⟩
    obtain ⟨_, p, hp, cc⟩ := cints_cell R.orfi hi
    have hai := firsts_lt (List.getElem_mem hi)
    refine hI _ _ (CondP.yes (decide_eq_true (by omega)) (NilC.mk p hp ⟨by omega, by omega, _, cc, _, cell1 lq, (gId_at q g s T R.grid _ hai).mono ?_⟩))
    rintro e q1 ⟨rfl, rfl⟩
    refine ⟨_, _, rfl, cfi.a, cfi.n, cfi.c, (by first | (rw [cell_heap R.blk]; rfl) | (rw [add_lit, cell_heap R.blk]; rfl) | (rw [add_lit, add_lit, cell_heap R.blk]; rfl)), ?_⟩
    intro I2 hI2
    have key2 := climb2 (α := Sl × World) (colF s T).length (fun j y => y.2.ownsRow q1.heap.size tBool 1 y.1.v y.1.n ((((colF s T).take j).map fun c => relB s T (rowF s T)[i] c).flatMap encB1) ∧ y.1.n = j ∧ Below q1.heap.size q1 y.2) (fun j y => I2 [.int .i64 (j : Int), y.1.v] y.2) (sl0, q1) ⟨own_none _ _ _ _ encB1, rfl, Below.refl _ _⟩ ?_ ?_
    · exact key2
    · rintro j hj ih2 ⟨b, z⟩ ⟨hown, hbn, hBz⟩
      change z.ownsRow q1.heap.size tBool 1 b.v b.n _ at hown
      change b.n = j at hbn
      change Below q1.heap.size q1 z at hBz
      have Rz := R.on hBz
      have lz := held_on hBz lq
      obtain ⟨_, p2, hp2, cc2⟩ := cints_cell Rz.ocfi hj
      have haj := firsts_lt (List.getElem_mem hj)
      refine hI2 _ b.a b.n b.c z (CondP.yes (decide_eq_true (by omega)) (NilC.mk p2 hp2 ⟨by omega, by omega, _, cc2, _, cell1 lz, (gId_at z g s T Rz.grid _ haj).mono ?_⟩))
      rintro e z1 ⟨rfl, rfl⟩
      refine ⟨_, _, rfl, _, cell1 lz, (gHas_spec z1 g s T Rz.grid hn _ _).mono ?_⟩
      rintro e z2 ⟨rfl, rfl⟩
      rw [gHas_at hai haj]
      refine ⟨_, rfl, ?_⟩
      intro z3 hz3
      obtain ⟨b', z4, e1, e2, e3, e4, _⟩ := elBl.push hown (relB s T (rowF s T)[i] (colF s T)[j]) hz3 rfl hBz.size (by omega) (by decide)
      refine ⟨b'.a, b'.n, b'.c, z4, e2, Ar.nat (j + 1) rfl (by omega) (ih2 (b', z4) ⟨?_, by show b'.n = j + 1; omega, e4 _ hBz⟩)⟩
      rw [List.take_add_one, List.getElem?_eq_getElem hj, List.map_append]
      exact e3
    · rintro ⟨b, z⟩ ⟨hown, hbn, hBz⟩
      change z.ownsRow q1.heap.size tBool 1 b.v b.n _ at hown
      change Below q1.heap.size q1 z at hBz
      rw [List.take_length] at hown
      have Rz := R.on hBz
      have lz := held_on hBz lq
      have hBw : Below w.heap.size w z := hB.trans (hBz.mono hB.size)
      refine hI2 _ b.a b.n b.c z (CondP.no (decide_eq_false (by omega)) ⟨bits.a, bits.n, bits.c, by rw [cell_put Rz.blk]; rfl, ?_⟩)
      intro z1 hz1
      have hbn2 := (LsAt.of_own elBls Rz.obits).n
      have hbl := Rz.blen
      obtain ⟨bits', z2, e1, e2, e3, e4, e5⟩ := elBls.push Rz.obits b hz1 rfl hBw.size (by omega) (by decide)
      have kp : ∀ {k : Nat} {o : Obj}, z.heap[k]? = some o → bits.v.ownBlock ≠ some k → z2.heap[k]? = some o := fun {k o} h hne => (e5 k (Array.getElem?_eq_some_iff.1 h).1 hne).trans h
      have y1 := kp Rz.blk (row_ne_blk Rz.obits Rz.blk (by decide))
      have yl := kp lz (row_ne_blk Rz.obits lz (by decide))
      refine ⟨bits'.a, bits'.n, bits'.c, z2, e2, rfl, ⟨_, by rw [cell_put y1]; rfl⟩, frozen_put y1, ?_⟩
      intro z3 hz3
      have hs : ∀ j, j ≠ w1.heap.size → z3.heap[j]? = z2.heap[j]? := by
        intro j hj
        subst hz3
        exact heap_setCell_ne (by rw [add_block]; exact hj)
      have hBw3 : Below w.heap.size w z3 := by subst hz3; exact below_put (e4 _ hBw) (by omega) _
      have same : ∀ {B sz n : Nat} {e : TypeId} {u : Value} {xs : List Value}, z.ownsRow B e sz u n xs → e ≠ tBools → e ≠ tFold → z3.ownsRow B e sz u n xs := by
        intro B sz n e u xs h h1 h2
        refine own_same h fun k hk => ?_
        rw [hs k fun e => row_ne_blk h Rz.blk h2 (by rw [hk, e])]
        exact e5 k (own_lt h k hk).2 (row_ne_row h Rz.obits h1 k hk)
      refine Ar.nat (i + 1) rfl (by omega) (ih z3 ⟨bits', bl ++ [b], ⟨by subst hz3; exact heap_put y1 _, h.on hBw3, same Rz.orof (by decide) (by decide), same Rz.orfi (by decide) (by decide), same Rz.ocof (by decide) (by decide), same Rz.ocfi (by decide) (by decide), own_same e3 fun k hk => hs k fun e => row_ne_blk e3 y1 (by decide) (by rw [hk, e]), by simp; omega, ?_, own_none _ _ _ _ encB1⟩, (hs _ (by omega)).trans yl, hBw3⟩)
      intro c r hc hj
      by_cases hcl : c < bl.length
      · rw [List.getElem?_append_left hcl] at hj
        exact same (Rz.each c r hc hj) (by decide) (by decide)
      · have hci : c = i := by
          have := (List.getElem?_eq_some_iff.1 hj).1
          simp at this
          omega
        subst hci
        rw [List.getElem?_append_right (by omega), hbl, Nat.sub_self] at hj
        cases hj
        exact same (own_base hown hB.size) (by decide) (by decide)
  · rintro q ⟨bits, bl, R, lq, hB⟩
    refine hI _ _ (CondP.no (decide_eq_false (by omega)) ⟨cfi.a, cfi.n, cfi.c, (by first | (rw [cell_heap R.blk]; rfl) | (rw [add_lit, cell_heap R.blk]; rfl) | (rw [add_lit, add_lit, cell_heap R.blk]; rfl)), ?_⟩)
    intro I2 hI2
    let blkA (al : Sl) : Obj := .cells #[.pointer (some ⟨g, 0, none⟩), rof.v, rfi.v, cof.v, cfi.v, bits.v, al.v] tFold (0, 0)
    let Inv2 (j : Nat) (z : World) : Prop := ∃ al : Sl, z.heap[w1.heap.size]? = some (blkA al) ∧ (∀ k, k < q.heap.size → k ≠ w1.heap.size → z.heap[k]? = q.heap[k]?) ∧ q.heap.size ≤ z.heap.size ∧ z.ownsRow q.heap.size tBool 1 al.v al.n ((((colF s T).take j).map fun i => alB s T i).flatMap encB1) ∧ Below w.heap.size w z
    have lts : w1.heap.size < q.heap.size := (Array.getElem?_eq_some_iff.1 R.blk).1
    have ltw : w.heap.size < q.heap.size := (Array.getElem?_eq_some_iff.1 lq).1
    have mk : ∀ {j : Nat} {z : World} {al : Sl}, z.heap[w1.heap.size]? = some (blkA al) → (∀ k, k < q.heap.size → k ≠ w1.heap.size → z.heap[k]? = q.heap[k]?) → z.ownsRow q.heap.size tBool 1 al.v al.n ((((colF s T).take j).map fun i => alB s T i).flatMap encB1) → Below w.heap.size w z → FoldR z w.heap.size w1.heap.size g s T rof rfi cof cfi bits al bl (rowF s T).length j := by
      intro j z al hblk hk hal hBz
      have same : ∀ {B sz n : Nat} {e : TypeId} {u : Value} {xs : List Value}, q.ownsRow B e sz u n xs → e ≠ tFold → z.ownsRow B e sz u n xs := fun h h2 => own_same h fun k hkk => hk k (own_lt h k hkk).2 fun e => row_ne_blk h R.blk h2 (by rw [hkk, e])
      exact ⟨hblk, h.on hBz, same R.orof (by decide), same R.orfi (by decide), same R.ocof (by decide), same R.ocfi (by decide), same R.obits (by decide), R.blen, fun c r hc hr => same (R.each c r hc hr) (by decide), own_base hal (Nat.le_of_lt ltw)⟩
    have key2 := climb2 (α := World) (colF s T).length Inv2 (fun j q => I2 [.int .i64 (j : Int)] q) q ⟨sl0, R.blk, fun _ _ _ => rfl, Nat.le_refl _, own_none _ _ _ _ encB1, hB⟩ ?_ ?_
    · exact key2
    · rintro j hj ih z ⟨al, hblk, hkeep, hzz, hal, hBz⟩
      have Rz := mk hblk hkeep hal hBz
      have lz := (hkeep _ ltw (by omega)).trans lq
      obtain ⟨_, p2, hp2, cc2⟩ := cints_cell Rz.ocfi hj
      have haj := firsts_lt (List.getElem_mem hj)
      refine hI2 _ _ (CondP.yes (decide_eq_true (by omega)) (NilC.mk p2 hp2 ⟨by omega, by omega, _, cc2, _, cell1 lz, (gId_at z g s T Rz.grid _ haj).mono ?_⟩))
      rintro e z1 ⟨rfl, rfl⟩
      refine ⟨_, _, rfl, ?_⟩
      intro z2 hz2
      have bd : Below z1.heap.size z1 z2 := by subst hz2; exact drew_on z1
      have R2 := Rz.on bd
      have l2' := held_on bd lz
      have hB2 := below_then hBz bd
      have hal2 := own_on hal bd
      refine ⟨al.a, al.n, al.c, by rw [cell_put R2.blk]; rfl, _, cell1 l2', (gAlone_spec z2 g s T R2.grid hn _).mono ?_⟩
      rintro e z3 ⟨rfl, rfl⟩
      rw [gAl_at haj]
      refine ⟨_, rfl, ⟨by rw [cell_put R2.blk]; rfl, trivial⟩, ?_⟩
      intro z4 hz4
      have b4' : Below z3.heap.size z3 z4 := by subst hz4; exact below_alloc _ _
      have haln := (LsAt.of_own elBl hal2).n
      rw [List.length_map, List.length_take] at haln
      have hzz2 : q.heap.size ≤ z3.heap.size := Nat.le_trans hzz bd.size
      obtain ⟨al', z5, e1, e2, e3, e4, e5⟩ := elBl.push hal2 (alB s T (colF s T)[j]) hz4 rfl hzz2 (by omega) (by decide)
      have y1 : z5.heap[w1.heap.size]? = some (blkA al) := (e5 _ (by omega) (row_ne_blk hal2 R2.blk (by decide))).trans R2.blk
      have b5 : Below q.heap.size z3 z5 := e4 _ (Below.refl _ _)
      refine ⟨⟨by rw [cell_put (held_on b4' R2.blk)]; rfl, trivial⟩, al'.a, al'.n, al'.c, z5, e2, rfl, ⟨_, by rw [cell_put y1]; rfl⟩, frozen_put y1, ?_⟩
      intro z6 hz6
      have hs : ∀ j, j ≠ w1.heap.size → z6.heap[j]? = z5.heap[j]? := by
        intro j hj
        subst hz6
        exact heap_setCell_ne (by rw [add_block]; exact hj)
      have hB6 : Below w.heap.size w z6 := by subst hz6; exact below_put (hB2.trans (b5.mono (Nat.le_of_lt ltw))) (by omega) _
      refine Ar.nat (j + 1) rfl (by omega) (ih z6 ⟨al', by subst hz6; exact heap_put y1 _, fun k hk hne => ?_, ?_, ?_, hB6⟩)
      · rw [hs k hne, b5.block k hk, bd.block k (by omega)]
        exact hkeep k hk hne
      · subst hz6
        rw [size_setCell]
        exact Nat.le_trans hzz2 b5.size
      · rw [List.take_add_one, List.getElem?_eq_getElem hj, List.map_append]
        exact own_same e3 fun k hk => hs k fun e => row_ne_blk e3 y1 (by decide) (by rw [hk, e])
    · rintro z ⟨al, hblk, hkeep, hzz, hal, hBz⟩
      have Rz := mk hblk hkeep hal hBz
      refine hI2 _ _ (CondP.no (decide_eq_false (by omega)) ⟨w1.heap.size, rfl, ⟨rof, rfi, cof, cfi, bits, al, bl, ?_⟩, hBz⟩)
      exact ⟨Rz.blk, Rz.grid, own_base Rz.orof (Nat.zero_le _), own_base Rz.orfi (Nat.zero_le _), own_base Rz.ocof (Nat.zero_le _), own_base Rz.ocfi (Nat.zero_le _), own_base Rz.obits (Nat.zero_le _), Rz.blen, fun c r hc hr => own_base (Rz.each c r hc hr) (Nat.zero_le _), own_base Rz.oal (Nat.zero_le _)⟩
end Go.Proofs.YtboemnagahmlkaaGreat.Eng

/- The fold's answers, walked by the engine. -/
set_option linter.unusedVariables false
set_option linter.unusedSimpArgs false
set_option maxRecDepth 100000
namespace Go.Proofs.YtboemnagahmlkaaGreat.Eng
open Go Go.RowKit
theorem alone_cls {s : SpecV} {T : List Ent} {j : Nat} (hj : j < gN s T) : ∃ h : clsOf (colK s T) j < (colF s T).length, alB s T (colF s T)[clsOf (colK s T) j] = alB s T j := by
  obtain ⟨h1, h2⟩ := cls_in (k := colK s T) hj
  refine ⟨h1, ?_⟩
  have bit : ∀ b c : Bool, ((if b then 1 else 0 : UInt8) = (if c then 1 else 0)) ↔ b = c := by decide
  exact (bit _ _).1 (List.cons.inj h2).1
theorem col_eq {s : SpecV} {T : List Ent} {i j : Nat} : colK s T i = colK s T j ↔ alB s T i = alB s T j ∧ ∀ a ∈ firsts (rowK s T) (gN s T), relB s T a i = relB s T a j := by
  have bit : ∀ b c : Bool, ((if b then 1 else 0 : UInt8) = (if c then 1 else 0)) ↔ b = c := by decide
  unfold colK
  rw [List.cons.injEq, bit]
  refine and_congr Iff.rfl ⟨fun h a ha => ?_, fun h => List.map_congr_left fun a ha => by rw [h a ha]⟩
  have := List.map_inj_left.1 h a ha
  exact (bit _ _).1 this
theorem row_eq {s : SpecV} {T : List Ent} {i j : Nat} : rowK s T i = rowK s T j ↔ ∀ m, m < gN s T → relB s T i m = relB s T j m := rowText_iff
theorem rel_cls {s : SpecV} {T : List Ent} {i j : Nat} (hi : i < gN s T) (hj : j < gN s T) : ∃ (h : clsOf (rowK s T) i < (rowF s T).length) (h' : clsOf (colK s T) j < (colF s T).length), relB s T (rowF s T)[clsOf (rowK s T) i] (colF s T)[clsOf (colK s T) j] = relB s T i j := by
  obtain ⟨h1, h2⟩ := cls_in (k := rowK s T) hi
  obtain ⟨h3, h4⟩ := cls_in (k := colK s T) hj
  refine ⟨h1, h3, ?_⟩
  have e1 := (col_eq.1 h4).2 _ (List.getElem_mem h1)
  have e2 := row_eq.1 h2 j hj
  exact e1.trans e2
/-- Columns are alike just where all rows have the same bit of both. -/
theorem col_all {s : SpecV} {T : List Ent} {i j : Nat} (hi : i < gN s T) (hj : j < gN s T) : colK s T i = colK s T j ↔ alB s T i = alB s T j ∧ ∀ a, a < gN s T → relB s T a i = relB s T a j := by
  rw [col_eq]
  refine and_congr Iff.rfl ⟨fun h a ha => ?_, fun h a ha => h a (firsts_lt ha)⟩
  obtain ⟨h1, h2⟩ := cls_in (k := rowK s T) ha
  have e := h _ (List.getElem_mem h1)
  rw [row_eq.1 h2 i hi, row_eq.1 h2 j hj] at e
  exact e
theorem clss_cell {w : World} {B n : Nat} {l : Sl} {k : Nat → Bs} (h : w.ownsRow B tInt 1 l.v l.n (clss k n)) {i : Nat} (hi : i < n) : l.n = n ∧ ∃ p, l.a = some p ∧ w.cell? (p.add (i * 1)) = some (.int .i64 ((clsOf k i : Nat) : Int)) := by
  have hls := LsAt.of_own elInt (B := B) (xs := (List.range n).map fun i => ((clsOf k i : Nat) : Int)) h
  obtain ⟨p, hp, c⟩ := cell_rw hls.r (show i < ((List.range n).map fun i => ((clsOf k i : Nat) : Int)).length by simpa using hi) (v := .int .i64 ((clsOf k i : Nat) : Int)) (by simp [encInt])
  exact ⟨by simpa using hls.n, p, hp, c⟩
def clV (k : Nat → Bs) (o : Option Nat) : Value := match o with
  | some i => .tuple #[.int .i64 ((clsOf k i : Nat) : Int), .bool true]
  | none => .tuple #[.int .i64 0, .bool false]
theorem fPlace_spec (w : World) (f g : Nat) (s : SpecV) (T : List Ent) (h : FoldIs w f g s T) (id : Int) :
    Calls Tryz.prog 68 #[.pointer (some ⟨f, 0, none⟩), .int .i64 id] w fun e w' => e = .returned (.tuple #[.int .i64 (((plc s T id).getD 0 : Nat) : Int), .bool (plc s T id).isSome]) ∧ w' = w := by
  refine calls_ret (vc68_calls (some ⟨f, 0, none⟩) id w (fun u w' => u = .tuple #[.int .i64 (((plc s T id).getD 0 : Nat) : Int), .bool (plc s T id).isSome] ∧ w' = w) ?_) (by rintro v w' ⟨rfl, h⟩; exact ⟨rfl, h⟩)
  obtain ⟨rof, rfi, cof, cfi, bits, alone, bl, R⟩ := h
  refine CondP.no rfl (NilC.mk _ rfl ⟨_, by rw [cell_put R.blk]; rfl, (gPlace_spec w g s T R.grid id).mono ?_⟩)
  rintro e w1 ⟨rfl, rfl⟩
  exact ⟨_, _, rfl, rfl, rfl⟩
theorem fRow_spec (w : World) (f g : Nat) (s : SpecV) (T : List Ent) (h : FoldIs w f g s T) (id : Int) :
    Calls Tryz.prog 26 #[.pointer (some ⟨f, 0, none⟩), .int .i64 id] w fun e w' => e = .returned (clV (rowK s T) (plc s T id)) ∧ w' = w := by
  refine calls_ret (vc26_calls (some ⟨f, 0, none⟩) id w (fun u w' => u = clV (rowK s T) (plc s T id) ∧ w' = w) ?_) (by rintro v w' ⟨rfl, h⟩; exact ⟨rfl, h⟩)
  refine (fPlace_spec w f g s T h id).mono ?_
  rintro e w1 ⟨rfl, rfl⟩
  obtain ⟨rof, rfi, cof, cfi, bits, alone, bl, R⟩ := h
  refine ⟨_, _, rfl, CondP.mk (fun h1 => ⟨?_, rfl⟩) fun h1 => ?_⟩
  · cases hp : plc s T id with
    | none => rfl
    | some i => rw [hp] at h1; cases h1
  · obtain ⟨i, hi⟩ := Option.isSome_iff_exists.1 (by simpa using h1)
    obtain ⟨hi1, _, _⟩ := plc_some hi
    obtain ⟨hn, p, hp, hc⟩ := clss_cell R.orof (i := i) hi1
    rw [hi]
    refine NilC.mk _ rfl ⟨rof.a, rof.n, rof.c, (by rw [add_lit, add_lit, cell_heap R.blk]; rfl), NilC.mk p hp ⟨by omega, by show ((i : Nat) : Int) < _; unfold gN at hn; omega, _, hc, rfl, rfl⟩⟩
theorem fCol_spec (w : World) (f g : Nat) (s : SpecV) (T : List Ent) (h : FoldIs w f g s T) (id : Int) :
    Calls Tryz.prog 27 #[.pointer (some ⟨f, 0, none⟩), .int .i64 id] w fun e w' => e = .returned (clV (colK s T) (plc s T id)) ∧ w' = w := by
  refine calls_ret (vc27_calls (some ⟨f, 0, none⟩) id w (fun u w' => u = clV (colK s T) (plc s T id) ∧ w' = w) ?_) (by rintro v w' ⟨rfl, h⟩; exact ⟨rfl, h⟩)
  refine (fPlace_spec w f g s T h id).mono ?_
  rintro e w1 ⟨rfl, rfl⟩
  obtain ⟨rof, rfi, cof, cfi, bits, alone, bl, R⟩ := h
  refine ⟨_, _, rfl, CondP.mk (fun h1 => ⟨?_, rfl⟩) fun h1 => ?_⟩
  · cases hp : plc s T id with
    | none => rfl
    | some i => rw [hp] at h1; cases h1
  · obtain ⟨i, hi⟩ := Option.isSome_iff_exists.1 (by simpa using h1)
    obtain ⟨hi1, _, _⟩ := plc_some hi
    obtain ⟨hn, p, hp, hc⟩ := clss_cell R.ocof (i := i) hi1
    rw [hi]
    refine NilC.mk _ rfl ⟨cof.a, cof.n, cof.c, (by rw [add_lit, add_lit, cell_heap R.blk]; rfl), NilC.mk p hp ⟨by omega, by show ((i : Nat) : Int) < _; unfold gN at hn; omega, _, hc, rfl, rfl⟩⟩
theorem fRows_spec (w : World) (f g : Nat) (s : SpecV) (T : List Ent) (h : FoldIs w f g s T) :
    Calls Tryz.prog 28 #[.pointer (some ⟨f, 0, none⟩)] w fun e w' => e = .returned (.int .i64 (((rowF s T).length : Nat) : Int)) ∧ w' = w := by
  refine calls_ret (vc28_calls (some ⟨f, 0, none⟩) w (fun u w' => u = .int .i64 (((rowF s T).length : Nat) : Int) ∧ w' = w) ?_) (by rintro v w' ⟨rfl, h⟩; exact ⟨rfl, h⟩)
  obtain ⟨rof, rfi, cof, cfi, bits, alone, bl, R⟩ := h
  refine CondP.no rfl (NilC.mk _ rfl ⟨rfi.a, rfi.n, rfi.c, (by rw [add_lit, add_lit, cell_heap R.blk]; rfl), ?_, rfl⟩)
  rw [cints_n R.orfi]
theorem fCols_spec (w : World) (f g : Nat) (s : SpecV) (T : List Ent) (h : FoldIs w f g s T) :
    Calls Tryz.prog 29 #[.pointer (some ⟨f, 0, none⟩)] w fun e w' => e = .returned (.int .i64 (((colF s T).length : Nat) : Int)) ∧ w' = w := by
  refine calls_ret (vc29_calls (some ⟨f, 0, none⟩) w (fun u w' => u = .int .i64 (((colF s T).length : Nat) : Int) ∧ w' = w) ?_) (by rintro v w' ⟨rfl, h⟩; exact ⟨rfl, h⟩)
  obtain ⟨rof, rfi, cof, cfi, bits, alone, bl, R⟩ := h
  refine CondP.no rfl (NilC.mk _ rfl ⟨cfi.a, cfi.n, cfi.c, (by rw [add_lit, add_lit, cell_heap R.blk]; rfl), ?_, rfl⟩)
  rw [cints_n R.ocfi]
theorem fBits_spec (w : World) (f g : Nat) (s : SpecV) (T : List Ent) (h : FoldIs w f g s T) (hn : gN s T ≤ 1032) :
    Calls Tryz.prog 30 #[.pointer (some ⟨f, 0, none⟩)] w fun e w' => e = .returned (.int .i64 (((rowF s T).length * (colF s T).length : Nat) : Int)) ∧ w' = w := by
  refine calls_ret (vc30_calls (some ⟨f, 0, none⟩) w (fun u w' => u = .int .i64 (((rowF s T).length * (colF s T).length : Nat) : Int) ∧ w' = w) ?_) (by rintro v w' ⟨rfl, h⟩; exact ⟨rfl, h⟩)
  refine (fRows_spec w f g s T h).mono ?_
  rintro e w1 ⟨rfl, rfl⟩
  refine ⟨_, rfl, (fCols_spec w1 f g s T h).mono ?_⟩
  rintro e w2 ⟨rfl, rfl⟩
  have h1 : (rowF s T).length ≤ 1032 := Nat.le_trans (firsts_few _ _) hn
  have h2 : (colF s T).length ≤ 1032 := Nat.le_trans (firsts_few _ _) hn
  have h3 : (rowF s T).length * (colF s T).length ≤ 1032 * 1032 := Nat.mul_le_mul h1 h2
  exact ⟨_, rfl, Ar.nat ((rowF s T).length * (colF s T).length) (by simp) (by omega) ⟨rfl, rfl⟩⟩
theorem fAlone_spec (w : World) (f g : Nat) (s : SpecV) (T : List Ent) (h : FoldIs w f g s T) (id : Int) :
    Calls Tryz.prog 34 #[.pointer (some ⟨f, 0, none⟩), .int .i64 id] w fun e w' => e = .returned (.bool (gAl s T id)) ∧ w' = w := by
  refine calls_ret (vc34_calls (some ⟨f, 0, none⟩) id w (fun u w' => u = .bool (gAl s T id) ∧ w' = w) ?_) (by rintro v w' ⟨rfl, h⟩; exact ⟨rfl, h⟩)
  refine (fCol_spec w f g s T h id).mono ?_
  rintro e w1 ⟨rfl, rfl⟩
  obtain ⟨rof, rfi, cof, cfi, bits, alone, bl, R⟩ := h
  cases hp : plc s T id with
  | none =>
    refine ⟨_, _, rfl, CondP.no rfl ⟨?_, rfl⟩⟩
    unfold gAl
    rw [plc_none hp, Bool.false_and]
  | some i =>
    obtain ⟨hi1, hi2, hi3⟩ := plc_some hp
    obtain ⟨hc, ha⟩ := alone_cls (s := s) (T := T) (j := i) hi1
    have hls := LsAt.of_own elBl R.oal
    rw [List.take_length] at hls
    have hn := hls.n
    rw [List.length_map] at hn
    obtain ⟨p, hp2, cc⟩ := cell_rw hls.r (show clsOf (colK s T) i < ((colF s T).map fun i => alB s T i).length by simpa using hc) (v := .bool (alB s T i)) (by simp [encB1, ha])
    refine ⟨_, _, rfl, CondP.yes rfl (NilC.mk _ rfl ⟨alone.a, alone.n, alone.c, by rw [cell_put R.blk]; rfl, NilC.mk p hp2 ⟨by omega, by omega, _, cc, ?_, rfl⟩⟩)⟩
    rw [← gAl_at hi1, hi2]
theorem fHas_spec (w : World) (f g : Nat) (s : SpecV) (T : List Ent) (h : FoldIs w f g s T) (a b : Int) :
    Calls Tryz.prog 35 #[.pointer (some ⟨f, 0, none⟩), .int .i64 a, .int .i64 b] w fun e w' => e = .returned (.bool (gHas s T a b)) ∧ w' = w := by
  refine calls_ret (vc35_calls (some ⟨f, 0, none⟩) a b w (fun u w' => u = .bool (gHas s T a b) ∧ w' = w) ?_) (by rintro v w' ⟨rfl, h⟩; exact ⟨rfl, h⟩)
  refine (fRow_spec w f g s T h a).mono ?_
  rintro e w1 ⟨rfl, rfl⟩
  cases hp : plc s T a with
  | none =>
    refine ⟨_, _, rfl, (fCol_spec w1 f g s T h b).mono ?_⟩
    rintro e w2 ⟨rfl, rfl⟩
    have e0 : gHas s T a b = false := by unfold gHas; rw [plc_none hp, Bool.false_and, Bool.false_and]
    rw [e0]
    cases plc s T b with
    | none => exact ⟨_, _, rfl, CondP.no rfl ⟨rfl, rfl⟩⟩
    | some j => exact ⟨_, _, rfl, CondP.no rfl ⟨rfl, rfl⟩⟩
  | some i =>
    obtain ⟨hi1, hi2, hi3⟩ := plc_some hp
    refine ⟨_, _, rfl, (fCol_spec w1 f g s T h b).mono ?_⟩
    rintro e w2 ⟨rfl, rfl⟩
    obtain ⟨rof, rfi, cof, cfi, bits, alone, bl, R⟩ := h
    cases hq : plc s T b with
    | none =>
      refine ⟨_, _, rfl, CondP.yes rfl (CondP.no rfl ⟨?_, rfl⟩)⟩
      unfold gHas
      rw [plc_none hq, Bool.and_false, Bool.false_and]
    | some j =>
      obtain ⟨hj1, hj2, hj3⟩ := plc_some hq
      obtain ⟨h1, h2, hrel⟩ := rel_cls (s := s) (T := T) (i := i) (j := j) hi1 hj1
      have hls := LsAt.of_own elBls R.obits
      have hbl := R.blen
      have hbn := hls.n
      have hcl : clsOf (rowK s T) i < bl.length := by omega
      obtain ⟨p, hp2, cc⟩ := cell_rw hls.r hcl (v := bl[clsOf (rowK s T) i].v) rfl
      have hrow := R.each _ _ h1 (List.getElem?_eq_getElem hcl)
      have hls2 := LsAt.of_own elBl hrow
      have hn2 := hls2.n
      unfold bitsRow at hls2 hn2
      rw [List.length_map] at hn2
      obtain ⟨p2, hp3, cc2⟩ := cell_rw hls2.r (show clsOf (colK s T) j < ((colF s T).map fun c => relB s T (rowF s T)[clsOf (rowK s T) i] c).length by simpa using h2) (v := .bool (relB s T i j)) (by simp [encB1, hrel])
      refine ⟨_, _, rfl, CondP.yes rfl (CondP.yes rfl (NilC.mk _ rfl ⟨bits.a, bits.n, bits.c, by rw [cell_put R.blk]; rfl, NilC.mk p hp2 ⟨by omega, by omega, _, _, _, cc, NilC.mk p2 hp3 ⟨by omega, by omega, _, cc2, ?_, rfl⟩⟩⟩))⟩
      rw [← gHas_at hi1 hj1, hi2, hj2]
end Go.Proofs.YtboemnagahmlkaaGreat.Eng

/- The fold's first offence; a nil fold; the laws on folds. -/
set_option linter.unusedVariables false
set_option linter.unusedSimpArgs false
set_option maxRecDepth 100000
namespace Go.Proofs.YtboemnagahmlkaaGreat.Eng
open Go Go.RowKit
theorem fFirst_spec (w : World) (f g : Nat) (s : SpecV) (T : List Ent) (h : FoldIs w f g s T) (hok : TOk T) (hV : (vocOf s T).Ok) (A : Option Addr) (C : Nat) (ids : List Int) (hr : Rw encInt 1 w A ids) (hl : ids.length ≤ 10000) :
    Calls Tryz.prog 36 #[.pointer (some ⟨f, 0, none⟩), .slice A ids.length C] w fun e w' => ∃ o : Option Nat, e = .returned (.tuple #[.int .i64 ((o.getD 0 : Nat) : Int), .bool o.isSome]) ∧ FirstR (vocOf s T) ids o ∧ w' = w := by
  refine calls_ret (vc36_calls (some ⟨f, 0, none⟩) A ids.length C w (fun u w' => ∃ o : Option Nat, u = .tuple #[.int .i64 ((o.getD 0 : Nat) : Int), .bool o.isSome] ∧ FirstR (vocOf s T) ids o ∧ w' = w) ?_) (by rintro v w' ⟨o, rfl, h⟩; exact ⟨o, rfl, h⟩)
  have hal : ∀ t, gAl s T t = true ↔ (vocOf s T).Has t ∧ (vocOf s T).Canon [t] := by
    intro t
    unfold gAl
    rw [Bool.and_eq_true, has_iff2 hok, decide_eq_true_iff]
  have hpr : ∀ a b, gHas s T a b = true ↔ ((vocOf s T).Has a ∧ (vocOf s T).Has b) ∧ (vocOf s T).Canon [a, b] := by
    intro a b
    unfold gHas
    rw [Bool.and_eq_true, Bool.and_eq_true, has_iff2 hok, has_iff2 hok, decide_eq_true_iff]
  intro I hI
  have key := climb2 (α := World) ids.length (fun i q => (∀ (j : Nat) (h : j < ids.length), j < i → (vocOf s T).Has ids[j] ∧ (vocOf s T).Canon (ids.take (j + 1))) ∧ q = w) (fun i q => ∀ y5 y4, I [.int .i64 (i : Int), .bool y5, .int .i64 y4] q) w ⟨fun j _ hj => absurd hj (Nat.not_lt_zero j), rfl⟩ ?_ ?_
  · exact key _ _
  · rintro i hi ih q ⟨hinv, rfl⟩ y5 y4
    obtain ⟨p, hp, c0⟩ := cell_rw hr hi rfl
    refine hI _ _ _ _ (CondP.yes (by simp; omega) (NilC.mk p hp ⟨by omega, by omega, _, c0, ?_⟩))
    refine (fAlone_spec q f g s T h _).mono ?_
    rintro e w2 ⟨rfl, rfl⟩
    refine ⟨_, rfl, CondP.mk (fun h0 => ?_) fun h0 => ?_⟩
    · refine ⟨some i, rfl, ⟨fun j hj hji => hinv j hj hji, hi, fun e => ?_⟩, rfl⟩
      have hh : ∀ t ∈ ids.take (i + 1), (vocOf s T).Has t := by
        intro t ht
        obtain ⟨j, hj, rfl⟩ := List.mem_take_iff_getElem.1 ht
        by_cases e2 : j = i
        · subst e2; exact e.1
        · exact (hinv j (by omega) (by omega)).1
      have htk : ids.take (i + 1) = ids.take i ++ [ids[i]] := by rw [List.take_add_one, List.getElem?_eq_getElem hi]; rfl
      rw [htk] at hh e
      rw [(hal _).2 ⟨e.1, (Voc.canon_append hV hh e.2).2⟩] at h0
      cases h0
    · have h1 := (hal _).1 (by simpa using h0)
      have htk : ids.take (i + 1) = ids.take i ++ [ids[i]] := by rw [List.take_add_one, List.getElem?_eq_getElem hi]; rfl
      have next : (vocOf s T).Canon (ids.take (i + 1)) → Ar .i64 ((i : Int) + 1) (fun n => I [.int .i64 n, .bool y5, .int .i64 y4] w2) := by
        intro hc
        refine Ar.nat (i + 1) rfl (by omega) (ih w2 ⟨fun j hj hji => ?_, rfl⟩ _ _)
        by_cases e2 : j = i
        · subst e2; exact ⟨h1.1, hc⟩
        · exact hinv j hj (by omega)
      refine CondP.mk (fun hi0 => ?_) fun hi0 => ?_
      · have hi0 := of_decide_eq_true hi0
        obtain ⟨k, rfl⟩ : ∃ k, i = k + 1 := ⟨i - 1, by omega⟩
        obtain ⟨p2, hp2, c1⟩ := cell_rw hr (show k < ids.length by omega) rfl
        refine Ar.nat k (by omega) (by omega) (NilC.mk p2 hp2 ⟨by omega, by omega, _, c1, ?_⟩)
        refine (fHas_spec w2 f g s T h _ _).mono ?_
        rintro e w3 ⟨rfl, rfl⟩
        have hk := hinv k (by omega) (by omega)
        have htk2 : ids.take (k + 1) = ids.take k ++ [ids[k]] := by rw [List.take_add_one, List.getElem?_eq_getElem (by omega)]; rfl
        have hh : ∀ t ∈ ids.take k ++ [ids[k]], (vocOf s T).Has t := by
          intro t ht
          rw [← htk2] at ht
          obtain ⟨j, hj, rfl⟩ := List.mem_take_iff_getElem.1 ht
          exact (hinv j (by omega) (by omega)).1
        have hc2 := hk.2
        rw [htk2] at hc2
        have m1 := Voc.canon_more hV hh hc2 h1.1
        have m2 : (vocOf s T).Canon [ids[k], ids[k + 1]] ↔ (vocOf s T).Canon [ids[k + 1]] ∧ (vocOf s T).Pair ids[k] ids[k + 1] := Voc.canon_more hV (init := []) (l := ids[k]) (t := ids[k + 1]) (fun x hx => by rw [List.nil_append, List.mem_singleton] at hx; rw [hx]; exact hk.1) (Voc.canon_append hV hh hc2).2 h1.1
        refine ⟨_, rfl, CondP.mk (fun h2 => ?_) fun h2 => ?_⟩
        · refine ⟨some (k + 1), rfl, ⟨fun j hj hji => hinv j hj hji, hi, fun e => ?_⟩, rfl⟩
          have e2 := e.2
          rw [htk, htk2] at e2
          rw [(hpr _ _).2 ⟨⟨hk.1, h1.1⟩, m2.2 (m1.1 e2)⟩] at h2
          cases h2
        · have h3 := (hpr _ _).1 (by simpa using h2)
          exact next (by rw [htk, htk2]; exact m1.2 (m2.1 h3.2))
      · have hi0 := of_decide_eq_false hi0
        obtain rfl : i = 0 := by omega
        refine next ?_
        rw [htk, List.take_zero, List.nil_append]
        exact h1.2
  · rintro q ⟨hinv, rfl⟩ y5 y4
    exact hI _ _ _ _ (CondP.no (by simp) ⟨none, rfl, fun j hj => hinv j hj hj, rfl⟩)


/-! ### A nil fold -/
/-! ### What is awake -/
theorem firsts_same {κ κ' : Type} [DecidableEq κ] [DecidableEq κ'] {k : Nat → κ} {k' : Nat → κ'} : ∀ {n : Nat}, (∀ i j, i < n → j < n → (k i = k j ↔ k' i = k' j)) → firsts k n = firsts k' n
  | 0, _ => rfl
  | n + 1, h => by
    have e := firsts_same (k := k) (k' := k') (n := n) fun i j hi hj => h i j (by omega) (by omega)
    rw [firsts_succ, firsts_succ, ← e]
    have ef : (firsts k n).findIdx? (fun a => decide (k a = k n)) = (firsts k n).findIdx? (fun a => decide (k' a = k' n)) := by
      have : ∀ l : List Nat, (∀ a ∈ l, a < n) → l.findIdx? (fun a => decide (k a = k n)) = l.findIdx? (fun a => decide (k' a = k' n)) := by
        intro l
        induction l with
        | nil => intro _; rfl
        | cons a l ih =>
          intro hl
          have ha := hl a List.mem_cons_self
          rw [List.findIdx?_cons, List.findIdx?_cons, ih fun b hb => hl b (List.mem_cons_of_mem _ hb), decide_eq_decide.2 (h a n (by omega) (by omega))]
      exact this _ fun a ha => firsts_lt ha
    rw [ef]
abbrev V0 : Voc := vocOf sAw tAw
theorem aw_ms : V0.ms = [(97, 98)] := by decide +kernel
theorem aw_ex : ∀ i : Nat, i < 256 → V0.ex (i : Int) = [(i : Int)] := by decide +kernel
theorem aw_ex2 : V0.ex 256 = [97, 98] := by decide +kernel
theorem aw_cut (x y : Int) (hx : 0 ≤ x) (hy : 0 ≤ y) : V0.cut x y = false := by
  unfold Voc.cut
  rw [decide_eq_false (by omega), decide_eq_false (by omega), Bool.false_or, Bool.false_or]
  show cutB [] [] x y = false
  unfold cutB
  exact decide_eq_false fun e => e.1 rfl
theorem aw_chop : ∀ Z : List Int, Z ≠ [] → (∀ x ∈ Z, 0 ≤ x) → chop V0.cut Z = [Z]
  | [], h, _ => absurd rfl h
  | [x], _, _ => rfl
  | x :: y :: r, _, h => by
    have hx := h x (by simp)
    have hy := h y (by simp)
    rw [chop, if_neg (by rw [aw_cut x y hx hy]; exact Bool.false_ne_true), aw_chop (y :: r) (by simp) fun z hz => h z (List.mem_cons_of_mem _ hz)]
theorem aw_enc (Z : List Int) (h : Z ≠ []) (h0 : ∀ x ∈ Z, 0 ≤ x) : V0.encode Z = pass 97 98 256 Z := by
  unfold Voc.encode
  rw [aw_chop Z h h0, List.flatMap_cons, List.flatMap_nil, List.append_nil]
  cases Z with
  | nil => exact absurd rfl h
  | cons x r =>
    have := h0 x List.mem_cons_self
    show (if x < 0 then _ else after V0.ms V0.ms.length (x :: r)) = _
    rw [if_neg (by omega), aw_ms]
    rfl
theorem aw_items (t : Int) : V0.items t = V0.ex t := rfl
theorem aw_gid {i : Nat} (hi : i < 257) : (gids sAw tAw).getD i 0 = (i : Int) := by
  have h : ∀ i : Nat, i < 257 → (gids sAw tAw).getD i 0 = (i : Int) := by decide +kernel
  exact h i hi
theorem aw_ex3 {i : Nat} (hi : i < 257) : (i = 256 ∧ V0.ex (i : Int) = [97, 98]) ∨ (i < 256 ∧ V0.ex (i : Int) = [(i : Int)]) := by
  by_cases e : i = 256
  · subst e; exact .inl ⟨rfl, aw_ex2⟩
  · exact .inr ⟨by omega, aw_ex i (by omega)⟩
theorem rel_aw {i j : Nat} (hi : i < 257) (hj : j < 257) : relB sAw tAw i j = !(decide (i = 97) && decide (j = 98)) := by
  unfold relB
  rw [aw_gid hi, aw_gid hj]
  have e : (V0.Canon [(i : Int), (j : Int)]) ↔ pass 97 98 256 (V0.ex (i : Int) ++ V0.ex (j : Int)) = [(i : Int), (j : Int)] := by
    unfold Voc.Canon Voc.itemsAll
    simp only [List.flatMap_cons, List.flatMap_nil, List.append_nil, aw_items]
    rw [aw_enc]
    · rcases aw_ex3 hi with ⟨_, h⟩ | ⟨_, h⟩ <;> rw [h] <;> simp
    · intro x hx
      rcases aw_ex3 hi with ⟨_, h⟩ | ⟨_, h⟩ <;> rcases aw_ex3 hj with ⟨_, h'⟩ | ⟨_, h'⟩ <;> rw [h, h'] at hx <;> simp at hx <;> omega
  rw [Bool.eq_iff_iff, decide_eq_true_iff, e]
  rcases aw_ex3 hi with ⟨rfl, h⟩ | ⟨h1, h⟩ <;> rcases aw_ex3 hj with ⟨rfl, h'⟩ | ⟨h2, h'⟩ <;> simp only [h, h']
  · decide
  · have : pass 97 98 256 ([97, 98] ++ [(j : Int)]) = [256, (j : Int)] := by simp [pass]
    rw [this]
    simp
  · have : pass 97 98 256 ([(i : Int)] ++ [97, 98]) = [(i : Int), 256] := by
      show pass 97 98 256 ((i : Int) :: 97 :: [98]) = _
      rw [pass_no _ (by omega), pass_yes]
      rfl
    rw [this]
    simp
  · by_cases e1 : i = 97 ∧ j = 98
    · obtain ⟨rfl, rfl⟩ := e1
      decide
    · have : pass 97 98 256 ([(i : Int)] ++ [(j : Int)]) = [(i : Int), (j : Int)] := by
        show pass 97 98 256 ((i : Int) :: (j : Int) :: []) = _
        rw [pass_no _ (by omega)]
        rfl
      rw [this]
      have : (decide (i = 97) && decide (j = 98)) = false := by
        rw [← Bool.decide_and]
        exact decide_eq_false e1
      rw [this]
      simp
theorem al_aw {i : Nat} (hi : i < 257) : alB sAw tAw i = true := by
  unfold alB
  rw [aw_gid hi]
  refine decide_eq_true ?_
  show V0.encode (V0.itemsAll [(i : Int)]) = [(i : Int)]
  unfold Voc.itemsAll
  simp only [List.flatMap_cons, List.flatMap_nil, List.append_nil, aw_items]
  rcases aw_ex3 hi with ⟨rfl, h⟩ | ⟨h1, h⟩
  · rw [h, aw_enc _ (by simp) (by intro x hx; simp at hx; omega)]
    rfl
  · rw [h, aw_enc _ (by simp) (by intro x hx; simp at hx; omega)]
    rfl
theorem gN_aw : gN sAw tAw = 257 := gids_aw
theorem rowF_aw : (rowF sAw tAw).length = 2 := by
  have e : rowF sAw tAw = firsts (fun i => decide (i = 97)) 257 := by
    unfold rowF
    rw [gN_aw]
    refine firsts_same fun i j hi hj => ?_
    rw [row_eq, gN_aw]
    constructor
    · intro h
      have := h 98 (by decide)
      rw [rel_aw hi (by decide), rel_aw hj (by decide)] at this
      simpa using this
    · intro h m hm
      rw [rel_aw hi hm, rel_aw hj hm, h]
  rw [e]
  decide +kernel
theorem colF_aw : (colF sAw tAw).length = 2 := by
  have e : colF sAw tAw = firsts (fun i => decide (i = 98)) 257 := by
    unfold colF
    rw [gN_aw]
    refine firsts_same fun i j hi hj => ?_
    rw [col_all (by rw [gN_aw]; exact hi) (by rw [gN_aw]; exact hj), gN_aw]
    constructor
    · rintro ⟨_, h⟩
      have := h 97 (by decide)
      rw [rel_aw (by decide) hi, rel_aw (by decide) hj] at this
      simpa using this
    · intro h
      refine ⟨by rw [al_aw hi, al_aw hj], fun a ha => ?_⟩
      rw [rel_aw ha hi, rel_aw ha hj, h]
  rw [e]
  decide +kernel
theorem gAw4 : gHas sAw tAw 256 98 = true := by decide +kernel
theorem rise_aw : RiseG sAw tAw := gids_rising List.Pairwise.nil (by intro y hy; cases hy)
theorem awake16_spec (w : World) : Calls Tryz.prog 22 #[] w fun e w' => e = .returned (.bool true) ∧ Below w.heap.size w w' := by
  refine calls_ret (vc22_calls w (fun u w' => u = .bool true ∧ Below w.heap.size w w') ?_) (by rintro v w' ⟨rfl, h⟩; exact ⟨rfl, h⟩)
  intro w1 hw1
  have hb1 : Below w.heap.size w w1 := by subst hw1; exact below_alloc _ _
  refine (vocabNew_spec w1 _ sAw (specAt_aw w w1 hw1)).mono ?_
  rintro e w2 ⟨u, rfl, hb2, hp⟩
  rw [if_pos right_aw, build_aw] at hp
  obtain ⟨v, rfl, hV, hv⟩ := hp
  have hb12 := below_then hb1 hb2
  have hz1 := hb1.size
  refine ⟨_, _, _, rfl, ?_⟩
  refine (gridNew_spec w2 v sAw tAw hV List.Pairwise.nil 1048576).mono ?_
  rintro e w3 ⟨u, rfl, hV3, t3, hu⟩
  rw [gids_aw, if_neg (by decide)] at hu
  obtain ⟨g, rfl, hG, hg⟩ := hu
  have hb3 : Below w.heap.size w w3 := hb12.trans (t3.below (by omega) hb12.size)
  have hgl : g < w3.heap.size := by
    obtain ⟨ids, rows, alone, mb, rs, hR⟩ := hG
    exact (Array.getElem?_eq_some_iff.1 hR.blk).1
  have hn : gN sAw tAw ≤ 1032 := by rw [gN_aw]; decide
  refine ⟨_, _, rfl, (foldNew_spec w3 g sAw tAw hG hn rise_aw hgl).mono ?_⟩
  rintro e w4 ⟨f, rfl, hF, b4⟩
  refine ⟨_, rfl, CondP.yes rfl ((fRows_spec w4 f g sAw tAw hF).mono ?_)⟩
  rintro e w5 ⟨rfl, rfl⟩
  rw [rowF_aw]
  refine ⟨_, rfl, CondP.yes rfl ((fCols_spec w5 f g sAw tAw hF).mono ?_)⟩
  rintro e w6 ⟨rfl, rfl⟩
  rw [colF_aw]
  refine ⟨_, rfl, CondP.yes rfl ((fBits_spec w6 f g sAw tAw hF hn).mono ?_)⟩
  rintro e w7 ⟨rfl, rfl⟩
  rw [rowF_aw, colF_aw]
  refine ⟨_, rfl, CondP.yes rfl ((fHas_spec w7 f g sAw tAw hF 97 98).mono ?_)⟩
  rintro e w8 ⟨rfl, rfl⟩
  rw [gAw1]
  refine ⟨_, rfl, CondP.yes rfl ((fHas_spec w8 f g sAw tAw hF 256 98).mono ?_)⟩
  rintro e w9 ⟨rfl, rfl⟩
  rw [gAw4]
  exact ⟨_, rfl, rfl, below_then hb3 b4⟩
end Go.Proofs.YtboemnagahmlkaaGreat.Eng

/- A grid and its fold; the classes go by what is alike. -/
set_option linter.unusedVariables false
set_option linter.unusedSimpArgs false
set_option maxRecDepth 100000
namespace Go.Proofs.YtboemnagahmlkaaGreat.Eng
open Go Go.RowKit
/-- A grid and its fold, of some tokens; what is known of the tokens. -/
structure BothF (w : World) (g f : Nat) (s : SpecV) (T : List Ent) : Prop where
  grid : GrIs w g s T
  fold : FoldIs w f g s T
  n : gN s T ≤ 1006
  pos : 0 < gN s T
  rise : RiseG s T
  ok : TOk T
  vok : (vocOf s T).Ok
theorem BothF.on {w w' : World} {g f : Nat} {s : SpecV} {T : List Ent} (h : BothF w g f s T) (hb : Below w.heap.size w w') : BothF w' g f s T := ⟨h.grid.on hb, h.fold.on hb, h.n, h.pos, h.rise, h.ok, h.vok⟩
theorem both_spec2 (w : World) (y : CsW) (ls : List Int) (cs : List (Int × Int × Int)) (js : List (Int × Int)) (xs : List (Int × Bs)) (h : CsAt w y ls cs js xs) :
    Calls Tryz.prog 23 #[y.v] w fun e w' => ∃ g f s T, s = someV ls cs js xs ∧ buildV s = .ok T ∧ e = .returned (.tuple #[.pointer (some ⟨g, 0, none⟩), .pointer (some ⟨f, 0, none⟩)]) ∧ BothF w' g f s T ∧ Below w.heap.size w w' := by
  refine calls_ret (vc23_calls y.l.a y.l.n y.l.c y.c.a y.c.n y.c.c y.j.a y.j.n y.j.c y.x.a y.x.n y.x.c w (fun u w' => ∃ g f s T, s = someV ls cs js xs ∧ buildV s = .ok T ∧ u = .tuple #[.pointer (some ⟨g, 0, none⟩), .pointer (some ⟨f, 0, none⟩)] ∧ BothF w' g f s T ∧ Below w.heap.size w w') ?_) (by rintro v w' ⟨g, f, s, T, es, eT, rfl, h⟩; exact ⟨g, f, s, T, es, eT, rfl, h⟩)
  intro w1 hw1
  have hb1 : Below w.heap.size w w1 := by subst hw1; exact below_alloc _ _
  have l1 : w1.heap[w.heap.size]? = some (.cells y.cells tCs (0, 0)) := by subst hw1; exact alloc_new _ _
  refine ⟨_, _, _, _, _, _, _, _, _, _, _, _, agg4 l1, ?_⟩
  refine (lawOf_spec2 w1 y ls cs js xs (h.on hb1)).mono ?_
  rintro e w7 ⟨u, rfl, v, r, s, T, rfl, hB7, hv, b7, hs0, hT0⟩
  have hb7 := below_then hb1 b7
  refine ⟨_, _, _, _, _, _, _, _, _, _, _, _, _, _, _, _, rfl, ?_⟩
  intro w8 hw8
  refine storeP_new (slRv rv0) (slRv r) rfl (ones_rv r) w8 hw8 ?_
  intro w0 h0 hz0 b0
  have hB := hB7.on b0
  have hb0 := below_then hb7 b0
  have hz1 := hb1.size
  obtain ⟨hl, hsq⟩ := gids_few hB
  refine (gridNew_spec w0 v s T hB.voc hB.asc 1048576).mono ?_
  rintro e w10 ⟨u, rfl, hV10, t10, hu⟩
  rw [if_neg (by omega)] at hu
  obtain ⟨g, rfl, hG, hg⟩ := hu
  have hb10 : Below w.heap.size w w10 := hb0.trans (t10.below (by omega) hb0.size)
  have hgl : g < w10.heap.size := by
    obtain ⟨ids, rows, alone, mb, rs, hR⟩ := hG
    exact (Array.getElem?_eq_some_iff.1 hR.blk).1
  have hrise : RiseG s T := gids_rising hB.asc (by
    obtain ⟨w0', x, tp, bp, mp, d, l, uses, hR⟩ := hB.voc
    exact hR.now.ids)
  have hn : gN s T ≤ 1006 := hl
  refine ⟨_, _, rfl, CondP.no rfl ((foldNew_spec w10 g s T hG (by omega) hrise hgl).mono ?_)⟩
  rintro e w11 ⟨f, rfl, hF, b11⟩
  have hok := hB.now.ok
  refine ⟨_, rfl, g, f, s, T, hs0, hT0, rfl, ⟨hG.on b11, hF, hn, ?_, hrise, hok, hB.now.vok⟩, below_then hb10 b11⟩
  have := hok.len
  unfold gN
  rw [gids_length]
  omega
end Go.Proofs.YtboemnagahmlkaaGreat.Eng

/- What the classes tell is what the grid tells; the fold's first offence is the reference's. -/
set_option linter.unusedVariables false
set_option linter.unusedSimpArgs false
set_option maxRecDepth 100000
namespace Go.Proofs.YtboemnagahmlkaaGreat.Eng
open Go Go.RowKit
theorem FoldTells_spec (w : World) (y : CsW) (ls : List Int) (cs : List (Int × Int × Int)) (js : List (Int × Int)) (xs : List (Int × Bs)) (h : CsAt w y ls cs js xs) (A : Option Addr) (C : Nat) (ids : List Int) (hr : Rw encInt 1 w A ids) (hC : ids.length ≤ C) :
    Calls Tryz.prog 5 #[y.v, .slice A ids.length C] w fun e w' => e = .returned (.bool true) ∧ Below w.heap.size w w' := by
  refine calls_ret (vc5_calls y.l.a y.l.n y.l.c y.c.a y.c.n y.c.c y.j.a y.j.n y.j.c y.x.a y.x.n y.x.c A ids.length C w (fun u w' => u = .bool true ∧ Below w.heap.size w w') ?_) (by rintro v w' ⟨rfl, h⟩; exact ⟨rfl, h⟩)
  intro w1 hw1
  have hb1 : Below w.heap.size w w1 := by subst hw1; exact below_alloc _ _
  have l1 : w1.heap[w.heap.size]? = some (.cells y.cells tCs (0, 0)) := by subst hw1; exact alloc_new _ _
  refine ⟨_, _, _, _, _, _, _, _, _, _, _, _, agg4 l1, ?_⟩
  refine (lawGreat_spec w1 y ls cs js xs (h.on hb1)).mono ?_
  rintro e w2 ⟨n, rfl, b2⟩
  have hb2 := below_then hb1 b2
  have aw : ∀ {q : World}, Below w.heap.size w q → Calls Tryz.prog 22 #[] q fun e w' => ∃ b : Bool, e = .returned (.bool b) ∧ (Value.bool b = Value.bool true ∧ Below w.heap.size w w') := by
    intro q hq
    refine (awake16_spec q).mono ?_
    rintro e w3 ⟨rfl, b3⟩
    exact ⟨true, rfl, rfl, below_then hq b3⟩
  refine ⟨n, rfl, CondP.mk (fun _ => aw hb2) fun _ => CondP.mk (fun _ => aw hb2) fun h12 => ?_⟩
  have h12 := of_decide_eq_false h12
  refine (awake16_spec w2).mono ?_
  rintro e w6 ⟨rfl, b6⟩
  have hb6 := below_then hb2 b6
  have l6 := held_on b6 (held_on b2 l1)
  refine ⟨_, rfl, CondP.no rfl ⟨_, _, _, _, _, _, _, _, _, _, _, _, agg4 l6, ?_⟩⟩
  refine (both_spec2 w6 y ls cs js xs (h.on hb6)).mono ?_
  rintro e w7 ⟨g, f, s, T, hs0, hT0, rfl, hB, b7⟩
  have hb7 := below_then hb6 b7
  refine ⟨_, _, rfl, _, _, _, _, _, _, _, _, _, _, _, _, agg4 (held_on b7 l6), ?_⟩
  refine (lawOf_spec2 w7 y ls cs js xs (h.on hb7)).mono ?_
  rintro e w8 ⟨u, rfl, v, r, s', T', rfl, hB8, hv, b8, hs1, hT1⟩
  obtain rfl : s' = s := hs1.trans hs0.symm
  obtain rfl : T' = T := by rw [hT0] at hT1; cases hT1; rfl
  have hb8 := below_then hb7 b8
  refine ⟨_, _, _, _, _, _, _, _, _, _, _, _, _, _, _, _, rfl, ?_⟩
  intro w9 hw9
  refine storeP_new (slRv rv0) (slRv r) rfl (ones_rv r) w9 hw9 ?_
  intro w0 h0 hz0 b0
  have hR := hB8.on b0
  have hF := hB.on (below_then b8 b0)
  have hb0 := below_then hb8 b0
  have hn := hF.n
  have hn2 : (gids s' T').length ≤ 1032 := by unfold gN at hn; omega
  refine CondP.no rfl (CondP.no rfl ?_)
  intro I hI
  have key := climb2 (α := World) ids.length (fun i q => Below w0.heap.size w0 q) (fun i q => ∀ y4, I [.int .i64 (i : Int), .bool y4] q) w0 (Below.refl _ _) ?_ ?_
  · exact key _
  · rintro i hi ih q hq y4
    refine hI _ _ _ (CondP.yes (decide_eq_true (by omega)) ?_)
    intro q1 hq1
    have hq1' := below_then hq (show Below q.heap.size q q1 by subst hq1; exact drew_on q)
    obtain ⟨p1, hp1, c1⟩ := cell_rw (hr.on (below_then hb0 hq1')) hi rfl
    have hF1 := hF.on hq1'
    refine NilC.mk p1 hp1 ⟨by omega, by omega, _, c1, NilC.mk p1 hp1 ⟨by omega, by omega, _, c1, (fAlone_spec q1 f g s' T' hF1.fold _).mono ?_⟩⟩
    rintro e q2 ⟨rfl, rfl⟩
    refine ⟨_, rfl, ⟨c1, trivial⟩, (gAlone_spec q2 g s' T' hF1.grid hn2 _).mono ?_⟩
    rintro e q3 ⟨rfl, rfl⟩
    refine ⟨_, rfl, CondP.no (by simp) ?_⟩
    intro I2 hI2
    have key2 := climb2 (α := World) ids.length (fun k z => Below w0.heap.size w0 z) (fun k z => ∀ y4, I2 [.int .i64 (k : Int), .bool y4] z) q3 hq1' ?_ ?_
    · exact key2 _
    · rintro k hk ih2 z hz y5
      refine hI2 _ _ _ (CondP.yes (decide_eq_true (by omega)) ?_)
      intro z1 hz1
      have hz1' := below_then hz (show Below z.heap.size z z1 by subst hz1; exact drew_on z)
      have hrz := hr.on (below_then hb0 hz1')
      obtain ⟨pi, hpi, ci⟩ := cell_rw hrz hi rfl
      obtain ⟨pk, hpk, ck⟩ := cell_rw hrz hk rfl
      have hFz := hF.on hz1'
      refine NilC.mk pi hpi ⟨by omega, by omega, _, ci, NilC.mk pk hpk ⟨by omega, by omega, _, ck, NilC.mk pi hpi ⟨by omega, by omega, _, ci, NilC.mk pk hpk ⟨by omega, by omega, _, ck, (fHas_spec z1 f g s' T' hFz.fold _ _).mono ?_⟩⟩⟩⟩
      rintro e z2 ⟨rfl, rfl⟩
      refine ⟨_, rfl, ⟨ck, trivial⟩, ⟨ci, trivial⟩, (gHas_spec z2 g s' T' hFz.grid hn2 _ _).mono ?_⟩
      rintro e z3 ⟨rfl, rfl⟩
      exact ⟨_, rfl, CondP.no (by simp) (Ar.nat (k + 1) rfl (by omega) (ih2 _ hz1' _))⟩
    · rintro z hz y5
      exact hI2 _ _ _ (CondP.no (decide_eq_false (by omega)) (Ar.nat (i + 1) rfl (by omega) (ih _ hz _)))
  · rintro q hq y4
    refine hI _ _ _ (CondP.no (decide_eq_false (by omega)) ?_)
    have hbq := below_then hb0 hq
    have hFq := hF.on hq
    refine (fFirst_spec q f g s' T' hFq.fold hFq.ok hFq.vok A C ids (hr.on hbq) (by omega)).mono ?_
    rintro e w11 ⟨o, rfl, ho, rfl⟩
    refine ⟨_, _, rfl, _, _, _, _, _, _, _, _, _, _, _, _, _, _, _, agg5 (x := r) (held_on hq h0), ?_⟩
    refine (refFirst_spec w11 r s' T' (hR.on hq).now A C ids (hr.on hbq) hC (by omega)).mono ?_
    rintro e w12 ⟨o', rfl, ho', b12⟩
    obtain rfl := firstR_unique ho ho'
    have hb12 := below_then hbq b12
    refine ⟨_, rfl, ?_⟩
    cases o with
    | none => exact CondP.yes rfl (CondP.no rfl (CondP.yes rfl ⟨rfl, hb12⟩))
    | some k =>
      refine CondP.yes ?_ (CondP.yes rfl (CondP.yes ?_ ⟨rfl, hb12⟩))
      · show (true == decide (((k : Nat) : Int) ≥ 0)) = true
        rw [decide_eq_true (by omega)]
        rfl
      · show ((((k : Nat) : Int)) == ((k : Nat) : Int)) = true
        simp
end Go.Proofs.YtboemnagahmlkaaGreat.Eng

/- The frame of a law's row where no variable is laid. -/
set_option linter.unusedVariables false
namespace Go.Proofs.YtboemnagahmlkaaGreat.Eng
open Go Go.RowKit
theorem law_frame0 {H : Type} {enc : TypeId × Value → H} {C : Checked} {os : Os} {f : FuncId} {fn : Func} {s : ChangeSpec}
    (own : ownKnob C.prog.godebug = none) (started : os.Started) (noInit : C.prog.inits.idxOf? f = none) (hfn : C.prog.funcs[f]? = some fn)
    (witness : ∃ (w : World) (tape : Tape) (i : Input), w.os = os ∧ (w.forCall tape i).Shaped C.prog ∧ i.vars = [] ∧ Input.okWide C.prog (w.forCall tape i) .any w.heap.size f i ∧
      ((s.pre enc C.prog fn [] false (w.forCall tape i).memory i.args ∧ True) ∧ sizedMet enc C.prog fn (OpenSpec.ofChange s) false (w.forCall tape i).memory i.args) ∧ ({} : Assume).holds C.prog (lone (Frame.enter C.prog f i.args .normal) [] (w.forCall tape i)))
    (contract : ∀ (W : World) (base : Nat) (args : Array Value) (ds gs : List (DataW H)) (before : List MemPlace),
      (∀ (j : Nat) t v, fn.params[j]? = some t → args[j]? = some v → Value.okWide C.prog W .any base t v) →
      DataW.Whole enc C.prog fn.params.toList s.vars false W args.toList ds gs before →
      (DataW.weightsEach C.prog (fn.params.toList ++ s.plain.varTypes C.prog) (ds ++ gs)).all (· ≤ reachBytes) = true →
      W.ShapedOpen C.prog →
      Calls C.prog f args W fun e W' => ∃ v, e = .returned v ∧ s.post enc C.prog fn false true false false W args v W') :
    ReturnsInHanded {} C os f .any (fun w args => s.pre enc C.prog fn [] false w args ∧ sizedMet enc C.prog fn (OpenSpec.ofChange s) false w args) (s.post enc C.prog fn false true false false) := by
  have witness' : ∃ (w : World) (tape : Tape) (i : Input), w.os = os ∧ (w.forCall tape i).Shaped C.prog ∧ i.vars = [] ∧ Input.okWide C.prog (w.forCall tape i) .any w.heap.size f i ∧
      (s.pre enc C.prog fn [] false (w.forCall tape i).memory i.args ∧ sizedMet enc C.prog fn (OpenSpec.ofChange s) false (w.forCall tape i).memory i.args) ∧ ({} : Assume).holds C.prog (lone (Frame.enter C.prog f i.args .normal) [] (w.forCall tape i)) := by
    obtain ⟨w, tape, i, h1, h2, h3, h4, ⟨⟨h5, _⟩, h6⟩, h7⟩ := witness
    exact ⟨w, tape, i, h1, h2, h3, h4, ⟨h5, h6⟩, h7⟩
  refine returnsInHanded_of_calls own started noInit witness' ?_
  intro w tape i _ hshape _ hok hpre _
  obtain ⟨_, _, _, fn', hfn', _, _, _, _, hval⟩ := hok
  obtain rfl : fn' = fn := Option.some.inj (hfn'.symm.trans hfn)
  obtain ⟨⟨ds, gs, before, hw, _⟩, hz⟩ := hpre
  refine (contract (w.forCall tape i) w.heap.size i.args ds gs before hval (DataW.Whole.of_heap (w' := w.forCall tape i) (by rfl) hw) (hz.weights hw) hshape).mono ?_
  rintro e W' ⟨v, rfl, hp⟩
  exact ChangeSpec.post_blind hp
end Go.Proofs.YtboemnagahmlkaaGreat.Eng
