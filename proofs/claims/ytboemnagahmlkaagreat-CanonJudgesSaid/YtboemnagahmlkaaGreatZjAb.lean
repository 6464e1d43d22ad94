/- Groups, walked by the engine. -/
import Derived.Test.YtboemnagahmlkaaGreatZjVf
import Derived.Laws.CopyRow
import Derived.Test.YtboemnagahmlkaaGreatZjVc
set_option linter.unusedVariables false
set_option linter.unusedSimpArgs false
set_option maxRecDepth 100000
namespace Go.Proofs.YtboemnagahmlkaaGreat.Eng
open Go Go.RowKit
section
variable {κ : Type} [DecidableEq κ] [BEq κ] [LawfulBEq κ] {kv : κ → Value}
def gkm7 (k : Nat → κ) (i : Nat) : List (κ × Value) := (firsts k i).zipIdx.map fun x => (k x.1, .int .i64 (x.2 : Int))
theorem look_gkm7 (k : Nat → κ) (i : Nat) : look (k i) (gkm7 k i) = ((firsts k i).findIdx? fun a => decide (k a = k i)).map fun c : Nat => Value.int .i64 (c : Int) := by
 have := look_zipf k (k i) (firsts k i) 0
 simp only [Nat.zero_add] at this
 rw [show look (k i) (gkm7 k i) = _ from this]
 congr 1
 rw [List.idxOf?, List.findIdx?_map]
 congr 1
 funext a
 show (k a == k i) = _
 by_cases h : k a = k i
 ·simp [h]
 ·simp [h]
end
section
variable {κ : Type} [DecidableEq κ]
theorem gkm7_new {k : Nat → κ} {i : Nat} (h : firsts k (i + 1) = firsts k i ++ [i]) : gkm7 k (i + 1) = gkm7 k i ++ [(k i, .int .i64 (((firsts k i).length : Nat) : Int))] := by
 unfold gkm7
 rw [h, List.zipIdx_append, List.map_append]
 simp
theorem gkm7_length (k : Nat → κ) (i : Nat) : (gkm7 k i).length = (firsts k i).length := by simp [gkm7]
end
section
variable {κ : Type} {kv : κ → Value}
theorem run_mlen {t kt et : TypeId} (ht : Tryz.prog.underlying t = some (.map kt et)) {w : World} {r : Nat} {m : List (κ × Value)} (h : MapIs kv w r m) (t2 : TypeId) : (Builtin.len_ #[t] t2 #[.map (some r)]).run Tryz.prog w = .ok (.int .i64 (m.length : Int)) w := by
 obtain ⟨es, clock, hb, hm, _⟩ := h
 have : es.size = m.length := by
  have := congrArg List.length hm
  simpa using this
 rw [← this]
 simp [Builtin.len_, Sem.run_bind, run_underlying ht, Result.andThen, getObj_is hb, goInt]
end
def boolKey (b : Bool) : Value := .bool b
theorem keysT : KeyTy Tryz.prog tBool Bool boolKey := by
 refine keys_now (d := .bool) (by kernel_rfl) (fun a b => by cases a <;> cases b <;> rfl) (fun e k w => ?_)
 unfold Instr.checkKey
 simp [run_underlying (show Tryz.prog.underlying tBool = some .bool by kernel_rfl), Result.andThen]
theorem undMapT : Tryz.prog.underlying 299 = some (.map tBool tInt) := by kernel_rfl
theorem groupT_spec (w : World) (n : Nat) (key : Value) (k : Nat → Bool) (hn : n ≤ 10000) (his : ∀ i, i < n → ∀ w1, Below w.heap.size w w1 → CallG ctx key [.int .i64 (i : Int)] w1 (fun e w2 => e = .returned (boolKey (k i)) ∧ Below w1.heap.size w1 w2)) :
  CP 161 #[.int .i64 (n : Int), key] w fun e w' => ∃ of : Sl, e = .returned (.tuple #[of.v, .int .i64 (((firsts k n).length : Nat) : Int)]) ∧ of.n = n ∧ w'.ownsRow w.heap.size tInt 1 of.v of.n (((List.range n).map fun i => ((clsOf k i : Nat) : Int)).flatMap encInt) ∧ Below w.heap.size w w' := by
 refine calls_ret (vc161_calls n key w (fun u w' => ∃ of : Sl, u = .tuple #[of.v, .int .i64 (((firsts k n).length : Nat) : Int)] ∧ of.n = n ∧ w'.ownsRow w.heap.size tInt 1 of.v of.n (((List.range n).map fun i => ((clsOf k i : Nat) : Int)).flatMap encInt) ∧ Below w.heap.size w w') ?_) (by rintro v w' ⟨of, rfl, h⟩; exact ⟨of, rfl, h⟩)
 refine ⟨_, _, run_make _, ?_⟩
 have b1 := below_alloc w (.map #[] 0)
 have m1 : MapIs boolKey (w.alloc (.map #[] 0)) w.heap.size (gkm7 k 0) := map_new w
 obtain ⟨w1, hw1⟩ : ∃ w1, w1 = w.alloc (.map #[] 0) := ⟨_, rfl⟩
 rw [← hw1] at b1 m1
 rw [← hw1]
 refine ⟨some (nb w1), n, n, _, run_makeInts w1 n (by omega), ?_⟩
 have b2 := below_alloc w1 (.cells (Array.replicate n (.int .i64 0)) tInt)
 obtain ⟨f, hf⟩ : ∃ f : Nat → Int, f = fun i => ((clsOf k i : Nat) : Int) := ⟨_, rfl⟩
 have o2 := own_part (enc := encInt) (0 : Int) (.int .i64 0) rfl tInt f w1 (n := n) (by omega)
 obtain ⟨l, hl⟩ : ∃ l : Sl, l = ⟨some (nb w1), n, n⟩ := ⟨_, rfl⟩
 have hln : l.n = n := by subst hl; rfl
 have hla : l.a = some (nb w1) := by subst hl; rfl
 obtain ⟨w2, hw2⟩ : ∃ w2, w2 = w1.alloc (.cells (Array.replicate n (.int .i64 0)) tInt) := ⟨_, rfl⟩
 rw [← hw2] at b2 o2
 rw [← hw2]
 have s1 : w.heap.size < w1.heap.size := m1.lt
 intro I hI
 have key := climb2 (α := World) n (fun i q => q.ownsRow w1.heap.size tInt 1 l.v l.n ((part 0 f n i).flatMap encInt) ∧ MapIs boolKey q w.heap.size (gkm7 k i) ∧ Below w.heap.size w q) (fun i q => I [.int .i64 (i : Int)] q) w2 ⟨by subst hl; exact o2, m1.on b2, below_then b1 b2⟩ ?_ ?_
 ·exact key
 ·rintro i hi ih q ⟨ho, hm, hB⟩
  refine hI _ _ (CondP.yes (decide_eq_true (by omega)) ((his i hi q hB).mono ?_))
  rintro e w5 ⟨rfl, b5⟩
  have hB5 := below_then hB b5
  have ho5 := own_on ho b5
  have hm5 := hm.on b5
  have hl5 := run_look keysT undMapT zeroInt hm5 (k i)
  rw [look_gkm7] at hl5
  refine ⟨_, rfl, ?_⟩
  have next : ∀ (z : World), z.ownsRow w1.heap.size tInt 1 l.v l.n ((part 0 f n i).flatMap encInt) → MapIs boolKey z w.heap.size (gkm7 k (i + 1)) → Below w.heap.size w z →
    NilC (some (nb w1)) (fun pa => (0 : Int) ≤ (i : Int) ∧ (i : Int) < ((n : Nat) : Int) ∧
     (Value.int .i64 ((clsOf k i : Nat) : Int)).oneCell' = true ∧ (∃ u, z.cell? (pa.add ((i : Int).toNat * 1)) = some u) ∧ z.frozen? (pa.add ((i : Int).toNat * 1)) = false ∧
     ∀ w7 : World, w7 = (z.setCell (pa.add ((i : Int).toNat * 1)) (Value.int .i64 ((clsOf k i : Nat) : Int))) →
     Ar .i64 ((i : Int) + 1) (fun n_3 => I [Value.int .i64 n_3] w7)) := by
   intro z zo zm zB
   obtain ⟨u, fz, kk⟩ := own_write (l := l) (enc := encInt) (sz := 1) (fun _ => rfl) (by decide) zo (by rw [part_length]; exact hln) hla (part_get 0 f hi) (k := 0) (by decide) (f i) (.int .i64 (f i)) rfl
   rw [add_zero] at u fz kk
   refine NilC.mk _ rfl ⟨by omega, by omega, rfl, u, fz, ?_⟩
   intro w7 hw7
   rw [show ((clsOf k i : Nat) : Int) = f i by rw [hf]] at hw7
   obtain ⟨o7, s7, z7, b7⟩ := kk w7 hw7
   refine Ar.nat (i + 1) rfl (by omega) (ih w7 ⟨?_, zm.same (s7 _ (own_ne_map zo zm)), b7 _ _ (by omega) zB⟩)
   rw [part_set (0 : Int) f hi] at o7
   exact o7
  rcases firsts_step (k := k) i with ⟨c, hc, h2, h3, _⟩ | ⟨hc, h2, h3, _⟩
  ·rw [hc] at hl5
   refine ⟨_, _, w5, hl5, ?_⟩
   intro J hJ
   refine CondP.no rfl (hJ _ _ ?_)
   have := next w5 ho5 (by rw [show gkm7 k (i + 1) = gkm7 k i by unfold gkm7; rw [h2]]; exact hm5) hB5
   rw [h3] at this
   exact this
  ·rw [hc] at hl5
   refine ⟨_, _, w5, hl5, ?_⟩
   intro J hJ
   obtain ⟨w11, hr, hm11, hs11, hz11, hB11⟩ := run_put_new keysT undMapT hm5 (k i) (.int .i64 (((gkm7 k i).length : Nat) : Int)) (by rw [look_gkm7, hc]; rfl)
   refine CondP.yes rfl ⟨_, _, run_mlen undMapT hm5 _, w11, hr, hJ _ _ ?_⟩
   rw [gkm7_length] at hm11 ⊢
   have := next w11 (own_same ho5 fun j hj => hs11 j fun e => own_ne_map ho5 hm5 (by rw [hj, e])) (by rw [gkm7_new h2]; exact hm11) (hB11 _ _ (Nat.le_refl _) hB5)
   rw [h3] at this
   exact this
 ·rintro q ⟨ho, hm, hB⟩
  refine hI _ _ (CondP.no (decide_eq_false (by omega)) ⟨_, _, run_mlen undMapT hm _, l, ?_, hln, ?_, hB⟩)
  ·rw [gkm7_length]; subst hl; rfl
  ·rw [part_all, hf] at ho
   exact own_base ho (by omega)
theorem groupS_spec (w : World) (n : Nat) (key : Value) (k : Nat → Bs) (hn : n ≤ 10000) (his : ∀ i, i < n → ∀ w1, Below w.heap.size w w1 → CallG ctx key [.int .i64 (i : Int)] w1 (fun e w2 => e = .returned (strKey (k i)) ∧ Below w1.heap.size w1 w2)) :
  CP 163 #[.int .i64 (n : Int), key] w fun e w' => ∃ of : Sl, e = .returned (.tuple #[of.v, .int .i64 (((firsts k n).length : Nat) : Int)]) ∧ of.n = n ∧ w'.ownsRow w.heap.size tInt 1 of.v of.n (((List.range n).map fun i => ((clsOf k i : Nat) : Int)).flatMap encInt) ∧ Below w.heap.size w w' := by
 refine calls_ret (vc163_calls n key w (fun u w' => ∃ of : Sl, u = .tuple #[of.v, .int .i64 (((firsts k n).length : Nat) : Int)] ∧ of.n = n ∧ w'.ownsRow w.heap.size tInt 1 of.v of.n (((List.range n).map fun i => ((clsOf k i : Nat) : Int)).flatMap encInt) ∧ Below w.heap.size w w') ?_) (by rintro v w' ⟨of, rfl, h⟩; exact ⟨of, rfl, h⟩)
 refine ⟨_, _, run_make _, ?_⟩
 have b1 := below_alloc w (.map #[] 0)
 have m1 : MapIs strKey (w.alloc (.map #[] 0)) w.heap.size (gkm7 k 0) := map_new w
 obtain ⟨w1, hw1⟩ : ∃ w1, w1 = w.alloc (.map #[] 0) := ⟨_, rfl⟩
 rw [← hw1] at b1 m1
 rw [← hw1]
 refine ⟨some (nb w1), n, n, _, run_makeInts w1 n (by omega), ?_⟩
 have b2 := below_alloc w1 (.cells (Array.replicate n (.int .i64 0)) tInt)
 obtain ⟨f, hf⟩ : ∃ f : Nat → Int, f = fun i => ((clsOf k i : Nat) : Int) := ⟨_, rfl⟩
 have o2 := own_part (enc := encInt) (0 : Int) (.int .i64 0) rfl tInt f w1 (n := n) (by omega)
 obtain ⟨l, hl⟩ : ∃ l : Sl, l = ⟨some (nb w1), n, n⟩ := ⟨_, rfl⟩
 have hln : l.n = n := by subst hl; rfl
 have hla : l.a = some (nb w1) := by subst hl; rfl
 obtain ⟨w2, hw2⟩ : ∃ w2, w2 = w1.alloc (.cells (Array.replicate n (.int .i64 0)) tInt) := ⟨_, rfl⟩
 rw [← hw2] at b2 o2
 rw [← hw2]
 have s1 : w.heap.size < w1.heap.size := m1.lt
 intro I hI
 have key := climb2 (α := World) n (fun i q => q.ownsRow w1.heap.size tInt 1 l.v l.n ((part 0 f n i).flatMap encInt) ∧ MapIs strKey q w.heap.size (gkm7 k i) ∧ Below w.heap.size w q) (fun i q => I [.int .i64 (i : Int)] q) w2 ⟨by subst hl; exact o2, m1.on b2, below_then b1 b2⟩ ?_ ?_
 ·exact key
 ·rintro i hi ih q ⟨ho, hm, hB⟩
  refine hI _ _ (CondP.yes (decide_eq_true (by omega)) ((his i hi q hB).mono ?_))
  rintro e w5 ⟨rfl, b5⟩
  have hB5 := below_then hB b5
  have ho5 := own_on ho b5
  have hm5 := hm.on b5
  have hl5 := run_look keysB undMapB zeroInt hm5 (k i)
  rw [look_gkm7] at hl5
  refine ⟨_, rfl, ?_⟩
  have next : ∀ (z : World), z.ownsRow w1.heap.size tInt 1 l.v l.n ((part 0 f n i).flatMap encInt) → MapIs strKey z w.heap.size (gkm7 k (i + 1)) → Below w.heap.size w z →
    NilC (some (nb w1)) (fun pa => (0 : Int) ≤ (i : Int) ∧ (i : Int) < ((n : Nat) : Int) ∧
     (Value.int .i64 ((clsOf k i : Nat) : Int)).oneCell' = true ∧ (∃ u, z.cell? (pa.add ((i : Int).toNat * 1)) = some u) ∧ z.frozen? (pa.add ((i : Int).toNat * 1)) = false ∧
     ∀ w7 : World, w7 = (z.setCell (pa.add ((i : Int).toNat * 1)) (Value.int .i64 ((clsOf k i : Nat) : Int))) →
     Ar .i64 ((i : Int) + 1) (fun n_3 => I [Value.int .i64 n_3] w7)) := by
   intro z zo zm zB
   obtain ⟨u, fz, kk⟩ := own_write (l := l) (enc := encInt) (sz := 1) (fun _ => rfl) (by decide) zo (by rw [part_length]; exact hln) hla (part_get 0 f hi) (k := 0) (by decide) (f i) (.int .i64 (f i)) rfl
   rw [add_zero] at u fz kk
   refine NilC.mk _ rfl ⟨by omega, by omega, rfl, u, fz, ?_⟩
   intro w7 hw7
   rw [show ((clsOf k i : Nat) : Int) = f i by rw [hf]] at hw7
   obtain ⟨o7, s7, z7, b7⟩ := kk w7 hw7
   refine Ar.nat (i + 1) rfl (by omega) (ih w7 ⟨?_, zm.same (s7 _ (own_ne_map zo zm)), b7 _ _ (by omega) zB⟩)
   rw [part_set (0 : Int) f hi] at o7
   exact o7
  rcases firsts_step (k := k) i with ⟨c, hc, h2, h3, _⟩ | ⟨hc, h2, h3, _⟩
  ·rw [hc] at hl5
   refine ⟨_, _, w5, hl5, ?_⟩
   intro J hJ
   refine CondP.no rfl (hJ _ _ ?_)
   have := next w5 ho5 (by rw [show gkm7 k (i + 1) = gkm7 k i by unfold gkm7; rw [h2]]; exact hm5) hB5
   rw [h3] at this
   exact this
  ·rw [hc] at hl5
   refine ⟨_, _, w5, hl5, ?_⟩
   intro J hJ
   obtain ⟨w11, hr, hm11, hs11, hz11, hB11⟩ := run_put_new keysB undMapB hm5 (k i) (.int .i64 (((gkm7 k i).length : Nat) : Int)) (by rw [look_gkm7, hc]; rfl)
   refine CondP.yes rfl ⟨_, _, run_mlen undMapB hm5 _, w11, hr, hJ _ _ ?_⟩
   rw [gkm7_length] at hm11 ⊢
   have := next w11 (own_same ho5 fun j hj => hs11 j fun e => own_ne_map ho5 hm5 (by rw [hj, e])) (by rw [gkm7_new h2]; exact hm11) (hB11 _ _ (Nat.le_refl _) hB5)
   rw [h3] at this
   exact this
 ·rintro q ⟨ho, hm, hB⟩
  refine hI _ _ (CondP.no (decide_eq_false (by omega)) ⟨_, _, run_mlen undMapB hm _, l, ?_, hln, ?_, hB⟩)
  ·rw [gkm7_length]; subst hl; rfl
  ·rw [part_all, hf] at ho
   exact own_base ho (by omega)
abbrev tAuto : TypeId := 136
abbrev tIntss : TypeId := 120
theorem undIntss : Tryz.prog.underlying tIntss = some (.slice tInts) := by kernel_rfl
theorem infoIntss : (Tryz.prog.info? tInts).map (fun i => (i.zero, i.size, i.bytes)) = some (some (.slice none 0 0), 1, 24) := by kernel_rfl
theorem elIntss : ElT encS 1 tIntss tInts 24 := ⟨fun _ => rfl, by decide, fun x u hu => by rw [List.mem_singleton.1 hu]; rfl, undIntss, _, infoIntss, rfl⟩
abbrev nat1 (l : List Nat) : List Value := (l.map fun i : Nat => (i : Int)).flatMap encInt
structure AutR (w : World) (M : Aut) (next good : Sl) (rs : List Sl) : Prop where
 onx : w.ownsRow 0 tInts 1 next.v next.n (rs.flatMap encS)
 rl : rs.length = M.N
 each : ∀ (i : Nat) (r : Sl), rs[i]? = some r → w.ownsRow 0 tInt 1 r.v r.n (nat1 ((List.range M.n).map (M.nxt i)))
 ogd : w.ownsRow 0 tBool 1 good.v good.n (((List.range M.N).map M.good).flatMap encB1)
 ok : M.Ok
theorem AutR.on {w w' : World} {M : Aut} {next good : Sl} {rs : List Sl} (h : AutR w M next good rs) (hb : Below w.heap.size w w') : AutR w' M next good rs :=
 ⟨own_on h.onx hb, h.rl, fun i r hr => own_on (h.each i r hr) hb, own_on h.ogd hb, h.ok⟩
theorem AutR.touch {w w' : World} {M : Aut} {next good : Sl} {rs : List Sl} (h : AutR w M next good rs) {a : Nat} {c : Array Value} (hb : w.heap[a]? = some (.cells c tAuto (0, 0))) (t : Touch a w w') : AutR w' M next good rs :=
 ⟨t.own h.onx (row_ne_blk h.onx hb (by decide)), h.rl, fun i r hr => t.own (h.each i r hr) (row_ne_blk (h.each i r hr) hb (by decide)), t.own h.ogd (row_ne_blk h.ogd hb (by decide)), h.ok⟩
theorem AutR.len {w : World} {M : Aut} {next good : Sl} {rs : List Sl} (h : AutR w M next good rs) : next.n = M.N ∧ good.n = M.N := by
 have h1 := (LsAt.of_own elIntss h.onx).n
 have h2 := (LsAt.of_own elBl h.ogd).n
 exact ⟨by rw [h1, h.rl], by simpa using h2⟩
theorem AutR.row {w : World} {M : Aut} {next good : Sl} {rs : List Sl} (h : AutR w M next good rs) {i : Nat} (hi : i < M.N) : ∃ (p : Addr) (r : Sl), next.a = some p ∧ w.cell? (p.add (i * 1)) = some (.slice r.a r.n r.c) ∧ r.n = M.n ∧ Rw encInt 1 w r.a (((List.range M.n).map (M.nxt i)).map fun i : Nat => (i : Int)) := by
 have hls := LsAt.of_own elIntss h.onx
 have hl : i < rs.length := by rw [h.rl]; exact hi
 obtain ⟨p, hp, c⟩ := cell_rw hls.r hl (v := rs[i].v) rfl
 have hr := LsAt.of_own elInt (h.each i _ (List.getElem?_eq_getElem hl))
 exact ⟨p, rs[i], hp, c, by simpa using hr.n, hr.r⟩
theorem AutR.rowAt {w : World} {M : Aut} {next good : Sl} {rs : List Sl} (h : AutR w M next good rs) {i : Nat} (hi : i < M.N) (hl : i < rs.length) : ∃ p : Addr, next.a = some p ∧ w.cell? (p.add (i * 1)) = some (.slice rs[i].a rs[i].n rs[i].c) ∧ rs[i].n = M.n ∧ Rw encInt 1 w rs[i].a (((List.range M.n).map (M.nxt i)).map fun i : Nat => (i : Int)) := by
 have hls := LsAt.of_own elIntss h.onx
 obtain ⟨p, hp, c⟩ := cell_rw hls.r hl (v := rs[i].v) rfl
 have hr := LsAt.of_own elInt (h.each i _ (List.getElem?_eq_getElem hl))
 exact ⟨p, hp, c, by simpa using hr.n, hr.r⟩
theorem AutR.good {w : World} {M : Aut} {next good : Sl} {rs : List Sl} (h : AutR w M next good rs) {i : Nat} (hi : i < M.N) : ∃ p : Addr, good.a = some p ∧ w.cell? (p.add (i * 1)) = some (.bool (M.good i)) := by
 have hls := LsAt.of_own elBl h.ogd
 obtain ⟨p, hp, c⟩ := cell_rw hls.r (show i < ((List.range M.N).map M.good).length by simpa using hi) (v := .bool (M.good i)) (by simp [encB1])
 exact ⟨p, hp, c⟩
theorem nums_cell {w : World} {A : Option Addr} {n : Nat} {f : Nat → Nat} (h : Rw encInt 1 w A (((List.range n).map f).map fun i : Nat => (i : Int))) {i : Nat} (hi : i < n) : ∃ p : Addr, A = some p ∧ w.cell? (p.add (i * 1)) = some (.int .i64 ((f i : Nat) : Int)) :=
 cell_rw h (show i < (((List.range n).map f).map fun i : Nat => (i : Int)).length by simpa using hi) (v := .int .i64 ((f i : Nat) : Int)) (by simp [encInt])
theorem acell {w : World} {a : Nat} {c : Array Value} {fz : Nat × Nat} (h : w.heap[a]? = some (.cells c tAuto fz)) (j : Nat) : w.cell? ((⟨a, 0, none⟩ : Addr).add j) = c[j]? := ptr_add0 _ _ h j
theorem states_spec (w : World) (a : Nat) {c : Array Value} {fz : Nat × Nat} (h : w.heap[a]? = some (.cells c tAuto fz)) (next : Sl) (h1 : c[1]? = some next.v) :
  CP 43 #[.pointer (some ⟨a, 0, none⟩)] w fun e w' => e = .returned (.int .i64 (next.n : Int)) ∧ w' = w := by
 refine calls_ret (vc43_calls (some ⟨a, 0, none⟩) w (fun u w' => u = .int .i64 (next.n : Int) ∧ w' = w) ?_) (by rintro v w' ⟨rfl, h⟩; exact ⟨rfl, h⟩)
 exact CondP.no rfl (NilC.mk _ rfl ⟨_, _, _, by rw [acell h]; exact h1, rfl, rfl⟩)
theorem keyA1_spec (w : World) (cb a : Nat) {ec : TypeId} (hc : w.heap[cb]? = some (.cells #[.pointer (some ⟨a, 0, none⟩)] ec (0, 0))) {c : Array Value} {fz : Nat × Nat} (h : w.heap[a]? = some (.cells c tAuto fz)) (M : Aut) (next good : Sl) (rs : List Sl) (hM : AutR w M next good rs) (h2 : c[2]? = some good.v) (i : Nat) (hi : i < M.N) :
  CP 162 #[.int .i64 (i : Int), .pointer (some ⟨cb, 0, none⟩)] w fun e w' => e = .returned (boolKey (M.good i)) ∧ Below w.heap.size w w' := by
 refine calls_ret (vc162_calls i (some ⟨cb, 0, none⟩) w (fun u w' => u = boolKey (M.good i) ∧ Below w.heap.size w w') ?_) (by rintro v w' ⟨rfl, h⟩; exact ⟨rfl, h⟩)
 obtain ⟨p, hp, hg⟩ := hM.good hi
 have hl := hM.len.2
 exact NilC.mk _ rfl ⟨_, cell1 hc, NilC.mk _ rfl ⟨_, _, _, by rw [acell h]; exact h2, NilC.mk p hp ⟨by omega, by omega, _, hg, rfl, Below.refl _ _⟩⟩⟩
theorem keyA2_spec (w : World) (ob cb a : Nat) {eo ec : TypeId} (of : Sl) (f : Nat → Nat) (ho : w.heap[ob]? = some (.cells #[of.v] eo (0, 0))) (hc : w.heap[cb]? = some (.cells #[.pointer (some ⟨a, 0, none⟩)] ec (0, 0))) {c : Array Value} {fz : Nat × Nat} (h : w.heap[a]? = some (.cells c tAuto fz)) (M : Aut) (next good : Sl) (rs : List Sl) (hM : AutR w M next good rs) (h1 : c[1]? = some next.v) (hof : w.ownsRow 0 tInt 1 of.v of.n (nat1 ((List.range M.N).map f))) (hn : M.n ≤ 10000) (i : Nat) (hi : i < M.N) :
  CP 164 #[.int .i64 (i : Int), .pointer (some ⟨ob, 0, none⟩), .pointer (some ⟨cb, 0, none⟩)] w fun e w' => e = .returned (strKey (M.keyT f i)) ∧ Below w.heap.size w w' := by
 refine calls_ret (vc164_calls i (some ⟨ob, 0, none⟩) (some ⟨cb, 0, none⟩) w (fun u w' => u = strKey (M.keyT f i) ∧ Below w.heap.size w w') ?_) (by rintro v w' ⟨rfl, h⟩; exact ⟨rfl, h⟩)
 intro w1 hw1
 have b1 : Below w.heap.size w w1 := by subst hw1; exact drew_on w
 have hof1 := LsAt.of_own elInt (own_on hof b1)
 have hofn : of.n = ((List.range M.N).map f).length := by simpa using hof1.n
 have hM1 := hM.on b1
 obtain ⟨p, hp, c0⟩ := nums_cell hof1.r hi
 obtain ⟨p2, r, hp2, c2, hrn, hr⟩ := hM1.row hi
 have hln := hM1.len.1
 have hlen : ((List.range M.N).map f).length = M.N := by simp
 have hfa : (M.n = ((List.range M.n).map (M.nxt i)).length) := by simp
 refine NilC.mk _ rfl ⟨_, _, _, cell1 (held_on b1 ho), NilC.mk p hp ⟨by omega, by omega, _, c0, NilC.mk _ rfl ⟨_, cell1 (held_on b1 hc), NilC.mk _ rfl ⟨_, _, _, by rw [acell (held_on b1 h)]; exact h1, NilC.mk p2 hp2 ⟨by omega, by omega, _, _, _, c2, NilC.mk _ rfl ⟨_, _, _, cell1 (held_on b1 ho), ?_⟩⟩⟩⟩⟩⟩
 have ht := text17_spec w1 (f i) r.a of.a r.c of.c ((List.range M.n).map (M.nxt i)) ((List.range M.N).map f) hr hof1.r (by
  intro y hy
  obtain ⟨k, hk, rfl⟩ := List.mem_map.1 hy
  rw [hlen]
  exact hM.ok.lt _ _ hi (List.mem_range.1 hk)) (by simp; exact hn)
 rw [← hfa, ← hofn, ← hrn] at ht
 refine ht.mono ?_
 rintro e w2 ⟨rfl, b2⟩
 refine ⟨_, rfl, ?_, below_then b1 b2⟩
 show Value.string (str _) = Value.string (str _)
 congr 2
 unfold Aut.keyT
 congr 2
 rw [hrn, List.map_map]
 apply List.map_congr_left
 intro k hk
 show ((List.range M.N).map f).getD (M.nxt i k) 0 = f (M.nxt i k)
 have := hM.ok.lt _ _ hi (List.mem_range.1 hk)
 simp [List.getD, this]
set_option maxHeartbeats 1000000 in
theorem refine_spec (w : World) (a : Nat) (c : Array Value) (h : w.heap[a]? = some (.cells c tAuto (0, 0))) (hs : c.size = 7) (M : Aut) (next good : Sl) (rs : List Sl) (hM : AutR w M next good rs) (h1 : c[1]? = some next.v) (h2 : c[2]? = some good.v) (hN : M.N ≤ 10000) (hn : M.n ≤ 10000) :
  CP 114 #[.pointer (some ⟨a, 0, none⟩)] w fun e w' => e = .returned (.tuple #[]) ∧ ∃ (of : Sl) (f : Nat → Nat), w'.heap[a]? = some (.cells (c.setIfInBounds 6 of.v) tAuto (0, 0)) ∧ Aut.Cls M f ∧ of.n = M.N ∧ w'.ownsRow w.heap.size tInt 1 of.v of.n (nat1 ((List.range M.N).map f)) ∧ Touch a w w' := by
 refine calls_ret (vc114_calls (some ⟨a, 0, none⟩) w (fun u w' => u = .tuple #[] ∧ ∃ (of : Sl) (f : Nat → Nat), w'.heap[a]? = some (.cells (c.setIfInBounds 6 of.v) tAuto (0, 0)) ∧ Aut.Cls M f ∧ of.n = M.N ∧ w'.ownsRow w.heap.size tInt 1 of.v of.n (nat1 ((List.range M.N).map f)) ∧ Touch a w w') ?_) (by rintro v w' ⟨rfl, h⟩; exact ⟨rfl, h⟩)
 intro w1 hw1
 have b1 : Below w.heap.size w w1 := by subst hw1; exact below_alloc _ _
 have c1 : w1.heap[w.heap.size]? = some (.cells #[.pointer (some ⟨a, 0, none⟩)] 62 (0, 0)) := by subst hw1; exact alloc_new _ _
 have lt1 := (Array.getElem?_eq_some_iff.1 c1).1
 have hal : a < w.heap.size := (Array.getElem?_eq_some_iff.1 h).1
 have hok := hM.ok
 obtain ⟨hnl, hgl⟩ := hM.len
 refine ⟨_, cell1 c1, (states_spec w1 a (held_on b1 h) next h1).mono ?_⟩
 rintro e w2 ⟨rfl, rfl⟩
 rw [hnl]
 refine ⟨_, rfl, (groupT_spec w2 M.N _ M.good hN fun i hi q hq => callG_of (by kernel_rfl) (keyA1_spec q w.heap.size a (held_on hq c1) (held_on hq (held_on b1 h)) M next good rs ((hM.on b1).on hq) h2 i hi)).mono ?_⟩
 rintro e w3 ⟨of, rfl, hofn, hof, b3⟩
 have hb3 := below_then b1 b3
 have c3 := held_on b3 c1
 refine ⟨_, _, _, _, rfl, ?_⟩
 intro w4 hw4
 refine box_store hw4 rfl ?_
 intro w5 o5 b5
 have hb5 := below_then hb3 b5
 have c5 := held_on b5 c3
 have lt3 : w.heap.size < w3.heap.size := (Array.getElem?_eq_some_iff.1 c3).1
 intro I hI
 have bar : ∀ (q : World) (of : Sl) (f : Nat → Nat), q.ownsRow w.heap.size tInt 1 of.v of.n (((List.range M.N).map fun i => ((f i : Nat) : Int)).flatMap encInt) → q.ownsRow w.heap.size tInt 1 of.v of.n (nat1 ((List.range M.N).map f)) := by
  intro q of f h
  unfold nat1
  rw [List.map_map]
  exact h
 have round : ∀ (r : Nat) (q : World) (of : Sl), q.heap[w3.heap.size]? = some (.cells #[of.v] tInts (0, 0)) → q.ownsRow w.heap.size tInt 1 of.v of.n (nat1 ((List.range M.N).map (M.ofR r))) → Below w.heap.size w q → q.heap[w.heap.size]? = some (.cells #[.pointer (some ⟨a, 0, none⟩)] 62 (0, 0)) →
   (M.cntR (r + 1) ≠ M.cntR r → ∀ (q' : World) (of' : Sl), q'.heap[w3.heap.size]? = some (.cells #[of'.v] tInts (0, 0)) → q'.ownsRow w.heap.size tInt 1 of'.v of'.n (nat1 ((List.range M.N).map (M.ofR (r + 1)))) → Below w.heap.size w q' → q'.heap[w.heap.size]? = some (.cells #[.pointer (some ⟨a, 0, none⟩)] 62 (0, 0)) → I [.int .i64 ((M.cntR (r + 1) : Nat) : Int)] q') → I [.int .i64 ((M.cntR r : Nat) : Int)] q := by
  intro r q of ho hof hB hcq again
  have hq := held_on hB h
  have hMq := hM.on hB
  refine hI _ _ ⟨_, cell1 hcq, (states_spec q a hq next h1).mono ?_⟩
  rintro e q1 ⟨rfl, rfl⟩
  rw [hnl]
  refine ⟨_, rfl, (groupS_spec q1 M.N _ (M.keyT (M.ofR r)) hN fun i hi z hz => callG_of (by kernel_rfl) (keyA2_spec z w3.heap.size w.heap.size a of (M.ofR r) (held_on hz ho) (held_on hz hcq) (held_on hz hq) M next good rs (hMq.on hz) h1 (own_base (own_on hof hz) (Nat.zero_le _)) hn i hi)).mono ?_⟩
  rintro e q2 ⟨of', rfl, hofn, hof', b2⟩
  have hB2 := below_then hB b2
  have ho2 := held_on b2 ho
  have hof2 := bar _ _ _ (own_base hof' (show w.heap.size ≤ _ from hB.size))
  refine ⟨_, _, _, _, rfl, rfl, ⟨_, cell1 ho2⟩, frozen_heap ho2, ?_⟩
  intro q3 hq3
  have ho3 : q3.heap[w3.heap.size]? = some (.cells #[of'.v] tInts (0, 0)) := by subst hq3; exact setCell_heap ho2 of'.v
  have hB3 : Below w.heap.size w q3 := by subst hq3; exact hB2.setCell (p := ⟨w3.heap.size, 0, none⟩) (by show w.heap.size ≤ w3.heap.size; omega) _
  have hof3 : q3.ownsRow w.heap.size tInt 1 of'.v of'.n (nat1 ((List.range M.N).map (M.ofR (r + 1)))) := by subst hq3; exact own_setCell hof2 _ (row_ne_blk hof2 ho2 (by decide))
  have hc3 : q3.heap[w.heap.size]? = some (.cells #[.pointer (some ⟨a, 0, none⟩)] 62 (0, 0)) := by
   subst hq3
   rw [heap_setCell_ne (show w.heap.size ≠ w3.heap.size by omega)]
   exact held_on b2 hcq
  have hcnt : (firsts (M.keyT (M.ofR r)) M.N).length = M.cntR (r + 1) := rfl
  rw [hcnt]
  by_cases he : M.cntR (r + 1) = M.cntR r
  ·have ha3 := held_on hB3 h
   have e6 : ((⟨a, 0, none⟩ : Addr).add 3).add 3 = (⟨a, 0, none⟩ : Addr).add 6 := by rw [Addr.add_add]
   refine CondP.yes (by rw [he]; simp) ⟨_, cell1 hc3, _, _, _, cell1 ho3, NilC.mk _ rfl ⟨rfl, ⟨c[6]'(by omega), by rw [e6, cell_put ha3, Array.getElem?_eq_getElem (by omega)]⟩, by rw [e6]; exact frozen_put ha3, ?_⟩⟩
   intro q4 hq4
   rw [e6] at hq4
   refine ⟨rfl, of', M.ofR (r + 1), by subst hq4; exact heap_put ha3 _, Aut.cls_done hok he, hofn, ?_, ?_⟩
   ·subst hq4
    exact own_setCell hof3 _ (by rw [add_block]; exact row_ne_blk hof3 ha3 (by decide))
   ·refine (Touch.of_below hB3).trans ?_
    subst hq4
    exact ⟨rfl, rfl, rfl, by rw [size_setCell]; exact Nat.le_refl _, fun k _ hk => heap_setCell_ne (by rw [add_block]; exact hk)⟩
  ·refine CondP.no (by simp; omega) (again he q3 of' ho3 hof3 hB3 hc3)
 have loop : ∀ (d r : Nat) (q : World) (of : Sl), M.N - M.cntR r ≤ d → q.heap[w3.heap.size]? = some (.cells #[of.v] tInts (0, 0)) → q.ownsRow w.heap.size tInt 1 of.v of.n (nat1 ((List.range M.N).map (M.ofR r))) → Below w.heap.size w q → q.heap[w.heap.size]? = some (.cells #[.pointer (some ⟨a, 0, none⟩)] 62 (0, 0)) → I [.int .i64 ((M.cntR r : Nat) : Int)] q := by
  intro d
  induction d with
  | zero =>
   intro r q of hd ho hof hB hcq
   refine round r q of ho hof hB hcq fun hne => ?_
   have := Aut.cntR_mono hok r
   have := Aut.cntR_le (M := M) (r + 1)
   omega
  | succ d ihd =>
   intro r q of hd ho hof hB hcq
   refine round r q of ho hof hB hcq fun hne q' of' h1 h2 h3 h4 => ihd (r + 1) q' of' ?_ h1 h2 h3 h4
   have := Aut.cntR_mono hok r
   have := Aut.cntR_le (M := M) (r + 1)
   omega
 exact loop M.N 0 w5 of (by omega) o5 (bar _ _ _ (own_base (own_on hof b5) (by omega))) hb5 c5
set_option maxHeartbeats 1600000 in
theorem once_slow17 (v : Nat) (w : World) (K : World → Prop)
  (hfind : CP 114 #[.pointer (some ⟨v, 0, none⟩)] (w.setCell ⟨v, 4, none⟩ (.int .i32 1)) fun e w' => e = .returned (.tuple #[]) ∧ K w')
  (hK : ∀ w', K w' → w'.cell? ⟨v, 3, none⟩ = some (.int .u32 0) ∧ w'.frozen? ⟨v, 3, none⟩ = false ∧ w'.cell? ⟨v, 4, none⟩ = some (.int .i32 1) ∧ w'.frozen? ⟨v, 4, none⟩ = false)
  (h0 : w.cell? ⟨v, 3, none⟩ = some (.int .u32 0)) (h1 : w.cell? ⟨v, 4, none⟩ = some (.int .i32 0)) (f0 : w.frozen? ⟨v, 3, none⟩ = false) (f1 : w.frozen? ⟨v, 4, none⟩ = false) :
  CP 160 #[.pointer (some ⟨v, 3, none⟩), .func (.func 114) #[.pointer (some ⟨v, 0, none⟩)] #[]] w fun e w' => e = .returned (.tuple #[]) ∧ ∃ w2, K w2 ∧ w' = (w2.drew.setCell ⟨v, 3, none⟩ (.int .u32 1)).setCell ⟨v, 4, none⟩ (.int .i32 0) := by
 have hl := run_call_load (P := Tryz.prog) Tryz.func217 (by kernel_rfl) (by kernel_rfl) (by kernel_rfl) .u32 (by kernel_rfl) (w := w.setCell ⟨v, 4, none⟩ (.int .i32 1)) (a := ⟨v, 3, none⟩) (x := 0) ((World.cell?_setCell_other _ ⟨v, 4, none⟩ ⟨v, 3, none⟩ _ (by simp)).trans h0)
 have hnot : ∀ (x : Bool) (w : World), (Op.unary .not (.bool x)).run Tryz.prog w = .ok (.bool (!x)) w := fun _ _ => rfl
 go_enter_defers Tryz.func160, Tryz.ntmps160
 go_wp2_with (go_at_call 218; refine (once_lock ⟨v, 4, none⟩ _ (by go_simp) (by go_simp)).mono ?_; rintro e w' ⟨rfl, rfl⟩)
 go_wp2_with (first | (go_at_call 114; refine hfind.mono ?_; rintro e w' ⟨rfl, hk⟩) | go_in)
 obtain ⟨k0, k1, k2, k3⟩ := hK _ hk
 refine leaves_cons (f := 220) (args := #[.pointer (some ⟨v, 3, none⟩), .bool true]) (by simp) (by simp [go_sem]) ?_
 refine (once_store ⟨v, 3, none⟩ (.int .u32 0) .returning _ k0 k1).mono ?_
 rintro e u' w'' ⟨rfl, rfl, rfl⟩
 refine leaves_cons (f := 219) (args := #[.pointer (some ⟨v, 4, none⟩)]) (by simp [settle]) (by simp [go_sem]) ?_
 refine (once_unlock ⟨v, 4, none⟩ _ _ ?_ ?_).mono ?_
 ·refine (World.cell?_setCell_other _ ⟨v, 3, none⟩ ⟨v, 4, none⟩ _ (by simp)).trans ?_
  rw [World.cell?_drew]
  exact k2
 ·simp [k3]
 rintro e u' w'' ⟨rfl, rfl, rfl⟩
 simp [Leaves, settle, results, Tryz.results160]
 exact ⟨_, hk, rfl⟩
set_option maxHeartbeats 1600000 in
theorem once_do17 (v : Nat) (w : World) (K : World → Prop)
  (hfind : CP 114 #[.pointer (some ⟨v, 0, none⟩)] (w.setCell ⟨v, 4, none⟩ (.int .i32 1)) fun e w' => e = .returned (.tuple #[]) ∧ K w')
  (hK : ∀ w', K w' → w'.cell? ⟨v, 3, none⟩ = some (.int .u32 0) ∧ w'.frozen? ⟨v, 3, none⟩ = false ∧ w'.cell? ⟨v, 4, none⟩ = some (.int .i32 1) ∧ w'.frozen? ⟨v, 4, none⟩ = false)
  (h0 : w.cell? ⟨v, 3, none⟩ = some (.int .u32 0)) (h1 : w.cell? ⟨v, 4, none⟩ = some (.int .i32 0)) (f0 : w.frozen? ⟨v, 3, none⟩ = false) (f1 : w.frozen? ⟨v, 4, none⟩ = false) :
  CP 113 #[.pointer (some ⟨v, 3, none⟩), .func (.func 114) #[.pointer (some ⟨v, 0, none⟩)] #[]] w fun e w' => e = .returned (.tuple #[]) ∧ ∃ w2, K w2 ∧ w' = (w2.drew.setCell ⟨v, 3, none⟩ (.int .u32 1)).setCell ⟨v, 4, none⟩ (.int .i32 0) := by
 have hl := run_call_load (P := Tryz.prog) Tryz.func217 (by kernel_rfl) (by kernel_rfl) (by kernel_rfl) .u32 (by kernel_rfl) h0
 have hnot : ∀ (x : Bool) (w : World), (Op.unary .not (.bool x)).run Tryz.prog w = .ok (.bool (!x)) w := fun _ _ => rfl
 go_enter Tryz.func113, Tryz.ntmps113
 go_wp2_with (first | (go_at_call 160; refine (once_slow17 v w K hfind hK h0 h1 f0 f1).mono ?_; rintro e w' ⟨rfl, hk⟩) | (go_at_call 159; go_in))
 go_end0
 exact ⟨rfl, hk⟩
abbrev autC (g : Nat) (next good : Sl) (d l : Int) (of : Sl) : Array Value := #[.pointer (some ⟨g, 0, none⟩), next.v, good.v, .int .u32 d, .int .i32 l, .int .u32 0, of.v]
def AutW (w : World) (a g : Nat) (M : Aut) (o : Option (Nat → Nat)) : Prop := ∃ (next good of : Sl) (rs : List Sl) (d : Int), w.heap[a]? = some (.cells (autC g next good d 0 of) tAuto (0, 0)) ∧ AutR w M next good rs ∧ (match o with
 | none => d = 0 ∧ of = sl0
 | some f => d = 1 ∧ Aut.Cls M f ∧ of.n = M.N ∧ w.ownsRow 0 tInt 1 of.v of.n (nat1 ((List.range M.N).map f)))
def AutIs (w : World) (a g : Nat) (M : Aut) : Prop := ∃ o, AutW w a g M o
theorem AutW.on {w w' : World} {a g : Nat} {M : Aut} {o : Option (Nat → Nat)} (h : AutW w a g M o) (hb : Below w.heap.size w w') : AutW w' a g M o := by
 obtain ⟨next, good, of, rs, d, h1, h2, h3⟩ := h
 refine ⟨next, good, of, rs, d, held_on hb h1, h2.on hb, ?_⟩
 cases o with
 | none => exact h3
 | some f => exact ⟨h3.1, h3.2.1, h3.2.2.1, own_on h3.2.2.2 hb⟩
theorem AutIs.on {w w' : World} {a g : Nat} {M : Aut} (h : AutIs w a g M) (hb : Below w.heap.size w w') : AutIs w' a g M := by
 obtain ⟨o, h⟩ := h
 exact ⟨o, h.on hb⟩
theorem AutW.lt {w : World} {a g : Nat} {M : Aut} {o : Option (Nat → Nat)} (h : AutW w a g M o) : a < w.heap.size := by
 obtain ⟨next, good, of, rs, d, h1, _⟩ := h
 exact (Array.getElem?_eq_some_iff.1 h1).1
theorem AutW.typed {w : World} {a g : Nat} {M : Aut} {o : Option (Nat → Nat)} (h : AutW w a g M o) : ∃ c, w.heap[a]? = some (.cells c tAuto (0, 0)) := by
 obtain ⟨next, good, of, rs, d, h1, _⟩ := h
 exact ⟨_, h1⟩
theorem aput {w : World} {a : Nat} {c : Array Value} (h : w.heap[a]? = some (.cells c tAuto (0, 0))) (j : Nat) (u : Value) :
  (w.setCell ⟨a, j, none⟩ u).heap[a]? = some (.cells (c.setIfInBounds j u) tAuto (0, 0)) ∧ Touch a w (w.setCell ⟨a, j, none⟩ u) :=
 ⟨setCell_heap h u, ⟨rfl, rfl, rfl, by rw [size_setCell]; exact Nat.le_refl _, fun k _ hk => heap_setCell_ne hk⟩⟩
theorem alike_spec (w : World) (a g : Nat) (M : Aut) (o : Option (Nat → Nat)) (h : AutW w a g M o) (hN : M.N ≤ 10000) (hn : M.n ≤ 10000) :
  CP 76 #[.pointer (some ⟨a, 0, none⟩)] w fun e w' => ∃ (of : Sl) (f : Nat → Nat), e = .returned of.v ∧ (∀ f0, o = some f0 → f = f0 ∧ w' = w) ∧ of.n = M.N ∧ Rw encInt 1 w' of.a (((List.range M.N).map f).map fun i : Nat => (i : Int)) ∧ AutW w' a g M (some f) ∧ Touch a w w' := by
 obtain ⟨next, good, of, rs, d, hblk, hM, ho⟩ := h
 refine calls_ret (vc76_calls (some ⟨a, 0, none⟩) w (fun u w' => ∃ (of : Sl) (f : Nat → Nat), u = of.v ∧ (∀ f0, o = some f0 → f = f0 ∧ w' = w) ∧ of.n = M.N ∧ Rw encInt 1 w' of.a (((List.range M.N).map f).map fun i : Nat => (i : Int)) ∧ AutW w' a g M (some f) ∧ Touch a w w') ?_) (by rintro v w' ⟨of, f, rfl, h⟩; exact ⟨of, f, rfl, h⟩)
 have e3 : ((⟨a, 0, none⟩ : Addr).add 3).add 0 = ⟨a, 3, none⟩ := by rw [add_lit, add_lit]
 have e6 : ((⟨a, 0, none⟩ : Addr).add 3).add 3 = (⟨a, 0, none⟩ : Addr).add 6 := by rw [Addr.add_add]
 have at_ : ∀ {w' : World} {c : Array Value}, w'.heap[a]? = some (.cells c tAuto (0, 0)) → ∀ j, w'.cell? ⟨a, j, none⟩ = c[j]? := fun h j => cell_heap h
 have fz : ∀ {w' : World} {c : Array Value}, w'.heap[a]? = some (.cells c tAuto (0, 0)) → ∀ j, w'.frozen? ⟨a, j, none⟩ = false := fun h j => frozen_heap h
 refine NilC.mk _ rfl ?_
 rw [e3]
 have rest : ∀ (w3 : World) (of3 : Sl) (f : Nat → Nat), (∀ f0, o = some f0 → f = f0 ∧ w3 = w) → w3.heap[a]? = some (.cells (autC g next good 1 0 of3) tAuto (0, 0)) → Aut.Cls M f → of3.n = M.N → w3.ownsRow 0 tInt 1 of3.v of3.n (nat1 ((List.range M.N).map f)) → Touch a w w3 →
   NilC (some ⟨a, 0, none⟩) (fun pa_1 => ∃ lA : Option Addr, ∃ lN : Nat, ∃ lC : Nat, w3.cell? ((pa_1.add 3).add 3) = some (Value.slice lA lN lC) ∧
    (∃ (of : Sl) (f : Nat → Nat), Value.slice lA lN lC = of.v ∧ (∀ f0, o = some f0 → f = f0 ∧ w3 = w) ∧ of.n = M.N ∧ Rw encInt 1 w3 of.a (((List.range M.N).map f).map fun i : Nat => (i : Int)) ∧ AutW w3 a g M (some f) ∧ Touch a w w3)) := by
  intro w3 of3 f hf hb hc hl hown t
  exact NilC.mk _ rfl ⟨_, _, _, by rw [e6, acell hb]; rfl, of3, f, rfl, hf, hl, (LsAt.of_own elInt hown).r, ⟨next, good, of3, rs, 1, hb, hM.touch hblk t, rfl, hc, hl, hown⟩, t⟩
 cases o with
 | none =>
  obtain ⟨rfl, rfl⟩ := ho
  obtain ⟨b2, t2⟩ := aput hblk 4 (.int .i32 1)
  have hM2 := hM.touch hblk t2
  refine (once_do17 a w (fun w' => ∃ (of : Sl) (f : Nat → Nat), w'.heap[a]? = some (.cells (((autC g next good 0 0 sl0).setIfInBounds 4 (.int .i32 1)).setIfInBounds 6 of.v) tAuto (0, 0)) ∧ Aut.Cls M f ∧ of.n = M.N ∧ w'.ownsRow (w.setCell ⟨a, 4, none⟩ (.int .i32 1)).heap.size tInt 1 of.v of.n (nat1 ((List.range M.N).map f)) ∧ Touch a (w.setCell ⟨a, 4, none⟩ (.int .i32 1)) w') (refine_spec _ a _ b2 rfl M next good rs hM2 rfl rfl hN hn) ?_ (at_ hblk 3) (at_ hblk 4) (fz hblk 3) (fz hblk 4)).mono ?_
  ·rintro w' ⟨of', f, hb', _⟩
   exact ⟨at_ hb' 3, fz hb' 3, at_ hb' 4, fz hb' 4⟩
  ·rintro e w3 ⟨rfl, wf, ⟨of', f, hbf, hc, hl, hof, tf⟩, hw3⟩
   refine ⟨rfl, ?_⟩
   have hbd : wf.drew.heap[a]? = some (.cells (((autC g next good 0 0 sl0).setIfInBounds 4 (.int .i32 1)).setIfInBounds 6 of'.v) tAuto (0, 0)) := hbf
   obtain ⟨b4, t4⟩ := aput hbd 3 (.int .u32 1)
   obtain ⟨b5, t5⟩ := aput b4 4 (.int .i32 0)
   rw [← hw3] at b5 t5
   have tt : Touch a wf w3 := ((Touch.of_below (drew_on wf)).trans t4).trans t5
   exact rest w3 of' f (fun f0 h => by cases h) b5 hc hl (tt.own (own_base hof (Nat.zero_le _)) (row_ne_blk hof hbf (by decide))) ((t2.trans tf).trans tt)
 | some f =>
  obtain ⟨rfl, hc, hl, hown⟩ := ho
  refine (once_done ⟨a, 3, none⟩ 1 (by decide) _ w (at_ hblk 3)).mono ?_
  rintro e w3 ⟨rfl, hw⟩
  subst hw
  exact ⟨rfl, rest w3 of f (fun f0 h => by cases h; exact ⟨rfl, rfl⟩) hblk hc hl hown (Touch.of_below (Below.refl _ _))⟩
theorem AutW.blk {w : World} {a g : Nat} {M : Aut} {o : Option (Nat → Nat)} (h : AutW w a g M o) : ∃ (next good of : Sl) (rs : List Sl) (d : Int), w.heap[a]? = some (.cells (autC g next good d 0 of) tAuto (0, 0)) ∧ AutR w M next good rs := by
 obtain ⟨next, good, of, rs, d, h1, h2, _⟩ := h
 exact ⟨next, good, of, rs, d, h1, h2⟩
theorem aStates_spec (w : World) (a g : Nat) (M : Aut) (h : AutIs w a g M) :
  CP 43 #[.pointer (some ⟨a, 0, none⟩)] w fun e w' => e = .returned (.int .i64 (M.N : Int)) ∧ w' = w := by
 obtain ⟨o, h⟩ := h
 obtain ⟨next, good, of, rs, d, h1, h2⟩ := h.blk
 have := states_spec w a h1 next rfl
 rw [h2.len.1] at this
 exact this
theorem aHas_spec (w : World) (a g : Nat) (M : Aut) (h : AutIs w a g M) (x : Int) :
  CP 75 #[.pointer (some ⟨a, 0, none⟩), .int .i64 x] w fun e w' => e = .returned (.bool (decide (0 ≤ x ∧ x < (M.N : Int)))) ∧ w' = w := by
 refine calls_ret (vc75_calls (some ⟨a, 0, none⟩) x w (fun u w' => u = .bool (decide (0 ≤ x ∧ x < (M.N : Int))) ∧ w' = w) ?_) (by rintro v w' ⟨rfl, h⟩; exact ⟨rfl, h⟩)
 refine CondP.mk (fun h0 => (aStates_spec w a g M h).mono ?_) fun h0 => ⟨?_, rfl⟩
 ·rintro e w1 ⟨rfl, hw⟩
  have h0 := of_decide_eq_true h0
  refine ⟨_, rfl, ?_, hw⟩
  rw [decide_eq_decide.2 (show x < (M.N : Int) ↔ 0 ≤ x ∧ x < (M.N : Int) from ⟨fun h => ⟨h0, h⟩, fun h => h.2⟩)]
 ·have h0 := of_decide_eq_false h0
  rw [decide_eq_false fun h => h0 h.1]
open Aut (metF metL scan visit)
abbrev tMii : TypeId := 107
theorem undMii : Tryz.prog.underlying tMii = some (.map tInt tInt) := by kernel_rfl
def mmap (f : Nat → Nat) (l : List Nat) : List (Int × Value) := l.zipIdx.map fun x => (((f x.1 : Nat) : Int), .int .i64 (x.2 : Int))
theorem mmap_snoc (f : Nat → Nat) (l : List Nat) (x : Nat) : mmap f (l ++ [x]) = mmap f l ++ [(((f x : Nat) : Int), .int .i64 (l.length : Int))] := by simp [mmap, List.zipIdx_append]
theorem look_mmap (f : Nat → Nat) (l : List Nat) (x : Nat) : look ((x : Nat) : Int) (mmap f l) = ((l.map f).idxOf? x).map fun i : Nat => Value.int .i64 (i : Int) := by
 have := look_zipf (fun s : Nat => ((f s : Nat) : Int)) ((x : Nat) : Int) l 0
 simp only [Nat.zero_add] at this
 rw [show look ((x : Nat) : Int) (mmap f l) = _ from this]
 congr 1
 have key : ∀ l : List Nat, (l.map fun s : Nat => ((f s : Nat) : Int)).idxOf? ((x : Nat) : Int) = (l.map f).idxOf? x := by
  intro l
  induction l with
  | nil => rfl
  | cons y l ih =>
   simp only [List.map_cons, List.idxOf?_cons, ih]
   by_cases h : f y = x
   ·simp [h]
   ·simp [h]; omega
 exact key l
theorem nat1_snoc (l : List Nat) (x : Nat) : nat1 (l ++ [x]) = ((l.map fun i : Nat => (i : Int)) ++ [((x : Nat) : Int)]).flatMap encInt := by simp [nat1]
theorem met_spec (w : World) (a : Nat) {c : Array Value} (h : w.heap[a]? = some (.cells c tAuto (0, 0))) (M : Aut) (next good : Sl) (rs : List Sl) (hM : AutR w M next good rs) (h1 : c[1]? = some next.v) (hN : M.N ≤ 10000) (hn : M.n ≤ 10000) (cb : Value) (f : Nat → Nat) (hf : ∀ i, i < M.N → f i < M.N)
  (his : ∀ s, s < M.N → ∀ w1, Below w.heap.size w w1 → CallG ctx cb [.int .i64 (s : Int)] w1 (fun e w2 => e = .returned (.int .i64 ((f s : Nat) : Int)) ∧ w2 = w1)) :
  CP 83 #[.pointer (some ⟨a, 0, none⟩), cb] w fun e w' => ∃ (l : Sl) (m : Nat), e = .returned (.tuple #[l.v, .map (some m)]) ∧ l.n = (metL M f).length ∧ w'.ownsRow w.heap.size tInt 1 l.v l.n (nat1 (metL M f)) ∧ MapIs intKey w' m (mmap f (metL M f)) ∧ Below w.heap.size w w' := by
 refine calls_ret (vc83_calls (some ⟨a, 0, none⟩) cb w (fun u w' => ∃ (l : Sl) (m : Nat), u = .tuple #[l.v, .map (some m)] ∧ l.n = (metL M f).length ∧ w'.ownsRow w.heap.size tInt 1 l.v l.n (nat1 (metL M f)) ∧ MapIs intKey w' m (mmap f (metL M f)) ∧ Below w.heap.size w w') ?_) (by rintro v w' ⟨l, m, rfl, h⟩; exact ⟨l, m, rfl, h⟩)
 have hok := hM.ok
 intro w1 hw1
 have b1 : Below w.heap.size w w1 := by subst hw1; exact below_alloc _ _
 have o1 : w1.ownsRow w.heap.size tInt 1 (.slice (some (nb w)) 1 1) 1 (nat1 [0]) := by subst hw1; exact own_made _ rfl (by decide) (Nat.le_refl _)
 have lt1 : w.heap.size < w1.heap.size := by subst hw1; rw [alloc_size]; omega
 refine ⟨_, _, run_make _, ?_⟩
 have b2 := below_alloc w1 (.map #[] 0)
 have m2 : MapIs intKey (w1.alloc (.map #[] 0)) w1.heap.size ([] : List (Int × Value)) := map_new w1
 obtain ⟨w2, hw2⟩ : ∃ w2, w2 = w1.alloc (.map #[] 0) := ⟨_, rfl⟩
 rw [← hw2] at b2 m2
 rw [← hw2]
 have hb2 := below_then b1 b2
 refine (his 0 hok.pos w2 hb2).mono ?_
 rintro e w3 ⟨rfl, rfl⟩
 obtain ⟨w4, hr4, m4, hs4, hz4, hB4⟩ := run_put_new keysI undMii m2 ((f 0 : Nat) : Int) (.int .i64 0) rfl
 refine ⟨_, rfl, w4, hr4, ?_⟩
 have o4 : w4.ownsRow w.heap.size tInt 1 (.slice (some (nb w)) 1 1) 1 (nat1 [0]) := own_same (own_on o1 b2) fun k hk => hs4 k (fun e => own_ne_map (own_on o1 b2) m2 (by rw [hk, e]))
 have hb4 := hB4 _ _ (Nat.le_of_lt lt1) hb2
 intro I hI
 have hln := hM.len.1
 have inner : ∀ (i s : Nat) (L : List Nat), (metF M f i)[i]? = some s → L = metF M f i → s < M.N → ∀ (q : World) (l : Sl), q.ownsRow w.heap.size tInt 1 l.v l.n (nat1 L) → l.n = L.length → MapIs intKey q w1.heap.size (mmap f L) → Below w.heap.size w q →
   (∀ (q' : World) (l' : Sl), q'.ownsRow w.heap.size tInt 1 l'.v l'.n (nat1 (metF M f (i + 1))) → l'.n = (metF M f (i + 1)).length → MapIs intKey q' w1.heap.size (mmap f (metF M f (i + 1))) → Below w.heap.size w q' → I [.int .i64 ((i + 1 : Nat) : Int), l'.v] q') → i ≤ 10000 → I [.int .i64 (i : Int), l.v] q := by
  intro i s L hs hL hsN q l ho hl hm hB cont hi4
  have hlt := (List.getElem?_eq_some_iff.1 hs).1
  rw [← hL] at hs hlt
  have hrl : s < rs.length := by rw [hM.rl]; exact hsN
  have few : ∀ k, k ≤ M.n → (scan M f L s k).length ≤ M.N := by
   intro k hk
   have p1 := (Aut.scan_mono (M := M) f L s k (M.n - k)).length_le
   rw [show k + (M.n - k) = M.n by omega] at p1
   have p2 := Aut.met_few hok hf (i + 1)
   rw [metF, ← hL, hs] at p2
   exact Nat.le_trans p1 p2
  refine hI _ l.a l.n l.c q (CondP.yes (decide_eq_true (by omega)) ?_)
  intro q1 hq1
  have bq : Below q.heap.size q q1 := by subst hq1; exact drew_on q
  have hB1 := below_then hB bq
  have ho1 := own_on ho bq
  have hMq := hM.on hB1
  have hls := LsAt.of_own elInt (xs := L.map fun i : Nat => (i : Int)) ho1
  have hsv : L[i] = s := (List.getElem?_eq_some_iff.1 hs).2
  obtain ⟨p, hp, c0⟩ := cell_rw hls.r (show i < (L.map fun i : Nat => (i : Int)).length by simpa using hlt) (v := .int .i64 ((s : Nat) : Int)) (by simp [encInt, hsv])
  obtain ⟨p2, hp2, c2, hrn, _⟩ := hMq.rowAt hsN hrl
  refine NilC.mk _ rfl ⟨_, _, _, by rw [acell (held_on hB1 h)]; exact h1, NilC.mk p hp ⟨by omega, by omega, _, c0, NilC.mk p2 hp2 ⟨by omega, by omega, _, _, _, c2, ?_⟩⟩⟩
  intro I2 hI2
  have key := climb2 (α := Sl × World) M.n (fun k y => y.2.ownsRow w.heap.size tInt 1 y.1.v y.1.n (nat1 (scan M f L s k)) ∧ y.1.n = (scan M f L s k).length ∧ MapIs intKey y.2 w1.heap.size (mmap f (scan M f L s k)) ∧ Below w.heap.size w y.2) (fun k y => I2 [.int .i64 (k : Int), y.1.v] y.2) (l, q1) ⟨ho1, hl, hm.on bq, hB1⟩ ?_ ?_
  ·exact key
  ·rintro k hk ih ⟨l', z⟩ ⟨hoz, hlz, hmz, hBz⟩
   change z.ownsRow w.heap.size tInt 1 l'.v l'.n _ at hoz
   change l'.n = _ at hlz
   change MapIs intKey z _ _ at hmz
   change Below w.heap.size w z at hBz
   obtain ⟨_, _, _, _, hrr⟩ := (hM.on hBz).rowAt hsN hrl
   obtain ⟨p3, hp3, c3⟩ := nums_cell hrr hk
   have hx := hok.lt s k hsN hk
   obtain ⟨x, hxe⟩ : ∃ x, x = M.nxt s k := ⟨_, rfl⟩
   rw [← hxe] at c3 hx
   have hfew := few k (by omega)
   have hvis : scan M f L s (k + 1) = visit f (scan M f L s k) x := by rw [scan, ← hxe]
   refine hI2 _ l'.a l'.n l'.c z (CondP.yes (decide_eq_true (by omega)) ?_)
   intro J hJ
   refine NilC.mk p3 hp3 ⟨by omega, by omega, _, c3, (his x hx z hBz).mono ?_⟩
   rintro e z1 ⟨rfl, rfl⟩
   have hlk := run_look keysI undMii zeroInt hmz ((f x : Nat) : Int)
   rw [look_mmap] at hlk
   cases hc : ((scan M f L s k).map f).idxOf? (f x) with
   | some j =>
    rw [hc] at hlk
    have hmem : f x ∈ (scan M f L s k).map f := by
     have := List.isSome_idxOf?.1 (show (((scan M f L s k).map f).idxOf? (f x)).isSome = true by rw [hc]; rfl)
     exact this
    have hv : scan M f L s (k + 1) = scan M f L s k := by rw [hvis, visit, if_pos hmem]
    exact ⟨_, rfl, _, _, z1, hlk, CondP.no rfl (hJ _ _ _ _ (Ar.nat (k + 1) rfl (by omega) (ih (l', z1) ⟨by rw [hv]; exact hoz, by rw [hv]; exact hlz, by rw [hv]; exact hmz, hBz⟩)))⟩
   | none =>
    rw [hc] at hlk
    have hmem : f x ∉ (scan M f L s k).map f := List.idxOf?_eq_none_iff.1 hc
    have hv : scan M f L s (k + 1) = scan M f L s k ++ [x] := by rw [hvis, visit, if_neg hmem]
    refine ⟨_, rfl, _, _, z1, hlk, CondP.yes rfl ((his x hx z1 hBz).mono ?_)⟩
    rintro e z2 ⟨rfl, rfl⟩
    obtain ⟨z3, hr3, hm3, hs3, hz3, hB3⟩ := run_put_new keysI undMii hmz ((f x : Nat) : Int) (.int .i64 ((l'.n : Nat) : Int)) (by rw [look_mmap, hc]; rfl)
    have ho3 := own_same hoz fun j hj => hs3 j fun e => own_ne_map hoz hmz (by rw [hj, e])
    have hBz3 := hB3 _ _ (Nat.le_of_lt lt1) hBz
    refine ⟨_, rfl, z3, hr3, ?_⟩
    intro z4 hz4
    obtain ⟨l'', z5, e1, e2, e3, e4, e5⟩ := elInt.push (xs := (scan M f L s k).map fun i : Nat => (i : Int)) ho3 ((x : Nat) : Int) hz4 rfl hBz3.size (by omega) (by decide)
    refine ⟨l''.a, l''.n, l''.c, z5, e2, hJ _ _ _ _ (Ar.nat (k + 1) rfl (by omega) (ih (l'', z5) ⟨?_, ?_, ?_, e4 _ hBz3⟩))⟩
    ·rw [hv, nat1_snoc]; exact e3
    ·show l''.n = _
     rw [hv, List.length_append, List.length_singleton, e1, hlz]
    ·rw [hv, mmap_snoc, ← hlz]
     exact hm3.same (e5 _ hm3.lt (own_ne_map ho3 hm3))
  ·rintro ⟨l', z⟩ ⟨hoz, hlz, hmz, hBz⟩
   change z.ownsRow w.heap.size tInt 1 l'.v l'.n _ at hoz
   change l'.n = _ at hlz
   have hfull : metF M f (i + 1) = scan M f L s M.n := by rw [metF, ← hL, hs]
   refine hI2 _ l'.a l'.n l'.c z (CondP.no (decide_eq_false (by omega)) (Ar.nat (i + 1) rfl (by omega) (cont z l' ?_ ?_ ?_ hBz)))
   ·rw [hfull]; exact hoz
   ·rw [hfull]; exact hlz
   ·rw [hfull]; exact hmz
 have loop : ∀ (d i : Nat) (q : World) (l : Sl), M.N - i ≤ d → i ≤ (metF M f i).length → q.ownsRow w.heap.size tInt 1 l.v l.n (nat1 (metF M f i)) → l.n = (metF M f i).length → MapIs intKey q w1.heap.size (mmap f (metF M f i)) → Below w.heap.size w q → I [.int .i64 (i : Int), l.v] q := by
  have fin : ∀ (i : Nat) (q : World) (l : Sl), (metF M f i).length ≤ i → q.ownsRow w.heap.size tInt 1 l.v l.n (nat1 (metF M f i)) → l.n = (metF M f i).length → MapIs intKey q w1.heap.size (mmap f (metF M f i)) → Below w.heap.size w q → I [.int .i64 (i : Int), l.v] q := by
   intro i q l hi ho hl hm hB
   have e := Aut.met_done hok hf hi
   rw [e] at ho hl hm
   rw [e] at hi
   exact hI _ l.a l.n l.c q (CondP.no (decide_eq_false (by omega)) ⟨l, w1.heap.size, rfl, hl, ho, hm, hB⟩)
  intro d
  induction d with
  | zero =>
   intro i q l hd hi ho hl hm hB
   have := Aut.met_few hok hf i
   exact fin i q l (by omega) ho hl hm hB
  | succ d ihd =>
   intro i q l hd hi ho hl hm hB
   by_cases e : i < (metF M f i).length
   ·have hfe := Aut.met_few hok hf i
    refine inner i _ _ (List.getElem?_eq_getElem e) rfl ((Aut.metF_mid hok f i).lt _ (List.getElem_mem e)) q l ho hl hm hB (fun q' l' h1 h2 h3 h4 => ihd (i + 1) q' l' (by omega) ?_ h1 h2 h3 h4) (by omega)
    have := (Aut.metF_pre (M := M) f i).length_le
    omega
   ·exact fin i q l (by omega) ho hl hm hB
 exact loop M.N 0 w4 ⟨some (nb w), 1, 1⟩ (by omega) (Nat.zero_le _) o4 rfl m4 hb4
open Aut (metF metL scan visit)
structure AutB (w : World) (B b g : Nat) (M : Aut) (nx gd : Sl) (rs : List Sl) (m j : Nat) : Prop where
 blk : w.heap[b]? = some (.cells (autC g nx gd 0 0 sl0) tAuto (0, 0))
 onx : w.ownsRow B tInts 1 nx.v nx.n (rs.flatMap encS)
 rl : rs.length = m
 each : ∀ (i : Nat) (r : Sl), rs[i]? = some r → w.ownsRow B tInt 1 r.v r.n (nat1 ((List.range M.n).map (M.nxt i)))
 ogd : w.ownsRow B tBool 1 gd.v gd.n (((List.range j).map M.good).flatMap encB1)
theorem AutB.on {w w' : World} {B b g : Nat} {M : Aut} {nx gd : Sl} {rs : List Sl} {m j : Nat} (h : AutB w B b g M nx gd rs m j) (hb : Below w.heap.size w w') : AutB w' B b g M nx gd rs m j :=
 ⟨held_on hb h.blk, own_on h.onx hb, h.rl, fun i r hr => own_on (h.each i r hr) hb, own_on h.ogd hb⟩
theorem AutB.pushRow {w : World} {B b g : Nat} {M : Aut} {nx gd : Sl} {rs : List Sl} {m j : Nat} (h : AutB w B b g M nx gd rs m j) (hBb : B ≤ b) {r : Sl} (hr : w.ownsRow B tInt 1 r.v r.n (nat1 ((List.range M.n).map (M.nxt m)))) {w1 : World} (hw1 : w1 = w.alloc (.cells #[r.v] tInts)) (hB : B ≤ w.heap.size) (hm : m ≤ 100000) :
  ∃ (nx' : Sl) (w2 : World), (Builtin.append_ #[tIntss, tIntss] tIntss #[.slice nx.a nx.n nx.c, .slice (some (nb w)) 1 1]).run Tryz.prog w1 = .ok (.slice nx'.a nx'.n nx'.c) w2 ∧ (∃ u, w2.cell? ((⟨b, 0, none⟩ : Addr).add 1) = some u) ∧ w2.frozen? ((⟨b, 0, none⟩ : Addr).add 1) = false ∧ ∀ w3, w3 = w2.setCell ((⟨b, 0, none⟩ : Addr).add 1) nx'.v → AutB w3 B b g M nx' gd (rs ++ [r]) (m + 1) j ∧ (∀ w0, Below B w0 w → Below B w0 w3) ∧ ∀ {k : Nat} {c : Array Value} {e : TypeId} {fz : Nat × Nat}, w.heap[k]? = some (.cells c e fz) → e ≠ tInts → e ≠ tAuto → w3.heap[k]? = some (.cells c e fz) := by
 have hnn := (LsAt.of_own elIntss h.onx).n
 have hrl := h.rl
 obtain ⟨nx', w2, e1, e2, e3, e4, e5⟩ := elIntss.push h.onx r hw1 rfl hB (by omega) (by decide)
 have y1 : w2.heap[b]? = some (.cells (autC g nx gd 0 0 sl0) tAuto (0, 0)) := (e5 b (Array.getElem?_eq_some_iff.1 h.blk).1 (row_ne_blk h.onx h.blk (by decide))).trans h.blk
 refine ⟨nx', w2, e2, ⟨_, by rw [cell_put y1]; rfl⟩, frozen_put y1, ?_⟩
 intro w3 hw3
 have hs : ∀ j, j ≠ b → w3.heap[j]? = w2.heap[j]? := by
  intro j hj
  subst hw3
  exact heap_setCell_ne (by rw [add_block]; exact hj)
 have same : ∀ {B sz n : Nat} {e : TypeId} {u : Value} {xs : List Value}, w.ownsRow B e sz u n xs → e ≠ tInts → e ≠ tAuto → w3.ownsRow B e sz u n xs := by
  intro B sz n e u xs ho h1 h2
  refine own_same ho fun k hk => ?_
  rw [hs k fun e => row_ne_blk ho h.blk h2 (by rw [hk, e])]
  exact e5 k (own_lt ho k hk).2 (row_ne_row ho h.onx h1 k hk)
 refine ⟨⟨by subst hw3; exact heap_put y1 _, own_same e3 fun k hk => hs k fun e => row_ne_blk e3 y1 (by decide) (by rw [hk, e]), by simp; omega, ?_, same h.ogd (by decide) (by decide)⟩, fun w0 h0 => by subst hw3; exact below_put (e4 _ h0) hBb _, ?_⟩
 ·intro i r' hi
  by_cases hcl : i < rs.length
  ·rw [List.getElem?_append_left hcl] at hi
   exact same (h.each i r' hi) (by decide) (by decide)
  ·have hci : i = m := by
    have := (List.getElem?_eq_some_iff.1 hi).1
    simp at this
    omega
   subst hci
   rw [List.getElem?_append_right (by omega), hrl, Nat.sub_self] at hi
   cases hi
   exact same hr (by decide) (by decide)
 ·intro k c e fz hk h1 h2
  have hkb : k ≠ b := by
   rintro rfl
   rw [h.blk] at hk
   cases hk
   exact h2 rfl
  rw [hs k hkb, e5 k (Array.getElem?_eq_some_iff.1 hk).1 (row_ne_blk h.onx hk fun e => h1 e.symm)]
  exact hk
theorem AutB.pushGood {w : World} {B b g : Nat} {M : Aut} {nx gd : Sl} {rs : List Sl} {m j : Nat} (h : AutB w B b g M nx gd rs m j) (hBb : B ≤ b) {v : Bool} (hv : v = M.good j) {w1 : World} (hw1 : w1 = w.alloc (.cells #[.bool v] tBool)) (hB : B ≤ w.heap.size) (hj : j ≤ 100000) :
  ∃ (gd' : Sl) (w2 : World), (Builtin.append_ #[tBools, tBools] tBools #[.slice gd.a gd.n gd.c, .slice (some (nb w)) 1 1]).run Tryz.prog w1 = .ok (.slice gd'.a gd'.n gd'.c) w2 ∧ (∃ u, w2.cell? ((⟨b, 0, none⟩ : Addr).add 2) = some u) ∧ w2.frozen? ((⟨b, 0, none⟩ : Addr).add 2) = false ∧ ∀ w3, w3 = w2.setCell ((⟨b, 0, none⟩ : Addr).add 2) gd'.v → AutB w3 B b g M nx gd' rs m (j + 1) ∧ (∀ w0, Below B w0 w → Below B w0 w3) := by
 have hnn := (LsAt.of_own elBl h.ogd).n
 rw [List.length_map, List.length_range] at hnn
 obtain ⟨gd', w2, e1, e2, e3, e4, e5⟩ := elBl.push h.ogd v hw1 rfl hB (by omega) (by decide)
 have y1 : w2.heap[b]? = some (.cells (autC g nx gd 0 0 sl0) tAuto (0, 0)) := (e5 b (Array.getElem?_eq_some_iff.1 h.blk).1 (row_ne_blk h.ogd h.blk (by decide))).trans h.blk
 refine ⟨gd', w2, e2, ⟨_, by rw [cell_put y1]; rfl⟩, frozen_put y1, ?_⟩
 intro w3 hw3
 have hs : ∀ j, j ≠ b → w3.heap[j]? = w2.heap[j]? := by
  intro j hj
  subst hw3
  exact heap_setCell_ne (by rw [add_block]; exact hj)
 have same : ∀ {B sz n : Nat} {e : TypeId} {u : Value} {xs : List Value}, w.ownsRow B e sz u n xs → e ≠ tBool → e ≠ tAuto → w3.ownsRow B e sz u n xs := by
  intro B sz n e u xs ho h1 h2
  refine own_same ho fun k hk => ?_
  rw [hs k fun e => row_ne_blk ho h.blk h2 (by rw [hk, e])]
  exact e5 k (own_lt ho k hk).2 (row_ne_row ho h.ogd h1 k hk)
 refine ⟨⟨by subst hw3; exact heap_put y1 _, same h.onx (by decide) (by decide), h.rl, fun i r hr => same (h.each i r hr) (by decide) (by decide), ?_⟩, fun w0 h0 => by subst hw3; exact below_put (e4 _ h0) hBb _⟩
 rw [List.range_succ, List.map_append, List.map_cons, List.map_nil, ← hv]
 exact own_same e3 fun k hk => hs k fun e => row_ne_blk e3 y1 (by decide) (by rw [hk, e])
theorem AutB.done {w : World} {B b g : Nat} {M : Aut} {nx gd : Sl} {rs : List Sl} (h : AutB w B b g M nx gd rs M.N M.N) (hok : M.Ok) : AutW w b g M none :=
 ⟨nx, gd, sl0, rs, 0, h.blk, ⟨own_base h.onx (Nat.zero_le _), h.rl, fun i r hr => own_base (h.each i r hr) (Nat.zero_le _), own_base h.ogd (Nat.zero_le _), hok⟩, rfl, rfl⟩
theorem leastKey_spec (w : World) (ob : Nat) {eo : TypeId} (of : Sl) (f : Nat → Nat) (n : Nat) (ho : w.heap[ob]? = some (.cells #[of.v] eo (0, 0))) (hl : of.n = n) (hr : Rw encInt 1 w of.a (((List.range n).map f).map fun i : Nat => (i : Int))) (s : Nat) (hs : s < n) :
  CP 84 #[.int .i64 (s : Int), .pointer (some ⟨ob, 0, none⟩)] w fun e w' => e = .returned (.int .i64 ((f s : Nat) : Int)) ∧ w' = w := by
 refine calls_ret (vc84_calls s (some ⟨ob, 0, none⟩) w (fun u w' => u = .int .i64 ((f s : Nat) : Int) ∧ w' = w) ?_) (by rintro v w' ⟨rfl, h⟩; exact ⟨rfl, h⟩)
 obtain ⟨p, hp, c⟩ := nums_cell hr hs
 exact NilC.mk _ rfl ⟨_, _, _, cell1 ho, NilC.mk p hp ⟨by omega, by omega, _, c, rfl, rfl⟩⟩
theorem idxOf_of {l : List Nat} {x : Nat} (h : x ∈ l) : l.idxOf? x = some (l.idxOf x) := by
 induction l with
 | nil => cases h
 | cons y l ih =>
  rw [List.idxOf?_cons, List.idxOf_cons]
  by_cases e : y = x
  ·simp [e]
  ·have : x ∈ l := by
    rcases List.mem_cons.1 h with h | h
    ·exact absurd h.symm e
    ·exact h
   have hb : (y == x) = false := by simpa using e
   simp [hb, ih this]
set_option maxHeartbeats 1000000 in
theorem least_spec (w : World) (a g : Nat) (M : Aut) (h : AutIs w a g M) (hN : M.N ≤ 10000) (hn : M.n ≤ 10000) :
  CP 46 #[.pointer (some ⟨a, 0, none⟩)] w fun e w' => ∃ (b : Nat) (f : Nat → Nat), e = .returned (.pointer (some ⟨b, 0, none⟩)) ∧ Aut.Cls M f ∧ AutIs w' b g (Aut.least M f) ∧ AutIs w' a g M ∧ w.heap.size ≤ b ∧ Touch a w w' := by
 obtain ⟨o, h⟩ := h
 refine calls_ret (vc46_calls (some ⟨a, 0, none⟩) w (fun u w' => ∃ (b : Nat) (f : Nat → Nat), u = .pointer (some ⟨b, 0, none⟩) ∧ Aut.Cls M f ∧ AutIs w' b g (Aut.least M f) ∧ AutIs w' a g M ∧ w.heap.size ≤ b ∧ Touch a w w') ?_) (by rintro v w' ⟨b, f, rfl, h⟩; exact ⟨b, f, rfl, h⟩)
 refine CondP.no rfl ((alike_spec w a g M o h hN hn).mono ?_)
 rintro e w1 ⟨of, f, rfl, _, hofn, hofr, hA, t1⟩
 have hc : Aut.Cls M f := by
  obtain ⟨_, _, _, _, _, _, _, _, h, _⟩ := hA
  exact h
 obtain ⟨next, good, of', rs0, d, hblk, hM⟩ := hA.blk
 have hok := hM.ok
 have hal := hA.lt
 refine ⟨_, _, _, rfl, ?_⟩
 intro w2 hw2
 refine box_store hw2 rfl ?_
 intro w3 o3 b3
 have hM3 := hM.on b3
 refine (met_spec w3 a (held_on b3 hblk) M next good rs0 hM3 rfl hN hn _ f hc.lt fun s hs z hz => callG_of (by kernel_rfl) (leastKey_spec z w1.heap.size of f M.N (held_on hz o3) hofn ((hofr.on b3).on hz) s hs)).mono ?_
 rintro e w4 ⟨l, m, rfl, hln, hlo, hm, b4⟩
 have hb4 := below_then b3 b4
 have hA4 := hA.on hb4
 refine ⟨_, _, _, _, rfl, NilC.mk _ rfl ⟨_, by rw [acell (held_on hb4 hblk)]; rfl, ?_⟩⟩
 intro w5 hw5
 have b5 : Below w4.heap.size w4 w5 := by subst hw5; exact below_alloc _ _
 obtain ⟨M', hM'⟩ : ∃ M', M' = Aut.least M f := ⟨_, rfl⟩
 have hok' : M'.Ok := by rw [hM']; exact Aut.least_ok hok hc.lt
 have hN' : M'.N = (metL M f).length := by rw [hM']; rfl
 have hn' : M'.n = M.n := by rw [hM']; rfl
 have hfew := Aut.met_few hok hc.lt M.N
 change (metL M f).length ≤ M.N at hfew
 have start : AutB w5 w4.heap.size w4.heap.size g M' sl0 sl0 [] 0 0 := ⟨by subst hw5; exact alloc_new _ _, own_none _ _ _ _ encS, rfl, (by intro i r h; cases h), own_none _ _ _ _ encB1⟩
 have hl1 : w1.heap.size < w4.heap.size := (Array.getElem?_eq_some_iff.1 (held_on b4 o3)).1
 intro I hI
 let Inv (p : Nat) (q : World) : Prop := ∃ nx gd rs, AutB q w4.heap.size w4.heap.size g M' nx gd rs p p ∧ Below w4.heap.size w4 q
 have key := climb2 (α := World) M'.N Inv (fun p q => I [.int .i64 (p : Int)] q) w5 ⟨sl0, sl0, [], start, b5⟩ ?_ ?_
 ·exact key
 ·rintro p hp ih q ⟨nx, gd, rs, R, hB⟩
  have hpl : p < (metL M f).length := by omega
  obtain ⟨s, hs⟩ : ∃ s, s = (metL M f)[p] := ⟨_, rfl⟩
  have hsN : s < M.N := by rw [hs]; exact (Aut.met_mid hok f).lt _ (List.getElem_mem hpl)
  have hsD : (metL M f).getD p 0 = s := by rw [Aut.getD_at hpl, hs]
  have hnxt : ∀ k, M'.nxt p k = ((metL M f).map f).idxOf (f (M.nxt s k)) := by
   intro k
   rw [hM']
   show ((metL M f).map f).idxOf (f (M.nxt ((metL M f).getD p 0) k)) = _
   rw [hsD]
  have hgd : M'.good p = M.good s := by
   rw [hM']
   show M.good ((metL M f).getD p 0) = _
   rw [hsD]
  have hlsq := (LsAt.of_own elInt (xs := (metL M f).map fun i : Nat => (i : Int)) hlo).r.on hB
  obtain ⟨p0, hp0, c0⟩ := cell_rw hlsq (show p < ((metL M f).map fun i : Nat => (i : Int)).length by simpa using hpl) (v := .int .i64 ((s : Nat) : Int)) (by simp [encInt, hs])
  have hrl : s < rs0.length := by rw [hM.rl]; exact hsN
  have hMq := (hM.on hb4).on hB
  have hbq := held_on hB (held_on hb4 hblk)
  obtain ⟨p2, hp2, c2, hrn, _⟩ := hMq.rowAt hsN hrl
  have hnl := hM.len
  refine hI _ _ (CondP.yes (decide_eq_true (by omega)) (NilC.mk p0 hp0 ⟨by omega, by omega, _, c0, NilC.mk _ rfl ⟨_, _, _, by rw [acell hbq]; rfl, NilC.mk p2 hp2 ⟨by omega, by omega, _, _, _, c2, ?_⟩⟩⟩))
  intro I2 hI2
  have key2 := climb2 (α := Sl × World) M.n (fun k y => y.2.ownsRow q.heap.size tInt 1 y.1.v y.1.n (nat1 ((List.range k).map (M'.nxt p))) ∧ y.1.n = k ∧ Below q.heap.size q y.2) (fun k y => I2 [.int .i64 (k : Int), y.1.v] y.2) (sl0, q) ⟨own_none _ _ _ _ encInt, rfl, Below.refl _ _⟩ ?_ ?_
  ·exact key2
  ·rintro k hk ih2 ⟨t, z⟩ ⟨hto, htn, hBz⟩
   change z.ownsRow q.heap.size tInt 1 t.v t.n _ at hto
   change t.n = k at htn
   change Below q.heap.size q z at hBz
   have hB4z : Below w4.heap.size w4 z := below_then hB hBz
   obtain ⟨_, _, _, _, hrr⟩ := (hMq.on hBz).rowAt hsN hrl
   obtain ⟨p3, hp3, c3⟩ := nums_cell hrr hk
   obtain ⟨x, hx⟩ : ∃ x, x = M.nxt s k := ⟨_, rfl⟩
   have hxN : x < M.N := by rw [hx]; exact hok.lt s k hsN hk
   rw [← hx] at c3
   have oz := held_on hB4z (held_on b4 o3)
   obtain ⟨p4, hp4, c4⟩ := nums_cell (((hofr.on b3).on b4).on hB4z) hxN
   have hmem : f x ∈ (metL M f).map f := by
    rw [hx]
    exact Aut.met_in hok hc.lt (j := p) (by rw [List.getElem?_eq_getElem hpl, hs]) hk
   have hlk := run_look1 keysI undMii zeroInt (hm.on hB4z) ((f x : Nat) : Int)
   rw [look_mmap, idxOf_of hmem] at hlk
   refine hI2 _ t.a t.n t.c z (CondP.yes (decide_eq_true (by omega)) (NilC.mk p3 hp3 ⟨by omega, by omega, _, c3, _, _, _, cell1 oz, NilC.mk p4 hp4 ⟨by omega, by omega, _, c4, _, z, hlk, ?_⟩⟩))
   intro z1 hz1
   obtain ⟨t', z2, e1, e2, e3, e4, _⟩ := elInt.push (xs := ((List.range k).map (M'.nxt p)).map fun i : Nat => (i : Int)) hto ((((metL M f).map f).idxOf (f x) : Nat) : Int) hz1 rfl hBz.size (by omega) (by decide)
   refine ⟨t'.a, t'.n, t'.c, z2, e2, Ar.nat (k + 1) rfl (by omega) (ih2 (t', z2) ⟨?_, by show t'.n = k + 1; omega, e4 _ hBz⟩)⟩
   rw [List.range_succ, List.map_append, List.map_cons, List.map_nil, nat1_snoc, hnxt k, ← hx]
   exact e3
  ·rintro ⟨t, z⟩ ⟨hto, htn, hBz⟩
   change z.ownsRow q.heap.size tInt 1 t.v t.n _ at hto
   change Below q.heap.size q z at hBz
   have hB4z : Below w4.heap.size w4 z := below_then hB hBz
   have Rz := R.on hBz
   rw [← hn'] at hto
   refine hI2 _ t.a t.n t.c z (CondP.no (decide_eq_false (by omega)) ⟨_, _, _, by rw [cell_put Rz.blk]; rfl, ?_⟩)
   intro z1 hz1
   obtain ⟨nx', z2, e2, u2, f2, k2⟩ := Rz.pushRow (Nat.le_refl _) (own_base hto hB.size) hz1 hB4z.size (by omega)
   refine ⟨nx'.a, nx'.n, nx'.c, z2, e2, rfl, u2, f2, ?_⟩
   intro z3 hz3
   obtain ⟨R3, bz3, _⟩ := k2 z3 hz3
   have hB3 := bz3 _ hB4z
   intro z4 hz4
   have b34 : Below z3.heap.size z3 z4 := by subst hz4; exact drew_on z3
   have R4 := R3.on b34
   have hB4' := below_then hB3 b34
   have hM4 := (hM.on hb4).on hB4'
   obtain ⟨p5, hp5, c5⟩ := hM4.good hsN
   refine ⟨_, _, _, by rw [cell_put R4.blk]; rfl, NilC.mk _ rfl ⟨_, _, _, by rw [acell (held_on hB4' (held_on hb4 hblk))]; rfl, NilC.mk p5 hp5 ⟨by omega, by omega, _, c5, ?_⟩⟩⟩
   intro z5 hz5
   obtain ⟨gd', z6, e6, u6, f6, k6⟩ := R4.pushGood (Nat.le_refl _) hgd.symm hz5 hB4'.size (by omega)
   have b45 : Below z4.heap.size z4 z5 := by subst hz5; exact below_alloc _ _
   refine ⟨⟨by rw [cell_put (R4.on b45).blk]; rfl, trivial⟩, gd'.a, gd'.n, gd'.c, z6, e6, rfl, u6, f6, ?_⟩
   intro z7 hz7
   obtain ⟨R7, bz7⟩ := k6 z7 hz7
   exact Ar.nat (p + 1) rfl (by omega) (ih z7 ⟨nx', gd', _, R7, bz7 _ hB4'⟩)
 ·rintro q ⟨nx, gd, rs, R, hB⟩
  have hw1 : w.heap.size ≤ w1.heap.size := t1.size
  refine hI _ _ (CondP.no (decide_eq_false (by omega)) ⟨w4.heap.size, f, rfl, hc, ⟨none, ?_⟩, ⟨_, hA4.on hB⟩, by omega, (t1.trans (Touch.of_below hb4)).trans (Touch.of_below hB)⟩)
  rw [← hM']
  exact R.done hok'
section
variable {A : Option Addr} {C : Nat} {l : List Int}
end
theorem mul1_spec (c : Nat) (hc : c < 4294967296) (w : World) : CP 115 #[.int .u64 1, .int .u64 (c : Int)] w fun e w' => e = .returned (.tuple #[.int .u64 0, .int .u64 (c : Int)]) ∧ w' = w := by
 have hm : CP 167 #[.int .u64 1, .int .u64 (c : Int)] w fun e w' => e = .returned (.tuple #[.int .u64 0, .int .u64 (c : Int)]) ∧ w' = w := by
  refine calls_ret (vc167_calls 1 c w (fun u w' => u = .tuple #[.int .u64 0, .int .u64 (c : Int)] ∧ w' = w) ?_) (by rintro v w' ⟨rfl, h⟩; exact ⟨rfl, h⟩)
  unfold vc167 Ar
  have a1 : IntKind.wrap .u64 ((BitVec.ofInt (IntKind.bits .u64) (1 : Int) &&& BitVec.ofInt (IntKind.bits .u64) 4294967295).toNat : Int) = 1 := by decide
  have a2 : IntKind.wrap .u64 ((BitVec.ofInt (IntKind.bits .u64) (c : Int) &&& BitVec.ofInt (IntKind.bits .u64) 4294967295).toNat : Int) = (c : Int) := by
   have := and_m c 4294967295 (by omega) (by decide)
   rw [show (c &&& 4294967295 : Nat) = c from by have := Nat.and_two_pow_sub_one_eq_mod c 32; rw [show (2 ^ 32 - 1 : Nat) = 4294967295 by decide] at this; rw [this]; exact Nat.mod_eq_of_lt hc] at this
   exact this
  have a3 : Int.fdiv (1 : Int) (2 ^ (min (32 : Int).toNat (IntKind.bits .u64))) = 0 := by decide
  have a4 : Int.fdiv (c : Int) (2 ^ (min (32 : Int).toNat (IntKind.bits .u64))) = 0 := by
   have := sh_k c 32 (by decide)
   rw [show c / 2 ^ 32 = 0 from Nat.div_eq_of_lt hc] at this
   exact this
  have wc : IntKind.wrap .u64 (c : Int) = (c : Int) := wrap_u64 c (by omega)
  have w0 : IntKind.wrap .u64 (0 : Int) = 0 := by decide
  have z0 : Int.fdiv (0 : Int) (2 ^ (min (32 : Int).toNat (IntKind.bits .u64))) = 0 := by decide
  have z1 : IntKind.wrap .u64 ((BitVec.ofInt (IntKind.bits .u64) (0 : Int) &&& BitVec.ofInt (IntKind.bits .u64) 4294967295).toNat : Int) = 0 := by decide
  simp only [a1, a2, a3, a4, Int.one_mul, Int.zero_mul, Int.mul_zero, Int.zero_add, Int.add_zero, wc, w0, z0, z1]
  repeat first | trivial | exact ⟨rfl, rfl⟩ | refine ⟨by decide, ?_⟩
 refine calls_ret (vc115_calls 1 c w (fun u w' => u = .tuple #[.int .u64 0, .int .u64 (c : Int)] ∧ w' = w) ?_) (by rintro v w' ⟨rfl, h⟩; exact ⟨rfl, h⟩)
 refine hm.mono ?_
 rintro e w1 ⟨rfl, hw⟩
 exact ⟨_, _, rfl, rfl, hw⟩
theorem setRow_below {B g : Nat} {w0 w : World} (hb : Below B w0 w) (hg : B ≤ g) (cs : Array Value) : Below B w0 (w.setRow g cs) :=
 hb.trans ⟨rfl, rfl, rfl, by rw [size_setRow]; exact Nat.le_refl _, fun k hk => setRow_other w g k cs (by omega)⟩
theorem repeat_spec (w : World) (A : Option Addr) (C N : Nat) (h1 : 1 ≤ C) (hx : Rw encB1 1 w A [true]) (hN : 1 ≤ N) (hN2 : N ≤ 1000000) :
  CP 82 #[.slice A 1 C, .int .i64 (N : Int)] w fun e w' => ∃ l : Sl, e = .returned l.v ∧ l.n = N ∧ w'.ownsRow w.heap.size tBool 1 l.v l.n ((List.replicate N true).flatMap encB1) ∧ Below w.heap.size w w' := by
 refine calls_ret (vc82_calls A 1 C N w (fun u w' => ∃ l : Sl, u = l.v ∧ l.n = N ∧ w'.ownsRow w.heap.size tBool 1 l.v l.n ((List.replicate N true).flatMap encB1) ∧ Below w.heap.size w w') ?_) (by rintro v w' ⟨l, rfl, h⟩; exact ⟨l, rfl, h⟩)
 intro J1 hJ1
 refine CondP.no (decide_eq_false (by omega)) (hJ1 _ ?_)
 have hwN : IntKind.wrap .u64 (N : Int) = (N : Int) := wrap_u64 N (by omega)
 rw [hwN]
 refine (mul1_spec N (by omega) w).mono ?_
 rintro e w1 ⟨rfl, hw⟩
 subst w1
 refine ⟨_, _, rfl, ?_⟩
 intro J2 hJ2
 refine CondP.no rfl (CondP.no (decide_eq_false (by omega)) (hJ2 _ ?_))
 have hwi : IntKind.wrap .i64 (N : Int) = (N : Int) := wrap_in (by show (-9223372036854775808 : Int) ≤ _; omega) (by show _ ≤ (9223372036854775807 : Int); omega)
 rw [hwi]
 refine ⟨_, _, _, _, run_makeBools w N hN2, ?_⟩
 have b1 := below_alloc w (.cells (Array.replicate N (.bool false)) tBool)
 have o1 : (w.alloc (.cells (Array.replicate N (.bool false)) tBool)).heap[w.heap.size]? = some (.cells (Array.replicate N (.bool false)) tBool (0, 0)) := alloc_new _ _
 obtain ⟨w1, hw1⟩ : ∃ w1, w1 = w.alloc (.cells (Array.replicate N (.bool false)) tBool) := ⟨_, rfl⟩
 rw [← hw1] at b1 o1
 rw [← hw1]
 let cur (m : Nat) : List Value := List.replicate m (.bool true) ++ List.replicate (N - m) (.bool false)
 have clen : ∀ m, m ≤ N → (cur m).length = N := by intro m hm; simp [cur]; omega
 have info1 : (Tryz.prog.info? tBool).map (·.size) = some 1 := by
  obtain ⟨i, hi, _, hs, _⟩ := infoBool
  rw [hi]
  exact congrArg some hs
 have hst : ∀ (q : World) (m k : Nat), m + k ≤ N → q.heap[w.heap.size]? = some (.cells (cur m).toArray tBool (0, 0)) → (q.setRow w.heap.size (((cur m).toArray.toList.take m ++ List.replicate k (Value.bool true)) ++ (cur m).toArray.toList.drop (m + (List.replicate k (Value.bool true)).length)).toArray).heap[w.heap.size]? = some (.cells (cur (m + k)).toArray tBool (0, 0)) := by
  intro q m k hm hq
  rw [setRow_heap _ _ _ _ _ _ hq]
  congr 3
  simp only [cur, List.length_replicate]
  rw [List.take_append_of_le_length (by simp), List.take_of_length_le (by simp), List.drop_append, List.length_replicate, List.drop_eq_nil_of_le (by simp), List.nil_append, List.drop_replicate, List.replicate_append_replicate]
  congr 2
  omega
 have k1 : w1.heap[w.heap.size]? = some (.cells (cur 0).toArray tBool (0, 0)) := by
  rw [o1, show (cur 0).toArray = Array.replicate N (.bool false) by simp [cur]]
 obtain ⟨p, hp, _, hc⟩ := (hx.on b1) 0 true rfl
 have c0 := hc 0 _ rfl
 rw [Nat.zero_mul, add_zero, add_zero] at c0
 subst hp
 have cp1 := run_copy_row Tryz.prog w1 tBools tBools tInt tBool w.heap.size 0 N N p 1 C (cur 0).toArray tBool (List.replicate 1 (.bool true)) undBls info1 k1 (by rw [List.length_replicate]; show 1 = min 1 N; omega) (by
  intro j v hj
  match j, hj with
  | 0, hj => cases hj; rw [add_zero]; exact c0) (by simp [clen 0 (Nat.zero_le _)]; omega) (by intro v hv; simp at hv; subst hv; rfl)
 have k2 := hst w1 0 1 (by omega) k1
 refine ⟨_, _, cp1, ?_⟩
 intro I hI
 have loop : ∀ (d m : Nat) (q : World), N - m ≤ d → 1 ≤ m → m ≤ N → q.heap[w.heap.size]? = some (.cells (cur m).toArray tBool (0, 0)) → Below w.heap.size w q → I [.int .i64 (m : Int)] q := by
  have fin : ∀ (q : World), q.heap[w.heap.size]? = some (.cells (cur N).toArray tBool (0, 0)) → Below w.heap.size w q → I [.int .i64 (N : Int)] q := by
   intro q hq hB
   refine hI _ _ (CondP.no (decide_eq_false (by omega)) ⟨⟨some (nb w), N, N⟩, rfl, rfl, ⟨by simp [encB1], .inr ⟨w.heap.size, N, _, rfl, Nat.le_refl _, hq, Nat.le_refl _, by unfold maxLen; omega, by simp [cur], ?_⟩⟩, hB⟩)
   simp [cur, encB1, List.flatMap_replicate]
  intro d
  induction d with
  | zero =>
   intro m q hd h1m hmN hq hB
   obtain rfl : m = N := by omega
   exact fin q hq hB
  | succ d ihd =>
   intro m q hd h1m hmN hq hB
   by_cases e : m = N
   ·subst e; exact fin q hq hB
   obtain ⟨k, hk⟩ : ∃ k, k = min m (N - m) := ⟨_, rfl⟩
   have hkp : 1 ≤ k ∧ m + k ≤ N ∧ k ≤ m := by omega
   refine hI _ _ (CondP.yes (decide_eq_true (by omega)) ?_)
   intro q1 hq1
   have bq : Below q.heap.size q q1 := by subst hq1; exact drew_on q
   have hq' := held_on bq hq
   have hB1 := below_then hB bq
   refine ⟨by omega, by omega, trivial, trivial, trivial, by omega, by omega, by omega, trivial, trivial, ?_⟩
   have es : slBase (some (nb w)) ((m : Int)).toNat (((N : Nat) : Int)).toNat 1 = some ⟨w.heap.size, m, none⟩ := by
    unfold slBase
    rw [if_neg (by omega)]
    show some ((nb w).add (m * 1)) = _
    rw [add_lit, Nat.mul_one, Nat.zero_add]
   have ed : slBase (some (nb w)) (0 : Int).toNat (((N : Nat) : Int)).toNat 1 = some ⟨w.heap.size, 0, none⟩ := by
    unfold slBase
    rw [if_neg (by omega)]
    show some ((nb w).add (0 * 1)) = _
    rw [Nat.zero_mul, add_zero]
   rw [es, ed]
   have cp := run_copy_row Tryz.prog q1 tBools tBools tInt tBool w.heap.size m (((N : Nat) : Int).toNat - (m : Int).toNat) (((N : Nat) : Int).toNat - (m : Int).toNat) ⟨w.heap.size, 0, none⟩ ((m : Int).toNat - (0 : Int).toNat) (((N : Nat) : Int).toNat - (0 : Int).toNat) (cur m).toArray tBool (List.replicate k (.bool true)) undBls info1 hq' (by
    rw [List.length_replicate, hk]
    show min m (N - m) = min (m - 0) (N - m)
    rw [Nat.sub_zero]) (by
    intro j v hj
    rw [List.getElem?_replicate] at hj
    split at hj
    ·next hjk =>
     cases hj
     rw [ptr_add0 _ _ hq']
     simp only [List.getElem?_toArray, cur]
     rw [List.getElem?_append_left (by simp; omega), List.getElem?_replicate, if_pos (by omega)]
    ·cases hj) (by simp [clen m hmN]; omega) (by intro v hv; rw [(List.mem_replicate.1 hv).2]; rfl)
   have k3 := hst q1 m k (by omega) hq'
   refine ⟨_, _, cp, ?_⟩
   rw [List.length_replicate]
   refine Ar.nat (m + k) (by omega) (by omega) (ihd (m + k) _ (by omega) (by omega) (by omega) ?_ (setRow_below hB1 (Nat.le_refl _) _))
   rw [List.length_replicate] at k3
   exact k3
 exact loop N 1 _ (by omega) (Nat.le_refl _) hN k2 (setRow_below b1 (Nat.le_refl _) _)
abbrev tGp : TypeId := 48
abbrev tU64s : TypeId := 55
abbrev tIdF : TypeId := 137
def lastM (s : SpecV) (T : List Ent) : Aut := lastA (gN s T) (alB s T) (relB s T)
abbrev idFn (b : Nat) : Value := .func (.func 77) #[] #[.pointer (some ⟨b, 0, none⟩)]
theorem idKey_spec (w : World) (gb g : Nat) {ec : TypeId} (s : SpecV) (T : List Ent) (h : GrIs w g s T) (hc : w.heap[gb]? = some (.cells #[.pointer (some ⟨g, 0, none⟩)] ec (0, 0))) (i : Nat) (hi : i < gN s T) :
  CP 77 #[.int .i64 (i : Int), .pointer (some ⟨gb, 0, none⟩)] w fun e w' => e = .returned (.int .i64 ((gids s T).getD i 0)) ∧ w' = w := by
 refine calls_ret (vc77_calls i (some ⟨gb, 0, none⟩) w (fun u w' => u = .int .i64 ((gids s T).getD i 0) ∧ w' = w) ?_) (by rintro v w' ⟨rfl, h⟩; exact ⟨rfl, h⟩)
 refine NilC.mk _ rfl ⟨_, cell1 hc, (gId_at w g s T h i hi).mono ?_⟩
 rintro e w1 ⟨rfl, hw⟩
 exact ⟨_, _, rfl, rfl, hw⟩
theorem aloneKey_spec (w : World) (gb fb g : Nat) {ec ef : TypeId} (s : SpecV) (T : List Ent) (h : GrIs w g s T) (hn : gN s T ≤ 1032) (hc : w.heap[gb]? = some (.cells #[.pointer (some ⟨g, 0, none⟩)] ec (0, 0))) (hf : w.heap[fb]? = some (.cells #[idFn gb] ef (0, 0))) (i : Nat) (hi : i < gN s T) :
  CP 79 #[.int .i64 (i : Int), .pointer (some ⟨gb, 0, none⟩), .pointer (some ⟨fb, 0, none⟩)] w fun e w' => e = .returned (.bool (alB s T i)) ∧ Below w.heap.size w w' := by
 refine calls_ret (vc79_calls i (some ⟨gb, 0, none⟩) (some ⟨fb, 0, none⟩) w (fun u w' => u = .bool (alB s T i) ∧ Below w.heap.size w w') ?_) (by rintro v w' ⟨rfl, h⟩; exact ⟨rfl, h⟩)
 intro w1 hw1
 have b1 : Below w.heap.size w w1 := by subst hw1; exact drew_on w
 have hc1 := held_on b1 hc
 refine NilC.mk _ rfl ⟨_, cell1 hc1, NilC.mk _ rfl ⟨_, cell1 (held_on b1 hf), (show CallG ctx (idFn gb) [.int .i64 (i : Int)] w1 _ from callG_of (by kernel_rfl) (idKey_spec w1 gb g s T (h.on b1) hc1 i hi)).mono ?_⟩⟩
 rintro e w2 ⟨rfl, hw⟩
 subst w2
 refine ⟨_, rfl, ⟨cell1 hc1, trivial⟩, (gAlone_spec w1 g s T (h.on b1) hn _).mono ?_⟩
 rintro e w3 ⟨rfl, hw⟩
 subst w3
 rw [gAl_at hi]
 exact ⟨_, rfl, rfl, b1⟩
theorem rowKey_spec (w : World) (rb : Nat) {er : TypeId} (r : Sl) (n : Nat) (p : Nat → Bool) (hr : Rw encU64 1 w r.a (wordsOf n p)) (hl : r.n = (wordsOf n p).length) (hn : n ≤ 100000) (hb : w.heap[rb]? = some (.cells #[r.v] er (0, 0))) (i : Nat) (hi : i < n) :
  CP 80 #[.int .i64 (i : Int), .pointer (some ⟨rb, 0, none⟩)] w fun e w' => e = .returned (.bool (p i)) ∧ Below w.heap.size w w' := by
 refine calls_ret (vc80_calls i (some ⟨rb, 0, none⟩) w (fun u w' => u = .bool (p i) ∧ Below w.heap.size w w') ?_) (by rintro v w' ⟨rfl, h⟩; exact ⟨rfl, h⟩)
 unfold vc80
 rw [div64 i (by omega), mod64]
 rw [wordsOf_length] at hl
 have hk : i / 64 < (n + 63) / 64 := by omega
 obtain ⟨q, hq, _, hc⟩ := hr _ _ (wordsOf_get n p hk)
 have c0 := hc 0 _ rfl
 rw [add_zero] at c0
 refine NilC.mk _ rfl ⟨_, _, _, cell1 hb, by decide, NilC.mk q hq ⟨by omega, by omega, _, c0, by decide, by omega, ?_, Below.refl _ _⟩⟩
 rw [has_bit _ _ (wordAt_lt _ _ _) (Nat.mod_lt _ (by decide)), wordAt_test n p hi]
theorem noKey_spec (i : Nat) (w : World) : CP 81 #[.int .i64 (i : Int)] w fun e w' => e = .returned (.bool false) ∧ Below w.heap.size w w' :=
 calls_ret (vc81_calls i w (fun u w' => u = .bool false ∧ Below w.heap.size w w') ⟨rfl, Below.refl _ _⟩) (by rintro v w' ⟨rfl, h⟩; exact ⟨rfl, h⟩)
theorem lead_row {n : Nat} {al : Nat → Bool} {rel : Nat → Nat → Bool} {m : Nat → Bool} {i : Nat} (h : ∀ k, k < n → m k = mayA n al rel i k) : ((List.range n).map fun k => ((if m k then k + 1 else n + 1 : Nat) : Int)).flatMap encInt = nat1 ((List.range (lastA n al rel).n).map ((lastA n al rel).nxt i)) := by
 unfold nat1
 rw [List.map_map]
 congr 1
 apply List.map_congr_left
 intro k hk
 show ((if m k then k + 1 else n + 1 : Nat) : Int) = ((if mayA n al rel i k then k + 1 else n + 1 : Nat) : Int)
 rw [h k (List.mem_range.1 hk)]
theorem AutB.put {w : World} {B b g : Nat} {M : Aut} {nx gd : Sl} {rs : List Sl} {m j : Nat} (h : AutB w B b g M nx gd rs m j) {k : Nat} {c : Array Value} (hk : w.heap[k]? = some (.cells c tU64s (0, 0))) (u : Value) : AutB (w.setCell ⟨k, 0, none⟩ u) B b g M nx gd rs m j := by
 have hkb : b ≠ k := by
  rintro rfl
  rw [h.blk] at hk
  cases hk
 exact ⟨(heap_setCell_ne hkb).trans h.blk, own_setCell h.onx u (row_ne_blk h.onx hk (by decide)), h.rl, fun i r hr => own_setCell (h.each i r hr) u (row_ne_blk (h.each i r hr) hk (by decide)), own_setCell h.ogd u (row_ne_blk h.ogd hk (by decide))⟩
set_option maxHeartbeats 4000000 in
theorem last_spec (w : World) (g : Nat) (s : SpecV) (T : List Ent) (h : GrIs w g s T) (hn : gN s T ≤ 1032) (hr : RiseG s T) (most : Int) :
  CP 42 #[.pointer (some ⟨g, 0, none⟩), .int .i64 most] w fun e w' => Below w.heap.size w w' ∧ ((((gN s T + 2) * gN s T : Nat) : Int) > most → e = .returned (.tuple #[.pointer none, .int .i64 5])) ∧ (¬ (((gN s T + 2) * gN s T : Nat) : Int) > most → ∃ a, e = .returned (.tuple #[.pointer (some ⟨a, 0, none⟩), .int .i64 0]) ∧ w.heap.size ≤ a ∧ AutIs w' a g (lastM s T)) := by
 let R : Value → World → Prop := fun u w' => Below w.heap.size w w' ∧ ((((gN s T + 2) * gN s T : Nat) : Int) > most → u = .tuple #[.pointer none, .int .i64 5]) ∧ (¬ (((gN s T + 2) * gN s T : Nat) : Int) > most → ∃ a, u = .tuple #[.pointer (some ⟨a, 0, none⟩), .int .i64 0] ∧ w.heap.size ≤ a ∧ AutIs w' a g (lastM s T))
 refine calls_ret (vc42_calls (some ⟨g, 0, none⟩) most w R ?_) (by rintro v w' ⟨h1, h2, h3⟩; exact ⟨h1, fun e => by rw [h2 e], fun e => by obtain ⟨a, rfl, h⟩ := h3 e; exact ⟨a, rfl, h⟩⟩)
 intro w1 hw1
 have b1 : Below w.heap.size w w1 := by subst hw1; exact below_alloc _ _
 have l1 : w1.heap[w.heap.size]? = some (.cells #[.pointer (some ⟨g, 0, none⟩)] tGp (0, 0)) := by subst hw1; exact alloc_new _ _
 have s1 : w.heap.size < w1.heap.size := (Array.getElem?_eq_some_iff.1 l1).1
 refine ⟨_, cell1 l1, (gSize_spec w1 g s T (h.on b1)).mono ?_⟩
 rintro e w2 ⟨rfl, hw⟩
 subst w2
 obtain ⟨n, hgn⟩ : ∃ n, n = gN s T := ⟨_, rfl⟩
 have hgl : (gids s T).length = n := hgn.symm
 have hn2 : n ≤ 1032 := by omega
 have hmul : (n + 2) * n ≤ 1034 * 1032 := Nat.mul_le_mul (by omega) hn2
 rw [hgl]
 refine ⟨_, rfl, _, cell1 l1, CondP.no rfl (Ar.nat (n + 2) rfl (by omega) (Ar.nat ((n + 2) * n) (by simp) (by omega) (CondP.mk (fun hm => ?_) fun hm => ?_)))⟩
 ·have hm := of_decide_eq_true hm
  rw [hgn] at hm
  exact ⟨b1, fun _ => rfl, fun h => absurd hm h⟩
 have hm := of_decide_eq_false hm
 rw [hgn] at hm
 refine ⟨_, cell1 l1, ?_⟩
 intro w3 hw3
 have b3 : Below w1.heap.size w1 w3 := by subst hw3; exact below_alloc _ _
 obtain ⟨M, hM⟩ : ∃ M, M = lastM s T := ⟨_, rfl⟩
 have hMn : M.n = n := by rw [hM, hgn]; rfl
 have hMN : M.N = n + 2 := by rw [hM, hgn]; rfl
 have R3 : AutB w3 w1.heap.size w1.heap.size g M sl0 sl0 [] 0 0 := ⟨by subst hw3; exact alloc_new _ _, own_none _ _ _ _ encS, rfl, (by intro i r h; cases h), own_none _ _ _ _ encB1⟩
 refine Ar.nat (n + 1) rfl (by omega) ?_
 intro w4 hw4
 refine box_store hw4 rfl ?_
 intro w5 l5 b5
 intro w6 hw6
 have b6 : Below w5.heap.size w5 w6 := by subst hw6; exact drew_on w5
 have b36 := below_then b5 b6
 have b16 := below_then b3 b36
 have hb6 := below_then b1 b16
 have R6 := R3.on b36
 have f6 := held_on b6 l5
 have g6 := held_on b16 l1
 have h6 := h.on hb6
 have hall : ∀ (f : Nat → Bool) (i : Nat), (∀ k, k < n → f k = mayA (gN s T) (alB s T) (relB s T) i k) → ((List.range n).map fun k => ((if f k then k + 1 else n + 1 : Nat) : Int)).flatMap encInt = nat1 ((List.range M.n).map (M.nxt i)) := by
  intro f i hf
  rw [hM, hgn]
  exact lead_row (by rw [← hgn] at hf ⊢; exact hf)
 refine ⟨sl0.a, sl0.n, sl0.c, by rw [cell_put R6.blk]; rfl, (leads_spec w6 n (n + 1) _ (alB s T) (by omega) fun k hk q hq => callG_of (by kernel_rfl) (aloneKey_spec q w.heap.size w3.heap.size g s T (h6.on hq) hn (held_on hq g6) (held_on hq f6) k (by omega))).mono ?_⟩
 rintro e w7 ⟨l, rfl, hl, hlo, b7⟩
 have R7 := R6.on b7
 refine ⟨l.a, l.n, l.c, rfl, ⟨by rw [cell_put R7.blk]; rfl, trivial⟩, ?_⟩
 intro w8 hw8
 have b8 : Below w7.heap.size w7 w8 := by subst hw8; exact below_alloc _ _
 have b17 := below_then b16 b7
 have f7 := held_on b7 f6
 have hs1 : w1.heap.size ≤ w6.heap.size := b16.size
 obtain ⟨nx, w9, e9, u9, z9, k9⟩ := R7.pushRow (Nat.le_refl _) (r := l) (by rw [← hall (alB s T) 0 (fun k _ => rfl)]; exact own_base hlo hs1) hw8 b17.size (by omega)
 refine ⟨⟨by rw [cell_put (R7.on b8).blk]; rfl, trivial⟩, nx.a, nx.n, nx.c, w9, e9, rfl, u9, z9, ?_⟩
 intro w10 hw10
 obtain ⟨R10, B10, K10⟩ := k9 w10 hw10
 have f10 := K10 f7 (by decide) (by decide)
 have b110 := B10 w1 b17
 intro I hI
 let Inv (i : Nat) (q : World) : Prop := ∃ nx rs, AutB q w1.heap.size w1.heap.size g M nx sl0 rs (i + 1) 0 ∧ Below w1.heap.size w1 q ∧ q.heap[w3.heap.size]? = some (.cells #[idFn w.heap.size] tIdF (0, 0))
 have key := climb2 (α := World) n Inv (fun i q => I [.int .i64 (i : Int)] q) w10 ⟨nx, _, R10, b110, f10⟩ ?_ ?_
 ·exact key
 ·rintro i hi ih q ⟨nx, rs, Rq, Bq, fq⟩
  have hi' : i < gN s T := by omega
  have tail : ∀ (z : World) (rb : Nat) (r : Sl), z.heap[rb]? = some (.cells #[r.v] tU64s (0, 0)) → Rw encU64 1 z r.a (wordsOf n (relB s T i)) → r.n = (wordsOf n (relB s T i)).length → AutB z w1.heap.size w1.heap.size g M nx sl0 rs (i + 1) 0 → Below w1.heap.size w1 z → z.heap[w3.heap.size]? = some (.cells #[idFn w.heap.size] tIdF (0, 0)) →
    ∀ w17 : World, w17 = z.drew →
           ∃ lA_18 : Option Addr, ∃ lN_19 : Nat, ∃ lC_20 : Nat, w17.cell? ((nb w1).add 1) = some (Value.slice lA_18 lN_19 lC_20) ∧
           CP 78 #[Value.int .i64 (n : Int), Value.int .i64 ((n + 1 : Nat) : Int), Value.func (.func 80) #[] #[Value.pointer (some ⟨rb, 0, none⟩)]] w17 (fun e18 w18 =>
           ∃ lA_21 : Option Addr, ∃ lN_22 : Nat, ∃ lC_23 : Nat, e18 = .returned (Value.slice lA_21 lN_22 lC_23) ∧
           (w18.cell? ((nb w1).add 1) = some (Value.slice lA_18 lN_19 lC_20) ∧ True) ∧
           ∀ w19 : World, w19 = w18.alloc (.cells #[Value.slice lA_21 lN_22 lC_23] tInts) →
           (w19.cell? ((nb w1).add 1) = some (Value.slice lA_18 lN_19 lC_20) ∧ True) ∧
           ∃ lA_24 : Option Addr, ∃ lN_25 : Nat, ∃ lC_26 : Nat, ∃ w20 : World, (Builtin.append_ #[tIntss, tIntss] tIntss #[Value.slice lA_18 lN_19 lC_20, Value.slice (some (nb w18)) 1 1]).run Tryz.prog w19 = .ok (Value.slice lA_24 lN_25 lC_26) w20 ∧
           (Value.slice lA_24 lN_25 lC_26).oneCell' = true ∧ (∃ u, w20.cell? ((nb w1).add 1) = some u) ∧ w20.frozen? ((nb w1).add 1) = false ∧
           ∀ w21 : World, w21 = (w20.setCell ((nb w1).add 1) (Value.slice lA_24 lN_25 lC_26)) →
           Ar .i64 ((i : Int) + 1) (fun n_27 => I [Value.int .i64 n_27] w21)) := by
   intro z rb r hz hrw hrl Rz Bz fz w17 hw17
   have bd : Below z.heap.size z w17 := by subst hw17; exact drew_on z
   have Rd := Rz.on bd
   refine ⟨nx.a, nx.n, nx.c, by rw [cell_put Rd.blk]; rfl, (leads_spec w17 n (n + 1) _ (relB s T i) (by omega) fun k hk q hq => callG_of (by kernel_rfl) (rowKey_spec q rb r n (relB s T i) ((hrw.on bd).on hq) hrl (by omega) (held_on hq (held_on bd hz)) k hk)).mono ?_⟩
   rintro e w18 ⟨l, rfl, hl, hlo, b18⟩
   have R18 := Rd.on b18
   refine ⟨l.a, l.n, l.c, rfl, ⟨by rw [cell_put R18.blk]; rfl, trivial⟩, ?_⟩
   intro w19 hw19
   have b19 : Below w18.heap.size w18 w19 := by subst hw19; exact below_alloc _ _
   have Bd := below_then Bz bd
   have B18 := below_then Bd b18
   have f18 := held_on b18 (held_on bd fz)
   obtain ⟨nx', w20, e20, u20, z20, k20⟩ := R18.pushRow (Nat.le_refl _) (r := l) (by
    rw [← hall (relB s T i) (i + 1) (fun k _ => by
     unfold mayA
     rw [if_neg (by omega), if_pos (by omega)]
     rfl)]
    exact own_base hlo Bd.size) hw19 B18.size (by omega)
   refine ⟨⟨by rw [cell_put (R18.on b19).blk]; rfl, trivial⟩, nx'.a, nx'.n, nx'.c, w20, e20, rfl, u20, z20, ?_⟩
   intro w21 hw21
   obtain ⟨R21, B21, K21⟩ := k20 w21 hw21
   exact Ar.nat (i + 1) rfl (by omega) (ih w21 ⟨nx', _, R21, B21 w1 B18, K21 f18 (by decide) (by decide)⟩)
  refine hI _ _ (CondP.yes (decide_eq_true (by omega)) ?_)
  intro w12 hw12
  have b12 : Below q.heap.size q w12 := by subst hw12; exact drew_on q
  have B12 := below_then Bq b12
  have R12 := Rq.on b12
  have f12 := held_on b12 fq
  have g12 := held_on B12 l1
  have h12 : GrIs w12 g s T := (h.on b1).on B12
  have rowOf : ∀ (z : World), GrIs z g s T → CP 31 #[.pointer (some ⟨g, 0, none⟩), .int .i64 ((gids s T).getD i 0)] z fun e z' => ∃ r : Sl, e = .returned r.v ∧ Rw encU64 1 z' r.a (wordsOf n (relB s T i)) ∧ r.n = (wordsOf n (relB s T i)).length ∧ z'.ownsRow z.heap.size tU64 1 r.v r.n ((wordsOf n (relB s T i)).flatMap encU64) ∧ Below z.heap.size z z' := by
   intro z hz
   refine (gRow_spec z g s T hz hn _).mono ?_
   rintro e z' ⟨bz, ⟨hno, _⟩ | ⟨k, l, hk, rfl, ho⟩⟩
   ·rw [plc_at hr hi'] at hno; cases hno
   ·rw [plc_at hr hi'] at hk
    cases hk
    rw [hgl] at ho
    have hls := LsAt.of_own elU64 ho
    exact ⟨l, rfl, hls.r, hls.n, ho, bz⟩
  refine ⟨_, cell1 g12, _, cell1 f12, (show CallG ctx (idFn w.heap.size) [.int .i64 (i : Int)] w12 _ from callG_of (by kernel_rfl) (idKey_spec w12 w.heap.size g s T h12 g12 i hi')).mono ?_, ?_⟩
  ·rintro e w13 ⟨rfl, hw⟩
   subst w13
   refine ⟨_, rfl, ⟨cell1 g12, trivial⟩, (rowOf w12 h12).mono ?_, ?_⟩
   ·rintro e w14 ⟨r, rfl, hrw, hrl, _, b14⟩
    refine ⟨_, _, _, rfl, ?_⟩
    intro w15 hw15
    refine box_store hw15 rfl ?_
    intro w16 l16 b16'
    exact tail w16 w14.heap.size r l16 (hrw.on b16') hrl ((R12.on b14).on b16') (below_then (below_then B12 b14) b16') (held_on b16' (held_on b14 f12))
   ·intro w22 hw22
    have b22 : Below w12.heap.size w12 w22 := by subst hw22; exact below_alloc _ _
    have o22 : w22.heap[w12.heap.size]? = some (.cells #[.slice none 0 0] tU64s (0, 0)) := by subst hw22; exact alloc_new _ _
    refine ⟨⟨cell1 (held_on b22 g12), trivial⟩, (rowOf w22 (h12.on b22)).mono ?_⟩
    rintro e w23 ⟨r, rfl, hrw, hrl, hro, b23⟩
    have o23 := held_on b23 o22
    have b1223 := below_then b22 b23
    refine ⟨_, _, _, rfl, rfl, ⟨_, cell1 o23⟩, frozen_heap o23, ?_⟩
    intro w24 hw24
    have hrl' := hrl
    subst hw24
    have hb24 : Below w1.heap.size w1 (w23.setCell (nb w12) r.v) := (below_then B12 b1223).setCell (p := ⟨w12.heap.size, 0, none⟩) B12.size _
    have hne : w3.heap.size ≠ w12.heap.size := by have := (Array.getElem?_eq_some_iff.1 f12).1; omega
    exact tail _ w12.heap.size r (setCell_heap o23 r.v) (LsAt.of_own elU64 (own_setCell hro r.v (row_ne_blk hro o23 (by decide)))).r hrl ((R12.on b1223).put o23 _) hb24 ((heap_setCell_ne (show w3.heap.size ≠ (nb w12).block from hne)).trans (held_on b1223 f12))
  ·intro w30 hw30
   have b30 : Below w12.heap.size w12 w30 := by subst hw30; exact below_alloc _ _
   have o30 : w30.heap[w12.heap.size]? = some (.cells #[.slice none 0 0] tU64s (0, 0)) := by subst hw30; exact alloc_new _ _
   have g30 := held_on b30 g12
   refine ⟨⟨cell1 (held_on b30 f12), trivial⟩, ⟨cell1 g30, trivial⟩, (show CallG ctx (idFn w.heap.size) [.int .i64 (i : Int)] w30 _ from callG_of (by kernel_rfl) (idKey_spec w30 w.heap.size g s T (h12.on b30) g30 i hi')).mono ?_⟩
   rintro e w31 ⟨rfl, hw⟩
   subst w31
   refine ⟨_, rfl, ⟨cell1 g30, trivial⟩, (rowOf w30 (h12.on b30)).mono ?_⟩
   rintro e w32 ⟨r, rfl, hrw, hrl, hro, b32⟩
   have o32 := held_on b32 o30
   have b1232 := below_then b30 b32
   refine ⟨_, _, _, rfl, rfl, ⟨_, cell1 o32⟩, frozen_heap o32, ?_⟩
   intro w33 hw33
   subst hw33
   have hb33 : Below w1.heap.size w1 (w32.setCell (nb w12) r.v) := (below_then B12 b1232).setCell (p := ⟨w12.heap.size, 0, none⟩) B12.size _
   have hne : w3.heap.size ≠ w12.heap.size := by have := (Array.getElem?_eq_some_iff.1 f12).1; omega
   exact tail _ w12.heap.size r (setCell_heap o32 r.v) (LsAt.of_own elU64 (own_setCell hro r.v (row_ne_blk hro o32 (by decide)))).r hrl ((R12.on b1232).put o32 _) hb33 ((heap_setCell_ne (show w3.heap.size ≠ (nb w12).block from hne)).trans (held_on b1232 f12))
 ·rintro q ⟨nx, rs, Rq, Bq, fq⟩
  refine hI _ _ (CondP.no (decide_eq_false (by omega)) ?_)
  intro w39 hw39
  have b39 : Below q.heap.size q w39 := by subst hw39; exact drew_on q
  have R39 := Rq.on b39
  have B39 := below_then Bq b39
  refine ⟨nx.a, nx.n, nx.c, by rw [cell_put R39.blk]; rfl, (leads_spec w39 n (n + 1) _ (fun _ => false) (by omega) fun k hk z hz => callG_of (by kernel_rfl) (noKey_spec k z)).mono ?_⟩
  rintro e w40 ⟨l, rfl, hl, hlo, b40⟩
  have R40 := R39.on b40
  have B40 := below_then B39 b40
  refine ⟨l.a, l.n, l.c, rfl, ⟨by rw [cell_put R40.blk]; rfl, trivial⟩, ?_⟩
  intro w41 hw41
  have b41 : Below w40.heap.size w40 w41 := by subst hw41; exact below_alloc _ _
  obtain ⟨nx', w42, e42, u42, z42, k42⟩ := R40.pushRow (Nat.le_refl _) (r := l) (by
   rw [← hall (fun _ => false) (n + 1) (fun k _ => by
    unfold mayA
    rw [if_neg (by omega), if_neg (by omega)])]
   exact own_base hlo B39.size) hw41 B40.size (by omega)
  refine ⟨⟨by rw [cell_put (R40.on b41).blk]; rfl, trivial⟩, nx'.a, nx'.n, nx'.c, w42, e42, rfl, u42, z42, ?_⟩
  intro w43 hw43
  obtain ⟨R43, B43, _⟩ := k42 w43 hw43
  have B43 := B43 w1 B40
  intro w44 hw44
  have b44 : Below w43.heap.size w43 w44 := by subst hw44; exact below_alloc _ _
  have hx : Rw encB1 1 w44 (some (nb w43)) [true] := by
   have o : w44.ownsRow 0 tBool 1 (.slice (some (nb w43)) 1 1) 1 ([true].flatMap encB1) := by subst hw44; exact own_made _ rfl (by decide) (Nat.zero_le _)
   exact (LsAt.of_own (l := ⟨some (nb w43), 1, 1⟩) elBl o).r
  refine Ar.nat (n + 2) rfl (by omega) ((repeat_spec w44 _ 1 (n + 2) (Nat.le_refl _) hx (by omega) (by omega)).mono ?_)
  rintro e w45 ⟨gd, rfl, hgd, hgo, b45⟩
  have b4345 := below_then b44 b45
  have R45 := R43.on b4345
  have B45 := below_then B43 b4345
  refine ⟨gd.a, gd.n, gd.c, rfl, rfl, ⟨_, by rw [cell_put R45.blk]; rfl⟩, frozen_put R45.blk, ?_⟩
  intro w46 hw46
  have k46 : w46.heap[w1.heap.size]? = some (.cells (autC g nx' gd 0 0 sl0) tAuto (0, 0)) := by subst hw46; exact heap_put R45.blk _
  have same46 : ∀ {B sz n : Nat} {e : TypeId} {u : Value} {xs : List Value}, w45.ownsRow B e sz u n xs → e ≠ tAuto → w46.ownsRow B e sz u n xs := by
   intro B sz n e u xs ho hne
   subst hw46
   exact own_setCell ho _ (by rw [add_block]; exact row_ne_blk ho R45.blk hne)
  have B46 : Below w1.heap.size w1 w46 := by subst hw46; exact below_put B45 (Nat.le_refl _) _
  have go46 := same46 hgo (by decide)
  obtain ⟨ga, hga⟩ : ∃ ga, gd.a = some ga := by
   obtain ⟨p, hp, _⟩ := (LsAt.of_own elBl go46).r 0 true (by simp [List.getElem?_replicate])
   exact ⟨p, hp⟩
  obtain ⟨u, fz, k⟩ := own_write (l := gd) (enc := encB1) (sz := 1) (fun _ => rfl) (by decide) go46 (by simp [hgd]) hga (i := n + 1) (x := true) (by simp [List.getElem?_replicate]) (k := 0) (by decide) false (.bool false) rfl
  rw [add_zero] at u fz k
  refine ⟨_, _, _, by rw [cell_put k46]; rfl, NilC.mk ga hga ⟨by omega, by omega, rfl, u, fz, ?_⟩⟩
  intro w47 hw47
  obtain ⟨o47, s47, z47, b47⟩ := k w47 hw47
  have ne47 : gd.v.ownBlock ≠ some w1.heap.size := row_ne_blk go46 k46 (by decide)
  have same47 : ∀ {B sz n : Nat} {e : TypeId} {u : Value} {xs : List Value}, w46.ownsRow B e sz u n xs → e ≠ tBool → w47.ownsRow B e sz u n xs := fun ho hne => own_same ho fun j hj => s47 j (row_ne_row ho go46 hne j hj)
  have hgood : ((List.replicate (n + 2) true).set (n + 1) false) = (List.range M.N).map M.good := by
   rw [hMN, hM]
   apply List.ext_getElem?
   intro j
   by_cases hj : j < n + 2
   ·rw [List.getElem?_set, List.getElem?_map, List.getElem?_range hj]
    show _ = some (decide (j ≤ gN s T))
    rw [← hgn]
    by_cases e : n + 1 = j
    ·subst e; simp
    ·rw [if_neg e, List.getElem?_replicate, if_pos hj, decide_eq_true (by omega)]
   ·rw [List.getElem?_eq_none_iff.2 (by simp; omega), List.getElem?_eq_none_iff.2 (by simp; omega)]
  rw [hgood] at o47
  have hbf : Below w1.heap.size w1 w47 := b47 _ _ (by have := b17.size; have := (below_then B43 b44).size; omega) B46
  refine ⟨below_then b1 hbf, fun h => absurd h hm, fun _ => ⟨w1.heap.size, rfl, Nat.le_of_lt s1, ?_⟩⟩
  rw [← hM]
  have hok : M.Ok := by rw [hM]; exact last_ok (by omega)
  refine ⟨none, nx', gd, sl0, _, 0, (s47 _ ne47).trans k46, ⟨own_base (same47 (same46 R45.onx (by decide)) (by decide)) (Nat.zero_le _), by rw [R45.rl, hMN], fun i r hi => own_base (same47 (same46 (R45.each i r hi) (by decide)) (by decide)) (Nat.zero_le _), own_base o47 (Nat.zero_le _), hok⟩, rfl, rfl⟩
def nextV (M : Aut) (s : SpecV) (T : List Ent) (x id : Int) : Value :=
 match (if 0 ≤ x ∧ x < (M.N : Int) then plc s T id else none) with
 | some k => .tuple #[.int .i64 ((M.nxt x.toNat k : Nat) : Int), .bool true]
 | none => .tuple #[.int .i64 0, .bool false]
theorem aNext_spec (w : World) (a g : Nat) (M : Aut) (h : AutIs w a g M) (s : SpecV) (T : List Ent) (hG : GrIs w g s T) (hn : M.n = gN s T) (x id : Int) :
  CP 45 #[.pointer (some ⟨a, 0, none⟩), .int .i64 x, .int .i64 id] w fun e w' => e = .returned (nextV M s T x id) ∧ w' = w := by
 refine calls_ret (vc45_calls (some ⟨a, 0, none⟩) x id w (fun u w' => u = nextV M s T x id ∧ w' = w) ?_) (by rintro v w' ⟨rfl, h⟩; exact ⟨rfl, h⟩)
 refine (aHas_spec w a g M h x).mono ?_
 rintro e w1 ⟨rfl, hw⟩
 subst w1
 refine ⟨_, rfl, CondP.mk (fun h0 => ?_) fun h0 => ?_⟩
 ·have h0 := of_decide_eq_false ((Bool.not_eq_true' _).mp h0)
  unfold nextV
  rw [if_neg h0]
  exact ⟨rfl, rfl⟩
 have h0 := of_decide_eq_true ((Bool.not_eq_false' _).mp h0)
 obtain ⟨o, h⟩ := h
 obtain ⟨next, good, of, rs, d, hb, hM⟩ := h.blk
 have hl := hM.len.1
 unfold nextV
 rw [if_pos h0]
 refine NilC.mk _ rfl ⟨_, by rw [acell hb]; rfl, (gPlace_spec w g s T hG id).mono ?_⟩
 rintro e w2 ⟨rfl, hw⟩
 subst w2
 refine ⟨_, _, rfl, CondP.mk (fun h1 => ?_) fun h1 => ?_⟩
 ·cases hp : plc s T id with
  | none => exact ⟨rfl, rfl⟩
  | some k => rw [hp] at h1; cases h1
 ·cases hp : plc s T id with
  | none => rw [hp] at h1; cases h1
  | some k =>
   have hk : k < M.n := by rw [hn]; exact (plc_some hp).1
   obtain ⟨p, r, hp1, c1, hrn, hr⟩ := hM.row (show x.toNat < M.N by omega)
   obtain ⟨p2, hp2, c2⟩ := nums_cell hr hk
   refine NilC.mk _ rfl ⟨_, _, _, by rw [acell hb]; rfl, NilC.mk p hp1 ⟨by omega, by omega, _, _, _, c1, NilC.mk p2 hp2 ⟨?_, ?_, _, c2, rfl, rfl⟩⟩⟩
   ·show (0 : Int) ≤ ((k : Nat) : Int); omega
   ·show ((k : Nat) : Int) < _; omega
def GoodAt (s : SpecV) (T : List Ent) (ids : List Int) (i x : Nat) : Prop :=
 (∀ (j : Nat) (h : j < ids.length), j < i → (vocOf s T).Has ids[j] ∧ (vocOf s T).Canon (ids.take (j + 1))) ∧ ((i = 0 ∧ x = 0) ∨ ∃ (h : i - 1 < ids.length) (k : Nat), 0 < i ∧ plc s T ids[i - 1] = some k ∧ x = k + 1)
theorem goodAt_step {s : SpecV} {T : List Ent} {ids : List Int} {i x k : Nat} (hV : (vocOf s T).Ok) (hok : TOk T) (h : GoodAt s T ids i x) (hi : i < ids.length) (hk : plc s T ids[i] = some k) :
  (mayA (gN s T) (alB s T) (relB s T) x k = true ↔ (vocOf s T).Canon (ids.take (i + 1))) ∧ (vocOf s T).Has ids[i] := by
 obtain ⟨hk1, hk2, hk3⟩ := plc_some hk
 have hh := (has_iff2 hok _).1 hk3
 refine ⟨?_, hh⟩
 have htk : ids.take (i + 1) = ids.take i ++ [ids[i]] := by rw [List.take_add_one, List.getElem?_eq_getElem hi]; rfl
 rcases h.2 with ⟨rfl, rfl⟩ | ⟨hp, k', hi0, hk', rfl⟩
 ·rw [htk, List.take_zero, List.nil_append]
  show alB s T k = true ↔ _
  unfold alB
  rw [hk2, decide_eq_true_iff]
 ·obtain ⟨j, rfl⟩ : ∃ j, i = j + 1 := ⟨i - 1, by omega⟩
  simp only [Nat.add_sub_cancel] at hk' hp
  obtain ⟨hk1', hk2', hk3'⟩ := plc_some hk'
  have hj := h.1 j (by omega) (by omega)
  have htk2 : ids.take (j + 1) = ids.take j ++ [ids[j]] := by rw [List.take_add_one, List.getElem?_eq_getElem (by omega)]; rfl
  have hha : ∀ t ∈ ids.take j ++ [ids[j]], (vocOf s T).Has t := by
   intro t ht
   rw [← htk2] at ht
   obtain ⟨m, hm, rfl⟩ := List.mem_take_iff_getElem.1 ht
   exact (h.1 m (by omega) (by omega)).1
  have hc2 := hj.2
  rw [htk2] at hc2
  have m1 := Voc.canon_more hV hha hc2 hh
  have m2 : (vocOf s T).Canon [ids[j], ids[j + 1]] ↔ (vocOf s T).Canon [ids[j + 1]] ∧ (vocOf s T).Pair ids[j] ids[j + 1] := Voc.canon_more hV (init := []) (l := ids[j]) (t := ids[j + 1]) (fun x hx => by rw [List.nil_append, List.mem_singleton] at hx; rw [hx]; exact hj.1) (Voc.canon_append hV hha hc2).2 hh
  rw [htk, htk2, m1, ← m2]
  unfold mayA
  rw [if_neg (by omega), if_pos (by unfold gN; omega)]
  show relB s T (k' + 1 - 1) k = true ↔ _
  rw [Nat.add_sub_cancel]
  unfold relB
  rw [hk2, hk2', decide_eq_true_iff]
theorem goodAt_next {s : SpecV} {T : List Ent} {ids : List Int} {i x k : Nat} (h : GoodAt s T ids i x) (hi : i < ids.length) (hk : plc s T ids[i] = some k) (hh : (vocOf s T).Has ids[i]) (hc : (vocOf s T).Canon (ids.take (i + 1))) : GoodAt s T ids (i + 1) (k + 1) := by
 refine ⟨fun j hj hji => ?_, .inr ⟨by simpa using hi, k, by omega, by simpa using hk, rfl⟩⟩
 by_cases e : j = i
 ·subst e; exact ⟨hh, hc⟩
 ·exact h.1 j hj (by omega)
structure SimL (s : SpecV) (T : List Ent) (M : Aut) (S : Nat → Nat → Prop) : Prop where
 zero : S 0 0
 lt : ∀ x p, S x p → x < gN s T + 2 ∧ p < M.N
 good : ∀ x p, S x p → M.good p = decide (x ≤ gN s T)
 next : ∀ x p k, S x p → k < gN s T → S (if mayA (gN s T) (alB s T) (relB s T) x k then k + 1 else gN s T + 1) (M.nxt p k)
theorem aFirst_spec (w : World) (a g : Nat) (M : Aut) (h : AutIs w a g M) (s : SpecV) (T : List Ent) (hG : GrIs w g s T) (hn : M.n = gN s T) (S : Nat → Nat → Prop) (hS : SimL s T M S) (hok : TOk T) (hV : (vocOf s T).Ok) (A : Option Addr) (C : Nat) (ids : List Int) (hr : Rw encInt 1 w A ids) (hl : ids.length ≤ 10000) :
  CP 59 #[.pointer (some ⟨a, 0, none⟩), .slice A ids.length C] w fun e w' => ∃ o : Option Nat, e = .returned (.tuple #[.int .i64 ((o.getD 0 : Nat) : Int), .bool o.isSome]) ∧ FirstR (vocOf s T) ids o ∧ w' = w := by
 refine calls_ret (vc59_calls (some ⟨a, 0, none⟩) A ids.length C w (fun u w' => ∃ o : Option Nat, u = .tuple #[.int .i64 ((o.getD 0 : Nat) : Int), .bool o.isSome] ∧ FirstR (vocOf s T) ids o ∧ w' = w) ?_) (by rintro v w' ⟨o, rfl, h⟩; exact ⟨o, rfl, h⟩)
 intro I hI
 have key := climb2 (α := Nat × World) ids.length (fun i y => (∃ x, GoodAt s T ids i x ∧ S x y.1) ∧ y.2 = w) (fun i y => ∀ y5 y4, I [.int .i64 (i : Int), .int .i64 (y.1 : Int), .bool y5, .int .i64 y4] y.2) (0, w) ⟨⟨0, ⟨fun j _ hj => absurd hj (Nat.not_lt_zero j), .inl ⟨rfl, rfl⟩⟩, hS.zero⟩, rfl⟩ ?_ ?_
 ·exact key _ _
 ·rintro i hi ih ⟨p, q⟩ ⟨⟨x, hx, hxp⟩, hq⟩ y5 y4
  change q = w at hq
  subst q
  change S x p at hxp
  obtain ⟨hx2, hpN⟩ := hS.lt _ _ hxp
  obtain ⟨pa, hpa, c0⟩ := cell_rw hr hi rfl
  refine hI _ _ _ _ _ (CondP.yes (decide_eq_true (by omega)) (NilC.mk pa hpa ⟨by omega, by omega, _, c0, (aNext_spec w a g M h s T hG hn (p : Int) ids[i]).mono ?_⟩))
  rintro e w2 ⟨rfl, hw⟩
  subst w2
  unfold nextV
  rw [if_pos ⟨by omega, by omega⟩]
  cases hk : plc s T ids[i] with
  | none =>
   refine ⟨_, _, rfl, CondP.yes rfl ⟨some i, rfl, ⟨fun j hj hji => hx.1 j hj hji, hi, fun e => ?_⟩, rfl⟩⟩
   have := (has_iff2 hok _).2 e.1
   rw [plc_none hk] at this
   cases this
  | some k =>
   have hkn : k < gN s T := (plc_some hk).1
   obtain ⟨hmay, hhas⟩ := goodAt_step hV hok hx hi hk
   have hnx := hS.next _ _ _ hxp hkn
   obtain ⟨_, hpN2⟩ := hS.lt _ _ hnx
   have hgd := hS.good _ _ hnx
   obtain ⟨o, hA⟩ := h
   obtain ⟨next, good, of, rs, d, hb, hM⟩ := hA.blk
   have hgl := hM.len.2
   obtain ⟨p2, hp2, c2⟩ := hM.good hpN2
   refine ⟨_, _, rfl, CondP.no rfl (NilC.mk _ rfl ⟨_, _, _, by rw [acell hb]; rfl, NilC.mk p2 hp2 ⟨?_, ?_, _, c2, ?_⟩⟩)⟩
   ·show (0 : Int) ≤ ((_ : Nat) : Int); omega
   ·show ((M.nxt p k : Nat) : Int) < _; omega
   show CondP (!M.good (M.nxt p k)) _ _
   cases hm : mayA (gN s T) (alB s T) (relB s T) x k with
   | true =>
    rw [hm] at hgd hnx
    simp only [if_true] at hgd hnx
    rw [hgd, decide_eq_true (by omega)]
    refine CondP.no rfl (Ar.nat (i + 1) rfl (by omega) (ih (M.nxt p k, w) ⟨⟨k + 1, goodAt_next hx hi hk hhas (hmay.1 hm), hnx⟩, rfl⟩ _ _))
   | false =>
    rw [hm] at hgd
    simp only [Bool.false_eq_true, if_false] at hgd
    rw [hgd, decide_eq_false (by omega)]
    refine CondP.yes rfl ⟨some i, rfl, ⟨fun j hj hji => hx.1 j hj hji, hi, fun e => ?_⟩, rfl⟩
    rw [hmay.2 e.2] at hm
    cases hm
 ·rintro ⟨p, q⟩ ⟨⟨x, hx, hxp⟩, hq⟩ y5 y4
  change q = w at hq
  subst q
  exact hI _ _ _ _ _ (CondP.no (decide_eq_false (by omega)) ⟨none, rfl, fun j hj => hx.1 j hj hj, rfl⟩)
theorem lastM_ok {s : SpecV} {T : List Ent} (hn : gN s T ≤ 1032) : (lastM s T).Ok := last_ok (by omega)
theorem simL_self {s : SpecV} {T : List Ent} (hn : gN s T ≤ 1032) : SimL s T (lastM s T) (fun x p => x = p ∧ x < gN s T + 2) where
 zero := ⟨rfl, by omega⟩
 lt := fun x p h => ⟨h.2, by rw [← h.1]; exact h.2⟩
 good := fun x p h => by rw [← h.1]; rfl
 next := fun x p k h hk => ⟨by rw [← h.1]; rfl, by split <;> omega⟩
theorem simL_least {s : SpecV} {T : List Ent} (hn : gN s T ≤ 1032) {f : Nat → Nat} (hc : Aut.Cls (lastM s T) f) : SimL s T (Aut.least (lastM s T) f) (Aut.Sim (lastM s T) f) where
 zero := Aut.Sim.zero (lastM_ok hn) f
 lt := fun x p h => ⟨h.hx, h.hp⟩
 good := fun x p h => h.good (lastM_ok hn) hc
 next := fun x p k h hk => h.next (lastM_ok hn) hc hk
theorem GrIs.past {w w' : World} {g : Nat} {s : SpecV} {T : List Ent} (h : GrIs w g s T) {b : Nat} {c : Array Value} {e : TypeId} {fz : Nat × Nat} (hb : w.heap[b]? = some (.cells c e fz)) (hs : ∀ j, j < w.heap.size → j ≠ b → w'.heap[j]? = w.heap[j]?) (n1 : tGrid ≠ e) (n2 : tInt ≠ e) (n3 : tRow ≠ e) (n4 : tU64 ≠ e) : GrIs w' g s T := by
 obtain ⟨ids, rows, alone, mb, rs, hR⟩ := h
 have own : ∀ {B sz n : Nat} {t : TypeId} {u : Value} {xs : List Value}, w.ownsRow B t sz u n xs → t ≠ e → w'.ownsRow B t sz u n xs := fun ho hne => own_same ho fun k hk => hs k (own_lt ho k hk).2 fun e2 => row_ne_blk ho hb hne (by rw [hk, e2])
 refine ⟨ids, rows, alone, mb, rs, (hs g (Array.getElem?_eq_some_iff.1 hR.blk).1 ?_).trans hR.blk, own hR.oi n2, hR.map.same (hs mb hR.map.lt ?_), own hR.orows n3, hR.rl, fun i r hi => own (hR.each i r hi) n4, own hR.oal n4⟩
 ·rintro rfl
  have := hR.blk
  rw [hb] at this
  cases this
  exact n1 rfl
 ·rintro rfl
  obtain ⟨es, k, hm, _⟩ := hR.map
  rw [hb] at hm
  cases hm
theorem AutIs.skip {w w' : World} {a g : Nat} {M : Aut} (h : AutIs w a g M) {b : Nat} {c : Array Value} {e : TypeId} {fz : Nat × Nat} (hb : w.heap[b]? = some (.cells c e fz)) (hs : ∀ j, j < w.heap.size → j ≠ b → w'.heap[j]? = w.heap[j]?) (n1 : tAuto ≠ e) (n2 : tInt ≠ e) (n3 : tInts ≠ e) (n4 : tBool ≠ e) : AutIs w' a g M := by
 obtain ⟨o, next, good, of, rs, d, h1, h2, h3⟩ := h
 have own : ∀ {B sz n : Nat} {t : TypeId} {u : Value} {xs : List Value}, w.ownsRow B t sz u n xs → t ≠ e → w'.ownsRow B t sz u n xs := fun ho hne => own_same ho fun k hk => hs k (own_lt ho k hk).2 fun e2 => row_ne_blk ho hb hne (by rw [hk, e2])
 refine ⟨o, next, good, of, rs, d, (hs a (Array.getElem?_eq_some_iff.1 h1).1 ?_).trans h1, ⟨own h2.onx n3, h2.rl, fun i r hi => own (h2.each i r hi) n2, own h2.ogd n4, h2.ok⟩, ?_⟩
 ·rintro rfl
  rw [hb] at h1
  cases h1
  exact n1 rfl
 ·cases o with
  | none => exact h3
  | some f => exact ⟨h3.1, h3.2.1, h3.2.2.1, own h3.2.2.2 n2⟩
theorem firstIs_unique {V : Voc} (hV : V.Ok) {ids : List Int} (hh : ∀ t ∈ ids, V.Has t) {o o' : Option Nat} (h : FirstIs V ids o) (h' : FirstIs V ids o') : o = o' := by
 have down : ∀ {n m : Nat}, n ≤ m → V.Canon (ids.take m) → V.Canon (ids.take n) := by
  intro n m hnm hc
  have : ids.take m = ids.take n ++ (ids.take m).drop n := by
   conv => lhs; rw [← List.take_append_drop n (ids.take m)]
   rw [List.take_take, Nat.min_eq_left hnm]
  rw [this] at hc
  exact (Voc.canon_append hV (fun t ht => hh t (by rw [← this] at ht; exact List.mem_of_mem_take ht)) hc).1
 have whole : V.Canon ids → ∀ n, V.Canon (ids.take n) := by
  intro hc n
  by_cases hn : n ≤ ids.length
  ·exact down hn (by rw [List.take_length]; exact hc)
  ·rw [List.take_of_length_le (by omega)]
   exact hc
 cases o with
 | none =>
  cases o' with
  | none => rfl
  | some k => exact absurd (whole h _) h'.2.2
 | some k =>
  cases o' with
  | none => exact absurd (whole h' _) h.2.2
  | some k' =>
   obtain ⟨_, h1, h2⟩ := h
   obtain ⟨_, h3, h4⟩ := h'
   congr 1
   rcases Nat.lt_trichotomy k k' with e | e | e
   ·exact absurd (down (by omega) h3) h2
   ·exact e
   ·exact absurd (down (by omega) h1) h4
theorem placeJ_spec (w : World) (o : Option Nat) : CP 103 #[.int .i64 ((o.getD 0 : Nat) : Int), .bool o.isSome] w fun e w' => e = .returned (.int .i64 (placeV o)) ∧ w' = w := by
 refine calls_ret (vc103_calls ((o.getD 0 : Nat) : Int) o.isSome w (fun u w' => u = .int .i64 (placeV o) ∧ w' = w) ?_) (by rintro v w' ⟨rfl, h⟩; exact ⟨rfl, h⟩)
 cases o with
 | none => exact CondP.yes rfl ⟨rfl, rfl⟩
 | some k => exact CondP.no rfl ⟨rfl, rfl⟩
def JudgeR (s : SpecV) (T : List Ent) (ids : List Int) (u : Value) : Prop := ((readyV s T ids).2 ≠ 0 ∧ u = .tuple #[.int .i64 (readyV s T ids).1, .int .i64 (readyV s T ids).2]) ∨ ((readyV s T ids).2 = 0 ∧ (∀ t ∈ ids, hasV2 s T t = true) ∧ ∃ o, FirstIs (vocOf s T) ids o ∧ u = .tuple #[.int .i64 (placeV o), .int .i64 0])
theorem judge_unique {s : SpecV} {T : List Ent} (hok : TOk T) (hV : (vocOf s T).Ok) {ids : List Int} {u u' : Value} (h : JudgeR s T ids u) (h' : JudgeR s T ids u') : u = u' := by
 rcases h with ⟨h1, h2⟩ | ⟨h1, h3, o, ho, h2⟩
 ·rcases h' with ⟨_, h2'⟩ | ⟨h1', _⟩
  ·rw [h2, h2']
  ·exact absurd h1' h1
 ·rcases h' with ⟨h1', _⟩ | ⟨_, _, o', ho', h2'⟩
  ·exact absurd h1 h1'
  ·rw [h2, h2', firstIs_unique hV (fun t ht => (has_iff2 hok t).1 (h3 t ht)) ho ho']
theorem byG_spec (w : World) (v b : Nat) (s : SpecV) (T : List Ent) (hV : VocIs w v s T) (hok : TOk T) (A : Option Addr) (C : Nat) (ids : List Int) (hr : Rw encInt 1 w A ids)
  (hf : ∀ w1, Below w.heap.size w w1 → ids.length ≤ 4000 → CP 122 #[.pointer (some ⟨b, 0, none⟩), .slice A ids.length C] w1 fun e w' => ∃ o : Option Nat, e = .returned (.tuple #[.int .i64 ((o.getD 0 : Nat) : Int), .bool o.isSome]) ∧ FirstR (vocOf s T) ids o ∧ w' = w1) :
  CP 62 #[.pointer (some ⟨v, 0, none⟩), .iface 48 (.pointer (some ⟨b, 0, none⟩)), .slice A ids.length C] w fun e w' => ∃ r1 r2 : Int, e = .returned (.tuple #[.int .i64 r1, .int .i64 r2]) ∧ JudgeR s T ids (.tuple #[.int .i64 r1, .int .i64 r2]) ∧ Below w.heap.size w w' := by
 refine calls_ret (vc62_calls (some ⟨v, 0, none⟩) (.iface 48 (.pointer (some ⟨b, 0, none⟩))) A ids.length C w (fun u w' => ∃ r1 r2 : Int, u = .tuple #[.int .i64 r1, .int .i64 r2] ∧ JudgeR s T ids (.tuple #[.int .i64 r1, .int .i64 r2]) ∧ Below w.heap.size w w') ?_) (by rintro v w' ⟨r1, r2, rfl, h⟩; exact ⟨r1, r2, rfl, h⟩)
 refine (ready_spec w v s T hV A C ids hr).mono ?_
 rintro e w1 ⟨rfl, hb1⟩
 refine ⟨_, _, rfl, CondP.mk (fun h0 => ?_) fun h0 => ?_⟩
 ·have h0 : (readyV s T ids).2 ≠ 0 := by simpa using h0
  exact ⟨_, _, rfl, .inl ⟨h0, rfl⟩, hb1⟩
 ·have h0 : (readyV s T ids).2 = 0 := by simpa using h0
  have hsplit : ids.length ≤ 4000 ∧ ¬ badId s T ids ≥ 0 := by
   have h0' := h0
   unfold readyV at h0'
   split at h0'
   ·cases h0'
   ·split at h0'
    ·cases h0'
    ·exact ⟨by omega, by assumption⟩
  have hall := badId_none hsplit.2
  refine ⟨false, w1, by kernel_rfl, CondP.no rfl ⟨_, _, (show (callMethod (.iface 48 (.pointer (some ⟨b, 0, none⟩))) "First" #[.slice A ids.length C]).run Tryz.prog w1 = .ok (.enter 122 #[.pointer (some ⟨b, 0, none⟩), .slice A ids.length C]) w1 by kernel_rfl), ?_⟩⟩
  refine (hf w1 hb1 hsplit.1).mono ?_
  rintro e w2 ⟨o, rfl, ho, hw⟩
  subst w2
  refine ⟨_, _, rfl, (placeJ_spec w1 o).mono ?_⟩
  rintro e w3 ⟨rfl, hw⟩
  subst w3
  exact ⟨_, rfl, _, _, rfl, .inr ⟨h0, hall, o, firstR_is (fun t ht => (has_iff2 hok t).1 (hall t ht)) ho, rfl⟩, hb1⟩
theorem byF_spec (w : World) (v b : Nat) (s : SpecV) (T : List Ent) (hV : VocIs w v s T) (hok : TOk T) (A : Option Addr) (C : Nat) (ids : List Int) (hr : Rw encInt 1 w A ids)
  (hf : ∀ w1, Below w.heap.size w w1 → ids.length ≤ 4000 → CP 36 #[.pointer (some ⟨b, 0, none⟩), .slice A ids.length C] w1 fun e w' => ∃ o : Option Nat, e = .returned (.tuple #[.int .i64 ((o.getD 0 : Nat) : Int), .bool o.isSome]) ∧ FirstR (vocOf s T) ids o ∧ w' = w1) :
  CP 62 #[.pointer (some ⟨v, 0, none⟩), .iface 49 (.pointer (some ⟨b, 0, none⟩)), .slice A ids.length C] w fun e w' => ∃ r1 r2 : Int, e = .returned (.tuple #[.int .i64 r1, .int .i64 r2]) ∧ JudgeR s T ids (.tuple #[.int .i64 r1, .int .i64 r2]) ∧ Below w.heap.size w w' := by
 refine calls_ret (vc62_calls (some ⟨v, 0, none⟩) (.iface 49 (.pointer (some ⟨b, 0, none⟩))) A ids.length C w (fun u w' => ∃ r1 r2 : Int, u = .tuple #[.int .i64 r1, .int .i64 r2] ∧ JudgeR s T ids (.tuple #[.int .i64 r1, .int .i64 r2]) ∧ Below w.heap.size w w') ?_) (by rintro v w' ⟨r1, r2, rfl, h⟩; exact ⟨r1, r2, rfl, h⟩)
 refine (ready_spec w v s T hV A C ids hr).mono ?_
 rintro e w1 ⟨rfl, hb1⟩
 refine ⟨_, _, rfl, CondP.mk (fun h0 => ?_) fun h0 => ?_⟩
 ·have h0 : (readyV s T ids).2 ≠ 0 := by simpa using h0
  exact ⟨_, _, rfl, .inl ⟨h0, rfl⟩, hb1⟩
 ·have h0 : (readyV s T ids).2 = 0 := by simpa using h0
  have hsplit : ids.length ≤ 4000 ∧ ¬ badId s T ids ≥ 0 := by
   have h0' := h0
   unfold readyV at h0'
   split at h0'
   ·cases h0'
   ·split at h0'
    ·cases h0'
    ·exact ⟨by omega, by assumption⟩
  have hall := badId_none hsplit.2
  refine ⟨false, w1, by kernel_rfl, CondP.no rfl ⟨_, _, (show (callMethod (.iface 49 (.pointer (some ⟨b, 0, none⟩))) "First" #[.slice A ids.length C]).run Tryz.prog w1 = .ok (.enter 36 #[.pointer (some ⟨b, 0, none⟩), .slice A ids.length C]) w1 by kernel_rfl), ?_⟩⟩
  refine (hf w1 hb1 hsplit.1).mono ?_
  rintro e w2 ⟨o, rfl, ho, hw⟩
  subst w2
  refine ⟨_, _, rfl, (placeJ_spec w1 o).mono ?_⟩
  rintro e w3 ⟨rfl, hw⟩
  subst w3
  exact ⟨_, rfl, _, _, rfl, .inr ⟨h0, hall, o, firstR_is (fun t ht => (has_iff2 hok t).1 (hall t ht)) ho, rfl⟩, hb1⟩
theorem byA_spec (w : World) (v b : Nat) (s : SpecV) (T : List Ent) (hV : VocIs w v s T) (hok : TOk T) (A : Option Addr) (C : Nat) (ids : List Int) (hr : Rw encInt 1 w A ids)
  (hf : ∀ w1, Below w.heap.size w w1 → ids.length ≤ 4000 → CP 59 #[.pointer (some ⟨b, 0, none⟩), .slice A ids.length C] w1 fun e w' => ∃ o : Option Nat, e = .returned (.tuple #[.int .i64 ((o.getD 0 : Nat) : Int), .bool o.isSome]) ∧ FirstR (vocOf s T) ids o ∧ w' = w1) :
  CP 62 #[.pointer (some ⟨v, 0, none⟩), .iface 62 (.pointer (some ⟨b, 0, none⟩)), .slice A ids.length C] w fun e w' => ∃ r1 r2 : Int, e = .returned (.tuple #[.int .i64 r1, .int .i64 r2]) ∧ JudgeR s T ids (.tuple #[.int .i64 r1, .int .i64 r2]) ∧ Below w.heap.size w w' := by
 refine calls_ret (vc62_calls (some ⟨v, 0, none⟩) (.iface 62 (.pointer (some ⟨b, 0, none⟩))) A ids.length C w (fun u w' => ∃ r1 r2 : Int, u = .tuple #[.int .i64 r1, .int .i64 r2] ∧ JudgeR s T ids (.tuple #[.int .i64 r1, .int .i64 r2]) ∧ Below w.heap.size w w') ?_) (by rintro v w' ⟨r1, r2, rfl, h⟩; exact ⟨r1, r2, rfl, h⟩)
 refine (ready_spec w v s T hV A C ids hr).mono ?_
 rintro e w1 ⟨rfl, hb1⟩
 refine ⟨_, _, rfl, CondP.mk (fun h0 => ?_) fun h0 => ?_⟩
 ·have h0 : (readyV s T ids).2 ≠ 0 := by simpa using h0
  exact ⟨_, _, rfl, .inl ⟨h0, rfl⟩, hb1⟩
 ·have h0 : (readyV s T ids).2 = 0 := by simpa using h0
  have hsplit : ids.length ≤ 4000 ∧ ¬ badId s T ids ≥ 0 := by
   have h0' := h0
   unfold readyV at h0'
   split at h0'
   ·cases h0'
   ·split at h0'
    ·cases h0'
    ·exact ⟨by omega, by assumption⟩
  have hall := badId_none hsplit.2
  refine ⟨false, w1, by kernel_rfl, CondP.no rfl ⟨_, _, (show (callMethod (.iface 62 (.pointer (some ⟨b, 0, none⟩))) "First" #[.slice A ids.length C]).run Tryz.prog w1 = .ok (.enter 59 #[.pointer (some ⟨b, 0, none⟩), .slice A ids.length C]) w1 by kernel_rfl), ?_⟩⟩
  refine (hf w1 hb1 hsplit.1).mono ?_
  rintro e w2 ⟨o, rfl, ho, hw⟩
  subst w2
  refine ⟨_, _, rfl, (placeJ_spec w1 o).mono ?_⟩
  rintro e w3 ⟨rfl, hw⟩
  subst w3
  exact ⟨_, rfl, _, _, rfl, .inr ⟨h0, hall, o, firstR_is (fun t ht => (has_iff2 hok t).1 (hall t ht)) ho, rfl⟩, hb1⟩
theorem VocIs.byA {w w' : World} {v a : Nat} {s : SpecV} {T : List Ent} (h : VocIs w v s T) {c : Array Value} (hc : w.heap[a]? = some (.cells c tAuto (0, 0))) (hva : v < a) (t : Touch a w w') : VocIs w' v s T := by
 obtain ⟨w0, x, tp, bp, mp, d, l, uses, hR⟩ := h
 have hlt := hR.lt
 refine ⟨w0, x, tp, bp, mp, d, l, uses, hR.parts, hR.below.trans (t.below (by omega) hR.below.size), hlt, t.held (by omega) hR.blk, ?_⟩
 rcases hR.once with h | ⟨h1, h2, h3⟩
 ·exact .inl h
 ·exact .inr ⟨h1, h2, t.own h3 (row_ne_blk h3 hc (by decide))⟩
theorem byNone_spec (w : World) (v : Nat) (s : SpecV) (T : List Ent) (hV : VocIs w v s T) : CP 62 #[.pointer (some ⟨v, 0, none⟩), Value.nilIface, .slice none 0 0] w fun e w' => e = .returned (.tuple #[.int .i64 0, .int .i64 1]) ∧ Below w.heap.size w w' := by
 refine calls_ret (vc62_calls (some ⟨v, 0, none⟩) Value.nilIface none 0 0 w (fun u w' => u = .tuple #[.int .i64 0, .int .i64 1] ∧ Below w.heap.size w w') ?_) (by rintro v w' ⟨rfl, h⟩; exact ⟨rfl, h⟩)
 refine (ready_spec w v s T hV none 0 [] (fun j x hj => by cases hj)).mono ?_
 rintro e w1 ⟨rfl, hb1⟩
 exact ⟨_, _, rfl, CondP.no rfl ⟨true, w1, by kernel_rfl, CondP.yes rfl ⟨rfl, hb1⟩⟩⟩
set_option maxHeartbeats 1000000 in
theorem CanonJudges_spec (w : World) (y : CsW) (ls : List Int) (cs : List (Int × Int × Int)) (js : List (Int × Int)) (xs : List (Int × Bs)) (h : CsAt w y ls cs js xs) (A : Option Addr) (C : Nat) (ids : List Int) (hr : Rw encInt 1 w A ids) (hC : ids.length ≤ C) :
  CP 14 #[y.v, .slice A ids.length C] w fun e w' => e = .returned (.bool true) ∧ Below w.heap.size w w' := by
 refine calls_ret (vc14_calls y.l.a y.l.n y.l.c y.c.a y.c.n y.c.c y.j.a y.j.n y.j.c y.x.a y.x.n y.x.c A ids.length C w (fun u w' => u = .bool true ∧ Below w.heap.size w w') ?_) (by rintro v w' ⟨rfl, h⟩; exact ⟨rfl, h⟩)
 intro w1 hw1
 have hb1 : Below w.heap.size w w1 := by subst hw1; exact below_alloc _ _
 have l1 : w1.heap[w.heap.size]? = some (.cells y.cells tCs (0, 0)) := by subst hw1; exact alloc_new _ _
 refine ⟨_, _, _, _, _, _, _, _, _, _, _, _, agg4 l1, ?_⟩
 refine (lawGreat_spec w1 y ls cs js xs (h.on hb1)).mono ?_
 rintro e w2 ⟨c0, rfl, b2⟩
 have hb2 := below_then hb1 b2
 have aw : ∀ {q : World}, Below w.heap.size w q → CP 16 #[] q fun e w' => ∃ b : Bool, e = .returned (.bool b) ∧ (Value.bool b = Value.bool true ∧ Below w.heap.size w w') := by
  intro q hq
  refine (awake18_spec q).mono ?_
  rintro e w3 ⟨rfl, b3⟩
  exact ⟨true, rfl, rfl, below_then hq b3⟩
 refine ⟨c0, rfl, CondP.mk (fun _ => aw hb2) fun _ => CondP.mk (fun _ => aw hb2) fun h100 => ?_⟩
 have h100 := of_decide_eq_false h100
 refine (awake18_spec w2).mono ?_
 rintro e w5 ⟨rfl, b5⟩
 have hb5 := below_then hb2 b5
 refine ⟨_, rfl, CondP.no rfl ⟨_, _, _, _, _, _, _, _, _, _, _, _, agg4 (held_on b5 (held_on b2 l1)), ?_⟩⟩
 refine (lawOf_spec w5 y ls cs js xs (h.on hb5)).mono ?_
 rintro e w7 ⟨u, rfl, v, r, s, T, rfl, hB7, hv, b7⟩
 have hb7 := below_then hb5 b7
 refine ⟨_, _, _, _, _, _, _, _, _, _, _, _, _, _, _, _, rfl, ?_⟩
 intro w8 hw8
 refine storeP_new (slRv rv0) (slRv r) rfl (ones_rv r) w8 hw8 ?_
 intro w0 h0 hz0 b0
 have hB := hB7.on b0
 have hb0 := below_then hb7 b0
 have hz5 := hb5.size
 have hok := hB.now.ok
 have hVok := hB.now.vok
 have hwv : w.heap.size ≤ v := Nat.le_trans hz5 hv
 have hfar := (hr.on hb5).far hv
 obtain ⟨hl, hsq⟩ := gids_few hB
 refine (gridNew_spec w0 v s T hB.voc hB.asc 1048576).mono ?_
 rintro e w10 ⟨u, rfl, hV10, t10, hu⟩
 rw [if_neg (by omega)] at hu
 obtain ⟨g, rfl, hG, hg⟩ := hu
 have hb10 : Below w.heap.size w w10 := hb0.trans (t10.below hwv hb0.size)
 have hrise : RiseG s T := gids_rising hB.asc (by
  obtain ⟨w0', x, tp, bp, mp, d, l, uses, hR⟩ := hB.voc
  exact hR.now.ids)
 have hn : gN s T ≤ 1006 := hl
 have hmost : ¬ (((gN s T + 2) * gN s T : Nat) : Int) > 1048576 := by
  have : (gN s T + 2) * gN s T ≤ 1008 * 1006 := Nat.mul_le_mul (by omega) hn
  omega
 refine ⟨_, _, rfl, (last_spec w10 g s T hG (by omega) hrise 1048576).mono ?_⟩
 rintro e w11 ⟨b11, _, hu⟩
 obtain ⟨a, rfl, ha, hA⟩ := hu hmost
 have hb11 := below_then hb10 b11
 have hG11 := hG.on b11
 have hV11 := hV10.on b11
 refine ⟨_, _, rfl, CondP.no rfl (CondP.no rfl ?_)⟩
 refine (check_spec w11 v s T hV11 A C ids (hr.on hb11) hfar).mono ?_
 rintro e w12 ⟨hV12, t12, hres⟩
 obtain ⟨r1, r2, rfl, hJ⟩ : ∃ r1 r2 : Int, e = .returned (.tuple #[.int .i64 r1, .int .i64 r2]) ∧ JudgeR s T ids (.tuple #[.int .i64 r1, .int .i64 r2]) := by
  rcases hres with ⟨h1, h2⟩ | ⟨h1, h2, o, ho, h3⟩
  ·exact ⟨_, _, h2, .inl ⟨h1, rfl⟩⟩
  ·exact ⟨_, _, h3, .inr ⟨h1, h2, o, ho, rfl⟩⟩
 have hb12 : Below w.heap.size w w12 := hb11.trans (t12.below hwv hb11.size)
 obtain ⟨cv, hcv⟩ := hV11.typed
 have hG12 : GrIs w12 g s T := hG11.touch hV11 t12
 have hA12 : AutIs w12 a g (lastM s T) := hA.skip hcv (fun j hj hne => t12.block j hj hne) (by decide) (by decide) (by decide) (by decide)
 have same : ∀ {x1 x2 : Int}, JudgeR s T ids (.tuple #[.int .i64 x1, .int .i64 x2]) → x1 = r1 ∧ x2 = r2 := by
  intro x1 x2 hx
  have e := judge_unique hok hVok hx hJ
  simp only [Value.tuple.injEq, Array.mk.injEq, List.cons.injEq, Value.int.injEq, true_and, and_true] at e
  exact e
 refine ⟨_, _, rfl, (byG_spec w12 v g s T hV12 hok A C ids (hr.on hb12) fun z hz hle => gFirst_spec z g s T (hG12.on hz) (by omega) hok hVok A C ids ((hr.on hb12).on hz) (by omega)).mono ?_⟩
 rintro e w13 ⟨x1, x2, rfl, hx, b13⟩
 obtain ⟨rfl, rfl⟩ := same hx
 have hb13 := below_then hb12 b13
 have hG13 := hG12.on b13
 have hgl : g < w13.heap.size := by
  obtain ⟨ids', rows, alone, mb, rs, hR⟩ := hG13
  exact (Array.getElem?_eq_some_iff.1 hR.blk).1
 refine ⟨_, _, rfl, (foldNew_spec w13 g s T hG13 (by omega) hrise hgl).mono ?_⟩
 rintro e w14 ⟨f, rfl, hF, b14⟩
 have hb14 := below_then hb13 b14
 refine ⟨_, rfl, (byF_spec w14 v f s T ((hV12.on b13).on b14) hok A C ids (hr.on hb14) fun z hz hle => fFirst_spec z f g s T (hF.on hz) hok hVok A C ids ((hr.on hb14).on hz) (by omega)).mono ?_⟩
 rintro e w15 ⟨y1, y2, rfl, hy, b15⟩
 obtain ⟨rfl, rfl⟩ := same hy
 have hb15 := below_then hb14 b15
 have hA15 := ((hA12.on b13).on b14).on b15
 have hG15 := (hG13.on b14).on b15
 have hV15 := ((hV12.on b13).on b14).on b15
 refine ⟨_, _, rfl, (byA_spec w15 v a s T hV15 hok A C ids (hr.on hb15) fun z hz hle => aFirst_spec z a g _ (hA15.on hz) s T (hG15.on hz) rfl _ (simL_self (by omega)) hok hVok A C ids ((hr.on hb15).on hz) (by omega)).mono ?_⟩
 rintro e w16 ⟨z1, z2, rfl, hz', b16⟩
 obtain ⟨rfl, rfl⟩ := same hz'
 have hb16 := below_then hb15 b16
 have hV16 := hV15.on b16
 have hG16 := hG15.on b16
 have hwa : w.heap.size ≤ a := Nat.le_trans hb10.size ha
 refine ⟨_, _, rfl, (least_spec w16 a g (lastM s T) (hA15.on b16) (by show gN s T + 2 ≤ 10000; omega) (by show gN s T ≤ 10000; omega)).mono ?_⟩
 rintro e w17 ⟨bb, fc, rfl, hc, hL, _, _, t17⟩
 have hb17 : Below w.heap.size w w17 := hb16.trans (t17.below hwa hb16.size)
 have hab : ∃ ca, w16.heap[a]? = some (.cells ca tAuto (0, 0)) := by
  obtain ⟨o, hW⟩ := hA15.on b16
  exact hW.typed
 obtain ⟨ca, hca⟩ := hab
 have hG17 : GrIs w17 g s T := GrIs.past hG16 hca (fun j hj hne => t17.block j hj hne) (by decide) (by decide) (by decide) (by decide)
 have hva : v < a := Nat.lt_of_lt_of_le hV10.lt ha
 have hV17 : VocIs w17 v s T := hV16.byA hca hva t17
 refine ⟨_, rfl, (byA_spec w17 v bb s T hV17 hok A C ids (hr.on hb17) fun z hz hle => aFirst_spec z bb g _ (hL.on hz) s T (hG17.on hz) rfl _ (simL_least (by omega) hc) hok hVok A C ids ((hr.on hb17).on hz) (by omega)).mono ?_⟩
 rintro e w18 ⟨q1, q2, rfl, hq, b18⟩
 obtain ⟨rfl, rfl⟩ := same hq
 have hb18 := below_then hb17 b18
 refine ⟨_, _, rfl, (byNone_spec w18 v s T (hV17.on b18)).mono ?_⟩
 rintro e w19 ⟨rfl, b19⟩
 exact ⟨_, _, rfl, CondP.yes (by simp) (CondP.yes (by simp) (CondP.yes (by simp) (CondP.yes (by simp) (CondP.yes (by simp) (CondP.yes (by simp) (CondP.yes (by simp) (CondP.yes (by simp) ⟨rfl, below_then hb18 b19⟩)))))))⟩
theorem law_frame0 {H : Type} {enc : TypeId × Value → H} {C : Checked} {os : Os} {f : FuncId} {fn : Func} {s : ChangeSpec}
  (own : ownKnob C.prog.godebug = none) (started : os.Started) (noInit : C.prog.inits.idxOf? f = none) (hfn : C.prog.funcs[f]? = some fn)
  (witness : ∃ (w : World) (tape : Tape) (i : Input), w.os = os ∧ (w.forCall tape i).Shaped C.prog ∧ i.vars = [] ∧ Input.okWide C.prog (w.forCall tape i) .any w.heap.size f i ∧
   ((s.pre enc C.prog fn [] false (w.forCall tape i).memory i.args ∧ True) ∧ sizedMet enc C.prog fn (OpenSpec.ofChange s) false (w.forCall tape i).memory i.args) ∧ ({} : Assume).holds C.prog (lone (Frame.enter C.prog f i.args .normal) [] (w.forCall tape i)))
  (contract : ∀ (W : World) (base : Nat) (args : Array Value) (ds gs : List (DataW H)) (before : List MemPlace),
   (∀ (j : Nat) t v, fn.params[j]? = some t → args[j]? = some v → Value.okWide C.prog W .any base t v) →
   DataW.Whole enc C.prog fn.params.toList s.vars false W args.toList ds gs before →
   (DataW.weightsEach C.prog (fn.params.toList ++ s.plain.varTypes C.prog) (ds ++ gs)).all (· ≤ reachBytes) = true →
   W.ShapedOpen C.prog →
   Calls C.prog f args W fun e W' => ∃ v, e = .returned v ∧ s.post enc C.prog fn false true false false W args v W') :
  ReturnsInHanded {} C os f .any (fun w args => s.pre enc C.prog fn [] false w args ∧ sizedMet enc C.prog fn (OpenSpec.ofChange s) false w args) (s.post enc C.prog fn false true false false) := by
 have witness' : ∃ (w : World) (tape : Tape) (i : Input), w.os = os ∧ (w.forCall tape i).Shaped C.prog ∧ i.vars = [] ∧ Input.okWide C.prog (w.forCall tape i) .any w.heap.size f i ∧
   (s.pre enc C.prog fn [] false (w.forCall tape i).memory i.args ∧ sizedMet enc C.prog fn (OpenSpec.ofChange s) false (w.forCall tape i).memory i.args) ∧ ({} : Assume).holds C.prog (lone (Frame.enter C.prog f i.args .normal) [] (w.forCall tape i)) := by
  obtain ⟨w, tape, i, h1, h2, h3, h4, ⟨⟨h5, _⟩, h6⟩, h7⟩ := witness
  exact ⟨w, tape, i, h1, h2, h3, h4, ⟨h5, h6⟩, h7⟩
 refine returnsInHanded_of_calls own started noInit witness' ?_
 intro w tape i _ hshape _ hok hpre _
 obtain ⟨_, _, _, fn', hfn', _, _, _, _, hval⟩ := hok
 obtain rfl : fn' = fn := Option.some.inj (hfn'.symm.trans hfn)
 obtain ⟨⟨ds, gs, before, hw, _⟩, hz⟩ := hpre
 refine (contract (w.forCall tape i) w.heap.size i.args ds gs before hval (DataW.Whole.of_heap (w' := w.forCall tape i) (by rfl) hw) (hz.weights hw) hshape).mono ?_
 rintro e W' ⟨v, rfl, hp⟩
 exact ChangeSpec.post_blind hp
end Go.Proofs.YtboemnagahmlkaaGreat.Eng
