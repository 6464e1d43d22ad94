/- Groups, walked by the engine. -/
import Derived.Test.YtboemnagahmlkaaGreatZyFv
import Derived.Laws.CopyRow
set_option linter.unusedVariables false
set_option linter.unusedSimpArgs false
set_option maxRecDepth 100000
namespace Go.Proofs.YtboemnagahmlkaaGreat.Eng
open Go Go.RowKit
section
variable {κ : Type} [DecidableEq κ] [BEq κ] [LawfulBEq κ] {kv : κ → Value}
def gkm7 (k : Nat → κ) (i : Nat) : List (κ × Value) := (firsts k i).zipIdx.map fun x => (k x.1, .int .i64 (x.2 : Int))
theorem look_gkm7 (k : Nat → κ) (i : Nat) : look (k i) (gkm7 k i) = ((firsts k i).findIdx? fun a => decide (k a = k i)).map fun c : Nat => Value.int .i64 (c : Int) := by
  have := look_zipf k (k i) (firsts k i) 0
  simp only [Nat.zero_add] at this
  rw [show look (k i) (gkm7 k i) = _ from this]
  congr 1
  rw [List.idxOf?, List.findIdx?_map]
  congr 1
  funext a
  show (k a == k i) = _
  by_cases h : k a = k i
  · simp [h]
  · simp [h]
end
section
variable {κ : Type} [DecidableEq κ]
theorem gkm7_new {k : Nat → κ} {i : Nat} (h : firsts k (i + 1) = firsts k i ++ [i]) : gkm7 k (i + 1) = gkm7 k i ++ [(k i, .int .i64 (((firsts k i).length : Nat) : Int))] := by
  unfold gkm7
  rw [h, List.zipIdx_append, List.map_append]
  simp
theorem gkm7_length (k : Nat → κ) (i : Nat) : (gkm7 k i).length = (firsts k i).length := by simp [gkm7]
end
section
variable {κ : Type} {kv : κ → Value}
theorem run_mlen {t kt et : TypeId} (ht : Tryz.prog.underlying t = some (.map kt et)) {w : World} {r : Nat} {m : List (κ × Value)} (h : MapIs kv w r m) (t2 : TypeId) : (Builtin.len_ #[t] t2 #[.map (some r)]).run Tryz.prog w = .ok (.int .i64 (m.length : Int)) w := by
  obtain ⟨es, clock, hb, hm, _⟩ := h
  have : es.size = m.length := by
    have := congrArg List.length hm
    simpa using this
  rw [← this]
  simp [Builtin.len_, Sem.run_bind, run_underlying ht, Result.andThen, getObj_is hb, goInt]
end
def boolKey (b : Bool) : Value := .bool b
theorem keysT : KeyTy Tryz.prog tBool Bool boolKey := by
  refine keys_now (d := .bool) (by kernel_rfl) (fun a b => by cases a <;> cases b <;> rfl) (fun e k w => ?_)
  unfold Instr.checkKey
  simp [run_underlying (show Tryz.prog.underlying tBool = some .bool by kernel_rfl), Result.andThen]
theorem undMapT : Tryz.prog.underlying 299 = some (.map tBool tInt) := by kernel_rfl
theorem groupT_spec (w : World) (n : Nat) (key : Value) (k : Nat → Bool) (hn : n ≤ 10000) (his : ∀ i, i < n → ∀ w1, Below w.heap.size w w1 → CallG ctx key [.int .i64 (i : Int)] w1 (fun e w2 => e = .returned (boolKey (k i)) ∧ Below w1.heap.size w1 w2)) :
    Calls Tryz.prog 161 #[.int .i64 (n : Int), key] w fun e w' => ∃ of : Sl, e = .returned (.tuple #[of.v, .int .i64 (((firsts k n).length : Nat) : Int)]) ∧ of.n = n ∧ w'.ownsRow w.heap.size tInt 1 of.v of.n (((List.range n).map fun i => ((clsOf k i : Nat) : Int)).flatMap encInt) ∧ Below w.heap.size w w' := by
  refine calls_ret (vc161_calls n key w (fun u w' => ∃ of : Sl, u = .tuple #[of.v, .int .i64 (((firsts k n).length : Nat) : Int)] ∧ of.n = n ∧ w'.ownsRow w.heap.size tInt 1 of.v of.n (((List.range n).map fun i => ((clsOf k i : Nat) : Int)).flatMap encInt) ∧ Below w.heap.size w w') ?_) (by rintro v w' ⟨of, rfl, h⟩; exact ⟨of, rfl, h⟩)
  refine ⟨_, _, run_make _, ?_⟩
  have b1 := below_alloc w (.map #[] 0)
  have m1 : MapIs boolKey (w.alloc (.map #[] 0)) w.heap.size (gkm7 k 0) := map_new w
  obtain ⟨w1, hw1⟩ : ∃ w1, w1 = w.alloc (.map #[] 0) := ⟨_, rfl⟩
  rw [← hw1] at b1 m1
  rw [← hw1]
  refine ⟨some (nb w1), n, n, _, run_makeInts w1 n (by omega), ?_⟩
  have b2 := below_alloc w1 (.cells (Array.replicate n (.int .i64 0)) tInt)
  obtain ⟨f, hf⟩ : ∃ f : Nat → Int, f = fun i => ((clsOf k i : Nat) : Int) := ⟨_, rfl⟩
  have o2 := own_part (enc := encInt) (0 : Int) (.int .i64 0) rfl tInt f w1 (n := n) (by omega)
  obtain ⟨l, hl⟩ : ∃ l : Sl, l = ⟨some (nb w1), n, n⟩ := ⟨_, rfl⟩
  have hln : l.n = n := by subst hl; rfl
  have hla : l.a = some (nb w1) := by subst hl; rfl
  obtain ⟨w2, hw2⟩ : ∃ w2, w2 = w1.alloc (.cells (Array.replicate n (.int .i64 0)) tInt) := ⟨_, rfl⟩
  rw [← hw2] at b2 o2
  rw [← hw2]
  have s1 : w.heap.size < w1.heap.size := m1.lt
  intro I hI
  have key := climb2 (α := World) n (fun i q => q.ownsRow w1.heap.size tInt 1 l.v l.n ((part 0 f n i).flatMap encInt) ∧ MapIs boolKey q w.heap.size (gkm7 k i) ∧ Below w.heap.size w q) (fun i q => I [.int .i64 (i : Int)] q) w2 ⟨by subst hl; exact o2, m1.on b2, below_then b1 b2⟩ ?_ ?_
  · exact key
  · rintro i hi ih q ⟨ho, hm, hB⟩
    refine hI _ _ (CondP.yes (decide_eq_true (by omega)) ((his i hi q hB).mono ?_))
    rintro e w5 ⟨rfl, b5⟩
    have hB5 := below_then hB b5
    have ho5 := own_on ho b5
    have hm5 := hm.on b5
    have hl5 := run_look keysT undMapT zeroInt hm5 (k i)
    rw [look_gkm7] at hl5
    refine ⟨_, rfl, ?_⟩
    have next : ∀ (z : World), z.ownsRow w1.heap.size tInt 1 l.v l.n ((part 0 f n i).flatMap encInt) → MapIs boolKey z w.heap.size (gkm7 k (i + 1)) → Below w.heap.size w z →
        NilC (some (nb w1)) (fun pa => (0 : Int) ≤ (i : Int) ∧ (i : Int) < ((n : Nat) : Int) ∧
         (Value.int .i64 ((clsOf k i : Nat) : Int)).oneCell' = true ∧ (∃ u, z.cell? (pa.add ((i : Int).toNat * 1)) = some u) ∧ z.frozen? (pa.add ((i : Int).toNat * 1)) = false ∧
         ∀ w7 : World, w7 = (z.setCell (pa.add ((i : Int).toNat * 1)) (Value.int .i64 ((clsOf k i : Nat) : Int))) →
         Ar .i64 ((i : Int) + 1) (fun n_3 => I [Value.int .i64 n_3] w7)) := by
      intro z zo zm zB
      obtain ⟨u, fz, kk⟩ := own_write (l := l) (enc := encInt) (sz := 1) (fun _ => rfl) (by decide) zo (by rw [part_length]; exact hln) hla (part_get 0 f hi) (k := 0) (by decide) (f i) (.int .i64 (f i)) rfl
      rw [add_zero] at u fz kk
      refine NilC.mk _ rfl ⟨by omega, by omega, rfl, u, fz, ?_⟩
      intro w7 hw7
      rw [show ((clsOf k i : Nat) : Int) = f i by rw [hf]] at hw7
      obtain ⟨o7, s7, z7, b7⟩ := kk w7 hw7
      refine Ar.nat (i + 1) rfl (by omega) (ih w7 ⟨?_, zm.same (s7 _ (own_ne_map zo zm)), b7 _ _ (by omega) zB⟩)
      rw [part_set (0 : Int) f hi] at o7
      exact o7
    rcases firsts_step (k := k) i with ⟨c, hc, h2, h3, _⟩ | ⟨hc, h2, h3, _⟩
    · rw [hc] at hl5
      refine ⟨_, _, w5, hl5, ?_⟩
      intro J hJ
      refine CondP.no rfl (hJ _ _ ?_)
      have := next w5 ho5 (by rw [show gkm7 k (i + 1) = gkm7 k i by unfold gkm7; rw [h2]]; exact hm5) hB5
      rw [h3] at this
      exact this
    · rw [hc] at hl5
      refine ⟨_, _, w5, hl5, ?_⟩
      intro J hJ
      obtain ⟨w11, hr, hm11, hs11, hz11, hB11⟩ := run_put_new keysT undMapT hm5 (k i) (.int .i64 (((gkm7 k i).length : Nat) : Int)) (by rw [look_gkm7, hc]; rfl)
      refine CondP.yes rfl ⟨_, _, run_mlen undMapT hm5 _, w11, hr, hJ _ _ ?_⟩
      rw [gkm7_length] at hm11 ⊢
      have := next w11 (own_same ho5 fun j hj => hs11 j fun e => own_ne_map ho5 hm5 (by rw [hj, e])) (by rw [gkm7_new h2]; exact hm11) (hB11 _ _ (Nat.le_refl _) hB5)
      rw [h3] at this
      exact this
  · rintro q ⟨ho, hm, hB⟩
    refine hI _ _ (CondP.no (decide_eq_false (by omega)) ⟨_, _, run_mlen undMapT hm _, l, ?_, hln, ?_, hB⟩)
    · rw [gkm7_length]; subst hl; rfl
    · rw [part_all, hf] at ho
      exact own_base ho (by omega)
theorem groupS_spec (w : World) (n : Nat) (key : Value) (k : Nat → Bs) (hn : n ≤ 10000) (his : ∀ i, i < n → ∀ w1, Below w.heap.size w w1 → CallG ctx key [.int .i64 (i : Int)] w1 (fun e w2 => e = .returned (strKey (k i)) ∧ Below w1.heap.size w1 w2)) :
    Calls Tryz.prog 163 #[.int .i64 (n : Int), key] w fun e w' => ∃ of : Sl, e = .returned (.tuple #[of.v, .int .i64 (((firsts k n).length : Nat) : Int)]) ∧ of.n = n ∧ w'.ownsRow w.heap.size tInt 1 of.v of.n (((List.range n).map fun i => ((clsOf k i : Nat) : Int)).flatMap encInt) ∧ Below w.heap.size w w' := by
  refine calls_ret (vc163_calls n key w (fun u w' => ∃ of : Sl, u = .tuple #[of.v, .int .i64 (((firsts k n).length : Nat) : Int)] ∧ of.n = n ∧ w'.ownsRow w.heap.size tInt 1 of.v of.n (((List.range n).map fun i => ((clsOf k i : Nat) : Int)).flatMap encInt) ∧ Below w.heap.size w w') ?_) (by rintro v w' ⟨of, rfl, h⟩; exact ⟨of, rfl, h⟩)
  refine ⟨_, _, run_make _, ?_⟩
  have b1 := below_alloc w (.map #[] 0)
  have m1 : MapIs strKey (w.alloc (.map #[] 0)) w.heap.size (gkm7 k 0) := map_new w
  obtain ⟨w1, hw1⟩ : ∃ w1, w1 = w.alloc (.map #[] 0) := ⟨_, rfl⟩
  rw [← hw1] at b1 m1
  rw [← hw1]
  refine ⟨some (nb w1), n, n, _, run_makeInts w1 n (by omega), ?_⟩
  have b2 := below_alloc w1 (.cells (Array.replicate n (.int .i64 0)) tInt)
  obtain ⟨f, hf⟩ : ∃ f : Nat → Int, f = fun i => ((clsOf k i : Nat) : Int) := ⟨_, rfl⟩
  have o2 := own_part (enc := encInt) (0 : Int) (.int .i64 0) rfl tInt f w1 (n := n) (by omega)
  obtain ⟨l, hl⟩ : ∃ l : Sl, l = ⟨some (nb w1), n, n⟩ := ⟨_, rfl⟩
  have hln : l.n = n := by subst hl; rfl
  have hla : l.a = some (nb w1) := by subst hl; rfl
  obtain ⟨w2, hw2⟩ : ∃ w2, w2 = w1.alloc (.cells (Array.replicate n (.int .i64 0)) tInt) := ⟨_, rfl⟩
  rw [← hw2] at b2 o2
  rw [← hw2]
  have s1 : w.heap.size < w1.heap.size := m1.lt
  intro I hI
  have key := climb2 (α := World) n (fun i q => q.ownsRow w1.heap.size tInt 1 l.v l.n ((part 0 f n i).flatMap encInt) ∧ MapIs strKey q w.heap.size (gkm7 k i) ∧ Below w.heap.size w q) (fun i q => I [.int .i64 (i : Int)] q) w2 ⟨by subst hl; exact o2, m1.on b2, below_then b1 b2⟩ ?_ ?_
  · exact key
  · rintro i hi ih q ⟨ho, hm, hB⟩
    refine hI _ _ (CondP.yes (decide_eq_true (by omega)) ((his i hi q hB).mono ?_))
    rintro e w5 ⟨rfl, b5⟩
    have hB5 := below_then hB b5
    have ho5 := own_on ho b5
    have hm5 := hm.on b5
    have hl5 := run_look keysB undMapB zeroInt hm5 (k i)
    rw [look_gkm7] at hl5
    refine ⟨_, rfl, ?_⟩
    have next : ∀ (z : World), z.ownsRow w1.heap.size tInt 1 l.v l.n ((part 0 f n i).flatMap encInt) → MapIs strKey z w.heap.size (gkm7 k (i + 1)) → Below w.heap.size w z →
        NilC (some (nb w1)) (fun pa => (0 : Int) ≤ (i : Int) ∧ (i : Int) < ((n : Nat) : Int) ∧
         (Value.int .i64 ((clsOf k i : Nat) : Int)).oneCell' = true ∧ (∃ u, z.cell? (pa.add ((i : Int).toNat * 1)) = some u) ∧ z.frozen? (pa.add ((i : Int).toNat * 1)) = false ∧
         ∀ w7 : World, w7 = (z.setCell (pa.add ((i : Int).toNat * 1)) (Value.int .i64 ((clsOf k i : Nat) : Int))) →
         Ar .i64 ((i : Int) + 1) (fun n_3 => I [Value.int .i64 n_3] w7)) := by
      intro z zo zm zB
      obtain ⟨u, fz, kk⟩ := own_write (l := l) (enc := encInt) (sz := 1) (fun _ => rfl) (by decide) zo (by rw [part_length]; exact hln) hla (part_get 0 f hi) (k := 0) (by decide) (f i) (.int .i64 (f i)) rfl
      rw [add_zero] at u fz kk
      refine NilC.mk _ rfl ⟨by omega, by omega, rfl, u, fz, ?_⟩
      intro w7 hw7
      rw [show ((clsOf k i : Nat) : Int) = f i by rw [hf]] at hw7
      obtain ⟨o7, s7, z7, b7⟩ := kk w7 hw7
      refine Ar.nat (i + 1) rfl (by omega) (ih w7 ⟨?_, zm.same (s7 _ (own_ne_map zo zm)), b7 _ _ (by omega) zB⟩)
      rw [part_set (0 : Int) f hi] at o7
      exact o7
    rcases firsts_step (k := k) i with ⟨c, hc, h2, h3, _⟩ | ⟨hc, h2, h3, _⟩
    · rw [hc] at hl5
      refine ⟨_, _, w5, hl5, ?_⟩
      intro J hJ
      refine CondP.no rfl (hJ _ _ ?_)
      have := next w5 ho5 (by rw [show gkm7 k (i + 1) = gkm7 k i by unfold gkm7; rw [h2]]; exact hm5) hB5
      rw [h3] at this
      exact this
    · rw [hc] at hl5
      refine ⟨_, _, w5, hl5, ?_⟩
      intro J hJ
      obtain ⟨w11, hr, hm11, hs11, hz11, hB11⟩ := run_put_new keysB undMapB hm5 (k i) (.int .i64 (((gkm7 k i).length : Nat) : Int)) (by rw [look_gkm7, hc]; rfl)
      refine CondP.yes rfl ⟨_, _, run_mlen undMapB hm5 _, w11, hr, hJ _ _ ?_⟩
      rw [gkm7_length] at hm11 ⊢
      have := next w11 (own_same ho5 fun j hj => hs11 j fun e => own_ne_map ho5 hm5 (by rw [hj, e])) (by rw [gkm7_new h2]; exact hm11) (hB11 _ _ (Nat.le_refl _) hB5)
      rw [h3] at this
      exact this
  · rintro q ⟨ho, hm, hB⟩
    refine hI _ _ (CondP.no (decide_eq_false (by omega)) ⟨_, _, run_mlen undMapB hm _, l, ?_, hln, ?_, hB⟩)
    · rw [gkm7_length]; subst hl; rfl
    · rw [part_all, hf] at ho
      exact own_base ho (by omega)
end Go.Proofs.YtboemnagahmlkaaGreat.Eng

/- An automaton in memory; its states put together by what is alike, walked by the engine. -/
set_option linter.unusedVariables false
set_option linter.unusedSimpArgs false
set_option maxRecDepth 100000
namespace Go.Proofs.YtboemnagahmlkaaGreat.Eng
open Go Go.RowKit
abbrev tAuto : TypeId := 136
abbrev tIntss : TypeId := 120
theorem undIntss : Tryz.prog.underlying tIntss = some (.slice tInts) := by kernel_rfl
theorem infoIntss : (Tryz.prog.info? tInts).map (fun i => (i.zero, i.size, i.bytes)) = some (some (.slice none 0 0), 1, 24) := by kernel_rfl
theorem elIntss : ElT encS 1 tIntss tInts 24 := ⟨fun _ => rfl, by decide, fun x u hu => by rw [List.mem_singleton.1 hu]; rfl, undIntss, _, infoIntss, rfl⟩
abbrev nat1 (l : List Nat) : List Value := (l.map fun i : Nat => (i : Int)).flatMap encInt
/-- Its rows, and which states are good. -/
structure AutR (w : World) (M : Aut) (next good : Sl) (rs : List Sl) : Prop where
  onx : w.ownsRow 0 tInts 1 next.v next.n (rs.flatMap encS)
  rl : rs.length = M.N
  each : ∀ (i : Nat) (r : Sl), rs[i]? = some r → w.ownsRow 0 tInt 1 r.v r.n (nat1 ((List.range M.n).map (M.nxt i)))
  ogd : w.ownsRow 0 tBool 1 good.v good.n (((List.range M.N).map M.good).flatMap encB1)
  ok : M.Ok
theorem AutR.on {w w' : World} {M : Aut} {next good : Sl} {rs : List Sl} (h : AutR w M next good rs) (hb : Below w.heap.size w w') : AutR w' M next good rs :=
  ⟨own_on h.onx hb, h.rl, fun i r hr => own_on (h.each i r hr) hb, own_on h.ogd hb, h.ok⟩
theorem AutR.touch {w w' : World} {M : Aut} {next good : Sl} {rs : List Sl} (h : AutR w M next good rs) {a : Nat} {c : Array Value} (hb : w.heap[a]? = some (.cells c tAuto (0, 0))) (t : Touch a w w') : AutR w' M next good rs :=
  ⟨t.own h.onx (row_ne_blk h.onx hb (by decide)), h.rl, fun i r hr => t.own (h.each i r hr) (row_ne_blk (h.each i r hr) hb (by decide)), t.own h.ogd (row_ne_blk h.ogd hb (by decide)), h.ok⟩
theorem AutR.len {w : World} {M : Aut} {next good : Sl} {rs : List Sl} (h : AutR w M next good rs) : next.n = M.N ∧ good.n = M.N := by
  have h1 := (LsAt.of_own elIntss h.onx).n
  have h2 := (LsAt.of_own elBl h.ogd).n
  exact ⟨by rw [h1, h.rl], by simpa using h2⟩
theorem AutR.row {w : World} {M : Aut} {next good : Sl} {rs : List Sl} (h : AutR w M next good rs) {i : Nat} (hi : i < M.N) : ∃ (p : Addr) (r : Sl), next.a = some p ∧ w.cell? (p.add (i * 1)) = some (.slice r.a r.n r.c) ∧ r.n = M.n ∧ Rw encInt 1 w r.a (((List.range M.n).map (M.nxt i)).map fun i : Nat => (i : Int)) := by
  have hls := LsAt.of_own elIntss h.onx
  have hl : i < rs.length := by rw [h.rl]; exact hi
  obtain ⟨p, hp, c⟩ := cell_rw hls.r hl (v := rs[i].v) rfl
  have hr := LsAt.of_own elInt (h.each i _ (List.getElem?_eq_getElem hl))
  exact ⟨p, rs[i], hp, c, by simpa using hr.n, hr.r⟩
theorem AutR.rowAt {w : World} {M : Aut} {next good : Sl} {rs : List Sl} (h : AutR w M next good rs) {i : Nat} (hi : i < M.N) (hl : i < rs.length) : ∃ p : Addr, next.a = some p ∧ w.cell? (p.add (i * 1)) = some (.slice rs[i].a rs[i].n rs[i].c) ∧ rs[i].n = M.n ∧ Rw encInt 1 w rs[i].a (((List.range M.n).map (M.nxt i)).map fun i : Nat => (i : Int)) := by
  have hls := LsAt.of_own elIntss h.onx
  obtain ⟨p, hp, c⟩ := cell_rw hls.r hl (v := rs[i].v) rfl
  have hr := LsAt.of_own elInt (h.each i _ (List.getElem?_eq_getElem hl))
  exact ⟨p, hp, c, by simpa using hr.n, hr.r⟩
theorem AutR.good {w : World} {M : Aut} {next good : Sl} {rs : List Sl} (h : AutR w M next good rs) {i : Nat} (hi : i < M.N) : ∃ p : Addr, good.a = some p ∧ w.cell? (p.add (i * 1)) = some (.bool (M.good i)) := by
  have hls := LsAt.of_own elBl h.ogd
  obtain ⟨p, hp, c⟩ := cell_rw hls.r (show i < ((List.range M.N).map M.good).length by simpa using hi) (v := .bool (M.good i)) (by simp [encB1])
  exact ⟨p, hp, c⟩
theorem nums_cell {w : World} {A : Option Addr} {n : Nat} {f : Nat → Nat} (h : Rw encInt 1 w A (((List.range n).map f).map fun i : Nat => (i : Int))) {i : Nat} (hi : i < n) : ∃ p : Addr, A = some p ∧ w.cell? (p.add (i * 1)) = some (.int .i64 ((f i : Nat) : Int)) :=
  cell_rw h (show i < (((List.range n).map f).map fun i : Nat => (i : Int)).length by simpa using hi) (v := .int .i64 ((f i : Nat) : Int)) (by simp [encInt])
/-! ### What is read of its block -/
theorem acell {w : World} {a : Nat} {c : Array Value} {fz : Nat × Nat} (h : w.heap[a]? = some (.cells c tAuto fz)) (j : Nat) : w.cell? ((⟨a, 0, none⟩ : Addr).add j) = c[j]? := ptr_add0 _ _ h j
theorem states_spec (w : World) (a : Nat) {c : Array Value} {fz : Nat × Nat} (h : w.heap[a]? = some (.cells c tAuto fz)) (next : Sl) (h1 : c[1]? = some next.v) :
    Calls Tryz.prog 43 #[.pointer (some ⟨a, 0, none⟩)] w fun e w' => e = .returned (.int .i64 (next.n : Int)) ∧ w' = w := by
  refine calls_ret (vc43_calls (some ⟨a, 0, none⟩) w (fun u w' => u = .int .i64 (next.n : Int) ∧ w' = w) ?_) (by rintro v w' ⟨rfl, h⟩; exact ⟨rfl, h⟩)
  exact CondP.no rfl (NilC.mk _ rfl ⟨_, _, _, by rw [acell h]; exact h1, rfl, rfl⟩)
theorem keyA1_spec (w : World) (cb a : Nat) {ec : TypeId} (hc : w.heap[cb]? = some (.cells #[.pointer (some ⟨a, 0, none⟩)] ec (0, 0))) {c : Array Value} {fz : Nat × Nat} (h : w.heap[a]? = some (.cells c tAuto fz)) (M : Aut) (next good : Sl) (rs : List Sl) (hM : AutR w M next good rs) (h2 : c[2]? = some good.v) (i : Nat) (hi : i < M.N) :
    Calls Tryz.prog 162 #[.int .i64 (i : Int), .pointer (some ⟨cb, 0, none⟩)] w fun e w' => e = .returned (boolKey (M.good i)) ∧ Below w.heap.size w w' := by
  refine calls_ret (vc162_calls i (some ⟨cb, 0, none⟩) w (fun u w' => u = boolKey (M.good i) ∧ Below w.heap.size w w') ?_) (by rintro v w' ⟨rfl, h⟩; exact ⟨rfl, h⟩)
  obtain ⟨p, hp, hg⟩ := hM.good hi
  have hl := hM.len.2
  exact NilC.mk _ rfl ⟨_, cell1 hc, NilC.mk _ rfl ⟨_, _, _, by rw [acell h]; exact h2, NilC.mk p hp ⟨by omega, by omega, _, hg, rfl, Below.refl _ _⟩⟩⟩
theorem keyA2_spec (w : World) (ob cb a : Nat) {eo ec : TypeId} (of : Sl) (f : Nat → Nat) (ho : w.heap[ob]? = some (.cells #[of.v] eo (0, 0))) (hc : w.heap[cb]? = some (.cells #[.pointer (some ⟨a, 0, none⟩)] ec (0, 0))) {c : Array Value} {fz : Nat × Nat} (h : w.heap[a]? = some (.cells c tAuto fz)) (M : Aut) (next good : Sl) (rs : List Sl) (hM : AutR w M next good rs) (h1 : c[1]? = some next.v) (hof : w.ownsRow 0 tInt 1 of.v of.n (nat1 ((List.range M.N).map f))) (hn : M.n ≤ 10000) (i : Nat) (hi : i < M.N) :
    Calls Tryz.prog 164 #[.int .i64 (i : Int), .pointer (some ⟨ob, 0, none⟩), .pointer (some ⟨cb, 0, none⟩)] w fun e w' => e = .returned (strKey (M.keyT f i)) ∧ Below w.heap.size w w' := by
  refine calls_ret (vc164_calls i (some ⟨ob, 0, none⟩) (some ⟨cb, 0, none⟩) w (fun u w' => u = strKey (M.keyT f i) ∧ Below w.heap.size w w') ?_) (by rintro v w' ⟨rfl, h⟩; exact ⟨rfl, h⟩)
  intro w1 hw1
  have b1 : Below w.heap.size w w1 := by subst hw1; exact drew_on w
  have hof1 := LsAt.of_own elInt (own_on hof b1)
  have hofn : of.n = ((List.range M.N).map f).length := by simpa using hof1.n
  have hM1 := hM.on b1
  obtain ⟨p, hp, c0⟩ := nums_cell hof1.r hi
  obtain ⟨p2, r, hp2, c2, hrn, hr⟩ := hM1.row hi
  have hln := hM1.len.1
  have hlen : ((List.range M.N).map f).length = M.N := by simp
  have hfa : (M.n = ((List.range M.n).map (M.nxt i)).length) := by simp
  refine NilC.mk _ rfl ⟨_, _, _, cell1 (held_on b1 ho), NilC.mk p hp ⟨by omega, by omega, _, c0, NilC.mk _ rfl ⟨_, cell1 (held_on b1 hc), NilC.mk _ rfl ⟨_, _, _, by rw [acell (held_on b1 h)]; exact h1, NilC.mk p2 hp2 ⟨by omega, by omega, _, _, _, c2, NilC.mk _ rfl ⟨_, _, _, cell1 (held_on b1 ho), ?_⟩⟩⟩⟩⟩⟩
  have ht := text17_spec w1 (f i) r.a of.a r.c of.c ((List.range M.n).map (M.nxt i)) ((List.range M.N).map f) hr hof1.r (by
    intro y hy
    obtain ⟨k, hk, rfl⟩ := List.mem_map.1 hy
    rw [hlen]
    exact hM.ok.lt _ _ hi (List.mem_range.1 hk)) (by simp; exact hn)
  rw [← hfa, ← hofn, ← hrn] at ht
  refine ht.mono ?_
  rintro e w2 ⟨rfl, b2⟩
  refine ⟨_, rfl, ?_, below_then b1 b2⟩
  show Value.string (str _) = Value.string (str _)
  congr 2
  unfold Aut.keyT
  congr 2
  rw [hrn, List.map_map]
  apply List.map_congr_left
  intro k hk
  show ((List.range M.N).map f).getD (M.nxt i k) 0 = f (M.nxt i k)
  have := hM.ok.lt _ _ hi (List.mem_range.1 hk)
  simp [List.getD, this]
set_option maxHeartbeats 1000000 in
theorem refine_spec (w : World) (a : Nat) (c : Array Value) (h : w.heap[a]? = some (.cells c tAuto (0, 0))) (hs : c.size = 7) (M : Aut) (next good : Sl) (rs : List Sl) (hM : AutR w M next good rs) (h1 : c[1]? = some next.v) (h2 : c[2]? = some good.v) (hN : M.N ≤ 10000) (hn : M.n ≤ 10000) :
    Calls Tryz.prog 114 #[.pointer (some ⟨a, 0, none⟩)] w fun e w' => e = .returned (.tuple #[]) ∧ ∃ (of : Sl) (f : Nat → Nat), w'.heap[a]? = some (.cells (c.setIfInBounds 6 of.v) tAuto (0, 0)) ∧ Aut.Cls M f ∧ of.n = M.N ∧ w'.ownsRow w.heap.size tInt 1 of.v of.n (nat1 ((List.range M.N).map f)) ∧ Touch a w w' := by
  refine calls_ret (vc114_calls (some ⟨a, 0, none⟩) w (fun u w' => u = .tuple #[] ∧ ∃ (of : Sl) (f : Nat → Nat), w'.heap[a]? = some (.cells (c.setIfInBounds 6 of.v) tAuto (0, 0)) ∧ Aut.Cls M f ∧ of.n = M.N ∧ w'.ownsRow w.heap.size tInt 1 of.v of.n (nat1 ((List.range M.N).map f)) ∧ Touch a w w') ?_) (by rintro v w' ⟨rfl, h⟩; exact ⟨rfl, h⟩)
  intro w1 hw1
  have b1 : Below w.heap.size w w1 := by subst hw1; exact below_alloc _ _
  have c1 : w1.heap[w.heap.size]? = some (.cells #[.pointer (some ⟨a, 0, none⟩)] 62 (0, 0)) := by subst hw1; exact alloc_new _ _
  have lt1 := (Array.getElem?_eq_some_iff.1 c1).1
  have hal : a < w.heap.size := (Array.getElem?_eq_some_iff.1 h).1
  have hok := hM.ok
  obtain ⟨hnl, hgl⟩ := hM.len
  refine ⟨_, cell1 c1, (states_spec w1 a (held_on b1 h) next h1).mono ?_⟩
  rintro e w2 ⟨rfl, rfl⟩
  rw [hnl]
  refine ⟨_, rfl, (groupT_spec w2 M.N _ M.good hN fun i hi q hq => callG_of (by kernel_rfl) (keyA1_spec q w.heap.size a (held_on hq c1) (held_on hq (held_on b1 h)) M next good rs ((hM.on b1).on hq) h2 i hi)).mono ?_⟩
  rintro e w3 ⟨of, rfl, hofn, hof, b3⟩
  have hb3 := below_then b1 b3
  have c3 := held_on b3 c1
  refine ⟨_, _, _, _, rfl, ?_⟩
  intro w4 hw4
  refine box_store hw4 rfl ?_
  intro w5 o5 b5
  have hb5 := below_then hb3 b5
  have c5 := held_on b5 c3
  have lt3 : w.heap.size < w3.heap.size := (Array.getElem?_eq_some_iff.1 c3).1
  intro I hI
  have bar : ∀ (q : World) (of : Sl) (f : Nat → Nat), q.ownsRow w.heap.size tInt 1 of.v of.n (((List.range M.N).map fun i => ((f i : Nat) : Int)).flatMap encInt) → q.ownsRow w.heap.size tInt 1 of.v of.n (nat1 ((List.range M.N).map f)) := by
    intro q of f h
    unfold nat1
    rw [List.map_map]
    exact h
  -- one round
  have round : ∀ (r : Nat) (q : World) (of : Sl), q.heap[w3.heap.size]? = some (.cells #[of.v] tInts (0, 0)) → q.ownsRow w.heap.size tInt 1 of.v of.n (nat1 ((List.range M.N).map (M.ofR r))) → Below w.heap.size w q → q.heap[w.heap.size]? = some (.cells #[.pointer (some ⟨a, 0, none⟩)] 62 (0, 0)) →
      (M.cntR (r + 1) ≠ M.cntR r → ∀ (q' : World) (of' : Sl), q'.heap[w3.heap.size]? = some (.cells #[of'.v] tInts (0, 0)) → q'.ownsRow w.heap.size tInt 1 of'.v of'.n (nat1 ((List.range M.N).map (M.ofR (r + 1)))) → Below w.heap.size w q' → q'.heap[w.heap.size]? = some (.cells #[.pointer (some ⟨a, 0, none⟩)] 62 (0, 0)) → I [.int .i64 ((M.cntR (r + 1) : Nat) : Int)] q') → I [.int .i64 ((M.cntR r : Nat) : Int)] q := by
    intro r q of ho hof hB hcq again
    have hq := held_on hB h
    have hMq := hM.on hB
    refine hI _ _ ⟨_, cell1 hcq, (states_spec q a hq next h1).mono ?_⟩
    rintro e q1 ⟨rfl, rfl⟩
    rw [hnl]
    refine ⟨_, rfl, (groupS_spec q1 M.N _ (M.keyT (M.ofR r)) hN fun i hi z hz => callG_of (by kernel_rfl) (keyA2_spec z w3.heap.size w.heap.size a of (M.ofR r) (held_on hz ho) (held_on hz hcq) (held_on hz hq) M next good rs (hMq.on hz) h1 (own_base (own_on hof hz) (Nat.zero_le _)) hn i hi)).mono ?_⟩
    rintro e q2 ⟨of', rfl, hofn, hof', b2⟩
    have hB2 := below_then hB b2
    have ho2 := held_on b2 ho
    have hof2 := bar _ _ _ (own_base hof' (show w.heap.size ≤ _ from hB.size))
    refine ⟨_, _, _, _, rfl, rfl, ⟨_, cell1 ho2⟩, frozen_heap ho2, ?_⟩
    intro q3 hq3
    have ho3 : q3.heap[w3.heap.size]? = some (.cells #[of'.v] tInts (0, 0)) := by subst hq3; exact setCell_heap ho2 of'.v
    have hB3 : Below w.heap.size w q3 := by subst hq3; exact hB2.setCell (p := ⟨w3.heap.size, 0, none⟩) (by show w.heap.size ≤ w3.heap.size; omega) _
    have hof3 : q3.ownsRow w.heap.size tInt 1 of'.v of'.n (nat1 ((List.range M.N).map (M.ofR (r + 1)))) := by subst hq3; exact own_setCell hof2 _ (row_ne_blk hof2 ho2 (by decide))
    have hc3 : q3.heap[w.heap.size]? = some (.cells #[.pointer (some ⟨a, 0, none⟩)] 62 (0, 0)) := by
      subst hq3
      rw [heap_setCell_ne (show w.heap.size ≠ w3.heap.size by omega)]
      exact held_on b2 hcq
    have hcnt : (firsts (M.keyT (M.ofR r)) M.N).length = M.cntR (r + 1) := rfl
    rw [hcnt]
    by_cases he : M.cntR (r + 1) = M.cntR r
    · have ha3 := held_on hB3 h
      have e6 : ((⟨a, 0, none⟩ : Addr).add 3).add 3 = (⟨a, 0, none⟩ : Addr).add 6 := by rw [Addr.add_add]
      refine CondP.yes (by rw [he]; simp) ⟨_, cell1 hc3, _, _, _, cell1 ho3, NilC.mk _ rfl ⟨rfl, ⟨c[6]'(by omega), by rw [e6, cell_put ha3, Array.getElem?_eq_getElem (by omega)]⟩, by rw [e6]; exact frozen_put ha3, ?_⟩⟩
      intro q4 hq4
      rw [e6] at hq4
      refine ⟨rfl, of', M.ofR (r + 1), by subst hq4; exact heap_put ha3 _, Aut.cls_done hok he, hofn, ?_, ?_⟩
      · subst hq4
        exact own_setCell hof3 _ (by rw [add_block]; exact row_ne_blk hof3 ha3 (by decide))
      · refine (Touch.of_below hB3).trans ?_
        subst hq4
        exact ⟨rfl, rfl, rfl, by rw [size_setCell]; exact Nat.le_refl _, fun k _ hk => heap_setCell_ne (by rw [add_block]; exact hk)⟩
    · refine CondP.no (by simp; omega) (again he q3 of' ho3 hof3 hB3 hc3)
  have loop : ∀ (d r : Nat) (q : World) (of : Sl), M.N - M.cntR r ≤ d → q.heap[w3.heap.size]? = some (.cells #[of.v] tInts (0, 0)) → q.ownsRow w.heap.size tInt 1 of.v of.n (nat1 ((List.range M.N).map (M.ofR r))) → Below w.heap.size w q → q.heap[w.heap.size]? = some (.cells #[.pointer (some ⟨a, 0, none⟩)] 62 (0, 0)) → I [.int .i64 ((M.cntR r : Nat) : Int)] q := by
    intro d
    induction d with
    | zero =>
      intro r q of hd ho hof hB hcq
      refine round r q of ho hof hB hcq fun hne => ?_
      have := Aut.cntR_mono hok r
      have := Aut.cntR_le (M := M) (r + 1)
      omega
    | succ d ihd =>
      intro r q of hd ho hof hB hcq
      refine round r q of ho hof hB hcq fun hne q' of' h1 h2 h3 h4 => ihd (r + 1) q' of' ?_ h1 h2 h3 h4
      have := Aut.cntR_mono hok r
      have := Aut.cntR_le (M := M) (r + 1)
      omega
  exact loop M.N 0 w5 of (by omega) o5 (bar _ _ _ (own_base (own_on hof b5) (by omega))) hb5 c5
end Go.Proofs.YtboemnagahmlkaaGreat.Eng

/- Which states are alike, walked by the engine; the once by the kit's tactics. -/
set_option linter.unusedVariables false
set_option linter.unusedSimpArgs false
set_option maxRecDepth 100000
namespace Go.Proofs.YtboemnagahmlkaaGreat.Eng
open Go Go.RowKit
set_option maxHeartbeats 1600000 in
theorem once_slow17 (v : Nat) (w : World) (K : World → Prop)
    (hfind : Calls Tryz.prog 114 #[.pointer (some ⟨v, 0, none⟩)] (w.setCell ⟨v, 4, none⟩ (.int .i32 1)) fun e w' => e = .returned (.tuple #[]) ∧ K w')
    (hK : ∀ w', K w' → w'.cell? ⟨v, 3, none⟩ = some (.int .u32 0) ∧ w'.frozen? ⟨v, 3, none⟩ = false ∧ w'.cell? ⟨v, 4, none⟩ = some (.int .i32 1) ∧ w'.frozen? ⟨v, 4, none⟩ = false)
    (h0 : w.cell? ⟨v, 3, none⟩ = some (.int .u32 0)) (h1 : w.cell? ⟨v, 4, none⟩ = some (.int .i32 0)) (f0 : w.frozen? ⟨v, 3, none⟩ = false) (f1 : w.frozen? ⟨v, 4, none⟩ = false) :
    Calls Tryz.prog 160 #[.pointer (some ⟨v, 3, none⟩), .func (.func 114) #[.pointer (some ⟨v, 0, none⟩)] #[]] w fun e w' => e = .returned (.tuple #[]) ∧ ∃ w2, K w2 ∧ w' = (w2.drew.setCell ⟨v, 3, none⟩ (.int .u32 1)).setCell ⟨v, 4, none⟩ (.int .i32 0) := by
  have hl := run_call_load (P := Tryz.prog) Tryz.func217 (by kernel_rfl) (by kernel_rfl) (by kernel_rfl) .u32 (by kernel_rfl) (w := w.setCell ⟨v, 4, none⟩ (.int .i32 1)) (a := ⟨v, 3, none⟩) (x := 0) ((World.cell?_setCell_other _ ⟨v, 4, none⟩ ⟨v, 3, none⟩ _ (by simp)).trans h0)
  have hnot : ∀ (x : Bool) (w : World), (Op.unary .not (.bool x)).run Tryz.prog w = .ok (.bool (!x)) w := fun _ _ => rfl
  go_enter_defers Tryz.func160, Tryz.ntmps160
  go_wp2_with (go_at_call 218; refine (once_lock ⟨v, 4, none⟩ _ (by go_simp) (by go_simp)).mono ?_; rintro e w' ⟨rfl, rfl⟩)
  go_wp2_with (first | (go_at_call 114; refine hfind.mono ?_; rintro e w' ⟨rfl, hk⟩) | go_in)
  obtain ⟨k0, k1, k2, k3⟩ := hK _ hk
  refine leaves_cons (f := 220) (args := #[.pointer (some ⟨v, 3, none⟩), .bool true]) (by simp) (by simp [go_sem]) ?_
  refine (once_store ⟨v, 3, none⟩ (.int .u32 0) .returning _ k0 k1).mono ?_
  rintro e u' w'' ⟨rfl, rfl, rfl⟩
  refine leaves_cons (f := 219) (args := #[.pointer (some ⟨v, 4, none⟩)]) (by simp [settle]) (by simp [go_sem]) ?_
  refine (once_unlock ⟨v, 4, none⟩ _ _ ?_ ?_).mono ?_
  · refine (World.cell?_setCell_other _ ⟨v, 3, none⟩ ⟨v, 4, none⟩ _ (by simp)).trans ?_
    rw [World.cell?_drew]
    exact k2
  · simp [k3]
  rintro e u' w'' ⟨rfl, rfl, rfl⟩
  simp [Leaves, settle, results, Tryz.results160]
  exact ⟨_, hk, rfl⟩
set_option maxHeartbeats 1600000 in
theorem once_do17 (v : Nat) (w : World) (K : World → Prop)
    (hfind : Calls Tryz.prog 114 #[.pointer (some ⟨v, 0, none⟩)] (w.setCell ⟨v, 4, none⟩ (.int .i32 1)) fun e w' => e = .returned (.tuple #[]) ∧ K w')
    (hK : ∀ w', K w' → w'.cell? ⟨v, 3, none⟩ = some (.int .u32 0) ∧ w'.frozen? ⟨v, 3, none⟩ = false ∧ w'.cell? ⟨v, 4, none⟩ = some (.int .i32 1) ∧ w'.frozen? ⟨v, 4, none⟩ = false)
    (h0 : w.cell? ⟨v, 3, none⟩ = some (.int .u32 0)) (h1 : w.cell? ⟨v, 4, none⟩ = some (.int .i32 0)) (f0 : w.frozen? ⟨v, 3, none⟩ = false) (f1 : w.frozen? ⟨v, 4, none⟩ = false) :
    Calls Tryz.prog 113 #[.pointer (some ⟨v, 3, none⟩), .func (.func 114) #[.pointer (some ⟨v, 0, none⟩)] #[]] w fun e w' => e = .returned (.tuple #[]) ∧ ∃ w2, K w2 ∧ w' = (w2.drew.setCell ⟨v, 3, none⟩ (.int .u32 1)).setCell ⟨v, 4, none⟩ (.int .i32 0) := by
  have hl := run_call_load (P := Tryz.prog) Tryz.func217 (by kernel_rfl) (by kernel_rfl) (by kernel_rfl) .u32 (by kernel_rfl) h0
  have hnot : ∀ (x : Bool) (w : World), (Op.unary .not (.bool x)).run Tryz.prog w = .ok (.bool (!x)) w := fun _ _ => rfl
  go_enter Tryz.func113, Tryz.ntmps113
  go_wp2_with (first | (go_at_call 160; refine (once_slow17 v w K hfind hK h0 h1 f0 f1).mono ?_; rintro e w' ⟨rfl, hk⟩) | (go_at_call 159; go_in))
  go_end0
  exact ⟨rfl, hk⟩

/-- The cells of an automaton. -/
abbrev autC (g : Nat) (next good : Sl) (d l : Int) (of : Sl) : Array Value := #[.pointer (some ⟨g, 0, none⟩), next.v, good.v, .int .u32 d, .int .i32 l, .int .u32 0, of.v]
/-- An automaton; its classes, once they are asked for. -/
def AutW (w : World) (a g : Nat) (M : Aut) (o : Option (Nat → Nat)) : Prop := ∃ (next good of : Sl) (rs : List Sl) (d : Int), w.heap[a]? = some (.cells (autC g next good d 0 of) tAuto (0, 0)) ∧ AutR w M next good rs ∧ (match o with
  | none => d = 0 ∧ of = sl0
  | some f => d = 1 ∧ Aut.Cls M f ∧ of.n = M.N ∧ w.ownsRow 0 tInt 1 of.v of.n (nat1 ((List.range M.N).map f)))
def AutIs (w : World) (a g : Nat) (M : Aut) : Prop := ∃ o, AutW w a g M o
theorem AutW.on {w w' : World} {a g : Nat} {M : Aut} {o : Option (Nat → Nat)} (h : AutW w a g M o) (hb : Below w.heap.size w w') : AutW w' a g M o := by
  obtain ⟨next, good, of, rs, d, h1, h2, h3⟩ := h
  refine ⟨next, good, of, rs, d, held_on hb h1, h2.on hb, ?_⟩
  cases o with
  | none => exact h3
  | some f => exact ⟨h3.1, h3.2.1, h3.2.2.1, own_on h3.2.2.2 hb⟩
theorem AutIs.on {w w' : World} {a g : Nat} {M : Aut} (h : AutIs w a g M) (hb : Below w.heap.size w w') : AutIs w' a g M := by
  obtain ⟨o, h⟩ := h
  exact ⟨o, h.on hb⟩
theorem AutW.lt {w : World} {a g : Nat} {M : Aut} {o : Option (Nat → Nat)} (h : AutW w a g M o) : a < w.heap.size := by
  obtain ⟨next, good, of, rs, d, h1, _⟩ := h
  exact (Array.getElem?_eq_some_iff.1 h1).1
theorem aput {w : World} {a : Nat} {c : Array Value} (h : w.heap[a]? = some (.cells c tAuto (0, 0))) (j : Nat) (u : Value) :
    (w.setCell ⟨a, j, none⟩ u).heap[a]? = some (.cells (c.setIfInBounds j u) tAuto (0, 0)) ∧ Touch a w (w.setCell ⟨a, j, none⟩ u) :=
  ⟨setCell_heap h u, ⟨rfl, rfl, rfl, by rw [size_setCell]; exact Nat.le_refl _, fun k _ hk => heap_setCell_ne hk⟩⟩
theorem alike_spec (w : World) (a g : Nat) (M : Aut) (o : Option (Nat → Nat)) (h : AutW w a g M o) (hN : M.N ≤ 10000) (hn : M.n ≤ 10000) :
    Calls Tryz.prog 76 #[.pointer (some ⟨a, 0, none⟩)] w fun e w' => ∃ (of : Sl) (f : Nat → Nat), e = .returned of.v ∧ (∀ f0, o = some f0 → f = f0 ∧ w' = w) ∧ of.n = M.N ∧ Rw encInt 1 w' of.a (((List.range M.N).map f).map fun i : Nat => (i : Int)) ∧ AutW w' a g M (some f) ∧ Touch a w w' := by
  obtain ⟨next, good, of, rs, d, hblk, hM, ho⟩ := h
  refine calls_ret (vc76_calls (some ⟨a, 0, none⟩) w (fun u w' => ∃ (of : Sl) (f : Nat → Nat), u = of.v ∧ (∀ f0, o = some f0 → f = f0 ∧ w' = w) ∧ of.n = M.N ∧ Rw encInt 1 w' of.a (((List.range M.N).map f).map fun i : Nat => (i : Int)) ∧ AutW w' a g M (some f) ∧ Touch a w w') ?_) (by rintro v w' ⟨of, f, rfl, h⟩; exact ⟨of, f, rfl, h⟩)
  have e3 : ((⟨a, 0, none⟩ : Addr).add 3).add 0 = ⟨a, 3, none⟩ := by rw [add_lit, add_lit]
  have e6 : ((⟨a, 0, none⟩ : Addr).add 3).add 3 = (⟨a, 0, none⟩ : Addr).add 6 := by rw [Addr.add_add]
  have at_ : ∀ {w' : World} {c : Array Value}, w'.heap[a]? = some (.cells c tAuto (0, 0)) → ∀ j, w'.cell? ⟨a, j, none⟩ = c[j]? := fun h j => cell_heap h
  have fz : ∀ {w' : World} {c : Array Value}, w'.heap[a]? = some (.cells c tAuto (0, 0)) → ∀ j, w'.frozen? ⟨a, j, none⟩ = false := fun h j => frozen_heap h
  refine NilC.mk _ rfl ?_
  rw [e3]
  -- behind the once
  have rest : ∀ (w3 : World) (of3 : Sl) (f : Nat → Nat), (∀ f0, o = some f0 → f = f0 ∧ w3 = w) → w3.heap[a]? = some (.cells (autC g next good 1 0 of3) tAuto (0, 0)) → Aut.Cls M f → of3.n = M.N → w3.ownsRow 0 tInt 1 of3.v of3.n (nat1 ((List.range M.N).map f)) → Touch a w w3 →
      NilC (some ⟨a, 0, none⟩) (fun pa_1 => ∃ lA : Option Addr, ∃ lN : Nat, ∃ lC : Nat, w3.cell? ((pa_1.add 3).add 3) = some (Value.slice lA lN lC) ∧
        (∃ (of : Sl) (f : Nat → Nat), Value.slice lA lN lC = of.v ∧ (∀ f0, o = some f0 → f = f0 ∧ w3 = w) ∧ of.n = M.N ∧ Rw encInt 1 w3 of.a (((List.range M.N).map f).map fun i : Nat => (i : Int)) ∧ AutW w3 a g M (some f) ∧ Touch a w w3)) := by
    intro w3 of3 f hf hb hc hl hown t
    exact NilC.mk _ rfl ⟨_, _, _, by rw [e6, acell hb]; rfl, of3, f, rfl, hf, hl, (LsAt.of_own elInt hown).r, ⟨next, good, of3, rs, 1, hb, hM.touch hblk t, rfl, hc, hl, hown⟩, t⟩
  cases o with
  | none =>
    obtain ⟨rfl, rfl⟩ := ho
    obtain ⟨b2, t2⟩ := aput hblk 4 (.int .i32 1)
    have hM2 := hM.touch hblk t2
    refine (once_do17 a w (fun w' => ∃ (of : Sl) (f : Nat → Nat), w'.heap[a]? = some (.cells (((autC g next good 0 0 sl0).setIfInBounds 4 (.int .i32 1)).setIfInBounds 6 of.v) tAuto (0, 0)) ∧ Aut.Cls M f ∧ of.n = M.N ∧ w'.ownsRow (w.setCell ⟨a, 4, none⟩ (.int .i32 1)).heap.size tInt 1 of.v of.n (nat1 ((List.range M.N).map f)) ∧ Touch a (w.setCell ⟨a, 4, none⟩ (.int .i32 1)) w') (refine_spec _ a _ b2 rfl M next good rs hM2 rfl rfl hN hn) ?_ (at_ hblk 3) (at_ hblk 4) (fz hblk 3) (fz hblk 4)).mono ?_
    · rintro w' ⟨of', f, hb', _⟩
      exact ⟨at_ hb' 3, fz hb' 3, at_ hb' 4, fz hb' 4⟩
    · rintro e w3 ⟨rfl, wf, ⟨of', f, hbf, hc, hl, hof, tf⟩, hw3⟩
      refine ⟨rfl, ?_⟩
      have hbd : wf.drew.heap[a]? = some (.cells (((autC g next good 0 0 sl0).setIfInBounds 4 (.int .i32 1)).setIfInBounds 6 of'.v) tAuto (0, 0)) := hbf
      obtain ⟨b4, t4⟩ := aput hbd 3 (.int .u32 1)
      obtain ⟨b5, t5⟩ := aput b4 4 (.int .i32 0)
      rw [← hw3] at b5 t5
      have tt : Touch a wf w3 := ((Touch.of_below (drew_on wf)).trans t4).trans t5
      exact rest w3 of' f (fun f0 h => by cases h) b5 hc hl (tt.own (own_base hof (Nat.zero_le _)) (row_ne_blk hof hbf (by decide))) ((t2.trans tf).trans tt)
  | some f =>
    obtain ⟨rfl, hc, hl, hown⟩ := ho
    refine (once_done ⟨a, 3, none⟩ 1 (by decide) _ w (at_ hblk 3)).mono ?_
    rintro e w3 ⟨rfl, hw⟩
    subst hw
    exact ⟨rfl, rest w3 of f (fun f0 h => by cases h; exact ⟨rfl, rfl⟩) hblk hc hl hown (Touch.of_below (Below.refl _ _))⟩
theorem AutW.blk {w : World} {a g : Nat} {M : Aut} {o : Option (Nat → Nat)} (h : AutW w a g M o) : ∃ (next good of : Sl) (rs : List Sl) (d : Int), w.heap[a]? = some (.cells (autC g next good d 0 of) tAuto (0, 0)) ∧ AutR w M next good rs := by
  obtain ⟨next, good, of, rs, d, h1, h2, _⟩ := h
  exact ⟨next, good, of, rs, d, h1, h2⟩
theorem aStates_spec (w : World) (a g : Nat) (M : Aut) (h : AutIs w a g M) :
    Calls Tryz.prog 43 #[.pointer (some ⟨a, 0, none⟩)] w fun e w' => e = .returned (.int .i64 (M.N : Int)) ∧ w' = w := by
  obtain ⟨o, h⟩ := h
  obtain ⟨next, good, of, rs, d, h1, h2⟩ := h.blk
  have := states_spec w a h1 next rfl
  rw [h2.len.1] at this
  exact this
theorem aHas_spec (w : World) (a g : Nat) (M : Aut) (h : AutIs w a g M) (x : Int) :
    Calls Tryz.prog 75 #[.pointer (some ⟨a, 0, none⟩), .int .i64 x] w fun e w' => e = .returned (.bool (decide (0 ≤ x ∧ x < (M.N : Int)))) ∧ w' = w := by
  refine calls_ret (vc75_calls (some ⟨a, 0, none⟩) x w (fun u w' => u = .bool (decide (0 ≤ x ∧ x < (M.N : Int))) ∧ w' = w) ?_) (by rintro v w' ⟨rfl, h⟩; exact ⟨rfl, h⟩)
  refine CondP.mk (fun h0 => (aStates_spec w a g M h).mono ?_) fun h0 => ⟨?_, rfl⟩
  · rintro e w1 ⟨rfl, hw⟩
    have h0 := of_decide_eq_true h0
    refine ⟨_, rfl, ?_, hw⟩
    rw [decide_eq_decide.2 (show x < (M.N : Int) ↔ 0 ≤ x ∧ x < (M.N : Int) from ⟨fun h => ⟨h0, h⟩, fun h => h.2⟩)]
  · have h0 := of_decide_eq_false h0
    rw [decide_eq_false fun h => h0 h.1]
theorem Alike_spec (w : World) (a g : Nat) (M : Aut) (h : AutIs w a g M) (hN : M.N ≤ 10000) (hn : M.n ≤ 10000) (x y : Int) :
    Calls Tryz.prog 40 #[.pointer (some ⟨a, 0, none⟩), .int .i64 x, .int .i64 y] w fun e w' => ∃ b : Bool, e = .returned (.bool b) ∧ ((0 ≤ x ∧ x < (M.N : Int)) ∧ (0 ≤ y ∧ y < (M.N : Int)) → ∃ f, Aut.Cls M f ∧ b = decide (f x.toNat = f y.toNat)) ∧ (¬ ((0 ≤ x ∧ x < (M.N : Int)) ∧ (0 ≤ y ∧ y < (M.N : Int))) → b = false) ∧ AutIs w' a g M ∧ Touch a w w' := by
  refine calls_ret (vc40_calls (some ⟨a, 0, none⟩) x y w (fun u w' => ∃ b : Bool, u = .bool b ∧ ((0 ≤ x ∧ x < (M.N : Int)) ∧ (0 ≤ y ∧ y < (M.N : Int)) → ∃ f, Aut.Cls M f ∧ b = decide (f x.toNat = f y.toNat)) ∧ (¬ ((0 ≤ x ∧ x < (M.N : Int)) ∧ (0 ≤ y ∧ y < (M.N : Int))) → b = false) ∧ AutIs w' a g M ∧ Touch a w w') ?_) (by rintro v w' ⟨b, rfl, h⟩; exact ⟨b, rfl, h⟩)
  intro w1 hw1
  have b1 : Below w.heap.size w w1 := by subst hw1; exact drew_on w
  have h1 := h.on b1
  refine (aHas_spec w1 a g M h1 x).mono ?_
  rintro e w2 ⟨rfl, hw⟩
  subst w2
  refine ⟨_, rfl, CondP.mk (fun hx => (aHas_spec w1 a g M h1 y).mono ?_) fun hx => ⟨false, rfl, fun h => absurd h.1 (of_decide_eq_false hx), fun _ => rfl, h1, Touch.of_below b1⟩⟩
  rintro e w3 ⟨rfl, hw⟩
  subst w3
  have hx := of_decide_eq_true hx
  refine ⟨_, rfl, CondP.mk (fun hy => ?_) fun hy => ⟨false, rfl, fun h => absurd h.2 (of_decide_eq_false hy), fun _ => rfl, h1, Touch.of_below b1⟩⟩
  have hy := of_decide_eq_true hy
  obtain ⟨o, hA⟩ := h1
  refine (alike_spec w1 a g M o hA hN hn).mono ?_
  rintro e w4 ⟨of, f, rfl, _, hl, hr, hA4, t4⟩
  obtain ⟨p, hp, c⟩ := nums_cell hr (show x.toNat < M.N by omega)
  refine ⟨_, _, _, rfl, NilC.mk p hp ⟨by omega, by omega, _, c, ?_⟩⟩
  refine (alike_spec w4 a g M _ hA4 hN hn).mono ?_
  rintro e w5 ⟨of5, f5, rfl, hf5, hl5, hr5, hA5, t5⟩
  obtain ⟨hf5, hw5⟩ := hf5 f rfl
  subst hf5
  have hc : Aut.Cls M f5 := by
    obtain ⟨_, _, _, _, _, _, _, _, h, _⟩ := hA5
    exact h
  obtain ⟨p5, hp5, c5⟩ := nums_cell hr5 (show y.toNat < M.N by omega)
  have hkeep : w5.cell? (p.add (x.toNat * 1)) = some (.int .i64 ((f5 x.toNat : Nat) : Int)) := by
    rw [hw5]
    exact c
  refine ⟨_, _, _, rfl, ⟨hkeep, trivial⟩, NilC.mk p5 hp5 ⟨by omega, by omega, _, c5, _, rfl, fun _ => ⟨f5, hc, ?_⟩, fun h => absurd ⟨hx, hy⟩ h, ⟨_, hA5⟩, ((Touch.of_below b1).trans t4).trans t5⟩⟩
  rw [Bool.eq_iff_iff, beq_iff_eq, decide_eq_true_eq]
  exact Int.natCast_inj
end Go.Proofs.YtboemnagahmlkaaGreat.Eng

/- The states that are met from the beginning, walked by the engine. -/
set_option linter.unusedVariables false
set_option linter.unusedSimpArgs false
set_option maxRecDepth 100000
namespace Go.Proofs.YtboemnagahmlkaaGreat.Eng
open Go Go.RowKit
open Aut (metF metL scan visit)
abbrev tMii : TypeId := 107
theorem undMii : Tryz.prog.underlying tMii = some (.map tInt tInt) := by kernel_rfl
/-- The classes that are met, and their places. -/
def mmap (f : Nat → Nat) (l : List Nat) : List (Int × Value) := l.zipIdx.map fun x => (((f x.1 : Nat) : Int), .int .i64 (x.2 : Int))
theorem mmap_snoc (f : Nat → Nat) (l : List Nat) (x : Nat) : mmap f (l ++ [x]) = mmap f l ++ [(((f x : Nat) : Int), .int .i64 (l.length : Int))] := by simp [mmap, List.zipIdx_append]
theorem look_mmap (f : Nat → Nat) (l : List Nat) (x : Nat) : look ((x : Nat) : Int) (mmap f l) = ((l.map f).idxOf? x).map fun i : Nat => Value.int .i64 (i : Int) := by
  have := look_zipf (fun s : Nat => ((f s : Nat) : Int)) ((x : Nat) : Int) l 0
  simp only [Nat.zero_add] at this
  rw [show look ((x : Nat) : Int) (mmap f l) = _ from this]
  congr 1
  have key : ∀ l : List Nat, (l.map fun s : Nat => ((f s : Nat) : Int)).idxOf? ((x : Nat) : Int) = (l.map f).idxOf? x := by
    intro l
    induction l with
    | nil => rfl
    | cons y l ih =>
      simp only [List.map_cons, List.idxOf?_cons, ih]
      by_cases h : f y = x
      · simp [h]
      · simp [h]; omega
  exact key l
theorem nat1_snoc (l : List Nat) (x : Nat) : nat1 (l ++ [x]) = ((l.map fun i : Nat => (i : Int)) ++ [((x : Nat) : Int)]).flatMap encInt := by simp [nat1]
theorem met_spec (w : World) (a : Nat) {c : Array Value} (h : w.heap[a]? = some (.cells c tAuto (0, 0))) (M : Aut) (next good : Sl) (rs : List Sl) (hM : AutR w M next good rs) (h1 : c[1]? = some next.v) (hN : M.N ≤ 10000) (hn : M.n ≤ 10000) (cb : Value) (f : Nat → Nat) (hf : ∀ i, i < M.N → f i < M.N)
    (his : ∀ s, s < M.N → ∀ w1, Below w.heap.size w w1 → CallG ctx cb [.int .i64 (s : Int)] w1 (fun e w2 => e = .returned (.int .i64 ((f s : Nat) : Int)) ∧ w2 = w1)) :
    Calls Tryz.prog 83 #[.pointer (some ⟨a, 0, none⟩), cb] w fun e w' => ∃ (l : Sl) (m : Nat), e = .returned (.tuple #[l.v, .map (some m)]) ∧ l.n = (metL M f).length ∧ w'.ownsRow w.heap.size tInt 1 l.v l.n (nat1 (metL M f)) ∧ MapIs intKey w' m (mmap f (metL M f)) ∧ Below w.heap.size w w' := by
  refine calls_ret (vc83_calls (some ⟨a, 0, none⟩) cb w (fun u w' => ∃ (l : Sl) (m : Nat), u = .tuple #[l.v, .map (some m)] ∧ l.n = (metL M f).length ∧ w'.ownsRow w.heap.size tInt 1 l.v l.n (nat1 (metL M f)) ∧ MapIs intKey w' m (mmap f (metL M f)) ∧ Below w.heap.size w w') ?_) (by rintro v w' ⟨l, m, rfl, h⟩; exact ⟨l, m, rfl, h⟩)
  have hok := hM.ok
  intro w1 hw1
  have b1 : Below w.heap.size w w1 := by subst hw1; exact below_alloc _ _
  have o1 : w1.ownsRow w.heap.size tInt 1 (.slice (some (nb w)) 1 1) 1 (nat1 [0]) := by subst hw1; exact own_made _ rfl (by decide) (Nat.le_refl _)
  have lt1 : w.heap.size < w1.heap.size := by subst hw1; rw [alloc_size]; omega
  refine ⟨_, _, run_make _, ?_⟩
  have b2 := below_alloc w1 (.map #[] 0)
  have m2 : MapIs intKey (w1.alloc (.map #[] 0)) w1.heap.size ([] : List (Int × Value)) := map_new w1
  obtain ⟨w2, hw2⟩ : ∃ w2, w2 = w1.alloc (.map #[] 0) := ⟨_, rfl⟩
  rw [← hw2] at b2 m2
  rw [← hw2]
  have hb2 := below_then b1 b2
  refine (his 0 hok.pos w2 hb2).mono ?_
  rintro e w3 ⟨rfl, rfl⟩
  obtain ⟨w4, hr4, m4, hs4, hz4, hB4⟩ := run_put_new keysI undMii m2 ((f 0 : Nat) : Int) (.int .i64 0) rfl
  refine ⟨_, rfl, w4, hr4, ?_⟩
  have o4 : w4.ownsRow w.heap.size tInt 1 (.slice (some (nb w)) 1 1) 1 (nat1 [0]) := own_same (own_on o1 b2) fun k hk => hs4 k (fun e => own_ne_map (own_on o1 b2) m2 (by rw [hk, e]))
  have hb4 := hB4 _ _ (Nat.le_of_lt lt1) hb2
  intro I hI
  have hln := hM.len.1
  -- one state's letters
  have inner : ∀ (i s : Nat) (L : List Nat), (metF M f i)[i]? = some s → L = metF M f i → s < M.N → ∀ (q : World) (l : Sl), q.ownsRow w.heap.size tInt 1 l.v l.n (nat1 L) → l.n = L.length → MapIs intKey q w1.heap.size (mmap f L) → Below w.heap.size w q →
      (∀ (q' : World) (l' : Sl), q'.ownsRow w.heap.size tInt 1 l'.v l'.n (nat1 (metF M f (i + 1))) → l'.n = (metF M f (i + 1)).length → MapIs intKey q' w1.heap.size (mmap f (metF M f (i + 1))) → Below w.heap.size w q' → I [.int .i64 ((i + 1 : Nat) : Int), l'.v] q') → i ≤ 10000 → I [.int .i64 (i : Int), l.v] q := by
    intro i s L hs hL hsN q l ho hl hm hB cont hi4
    have hlt := (List.getElem?_eq_some_iff.1 hs).1
    rw [← hL] at hs hlt
    have hrl : s < rs.length := by rw [hM.rl]; exact hsN
    have few : ∀ k, k ≤ M.n → (scan M f L s k).length ≤ M.N := by
      intro k hk
      have p1 := (Aut.scan_mono (M := M) f L s k (M.n - k)).length_le
      rw [show k + (M.n - k) = M.n by omega] at p1
      have p2 := Aut.met_few hok hf (i + 1)
      rw [metF, ← hL, hs] at p2
      exact Nat.le_trans p1 p2
    refine hI _ l.a l.n l.c q (CondP.yes (decide_eq_true (by omega)) ?_)
    intro q1 hq1
    have bq : Below q.heap.size q q1 := by subst hq1; exact drew_on q
    have hB1 := below_then hB bq
    have ho1 := own_on ho bq
    have hMq := hM.on hB1
    have hls := LsAt.of_own elInt (xs := L.map fun i : Nat => (i : Int)) ho1
    have hsv : L[i] = s := (List.getElem?_eq_some_iff.1 hs).2
    obtain ⟨p, hp, c0⟩ := cell_rw hls.r (show i < (L.map fun i : Nat => (i : Int)).length by simpa using hlt) (v := .int .i64 ((s : Nat) : Int)) (by simp [encInt, hsv])
    obtain ⟨p2, hp2, c2, hrn, _⟩ := hMq.rowAt hsN hrl
    refine NilC.mk _ rfl ⟨_, _, _, by rw [acell (held_on hB1 h)]; exact h1, NilC.mk p hp ⟨by omega, by omega, _, c0, NilC.mk p2 hp2 ⟨by omega, by omega, _, _, _, c2, ?_⟩⟩⟩
    intro I2 hI2
    have key := climb2 (α := Sl × World) M.n (fun k y => y.2.ownsRow w.heap.size tInt 1 y.1.v y.1.n (nat1 (scan M f L s k)) ∧ y.1.n = (scan M f L s k).length ∧ MapIs intKey y.2 w1.heap.size (mmap f (scan M f L s k)) ∧ Below w.heap.size w y.2) (fun k y => I2 [.int .i64 (k : Int), y.1.v] y.2) (l, q1) ⟨ho1, hl, hm.on bq, hB1⟩ ?_ ?_
    · exact key
    · rintro k hk ih ⟨l', z⟩ ⟨hoz, hlz, hmz, hBz⟩
      change z.ownsRow w.heap.size tInt 1 l'.v l'.n _ at hoz
      change l'.n = _ at hlz
      change MapIs intKey z _ _ at hmz
      change Below w.heap.size w z at hBz
      obtain ⟨_, _, _, _, hrr⟩ := (hM.on hBz).rowAt hsN hrl
      obtain ⟨p3, hp3, c3⟩ := nums_cell hrr hk
      have hx := hok.lt s k hsN hk
      obtain ⟨x, hxe⟩ : ∃ x, x = M.nxt s k := ⟨_, rfl⟩
      rw [← hxe] at c3 hx
      have hfew := few k (by omega)
      have hvis : scan M f L s (k + 1) = visit f (scan M f L s k) x := by rw [scan, ← hxe]
      refine hI2 _ l'.a l'.n l'.c z (CondP.yes (decide_eq_true (by omega)) ?_)
      intro J hJ
      refine NilC.mk p3 hp3 ⟨by omega, by omega, _, c3, (his x hx z hBz).mono ?_⟩
      rintro e z1 ⟨rfl, rfl⟩
      have hlk := run_look keysI undMii zeroInt hmz ((f x : Nat) : Int)
      rw [look_mmap] at hlk
      cases hc : ((scan M f L s k).map f).idxOf? (f x) with
      | some j =>
        rw [hc] at hlk
        have hmem : f x ∈ (scan M f L s k).map f := by
          have := List.isSome_idxOf?.1 (show (((scan M f L s k).map f).idxOf? (f x)).isSome = true by rw [hc]; rfl)
          exact this
        have hv : scan M f L s (k + 1) = scan M f L s k := by rw [hvis, visit, if_pos hmem]
        exact ⟨_, rfl, _, _, z1, hlk, CondP.no rfl (hJ _ _ _ _ (Ar.nat (k + 1) rfl (by omega) (ih (l', z1) ⟨by rw [hv]; exact hoz, by rw [hv]; exact hlz, by rw [hv]; exact hmz, hBz⟩)))⟩
      | none =>
        rw [hc] at hlk
        have hmem : f x ∉ (scan M f L s k).map f := List.idxOf?_eq_none_iff.1 hc
        have hv : scan M f L s (k + 1) = scan M f L s k ++ [x] := by rw [hvis, visit, if_neg hmem]
        refine ⟨_, rfl, _, _, z1, hlk, CondP.yes rfl ((his x hx z1 hBz).mono ?_)⟩
        rintro e z2 ⟨rfl, rfl⟩
        obtain ⟨z3, hr3, hm3, hs3, hz3, hB3⟩ := run_put_new keysI undMii hmz ((f x : Nat) : Int) (.int .i64 ((l'.n : Nat) : Int)) (by rw [look_mmap, hc]; rfl)
        have ho3 := own_same hoz fun j hj => hs3 j fun e => own_ne_map hoz hmz (by rw [hj, e])
        have hBz3 := hB3 _ _ (Nat.le_of_lt lt1) hBz
        refine ⟨_, rfl, z3, hr3, ?_⟩
        intro z4 hz4
        obtain ⟨l'', z5, e1, e2, e3, e4, e5⟩ := elInt.push (xs := (scan M f L s k).map fun i : Nat => (i : Int)) ho3 ((x : Nat) : Int) hz4 rfl hBz3.size (by omega) (by decide)
        refine ⟨l''.a, l''.n, l''.c, z5, e2, hJ _ _ _ _ (Ar.nat (k + 1) rfl (by omega) (ih (l'', z5) ⟨?_, ?_, ?_, e4 _ hBz3⟩))⟩
        · rw [hv, nat1_snoc]; exact e3
        · show l''.n = _
          rw [hv, List.length_append, List.length_singleton, e1, hlz]
        · rw [hv, mmap_snoc, ← hlz]
          exact hm3.same (e5 _ hm3.lt (own_ne_map ho3 hm3))
    · rintro ⟨l', z⟩ ⟨hoz, hlz, hmz, hBz⟩
      change z.ownsRow w.heap.size tInt 1 l'.v l'.n _ at hoz
      change l'.n = _ at hlz
      have hfull : metF M f (i + 1) = scan M f L s M.n := by rw [metF, ← hL, hs]
      refine hI2 _ l'.a l'.n l'.c z (CondP.no (decide_eq_false (by omega)) (Ar.nat (i + 1) rfl (by omega) (cont z l' ?_ ?_ ?_ hBz)))
      · rw [hfull]; exact hoz
      · rw [hfull]; exact hlz
      · rw [hfull]; exact hmz
  have loop : ∀ (d i : Nat) (q : World) (l : Sl), M.N - i ≤ d → i ≤ (metF M f i).length → q.ownsRow w.heap.size tInt 1 l.v l.n (nat1 (metF M f i)) → l.n = (metF M f i).length → MapIs intKey q w1.heap.size (mmap f (metF M f i)) → Below w.heap.size w q → I [.int .i64 (i : Int), l.v] q := by
    have fin : ∀ (i : Nat) (q : World) (l : Sl), (metF M f i).length ≤ i → q.ownsRow w.heap.size tInt 1 l.v l.n (nat1 (metF M f i)) → l.n = (metF M f i).length → MapIs intKey q w1.heap.size (mmap f (metF M f i)) → Below w.heap.size w q → I [.int .i64 (i : Int), l.v] q := by
      intro i q l hi ho hl hm hB
      have e := Aut.met_done hok hf hi
      rw [e] at ho hl hm
      rw [e] at hi
      exact hI _ l.a l.n l.c q (CondP.no (decide_eq_false (by omega)) ⟨l, w1.heap.size, rfl, hl, ho, hm, hB⟩)
    intro d
    induction d with
    | zero =>
      intro i q l hd hi ho hl hm hB
      have := Aut.met_few hok hf i
      exact fin i q l (by omega) ho hl hm hB
    | succ d ihd =>
      intro i q l hd hi ho hl hm hB
      by_cases e : i < (metF M f i).length
      · have hfe := Aut.met_few hok hf i
        refine inner i _ _ (List.getElem?_eq_getElem e) rfl ((Aut.metF_mid hok f i).lt _ (List.getElem_mem e)) q l ho hl hm hB (fun q' l' h1 h2 h3 h4 => ihd (i + 1) q' l' (by omega) ?_ h1 h2 h3 h4) (by omega)
        have := (Aut.metF_pre (M := M) f i).length_le
        omega
      · exact fin i q l (by omega) ho hl hm hB
  exact loop M.N 0 w4 ⟨some (nb w), 1, 1⟩ (by omega) (Nat.zero_le _) o4 rfl m4 hb4
end Go.Proofs.YtboemnagahmlkaaGreat.Eng

/- The least automaton, and what is reached, walked by the engine. -/
set_option linter.unusedVariables false
set_option linter.unusedSimpArgs false
set_option maxRecDepth 100000
namespace Go.Proofs.YtboemnagahmlkaaGreat.Eng
open Go Go.RowKit
open Aut (metF metL scan visit)
/-- An automaton that is being made: m rows, and of j states whether they are good. -/
structure AutB (w : World) (B b g : Nat) (M : Aut) (nx gd : Sl) (rs : List Sl) (m j : Nat) : Prop where
  blk : w.heap[b]? = some (.cells (autC g nx gd 0 0 sl0) tAuto (0, 0))
  onx : w.ownsRow B tInts 1 nx.v nx.n (rs.flatMap encS)
  rl : rs.length = m
  each : ∀ (i : Nat) (r : Sl), rs[i]? = some r → w.ownsRow B tInt 1 r.v r.n (nat1 ((List.range M.n).map (M.nxt i)))
  ogd : w.ownsRow B tBool 1 gd.v gd.n (((List.range j).map M.good).flatMap encB1)
theorem AutB.on {w w' : World} {B b g : Nat} {M : Aut} {nx gd : Sl} {rs : List Sl} {m j : Nat} (h : AutB w B b g M nx gd rs m j) (hb : Below w.heap.size w w') : AutB w' B b g M nx gd rs m j :=
  ⟨held_on hb h.blk, own_on h.onx hb, h.rl, fun i r hr => own_on (h.each i r hr) hb, own_on h.ogd hb⟩
theorem AutB.pushRow {w : World} {B b g : Nat} {M : Aut} {nx gd : Sl} {rs : List Sl} {m j : Nat} (h : AutB w B b g M nx gd rs m j) (hBb : B ≤ b) {r : Sl} (hr : w.ownsRow B tInt 1 r.v r.n (nat1 ((List.range M.n).map (M.nxt m)))) {w1 : World} (hw1 : w1 = w.alloc (.cells #[r.v] tInts)) (hB : B ≤ w.heap.size) (hm : m ≤ 100000) :
    ∃ (nx' : Sl) (w2 : World), (Builtin.append_ #[tIntss, tIntss] tIntss #[.slice nx.a nx.n nx.c, .slice (some (nb w)) 1 1]).run Tryz.prog w1 = .ok (.slice nx'.a nx'.n nx'.c) w2 ∧ (∃ u, w2.cell? ((⟨b, 0, none⟩ : Addr).add 1) = some u) ∧ w2.frozen? ((⟨b, 0, none⟩ : Addr).add 1) = false ∧ ∀ w3, w3 = w2.setCell ((⟨b, 0, none⟩ : Addr).add 1) nx'.v → AutB w3 B b g M nx' gd (rs ++ [r]) (m + 1) j ∧ (∀ w0, Below B w0 w → Below B w0 w3) ∧ ∀ {k : Nat} {c : Array Value} {e : TypeId} {fz : Nat × Nat}, w.heap[k]? = some (.cells c e fz) → e ≠ tInts → e ≠ tAuto → w3.heap[k]? = some (.cells c e fz) := by
  have hnn := (LsAt.of_own elIntss h.onx).n
  have hrl := h.rl
  obtain ⟨nx', w2, e1, e2, e3, e4, e5⟩ := elIntss.push h.onx r hw1 rfl hB (by omega) (by decide)
  have y1 : w2.heap[b]? = some (.cells (autC g nx gd 0 0 sl0) tAuto (0, 0)) := (e5 b (Array.getElem?_eq_some_iff.1 h.blk).1 (row_ne_blk h.onx h.blk (by decide))).trans h.blk
  refine ⟨nx', w2, e2, ⟨_, by rw [cell_put y1]; rfl⟩, frozen_put y1, ?_⟩
  intro w3 hw3
  have hs : ∀ j, j ≠ b → w3.heap[j]? = w2.heap[j]? := by
    intro j hj
    subst hw3
    exact heap_setCell_ne (by rw [add_block]; exact hj)
  have same : ∀ {B sz n : Nat} {e : TypeId} {u : Value} {xs : List Value}, w.ownsRow B e sz u n xs → e ≠ tInts → e ≠ tAuto → w3.ownsRow B e sz u n xs := by
    intro B sz n e u xs ho h1 h2
    refine own_same ho fun k hk => ?_
    rw [hs k fun e => row_ne_blk ho h.blk h2 (by rw [hk, e])]
    exact e5 k (own_lt ho k hk).2 (row_ne_row ho h.onx h1 k hk)
  refine ⟨⟨by subst hw3; exact heap_put y1 _, own_same e3 fun k hk => hs k fun e => row_ne_blk e3 y1 (by decide) (by rw [hk, e]), by simp; omega, ?_, same h.ogd (by decide) (by decide)⟩, fun w0 h0 => by subst hw3; exact below_put (e4 _ h0) hBb _, ?_⟩
  · intro i r' hi
    by_cases hcl : i < rs.length
    · rw [List.getElem?_append_left hcl] at hi
      exact same (h.each i r' hi) (by decide) (by decide)
    · have hci : i = m := by
        have := (List.getElem?_eq_some_iff.1 hi).1
        simp at this
        omega
      subst hci
      rw [List.getElem?_append_right (by omega), hrl, Nat.sub_self] at hi
      cases hi
      exact same hr (by decide) (by decide)
  · intro k c e fz hk h1 h2
    have hkb : k ≠ b := by
      rintro rfl
      rw [h.blk] at hk
      cases hk
      exact h2 rfl
    rw [hs k hkb, e5 k (Array.getElem?_eq_some_iff.1 hk).1 (row_ne_blk h.onx hk fun e => h1 e.symm)]
    exact hk
theorem AutB.pushGood {w : World} {B b g : Nat} {M : Aut} {nx gd : Sl} {rs : List Sl} {m j : Nat} (h : AutB w B b g M nx gd rs m j) (hBb : B ≤ b) {v : Bool} (hv : v = M.good j) {w1 : World} (hw1 : w1 = w.alloc (.cells #[.bool v] tBool)) (hB : B ≤ w.heap.size) (hj : j ≤ 100000) :
    ∃ (gd' : Sl) (w2 : World), (Builtin.append_ #[tBools, tBools] tBools #[.slice gd.a gd.n gd.c, .slice (some (nb w)) 1 1]).run Tryz.prog w1 = .ok (.slice gd'.a gd'.n gd'.c) w2 ∧ (∃ u, w2.cell? ((⟨b, 0, none⟩ : Addr).add 2) = some u) ∧ w2.frozen? ((⟨b, 0, none⟩ : Addr).add 2) = false ∧ ∀ w3, w3 = w2.setCell ((⟨b, 0, none⟩ : Addr).add 2) gd'.v → AutB w3 B b g M nx gd' rs m (j + 1) ∧ (∀ w0, Below B w0 w → Below B w0 w3) := by
  have hnn := (LsAt.of_own elBl h.ogd).n
  rw [List.length_map, List.length_range] at hnn
  obtain ⟨gd', w2, e1, e2, e3, e4, e5⟩ := elBl.push h.ogd v hw1 rfl hB (by omega) (by decide)
  have y1 : w2.heap[b]? = some (.cells (autC g nx gd 0 0 sl0) tAuto (0, 0)) := (e5 b (Array.getElem?_eq_some_iff.1 h.blk).1 (row_ne_blk h.ogd h.blk (by decide))).trans h.blk
  refine ⟨gd', w2, e2, ⟨_, by rw [cell_put y1]; rfl⟩, frozen_put y1, ?_⟩
  intro w3 hw3
  have hs : ∀ j, j ≠ b → w3.heap[j]? = w2.heap[j]? := by
    intro j hj
    subst hw3
    exact heap_setCell_ne (by rw [add_block]; exact hj)
  have same : ∀ {B sz n : Nat} {e : TypeId} {u : Value} {xs : List Value}, w.ownsRow B e sz u n xs → e ≠ tBool → e ≠ tAuto → w3.ownsRow B e sz u n xs := by
    intro B sz n e u xs ho h1 h2
    refine own_same ho fun k hk => ?_
    rw [hs k fun e => row_ne_blk ho h.blk h2 (by rw [hk, e])]
    exact e5 k (own_lt ho k hk).2 (row_ne_row ho h.ogd h1 k hk)
  refine ⟨⟨by subst hw3; exact heap_put y1 _, same h.onx (by decide) (by decide), h.rl, fun i r hr => same (h.each i r hr) (by decide) (by decide), ?_⟩, fun w0 h0 => by subst hw3; exact below_put (e4 _ h0) hBb _⟩
  rw [List.range_succ, List.map_append, List.map_cons, List.map_nil, ← hv]
  exact own_same e3 fun k hk => hs k fun e => row_ne_blk e3 y1 (by decide) (by rw [hk, e])
theorem AutB.done {w : World} {B b g : Nat} {M : Aut} {nx gd : Sl} {rs : List Sl} (h : AutB w B b g M nx gd rs M.N M.N) (hok : M.Ok) : AutW w b g M none :=
  ⟨nx, gd, sl0, rs, 0, h.blk, ⟨own_base h.onx (Nat.zero_le _), h.rl, fun i r hr => own_base (h.each i r hr) (Nat.zero_le _), own_base h.ogd (Nat.zero_le _), hok⟩, rfl, rfl⟩
theorem leastKey_spec (w : World) (ob : Nat) {eo : TypeId} (of : Sl) (f : Nat → Nat) (n : Nat) (ho : w.heap[ob]? = some (.cells #[of.v] eo (0, 0))) (hl : of.n = n) (hr : Rw encInt 1 w of.a (((List.range n).map f).map fun i : Nat => (i : Int))) (s : Nat) (hs : s < n) :
    Calls Tryz.prog 84 #[.int .i64 (s : Int), .pointer (some ⟨ob, 0, none⟩)] w fun e w' => e = .returned (.int .i64 ((f s : Nat) : Int)) ∧ w' = w := by
  refine calls_ret (vc84_calls s (some ⟨ob, 0, none⟩) w (fun u w' => u = .int .i64 ((f s : Nat) : Int) ∧ w' = w) ?_) (by rintro v w' ⟨rfl, h⟩; exact ⟨rfl, h⟩)
  obtain ⟨p, hp, c⟩ := nums_cell hr hs
  exact NilC.mk _ rfl ⟨_, _, _, cell1 ho, NilC.mk p hp ⟨by omega, by omega, _, c, rfl, rfl⟩⟩
theorem idxOf_of {l : List Nat} {x : Nat} (h : x ∈ l) : l.idxOf? x = some (l.idxOf x) := by
  induction l with
  | nil => cases h
  | cons y l ih =>
    rw [List.idxOf?_cons, List.idxOf_cons]
    by_cases e : y = x
    · simp [e]
    · have : x ∈ l := by
        rcases List.mem_cons.1 h with h | h
        · exact absurd h.symm e
        · exact h
      have hb : (y == x) = false := by simpa using e
      simp [hb, ih this]
set_option maxHeartbeats 1000000 in
theorem least_spec (w : World) (a g : Nat) (M : Aut) (h : AutIs w a g M) (hN : M.N ≤ 10000) (hn : M.n ≤ 10000) :
    Calls Tryz.prog 46 #[.pointer (some ⟨a, 0, none⟩)] w fun e w' => ∃ (b : Nat) (f : Nat → Nat), e = .returned (.pointer (some ⟨b, 0, none⟩)) ∧ Aut.Cls M f ∧ AutIs w' b g (Aut.least M f) ∧ AutIs w' a g M ∧ w.heap.size ≤ b ∧ Touch a w w' := by
  obtain ⟨o, h⟩ := h
  refine calls_ret (vc46_calls (some ⟨a, 0, none⟩) w (fun u w' => ∃ (b : Nat) (f : Nat → Nat), u = .pointer (some ⟨b, 0, none⟩) ∧ Aut.Cls M f ∧ AutIs w' b g (Aut.least M f) ∧ AutIs w' a g M ∧ w.heap.size ≤ b ∧ Touch a w w') ?_) (by rintro v w' ⟨b, f, rfl, h⟩; exact ⟨b, f, rfl, h⟩)
  refine CondP.no rfl ((alike_spec w a g M o h hN hn).mono ?_)
  rintro e w1 ⟨of, f, rfl, _, hofn, hofr, hA, t1⟩
  have hc : Aut.Cls M f := by
    obtain ⟨_, _, _, _, _, _, _, _, h, _⟩ := hA
    exact h
  obtain ⟨next, good, of', rs0, d, hblk, hM⟩ := hA.blk
  have hok := hM.ok
  have hal := hA.lt
  refine ⟨_, _, _, rfl, ?_⟩
  intro w2 hw2
  refine box_store hw2 rfl ?_
  intro w3 o3 b3
  have hM3 := hM.on b3
  refine (met_spec w3 a (held_on b3 hblk) M next good rs0 hM3 rfl hN hn _ f hc.lt fun s hs z hz => callG_of (by kernel_rfl) (leastKey_spec z w1.heap.size of f M.N (held_on hz o3) hofn ((hofr.on b3).on hz) s hs)).mono ?_
  rintro e w4 ⟨l, m, rfl, hln, hlo, hm, b4⟩
  have hb4 := below_then b3 b4
  have hA4 := hA.on hb4
  refine ⟨_, _, _, _, rfl, NilC.mk _ rfl ⟨_, by rw [acell (held_on hb4 hblk)]; rfl, ?_⟩⟩
  intro w5 hw5
  have b5 : Below w4.heap.size w4 w5 := by subst hw5; exact below_alloc _ _
  obtain ⟨M', hM'⟩ : ∃ M', M' = Aut.least M f := ⟨_, rfl⟩
  have hok' : M'.Ok := by rw [hM']; exact Aut.least_ok hok hc.lt
  have hN' : M'.N = (metL M f).length := by rw [hM']; rfl
  have hn' : M'.n = M.n := by rw [hM']; rfl
  have hfew := Aut.met_few hok hc.lt M.N
  change (metL M f).length ≤ M.N at hfew
  have start : AutB w5 w4.heap.size w4.heap.size g M' sl0 sl0 [] 0 0 := ⟨by subst hw5; exact alloc_new _ _, own_none _ _ _ _ encS, rfl, (by intro i r h; cases h), own_none _ _ _ _ encB1⟩
  have hl1 : w1.heap.size < w4.heap.size := (Array.getElem?_eq_some_iff.1 (held_on b4 o3)).1
  intro I hI
  let Inv (p : Nat) (q : World) : Prop := ∃ nx gd rs, AutB q w4.heap.size w4.heap.size g M' nx gd rs p p ∧ Below w4.heap.size w4 q
  have key := climb2 (α := World) M'.N Inv (fun p q => I [.int .i64 (p : Int)] q) w5 ⟨sl0, sl0, [], start, b5⟩ ?_ ?_
  · exact key
  · rintro p hp ih q ⟨nx, gd, rs, R, hB⟩
    have hpl : p < (metL M f).length := by omega
    obtain ⟨s, hs⟩ : ∃ s, s = (metL M f)[p] := ⟨_, rfl⟩
    have hsN : s < M.N := by rw [hs]; exact (Aut.met_mid hok f).lt _ (List.getElem_mem hpl)
    have hsD : (metL M f).getD p 0 = s := by rw [Aut.getD_at hpl, hs]
    have hnxt : ∀ k, M'.nxt p k = ((metL M f).map f).idxOf (f (M.nxt s k)) := by
      intro k
      rw [hM']
      show ((metL M f).map f).idxOf (f (M.nxt ((metL M f).getD p 0) k)) = _
      rw [hsD]
    have hgd : M'.good p = M.good s := by
      rw [hM']
      show M.good ((metL M f).getD p 0) = _
      rw [hsD]
    have hlsq := (LsAt.of_own elInt (xs := (metL M f).map fun i : Nat => (i : Int)) hlo).r.on hB
    obtain ⟨p0, hp0, c0⟩ := cell_rw hlsq (show p < ((metL M f).map fun i : Nat => (i : Int)).length by simpa using hpl) (v := .int .i64 ((s : Nat) : Int)) (by simp [encInt, hs])
    have hrl : s < rs0.length := by rw [hM.rl]; exact hsN
    have hMq := (hM.on hb4).on hB
    have hbq := held_on hB (held_on hb4 hblk)
    obtain ⟨p2, hp2, c2, hrn, _⟩ := hMq.rowAt hsN hrl
    have hnl := hM.len
    refine hI _ _ (CondP.yes (decide_eq_true (by omega)) (NilC.mk p0 hp0 ⟨by omega, by omega, _, c0, NilC.mk _ rfl ⟨_, _, _, by rw [acell hbq]; rfl, NilC.mk p2 hp2 ⟨by omega, by omega, _, _, _, c2, ?_⟩⟩⟩))
    intro I2 hI2
    have key2 := climb2 (α := Sl × World) M.n (fun k y => y.2.ownsRow q.heap.size tInt 1 y.1.v y.1.n (nat1 ((List.range k).map (M'.nxt p))) ∧ y.1.n = k ∧ Below q.heap.size q y.2) (fun k y => I2 [.int .i64 (k : Int), y.1.v] y.2) (sl0, q) ⟨own_none _ _ _ _ encInt, rfl, Below.refl _ _⟩ ?_ ?_
    · exact key2
    · rintro k hk ih2 ⟨t, z⟩ ⟨hto, htn, hBz⟩
      change z.ownsRow q.heap.size tInt 1 t.v t.n _ at hto
      change t.n = k at htn
      change Below q.heap.size q z at hBz
      have hB4z : Below w4.heap.size w4 z := below_then hB hBz
      obtain ⟨_, _, _, _, hrr⟩ := (hMq.on hBz).rowAt hsN hrl
      obtain ⟨p3, hp3, c3⟩ := nums_cell hrr hk
      obtain ⟨x, hx⟩ : ∃ x, x = M.nxt s k := ⟨_, rfl⟩
      have hxN : x < M.N := by rw [hx]; exact hok.lt s k hsN hk
      rw [← hx] at c3
      have oz := held_on hB4z (held_on b4 o3)
      obtain ⟨p4, hp4, c4⟩ := nums_cell (((hofr.on b3).on b4).on hB4z) hxN
      have hmem : f x ∈ (metL M f).map f := by
        rw [hx]
        exact Aut.met_in hok hc.lt (j := p) (by rw [List.getElem?_eq_getElem hpl, hs]) hk
      have hlk := run_look1 keysI undMii zeroInt (hm.on hB4z) ((f x : Nat) : Int)
      rw [look_mmap, idxOf_of hmem] at hlk
      refine hI2 _ t.a t.n t.c z (CondP.yes (decide_eq_true (by omega)) (NilC.mk p3 hp3 ⟨by omega, by omega, _, c3, _, _, _, cell1 oz, NilC.mk p4 hp4 ⟨by omega, by omega, _, c4, _, z, hlk, ?_⟩⟩))
      intro z1 hz1
      obtain ⟨t', z2, e1, e2, e3, e4, _⟩ := elInt.push (xs := ((List.range k).map (M'.nxt p)).map fun i : Nat => (i : Int)) hto ((((metL M f).map f).idxOf (f x) : Nat) : Int) hz1 rfl hBz.size (by omega) (by decide)
      refine ⟨t'.a, t'.n, t'.c, z2, e2, Ar.nat (k + 1) rfl (by omega) (ih2 (t', z2) ⟨?_, by show t'.n = k + 1; omega, e4 _ hBz⟩)⟩
      rw [List.range_succ, List.map_append, List.map_cons, List.map_nil, nat1_snoc, hnxt k, ← hx]
      exact e3
    · rintro ⟨t, z⟩ ⟨hto, htn, hBz⟩
      change z.ownsRow q.heap.size tInt 1 t.v t.n _ at hto
      change Below q.heap.size q z at hBz
      have hB4z : Below w4.heap.size w4 z := below_then hB hBz
      have Rz := R.on hBz
      rw [← hn'] at hto
      refine hI2 _ t.a t.n t.c z (CondP.no (decide_eq_false (by omega)) ⟨_, _, _, by rw [cell_put Rz.blk]; rfl, ?_⟩)
      intro z1 hz1
      obtain ⟨nx', z2, e2, u2, f2, k2⟩ := Rz.pushRow (Nat.le_refl _) (own_base hto hB.size) hz1 hB4z.size (by omega)
      refine ⟨nx'.a, nx'.n, nx'.c, z2, e2, rfl, u2, f2, ?_⟩
      intro z3 hz3
      obtain ⟨R3, bz3, _⟩ := k2 z3 hz3
      have hB3 := bz3 _ hB4z
      intro z4 hz4
      have b34 : Below z3.heap.size z3 z4 := by subst hz4; exact drew_on z3
      have R4 := R3.on b34
      have hB4' := below_then hB3 b34
      have hM4 := (hM.on hb4).on hB4'
      obtain ⟨p5, hp5, c5⟩ := hM4.good hsN
      refine ⟨_, _, _, by rw [cell_put R4.blk]; rfl, NilC.mk _ rfl ⟨_, _, _, by rw [acell (held_on hB4' (held_on hb4 hblk))]; rfl, NilC.mk p5 hp5 ⟨by omega, by omega, _, c5, ?_⟩⟩⟩
      intro z5 hz5
      obtain ⟨gd', z6, e6, u6, f6, k6⟩ := R4.pushGood (Nat.le_refl _) hgd.symm hz5 hB4'.size (by omega)
      have b45 : Below z4.heap.size z4 z5 := by subst hz5; exact below_alloc _ _
      refine ⟨⟨by rw [cell_put (R4.on b45).blk]; rfl, trivial⟩, gd'.a, gd'.n, gd'.c, z6, e6, rfl, u6, f6, ?_⟩
      intro z7 hz7
      obtain ⟨R7, bz7⟩ := k6 z7 hz7
      exact Ar.nat (p + 1) rfl (by omega) (ih z7 ⟨nx', gd', _, R7, bz7 _ hB4'⟩)
  · rintro q ⟨nx, gd, rs, R, hB⟩
    have hw1 : w.heap.size ≤ w1.heap.size := t1.size
    refine hI _ _ (CondP.no (decide_eq_false (by omega)) ⟨w4.heap.size, f, rfl, hc, ⟨none, ?_⟩, ⟨_, hA4.on hB⟩, by omega, (t1.trans (Touch.of_below hb4)).trans (Touch.of_below hB)⟩)
    rw [← hM']
    exact R.done hok'
end Go.Proofs.YtboemnagahmlkaaGreat.Eng

/- Sorting short rising lists, what is reached, and a list of one thing again and again; walked by the engine. -/
set_option linter.unusedVariables false
set_option linter.unusedSimpArgs false
set_option maxRecDepth 100000
namespace Go.Proofs.YtboemnagahmlkaaGreat.Eng
open Go Go.RowKit
/-! ### A rising list is sorted -/
section
variable {A : Option Addr} {C : Nat} {l : List Int}
end
/-! ### What is reached -/
/-! ### One thing again and again -/
theorem mul1_spec (c : Nat) (hc : c < 4294967296) (w : World) : Calls Tryz.prog 115 #[.int .u64 1, .int .u64 (c : Int)] w fun e w' => e = .returned (.tuple #[.int .u64 0, .int .u64 (c : Int)]) ∧ w' = w := by
  have hm : Calls Tryz.prog 167 #[.int .u64 1, .int .u64 (c : Int)] w fun e w' => e = .returned (.tuple #[.int .u64 0, .int .u64 (c : Int)]) ∧ w' = w := by
    refine calls_ret (vc167_calls 1 c w (fun u w' => u = .tuple #[.int .u64 0, .int .u64 (c : Int)] ∧ w' = w) ?_) (by rintro v w' ⟨rfl, h⟩; exact ⟨rfl, h⟩)
    unfold vc167 Ar
    have a1 : IntKind.wrap .u64 ((BitVec.ofInt (IntKind.bits .u64) (1 : Int) &&& BitVec.ofInt (IntKind.bits .u64) 4294967295).toNat : Int) = 1 := by decide
    have a2 : IntKind.wrap .u64 ((BitVec.ofInt (IntKind.bits .u64) (c : Int) &&& BitVec.ofInt (IntKind.bits .u64) 4294967295).toNat : Int) = (c : Int) := by
      have := and_m c 4294967295 (by omega) (by decide)
      rw [show (c &&& 4294967295 : Nat) = c from by have := Nat.and_two_pow_sub_one_eq_mod c 32; rw [show (2 ^ 32 - 1 : Nat) = 4294967295 by decide] at this; rw [this]; exact Nat.mod_eq_of_lt hc] at this
      exact this
    have a3 : Int.fdiv (1 : Int) (2 ^ (min (32 : Int).toNat (IntKind.bits .u64))) = 0 := by decide
    have a4 : Int.fdiv (c : Int) (2 ^ (min (32 : Int).toNat (IntKind.bits .u64))) = 0 := by
      have := sh_k c 32 (by decide)
      rw [show c / 2 ^ 32 = 0 from Nat.div_eq_of_lt hc] at this
      exact this
    have wc : IntKind.wrap .u64 (c : Int) = (c : Int) := wrap_u64 c (by omega)
    have w0 : IntKind.wrap .u64 (0 : Int) = 0 := by decide
    have z0 : Int.fdiv (0 : Int) (2 ^ (min (32 : Int).toNat (IntKind.bits .u64))) = 0 := by decide
    have z1 : IntKind.wrap .u64 ((BitVec.ofInt (IntKind.bits .u64) (0 : Int) &&& BitVec.ofInt (IntKind.bits .u64) 4294967295).toNat : Int) = 0 := by decide
    simp only [a1, a2, a3, a4, Int.one_mul, Int.zero_mul, Int.mul_zero, Int.zero_add, Int.add_zero, wc, w0, z0, z1]
    repeat first | trivial | exact ⟨rfl, rfl⟩ | refine ⟨by decide, ?_⟩
  refine calls_ret (vc115_calls 1 c w (fun u w' => u = .tuple #[.int .u64 0, .int .u64 (c : Int)] ∧ w' = w) ?_) (by rintro v w' ⟨rfl, h⟩; exact ⟨rfl, h⟩)
  refine hm.mono ?_
  rintro e w1 ⟨rfl, hw⟩
  exact ⟨_, _, rfl, rfl, hw⟩
theorem setRow_below {B g : Nat} {w0 w : World} (hb : Below B w0 w) (hg : B ≤ g) (cs : Array Value) : Below B w0 (w.setRow g cs) :=
  hb.trans ⟨rfl, rfl, rfl, by rw [size_setRow]; exact Nat.le_refl _, fun k hk => setRow_other w g k cs (by omega)⟩
theorem repeat_spec (w : World) (A : Option Addr) (C N : Nat) (h1 : 1 ≤ C) (hx : Rw encB1 1 w A [true]) (hN : 1 ≤ N) (hN2 : N ≤ 1000000) :
    Calls Tryz.prog 82 #[.slice A 1 C, .int .i64 (N : Int)] w fun e w' => ∃ l : Sl, e = .returned l.v ∧ l.n = N ∧ w'.ownsRow w.heap.size tBool 1 l.v l.n ((List.replicate N true).flatMap encB1) ∧ Below w.heap.size w w' := by
  refine calls_ret (vc82_calls A 1 C N w (fun u w' => ∃ l : Sl, u = l.v ∧ l.n = N ∧ w'.ownsRow w.heap.size tBool 1 l.v l.n ((List.replicate N true).flatMap encB1) ∧ Below w.heap.size w w') ?_) (by rintro v w' ⟨l, rfl, h⟩; exact ⟨l, rfl, h⟩)
  intro J1 hJ1
  refine CondP.no (decide_eq_false (by omega)) (hJ1 _ ?_)
  have hwN : IntKind.wrap .u64 (N : Int) = (N : Int) := wrap_u64 N (by omega)
  rw [hwN]
  refine (mul1_spec N (by omega) w).mono ?_
  rintro e w1 ⟨rfl, hw⟩
  subst w1
  refine ⟨_, _, rfl, ?_⟩
  intro J2 hJ2
  refine CondP.no rfl (CondP.no (decide_eq_false (by omega)) (hJ2 _ ?_))
  have hwi : IntKind.wrap .i64 (N : Int) = (N : Int) := wrap_in (by show (-9223372036854775808 : Int) ≤ _; omega) (by show _ ≤ (9223372036854775807 : Int); omega)
  rw [hwi]
  refine ⟨_, _, _, _, run_makeBools w N hN2, ?_⟩
  have b1 := below_alloc w (.cells (Array.replicate N (.bool false)) tBool)
  have o1 : (w.alloc (.cells (Array.replicate N (.bool false)) tBool)).heap[w.heap.size]? = some (.cells (Array.replicate N (.bool false)) tBool (0, 0)) := alloc_new _ _
  obtain ⟨w1, hw1⟩ : ∃ w1, w1 = w.alloc (.cells (Array.replicate N (.bool false)) tBool) := ⟨_, rfl⟩
  rw [← hw1] at b1 o1
  rw [← hw1]
  let cur (m : Nat) : List Value := List.replicate m (.bool true) ++ List.replicate (N - m) (.bool false)
  have clen : ∀ m, m ≤ N → (cur m).length = N := by intro m hm; simp [cur]; omega
  have info1 : (Tryz.prog.info? tBool).map (·.size) = some 1 := by
    obtain ⟨i, hi, _, hs, _⟩ := infoBool
    rw [hi]
    exact congrArg some hs
  have hst : ∀ (q : World) (m k : Nat), m + k ≤ N → q.heap[w.heap.size]? = some (.cells (cur m).toArray tBool (0, 0)) → (q.setRow w.heap.size (((cur m).toArray.toList.take m ++ List.replicate k (Value.bool true)) ++ (cur m).toArray.toList.drop (m + (List.replicate k (Value.bool true)).length)).toArray).heap[w.heap.size]? = some (.cells (cur (m + k)).toArray tBool (0, 0)) := by
    intro q m k hm hq
    rw [setRow_heap _ _ _ _ _ _ hq]
    congr 3
    simp only [cur, List.length_replicate]
    rw [List.take_append_of_le_length (by simp), List.take_of_length_le (by simp), List.drop_append, List.length_replicate, List.drop_eq_nil_of_le (by simp), List.nil_append, List.drop_replicate, List.replicate_append_replicate]
    congr 2
    omega
  have k1 : w1.heap[w.heap.size]? = some (.cells (cur 0).toArray tBool (0, 0)) := by
    rw [o1, show (cur 0).toArray = Array.replicate N (.bool false) by simp [cur]]
  obtain ⟨p, hp, _, hc⟩ := (hx.on b1) 0 true rfl
  have c0 := hc 0 _ rfl
  rw [Nat.zero_mul, add_zero, add_zero] at c0
  subst hp
  have cp1 := run_copy_row Tryz.prog w1 tBools tBools tInt tBool w.heap.size 0 N N p 1 C (cur 0).toArray tBool (List.replicate 1 (.bool true)) undBls info1 k1 (by rw [List.length_replicate]; show 1 = min 1 N; omega) (by
    intro j v hj
    match j, hj with
    | 0, hj => cases hj; rw [add_zero]; exact c0) (by simp [clen 0 (Nat.zero_le _)]; omega) (by intro v hv; simp at hv; subst hv; rfl)
  have k2 := hst w1 0 1 (by omega) k1
  refine ⟨_, _, cp1, ?_⟩
  intro I hI
  have loop : ∀ (d m : Nat) (q : World), N - m ≤ d → 1 ≤ m → m ≤ N → q.heap[w.heap.size]? = some (.cells (cur m).toArray tBool (0, 0)) → Below w.heap.size w q → I [.int .i64 (m : Int)] q := by
    have fin : ∀ (q : World), q.heap[w.heap.size]? = some (.cells (cur N).toArray tBool (0, 0)) → Below w.heap.size w q → I [.int .i64 (N : Int)] q := by
      intro q hq hB
      refine hI _ _ (CondP.no (decide_eq_false (by omega)) ⟨⟨some (nb w), N, N⟩, rfl, rfl, ⟨by simp [encB1], .inr ⟨w.heap.size, N, _, rfl, Nat.le_refl _, hq, Nat.le_refl _, by unfold maxLen; omega, by simp [cur], ?_⟩⟩, hB⟩)
      simp [cur, encB1, List.flatMap_replicate]
    intro d
    induction d with
    | zero =>
      intro m q hd h1m hmN hq hB
      obtain rfl : m = N := by omega
      exact fin q hq hB
    | succ d ihd =>
      intro m q hd h1m hmN hq hB
      by_cases e : m = N
      · subst e; exact fin q hq hB
      obtain ⟨k, hk⟩ : ∃ k, k = min m (N - m) := ⟨_, rfl⟩
      have hkp : 1 ≤ k ∧ m + k ≤ N ∧ k ≤ m := by omega
      refine hI _ _ (CondP.yes (decide_eq_true (by omega)) ?_)
      intro q1 hq1
      have bq : Below q.heap.size q q1 := by subst hq1; exact drew_on q
      have hq' := held_on bq hq
      have hB1 := below_then hB bq
      refine ⟨by omega, by omega, trivial, trivial, trivial, by omega, by omega, by omega, trivial, trivial, ?_⟩
      have es : slBase (some (nb w)) ((m : Int)).toNat (((N : Nat) : Int)).toNat 1 = some ⟨w.heap.size, m, none⟩ := by
        unfold slBase
        rw [if_neg (by omega)]
        show some ((nb w).add (m * 1)) = _
        rw [add_lit, Nat.mul_one, Nat.zero_add]
      have ed : slBase (some (nb w)) (0 : Int).toNat (((N : Nat) : Int)).toNat 1 = some ⟨w.heap.size, 0, none⟩ := by
        unfold slBase
        rw [if_neg (by omega)]
        show some ((nb w).add (0 * 1)) = _
        rw [Nat.zero_mul, add_zero]
      rw [es, ed]
      have cp := run_copy_row Tryz.prog q1 tBools tBools tInt tBool w.heap.size m (((N : Nat) : Int).toNat - (m : Int).toNat) (((N : Nat) : Int).toNat - (m : Int).toNat) ⟨w.heap.size, 0, none⟩ ((m : Int).toNat - (0 : Int).toNat) (((N : Nat) : Int).toNat - (0 : Int).toNat) (cur m).toArray tBool (List.replicate k (.bool true)) undBls info1 hq' (by
        rw [List.length_replicate, hk]
        show min m (N - m) = min (m - 0) (N - m)
        rw [Nat.sub_zero]) (by
        intro j v hj
        rw [List.getElem?_replicate] at hj
        split at hj
        · next hjk =>
          cases hj
          rw [ptr_add0 _ _ hq']
          simp only [List.getElem?_toArray, cur]
          rw [List.getElem?_append_left (by simp; omega), List.getElem?_replicate, if_pos (by omega)]
        · cases hj) (by simp [clen m hmN]; omega) (by intro v hv; rw [(List.mem_replicate.1 hv).2]; rfl)
      have k3 := hst q1 m k (by omega) hq'
      refine ⟨_, _, cp, ?_⟩
      rw [List.length_replicate]
      refine Ar.nat (m + k) (by omega) (by omega) (ihd (m + k) _ (by omega) (by omega) (by omega) ?_ (setRow_below hB1 (Nat.le_refl _) _))
      rw [List.length_replicate] at k3
      exact k3
  exact loop N 1 _ (by omega) (Nat.le_refl _) hN k2 (setRow_below b1 (Nat.le_refl _) _)
end Go.Proofs.YtboemnagahmlkaaGreat.Eng
