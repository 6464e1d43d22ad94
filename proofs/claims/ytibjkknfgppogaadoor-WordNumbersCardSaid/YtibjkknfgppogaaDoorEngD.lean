/- The engine's fourth part: an operation does what its obligation asks for. -/
import Derived.Test.YtibjkknfgppogaaDoorEngC
set_option linter.unusedVariables false
set_option linter.unusedSimpArgs false
namespace Go.Proofs.YtibjkknfgppogaaDoor.Eng
open Go

theorem run_isAgg {P : Program} {t : TypeId} {b : Bool} (h : (P.underlying t).map aggDesc = some b) (w : World) : (isAgg t).run P w = .ok b w := by
  obtain ⟨d, hd, rfl⟩ := Option.map_eq_some_iff.1 h
  unfold isAgg
  cases d <;> simp [run_underlying hd, Result.andThen, aggDesc]
theorem run_sizeOf' {P : Program} {t : TypeId} {n : Nat} (h : (P.info? t).map (·.size) = some n) (w : World) : (sizeOf t).run P w = .ok n w := by
  obtain ⟨d, hd, rfl⟩ := Option.map_eq_some_iff.1 h
  simp [sizeOf, typeInfo, hd, Result.andThen]
theorem run_zero' {P : Program} {t : TypeId} {v : Value} (h : (P.info? t).map (·.zero) = some (some v)) (w : World) : (zeroValue t).run P w = .ok v w := by
  obtain ⟨d, hd, hz⟩ := Option.map_eq_some_iff.1 h
  simp [zeroValue, typeInfo, hd, hz, Result.andThen]
theorem run_loadCellsFrom {P : Program} {w : World} {a : Addr} : ∀ (vs : List Value) (i : Nat) (acc : Array Value), CellsAt w a vs i → (loadCellsFrom a i vs.length acc).run P w = .ok (acc ++ vs.toArray) w
  | [], i, acc, _ => by simp [loadCellsFrom]
  | v :: r, i, acc, h => by
    obtain ⟨h1, h2⟩ := h
    simp only [List.length_cons, loadCellsFrom, Sem.run_bind, run_load, h1, Result.andThen]
    rw [run_loadCellsFrom r (i + 1) (acc.push v) h2]
    simp
theorem run_storeCells' {P : Program} {a : Addr} {k : World → Prop} : ∀ (vs : List Value) (i : Nat) (w : World), StoreP w a k vs i → ∃ w', (storeCells a vs i).run P w = .ok () w' ∧ k w'
  | [], i, w, h => ⟨w, by simp [storeCells], h w rfl⟩
  | v :: r, i, w, h => by
    obtain ⟨h1, ⟨u, h2⟩, h3, h4⟩ := h
    obtain ⟨w', hr, hk⟩ := run_storeCells' r (i + 1) _ h4
    refine ⟨w', ?_, hk⟩
    simp only [storeCells, Sem.run_bind, run_store P w _ v _ h1, h2, h3, Result.andThen]
    exact hr
theorem nilOut {p : Option Addr} {k : Addr → Prop} (h : NilC p k) : ∃ a, p = some a ∧ k a := by
  cases p with
  | none => exact h.elim
  | some a => exact ⟨a, rfl, h⟩
theorem bnd_map {n : Nat} {a : Act} {e : Env} (hS : Sim n a e) {x : Option Operand} {d : Nat} {z : Int} (h : bnd e x d = some z) : (x = none ∧ z = d) ∨ (∃ o k, x = some o ∧ a.eval o = .int k z) := by
  cases x with
  | none => simp only [bnd, Option.some.injEq] at h; exact .inl ⟨rfl, h.symm⟩
  | some o =>
    simp only [bnd] at h
    split at h
    · rename_i k m hm
      cases h
      exact .inr ⟨o, k, rfl, hS.ev hm⟩
    · cases h
theorem run_bound {P : Program} {k : IntKind} {i : Int} {y : Nat} {code : BoundsCode} (h0 : 0 ≤ i) (h1 : i ≤ y) (w : World) : (Instr.sliceBound (.int k i) y code).run P w = .ok i.toNat w := by
  simp [Instr.sliceBound, asIntOf, Result.andThen, h0, h1]

def unitKind : Op → Bool
  | .store .. => true
  | .mapUpdate .. => true
  | .insert .. => true
  | .entryStore .. => true
  | _ => false
def DoesVal (P : Program) (o : Oper) (a : Act) (w : World) (K : Value → World → Prop) : Prop :=
  (∃ v w', (execOp a.eval o).run P w = .ok (.value v) w' ∧ K v w') ∨ (unitKind o.op = true ∧ ∃ w', (execOp a.eval o).run P w = .ok .skip w' ∧ K undef w')
theorem doesRaw {P : Program} {o : Oper} {a : Act} {w : World} {K : Value → World → Prop} {rs : Option Rs} {s : Sem Value} (h : Raw P s rs w K) (he : execOp a.eval o = (do pure (.value (← s)))) : DoesVal P o a w K := by
  obtain ⟨v, w', hr, hk⟩ := rawOut h
  exact .inl ⟨v, w', by rw [he]; simp [hr, Result.andThen], hk⟩
theorem doesRawU {P : Program} {o : Oper} {a : Act} {w : World} {K : Value → World → Prop} {s : Sem Unit} (h : RawU P s w K) (hu : unitKind o.op = true) (he : execOp a.eval o = (do s; pure .skip)) : DoesVal P o a w K := by
  obtain ⟨w', hr, hk⟩ := h
  exact .inr ⟨hu, w', by rw [he]; simp [hr, Result.andThen], hk⟩

theorem newVar_run {P : Program} (t : TypeId) (v : Value) (w : World) : (newVar t v).run P w = .ok ⟨w.heap.size, 0, none⟩ (w.alloc (.cells v.cells t)) := by
  simp only [newVar, newRow, Sem.run_bind, run_newObj, Result.andThen, Sem.run_pure]; rfl
theorem newRow_run {P : Program} (t : TypeId) (c : Array Value) (w : World) : (newRow t c).run P w = .ok ⟨w.heap.size, 0, none⟩ (w.alloc (.cells c t)) := by
  simp only [newRow, Sem.run_bind, run_newObj, Result.andThen, Sem.run_pure]; rfl

section
variable {C : Ctx} {n : Nat} {a : Act} {e : Env} {w : World} {K : Value → World → Prop}
theorem does_field (hC : C.Ok) (hS : Sim n a e) (o : Oper) {t : TypeId} {x : Operand} {f : Nat} (ho : o.op = .field t x f) (h : denVal C o e w K) : DoesVal C.P o a w K := by
  simp only [denVal, ho] at h
  split at h
  · rename_i cs l hx hl
    obtain ⟨fs, hu, hm⟩ := (hC.ty t).offs _ hl
    have hex : execOp a.eval o = (do pure (.value (← Instr.field t (a.eval x) f))) := by simp only [execOp, ho]
    rw [listGet_eq] at h
    have hg : ∀ y, l[f]? = some y → ∃ fd, fs[f]? = some fd ∧ fd.offset = y.1 ∧ (C.P.info? fd.type).map (·.size) = some (y.2.1 + 1) ∧ (C.P.underlying fd.type).map aggDesc = some y.2.2 := by
      intro y hy
      have := congrArg (·[f]?) hm
      simp only [List.getElem?_map, hy, Option.map_some] at this
      obtain ⟨fd, hfd, he⟩ := Option.map_eq_some_iff.1 this
      simp only [Prod.mk.injEq] at he
      exact ⟨fd, by simpa using hfd, he.1, he.2.1, he.2.2⟩
    split at h
    · rename_i off s hy
      obtain ⟨fd, hfd, h1, h2, h3⟩ := hg _ hy
      refine .inl ⟨_, _, ?_, h⟩
      rw [hex]
      simp [Instr.field, run_underlying hu, Result.andThen, hfd, hS.ev hx, asAgg, part, run_isAgg h3, run_sizeOf' h2]
      rw [show fd.offset = off from h1]
      apply Array.toList_inj.1
      simp [Array.toList_extract, List.extract_eq_take_drop]
    · rename_i off s hy
      obtain ⟨fd, hfd, h1, h2, h3⟩ := hg _ hy
      rw [listGet_eq] at h
      split at h
      · rename_i v hv
        refine .inl ⟨_, _, ?_, h⟩
        rw [hex]
        have hv' : cs[fd.offset]? = some v := by rw [h1]; simpa using hv
        simp [Instr.field, run_underlying hu, Result.andThen, hfd, hS.ev hx, asAgg, part, run_isAgg h3, hv']
      · exact h.elim
    · exact h.elim
  · exact h.elim
theorem does_fieldAddr (hC : C.Ok) (hS : Sim n a e) (o : Oper) {t : TypeId} {x : Operand} {f : Nat} (ho : o.op = .fieldAddr t x f) (h : denVal C o e w K) : DoesVal C.P o a w K := by
  simp only [denVal, ho] at h
  split at h
  · rename_i p l hx hl
    obtain ⟨ad, rfl, h⟩ := nilOut h
    obtain ⟨fs, hu, hm⟩ := (hC.ty t).offs _ hl
    rw [listGet_eq] at h
    split at h
    · rename_i y hy
      have := congrArg (·[f]?) hm
      simp only [List.getElem?_map, hy, Option.map_some] at this
      obtain ⟨fd, hfd, he⟩ := Option.map_eq_some_iff.1 this
      simp only [Prod.mk.injEq] at he
      obtain ⟨h1, h2, h3⟩ := he
      refine .inl ⟨_, _, ?_, h⟩
      have hfd' : fs[f]? = some fd := by simpa using hfd
      simp [execOp, ho, hS.ev hx, Instr.fieldAt, run_underlying hu, Result.andThen, hfd', Instr.sureAddr, fieldPlace, run_sizeOf' h2, h1]
    · exact h.elim
  · exact h.elim
theorem does_slice (hC : C.Ok) (hS : Sim n a e) (o : Oper) {t : TypeId} {x : Operand} {lo hi mx : Option Operand} (ho : o.op = .slice t x lo hi mx) (h : denVal C o e w K) : DoesVal C.P o a w K := by
  simp only [denVal, ho] at h
  have hex : execOp a.eval o = (do pure (.value (← Instr.sliceAt t (a.eval x) (lo.map a.eval) (hi.map a.eval) (mx.map a.eval)))) := by simp only [execOp, ho]
  split at h
  · rename_i s hx
    split at h
    · rename_i l hh hs hl hhh
      obtain ⟨h0, h1, h2, hk⟩ := h
      have hu := (hC.ty t).isStr hs
      refine .inl ⟨_, _, ?_, hk⟩
      rw [hex, hS.ev hx]
      rcases bnd_map hS hl with ⟨rfl, rfl⟩ | ⟨ol, kl, rfl, hel⟩ <;> rcases bnd_map hS hhh with ⟨rfl, rfl⟩ | ⟨oh, kh, rfl, heh⟩
      · simp [Instr.sliceAt, Instr.slice, run_underlying hu, Result.andThen, Instr.sliceBounds]
      · simp [Instr.sliceAt, Instr.slice, run_underlying hu, Result.andThen, Instr.sliceBounds, heh, run_bound (by omega : 0 ≤ hh) h2]
      · simp [Instr.sliceAt, Instr.slice, run_underlying hu, Result.andThen, Instr.sliceBounds, hel, run_bound h0 h1]
      · have h3 : l ≤ ((hh.toNat : Nat) : Int) := by omega
        simp [Instr.sliceAt, Instr.slice, run_underlying hu, Result.andThen, Instr.sliceBounds, heh, run_bound (by omega : 0 ≤ hh) h2, hel, run_bound h0 h3]
    · exact h.elim
  · rename_i p len cap hx
    split at h
    · rename_i et es l hh m hs hl hhh hmm
      obtain ⟨h0, h1, h2, h3, h4, hk⟩ := h
      obtain ⟨hu, hsz⟩ := (hC.ty t).slc _ _ hs
      refine .inl ⟨_, _, ?_, hk⟩
      rw [hex, hS.ev hx]
      have hsz' := run_sizeOf' hsz w
      rcases bnd_map hS hmm with ⟨rfl, rfl⟩ | ⟨om, km, rfl, hem⟩ <;> rcases bnd_map hS hhh with ⟨rfl, rfl⟩ | ⟨oh, kh, rfl, heh⟩ <;>
        rcases bnd_map hS hl with ⟨rfl, rfl⟩ | ⟨ol, kl, rfl, hel⟩ <;> simp only at h2 h3 h4
      · simp [Instr.sliceAt, Instr.slice, run_underlying hu, Result.andThen, Instr.sliceBounds, hsz', slBase]
      · simp [Instr.sliceAt, Instr.slice, run_underlying hu, Result.andThen, Instr.sliceBounds, hsz', slBase, hel, run_bound h0 h1]
      · simp [Instr.sliceAt, Instr.slice, run_underlying hu, Result.andThen, Instr.sliceBounds, hsz', slBase, heh, run_bound (by omega : 0 ≤ hh) h2]
      · have h3 : l ≤ ((hh.toNat : Nat) : Int) := by omega
        simp [Instr.sliceAt, Instr.slice, run_underlying hu, Result.andThen, Instr.sliceBounds, hsz', slBase, heh, run_bound (by omega : 0 ≤ hh) h2, hel, run_bound h0 h3]
      · have h2' : hh ≤ ((m.toNat : Nat) : Int) := by omega
        simp [Instr.sliceAt, Instr.slice, run_underlying hu, Result.andThen, Instr.sliceBounds, hsz', slBase, hem, run_bound (by omega : 0 ≤ m) h3, heh, run_bound (by omega : 0 ≤ hh) h2']
      · have h2' : hh ≤ ((m.toNat : Nat) : Int) := by omega
        have h3' : l ≤ ((hh.toNat : Nat) : Int) := by omega
        simp [Instr.sliceAt, Instr.slice, run_underlying hu, Result.andThen, Instr.sliceBounds, hsz', slBase, hem, run_bound (by omega : 0 ≤ m) h3, heh, run_bound (by omega : 0 ≤ hh) h2', hel, run_bound h0 h3']
    · exact h.elim
  · exact h.elim
theorem denVal_does (hC : C.Ok) (hS : Sim n a e) (o : Oper) (h : denVal C o e w K) : DoesVal C.P o a w K := by
  cases ho : o.op
  case field t x f => exact does_field hC hS o ho h
  case fieldAddr t x f => exact does_fieldAddr hC hS o ho h
  case slice t x lo hi mx => exact does_slice hC hS o ho h
  all_goals simp only [denVal, ho] at h
  case move x =>
    split at h
    · rename_i v hv; exact .inl ⟨v, w, by simp [execOp, ho, hS.ev hv], h⟩
    · exact h.elim
  case assign x =>
    split at h
    · rename_i v hv; exact .inl ⟨v, w, by simp [execOp, ho, hS.ev hv], h⟩
    · exact h.elim
  case pick c x y =>
    split at h
    · rename_i b u v hc hx hy
      cases b
      · exact .inl ⟨v, w, by simp [execOp, ho, hS.ev hc, hS.ev hy, asBool, Result.andThen], h⟩
      · exact .inl ⟨u, w, by simp [execOp, ho, hS.ev hc, hS.ev hx, asBool, Result.andThen], h⟩
    · exact h.elim
  case alloc t =>
    split at h
    · rename_i z hz
      exact .inl ⟨_, _, by simp [execOp, ho, Instr.alloc, run_zero' ((hC.ty t).zero _ hz), newVar_run, Result.andThen], h _ rfl⟩
    · exact h.elim
  case box t x =>
    split at h
    · rename_i v hv
      exact .inl ⟨_, _, by simp [execOp, ho, Instr.box, hS.ev hv, newVar_run, Result.andThen], h _ rfl⟩
    · exact h.elim
  case build t ps =>
    have hps : ∀ vs, evps e ps.toList = some vs → (ps.map fun (i, x) => (i, a.eval x)) = vs.toArray := fun vs hv => by
      apply Array.toList_inj.1; simp [← hS.evps hv]
    split at h
    · rename_i arrv z vs l hz hv hl
      split at h
      · rename_i out hout
        obtain ⟨fs, hu, hm⟩ := (hC.ty t).offs _ hl
        have hz' := run_zero' ((hC.ty t).zero _ hz) w
        have hplaces : ∀ (fl : List Field) (ll : List (Nat × Nat × Bool)), fl.map (fun f => (f.offset, (C.P.info? f.type).map (·.size), (C.P.underlying f.type).map aggDesc)) = ll.map (fun x => (x.1, some (x.2.1 + 1), some x.2.2)) →
            (fl.mapM fun f => do pure (f.offset, ← sizeOf f.type) : Sem (List (Nat × Nat))).run C.P w = .ok (ll.map fun x => (x.1, x.2.1 + 1)) w := by
          intro fl
          induction fl with
          | nil => intro ll h; cases ll with | nil => simp | cons _ _ => simp at h
          | cons f fl ih =>
            intro ll h
            cases ll with
            | nil => simp at h
            | cons y ll =>
              simp only [List.map_cons, List.cons.injEq, Prod.mk.injEq] at h
              simp only [List.mapM_cons, Sem.run_bind, Sem.run_pure, Result.andThen, run_sizeOf' h.1.2.1, ih ll h.2, h.1.1, List.map_cons]
        have hpl := hplaces fs.toList l hm
        have hfill := fill_of_lay hout
        refine .inl ⟨_, _, ?_, h⟩
        have hfs : (fs.mapM fun f => do pure (f.offset, ← sizeOf f.type) : Sem (Array (Nat × Nat))).run C.P w = .ok (l.map fun x => (x.1, x.2.1 + 1)).toArray w := by
          rw [Array.mapM_eq_mapM_toList]
          simp only [Sem.run_map, hpl, Result.andThen]
        have hplace : (fun i => (l.map fun x => (x.1, x.2.1 + 1)).toArray[i]?) = offPlace l := by
          funext i
          rw [offPlace_eq]
          simp
        simp only [Array.toArray_toList] at hfill
        simp only [execOp, ho, Instr.build, Sem.run_bind, hz', Result.andThen, run_underlying hu, hfs, hps vs hv]
        rw [hplace, hfill]
        rfl
      · exact h.elim
    · rename_i z vs n s hz hv hoffs harr
      split at h
      · rename_i out hout
        obtain ⟨el, hu, hsz⟩ := (hC.ty t).arr _ _ harr
        have hz' := run_zero' ((hC.ty t).zero _ hz) w
        have hfill := fill_of_lay hout
        refine .inl ⟨_, _, ?_, h⟩
        simp only [Array.toArray_toList] at hfill
        simp only [execOp, ho, Instr.build, hz', Result.andThen, run_underlying hu, run_sizeOf' hsz, hps vs hv, Sem.run_bind]
        rw [show (fun i => some (i * s, s)) = arrPlace s from rfl, hfill]
        rfl
      · exact h.elim
    · exact h.elim
  case buildSlice t m ps =>
    have hps : ∀ vs, evps e ps.toList = some vs → (ps.map fun (i, x) => (i, a.eval x)) = vs.toArray := fun vs hv => by
      apply Array.toList_inj.1; simp [← hS.evps hv]
    split at h
    · exact h.elim
    · rename_i u s hs
      split at h
      · rename_i z vs hz hv
        split at h
        · exact h.elim
        · rename_i hb
          simp only [Bool.and_eq_true] at hb
          have hb1 : m * s ≤ 16777216 := Nat.le_of_ble_eq_true hb.1.1
          have hb2 : 1 ≤ s := Nat.le_of_ble_eq_true hb.1.2
          have hb3 : z.cells.toList.length = s := Nat.eq_of_beq_eq_true hb.2
          split at h
          · rename_i out hout
            obtain ⟨hu, hsz⟩ := (hC.ty t).slc _ _ hs
            have hz' := run_zero' ((hC.ty u).zero _ hz) w
            have hfill := fill_of_lay hout
            have hzs : z.cells.size = s := by simpa using hb3
            have hr := range_zero z.cells m (by omega)
            rw [hzs] at hr
            refine .inl ⟨_, _, ?_, h _ rfl⟩
            have hnot : ¬ m * s > 2 ^ 24 := by omega
            have hcells : ((Array.range (m * s)).map (z.cells[· % z.cells.size]!)) = (repAt z.cells.toList m).toArray := by rw [hzs]; exact hr
            by_cases h0 : m * s = 0
            · have hm0 : m = 0 := by rcases Nat.mul_eq_zero.1 h0 with h | h <;> omega
              subst hm0
              simp only [repAt] at hfill
              have hnil : (Array.map (fun x => (#[] : Array Value)[x % (#[] : Array Value).size]!) (Array.range (0 * s))) = ([] : List Value).toArray := by simp
              simp only [execOp, ho, Instr.buildSlice, Sem.run_bind, run_underlying hu, Result.andThen, run_sizeOf' hsz, if_neg hnot, Sem.run_pure, if_pos h0, hps vs hv]
              rw [show (fun i => some (i * s, s)) = arrPlace s from rfl, hnil, hfill]
              simp [newRow_run, Result.andThen]
            · simp only [execOp, ho, Instr.buildSlice, Sem.run_bind, run_underlying hu, Result.andThen, run_sizeOf' hsz, if_neg hnot, Sem.run_pure, if_neg h0, hz', hps vs hv]
              rw [show (fun i => some (i * s, s)) = arrPlace s from rfl, hcells, hfill]
              simp [newRow_run, Result.andThen]
          · exact h.elim
      · exact h.elim
  case load t x =>
    split at h
    · rename_i p hx
      obtain ⟨ad, rfl, h⟩ := nilOut h
      split at h
      · rename_i l _ hag _
        obtain ⟨v, hv, hk⟩ := exL_out h
        exact .inl ⟨v, w, by simp [execOp, ho, hS.ev hx, Instr.loadAt, Instr.sureAddr, loadVar, run_isAgg ((hC.ty t).agg _ hag), hv, Result.andThen], hk⟩
      · rename_i ls m hag _ hsz
        split at h
        · rename_i hb
          have hb : m = ls.length := Nat.eq_of_beq_eq_true hb
          obtain ⟨vs, hl, hc, hk⟩ := exLs_len h
          have hlc := run_loadCellsFrom (P := C.P) vs 0 #[] hc
          rw [hl, ← hb] at hlc
          refine .inl ⟨_, w, ?_, hk⟩
          simp [execOp, ho, hS.ev hx, Instr.loadAt, Instr.sureAddr, loadVar, run_isAgg ((hC.ty t).agg _ hag), run_sizeOf' ((hC.ty t).size _ hsz), loadCells, hlc, Result.andThen]
        · exact h.elim
      · exact h.elim
    · exact h.elim
  case store t x y =>
    split at h
    · rename_i p v hx hy hag hsz
      obtain ⟨ad, rfl, h⟩ := nilOut h
      have h1 : v.oneCell' = true := h.1
      obtain ⟨w', hr, hk⟩ := run_storeCells' (P := C.P) [v] 0 w h
      have hc : v.cells = #[v] := by cases v <;> first | rfl | simp [Value.oneCell'] at h1
      refine .inr ⟨by rw [ho]; rfl, w', ?_, hk⟩
      simp [execOp, ho, hS.ev hx, hS.ev hy, Instr.storeAt, Instr.sureAddr, storeVar, run_sizeOf' ((hC.ty t).size _ hsz), hc, hr, Result.andThen]
    · rename_i p cs m hx hy hag hsz
      split at h
      · rename_i hb
        have hb : cs.toList.length = m := Nat.eq_of_beq_eq_true hb
        obtain ⟨ad, rfl, h⟩ := nilOut h
        obtain ⟨w', hr, hk⟩ := run_storeCells' (P := C.P) cs.toList 0 w h
        refine .inr ⟨by rw [ho]; rfl, w', ?_, hk⟩
        have hb' : cs.size = m := by simpa using hb
        simp [execOp, ho, hS.ev hx, hS.ev hy, Instr.storeAt, Instr.sureAddr, storeVar, run_sizeOf' ((hC.ty t).size _ hsz), Value.cells, hb', hr, Result.andThen]
      · exact h.elim
    · exact h.elim
  case nilCheck x =>
    split at h
    · rename_i p hx
      obtain ⟨ad, rfl, h⟩ := nilOut h
      exact .inl ⟨_, w, by simp [execOp, ho, hS.ev hx], h⟩
    · rename_i v _ hx
      obtain ⟨h1, h⟩ := h
      refine .inl ⟨v, w, ?_, h⟩
      have hv := hS.ev hx
      cases v with
      | func fn f1 c1 => cases fn with
        | func g => simp [execOp, ho, hv]
        | _ => exact absurd h1 (by simp [okFn])
      | iface t u => simp [execOp, ho, hv]
      | _ => exact absurd h1 (by simp [okFn])
    · exact h.elim
  case binOp op t x y yt =>
    split at h
    · rename_i u v hx hy
      obtain ⟨r, w', hr, hk⟩ := denBin_run hC h
      exact .inl ⟨r, w', by simp only [execOp, ho, hS.ev hx, hS.ev hy]; rw [Sem.run_bind, hr]; rfl, hk⟩
    · exact h.elim
  case unOp op t x =>
    split at h
    · rename_i b hx
      exact .inl ⟨_, w, by simp [execOp, ho, hS.ev hx, Op.unary, Result.andThen], h⟩
    · rename_i k m hx
      exact .inl ⟨.int k (k.wrap (0 - m)), w, by simp [execOp, ho, hS.ev hx, Op.unary, Op.intArith, Result.andThen], h⟩
    · exact h.elim
  case convert s d x =>
    split at h
    · rename_i k m k' ks hx hd hs
      exact .inl ⟨_, w, by simp [execOp, ho, hS.ev hx, convert, run_underlying ((hC.ty d).intk _ hd), run_underlying ((hC.ty s).intk _ hs), Conv.intToInt, Result.andThen], h⟩
    · rename_i v _ _ hx _
      exact doesRaw h (by simp only [execOp, ho, hS.ev hx])
    · exact h.elim
  case makeInterface t x =>
    split at h
    · rename_i v hc hx
      obtain ⟨d, hu, hd⟩ := (hC.ty t).conc hc
      refine .inl ⟨_, w, ?_, h⟩
      simp only [execOp, ho, hS.ev hx, Instr.makeInterface, Sem.run_bind, run_underlying hu, Result.andThen]
      cases d <;> first | rfl | exact absurd rfl (hd _)
    · exact h.elim
  case makeFunc fn first cap =>
    split at h
    · rename_i vs us hv hu
      refine .inl ⟨_, w, ?_, h⟩
      have h1 : first.map a.eval = vs.toArray := by apply Array.toList_inj.1; simp [← hS.evs hv]
      have h2 : cap.map a.eval = us.toArray := by apply Array.toList_inj.1; simp [← hS.evs hu]
      simp [execOp, ho, Instr.makeFunc, h1, h2, Result.andThen]
    · exact h.elim
  case makeMap t r =>
    split at h
    · exact doesRaw h (by simp only [execOp, ho, Option.map_none])
    · rename_i x
      split at h
      · rename_i v hx; exact doesRaw h (by simp only [execOp, ho, Option.map_some, hS.ev hx])
      · exact h.elim
  case makeSlice t l c =>
    split at h
    · rename_i u v hx hy; exact doesRaw h (by simp only [execOp, ho, hS.ev hx, hS.ev hy])
    · exact h.elim
  case indexAddr t x i =>
    split at h
    · rename_i p len cap k j hx hi
      split at h
      · rename_i et s hs
        obtain ⟨ad, rfl, h0, h1, hk⟩ := nilOut h
        obtain ⟨hu, hsz⟩ := (hC.ty t).slc _ _ hs
        exact .inl ⟨_, w, by simp [execOp, ho, hS.ev hx, hS.ev hi, Instr.indexAt, asIntOf, run_underlying hu, Result.andThen, h0, h1, run_sizeOf' hsz], hk⟩
      · exact h.elim
    · rename_i p k j hx hi
      split at h
      · rename_i len s hs
        obtain ⟨ad, rfl, h0, h1, hk⟩ := nilOut h
        obtain ⟨el, hu, hsz⟩ := (hC.ty t).arr _ _ hs
        exact .inl ⟨_, w, by simp [execOp, ho, hS.ev hx, hS.ev hi, Instr.indexAt, Instr.sureAddr, asIntOf, run_underlying hu, Result.andThen, h0, h1, run_sizeOf' hsz], hk⟩
      · exact h.elim
    · exact h.elim
  case index t x i =>
    split at h
    · rename_i s k j hx hi
      split at h
      · rename_i hs
        obtain ⟨h0, h1, hk⟩ := h
        refine .inl ⟨_, w, ?_, hk⟩
        have hlt : j.toNat < s.size := by omega
        have hlt' : j.toNat < s.data.size := hlt
        have hg : s[j.toNat]? = some (s[j.toNat]'hlt) := by simp [hlt]
        have hb : btAt s j = ((s[j.toNat]'hlt).toNat : Int) := by
          unfold btAt
          rw [Array.getElem?_eq_getElem hlt']
          rfl
        simp [execOp, ho, hS.ev hx, hS.ev hi, Instr.index, asIntOf, run_underlying ((hC.ty t).isStr hs), Result.andThen, h0, hg, hb]
      · exact h.elim
    · rename_i u v _ hx hi; exact doesRaw h (by simp only [execOp, ho, hS.ev hx, hS.ev hi])
    · exact h.elim
  case lookup t m k ok =>
    split at h
    · rename_i u v hx hy; exact doesRaw h (by simp only [execOp, ho, hS.ev hx, hS.ev hy])
    · exact h.elim
  case mapUpdate t m k x =>
    split at h
    · rename_i u v z hx hy hz; exact doesRawU h (by rw [ho]; rfl) (by simp only [execOp, ho, hS.ev hx, hS.ev hy, hS.ev hz])
    · exact h.elim
  case insert t m k x =>
    split at h
    · rename_i u v z hx hy hz; exact doesRawU h (by rw [ho]; rfl) (by simp only [execOp, ho, hS.ev hx, hS.ev hy, hS.ev hz])
    · exact h.elim
  case mapEntry t m k =>
    split at h
    · rename_i u v hx hy
      split at h
      · exact doesRaw h (by simp only [execOp, ho, hS.ev hx, hS.ev hy])
      · exact h.elim
    · exact h.elim
  case entryStore t m k x =>
    split at h
    · rename_i u v z hx hy hz; exact doesRawU h (by rw [ho]; rfl) (by simp only [execOp, ho, hS.ev hx, hS.ev hy, hS.ev hz])
    · exact h.elim
  case range t x =>
    split at h
    · rename_i u hx; exact doesRaw h (by simp only [execOp, ho, hS.ev hx])
    · exact h.elim
  case next x s =>
    split at h
    · rename_i u hx; exact doesRaw h (by simp only [execOp, ho, hS.ev hx])
    · exact h.elim
  case entry x =>
    split at h
    · rename_i u hx; exact doesRaw h (by simp only [execOp, ho, hS.ev hx])
    · exact h.elim
  case typeAssert x xt at_ ok =>
    split at h
    · rename_i u hx; exact doesRaw h (by simp only [execOp, ho, hS.ev hx])
    · exact h.elim
  case extract x i =>
    split at h
    · rename_i vs hx
      rw [listGet_eq] at h
      split at h
      · rename_i v hv
        have hv' : vs[i]? = some v := by simpa using hv
        exact .inl ⟨_, w, by simp [execOp, ho, hS.ev hx, Instr.extract, hv', Result.andThen], h⟩
      · exact h.elim
    · exact h.elim
  case call c =>
    split at h
    · rename_i b hb
      split at h
      · rename_i vs hv
        obtain ⟨v, w', hr, hk⟩ := denBuiltin_run hC h
        refine .inl ⟨v, w', ?_, hk⟩
        have hargs : c.args.map a.eval = vs.toArray := by apply Array.toList_inj.1; simp [← hS.evs hv]
        have hat : c.argTypes = c.argTypes.toList.toArray := by simp
        simp only [execOp, ho, resolve, hb, hargs, Sem.run_bind, Sem.run_pure, Result.andThen, invoke]
        rw [hat]
        exact hr
      · exact h.elim
    · exact h.elim
end
end Go.Proofs.YtibjkknfgppogaaDoor.Eng
