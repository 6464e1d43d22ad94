/- The engine's fifth part: calls, and the regions whose order is left open. -/
import Derived.Test.YtibjkknfgppogaaDoorEngD
set_option linter.unusedVariables false
set_option linter.unusedSimpArgs false
namespace Go.Proofs.YtibjkknfgppogaaDoor.Eng
open Go

def CallF (C : Ctx) (g : FuncId) (args : Array Value) (rs : Rs) (w : World) (K : Value → World → Prop) : Prop :=
  Calls C.P g args w fun e w' => exR rs fun v => e = .returned v ∧ K v w'
/-- A function without a Go body: the model's own row. -/
def extCall (g : FuncId) (args : Array Value) : Sem Value := do
  match ← callFunc g args with
  | .value v => pure v
  | _ => stuck ""
/-- A call of a function value. -/
def CallG (C : Ctx) (f : Value) (args : List Value) (w : World) (R : Ending → World → Prop) : Prop :=
  match f with
  | .func (.func g) first cap => match C.fns g with
    | true => Calls C.P g (first.toList ++ (args ++ cap.toList)).toArray w R
    | false => ∃ v w', (extCall g (first.toList ++ (args ++ cap.toList)).toArray).run C.P w = .ok v w' ∧ R (.returned v) w'
  | _ => False
def denCall (C : Ctx) (f : Value) (args : List Value) (rs : Rs) (w : World) (K : Value → World → Prop) : Prop :=
  CallG C f args w fun e w' => exR rs fun v => e = .returned v ∧ K v w'
def denOp (C : Ctx) (o : Oper) (e : Env) (w : World) (K : Value → World → Prop) : Prop :=
  match o.op with
  | .call c => match c.callee with
    | .builtin _ => denVal C o e w K
    | .value f => match ev e f, evs e c.args.toList, (C.ty o.type).rs with
      | some fv, some vs, some rs => denCall C fv vs rs w K
      | _, _, _ => False
    | .invoke r name => match ev e r, evs e c.args.toList, (C.ty o.type).rs with
      | some rv, some vs, some rs => ∃ g as, (callMethod rv name vs.toArray).run C.P w = .ok (.enter g as) w ∧ CallF C g as rs w K
      | _, _, _ => False
  | _ => denVal C o e w K

section
variable {C : Ctx} {n : Nat} {a : Act} {e : Env} {w : World} {K : Value → World → Prop} {next : Act → World → Prop} {Q : Exit → Act → World → Prop}
theorem callFunc_enter {P : Program} {f : FuncId} {fn : Func} {c : Code} (hf : P.funcs[f]? = some fn) (hname : (fn.name == "runtime.NumGoroutine") = false) (hb : fn.body = some c) (args : Array Value) (w : World) :
    (callFunc f args).run P w = .ok (.enter f args) w := by
  have h1 : fn.name ≠ "runtime.NumGoroutine" := by simpa using hname
  simp [callFunc, hf, h1, hb, Result.andThen]
theorem wp_of_does {o : Oper} (h : DoesVal C.P o a w K) (hn : ∀ v w', K v w' → next (a.put o.dst v) w') : o.wp C.P a w next Q := by
  rcases h with ⟨v, w', hr, hk⟩ | ⟨_, w', hr, hk⟩
  · simp only [Oper.wp, hr, Oper.upon_value]; exact hn _ _ hk
  · simp only [Oper.wp, hr, Oper.upon_skip]; exact hn _ _ hk
theorem wp_of_enter {o : Oper} {g : FuncId} {as : Array Value} {rs : Rs} (hr : (execOp a.eval o).run C.P w = .ok (.enter g as) w) (h : CallF C g as rs w K)
    (hn : ∀ v w', K v w' → next (a.put o.dst v) w') : o.wp C.P a w next Q := by
  simp only [Oper.wp, hr, Oper.upon_enter]
  refine Calls.mono h fun e' w' hx => ?_
  obtain ⟨v, rfl, hk⟩ := exR_out hx
  exact hn _ _ hk
theorem denOp_wp (hC : C.Ok) (hS : Sim n a e) (o : Oper) (h : denOp C o e w K) (hn : ∀ v w', K v w' → next (a.put o.dst v) w') : o.wp C.P a w next Q := by
  unfold denOp at h
  split at h
  · rename_i c ho
    split at h
    · exact wp_of_does (denVal_does hC hS o h) hn
    · rename_i f hf
      split at h
      · rename_i fv vs rs hfv hvs hrs
        have hargs : c.args.map a.eval = vs.toArray := by apply Array.toList_inj.1; simp [← hS.evs hvs]
        unfold denCall CallG at h
        split at h
        · rename_i g first cap
          have hfe := hS.ev hfv
          have harr : first ++ vs.toArray ++ cap = (first.toList ++ (vs ++ cap.toList)).toArray := by
            apply Array.toList_inj.1; simp
          have hx : execOp a.eval o = callFunc g (first.toList ++ (vs ++ cap.toList)).toArray := by
            rw [← harr]
            simp only [execOp, ho, resolve, hf, hargs, hfe, Deferred.ofValue, pure_bind, invoke]
          split at h
          · rename_i hfn
            obtain ⟨fn, c', h1, h2, h3⟩ := hC.fns g hfn
            exact wp_of_enter (by rw [hx]; exact callFunc_enter h1 h2 h3 _ w) h hn
          · obtain ⟨v0, w', hr, hx'⟩ := h
            obtain ⟨v, he, hk⟩ := exR_out hx'
            cases he
            refine wp_of_does (.inl ⟨v0, w', ?_, hk⟩) hn
            rw [hx]
            unfold extCall at hr
            rw [Sem.run_bind] at hr
            generalize hq : (callFunc g (first.toList ++ (vs ++ cap.toList)).toArray).run C.P w = q at hr ⊢
            cases q with
            | halt x y => simp [Result.andThen] at hr
            | ok nx y =>
              cases nx <;> simp [Result.andThen] at hr
              obtain ⟨rfl, rfl⟩ := hr
              rfl
        · exact h.elim
      · exact h.elim
    · rename_i r name hf
      split at h
      · rename_i rv vs rs hrv hvs hrs
        have hargs : c.args.map a.eval = vs.toArray := by apply Array.toList_inj.1; simp [← hS.evs hvs]
        obtain ⟨g, as, hr, h⟩ := h
        refine wp_of_enter ?_ h hn
        rw [← hr]
        have hx : execOp a.eval o = callMethod rv name vs.toArray := by
          simp only [execOp, ho, resolve, hf, hargs, hS.ev hrv, pure_bind, invoke]
          simp
        rw [hx]
      · exact h.elim
  · exact wp_of_does (denVal_does hC hS o h) hn
end

/-! ### A guard -/
def guardP (all : List Oper) (g : Option (Nat × Bool)) (e : Env) (yes no : Env → Prop) : Prop := match g with
  | none => yes e
  | some (j, want) => match listGet all j with
    | none => False
    | some oj => match oj.dst with
      | none => False
      | some d => match e.get d with
        | some (.bool b) => match want with
          | true => CondP b (yes ((d, .bool true) :: e)) (no ((d, .bool false) :: e))
          | false => CondP b (no ((d, .bool true) :: e)) (yes ((d, .bool false) :: e))
        | some (.tuple _) => no e
        | _ => False
theorem Sim.again {n : Nat} {a : Act} {e : Env} (h : Sim n a e) {d : Nat} {v : Value} (hd : e.get d = some v) : Sim n a ((d, v) :: e) := by
  refine ⟨h.size, h.defers, fun t u hu => ?_⟩
  simp only [Env.get] at hu
  split at hu
  · rename_i heq
    have : d = t := Nat.eq_of_beq_eq_true heq
    subst this
    cases hu
    exact h.get _ _ hd
  · exact h.get _ _ hu
/-- The same, and beside the slots 'ds' the environment is as 'b'. -/
structure SimK (n : Nat) (ds : List Nat) (b : Env) (a : Act) (e : Env) : Prop where
  sim : Sim n a e
  keep : ∀ t, t ∉ ds → e.get t = b.get t
theorem SimK.again {n : Nat} {ds : List Nat} {b : Env} {a : Act} {e : Env} (h : SimK n ds b a e) {d : Nat} {v : Value} (hd : e.get d = some v) : SimK n ds b a ((d, v) :: e) := by
  refine ⟨h.sim.again hd, fun t ht => ?_⟩
  simp only [Env.get]
  split
  · rename_i heq
    have : d = t := Nat.eq_of_beq_eq_true heq
    subst this
    rw [← h.keep d ht, hd]
  · exact h.keep t ht
theorem SimK.put {n : Nat} {ds : List Nat} {b : Env} {a : Act} {e : Env} (h : SimK n ds b a e) (d : Option Nat) (v : Value) (hd : ∀ t, d = some t → t < n ∧ t ∈ ds) : SimK n ds b (a.put d v) (e.put d v) := by
  refine ⟨h.sim.put d v fun t ht => (hd t ht).1, fun t ht => ?_⟩
  cases d with
  | none => exact h.keep t ht
  | some d =>
    simp only [Env.put, Env.get]
    split
    · rename_i heq
      have : d = t := Nat.eq_of_beq_eq_true heq
      subst this
      exact absurd (hd d rfl).2 ht
    · exact h.keep t ht
theorem guard_out {n : Nat} {ds : List Nat} {b0 : Env} {a : Act} {e : Env} (hS : SimK n ds b0 a e) {ops : Array Oper} {o : Oper} {yes no : Env → Prop} (h : guardP ops.toList o.guard e yes no) :
    (Region.wanted o (yielded ops a.tmps) = true ∧ ∃ e', SimK n ds b0 a e' ∧ yes e') ∨ (Region.wanted o (yielded ops a.tmps) = false ∧ ∃ e', SimK n ds b0 a e' ∧ no e') := by
  unfold guardP at h
  split at h
  · rename_i hg; exact .inl ⟨by simp [Region.wanted, hg], e, hS, h⟩
  · rename_i j want hg
    rw [listGet_eq] at h
    split at h
    · exact h.elim
    · rename_i oj hj
      have hj' : ops[j]? = some oj := by simpa using hj
      split at h
      · exact h.elim
      · rename_i d hd
        split at h
        · rename_i b hb
          have hy : yielded ops a.tmps j = some b := by simp [yielded, hj', hd, hS.sim.get _ _ hb]
          have hw : Region.wanted o (yielded ops a.tmps) = (b == want) := by
            simp only [Region.wanted, hg, hy]
            cases b <;> cases want <;> rfl
          rw [hw]
          cases want <;> cases b <;> simp only [CondP] at h
          · exact .inl ⟨rfl, _, hS.again hb, h⟩
          · exact .inr ⟨rfl, _, hS.again hb, h⟩
          · exact .inr ⟨rfl, _, hS.again hb, h⟩
          · exact .inl ⟨rfl, _, hS.again hb, h⟩
        · rename_i vs hb
          have hy : yielded ops a.tmps j = none := by simp [yielded, hj', hd, hS.sim.get _ _ hb]
          exact .inr ⟨by simp [Region.wanted, hg, hy], e, hS, h⟩
        · exact h.elim

/-! ### A region in the order of its text -/
def denOps (C : Ctx) (all : List Oper) : List Oper → Env → World → (Env → World → Prop) → Prop
  | [], e, w, K => K e w
  | o :: r, e, w, K => guardP all o.guard e (fun e' => denOp C o e' w fun v w' => denOps C all r (e'.put o.dst v) w' K) (fun e' => denOps C all r (e'.put o.dst undef) w K)
def dstsOk (n : Nat) (ops : List Oper) : Bool := ops.all fun o => match o.dst with
  | some d => Nat.blt d n
  | none => true
theorem dst_lt {n : Nat} {ds : List Nat} {ops : List Oper} (h : dstsOk n ops = true) (hds : ∀ o ∈ ops, ∀ d, o.dst = some d → d ∈ ds) {o : Oper} (ho : o ∈ ops) : ∀ t, o.dst = some t → t < n ∧ t ∈ ds := by
  intro t ht
  have := List.all_eq_true.1 h o ho
  simp only [ht] at this
  exact ⟨Nat.lt_of_lt_of_le (Nat.lt_succ_self t) (Nat.le_of_ble_eq_true this), hds o ho t ht⟩
theorem denOps_wp {C : Ctx} (hC : C.Ok) {n : Nat} {ds : List Nat} {b : Env} {ops : Array Oper} (hd : dstsOk n ops.toList = true) (hds : ∀ o ∈ ops.toList, ∀ d, o.dst = some d → d ∈ ds) {K : Env → World → Prop} {Q : Exit → Act → World → Prop}
    (hQ : ∀ a e w, SimK n ds b a e → K e w → Q .normal a w) : ∀ (l : List Oper) (k : Nat) (a : Act) (e : Env) (w : World), ops.toList.drop k = l → SimK n ds b a e → denOps C ops.toList l e w K →
    wpOps C.P ops Q (List.range' k l.length) a w
  | [], k, a, e, w, hl, hS, h => hQ a e w hS h
  | o :: r, k, a, e, w, hl, hS, h => by
    have hk : ops[k]? = some o := by
      have := congrArg (·[0]?) hl
      simpa using this
    have hr : ops.toList.drop (k + 1) = r := by
      rw [← List.drop_drop, hl]; rfl
    have hmem : o ∈ ops.toList := by
      have : ops.toList[k]? = some o := by simpa using hk
      exact List.mem_of_getElem? this
    have hdo := dst_lt hd hds hmem
    simp only [denOps] at h
    simp only [List.length_cons, List.range'_succ, wpOps, hk]
    rcases guard_out hS h with ⟨hw, e', hS', h⟩ | ⟨hw, e', hS', h⟩
    · rw [if_pos hw]
      exact .inl (denOp_wp hC hS'.sim o h fun v w' hk' => denOps_wp hC hd hds hQ r (k + 1) _ _ w' hr (hS'.put o.dst v hdo) hk')
    · rw [if_neg (by simp [hw])]
      exact denOps_wp hC hd hds hQ r (k + 1) _ _ w hr (hS'.put o.dst undef hdo) h
theorem denRegion_wp {C : Ctx} (hC : C.Ok) {n : Nat} {ds : List Nat} {b : Env} {id : Nat} {ops : Array Oper} (hd : dstsOk n ops.toList = true) (hds : ∀ o ∈ ops.toList, ∀ d, o.dst = some d → d ∈ ds) {K : Env → World → Prop} {Q : Exit → Act → World → Prop}
    (hQ : ∀ a e w, SimK n ds b a e → K e w → Q .normal a w) {a : Act} {e : Env} {w : World} (hS : SimK n ds b a e) (h : denOps C ops.toList ops.toList e w K) : (Code.region id ops false).wp C.P Q a w := by
  refine wp_region ?_
  have := denOps_wp hC hd hds hQ ops.toList 0 a e w (by simp) hS h
  rw [List.range_eq_range']
  simpa using this
end Go.Proofs.YtibjkknfgppogaaDoor.Eng
