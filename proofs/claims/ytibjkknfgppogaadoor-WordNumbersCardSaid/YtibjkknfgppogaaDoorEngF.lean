/- The engine's sixth part: a region whose order Go leaves open: whatever only reads is taken first, what a cell holds is asked again behind each act. -/
import Derived.Test.YtibjkknfgppogaaDoorEngE
set_option linter.unusedVariables false
set_option linter.unusedSimpArgs false
namespace Go.Proofs.YtibjkknfgppogaaDoor.Eng
open Go

/-! ### What only reads -/
def quietKind (C : Ctx) (o : Oper) : Bool := match o.op with
  | .move _ => true
  | .assign _ => true
  | .pick .. => true
  | .nilCheck _ => true
  | .fieldAddr .. => true
  | .field .. => true
  | .indexAddr .. => true
  | .extract .. => true
  | .slice .. => true
  | .makeFunc .. => true
  | .makeInterface .. => true
  | .unOp .. => true
  | .load .. => true
  | .binOp .. => true
  | .build .. => true
  | .convert s d _ => match (C.ty d).intk, (C.ty s).intk with
    | some _, some _ => true
    | _, _ => false
  | .index t _ _ => (C.ty t).isStr
  | .call c => match c.callee with
    | .builtin .len => match c.argTypes.toList with
      | [u] => (C.ty u).isStr || (C.ty u).isSlc
      | _ => false
    | _ => false
  | _ => false
def plainBin (x y : Value) : Bool := match x, y with
  | .int .., .int .. => true
  | .string _, .string _ => true
  | .bool _, .bool _ => true
  | .pointer _, .pointer none => true
  | .slice .., .slice none _ _ => true
  | .map _, .map none => true
  | _, _ => false
def quietDyn (o : Oper) (e : Env) : Bool := match o.op with
  | .load .. => false
  | .binOp _ _ x y _ => match ev e x, ev e y with
    | some a, some b => plainBin a b
    | _, _ => false
  | .convert _ _ x => match ev e x with
    | some (.int _ _) => true
    | _ => false
  | .index _ x i => match ev e x, ev e i with
    | some (.string _), some (.int _ _) => true
    | _, _ => false
  | .call c => match evs e c.args.toList with
    | some [.string _] => true
    | some [.slice ..] => true
    | _ => false
  | _ => true
def denLoad (C : Ctx) (t : TypeId) (x : Operand) (e : Env) (w : World) (K : Addr → List Value → Value → Prop) : Prop := match ev e x with
  | some (.pointer p) => NilC p fun ad => match (C.ty t).agg, (C.ty t).rs, (C.ty t).size with
    | some false, some (.one (.leaf l)), _ => exL l fun v => w.cell? ad = some v ∧ K ad [v] v
    | some true, some (.one (.agg ls)), some n => match Nat.beq n ls.length with
      | true => exLs ls fun vs => CellsAt w ad vs 0 ∧ K ad vs (.agg vs.toArray)
      | false => False
    | _, _, _ => False
  | _ => False

section
variable {C : Ctx} {n : Nat} {a : Act} {e : Env} {w : World} {K : Value → World → Prop}
theorem plainBin2_out {op : BinOp} {t : TypeId} {cx cy : Operand} {x y : Value} {ot : TypeId} (hp : plainBin x y = true) (h : denBin2 C op t cx cy x y ot w K) :
    ∃ v, K v w ∧ ∀ w' (K' : Value → World → Prop), K' v w' → denBin2 C op t cx cy x y ot w' K' := by
  unfold plainBin at hp
  split at hp
  · rename_i k a k' b
    cases op <;> simp only [denBin2] at h ⊢
    case shl => exact ⟨_, h.2, fun w' K' hk => ⟨h.1, hk⟩⟩
    case shr => exact ⟨_, h.2, fun w' K' hk => ⟨h.1, hk⟩⟩
    all_goals
      split at h
      · first
          | exact ⟨_, h.2, fun w' K' hk => ⟨h.1, hk⟩⟩
          | exact ⟨_, h, fun w' K' hk => hk⟩
      · exact h.elim
  · cases op <;> simp only [denBin2] at h ⊢
    case add => exact ⟨_, h.2, fun w' K' hk => ⟨h.1, hk⟩⟩
    all_goals first | exact ⟨_, h, fun w' K' hk => hk⟩ | exact h.elim
  · simp only [denBin2] at h ⊢
    split at h <;> first | exact ⟨_, h, fun w' K' hk => hk⟩ | exact h.elim
  · simp only [denBin2, PtrEq] at h ⊢
    split at h <;> first | exact ⟨_, h, fun w' K' hk => hk⟩ | exact h.elim
  · simp only [denBin2] at h ⊢
    split at h <;> first | exact ⟨_, h, fun w' K' hk => hk⟩ | exact h.elim
  · simp only [denBin2] at h ⊢
    split at h <;> first | exact ⟨_, h, fun w' K' hk => hk⟩ | exact h.elim
  · simp at hp
theorem plainBin_out {op : BinOp} {t : TypeId} {cx cy : Operand} {x y : Value} {ot : TypeId} (hp : plainBin x y = true) (h : denBin C op t cx cy x y ot w K) :
    ∃ v, K v w ∧ ∀ w' (K' : Value → World → Prop), K' v w' → denBin C op t cx cy x y ot w' K' := by
  have hn : isNilV y = false := by
    cases y <;> first | rfl | (exfalso; cases x <;> simp [plainBin] at hp)
  simp only [denBin, hn] at h ⊢
  exact plainBin2_out hp h
theorem quiet_out {o : Oper} (hq : quietKind C o = true) (hd : quietDyn o e = true) (h : denVal C o e w K) : ∃ v, K v w ∧ ∀ w' (K' : Value → World → Prop), K' v w' → denVal C o e w' K' := by
  cases ho : o.op <;> simp only [quietKind, quietDyn, ho, Bool.false_eq_true] at hq hd <;> simp only [denVal, ho] at h ⊢
  case move x => split at h <;> first | exact h.elim | exact ⟨_, h, fun w' K' hk => hk⟩
  case assign x => split at h <;> first | exact h.elim | exact ⟨_, h, fun w' K' hk => hk⟩
  case pick c x y =>
    split at h
    · rename_i b u v _ _ _
      cases b
      · exact ⟨_, h, fun w' K' hk => hk⟩
      · exact ⟨_, h, fun w' K' hk => hk⟩
    · exact h.elim
  case nilCheck x =>
    split at h
    · obtain ⟨ad, rfl, h⟩ := nilOut h; exact ⟨_, h, fun w' K' hk => hk⟩
    · exact ⟨_, h.2, fun w' K' hk => ⟨h.1, hk⟩⟩
    · exact h.elim
  case fieldAddr t x f =>
    split at h
    · obtain ⟨ad, rfl, h⟩ := nilOut h
      split at h
      · exact ⟨_, h, fun w' K' hk => by simp only [NilC, *]⟩
      · exact h.elim
    · exact h.elim
  case field t x f =>
    split at h
    · split at h
      · exact ⟨_, h, fun w' K' hk => hk⟩
      · split at h
        · exact ⟨_, h, fun w' K' hk => hk⟩
        · exact h.elim
      · exact h.elim
    · exact h.elim
  case indexAddr t x i =>
    split at h
    · split at h
      · obtain ⟨ad, rfl, h0, h1, h⟩ := nilOut h; exact ⟨_, h, fun w' K' hk => ⟨h0, h1, hk⟩⟩
      · exact h.elim
    · split at h
      · obtain ⟨ad, rfl, h0, h1, h⟩ := nilOut h; exact ⟨_, h, fun w' K' hk => ⟨h0, h1, hk⟩⟩
      · exact h.elim
    · exact h.elim
  case extract x i =>
    split at h
    · split at h
      · exact ⟨_, h, fun w' K' hk => hk⟩
      · exact h.elim
    · exact h.elim
  case slice t x lo hi mx =>
    split at h
    · split at h
      · obtain ⟨h0, h1, h2, h⟩ := h; exact ⟨_, h, fun w' K' hk => ⟨h0, h1, h2, hk⟩⟩
      · exact h.elim
    · split at h
      · obtain ⟨h0, h1, h2, h3, h4, h⟩ := h; exact ⟨_, h, fun w' K' hk => ⟨h0, h1, h2, h3, h4, hk⟩⟩
      · exact h.elim
    · exact h.elim
  case build t ps =>
    split at h
    · split at h <;> first | exact h.elim | exact ⟨_, h, fun w' K' hk => hk⟩
    · split at h <;> first | exact h.elim | exact ⟨_, h, fun w' K' hk => hk⟩
    · exact h.elim
  case makeFunc fn f c => split at h <;> first | exact h.elim | exact ⟨_, h, fun w' K' hk => hk⟩
  case makeInterface t x => split at h <;> first | exact h.elim | exact ⟨_, h, fun w' K' hk => hk⟩
  case unOp op t x => split at h <;> first | exact h.elim | exact ⟨_, h, fun w' K' hk => hk⟩
  case binOp op t x y yt =>
    split at h
    · rename_i u v hu hv
      simp only [hu, hv] at hd
      exact plainBin_out hd h
    · exact h.elim
  case convert s d x =>
    split at hq
    · rename_i k k' hk hk'
      split at hd
      · rename_i kk m hm
        simp only [hm, hk, hk'] at h ⊢
        exact ⟨_, h, fun w' K' hk => hk⟩
      · simp at hd
    · simp at hq
  case index t x i =>
    split at hd
    · rename_i s k j hs hj
      simp only [hs, hj, hq] at h ⊢
      obtain ⟨h0, h1, h⟩ := h
      exact ⟨_, h, fun w' K' hk => ⟨h0, h1, hk⟩⟩
    · simp at hd
  case call c =>
    split at hq
    · rename_i hb
      split at hq
      · rename_i u hu
        simp only [hb] at h ⊢
        split at hd
        · rename_i s hs
          simp only [hs, denBuiltin, hu] at h ⊢
          split at h
          · exact ⟨_, h, fun w' K' hk => hk⟩
          · exact h.elim
        · rename_i p m cc hs
          simp only [hs, denBuiltin, hu] at h ⊢
          split at h
          · exact ⟨_, h, fun w' K' hk => hk⟩
          · exact h.elim
        · simp at hd
      · simp at hq
    · simp at hq
theorem quiet_runs (hC : C.Ok) (hS : Sim n a e) {o : Oper} (hq : quietKind C o = true) (hd : quietDyn o e = true) (h : denVal C o e w K) :
    ∃ v, K v w ∧ ∀ w', (execOp a.eval o).run C.P w' = .ok (.value v) w' := by
  obtain ⟨v, hk, hall⟩ := quiet_out hq hd h
  refine ⟨v, hk, fun w' => ?_⟩
  rcases denVal_does hC hS o (hall w' (fun v' w'' => v' = v ∧ w'' = w') ⟨rfl, rfl⟩) with ⟨v', w'', hr, rfl, rfl⟩ | ⟨hu, _⟩
  · exact hr
  · exfalso
    cases ho : o.op <;> simp [quietKind, unitKind, ho] at hq hu
end
end Go.Proofs.YtibjkknfgppogaaDoor.Eng
