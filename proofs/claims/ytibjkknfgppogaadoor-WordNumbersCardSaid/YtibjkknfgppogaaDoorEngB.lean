/- The engine's second part: what each operation owes, and that this is enough. -/
import Derived.Test.YtibjkknfgppogaaDoorEng
set_option linter.unusedVariables false
set_option linter.unusedSimpArgs false
namespace Go.Proofs.YtibjkknfgppogaaDoor.Eng
open Go

/-! ### What is known of a type -/
structure TI where
  size : Option Nat := none
  agg : Option Bool := none
  rs : Option Rs := none
  zero : Option Value := none
  offs : Option (List (Nat × Nat × Bool)) := none
  arr : Option (Nat × Nat) := none
  slc : Option (Nat × Nat) := none
  elemSh : Option Sh := none
  isStr : Bool := false
  intk : Option IntKind := none
  conc : Bool := false
  isPtr : Bool := false
  isSlc : Bool := false
  isMap : Bool := false
  isBool : Bool := false
def aggDesc : TypeDesc → Bool
  | .struct _ | .array _ _ => true
  | _ => false
structure TIok (P : Program) (t : TypeId) (i : TI) : Prop where
  size : ∀ n, i.size = some n → (P.info? t).map (·.size) = some n
  agg : ∀ b, i.agg = some b → (P.underlying t).map aggDesc = some b
  zero : ∀ v, i.zero = some v → (P.info? t).map (·.zero) = some (some v)
  offs : ∀ l, i.offs = some l → ∃ fs, P.underlying t = some (.struct fs) ∧ fs.toList.map (fun f => (f.offset, (P.info? f.type).map (·.size), (P.underlying f.type).map aggDesc)) = l.map (fun x => (x.1, some (x.2.1 + 1), some x.2.2))
  arr : ∀ n s, i.arr = some (n, s) → ∃ e, P.underlying t = some (.array n e) ∧ (P.info? e).map (·.size) = some s
  slc : ∀ e s, i.slc = some (e, s) → P.underlying t = some (.slice e) ∧ (P.info? e).map (·.size) = some s
  isStr : i.isStr = true → P.underlying t = some .string
  intk : ∀ k, i.intk = some k → P.underlying t = some (.int k)
  conc : i.conc = true → ∃ d, P.underlying t = some d ∧ ∀ ms, d ≠ .interface ms
  isPtr : i.isPtr = true → ∃ e, P.underlying t = some (.pointer e)
  isSlc : i.isSlc = true → ∃ e, P.underlying t = some (.slice e)
  isMap : i.isMap = true → ∃ k e, P.underlying t = some (.map k e)
  isBool : i.isBool = true → P.underlying t = some .bool
theorem TIok.nothing (P : Program) (t : TypeId) : TIok P t {} := by
  constructor <;> intros <;> simp_all

theorem some_all {α : Type} {o : Option α} {p : α → Prop} (a : α) (ho : o = some a) (hp : p a) : ∀ x, o = some x → p x := by
  intro x h; rw [ho] at h; cases h; exact hp
theorem none_all {α : Type} {o : Option α} {p : α → Prop} (ho : o = none) : ∀ x, o = some x → p x := by
  intro x h; rw [ho] at h; cases h
theorem some_all2 {α β : Type} {o : Option (α × β)} {p : α → β → Prop} (a : α) (b : β) (ho : o = some (a, b)) (hp : p a b) : ∀ x y, o = some (x, y) → p x y := by
  intro x y h; rw [ho] at h; cases h; exact hp
theorem none_all2 {α β : Type} {o : Option (α × β)} {p : α → β → Prop} (ho : o = none) : ∀ x y, o = some (x, y) → p x y := by
  intro x y h; rw [ho] at h; cases h
theorem yes_all {b : Bool} {p : Prop} (hp : p) : b = true → p := fun _ => hp
theorem no_all {b : Bool} {p : Prop} (hb : b = false) : b = true → p := by
  intro h; rw [hb] at h; cases h

structure Ctx where
  P : Program
  tab : List (Nat × TI)
  fns : FuncId → Bool
def Ctx.ty (C : Ctx) (t : TypeId) : TI := match C.tab.lookup t with
  | some i => i
  | none => {}
structure Ctx.Ok (C : Ctx) : Prop where
  ty : ∀ t, TIok C.P t (C.ty t)
  fns : ∀ f, C.fns f = true → ∃ fn c, C.P.funcs[f]? = some fn ∧ (fn.name == "runtime.NumGoroutine") = false ∧ fn.body = some c
  mixed : C.P.follows .mixedOrders = true
theorem tabNil {P : Program} : ∀ p ∈ ([] : List (Nat × TI)), TIok P p.1 p.2 := fun _ h => by cases h
theorem tabCons {P : Program} {t : Nat} {i : TI} {l : List (Nat × TI)} (h : TIok P t i) (r : ∀ p ∈ l, TIok P p.1 p.2) : ∀ p ∈ (t, i) :: l, TIok P p.1 p.2 := by
  intro p hp
  rcases List.mem_cons.1 hp with rfl | hp
  · exact h
  · exact r p hp
theorem tabApp {P : Program} {l r : List (Nat × TI)} (h : ∀ p ∈ l, TIok P p.1 p.2) (k : ∀ p ∈ r, TIok P p.1 p.2) : ∀ p ∈ l ++ r, TIok P p.1 p.2 := fun p hp => (List.mem_append.1 hp).elim (h p) (k p)
theorem ty_of_tab {P : Program} : ∀ {tab : List (Nat × TI)}, (∀ p ∈ tab, TIok P p.1 p.2) → ∀ t, TIok P t (match tab.lookup t with | some i => i | none => {})
  | [], _, t => by simpa using TIok.nothing P t
  | (u, i) :: r, h, t => by
    simp only [List.lookup_cons]
    by_cases hu : t = u
    · subst hu; simpa using h (t, i) (by simp)
    · have : (t == u) = false := by simpa using hu
      simp only [this]
      exact ty_of_tab (fun p hp => h p (by simp [hp])) t

theorem ctxOk_of {C : Ctx} (htab : ∀ p ∈ C.tab, TIok C.P p.1 p.2) (hf : ∀ f, C.fns f = true → ∃ fn c, C.P.funcs[f]? = some fn ∧ (fn.name == "runtime.NumGoroutine") = false ∧ fn.body = some c) (hm : C.P.follows .mixedOrders = true) : C.Ok :=
  ⟨fun t => ty_of_tab htab t, hf, hm⟩

/-- An operation of the model, run as it stands. -/
def Raw (P : Program) (s : Sem Value) (rs : Option Rs) (w : World) (K : Value → World → Prop) : Prop := match rs with
  | none => False
  | some r => exR r fun v => ∃ w', s.run P w = .ok v w' ∧ K v w'
def RawU (P : Program) (s : Sem Unit) (w : World) (K : Value → World → Prop) : Prop := ∃ w', s.run P w = .ok () w' ∧ K undef w'

def boolR : Option Rs := some (.one (.leaf .bool))
/-- '==' of two pointers. -/
def PtrEq (P : Program) (t : TypeId) (w : World) (p q : Option Addr) (F : Bool → Prop) : Prop := match q with
  | none => F p.isNone
  | some b => match p with
    | none => F false
    | some a => ∃ r : Bool, (Op.equalIn (9999 + 1) t (.pointer (some a)) (.pointer (some b))).run P w = .ok r w ∧ F r
def isNilV : Value → Bool
  | .nilIface => true
  | .nilFunc => true
  | _ => false
/-- An operator on two values. -/
def denBin2 (C : Ctx) (op : BinOp) (t : TypeId) (cx cy : Operand) (x y : Value) (ot : TypeId) (w : World) (K : Value → World → Prop) : Prop :=
  match x, y with
  | .int k a, .int k' b => match op with
    | .shl => 0 ≤ b ∧ K (.int k (k.wrap (a * 2 ^ (min b.toNat k.bits)))) w
    | .shr => 0 ≤ b ∧ K (.int k (a.fdiv (2 ^ (min b.toNat k.bits)))) w
    | .add => match k == k' with | true => Ar k (a + b) fun n => K (.int k n) w | false => False
    | .sub => match k == k' with | true => Ar k (a - b) fun n => K (.int k n) w | false => False
    | .mul => match k == k' with | true => Ar k (a * b) fun n => K (.int k n) w | false => False
    | .quo => match k == k' with | true => b ≠ 0 ∧ K (.int k (k.wrap (a.tdiv b))) w | false => False
    | .rem => match k == k' with | true => b ≠ 0 ∧ K (.int k (a.tmod b)) w | false => False
    | .and => match k == k' with | true => K (.int k (k.wrap (BitVec.ofInt k.bits a &&& BitVec.ofInt k.bits b).toNat)) w | false => False
    | .or => match k == k' with | true => K (.int k (k.wrap (BitVec.ofInt k.bits a ||| BitVec.ofInt k.bits b).toNat)) w | false => False
    | .xor => match k == k' with | true => K (.int k (k.wrap (BitVec.ofInt k.bits a ^^^ BitVec.ofInt k.bits b).toNat)) w | false => False
    | .andNot => match k == k' with | true => K (.int k (k.wrap (BitVec.ofInt k.bits a &&& ~~~ BitVec.ofInt k.bits b).toNat)) w | false => False
    | .eql => match k == k' with | true => K (.bool (a == b)) w | false => False
    | .neq => match k == k' with | true => K (.bool (a != b)) w | false => False
    | .lss => match k == k' with | true => K (.bool (a < b)) w | false => False
    | .leq => match k == k' with | true => K (.bool (a ≤ b)) w | false => False
    | .gtr => match k == k' with | true => K (.bool (a > b)) w | false => False
    | .geq => match k == k' with | true => K (.bool (a ≥ b)) w | false => False
  | .string a, .string b => match op with
    | .add => ((a.size + b.size : Nat) : Int) ≤ IntKind.i64.max ∧ K (.string (a ++ b)) w
    | .eql => K (.bool (a.toList == b.toList)) w
    | .neq => K (.bool (!(a.toList == b.toList))) w
    | .lss => K (.bool (Op.bytesLess a.toList b.toList)) w
    | _ => False
  | .bool a, .bool b => match (C.ty t).isBool, op with
    | true, .eql => K (.bool (a == b)) w
    | true, .neq => K (.bool (!(a == b))) w
    | _, _ => False
  | .pointer p, .pointer q => match (C.ty t).isPtr, op with
    | true, .eql => PtrEq C.P t w p q fun b => K (.bool b) w
    | true, .neq => PtrEq C.P t w p q fun b => K (.bool (!b)) w
    | _, _ => False
  | .slice p _ _, .slice none _ _ => match (C.ty t).isSlc, op with
    | true, .eql => K (.bool p.isNone) w
    | true, .neq => K (.bool (!p.isNone)) w
    | _, _ => False
  | .map p, .map none => match (C.ty t).isMap, op with
    | true, .eql => K (.bool p.isNone) w
    | true, .neq => K (.bool (!p.isNone)) w
    | _, _ => False
  | x, y => Raw C.P (do eqGuard op t cx cy x y; binOp op t x y) (C.ty ot).rs w K

def denBin (C : Ctx) (op : BinOp) (t : TypeId) (cx cy : Operand) (x y : Value) (ot : TypeId) (w : World) (K : Value → World → Prop) : Prop :=
  match isNilV y with
  | true => Raw C.P (do eqGuard op t cx cy x y; binOp op t x y) (C.ty ot).rs w K
  | false => denBin2 C op t cx cy x y ot w K
theorem rawOut {P : Program} {s : Sem Value} {rs : Option Rs} {w : World} {K : Value → World → Prop} (h : Raw P s rs w K) : ∃ v w', s.run P w = .ok v w' ∧ K v w' := by
  unfold Raw at h
  split at h
  · exact h.elim
  · exact exR_out h

theorem equalIn_bool (P : Program) (d : Nat) (t : TypeId) (a b : Bool) (w : World) (h : P.underlying t = some .bool) : (Op.equalIn (d + 1) t (.bool a) (.bool b)).run P w = .ok (a == b) w := by
  simp [Op.equalIn, run_underlying h, Result.andThen]
theorem equalIn_ptr (P : Program) (d : Nat) (t e : TypeId) (p : Option Addr) (w : World) (h : P.underlying t = some (.pointer e)) : (Op.equalIn (d + 1) t (.pointer p) (.pointer none)).run P w = .ok p.isNone w := by
  cases p <;> simp [Op.equalIn, run_underlying h, Result.andThen]
theorem equalIn_slc (P : Program) (d : Nat) (t e : TypeId) (p : Option Addr) (n c n' c' : Nat) (w : World) (h : P.underlying t = some (.slice e)) : (Op.equalIn (d + 1) t (.slice p n c) (.slice none n' c')).run P w = .ok p.isNone w := by
  cases p <;> simp [Op.equalIn, run_underlying h, Result.andThen]
theorem equalIn_map (P : Program) (d : Nat) (t k e : TypeId) (p : Option Nat) (w : World) (h : P.underlying t = some (.map k e)) : (Op.equalIn (d + 1) t (.map p) (.map none)).run P w = .ok p.isNone w := by
  cases p <;> simp [Op.equalIn, run_underlying h, Result.andThen]
theorem equalIn_np (P : Program) (d : Nat) (t e : TypeId) (b : Addr) (w : World) (h : P.underlying t = some (.pointer e)) : (Op.equalIn (d + 1) t (.pointer none) (.pointer (some b))).run P w = .ok false w := by
  simp [Op.equalIn, run_underlying h, Result.andThen]
theorem ptrEq_out {P : Program} {t e : TypeId} {w : World} {p q : Option Addr} {F : Bool → Prop} (h : P.underlying t = some (.pointer e)) (hF : PtrEq P t w p q F) :
    ∃ b, (Op.equalIn (9999 + 1) t (.pointer p) (.pointer q)).run P w = .ok b w ∧ F b := by
  unfold PtrEq at hF
  split at hF
  · exact ⟨_, equalIn_ptr _ _ _ e _ _ h, hF⟩
  · split at hF
    · exact ⟨false, equalIn_np _ _ _ e _ _ h, hF⟩
    · obtain ⟨r, hr, hF⟩ := hF
      exact ⟨r, hr, hF⟩
theorem run_eql {P : Program} {t : TypeId} {x y : Value} {w : World} {b : Bool} (cx cy : Operand) (hx : ∀ s : Sem Value, (do eqGuard .eql t cx cy x y; s : Sem Value).run P w = s.run P w)
    (hb : binOp .eql t x y = (do pure (.bool (← Op.equal t x y)))) (h : (Op.equalIn (9999 + 1) t x y).run P w = .ok b w) : (do eqGuard .eql t cx cy x y; binOp .eql t x y : Sem Value).run P w = .ok (.bool b) w := by
  rw [hx, hb]
  have : (Op.equal t x y).run P w = .ok b w := h
  rw [Sem.run_bind, this]; rfl
theorem run_neq {P : Program} {t : TypeId} {x y : Value} {w : World} {b : Bool} (cx cy : Operand) (hx : ∀ s : Sem Value, (do eqGuard .neq t cx cy x y; s : Sem Value).run P w = s.run P w)
    (hb : binOp .neq t x y = (do pure (.bool (!(← Op.equal t x y))))) (h : (Op.equalIn (9999 + 1) t x y).run P w = .ok b w) : (do eqGuard .neq t cx cy x y; binOp .neq t x y : Sem Value).run P w = .ok (.bool !b) w := by
  rw [hx, hb]
  have : (Op.equal t x y).run P w = .ok b w := h
  rw [Sem.run_bind, this]; rfl
theorem denBin2_run {C : Ctx} (hC : C.Ok) {op : BinOp} {t : TypeId} {cx cy : Operand} {x y : Value} {ot : TypeId} {w : World} {K : Value → World → Prop} (h : denBin2 C op t cx cy x y ot w K) :
    ∃ v w', (do eqGuard op t cx cy x y; binOp op t x y : Sem Value).run C.P w = .ok v w' ∧ K v w' := by
  unfold denBin2 at h
  split at h
  · rename_i k a k' b
    have hg : ∀ (f : Sem Value), (do eqGuard op t cx cy (.int k a) (.int k' b); f : Sem Value).run C.P w = f.run C.P w := by
      intro f; cases op <;> simp [eqGuard, Result.andThen]
    rw [hg]
    by_cases hk : k = k'
    · subst hk
      cases op <;> simp only [beq_self_eq_true] at h <;> simp only [binOp, Op.shift, Op.intArith, Op.intDiv, Op.intBits, Op.intCmp, Ar, ne_eq, not_true_eq_false, if_false] at h ⊢
      case shl => rw [if_neg (by omega)]; exact ⟨_, _, rfl, h.2⟩
      case shr => rw [if_neg (by omega)]; exact ⟨_, _, rfl, h.2⟩
      case quo => rw [if_neg h.1]; exact ⟨_, _, rfl, h.2⟩
      case rem => rw [if_neg h.1]; exact ⟨_, _, rfl, h.2⟩
      all_goals exact ⟨_, _, rfl, h⟩
    · have hkf : (k == k') = false := by simpa using hk
      cases op <;> simp only [hkf] at h
      case shl => simp only [binOp, Op.shift]; rw [if_neg (by omega)]; exact ⟨_, _, rfl, h.2⟩
      case shr => simp only [binOp, Op.shift]; rw [if_neg (by omega)]; exact ⟨_, _, rfl, h.2⟩
  · rename_i a b
    have hg : ∀ (f : Sem Value), (do eqGuard op t cx cy (.string a) (.string b); f : Sem Value).run C.P w = f.run C.P w := by
      intro f; cases op <;> simp [eqGuard, Result.andThen]
    rw [hg]
    cases op <;> simp only [binOp, Op.stringOp] at h ⊢
    case add => rw [if_neg (by omega)]; exact ⟨_, _, rfl, h.2⟩
    all_goals first | exact ⟨_, _, rfl, h⟩ | exact h.elim
  · rename_i a b
    have hu := (hC.ty t).isBool
    split at h
    · rename_i hb; exact ⟨_, _, run_eql _ _ (fun _ => rfl) rfl (equalIn_bool _ _ _ _ _ _ (hu hb)), h⟩
    · rename_i hb; exact ⟨_, _, run_neq _ _ (fun _ => rfl) rfl (equalIn_bool _ _ _ _ _ _ (hu hb)), h⟩
    · exact h.elim
  · rename_i p q
    have hu := (hC.ty t).isPtr
    split at h
    · rename_i hb; obtain ⟨e, hu⟩ := hu hb
      obtain ⟨b, hr, hF⟩ := ptrEq_out hu h
      exact ⟨_, _, run_eql _ _ (fun _ => rfl) (by cases p <;> cases q <;> rfl) hr, hF⟩
    · rename_i hb; obtain ⟨e, hu⟩ := hu hb
      obtain ⟨b, hr, hF⟩ := ptrEq_out hu h
      exact ⟨_, _, run_neq _ _ (fun _ => rfl) (by cases p <;> cases q <;> rfl) hr, hF⟩
    · exact h.elim
  · have hu := (hC.ty t).isSlc
    split at h
    · rename_i hb; obtain ⟨e, hu⟩ := hu hb; exact ⟨_, _, run_eql _ _ (fun _ => rfl) rfl (equalIn_slc _ _ _ e _ _ _ _ _ _ hu), h⟩
    · rename_i hb; obtain ⟨e, hu⟩ := hu hb; exact ⟨_, _, run_neq _ _ (fun _ => rfl) rfl (equalIn_slc _ _ _ e _ _ _ _ _ _ hu), h⟩
    · exact h.elim
  · have hu := (hC.ty t).isMap
    split at h
    · rename_i hb; obtain ⟨k, e, hu⟩ := hu hb; exact ⟨_, _, run_eql _ _ (fun _ => rfl) rfl (equalIn_map _ _ _ k e _ _ hu), h⟩
    · rename_i hb; obtain ⟨k, e, hu⟩ := hu hb; exact ⟨_, _, run_neq _ _ (fun _ => rfl) rfl (equalIn_map _ _ _ k e _ _ hu), h⟩
    · exact h.elim
  · exact rawOut h
theorem denBin_run {C : Ctx} (hC : C.Ok) {op : BinOp} {t : TypeId} {cx cy : Operand} {x y : Value} {ot : TypeId} {w : World} {K : Value → World → Prop} (h : denBin C op t cx cy x y ot w K) :
    ∃ v w', (do eqGuard op t cx cy x y; binOp op t x y : Sem Value).run C.P w = .ok v w' ∧ K v w' := by
  unfold denBin at h
  split at h
  · exact rawOut h
  · exact denBin2_run hC h
end Go.Proofs.YtibjkknfgppogaaDoor.Eng
