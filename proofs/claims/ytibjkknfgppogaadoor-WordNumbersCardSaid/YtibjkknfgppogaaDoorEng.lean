/- The engine of this claim's walks: what a piece of Go code owes, as one proposition over plain values and the world, and a proof that this is enough. -/
import Derived.OrdersHeld
import Derived.WalkKit
import Derived.RowKit3
set_option linter.unusedVariables false
set_option linter.unusedSimpArgs false
namespace Go.Proofs.YtibjkknfgppogaaDoor.Eng
open Go

/-! ### Shapes of values -/
inductive Leaf where
  | int (k : IntKind) | bool | str | ptr | slice | map | any
inductive Sh where
  | leaf (l : Leaf) | agg (ls : List Leaf)
inductive Rs where
  | one (s : Sh) | tup (ss : List Sh)

def exL : Leaf → (Value → Prop) → Prop
  | .int k, F => ∃ n : Int, F (.int k n)
  | .bool, F => ∃ b : Bool, F (.bool b)
  | .str, F => ∃ s : ByteArray, F (.string s)
  | .ptr, F => ∃ p : Option Addr, F (.pointer p)
  | .slice, F => ∃ (a : Option Addr) (n c : Nat), F (.slice a n c)
  | .map, F => ∃ r : Option Nat, F (.map r)
  | .any, F => ∃ v : Value, F v
def exLs : List Leaf → (List Value → Prop) → Prop
  | [], F => F []
  | l :: r, F => exL l fun v => exLs r fun vs => F (v :: vs)
def exSh : Sh → (Value → Prop) → Prop
  | .leaf l, F => exL l F
  | .agg ls, F => exLs ls fun vs => F (.agg vs.toArray)
def exShs : List Sh → (List Value → Prop) → Prop
  | [], F => F []
  | s :: r, F => exSh s fun v => exShs r fun vs => F (v :: vs)
def exR : Rs → (Value → Prop) → Prop
  | .one s, F => exSh s F
  | .tup ss, F => exShs ss fun vs => F (.tuple vs.toArray)
theorem exL_out {l : Leaf} {F : Value → Prop} (h : exL l F) : ∃ v, F v := by
  cases l <;> simp only [exL] at h
  case slice => obtain ⟨a, n, c, h⟩ := h; exact ⟨_, h⟩
  all_goals (obtain ⟨x, h⟩ := h; exact ⟨_, h⟩)
theorem exLs_len : ∀ {ls : List Leaf} {F : List Value → Prop}, exLs ls F → ∃ vs, vs.length = ls.length ∧ F vs
  | [], _, h => ⟨[], rfl, h⟩
  | _ :: _, _, h => by
    obtain ⟨v, h⟩ := exL_out h
    obtain ⟨vs, hl, h⟩ := exLs_len h
    exact ⟨_, by simp [hl], h⟩
theorem exLs_out {ls : List Leaf} {F : List Value → Prop} (h : exLs ls F) : ∃ vs, F vs := by
  obtain ⟨vs, _, h⟩ := exLs_len h
  exact ⟨vs, h⟩
theorem exSh_out {s : Sh} {F : Value → Prop} (h : exSh s F) : ∃ v, F v := by
  cases s with
  | leaf l => exact exL_out h
  | agg ls => obtain ⟨vs, h⟩ := exLs_out h; exact ⟨_, h⟩
theorem exShs_out : ∀ {ss : List Sh} {F : List Value → Prop}, exShs ss F → ∃ vs, F vs
  | [], _, h => ⟨[], h⟩
  | _ :: _, _, h => by
    obtain ⟨v, h⟩ := exSh_out h
    obtain ⟨vs, h⟩ := exShs_out h
    exact ⟨_, h⟩
theorem exR_out {r : Rs} {F : Value → Prop} (h : exR r F) : ∃ v, F v := by
  cases r with
  | one s => exact exSh_out h
  | tup ss => obtain ⟨vs, h⟩ := exShs_out h; exact ⟨_, h⟩

def allL : Leaf → (Value → Prop) → Prop
  | .int k, F => ∀ n : Int, F (.int k n)
  | .bool, F => ∀ b : Bool, F (.bool b)
  | .str, F => ∀ s : ByteArray, F (.string s)
  | .ptr, F => ∀ p : Option Addr, F (.pointer p)
  | .slice, F => ∀ (a : Option Addr) (n c : Nat), F (.slice a n c)
  | .map, F => ∀ r : Option Nat, F (.map r)
  | .any, F => ∀ v : Value, F v
def allLs : List Leaf → (List Value → Prop) → Prop
  | [], F => F []
  | l :: r, F => allL l fun v => allLs r fun vs => F (v :: vs)
def allSh : Sh → (Value → Prop) → Prop
  | .leaf l, F => allL l F
  | .agg ls, F => allLs ls fun vs => F (.agg vs.toArray)
def allShs : List Sh → (List Value → Prop) → Prop
  | [], F => F []
  | s :: r, F => allSh s fun v => allShs r fun vs => F (v :: vs)

/-- A value's own shape. -/
def leafOf : Value → Leaf
  | .int k _ => .int k
  | .bool _ => .bool
  | .string _ => .str
  | .pointer _ => .ptr
  | .slice .. => .slice
  | .map _ => .map
  | _ => .any
def shOf : Value → Sh
  | .agg cs => .agg (cs.toList.map leafOf)
  | v => .leaf (leafOf v)
/-- 'v' has the shape: it is one of those over which 'allL' goes. -/
def IsL : Leaf → Value → Prop
  | .int k, v => ∃ n : Int, v = .int k n
  | .bool, v => ∃ b : Bool, v = .bool b
  | .str, v => ∃ s : ByteArray, v = .string s
  | .ptr, v => ∃ p : Option Addr, v = .pointer p
  | .slice, v => ∃ (a : Option Addr) (n c : Nat), v = .slice a n c
  | .map, v => ∃ r : Option Nat, v = .map r
  | .any, _ => True
theorem allL_out {l : Leaf} {F : Value → Prop} (h : allL l F) {v : Value} (hv : IsL l v) : F v := by
  cases l <;> simp only [allL, IsL] at h hv
  case slice => obtain ⟨a, n, c, rfl⟩ := hv; exact h _ _ _
  case any => exact h _
  all_goals (obtain ⟨x, rfl⟩ := hv; exact h _)
def IsLs : List Leaf → List Value → Prop
  | [], vs => vs = []
  | l :: r, vs => ∃ v t, vs = v :: t ∧ IsL l v ∧ IsLs r t
theorem allLs_out : ∀ {ls : List Leaf} {F : List Value → Prop} {vs : List Value}, allLs ls F → IsLs ls vs → F vs
  | [], _, _, h, hv => by cases hv; exact h
  | _ :: _, F, _, h, hv => by
    obtain ⟨v, t, rfl, h1, h2⟩ := hv
    exact allLs_out (F := fun vs => F (v :: vs)) (allL_out h h1) h2
def IsSh : Sh → Value → Prop
  | .leaf l, v => IsL l v
  | .agg ls, v => ∃ vs : List Value, v = .agg vs.toArray ∧ IsLs ls vs
theorem allSh_out {s : Sh} {F : Value → Prop} (h : allSh s F) {v : Value} (hv : IsSh s v) : F v := by
  cases s with
  | leaf l => exact allL_out h hv
  | agg ls => obtain ⟨vs, rfl, hv⟩ := hv; exact allLs_out (F := fun vs => F (.agg vs.toArray)) h hv
def IsShs : List Sh → List Value → Prop
  | [], vs => vs = []
  | s :: r, vs => ∃ v t, vs = v :: t ∧ IsSh s v ∧ IsShs r t
theorem allShs_out : ∀ {ss : List Sh} {F : List Value → Prop} {vs : List Value}, allShs ss F → IsShs ss vs → F vs
  | [], _, _, h, hv => by cases hv; exact h
  | _ :: _, F, _, h, hv => by
    obtain ⟨v, t, rfl, h1, h2⟩ := hv
    exact allShs_out (F := fun vs => F (v :: vs)) (allSh_out h h1) h2
theorem allL_in {l : Leaf} {F : Value → Prop} (h : ∀ v, IsL l v → F v) : allL l F := by
  cases l <;> simp only [allL]
  case slice => exact fun a n c => h _ ⟨a, n, c, rfl⟩
  case any => exact fun v => h v trivial
  all_goals exact fun x => h _ ⟨x, rfl⟩
theorem allLs_in : ∀ {ls : List Leaf} {F : List Value → Prop}, (∀ vs, IsLs ls vs → F vs) → allLs ls F
  | [], _, h => h [] rfl
  | _ :: _, _, h => allL_in fun v hv => allLs_in fun vs hvs => h _ ⟨v, vs, rfl, hv, hvs⟩
theorem allSh_in {s : Sh} {F : Value → Prop} (h : ∀ v, IsSh s v → F v) : allSh s F := by
  cases s with
  | leaf l => exact allL_in h
  | agg ls => exact allLs_in fun vs hvs => h _ ⟨vs, rfl, hvs⟩
theorem allShs_in : ∀ {ss : List Sh} {F : List Value → Prop}, (∀ vs, IsShs ss vs → F vs) → allShs ss F
  | [], _, h => h [] rfl
  | _ :: _, _, h => allSh_in fun v hv => allShs_in fun vs hvs => h _ ⟨v, vs, rfl, hv, hvs⟩
/-- Does a value have a shape? (computed) -/
def hasL : Leaf → Value → Bool
  | .int k, .int k' _ => k == k'
  | .bool, .bool _ => true
  | .str, .string _ => true
  | .ptr, .pointer _ => true
  | .slice, .slice .. => true
  | .map, .map _ => true
  | .any, _ => true
  | _, _ => false
def hasLs : List Leaf → List Value → Bool
  | [], [] => true
  | l :: r, v :: t => hasL l v && hasLs r t
  | _, _ => false
def hasSh : Sh → Value → Bool
  | .leaf l, v => hasL l v
  | .agg ls, .agg cs => hasLs ls cs.toList
  | _, _ => false
def hasShs : List Sh → List Value → Bool
  | [], [] => true
  | s :: r, v :: t => hasSh s v && hasShs r t
  | _, _ => false
theorem isL_of {l : Leaf} {v : Value} (h : hasL l v = true) : IsL l v := by
  cases l <;> cases v <;> simp_all [hasL, IsL]
theorem isLs_of : ∀ {ls : List Leaf} {vs : List Value}, hasLs ls vs = true → IsLs ls vs
  | [], [], _ => rfl
  | [], _ :: _, h => by simp [hasLs] at h
  | _ :: _, [], h => by simp [hasLs] at h
  | _ :: _, v :: t, h => by
    simp only [hasLs, Bool.and_eq_true] at h
    exact ⟨v, t, rfl, isL_of h.1, isLs_of h.2⟩
theorem isSh_of {s : Sh} {v : Value} (h : hasSh s v = true) : IsSh s v := by
  cases s with
  | leaf l => exact isL_of h
  | agg ls =>
    cases v <;> simp only [hasSh, Bool.false_eq_true] at h
    rename_i cs
    exact ⟨cs.toList, by simp, isLs_of h⟩
theorem isShs_of : ∀ {ss : List Sh} {vs : List Value}, hasShs ss vs = true → IsShs ss vs
  | [], [], _ => rfl
  | [], _ :: _, h => by simp [hasShs] at h
  | _ :: _, [], h => by simp [hasShs] at h
  | _ :: _, v :: t, h => by
    simp only [hasShs, Bool.and_eq_true] at h
    exact ⟨v, t, rfl, isSh_of h.1, isShs_of h.2⟩

theorem exL_is {l : Leaf} {F : Value → Prop} (h : exL l F) : ∃ v, IsL l v ∧ F v := by
  cases l <;> simp only [exL] at h
  case slice => obtain ⟨a, n, c, h⟩ := h; exact ⟨_, ⟨a, n, c, rfl⟩, h⟩
  case any => obtain ⟨x, h⟩ := h; exact ⟨_, trivial, h⟩
  all_goals (obtain ⟨x, h⟩ := h; exact ⟨_, ⟨x, rfl⟩, h⟩)
theorem exL_mk {l : Leaf} {F : Value → Prop} {v : Value} (hv : IsL l v) (h : F v) : exL l F := by
  cases l <;> simp only [IsL] at hv
  case slice => obtain ⟨a, n, c, rfl⟩ := hv; exact ⟨a, n, c, h⟩
  case any => exact ⟨v, h⟩
  all_goals (obtain ⟨x, rfl⟩ := hv; exact ⟨x, h⟩)
theorem exLs_is : ∀ {ls : List Leaf} {F : List Value → Prop}, exLs ls F → ∃ vs, IsLs ls vs ∧ F vs
  | [], _, h => ⟨[], rfl, h⟩
  | _ :: _, _, h => by
    obtain ⟨v, hv, h⟩ := exL_is h
    obtain ⟨vs, hl, h⟩ := exLs_is h
    exact ⟨_, ⟨v, vs, rfl, hv, hl⟩, h⟩
theorem exLs_mk : ∀ {ls : List Leaf} {F : List Value → Prop} {vs : List Value}, IsLs ls vs → F vs → exLs ls F
  | [], _, _, hv, h => by cases hv; exact h
  | _ :: _, F, _, hv, h => by
    obtain ⟨v, t, rfl, h1, h2⟩ := hv
    exact exL_mk h1 (exLs_mk (F := fun vs => F (v :: vs)) h2 h)

/-! ### What is known of the frame -/
abbrev Env := List (Nat × Value)
def Env.get : Env → Nat → Option Value
  | [], _ => none
  | (u, v) :: r, t => match Nat.beq u t with
    | true => some v
    | false => Env.get r t
def Env.put (e : Env) (d : Option Nat) (v : Value) : Env := match d with
  | none => e
  | some d => (d, v) :: e
def ev (e : Env) : Operand → Option Value
  | .tmp t => e.get t
  | .const v => some v
  | .global g => some (.pointer (some ⟨g, 0, none⟩))
  | .func f => some (.func (.func f) #[] #[])
def evs (e : Env) : List Operand → Option (List Value)
  | [] => some []
  | x :: r => match ev e x with
    | none => none
    | some v => match evs e r with
      | none => none
      | some vs => some (v :: vs)
/-- The frame has what the environment says. -/
structure Sim (n : Nat) (a : Act) (e : Env) : Prop where
  size : a.tmps.size = n
  defers : a.defers = []
  get : ∀ t v, e.get t = some v → a.tmps[t]? = some v
theorem Sim.ev {n : Nat} {a : Act} {e : Env} (h : Sim n a e) {x : Operand} {v : Value} (hx : Eng.ev e x = some v) : a.eval x = v := by
  cases x with
  | tmp t =>
    have := h.get t v hx
    simp only [Act.eval, Array.getD_eq_getD_getElem?, this, Option.getD_some]
  | const c => simpa [Eng.ev, Act.eval] using hx
  | global g => simpa [Eng.ev, Act.eval] using hx
  | func f => simpa [Eng.ev, Act.eval] using hx
theorem Sim.evs {n : Nat} {a : Act} {e : Env} (h : Sim n a e) : ∀ {l : List Operand} {vs : List Value}, Eng.evs e l = some vs → l.map a.eval = vs
  | [], vs, hx => by simp [Eng.evs] at hx; simp [hx]
  | x :: r, vs, hx => by
    simp only [Eng.evs] at hx
    split at hx
    · cases hx
    · rename_i v hv
      split at hx
      · cases hx
      · rename_i t ht
        cases hx
        simp [h.ev hv, h.evs ht]
theorem Sim.put {n : Nat} {a : Act} {e : Env} (h : Sim n a e) (d : Option Nat) (v : Value) (hd : ∀ t, d = some t → t < n) : Sim n (a.put d v) (e.put d v) := by
  cases d with
  | none => exact h
  | some d =>
    have hlt := hd d rfl
    refine ⟨by simp [Act.put, h.size], h.defers, fun t u hu => ?_⟩
    simp only [Env.put, Env.get] at hu
    split at hu
    · rename_i heq
      have : d = t := Nat.eq_of_beq_eq_true heq
      subst this
      cases hu
      simp [Act.put, h.size, hlt]
    · rename_i hne
      have : d ≠ t := Nat.ne_of_beq_eq_false hne
      have := h.get t u hu
      simp [Act.put, Array.getElem?_setIfInBounds_ne, *]

/-! ### Small words of the obligations -/
/-- Where the next new block will lie. -/
abbrev nb (w : World) : Addr := ⟨w.heap.size, 0, none⟩
def CondP (b : Bool) (p q : Prop) : Prop := match b with
  | true => p
  | false => q
theorem CondP.mk {b : Bool} {p q : Prop} (h : b = true → p) (k : b = false → q) : CondP b p q := by
  cases b
  · exact k rfl
  · exact h rfl
theorem CondP.yes {b : Bool} {p q : Prop} (hb : b = true) (h : p) : CondP b p q := by subst hb; exact h
theorem CondP.no {b : Bool} {p q : Prop} (hb : b = false) (h : q) : CondP b p q := by subst hb; exact h
def NilC (p : Option Addr) (k : Addr → Prop) : Prop := match p with
  | some a => k a
  | none => False
theorem NilC.mk {p : Option Addr} {k : Addr → Prop} (a : Addr) (h : p = some a) (hk : k a) : NilC p k := by subst h; exact hk
def Ar (k : IntKind) (z : Int) (F : Int → Prop) : Prop := F (k.wrap z)
def btAt (s : ByteArray) (i : Int) : Int := ((s.data[i.toNat]?).map (fun b => (b.toNat : Int))).getD 0
def CellsAt (w : World) (a : Addr) : List Value → Nat → Prop
  | [], _ => True
  | v :: r, i => w.cell? (a.add i) = some v ∧ CellsAt w a r (i + 1)
def StoreP (w : World) (a : Addr) (k : World → Prop) : List Value → Nat → Prop
  | [], _ => ∀ w', w' = w → k w'
  | v :: r, i => v.oneCell' = true ∧ (∃ u, w.cell? (a.add i) = some u) ∧ w.frozen? (a.add i) = false ∧ StoreP (w.setCell (a.add i) v) a k r (i + 1)
end Go.Proofs.YtibjkknfgppogaaDoor.Eng
