/- The engine's third part: each operation of the model, and what it owes. -/
import Derived.Test.YtibjkknfgppogaaDoorEngB
set_option linter.unusedVariables false
set_option linter.unusedSimpArgs false
namespace Go.Proofs.YtibjkknfgppogaaDoor.Eng
open Go

def evps (e : Env) : List (Nat × Operand) → Option (List (Nat × Value))
  | [] => some []
  | (i, x) :: r => match ev e x with
    | none => none
    | some v => match evps e r with
      | none => none
      | some vs => some ((i, v) :: vs)
theorem Sim.evps {n : Nat} {a : Act} {e : Env} (h : Sim n a e) : ∀ {l : List (Nat × Operand)} {vs : List (Nat × Value)}, Eng.evps e l = some vs → l.map (fun p => (p.1, a.eval p.2)) = vs
  | [], vs, hx => by simp [Eng.evps] at hx; simp [hx]
  | (i, x) :: r, vs, hx => by
    simp only [Eng.evps] at hx
    split at hx
    · cases hx
    · rename_i v hv
      split at hx
      · cases hx
      · rename_i t ht
        cases hx
        simp [h.ev hv, h.evps ht]
/-- Cells laid into a list, from a place on. -/
def layAt (cells : List Value) (off : Nat) (vs : List Value) : List Value := cells.take off ++ vs ++ cells.drop (off + vs.length)
def layAll (place : Nat → Option (Nat × Nat)) (cells : List Value) : List (Nat × Value) → Option (List Value)
  | [] => some cells
  | (i, v) :: rest => match place i with
    | none => none
    | some (off, size) => match Nat.beq v.cells.toList.length size && Nat.ble (off + size) cells.length with
      | false => none
      | true => layAll place (layAt cells off v.cells.toList) rest
theorem foldl_lay (off : Nat) : ∀ (vs : List Value) (k : Nat) (cs : Array Value), off + k + vs.length ≤ cs.size →
    (vs.zipIdx k).foldl (fun cs (p : Value × Nat) => cs.setIfInBounds (off + p.2) p.1) cs = (layAt cs.toList (off + k) vs).toArray
  | [], k, cs, h => by simp [layAt]
  | v :: r, k, cs, h => by
    simp only [List.length_cons] at h
    rw [List.zipIdx_cons, List.foldl_cons, foldl_lay off r (k + 1) _ (by simp; omega)]
    congr 1
    have hi : off + k < cs.toList.length := by simp; omega
    simp only [layAt, Array.toList_setIfInBounds, List.length_cons, List.set_eq_take_append_cons_drop, hi, if_true]
    have hlen : (cs.toList.take (off + k)).length = off + k := by rw [List.length_take]; omega
    rw [show off + (k + 1) = (cs.toList.take (off + k)).length + 1 from by omega, List.take_length_add_append, show (cs.toList.take (off + k)).length + 1 + r.length = (cs.toList.take (off + k)).length + (1 + r.length) from by omega, List.drop_length_add_append]
    rw [Nat.add_comm 1 r.length]
    simp only [List.drop_succ_cons, List.drop_drop, List.take_succ_cons, List.take_zero, List.append_assoc, List.cons_append, List.nil_append]
    rw [show off + k + 1 + r.length = off + k + (r.length + 1) from by omega]
theorem fill_of_lay {place : Nat → Option (Nat × Nat)} : ∀ {ps : List (Nat × Value)} {cells out : List Value}, layAll place cells ps = some out → Instr.fill place cells.toArray ps = some out.toArray
  | [], cells, out, h => by simp [layAll] at h; simp [Instr.fill, h]
  | (i, v) :: rest, cells, out, h => by
    simp only [layAll] at h
    split at h
    · cases h
    · rename_i off size hp
      split at h
      · cases h
      · rename_i hb
        have hb1 : v.cells.toList.length = size := Nat.eq_of_beq_eq_true (Bool.and_eq_true_iff.1 hb).1
        have hb2 : off + size ≤ cells.length := Nat.le_of_ble_eq_true (Bool.and_eq_true_iff.1 hb).2
        have h1 : v.cells.size = size := by rw [← hb1]; simp
        simp only [Instr.fill, hp]
        rw [if_neg (by simp [h1]; omega)]
        have := fill_of_lay h
        rw [← this]
        congr 1
        have hf := foldl_lay off v.cells.toList 0 cells.toArray (by simp [h1]; omega)
        simp only [Nat.add_zero] at hf
        rw [← hf, ← Array.foldl_toList]
        simp [Array.toList_zipIdx]

def repAt (z : List Value) : Nat → List Value
  | 0 => []
  | n + 1 => z ++ repAt z n
theorem repAt_get (z : List Value) (hz : 0 < z.length) : ∀ (n i : Nat), i < n * z.length → (repAt z n)[i]? = z[i % z.length]?
  | 0, i, h => by simp at h
  | n + 1, i, h => by
    simp only [repAt]
    rw [Nat.succ_mul] at h
    by_cases hi : i < z.length
    · rw [List.getElem?_append_left hi, Nat.mod_eq_of_lt hi]
    · rw [List.getElem?_append_right (by omega), repAt_get z hz n _ (by omega), Nat.mod_eq_sub_mod (a := i) (by omega)]
theorem repAt_len (z : List Value) : ∀ n, (repAt z n).length = n * z.length
  | 0 => by simp [repAt]
  | n + 1 => by simp [repAt, repAt_len z n, Nat.succ_mul]; omega
theorem range_zero (z : Array Value) (n : Nat) (hz : 0 < z.size) : (Array.range (n * z.size)).map (z[· % z.size]!) = (repAt z.toList n).toArray := by
  apply Array.ext_getElem?
  intro i
  by_cases hi : i < n * z.size
  · have h1 : i % z.size < z.size := Nat.mod_lt _ hz
    rw [Array.getElem?_map, Array.getElem?_range, if_pos hi]
    simp only [Option.map_some, List.getElem?_toArray]
    rw [repAt_get _ (by simpa using hz) _ _ (by simpa using hi)]
    simp [getElem!_pos, h1]
  · rw [Array.getElem?_eq_none (by simp; omega), Array.getElem?_eq_none (by simp [repAt_len]; omega)]

def slBase (p : Option Addr) (l m s : Nat) : Option Addr := if m = l then p else p.map (·.add (l * s))
def bnd (e : Env) (x : Option Operand) (d : Nat) : Option Int := match x with
  | none => some (d : Int)
  | some o => match ev e o with
    | some (.int _ n) => some n
    | _ => none
def okFn : Value → Bool
  | .func (.func _) _ _ => true
  | .iface _ _ => true
  | _ => false
def listGet {α : Type} : List α → Nat → Option α
  | [], _ => none
  | x :: _, 0 => some x
  | _ :: r, n + 1 => listGet r n
theorem listGet_eq {α : Type} : ∀ (l : List α) (i : Nat), listGet l i = l[i]?
  | [], _ => by simp [listGet]
  | _ :: _, 0 => by simp [listGet]
  | _ :: r, n + 1 => by simp [listGet, listGet_eq r n]

def offPlace (l : List (Nat × Nat × Bool)) (i : Nat) : Option (Nat × Nat) := match listGet l i with
  | some x => some (x.1, x.2.1 + 1)
  | none => none
def arrPlace (s i : Nat) : Option (Nat × Nat) := some (i * s, s)
theorem offPlace_eq (l : List (Nat × Nat × Bool)) (i : Nat) : offPlace l i = (l.map fun x => (x.1, x.2.1 + 1))[i]? := by
  simp only [offPlace, listGet_eq, List.getElem?_map]
  cases l[i]? <;> rfl

def denBuiltin (C : Ctx) (b : Builtin) (ats : List TypeId) (t : TypeId) (consts : Array Bool) (args : List Value) (w : World) (K : Value → World → Prop) : Prop :=
  match b with
  | .len => match ats, args with
    | [u], [.string s] => match (C.ty u).isStr with | true => K (.int .i64 s.size) w | false => False
    | [u], [.slice _ n _] => match (C.ty u).isSlc with | true => K (.int .i64 n) w | false => False
    | _, args => Raw C.P (Go.Builtin.len_ ats.toArray t args.toArray) (C.ty t).rs w K
  | .append => Raw C.P (Go.Builtin.append_ ats.toArray t args.toArray) (C.ty t).rs w K
  | .cap => Raw C.P (Go.Builtin.cap_ ats.toArray t args.toArray) (C.ty t).rs w K
  | .copy => Raw C.P (Go.Builtin.copy_ ats.toArray t args.toArray) (C.ty t).rs w K
  | .delete => Raw C.P (Go.Builtin.delete_ ats.toArray t args.toArray) (C.ty t).rs w K
  | .clear => Raw C.P (Go.Builtin.clear_ ats.toArray t args.toArray) (C.ty t).rs w K
  | .max => Raw C.P (Go.Builtin.max_ ats.toArray t args.toArray) (C.ty t).rs w K
  | .min => Raw C.P (Go.Builtin.min_ ats.toArray t args.toArray) (C.ty t).rs w K
  | _ => False
theorem denBuiltin_run {C : Ctx} (hC : C.Ok) {b : Builtin} {ats : List TypeId} {t : TypeId} {consts : Array Bool} {args : List Value} {w : World} {K : Value → World → Prop} (h : denBuiltin C b ats t consts args w K) :
    ∃ v w', (builtin b ats.toArray t consts args.toArray).run C.P w = .ok (.value v) w' ∧ K v w' := by
  cases b <;> simp only [denBuiltin] at h
  case len =>
    split at h
    · rename_i u s
      split at h
      · rename_i hu
        exact ⟨_, _, by simp [builtin, Go.Builtin.len_, run_underlying ((hC.ty u).isStr hu), Result.andThen, goInt], h⟩
      · exact h.elim
    · rename_i u _ n _
      split at h
      · rename_i hu
        obtain ⟨e, hu⟩ := (hC.ty u).isSlc hu
        exact ⟨_, _, by simp [builtin, Go.Builtin.len_, run_underlying hu, Result.andThen, goInt], h⟩
      · exact h.elim
    · obtain ⟨v, w', hr, hk⟩ := rawOut h
      exact ⟨v, w', by simp [builtin, hr, Result.andThen], hk⟩
  all_goals first
    | exact h.elim
    | (obtain ⟨v, w', hr, hk⟩ := rawOut h; exact ⟨v, w', by simp [builtin, hr, Result.andThen], hk⟩)

def denVal (C : Ctx) (o : Oper) (e : Env) (w : World) (K : Value → World → Prop) : Prop :=
  match o.op with
  | .move x => match ev e x with | some v => K v w | none => False
  | .assign x => match ev e x with | some v => K v w | none => False
  | .pick c a b => match ev e c, ev e a, ev e b with
    | some (.bool t), some x, some y => CondP t (K x w) (K y w)
    | _, _, _ => False
  | .alloc t => match (C.ty t).zero with
    | some z => ∀ w', w' = w.alloc (.cells z.cells t) → K (.pointer (some ⟨w.heap.size, 0, none⟩)) w'
    | none => False
  | .box t x => match ev e x with
    | some v => ∀ w', w' = w.alloc (.cells v.cells t) → K (.pointer (some ⟨w.heap.size, 0, none⟩)) w'
    | none => False
  | .build t ps => match (C.ty t).zero, evps e ps.toList, (C.ty t).offs, (C.ty t).arr with
    | some z, some vs, some l, _ => match layAll (offPlace l) z.cells.toList vs with
      | some out => K (.agg out.toArray) w
      | none => False
    | some z, some vs, none, some (_, s) => match layAll (arrPlace s) z.cells.toList vs with
      | some out => K (.agg out.toArray) w
      | none => False
    | _, _, _, _ => False
  | .buildSlice t n ps => match (C.ty t).slc with
    | none => False
    | some (u, s) => match (C.ty u).zero, evps e ps.toList with
      | some z, some vs => match Nat.ble (n * s) 16777216 && Nat.ble 1 s && Nat.beq z.cells.toList.length s with
        | false => False
        | true => match layAll (arrPlace s) (repAt z.cells.toList n) vs with
          | some out => ∀ w', w' = w.alloc (.cells out.toArray u) → K (.slice (some ⟨w.heap.size, 0, none⟩) n n) w'
          | none => False
      | _, _ => False
  | .load t x => match ev e x with
    | some (.pointer p) => NilC p fun ad => match (C.ty t).agg, (C.ty t).rs, (C.ty t).size with
      | some false, some (.one (.leaf l)), _ => exL l fun v => w.cell? ad = some v ∧ K v w
      | some true, some (.one (.agg ls)), some n => match Nat.beq n ls.length with
        | true => exLs ls fun vs => CellsAt w ad vs 0 ∧ K (.agg vs.toArray) w
        | false => False
      | _, _, _ => False
    | _ => False
  | .store t x y => match ev e x, ev e y, (C.ty t).agg, (C.ty t).size with
    | some (.pointer p), some v, some false, some 1 => NilC p fun ad => StoreP w ad (fun w' => K undef w') [v] 0
    | some (.pointer p), some (.agg cs), some true, some n => match Nat.beq cs.toList.length n with
      | true => NilC p fun ad => StoreP w ad (fun w' => K undef w') cs.toList 0
      | false => False
    | _, _, _, _ => False
  | .nilCheck x => match ev e x with
    | some (.pointer p) => NilC p fun ad => K (.pointer (some ad)) w
    | some v => okFn v = true ∧ K v w
    | none => False
  | .binOp op t x y _ => match ev e x, ev e y with
    | some a, some b => denBin C op t x y a b o.type w K
    | _, _ => False
  | .unOp op _ x => match op, ev e x with
    | .not, some (.bool b) => K (.bool (!b)) w
    | .neg, some (.int k n) => Ar k (0 - n) fun m => K (.int k m) w
    | _, _ => False
  | .convert s d x => match ev e x, (C.ty d).intk, (C.ty s).intk with
    | some (.int _ n), some k', some _ => K (.int k' (k'.wrap n)) w
    | some v, _, _ => Raw C.P (convert s d v) (C.ty d).rs w K
    | _, _, _ => False
  | .makeInterface t x => match (C.ty t).conc, ev e x with
    | true, some v => K (.iface t v) w
    | _, _ => False
  | .makeFunc fn first cap => match evs e first.toList, evs e cap.toList with
    | some vs, some us => K (.func fn vs.toArray us.toArray) w
    | _, _ => False
  | .makeMap t r => match r with
    | none => Raw C.P (Instr.makeMap t none) (C.ty o.type).rs w K
    | some x => match ev e x with
      | some v => Raw C.P (Instr.makeMap t (some v)) (C.ty o.type).rs w K
      | none => False
  | .makeSlice t l c => match ev e l, ev e c with
    | some a, some b => Raw C.P (Instr.makeSlice t a b) (C.ty o.type).rs w K
    | _, _ => False
  | .slice t x lo hi mx => match ev e x with
    | some (.string s) => match (C.ty t).isStr, bnd e lo 0, bnd e hi s.size, mx with
      | true, some l, some h, none => 0 ≤ l ∧ l ≤ h ∧ h ≤ s.size ∧ K (.string (s.extract l.toNat h.toNat)) w
      | _, _, _, _ => False
    | some (.slice p n c) => match (C.ty t).slc, bnd e lo 0, bnd e hi n, bnd e mx c with
      | some (_, s), some l, some h, some m => 0 ≤ l ∧ l ≤ h ∧ (match hi with | none => True | some _ => h ≤ m) ∧ (match mx with | none => True | some _ => m ≤ c) ∧ (match hi, mx with | none, some _ => False | _, _ => True) ∧ K (.slice (slBase p l.toNat m.toNat s) (h.toNat - l.toNat) (m.toNat - l.toNat)) w
      | _, _, _, _ => False
    | _ => False
  | .fieldAddr t x f => match ev e x, (C.ty t).offs with
    | some (.pointer p), some l => NilC p fun ad => match listGet l f with
      | some y => K (.pointer (some (ad.add y.1))) w
      | none => False
    | _, _ => False
  | .field t x f => match ev e x, (C.ty t).offs with
    | some (.agg cs), some l => match listGet l f with
      | some (off, s, true) => K (.agg ((cs.toList.drop off).take (s + 1)).toArray) w
      | some (off, _, false) => match listGet cs.toList off with
        | some v => K v w
        | none => False
      | none => False
    | _, _ => False
  | .indexAddr t x i => match ev e x, ev e i with
    | some (.slice p n _), some (.int _ j) => match (C.ty t).slc with
      | some (_, s) => NilC p fun ad => 0 ≤ j ∧ j < n ∧ K (.pointer (some (ad.add (j.toNat * s)))) w
      | none => False
    | some (.pointer p), some (.int _ j) => match (C.ty t).arr with
      | some (n, s) => NilC p fun ad => 0 ≤ j ∧ j < n ∧ K (.pointer (some (ad.add (j.toNat * s)))) w
      | none => False
    | _, _ => False
  | .index t x i => match ev e x, ev e i with
    | some (.string s), some (.int _ j) => match (C.ty t).isStr with
      | true => 0 ≤ j ∧ j < s.size ∧ K (.int .u8 (btAt s j)) w
      | false => False
    | some a, some b => Raw C.P (Instr.index t a b) (C.ty o.type).rs w K
    | _, _ => False
  | .lookup t m k ok => match ev e m, ev e k with
    | some a, some b => Raw C.P (Instr.lookup t a b ok) (C.ty o.type).rs w K
    | _, _ => False
  | .mapUpdate t m k x => match ev e m, ev e k, ev e x with
    | some a, some b, some c => RawU C.P (Instr.mapUpdate t a b c) w K
    | _, _, _ => False
  | .insert t m k x => match ev e m, ev e k, ev e x with
    | some a, some b, some c => RawU C.P (Instr.mapUpdate t a b c) w K
    | _, _, _ => False
  | .mapEntry t m k => match ev e m, ev e k with
    | some a, some b => match (C.ty t).elemSh with
      | some sh => Raw C.P (Instr.mapEntry t a b) (some (.tup [sh, .leaf (.int .i64)])) w K
      | none => False
    | _, _ => False
  | .entryStore t m s x => match ev e m, ev e s, ev e x with
    | some a, some b, some c => RawU C.P (Instr.entryStore t a b c) w K
    | _, _, _ => False
  | .range t x => match ev e x with
    | some a => Raw C.P (Instr.range t a) (some (.one (.leaf .ptr))) w K
    | none => False
  | .next x s => match ev e x with
    | some a => Raw C.P (Instr.next a s o.type) (C.ty o.type).rs w K
    | none => False
  | .entry x => match ev e x with
    | some a => Raw C.P (Instr.entry a) (C.ty o.type).rs w K
    | none => False
  | .typeAssert x xt at_ ok => match ev e x with
    | some a => Raw C.P (Instr.typeAssert a xt at_ ok) (C.ty o.type).rs w K
    | none => False
  | .extract x i => match ev e x with
    | some (.tuple vs) => match listGet vs.toList i with
      | some v => K v w
      | none => False
    | _ => False
  | .call c => match c.callee with
    | .builtin b => match evs e c.args.toList with
      | some vs => denBuiltin C b c.argTypes.toList o.type (c.args.map fun | .const _ => true | _ => false) vs w K
      | none => False
    | _ => False
  | _ => False
end Go.Proofs.YtibjkknfgppogaaDoor.Eng
