/- Maps, as lists of keys and values in the order in which they came. -/
import Derived.Test.YtpklkijdlnioaaaGreatZhLib
import Derived.MapKept
import Derived.Carry
set_option linter.unusedVariables false
set_option linter.unusedSimpArgs false
set_option linter.unusedSectionVars false
namespace Go.Proofs.YtpklkijdlnioaaaGreat.Eng
open Go Go.RowKit
/-- Where a key stands, and what stands there. -/
def lookIx {κ : Type} [DecidableEq κ] (k : κ) : List (κ × Value) → Nat → Option (Nat × Value)
  | [], _ => none
  | p :: r, i => if k = p.1 then some (i, p.2) else lookIx k r (i + 1)
def look {κ : Type} [DecidableEq κ] (k : κ) : List (κ × Value) → Option Value
  | [] => none
  | p :: r => if k = p.1 then some p.2 else look k r
theorem lookIx_eq {κ : Type} [DecidableEq κ] (k : κ) : ∀ (m : List (κ × Value)) (i : Nat), (lookIx k m i).map (·.2) = look k m
  | [], i => rfl
  | p :: r, i => by
    simp only [lookIx, look]
    split
    · rfl
    · exact lookIx_eq k r (i + 1)
/-- Keys of a type, as what they stand for. -/
structure KeyTy (P : Program) (kt : TypeId) (κ : Type) [DecidableEq κ] (kv : κ → Value) : Prop where
  check : ∀ (e : Bool) (k : κ) (w : World), (Instr.checkKey e 10000 kt (kv k)).run P w = .ok () w
  find : ∀ (k : κ) (es : List MapEntry) (m : List (κ × Value)) (w : World), es.map (fun x => (x.key, x.val)) = m.map (fun p => (kv p.1, p.2)) → (Instr.findKey kt (kv k) es).run P w = .ok (lookIx k m 0) w
/-- A map's block. -/
def MapIs {κ : Type} (kv : κ → Value) (w : World) (r : Nat) (m : List (κ × Value)) : Prop := ∃ es clock, w.heap[r]? = some (.map es clock) ∧ es.toList.map (fun x => (x.key, x.val)) = m.map (fun p => (kv p.1, p.2)) ∧ ∀ x ∈ es.toList, x.born < clock
theorem getObj_is {P : Program} {w : World} {r : Nat} {es : Array MapEntry} {c : Nat} (hb : w.heap[r]? = some (.map es c)) : (getObj r).run P w = .ok (.map es c) w := by simp [getObj, Sem.run, hb]
theorem setObj_is {P : Program} {w : World} {r : Nat} {es : Array MapEntry} {c : Nat} (o : Obj) (hb : w.heap[r]? = some (.map es c)) : (setObj r o).run P w = .ok () { w with heap := w.heap.setIfInBounds r o } := by simp [setObj, Sem.run, hb]
section
variable {P : Program} {kt et t : TypeId} {κ : Type} [DecidableEq κ] {kv : κ → Value}
theorem MapIs.lt {w : World} {r : Nat} {m : List (κ × Value)} (h : MapIs kv w r m) : r < w.heap.size := by
  obtain ⟨es, clock, h, _⟩ := h
  exact (Array.getElem?_eq_some_iff.1 h).1
theorem MapIs.same {w w' : World} {r : Nat} {m : List (κ × Value)} (h : MapIs kv w r m) (hs : w'.heap[r]? = w.heap[r]?) : MapIs kv w' r m := by
  obtain ⟨es, clock, h, hm, hs'⟩ := h
  exact ⟨es, clock, by rw [hs]; exact h, hm, hs'⟩
theorem MapIs.on {w w' : World} {r : Nat} {m : List (κ × Value)} (h : MapIs kv w r m) (hb : Below w.heap.size w w') : MapIs kv w' r m := h.same (hb.block r h.lt)
theorem map_new (w : World) : MapIs kv (w.alloc (.map #[] 0)) w.heap.size [] := ⟨#[], 0, alloc_new w _, rfl, by simp⟩
theorem run_look (K : KeyTy P kt κ kv) (ht : P.underlying t = some (.map kt et)) {z : Value} (hz : (P.info? et).map (·.zero) = some (some z)) {w : World} {r : Nat} {m : List (κ × Value)} (h : MapIs kv w r m) (k : κ) :
    (Instr.lookup t (.map (some r)) (kv k) true).run P w = .ok (.tuple #[(look k m).getD z, .bool (look k m).isSome]) w := by
  obtain ⟨es, clock, hb, hm, _⟩ := h
  unfold Instr.lookup
  simp only [Sem.run_bind, run_underlying ht, Result.andThen, getObj_is hb, Sem.run_pure, K.check, K.find k es.toList m w hm]
  have hl := lookIx_eq k m 0
  cases hx : lookIx k m 0 with
  | none =>
    rw [hx] at hl
    simp only [Option.map_none] at hl
    rw [← hl]
    simp [run_zero' hz, Result.andThen]
  | some q =>
    rw [hx] at hl
    simp only [Option.map_some] at hl
    rw [← hl]
    simp
theorem look_none {k : κ} {m : List (κ × Value)} : look k m = none ↔ ∀ p ∈ m, p.1 ≠ k := by
  induction m with
  | nil => simp [look]
  | cons p m ih =>
    simp only [look]
    split
    · rename_i e
      simp [e]
    · rename_i e
      rw [ih]
      constructor
      · intro h q hq
        rcases List.mem_cons.1 hq with rfl | hq
        · exact fun e' => e e'.symm
        · exact h q hq
      · exact fun h q hq => h q (by simp [hq])
/-- A key that isn't there comes to stand last. -/
theorem run_put_new (K : KeyTy P kt κ kv) (ht : P.underlying t = some (.map kt et)) {w : World} {r : Nat} {m : List (κ × Value)} (h : MapIs kv w r m) (k : κ) (v : Value) (hk : look k m = none) :
    ∃ w', (Instr.mapUpdate t (.map (some r)) (kv k) v).run P w = .ok () w' ∧ MapIs kv w' r (m ++ [(k, v)]) ∧ (∀ j, j ≠ r → w'.heap[j]? = w.heap[j]?) ∧ w'.heap.size = w.heap.size ∧ (∀ B w0, B ≤ r → Below B w0 w → Below B w0 w') := by
  obtain ⟨es, clock, hb, hm, hst⟩ := h
  have hlt := (Array.getElem?_eq_some_iff.1 hb).1
  have hl := lookIx_eq k m 0
  rw [hk] at hl
  have hx : lookIx k m 0 = none := by
    cases hx : lookIx k m 0 with
    | none => rfl
    | some q => rw [hx] at hl; cases hl
  refine ⟨{ w with heap := w.heap.setIfInBounds r (.map (es.push { key := kv k, val := v, born := clock }) (clock + 1)) }, ?_, ?_, ?_, by simp, ?_⟩
  · unfold Instr.mapUpdate
    simp only [Sem.run_bind, run_underlying ht, Result.andThen, getObj_is hb, K.check, K.find k es.toList m w hm, hx]
    exact setObj_is _ hb
  · refine ⟨es.push { key := kv k, val := v, born := clock }, clock + 1, by simp [hlt], by simp [hm], fun x hx => ?_⟩
    rw [Array.toList_push, List.mem_append, List.mem_singleton] at hx
    rcases hx with hx | rfl
    · have := hst x hx
      omega
    · exact Nat.lt_succ_self _
  · intro j hj
    simp [Array.getElem?_setIfInBounds_ne (fun e => hj e.symm)]
  · intro B w0 hB h0
    exact h0.trans ⟨rfl, rfl, rfl, by simp, fun j hj => by simp [Array.getElem?_setIfInBounds_ne (show r ≠ j by omega)]⟩
/-- A key was asked for that wasn't there: it stands last, and waits for its value. -/
def Pend {κ : Type} (kv : κ → Value) (w : World) (r : Nat) (m : List (κ × Value)) (k : κ) (c : Nat) : Prop := ∃ (es : Array MapEntry) (z : Value), w.heap[r]? = some (.map (es.push { key := kv k, val := z, born := c }) (c + 1)) ∧ es.toList.map (fun x => (x.key, x.val)) = m.map (fun p => (kv p.1, p.2)) ∧ ∀ x ∈ es.toList, x.born < c
theorem Pend.same {w w' : World} {r : Nat} {m : List (κ × Value)} {k : κ} {c : Nat} (h : Pend kv w r m k c) (hs : w'.heap[r]? = w.heap[r]?) : Pend kv w' r m k c := by
  obtain ⟨es, z, h, h2⟩ := h
  exact ⟨es, z, by rw [hs]; exact h, h2⟩
theorem run_entry_new (K : KeyTy P kt κ kv) (ht : P.underlying t = some (.map kt et)) {z : Value} (hz : (P.info? et).map (·.zero) = some (some z)) {w : World} {r : Nat} {m : List (κ × Value)} (h : MapIs kv w r m) (k : κ) (hk : look k m = none) :
    ∃ (c : Nat) (w' : World), (Instr.mapEntry t (.map (some r)) (kv k)).run P w = .ok (.tuple #[z, .int .i64 c]) w' ∧ Pend kv w' r m k c ∧ (∀ j, j ≠ r → w'.heap[j]? = w.heap[j]?) ∧ w'.heap.size = w.heap.size ∧ (∀ B w0, B ≤ r → Below B w0 w → Below B w0 w') := by
  obtain ⟨es, clock, hb, hm, hst⟩ := h
  have hlt := (Array.getElem?_eq_some_iff.1 hb).1
  have hl := lookIx_eq k m 0
  rw [hk] at hl
  have hx : lookIx k m 0 = none := by
    cases hx : lookIx k m 0 with
    | none => rfl
    | some q => rw [hx] at hl; cases hl
  refine ⟨clock, { w with heap := w.heap.setIfInBounds r (.map (es.push { key := kv k, val := z, born := clock }) (clock + 1)) }, ?_, ⟨es, z, by simp [hlt], hm, hst⟩, ?_, by simp, ?_⟩
  · unfold Instr.mapEntry
    simp only [Sem.run_bind, run_underlying ht, Result.andThen, getObj_is hb, K.check, K.find k es.toList m w hm, hx, run_zero' hz, setObj_is _ hb]
    rfl
  · intro j hj
    simp [Array.getElem?_setIfInBounds_ne (fun e => hj e.symm)]
  · intro B w0 hB h0
    exact h0.trans ⟨rfl, rfl, rfl, by simp, fun j hj => by simp [Array.getElem?_setIfInBounds_ne (show r ≠ j by omega)]⟩
theorem push_modify (es : Array MapEntry) (x : MapEntry) (v : Value) : (es.push x).modify es.size (fun e => { e with val := v }) = es.push { x with val := v } := by
  apply Array.ext
  · simp
  · intro i h1 h2
    simp only [Array.getElem_modify, Array.getElem_push]
    simp at h2
    by_cases hi : i < es.size
    · simp [hi, show ¬ es.size = i by omega]
    · simp [show es.size = i by omega]
theorem run_store_new {w : World} {r : Nat} {m : List (κ × Value)} {k : κ} {c : Nat} (t : TypeId) (h : Pend kv w r m k c) (v : Value) :
    ∃ w' : World, (Instr.entryStore t (.map (some r)) (.int .i64 c) v).run P w = .ok () w' ∧ MapIs kv w' r (m ++ [(k, v)]) ∧ (∀ j, j ≠ r → w'.heap[j]? = w.heap[j]?) ∧ w'.heap.size = w.heap.size ∧ (∀ B w0, B ≤ r → Below B w0 w → Below B w0 w') := by
  obtain ⟨es, z, hb, hm, hst⟩ := h
  have hlt := (Array.getElem?_eq_some_iff.1 hb).1
  have hf : (es.push { key := kv k, val := z, born := c }).findIdx? (fun e => ((e.born : Int) == (c : Int))) = some es.size := by
    rw [Array.findIdx?_eq_some_iff_getElem]
    refine ⟨by simp, by simp, fun j hj => ?_⟩
    have := hst es[j] (by simp)
    simp [Array.getElem_push_lt hj]
    omega
  refine ⟨{ w with heap := w.heap.setIfInBounds r (.map (es.push { key := kv k, val := v, born := c }) (c + 1)) }, ?_, ⟨es.push { key := kv k, val := v, born := c }, c + 1, by simp [hlt], by simp [hm], ?_⟩, ?_, by simp, ?_⟩
  · unfold Instr.entryStore
    simp only [Sem.run_bind, Result.andThen, getObj_is hb, asInt, asIntOf, Sem.run_map, Sem.run_pure, hf, push_modify]
    exact setObj_is _ hb
  · intro x hx
    rw [Array.toList_push, List.mem_append, List.mem_singleton] at hx
    rcases hx with hx | rfl
    · have := hst x hx
      omega
    · exact Nat.lt_succ_self _
  · intro j hj
    simp [Array.getElem?_setIfInBounds_ne (fun e => hj e.symm)]
  · intro B w0 hB h0
    exact h0.trans ⟨rfl, rfl, rfl, by simp, fun j hj => by simp [Array.getElem?_setIfInBounds_ne (show r ≠ j by omega)]⟩
theorem run_make {w : World} (t : TypeId) : (Instr.makeMap t none).run P w = .ok (.map (some w.heap.size)) (w.alloc (.map #[] 0)) := by
  unfold Instr.makeMap
  simp [Sem.run_bind, newObj, Sem.run, Result.andThen]
end
/-! ### Keys -/
theorem lookIx_now {κ : Type} [DecidableEq κ] {kv : κ → Value} {d : TypeDesc} (hs : ∀ a b, Instr.sameNow d (kv a) (kv b) = some (decide (a = b))) (k : κ) : ∀ (es : List MapEntry) (m : List (κ × Value)) (i : Nat), es.map (fun x => (x.key, x.val)) = m.map (fun p => (kv p.1, p.2)) → Instr.findNow d (kv k) es i = some (lookIx k m i)
  | [], m, i, h => by
    have : m = [] := by simpa using h.symm
    subst this
    rfl
  | e :: es, [], i, h => by simp at h
  | e :: es, p :: m, i, h => by
    simp only [List.map_cons, List.cons.injEq, Prod.mk.injEq] at h
    simp only [Instr.findNow, lookIx]
    rw [h.1.1, hs]
    by_cases hk : k = p.1
    · rw [decide_eq_true hk, if_pos hk, h.1.2]
    · rw [decide_eq_false hk, if_neg hk]
      exact lookIx_now hs k es m (i + 1) h.2
theorem keys_now {P : Program} {kt : TypeId} {κ : Type} [DecidableEq κ] {kv : κ → Value} {d : TypeDesc} (hd : P.underlying kt = some d) (hs : ∀ a b, Instr.sameNow d (kv a) (kv b) = some (decide (a = b)))
    (hc : ∀ (e : Bool) (k : κ) (w : World), (Instr.checkKey e 10000 kt (kv k)).run P w = .ok () w) : KeyTy P kt κ kv := by
  refine ⟨hc, fun k es m w h => ?_⟩
  unfold Instr.findKey
  simp only [Sem.run_bind, run_underlying hd, Result.andThen, lookIx_now hs k es m 0 h, Sem.run_pure]
abbrev intKey (n : Int) : Value := .int .i64 n
abbrev strKey (s : List UInt8) : Value := .string (str s)
abbrev pairKey (m : Int × Int) : Value := .agg #[.int .i64 m.1, .int .i64 m.2]
theorem int_keys {P : Program} {kt : TypeId} (hd : P.underlying kt = some (.int .i64)) : KeyTy P kt Int intKey := by
  refine keys_now hd (fun a b => by simp [Instr.sameNow, intKey]; exact (Bool.beq_eq_decide_eq a b)) (fun e k w => ?_)
  unfold Instr.checkKey
  simp [run_underlying hd, Result.andThen]
theorem str_inj {a b : List UInt8} (h : str a = str b) : a = b := by
  have := congrArg (fun x : ByteArray => x.data.toList) h
  simpa [str] using this
theorem str_keys {P : Program} {kt : TypeId} (hd : P.underlying kt = some .string) : KeyTy P kt (List UInt8) strKey := by
  refine keys_now hd (fun a b => ?_) (fun e k w => ?_)
  · simp only [Instr.sameNow, strKey]
    congr 1
    rw [Bool.eq_iff_iff, Go.MapKept.bytes_beq, decide_eq_true_eq]
    exact ⟨str_inj, fun h => by rw [h]⟩
  · unfold Instr.checkKey
    simp [run_underlying hd, Result.andThen]
theorem pair_asking {P : Program} {kt : TypeId} (hf : eqFact P kt [.i, .i] = true) (k : Int × Int) : ∀ (es : List MapEntry) (m : List ((Int × Int) × Value)) (i : Nat) (w : World), es.map (fun x => (x.key, x.val)) = m.map (fun p => (pairKey p.1, p.2)) → (Instr.findAsking kt (pairKey k) es i).run P w = .ok (lookIx k m i) w
  | [], m, i, w, h => by
    have : m = [] := by simpa using h.symm
    subst this
    rfl
  | e :: es, [], i, w, h => by simp at h
  | e :: es, p :: m, i, w, h => by
    simp only [List.map_cons, List.cons.injEq, Prod.mk.injEq] at h
    have hb : eqL [.i, .i] (#[Value.int .i64 k.1, Value.int .i64 k.2] : Array Value).toList (#[Value.int .i64 p.1.1, Value.int .i64 p.1.2] : Array Value).toList = some (decide (k = p.1)) := by
      have h1 : (k.1 == p.1.1 && (k.2 == p.1.2 && true)) = decide (k = p.1) := by
        rw [Bool.eq_iff_iff]
        simp [Prod.ext_iff]
      rw [← h1]
      rfl
    obtain ⟨hr, _⟩ := eqFact_run (w := w) hf hb
    simp only [Instr.findAsking, Sem.run_bind, lookIx, h.1.1]
    unfold Op.equal
    rw [show (Op.equalIn Op.maxDepth kt (pairKey k) (pairKey p.1)).run P w = .ok (decide (k = p.1)) w from hr]
    by_cases hk : k = p.1
    · simp [hk, Result.andThen, h.1.2]
    · simp only [Result.andThen, decide_eq_false hk, if_neg hk]
      exact pair_asking hf k es m (i + 1) w h.2
theorem pair_keys {P : Program} {kt : TypeId} {fs : Array Field} (hd : P.underlying kt = some (.struct fs)) (hf : eqFact P kt [.i, .i] = true) (hc : ∀ (e : Bool) (k : Int × Int) (w : World), (Instr.checkKey e 10000 kt (pairKey k)).run P w = .ok () w) : KeyTy P kt (Int × Int) pairKey := by
  refine ⟨hc, fun k es m w h => ?_⟩
  unfold Instr.findKey
  simp only [Sem.run_bind, run_underlying hd, Result.andThen]
  cases es with
  | nil =>
    have : m = [] := by simpa using h.symm
    subst this
    rfl
  | cons e es =>
    have : Instr.findNow (.struct fs) (pairKey k) (e :: es) 0 = none := by simp [Instr.findNow, Instr.sameNow]
    rw [this]
    exact pair_asking hf k (e :: es) m 0 w h
end Go.Proofs.YtpklkijdlnioaaaGreat.Eng
