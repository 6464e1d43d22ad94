/- The engine's seventh part: a region whose order Go leaves open comes to the same, whatever order is taken. -/
import Derived.Test.YtibjkknfgppogaaDoorEngF
set_option linter.unusedVariables false
set_option linter.unusedSimpArgs false
namespace Go.Proofs.YtibjkknfgppogaaDoor.Eng
open Go

def hasN : List Nat → Nat → Bool
  | [], _ => false
  | x :: r, k => Nat.beq x k || hasN r k
def isReady (ops : List Oper) (L : List Nat) (i : Nat) : Bool := !hasN L i && match listGet ops i with
  | some o => o.after.toList.all fun e => !Region.binds .any e || hasN L e.on
  | none => false
def upTo : Nat → List Nat
  | 0 => []
  | n + 1 => upTo n ++ [n]
def readyL (ops : List Oper) (L : List Nat) : List Nat := (upTo ops.length).filter (isReady ops L)
def isQuiet (C : Ctx) (ops : List Oper) (i : Nat) : Bool := match listGet ops i with
  | some o => quietKind C o
  | none => false
/-- Does number j wait for number i, directly or through others? -/
def anc (ops : List Oper) : Nat → Nat → Nat → Bool
  | 0, _, _ => false
  | f + 1, i, j => match listGet ops j with
    | none => false
    | some o => o.after.toList.any fun e => Region.binds .any e && (Nat.beq e.on i || anc ops f i e.on)
def blocked (C : Ctx) (ops : List Oper) (i : Nat) (L : List Nat) : Bool := L.any fun j => !isQuiet C ops j && anc ops ops.length i j
def rechecks (C : Ctx) (ops : List Oper) (L : List Nat) (w : World) : List (Nat × Addr × List Value) → Prop → Prop
  | [], p => p
  | (i, ad, cs) :: r, p => match blocked C ops i L with
    | true => rechecks C ops L w r p
    | false => CellsAt w ad cs 0 ∧ rechecks C ops L w r p
theorem rechecks_out {C : Ctx} {ops : List Oper} {L : List Nat} {w : World} {p : Prop} : ∀ {pend : List (Nat × Addr × List Value)}, rechecks C ops L w pend p → p ∧ ∀ x ∈ pend, blocked C ops x.1 L = false → CellsAt w x.2.1 x.2.2 0
  | [], h => ⟨h, fun _ hx => by cases hx⟩
  | (i, ad, cs) :: r, h => by
    simp only [rechecks] at h
    split at h
    · rename_i hb
      obtain ⟨h1, h2⟩ := rechecks_out h
      refine ⟨h1, fun x hx hxb => ?_⟩
      rcases List.mem_cons.1 hx with rfl | hx
      · simp [hb] at hxb
      · exact h2 x hx hxb
    · obtain ⟨h0, h⟩ := h
      obtain ⟨h1, h2⟩ := rechecks_out h
      refine ⟨h1, fun x hx hxb => ?_⟩
      rcases List.mem_cons.1 hx with rfl | hx
      · exact h0
      · exact h2 x hx hxb

/-- Of one and of all others. -/
def allOf (p : Nat → Prop) : Nat → List Nat → Prop
  | j, [] => p j
  | j, k :: r => p j ∧ allOf p k r
theorem allOf_out {p : Nat → Prop} : ∀ {j : Nat} {js : List Nat}, allOf p j js → ∀ i ∈ j :: js, p i
  | j, [], h, i, hi => by simp at hi; subst hi; exact h
  | j, k :: r, h, i, hi => by
    rcases List.mem_cons.1 hi with rfl | hi
    · exact h.1
    · exact allOf_out h.2 i hi
def denDraw (C : Ctx) (ops : List Oper) : Nat → List Nat → List (Nat × Addr × List Value) → Env → World → (Env → World → Prop) → Prop
  | 0, L, _, e, w, K => match readyL ops L with
    | [] => K e w
    | _ => False
  | f + 1, L, pend, e, w, K => match (readyL ops L).filter (isQuiet C ops) with
    | i :: _ => match listGet ops i with
      | none => False
      | some o => guardP ops o.guard e
        (fun e' => match o.op with
          | .load t x => denLoad C t x e' w fun ad cs v => denDraw C ops f (i :: L) ((i, ad, cs) :: pend) (e'.put o.dst v) w K
          | _ => match quietDyn o e' with
            | true => denVal C o e' w fun v _ => denDraw C ops f (i :: L) pend (e'.put o.dst v) w K
            | false => False)
        (fun e' => denDraw C ops f (i :: L) pend (e'.put o.dst undef) w K)
    | [] => match readyL ops L with
      | [] => K e w
      | j :: js => allOf (fun j => match listGet ops j with
        | none => False
        | some o => guardP ops o.guard e
          (fun e' => denOp C o e' w fun v w' => rechecks C ops (j :: L) w' pend (denDraw C ops f (j :: L) pend (e'.put o.dst v) w' K))
          (fun e' => denDraw C ops f (j :: L) pend (e'.put o.dst undef) w K)) j js
/-- Two operations of which none waits for the other name different temporaries. -/
def apartOk (C : Ctx) (ops : Array Oper) : Bool := (List.range ops.size).all fun i => !isQuiet C ops.toList i || (List.range ops.size).all fun j => Nat.beq i j || anc ops.toList ops.size i j || anc ops.toList ops.size j i || match ops[i]?, ops[j]? with
  | some x, some y => x.apart ops y
  | _, _ => false

/-! ### Why it is enough -/
section
variable {P : Program} {ops : Array Oper} {Q : Exit → Act → World → Prop}
def wpAnyS (P : Program) (ops : Array Oper) (Q : Exit → Act → World → Prop) (S : Array Bool → World → Prop) : Nat → Array Bool → Act → World → Prop
  | 0, listed, a, w => Region.ready .any ops listed = [] ∧ Q .normal a w
  | fuel + 1, listed, a, w =>
    (Region.ready .any ops listed = [] → Q .normal a w) ∧
    ∀ i ∈ Region.ready .any ops listed, wpOp P ops Q i (fun a' w' => S (listed.setIfInBounds i true) w' ∧ wpAnyS P ops Q S fuel (listed.setIfInBounds i true) a' w') a w
theorem wpAny_of_S {S : Array Bool → World → Prop} : ∀ (fuel : Nat) (listed : Array Bool) (a : Act) (w : World), wpAnyS P ops Q S fuel listed a w → wpAny P .any ops Q fuel listed a w
  | 0, _, _, _, h => h
  | fuel + 1, _, _, _, h => ⟨h.1, fun i hi => wpOp_mono (fun a' w' h' => wpAny_of_S fuel _ a' w' h'.2) (h.2 i hi)⟩
theorem wpAnyS_mono {S S' : Array Bool → World → Prop} (hs : ∀ l w, S l w → S' l w) : ∀ (fuel : Nat) (listed : Array Bool) (a : Act) (w : World), wpAnyS P ops Q S fuel listed a w → wpAnyS P ops Q S' fuel listed a w
  | 0, _, _, _, h => h
  | fuel + 1, _, _, _, h => ⟨h.1, fun i hi => wpOp_mono (fun a' w' h' => ⟨hs _ _ h'.1, wpAnyS_mono hs fuel _ a' w' h'.2⟩) (h.2 i hi)⟩
/-- All for which a listed one waits are listed. -/
def Closed (ops : Array Oper) (listed : Array Bool) : Prop := ∀ j o, ops[j]? = some o → listed.getD j false = true → ∀ e ∈ o.after, Region.binds .any e = true → listed.getD e.on false = true
theorem closed_anc {listed : Array Bool} (hc : Closed ops listed) {i : Nat} : ∀ (f j : Nat), listed.getD j false = true → anc ops.toList f i j = true → listed.getD i false = true
  | 0, _, _, h => by simp [anc] at h
  | f + 1, j, hj, h => by
    simp only [anc, listGet_eq] at h
    split at h
    · simp at h
    · rename_i o ho
      have ho' : ops[j]? = some o := by simpa using ho
      obtain ⟨e, he, hb⟩ := List.any_eq_true.1 h
      rw [Bool.and_eq_true, Bool.or_eq_true] at hb
      have h1 := hc j o ho' hj e (by simpa using he) hb.1
      rcases hb.2 with h2 | h2
      · have := Nat.eq_of_beq_eq_true h2
        exact this ▸ h1
      · exact closed_anc hc f e.on h1 h2
theorem closed_set {listed : Array Bool} (hc : Closed ops listed) {i : Nat} (hi : i ∈ Region.ready .any ops listed) : Closed ops (listed.setIfInBounds i true) := by
  intro j o ho hj e he hb
  by_cases hij : j = i
  · subst hij
    obtain ⟨_, o', ho', hall⟩ := mem_ready.1 hi
    rw [ho] at ho'
    cases ho'
    exact getD_set_true (hall e he hb)
  · have hj' : listed.getD j false = true := by rw [← getD_set_ne false (Ne.symm hij)]; exact hj
    exact getD_set_true (hc j o ho hj' e he hb)
theorem ready_anc {listed : Array Bool} (hc : Closed ops listed) {i j : Nat} (hj : j ∈ Region.ready .any ops listed) (hi : listed.getD i false = false) (f : Nat) : anc ops.toList f i j = false := by
  cases f with
  | zero => rfl
  | succ f =>
    obtain ⟨_, o, ho, hall⟩ := mem_ready.1 hj
    have ho' : ops.toList[j]? = some o := by simpa using ho
    simp only [anc, listGet_eq, ho']
    rw [List.any_eq_false]
    intro e he hb
    rw [Bool.and_eq_true, Bool.or_eq_true] at hb
    have h1 := hall e (by simpa using he) hb.1
    rcases hb.2 with h2 | h2
    · have := Nat.eq_of_beq_eq_true h2
      rw [this, hi] at h1
      cases h1
    · have := closed_anc hc f e.on h1 h2
      rw [hi] at this
      cases this
theorem getD_false {listed : Array Bool} {i : Nat} (h : listed.getD i true = false) : listed.getD i false = false := by
  rcases Nat.lt_or_ge i listed.size with h' | h'
  · simp [h'] at h ⊢; exact h
  · simp [Array.getElem?_eq_none h'] at h
theorem wpAnyS_first (act : Nat → Bool) {i : Nat} {oi : Oper} {v : Value} {Si : World → Prop} {S : Array Bool → World → Prop} (hi : ops[i]? = some oi) (hsel : ∀ (j : Nat) (o : Oper) cs b, ops[j]? = some o → o.op ≠ .select cs b)
    (hQ : ∀ c a w, Q (.panic c) (a.put oi.dst v) w → Q (.panic c) a w) (hact : act i = false) (hS : ∀ l w, S (l.setIfInBounds i true) w → S l w)
    (hfree : ∀ j oj, ops[j]? = some oj → j ≠ i → anc ops.toList ops.size i j = false → anc ops.toList ops.size j i = false → oi.apart ops oj = true) :
    ∀ (fuel : Nat) (listed : Array Bool) (a : Act) (w : World), Closed ops listed → i ∈ Region.ready .any ops listed → YieldsIf P ops Si oi v a → Si w → S (listed.setIfInBounds i true) w →
      wpAnyS P ops Q (fun l w => S l w ∧ ((∀ k, l.getD k false = true → act k = true → anc ops.toList ops.size i k = false) → Si w)) fuel (listed.setIfInBounds i true) (a.put oi.dst v) w → wpAnyS P ops Q S (fuel + 1) listed a w := by
  intro fuel
  induction fuel with
  | zero =>
    intro listed a w hc hr hy hs hSi H
    refine ⟨fun h => (by rw [h] at hr; cases hr), fun j hj => ?_⟩
    by_cases hji : j = i
    · subst hji; exact hy.wpOp hi hs ⟨hSi, H⟩
    · have := ready_mono hj hji
      rw [H.1] at this
      cases this
  | succ fuel ih =>
    intro listed a w hc hr hy hs hSi H
    refine ⟨fun h => (by rw [h] at hr; cases hr), fun j hj => ?_⟩
    by_cases hji : j = i
    · subst hji; exact hy.wpOp hi hs ⟨hSi, wpAnyS_mono (fun _ _ h => h.1) _ _ _ _ H⟩
    · have h1 := H.2 j (ready_mono hj hji)
      obtain ⟨hjun, oj, hoj, hall⟩ := mem_ready.1 hj
      have hiun : listed.getD i false = false := getD_false (mem_ready.1 hr).1
      have hjun' : listed.getD j false = false := getD_false hjun
      have hanc : anc ops.toList ops.size i j = false := ready_anc hc hj hiun _
      have hanc' : anc ops.toList ops.size j i = false := ready_anc hc hr hjun' _
      have h2 := wpOp_putIf hoj (hfree j oj hoj hji hanc hanc') (fun cs b => hsel i oi cs b hi) (fun cs b => hsel j oj cs b hoj) hQ hy h1
      refine wpOp_mono (fun a' w' h3 => ?_) h2
      obtain ⟨hy', ⟨hS', hSi'⟩, hrest⟩ := h3
      rw [Array.setIfInBounds_comm _ _ (Ne.symm hji)] at hS'
      have hcj := closed_set hc hj
      have hij : (listed.setIfInBounds j true).getD i false = false := by rw [getD_set_ne false hji]; exact hiun
      have hsi : Si w' := hSi' fun k hk hka => by
        by_cases hki : k = i
        · subst hki; rw [hact] at hka; cases hka
        · have hk' : (listed.setIfInBounds j true).getD k false = true := by
            rw [Array.setIfInBounds_comm _ _ (Ne.symm hji), getD_set_ne false (Ne.symm hki)] at hk
            exact hk
          cases hx : anc ops.toList ops.size i k with
          | false => rfl
          | true =>
            have := closed_anc hcj ops.size k hk' hx
            rw [hij] at this
            cases this
      refine ⟨hS _ _ hS', ih (listed.setIfInBounds j true) a' w' hcj (ready_mono hr (Ne.symm hji)) hy' hsi hS' ?_⟩
      rw [Array.setIfInBounds_comm _ _ hji]
      exact hrest
end

theorem hasN_iff : ∀ (L : List Nat) (k : Nat), hasN L k = true ↔ k ∈ L
  | [], k => by simp [hasN]
  | x :: r, k => by
    simp only [hasN, Bool.or_eq_true, List.mem_cons, hasN_iff r k]
    constructor
    · rintro (h | h)
      · exact .inl (Nat.eq_of_beq_eq_true h).symm
      · exact .inr h
    · rintro (h | h)
      · exact .inl (by subst h; exact Nat.beq_refl _)
      · exact .inr h
theorem upTo_eq : ∀ n, upTo n = List.range n
  | 0 => rfl
  | n + 1 => by rw [upTo, upTo_eq n, List.range_succ]
/-- The list and the array tell the same. -/
def Tells (ops : Array Oper) (L : List Nat) (listed : Array Bool) : Prop := listed.size = ops.size ∧ ∀ k, listed.getD k false = hasN L k
theorem ready_eq {ops : Array Oper} {L : List Nat} {listed : Array Bool} (h : Tells ops L listed) : Region.ready .any ops listed = readyL ops.toList L := by
  unfold Region.ready readyL
  rw [upTo_eq]
  simp only [Array.length_toList]
  refine List.filter_congr fun i hi => ?_
  have hlt : i < ops.size := List.mem_range.1 hi
  have hl : listed.getD i true = hasN L i := by
    rw [← h.2 i]
    simp [h.1, hlt]
  simp only [isReady, listGet_eq, hl]
  have ho : ops[i]? = some ops[i] := by simp [hlt]
  have ho' : ops.toList[i]? = some ops[i] := by simp [hlt]
  rw [ho, ho']
  simp only [Option.map_some, Option.getD_some]
  congr 1
  rw [← Array.all_toList]
  congr 1
  funext e
  rw [h.2]
theorem tells_set {ops : Array Oper} {L : List Nat} {listed : Array Bool} (h : Tells ops L listed) {i : Nat} (hi : i < ops.size) : Tells ops (i :: L) (listed.setIfInBounds i true) := by
  refine ⟨by simp [h.1], fun k => ?_⟩
  by_cases hk : i = k
  · subst hk; simp [hasN, h.1, hi]
  · rw [getD_set_ne false hk, h.2]
    have : Nat.beq i k = false := by
      cases hb : Nat.beq i k with
      | false => rfl
      | true => exact absurd (Nat.eq_of_beq_eq_true hb) hk
    simp [hasN, this]
def PendS (C : Ctx) (ops : Array Oper) (pend : List (Nat × Addr × List Value)) (l : Array Bool) (w : World) : Prop :=
  ∀ x ∈ pend, (∀ k, l.getD k false = true → (!isQuiet C ops.toList k) = true → anc ops.toList ops.size x.1 k = false) → CellsAt w x.2.1 x.2.2 0
theorem pend_of_rechecks {C : Ctx} {ops : Array Oper} {L : List Nat} {l : Array Bool} {w : World} {p : Prop} {pend : List (Nat × Addr × List Value)} (ht : Tells ops L l) (h : rechecks C ops.toList L w pend p) : p ∧ PendS C ops pend l w := by
  obtain ⟨h1, h2⟩ := rechecks_out h
  refine ⟨h1, fun x hx hk => h2 x hx ?_⟩
  unfold blocked
  rw [List.any_eq_false]
  intro k hkL hb
  rw [Bool.and_eq_true] at hb
  have hl : l.getD k false = true := by rw [ht.2]; exact (hasN_iff L k).2 hkL
  have := hk k hl hb.1
  rw [Array.length_toList, this] at hb
  exact absurd hb.2 (by simp)
theorem pend_drop {C : Ctx} {ops : Array Oper} {pend : List (Nat × Addr × List Value)} {i : Nat} (hq : isQuiet C ops.toList i = true) (l : Array Bool) (w : World) (h : PendS C ops pend (l.setIfInBounds i true) w) : PendS C ops pend l w := by
  intro x hx hk
  refine h x hx fun k hl ha => ?_
  by_cases hki : k = i
  · subst hki; simp [hq] at ha
  · rw [getD_set_ne false (Ne.symm hki)] at hl
    exact hk k hl ha
theorem pend_more {C : Ctx} {ops : Array Oper} {pend : List (Nat × Addr × List Value)} {i : Nat} (l : Array Bool) (w : World) (h : PendS C ops pend l w) : PendS C ops pend (l.setIfInBounds i true) w := by
  intro x hx hk
  exact h x hx fun k hl ha => hk k (getD_set_true hl) ha
theorem mem_of_filter_head {α : Type} {p : α → Bool} {l r : List α} {x : α} (h : l.filter p = x :: r) : x ∈ l ∧ p x = true := by
  have : x ∈ l.filter p := by rw [h]; simp
  exact List.mem_filter.1 this
theorem run_load_quiet {C : Ctx} (hC : C.Ok) {n : Nat} {a : Act} {e : Env} (hS : Sim n a e) {o : Oper} {t : TypeId} {x : Operand} (ho : o.op = .load t x) {w : World} {K : Addr → List Value → Value → Prop}
    (h : denLoad C t x e w K) : ∃ ad cs v, K ad cs v ∧ CellsAt w ad cs 0 ∧ ∀ w', CellsAt w' ad cs 0 → (execOp a.eval o).run C.P w' = .ok (.value v) w' := by
  unfold denLoad at h
  split at h
  · rename_i p hx
    obtain ⟨ad, rfl, h⟩ := nilOut h
    split at h
    · rename_i l _ hag _
      obtain ⟨v, hv, hk⟩ := exL_out h
      refine ⟨ad, [v], v, hk, ⟨hv, trivial⟩, fun w' hw' => ?_⟩
      have hv' : w'.cell? ad = some v := hw'.1
      simp [execOp, ho, hS.ev hx, Instr.loadAt, Instr.sureAddr, loadVar, run_isAgg ((hC.ty t).agg _ hag), hv', Result.andThen]
    · rename_i ls m hag _ hsz
      split at h
      · rename_i hb
        have hb : m = ls.length := Nat.eq_of_beq_eq_true hb
        obtain ⟨vs, hl, hc, hk⟩ := exLs_len h
        refine ⟨ad, vs, _, hk, hc, fun w' hw' => ?_⟩
        have hlc := run_loadCellsFrom (P := C.P) vs 0 #[] hw'
        rw [hl, ← hb] at hlc
        simp [execOp, ho, hS.ev hx, Instr.loadAt, Instr.sureAddr, loadVar, run_isAgg ((hC.ty t).agg _ hag), run_sizeOf' ((hC.ty t).size _ hsz), loadCells, hlc, Result.andThen]
      · exact h.elim
    · exact h.elim
  · exact h.elim

section
variable {C : Ctx} {n : Nat} {ds : List Nat} {b : Env} {ops : Array Oper} {K : Env → World → Prop} {Q : Exit → Act → World → Prop}
theorem denDraw_any (hC : C.Ok) (hd : dstsOk n ops.toList = true) (hds : ∀ o ∈ ops.toList, ∀ d, o.dst = some d → d ∈ ds) (hsel : Region.noSelect ops = true) (hap : apartOk C ops = true)
    (hQ : ∀ a e w, SimK n ds b a e → K e w → Q .normal a w) (hQp : ∀ c (d : Option Nat) v a w, Q (.panic c) (a.put d v) w → Q (.panic c) a w) :
    ∀ (f : Nat) (L : List Nat) (pend : List (Nat × Addr × List Value)) (e : Env) (w : World) (listed : Array Bool) (a : Act), Tells ops L listed → Closed ops listed → SimK n ds b a e → PendS C ops pend listed w →
      denDraw C ops.toList f L pend e w K → wpAnyS C.P ops Q (PendS C ops pend) f listed a w
  | 0, L, pend, e, w, listed, a, ht, hc, hS, hp, h => by
    simp only [denDraw] at h
    split at h
    · rename_i hr
      exact ⟨by rw [ready_eq ht, hr], hQ a e w hS h⟩
    · exact h.elim
  | f + 1, L, pend, e, w, listed, a, ht, hc, hS, hp, h => by
    simp only [denDraw] at h
    have hapart : ∀ i oi, ops[i]? = some oi → isQuiet C ops.toList i = true → ∀ j oj, ops[j]? = some oj → j ≠ i → anc ops.toList ops.size i j = false → anc ops.toList ops.size j i = false → oi.apart ops oj = true := by
      intro i oi hi hq j oj hj hji h1 h2
      have hil : i < ops.size := by
        rcases Nat.lt_or_ge i ops.size with h | h
        · exact h
        · simp [Array.getElem?_eq_none h] at hi
      have hjl : j < ops.size := by
        rcases Nat.lt_or_ge j ops.size with h | h
        · exact h
        · simp [Array.getElem?_eq_none h] at hj
      have h3 := List.all_eq_true.1 hap i (List.mem_range.2 hil)
      simp only [hq, Bool.not_true, Bool.false_or] at h3
      have h4 := List.all_eq_true.1 h3 j (List.mem_range.2 hjl)
      have hb : Nat.beq i j = false := by
        cases hb : Nat.beq i j with
        | false => rfl
        | true => exact absurd (Nat.eq_of_beq_eq_true hb).symm hji
      simpa only [hb, h1, h2, hi, hj, Bool.false_or] using h4
    split at h
    · rename_i i rest hfil
      obtain ⟨hmem, hq⟩ := mem_of_filter_head hfil
      have hready : i ∈ Region.ready .any ops listed := by rw [ready_eq ht]; exact hmem
      rw [listGet_eq] at h
      split at h
      · exact h.elim
      · rename_i o ho
        have ho' : ops[i]? = some o := by simpa using ho
        have hlt : i < ops.size := by
          rcases Nat.lt_or_ge i ops.size with h | h
          · exact h
          · simp [Array.getElem?_eq_none h] at ho'
        have hqk : quietKind C o = true := by
          unfold isQuiet at hq
          rw [listGet_eq, ho] at hq
          exact hq
        have hdo := dst_lt hd hds (List.mem_of_getElem? ho)
        have hfirst := fun (v : Value) (Si : World → Prop) => wpAnyS_first (P := C.P) (Q := Q) (fun k => !isQuiet C ops.toList k) (v := v) (Si := Si) (S := PendS C ops pend) ho' (Region.noSelect_spec hsel) (fun c a w => hQp c o.dst v a w) (by simp [hq]) (pend_drop hq) (hapart i o ho' hq) f listed a w hc hready
        have hrec := fun (pend' : List (Nat × Addr × List Value)) (e' : Env) (v : Value) (hS' : SimK n ds b a e') hp' hd' => denDraw_any hC hd hds hsel hap hQ hQp f (i :: L) pend' (e'.put o.dst v) w (listed.setIfInBounds i true) (a.put o.dst v) (tells_set ht hlt) (closed_set hc hready) (hS'.put o.dst v hdo) hp' hd'
        rcases guard_out hS h with ⟨hw, e', hS', h⟩ | ⟨hw, e', hS', h⟩
        · have plain : ∀ v, (∀ w', (execOp a.eval o).run C.P w' = .ok (.value v) w') → denDraw C ops.toList f (i :: L) pend (e'.put o.dst v) w K → wpAnyS C.P ops Q (PendS C ops pend) (f + 1) listed a w := fun v hrun hk =>
            hfirst v (fun _ => True) (.inl ⟨hw, fun w' _ => hrun w'⟩) trivial (pend_more _ _ hp) (wpAnyS_mono (fun _ _ h => ⟨h, fun _ => trivial⟩) _ _ _ _ (hrec pend e' v hS' (pend_more _ _ hp) hk))
          split at h
          · rename_i t x hop
            obtain ⟨ad, cs, v, hk, hcell, hrun⟩ := run_load_quiet hC hS'.sim hop h
            refine hfirst v (fun w' => CellsAt w' ad cs 0) (.inl ⟨hw, hrun⟩) hcell (pend_more _ _ hp) ?_
            have hp' : PendS C ops ((i, ad, cs) :: pend) (listed.setIfInBounds i true) w := by
              intro x hx hkk
              rcases List.mem_cons.1 hx with rfl | hx
              · exact hcell
              · exact pend_more _ _ hp x hx hkk
            refine wpAnyS_mono (fun l w' hl => ⟨fun x hx => hl x (List.mem_cons_of_mem _ hx), fun hkk => hl (i, ad, cs) (by simp) hkk⟩) _ _ _ _ (hrec ((i, ad, cs) :: pend) e' v hS' hp' hk)
          · split at h
            · rename_i hdyn
              obtain ⟨v, hk, hrun⟩ := quiet_runs hC hS'.sim hqk hdyn h
              exact plain v hrun hk
            · exact h.elim
        · exact hfirst undef (fun _ => True) (.inr ⟨hw, rfl⟩) trivial (pend_more _ _ hp) (wpAnyS_mono (fun _ _ h => ⟨h, fun _ => trivial⟩) _ _ _ _ (hrec pend e' undef hS' (pend_more _ _ hp) h))
    · split at h
      · rename_i hr
        have hre : Region.ready .any ops listed = [] := by rw [ready_eq ht, hr]
        exact ⟨fun _ => hQ a e w hS h, fun i hi => by rw [hre] at hi; cases hi⟩
      · rename_i j js hr
        have hre : Region.ready .any ops listed = j :: js := by rw [ready_eq ht, hr]
        refine ⟨fun hnil => (by rw [hre] at hnil; cases hnil), fun i hi => ?_⟩
        have h := allOf_out h i (by rw [← hre]; exact hi)
        rw [listGet_eq] at h
        split at h
        · exact h.elim
        · rename_i o ho
          have ho' : ops[i]? = some o := by simpa using ho
          have hlt : i < ops.size := by
            rcases Nat.lt_or_ge i ops.size with h | h
            · exact h
            · simp [Array.getElem?_eq_none h] at ho'
          have hdo := dst_lt hd hds (List.mem_of_getElem? ho)
          unfold wpOp
          simp only [ho']
          rcases guard_out hS h with ⟨hw, e', hS', h⟩ | ⟨hw, e', hS', h⟩
          · rw [if_pos hw]
            refine .inl (denOp_wp hC hS'.sim o h fun v w' hk => ?_)
            obtain ⟨hk, hp'⟩ := pend_of_rechecks (tells_set ht hlt) hk
            exact ⟨hp', denDraw_any hC hd hds hsel hap hQ hQp f (i :: L) pend (e'.put o.dst v) w' (listed.setIfInBounds i true) (a.put o.dst v) (tells_set ht hlt) (closed_set hc hi) (hS'.put o.dst v hdo) hp' hk⟩
          · rw [if_neg (by simp [hw])]
            exact ⟨pend_more _ _ hp, denDraw_any hC hd hds hsel hap hQ hQp f (i :: L) pend (e'.put o.dst undef) w (listed.setIfInBounds i true) (a.put o.dst undef) (tells_set ht hlt) (closed_set hc hi) (hS'.put o.dst undef hdo) (pend_more _ _ hp) h⟩
theorem denDraw_wp (hC : C.Ok) {id : Nat} (hd : dstsOk n ops.toList = true) (hds : ∀ o ∈ ops.toList, ∀ d, o.dst = some d → d ∈ ds) (hsel : Region.noSelect ops = true) (hap : apartOk C ops = true)
    (hQ : ∀ a e w, SimK n ds b a e → K e w → Q .normal a w) (hQp : ∀ c (d : Option Nat) v a w, Q (.panic c) (a.put d v) w → Q (.panic c) a w)
    {a : Act} {e : Env} {w : World} (hS : SimK n ds b a e) (h : denDraw C ops.toList ops.toList.length [] [] e w.drew K) : (Code.region id ops true).wp C.P Q a w := by
  refine wp_region_any hC.mixed (wpAny_of_S (S := PendS C ops []) _ _ _ _ ?_)
  have ht : Tells ops [] (Array.replicate ops.size false) := by
    refine ⟨by simp, fun k => ?_⟩
    rcases Nat.lt_or_ge k ops.size with hk | hk
    · simp [hasN, hk]
    · simp [hasN, Array.getElem?_eq_none, hk]
  have hc : Closed ops (Array.replicate ops.size false) := by
    intro j o ho hj
    rw [ht.2] at hj
    simp [hasN] at hj
  have := denDraw_any hC hd hds hsel hap hQ hQp ops.toList.length [] [] e w.drew (Array.replicate ops.size false) a ht hc hS (fun x hx => by cases hx) h
  simpa using this
end
end Go.Proofs.YtibjkknfgppogaaDoor.Eng
