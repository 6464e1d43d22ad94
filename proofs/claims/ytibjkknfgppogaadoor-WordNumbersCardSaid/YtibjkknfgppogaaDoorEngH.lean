/- The engine's last part: code, loops, where ways meet again, and a function's call. -/
import Derived.Test.YtibjkknfgppogaaDoorEngG
set_option linter.unusedVariables false
set_option linter.unusedSimpArgs false
namespace Go.Proofs.YtibjkknfgppogaaDoor.Eng
open Go

inductive Ex where
  | normal | exit (id : Nat) | ret
def Ex.to : Ex → Exit
  | .normal => .normal
  | .exit id => .exit id
  | .ret => .ret
def opDsts : List Oper → List Nat
  | [] => []
  | o :: r => match o.dst with
    | some d => d :: opDsts r
    | none => opDsts r
def dsts : Code → List Nat
  | .region _ ops _ => opDsts ops.toList
  | .seq x y => dsts x ++ dsts y
  | .cond _ x y => dsts x ++ dsts y
  | .block _ x => dsts x
  | .loop x => dsts x
  | .scope x => dsts x
  | _ => []
def falls : Code → Bool
  | .seq x y => falls x && falls y
  | .cond _ x y => falls x || falls y
  | .block id x => falls x || leavesTo id x
  | .loop _ => false
  | .scope x => falls x
  | .exit _ => false
  | .ret => false
  | .goto _ => false
  | _ => true
where leavesTo (id : Nat) : Code → Bool
  | .seq x y => leavesTo id x || leavesTo id y
  | .cond _ x y => leavesTo id x || leavesTo id y
  | .block _ x => leavesTo id x
  | .loop x => leavesTo id x
  | .scope x => leavesTo id x
  | .exit i => Nat.beq i id
  | _ => false
def ends (id : Nat) : Code → Nat
  | .seq x y => ends id x + ends id y
  | .cond _ x y => ends id x + ends id y
  | .block _ x => ends id x
  | .loop x => ends id x
  | .scope x => ends id x
  | .exit i => match Nat.beq i id with
    | true => 1
    | false => 0
  | _ => 0
def branchy : Code → Bool
  | .cond _ x y => falls x && falls y
  | .seq _ y => branchy y
  | .scope x => branchy x
  | _ => false
def manyEnds (id : Nat) (x : Code) : Bool := Nat.ble 2 (ends id x + match falls x with | true => 1 | false => 0)

def isTup : Value → Bool
  | .tuple _ => true
  | _ => false
def envVars (ds : List Nat) : Env → List Nat → List (Nat × Value)
  | [], _ => []
  | (t, v) :: r, seen => match hasN seen t with
    | true => envVars ds r seen
    | false => match hasN ds t && !isTup v with
      | true => (t, v) :: envVars ds r (t :: seen)
      | false => envVars ds r (t :: seen)
def without (ds : List Nat) : Env → Env
  | [] => []
  | (t, v) :: r => match hasN ds t with
    | true => without ds r
    | false => (t, v) :: without ds r
def slotsOf : List (Nat × Value) → List Nat
  | [] => []
  | (t, _) :: r => t :: slotsOf r
def shsOf : List (Nat × Value) → List Sh
  | [] => []
  | (_, v) :: r => shOf v :: shsOf r
def zipE : List Nat → List Value → Env → Env
  | t :: r, v :: vs, e => (t, v) :: zipE r vs e
  | _, _, e => e
def getAll : List Nat → Env → Option (List Value)
  | [], _ => some []
  | t :: r, e => match e.get t with
    | none => none
    | some v => match getAll r e with
      | none => none
      | some vs => some (v :: vs)
/-- To hand the values of some slots, of known shapes, to a predicate. -/
def handTo (slots : List Nat) (shs : List Sh) (J : List Value → World → Prop) (e : Env) (w : World) : Prop := match getAll slots e with
  | some vs => match hasShs shs vs with
    | true => J vs w
    | false => False
  | none => False
def joinP (vars : List (Nat × Value)) (e0 : Env) (rest : Env → World → Prop) (use : (Env → World → Prop) → Prop) : Prop :=
  ∀ J : List Value → World → Prop, (allShs (shsOf vars) fun vs => ∀ w, rest (zipE (slotsOf vars) vs e0) w → J vs w) → use (handTo (slotsOf vars) (shsOf vars) J)
def loopP (vars : List (Nat × Value)) (e0 : Env) (e : Env) (w : World) (body : Env → World → (Env → World → Prop) → Prop) : Prop :=
  ∀ I : List Value → World → Prop, (allShs (shsOf vars) fun vs => ∀ w, body (zipE (slotsOf vars) vs e0) w (handTo (slotsOf vars) (shsOf vars) I) → I vs w) → handTo (slotsOf vars) (shsOf vars) I e w
def thenK (k : Env → World → Prop) (K : Ex → Env → World → Prop) : Ex → Env → World → Prop
  | .normal, e, w => k e w
  | .exit id, e, w => K (.exit id) e w
  | .ret, e, w => K .ret e w
def blockK (id : Nat) (k : Env → World → Prop) (K : Ex → Env → World → Prop) : Ex → Env → World → Prop
  | .normal, e, w => k e w
  | .exit i, e, w => match Nat.beq i id with
    | true => k e w
    | false => K (.exit i) e w
  | .ret, e, w => K .ret e w
def den (C : Ctx) : Code → Env → World → (Ex → Env → World → Prop) → Prop
  | .skip => fun e w K => K .normal e w
  | .region _ ops draw => fun e w K => match draw with
    | false => denOps C ops.toList ops.toList e w (K .normal)
    | true => ∀ w', w' = w.drew → denDraw C ops.toList ops.toList.length [] [] e w' (K .normal)
  | .seq x y => fun e w K => match branchy x with
    | true => joinP (envVars (dsts x) e []) (without (dsts x) e) (fun e' w' => den C y e' w' K) (fun k => den C x e w (thenK k K))
    | false => den C x e w (thenK (fun e' w' => den C y e' w' K) K)
  | .cond c x y => fun e w K => match ev e c with
    | some (.bool b) => CondP b (den C x e w K) (den C y e w K)
    | _ => False
  | .block id x => fun e w K => match manyEnds id x with
    | true => joinP (envVars (dsts x) e []) (without (dsts x) e) (K .normal) (fun k => den C x e w (blockK id k K))
    | false => den C x e w (blockK id (K .normal) K)
  | .loop x => fun e w K => loopP (envVars (dsts x) e []) (without (dsts x) e) e w fun e' w' k => den C x e' w' (thenK k K)
  | .exit id => fun e w K => K (.exit id) e w
  | .ret => fun e w K => K .ret e w
  | .rangeFunc _ _ _ _ => fun _ _ _ => False
  | .scope _ => fun _ _ _ => False
  | .label _ => fun _ _ _ => False
  | .goto _ => fun _ _ _ => False
  | .refuse _ => fun _ _ _ => False
def wf (C : Ctx) (n : Nat) : Code → Bool
  | .skip => true
  | .region _ ops draw => dstsOk n ops.toList && match draw with
    | false => true
    | true => Region.noSelect ops && apartOk C ops
  | .seq x y => wf C n x && wf C n y
  | .cond _ x y => wf C n x && wf C n y
  | .block _ x => wf C n x
  | .loop x => wf C n x
  | .exit _ => true
  | .ret => true
  | .rangeFunc _ _ _ _ => true
  | .scope _ => true
  | .label _ => true
  | .goto _ => true
  | .refuse _ => true

/-! ### Why it is enough -/
theorem opDsts_mem : ∀ {l : List Oper} {o : Oper}, o ∈ l → ∀ d, o.dst = some d → d ∈ opDsts l
  | [], o, h, _, _ => by cases h
  | x :: r, o, h, d, hd => by
    simp only [opDsts]
    rcases List.mem_cons.1 h with rfl | h
    · rw [hd]; simp
    · split
      · exact List.mem_cons_of_mem _ (opDsts_mem h d hd)
      · exact opDsts_mem h d hd
theorem without_get {ds : List Nat} : ∀ (e : Env) (t : Nat), (without ds e).get t = if t ∈ ds then none else e.get t
  | [], t => by simp [without, Env.get]
  | (u, v) :: r, t => by
    simp only [without]
    split
    · rename_i hu
      rw [without_get r t]
      simp only [Env.get]
      by_cases ht : t ∈ ds
      · simp [ht]
      · simp only [ht, if_false]
        have hne : u ≠ t := fun h => ht (h ▸ (hasN_iff ds u).1 hu)
        have : Nat.beq u t = false := by
          cases hb : Nat.beq u t with
          | false => rfl
          | true => exact absurd (Nat.eq_of_beq_eq_true hb) hne
        rw [this]
    · rename_i hu
      simp only [Env.get, without_get r t]
      split
      · rename_i hb
        have : u = t := Nat.eq_of_beq_eq_true hb
        subst this
        have hn : u ∉ ds := fun h => by rw [(hasN_iff ds u).2 h] at hu; cases hu
        simp [hn]
      · rfl
theorem zip_sim {n : Nat} {a : Act} {e0 : Env} (h0 : Sim n a e0) : ∀ {slots : List Nat} {vs : List Value} {e : Env}, Sim n a e → getAll slots e = some vs → Sim n a (zipE slots vs e0)
  | [], vs, e, h, hg => by cases vs <;> exact h0
  | t :: r, vs, e, h, hg => by
    simp only [getAll] at hg
    split at hg
    · cases hg
    · rename_i v hv
      split at hg
      · cases hg
      · rename_i us hus
        cases hg
        have ih := zip_sim h0 h hus
        refine ⟨h.size, h.defers, fun u x hx => ?_⟩
        simp only [zipE, Env.get] at hx
        split at hx
        · rename_i hb
          have : t = u := Nat.eq_of_beq_eq_true hb
          subst this
          cases hx
          exact h.get _ _ hv
        · exact ih.get _ _ hx
theorem hand_out {slots : List Nat} {shs : List Sh} {J : List Value → World → Prop} {e : Env} {w : World} (h : handTo slots shs J e w) : ∃ vs, getAll slots e = some vs ∧ IsShs shs vs ∧ J vs w := by
  unfold handTo at h
  split at h
  · rename_i vs hv
    split at h
    · rename_i hs; exact ⟨vs, hv, isShs_of hs, h⟩
    · exact h.elim
  · exact h.elim
theorem without_sim {n : Nat} {ds ds' : List Nat} {b : Env} {a : Act} {e e' : Env} (h : SimK n ds e a e') : Sim n a (without ds e) := by
  refine ⟨h.sim.size, h.sim.defers, fun t v hv => ?_⟩
  rw [without_get] at hv
  split at hv
  · cases hv
  · rename_i ht
    rw [← h.keep t ht] at hv
    exact h.sim.get t v hv

/-- The loop, seen from its head. -/
def LoopWp (P : Program) (c : Code) (Q : Exit → Act → World → Prop) (a : Act) (w : World) : Prop :=
  ∀ (b : Frame) (k : List Item) (cs : List Frame), ∃ e a' w', Q e a' w' ∧ Arrives P (lone (b.at a (.inLoop c :: k)) cs w) b k cs e a' w'
theorem loopWp_unfold {P : Program} {c : Code} {Q : Exit → Act → World → Prop} {a : Act} {w : World} (h : c.wp P (Exit.then (LoopWp P c Q) Q) a w) (b : Frame) (k : List Item) (cs : List Frame) :
    ∃ e a' w', Q e a' w' ∧ Arrives P (lone (b.at a (.code c :: .inLoop c :: k)) cs w) b k cs e a' w' := by
  obtain ⟨e, a₁, w₁, hq, harr⟩ := h b (.inLoop c :: k) cs
  cases e with
  | normal =>
    obtain ⟨e₂, a₂, w₂, hq₂, harr₂⟩ := hq b k cs
    exact ⟨e₂, a₂, w₂, hq₂, .of_steps harr harr₂⟩
  | exit id => exact ⟨_, a₁, w₁, hq, .pass (x := .inLoop c) rfl (fun _ _ => .inl (by simp)) harr⟩
  | goto l => exact ⟨_, a₁, w₁, hq, .pass (x := .inLoop c) rfl (fun _ _ => .inl (by simp)) harr⟩
  | ret => exact ⟨_, a₁, w₁, hq, .pass (x := .inLoop c) rfl (fun _ _ => .inl (by simp)) harr⟩
  | panic ch => exact ⟨_, a₁, w₁, hq, .pass (x := .inLoop c) rfl (fun _ _ => .inl (by simp)) harr⟩
  | outgrown => exact ⟨_, a₁, w₁, hq, .pass (x := .inLoop c) rfl (fun _ _ => .inl (by simp)) harr⟩
theorem loopWp_round {P : Program} {c : Code} {Q : Exit → Act → World → Prop} {a : Act} {w : World} (h : c.wp P (Exit.then (LoopWp P c Q) Q) a w) : LoopWp P c Q a w := fun b k cs => by
  obtain ⟨e, a', w', q, r⟩ := loopWp_unfold h b k cs
  exact ⟨e, a', w', q, .of_steps (.one step_inLoop) r⟩
theorem loop_of_loopWp {P : Program} {c : Code} {Q : Exit → Act → World → Prop} {a : Act} {w : World} (h : c.wp P (Exit.then (LoopWp P c Q) Q) a w) : (Code.loop c).wp P Q a w := fun b k cs => by
  obtain ⟨e, a', w', q, r⟩ := loopWp_unfold h b k cs
  exact ⟨e, a', w', q, .of_steps (.one step_loop) r⟩

theorem envVars_sub {ds : List Nat} : ∀ (e : Env) (seen : List Nat) (t : Nat), t ∈ slotsOf (envVars ds e seen) → t ∈ ds
  | [], _, t, h => by simp [envVars, slotsOf] at h
  | (u, v) :: r, seen, t, h => by
    simp only [envVars] at h
    split at h
    · exact envVars_sub r _ t h
    · split at h
      · rename_i hb
        rw [Bool.and_eq_true] at hb
        simp only [slotsOf, List.mem_cons] at h
        rcases h with rfl | h
        · exact (hasN_iff ds t).1 hb.1
        · exact envVars_sub r _ t h
      · exact envVars_sub r _ t h
theorem zip_get {e0 : Env} {t : Nat} : ∀ {slots : List Nat} {vs : List Value}, t ∉ slots → (zipE slots vs e0).get t = e0.get t
  | [], vs, _ => by cases vs <;> rfl
  | u :: r, [], _ => rfl
  | u :: r, v :: vs, h => by
    simp only [zipE, Env.get]
    have hne : u ≠ t := fun he => h (by simp [he])
    have : Nat.beq u t = false := by
      cases hb : Nat.beq u t with
      | false => rfl
      | true => exact absurd (Nat.eq_of_beq_eq_true hb) hne
    rw [this]
    exact zip_get (fun hm => h (by simp [hm]))
theorem join_keep {ds : List Nat} {e : Env} {vs : List Value} {t : Nat} (ht : t ∉ ds) : (zipE (slotsOf (envVars ds e [])) vs (without ds e)).get t = e.get t := by
  rw [zip_get (fun h => ht (envVars_sub e [] t h)), without_get, if_neg ht]
/-- What a piece of code is shown to do: 'enough' of its obligation. -/
def Good (C : Ctx) (n : Nat) (c : Code) : Prop := ∀ {a : Act} {e : Env} {w : World} {K : Ex → Env → World → Prop} {Q : Exit → Act → World → Prop}, Sim n a e → den C c e w K →
    (∀ ex a' e' w', SimK n (dsts c) e a' e' → K ex e' w' → Q ex.to a' w') → (∀ c (d : Option Nat) v a w, Q (.panic c) (a.put d v) w → Q (.panic c) a w) → c.wp C.P Q a w
theorem good_seq {C : Ctx} {n : Nat} {x y : Code} (ihx : Good C n x) (ihy : Good C n y) : Good C n (.seq x y) := by
  intro a e w K Q hS h hQ hQp
  simp only [den] at h
  refine wp_seq ?_
  split at h
  · have hJ := h (fun vs w' => IsShs (shsOf (envVars (dsts x) e [])) vs → ∀ a', Sim n a' (zipE (slotsOf (envVars (dsts x) e [])) vs (without (dsts x) e)) → y.wp C.P Q a' w') (by
      refine allShs_in fun vs hsh w' hrest _ a' hS' => ?_
      refine ihy hS' hrest (fun ex a2 e2 w2 hS2 hk2 => hQ ex a2 e2 w2 ⟨hS2.sim, fun t ht => ?_⟩ hk2) hQp
      rw [hS2.keep t (fun h => ht (by simp [dsts, h])), join_keep (fun h => ht (by simp [dsts, h]))])
    refine ihx hS hJ (fun ex a' e' w' hS' hk => ?_) (fun c d v a w hp => hQp c d v a w hp)
    cases ex with
    | normal =>
      simp only [thenK] at hk
      obtain ⟨vs, hg, hsh, hj⟩ := hand_out hk
      exact hj hsh a' (zip_sim (without_sim (ds' := []) (b := []) hS') hS'.sim hg)
    | exit id => exact hQ (.exit id) a' e' w' ⟨hS'.sim, fun t ht => hS'.keep t (fun h => ht (by simp [dsts, h]))⟩ hk
    | ret => exact hQ .ret a' e' w' ⟨hS'.sim, fun t ht => hS'.keep t (fun h => ht (by simp [dsts, h]))⟩ hk
  · refine ihx hS h (fun ex a' e' w' hS' hk => ?_) (fun c d v a w hp => hQp c d v a w hp)
    cases ex with
    | normal =>
      refine ihy hS'.sim hk (fun ex a2 e2 w2 hS2 hk2 => hQ ex a2 e2 w2 ⟨hS2.sim, fun t ht => ?_⟩ hk2) hQp
      rw [hS2.keep t (fun h => ht (by simp [dsts, h])), hS'.keep t (fun h => ht (by simp [dsts, h]))]
    | exit id => exact hQ (.exit id) a' e' w' ⟨hS'.sim, fun t ht => hS'.keep t (fun h => ht (by simp [dsts, h]))⟩ hk
    | ret => exact hQ .ret a' e' w' ⟨hS'.sim, fun t ht => hS'.keep t (fun h => ht (by simp [dsts, h]))⟩ hk
theorem good_block {C : Ctx} {n id : Nat} {x : Code} (ihx : Good C n x) : Good C n (.block id x) := by
  intro a e w K Q hS h hQ hQp
  simp only [den] at h
  refine wp_block ?_
  split at h
  · have hJ := h (fun vs w' => IsShs (shsOf (envVars (dsts x) e [])) vs → ∀ a', Sim n a' (zipE (slotsOf (envVars (dsts x) e [])) vs (without (dsts x) e)) → Q .normal a' w') (by
      refine allShs_in fun vs hsh w' hrest _ a' hS' => ?_
      exact hQ .normal a' _ w' ⟨hS', fun t ht => join_keep ht⟩ hrest)
    refine ihx hS hJ (fun ex a' e' w' hS' hk => ?_) (fun c d v a w hp => hQp c d v a w hp)
    have key : handTo (slotsOf (envVars (dsts x) e [])) (shsOf (envVars (dsts x) e [])) (fun vs w' => IsShs (shsOf (envVars (dsts x) e [])) vs → ∀ a', Sim n a' (zipE (slotsOf (envVars (dsts x) e [])) vs (without (dsts x) e)) → Q .normal a' w') e' w' → Q .normal a' w' := fun hk => by
      obtain ⟨vs, hg, hsh, hj⟩ := hand_out hk
      exact hj hsh a' (zip_sim (without_sim (ds' := []) (b := []) hS') hS'.sim hg)
    cases ex with
    | normal => exact key hk
    | exit i =>
      simp only [blockK] at hk
      split at hk
      · rename_i hb
        have : i = id := Nat.eq_of_beq_eq_true hb
        simp only [Ex.to, Exit.inBlock, this, if_true]
        exact key hk
      · rename_i hb
        have : i ≠ id := Nat.ne_of_beq_eq_false hb
        simp only [Ex.to, Exit.inBlock, this, if_false]
        exact hQ (.exit i) a' e' w' hS' hk
    | ret => exact hQ .ret a' e' w' hS' hk
  · refine ihx hS h (fun ex a' e' w' hS' hk => ?_) (fun c d v a w hp => hQp c d v a w hp)
    cases ex with
    | normal => exact hQ .normal a' e' w' hS' hk
    | exit i =>
      simp only [blockK] at hk
      split at hk
      · rename_i hb
        have : i = id := Nat.eq_of_beq_eq_true hb
        simp only [Ex.to, Exit.inBlock, this, if_true]
        exact hQ .normal a' e' w' hS' hk
      · rename_i hb
        have : i ≠ id := Nat.ne_of_beq_eq_false hb
        simp only [Ex.to, Exit.inBlock, this, if_false]
        exact hQ (.exit i) a' e' w' hS' hk
    | ret => exact hQ .ret a' e' w' hS' hk
theorem good_loop {C : Ctx} {n : Nat} {x : Code} (ihx : Good C n x) : Good C n (.loop x) := by
  intro a e w K Q hS h hQ hQp
  have hI := h (fun vs w' => IsShs (shsOf (envVars (dsts x) e [])) vs → ∀ a', Sim n a' (zipE (slotsOf (envVars (dsts x) e [])) vs (without (dsts x) e)) → x.wp C.P (Exit.then (LoopWp C.P x Q) Q) a' w') (by
    refine allShs_in fun vs hsh w' hbody _ a' hS' => ?_
    refine ihx hS' hbody (fun ex a2 e2 w2 hS2 hk2 => ?_) (fun c d v a w hp => hQp c d v a w hp)
    have hkeep : ∀ t, t ∉ dsts x → e2.get t = e.get t := fun t ht => by rw [hS2.keep t ht, join_keep ht]
    cases ex with
    | normal =>
      simp only [thenK] at hk2
      obtain ⟨us, hg, hsh', hj⟩ := hand_out hk2
      exact loopWp_round (hj hsh' a2 (zip_sim (without_sim (ds' := []) (b := []) ⟨hS2.sim, hkeep⟩) hS2.sim hg))
    | exit i => exact hQ (.exit i) a2 e2 w2 ⟨hS2.sim, hkeep⟩ hk2
    | ret => exact hQ .ret a2 e2 w2 ⟨hS2.sim, hkeep⟩ hk2)
  obtain ⟨vs, hg, hsh, hj⟩ := hand_out hI
  exact loop_of_loopWp (hj hsh a (zip_sim (without_sim (ds := dsts x) (ds' := []) (b := []) ⟨hS, fun _ _ => rfl⟩) hS hg))
theorem good_of_wf {C : Ctx} (hC : C.Ok) {n : Nat} : ∀ (c : Code), wf C n c = true → Good C n c := by
  intro c
  induction c with
  | skip => intro _ a e w K Q hS h hQ _; exact wp_skip (hQ .normal a e w ⟨hS, fun _ _ => rfl⟩ h)
  | region id ops draw =>
    intro hw a e w K Q hS h hQ hQp
    simp only [wf, Bool.and_eq_true] at hw
    have hds : ∀ o ∈ ops.toList, ∀ d, o.dst = some d → d ∈ dsts (.region id ops draw) := fun o ho d hd => opDsts_mem ho d hd
    cases draw with
    | false => exact denRegion_wp hC hw.1 hds (fun a' e' w' hS' hk => hQ .normal a' e' w' hS' hk) ⟨hS, fun _ _ => rfl⟩ h
    | true =>
      have hw2 := hw.2
      simp only [Bool.and_eq_true] at hw2
      exact denDraw_wp hC hw.1 hds hw2.1 hw2.2 (fun a' e' w' hS' hk => hQ .normal a' e' w' hS' hk) hQp ⟨hS, fun _ _ => rfl⟩ (h _ rfl)
  | seq x y ihx ihy => intro hw; simp only [wf, Bool.and_eq_true] at hw; exact good_seq (ihx hw.1) (ihy hw.2)
  | cond c x y ihx ihy =>
    intro hw a e w K Q hS h hQ hQp
    simp only [wf, Bool.and_eq_true] at hw
    simp only [den] at h
    split at h
    · rename_i b hb
      have hbe := hS.ev hb
      cases b
      · exact wp_cond_false hbe (ihy hw.2 hS h (fun ex a' e' w' hS' hk => hQ ex a' e' w' ⟨hS'.sim, fun t ht => hS'.keep t (fun h => ht (by simp [dsts, h]))⟩ hk) hQp)
      · exact wp_cond_true hbe (ihx hw.1 hS h (fun ex a' e' w' hS' hk => hQ ex a' e' w' ⟨hS'.sim, fun t ht => hS'.keep t (fun h => ht (by simp [dsts, h]))⟩ hk) hQp)
    · exact h.elim
  | block id x ih => intro hw; exact good_block (ih hw)
  | loop x ih => intro hw; exact good_loop (ih hw)
  | exit id => intro _ a e w K Q hS h hQ _; exact wp_exit (hQ (.exit id) a e w ⟨hS, fun _ _ => rfl⟩ h)
  | ret => intro _ a e w K Q hS h hQ _; exact wp_ret (hQ .ret a e w ⟨hS, fun _ _ => rfl⟩ h)
  | _ => intro _ a e w K Q hS h hQ _; exact False.elim h

/-! ### A function's call -/
def argEnv : Nat → List Value → Env
  | _, [] => []
  | i, v :: r => (i, v) :: argEnv (i + 1) r
/-- What the results are. -/
def denRes (C : Ctx) (e : Env) (w : World) : List ResultVar → (List Value → Prop) → Prop
  | [], F => F []
  | .tmp t :: r, F => match e.get t with
    | some v => denRes C e w r fun vs => F (v :: vs)
    | none => False
  | .cell t ty :: r, F => match e.get t with
    | some (.pointer p) => NilC p fun ad => match (C.ty ty).agg, (C.ty ty).rs, (C.ty ty).size with
      | some false, some (.one (.leaf l)), _ => exL l fun v => w.cell? ad = some v ∧ denRes C e w r fun vs => F (v :: vs)
      | some true, some (.one (.agg ls)), some n => match Nat.beq n ls.length with
        | true => exLs ls fun us => CellsAt w ad us 0 ∧ denRes C e w r fun vs => F (.agg us.toArray :: vs)
        | false => False
      | _, _, _ => False
    | _ => False
def retVal : List Value → Value
  | [v] => v
  | vs => .tuple vs.toArray
def denFun (C : Ctx) (body : Code) (res : List ResultVar) (args : List Value) (w : World) (R : Value → World → Prop) : Prop :=
  den C body (argEnv 0 args) w fun ex e' w' => match ex with
    | .normal => denRes C e' w' res fun vs => R (retVal vs) w'
    | .ret => denRes C e' w' res fun vs => R (retVal vs) w'
    | .exit _ => False
theorem argEnv_get : ∀ (vs : List Value) (i t : Nat) (v : Value), (argEnv i vs).get t = some v → i ≤ t ∧ vs[t - i]? = some v
  | [], _, _, _, h => by simp [argEnv, Env.get] at h
  | u :: r, i, t, v, h => by
    simp only [argEnv, Env.get] at h
    split at h
    · rename_i hb
      have : i = t := Nat.eq_of_beq_eq_true hb
      subst this
      cases h
      simp
    · obtain ⟨h1, h2⟩ := argEnv_get r (i + 1) t v h
      refine ⟨by omega, ?_⟩
      rw [show t - i = (t - (i + 1)) + 1 from by omega]
      simpa using h2
def resOf (tmps : Array Value) : ResultVar → Sem Value
  | .tmp t => pure (tmps.getD t undef)
  | .cell c t => do loadVar t (← asAddr (tmps.getD c undef))
theorem run_mapM_cons {α β : Type} {P : Program} {f : α → Sem β} {x : α} {r : List α} {w : World} {v : β} {vs : List β} (h1 : (f x).run P w = .ok v w) (h2 : (r.mapM f).run P w = .ok vs w) : ((x :: r).mapM f).run P w = .ok (v :: vs) w := by
  rw [List.mapM_cons, Sem.run_bind, h1]
  simp only [Result.andThen, Sem.run_bind]
  rw [h2]
  rfl
theorem denRes_run {C : Ctx} (hC : C.Ok) {n : Nat} {a : Act} {e : Env} (hS : Sim n a e) {w : World} : ∀ {res : List ResultVar} {F : List Value → Prop}, denRes C e w res F →
    ∃ vs, F vs ∧ (res.mapM (resOf a.tmps)).run C.P w = .ok vs w
  | [], F, h => ⟨[], h, by simp⟩
  | .tmp t :: r, F, h => by
    simp only [denRes] at h
    split at h
    · rename_i v hv
      obtain ⟨vs, hF, hr⟩ := denRes_run hC hS h
      have hg : a.tmps.getD t undef = v := by simp [Array.getD_eq_getD_getElem?, hS.get _ _ hv]
      exact ⟨v :: vs, hF, run_mapM_cons (by simp [resOf, hg]) hr⟩
    · exact h.elim
  | .cell t ty :: r, F, h => by
    simp only [denRes] at h
    split at h
    · rename_i p hp
      obtain ⟨ad, rfl, h⟩ := nilOut h
      have hg : a.tmps.getD t undef = .pointer (some ad) := by simp [Array.getD_eq_getD_getElem?, hS.get _ _ hp]
      split at h
      · rename_i l _ hag _
        obtain ⟨v, hv, hk⟩ := exL_out h
        obtain ⟨vs, hF, hr⟩ := denRes_run hC hS hk
        refine ⟨v :: vs, hF, run_mapM_cons ?_ hr⟩
        simp [resOf, hg, asAddr, loadVar, run_isAgg ((hC.ty ty).agg _ hag), hv, Result.andThen]
      · rename_i ls m hag _ hsz
        split at h
        · rename_i hb
          have hb : m = ls.length := Nat.eq_of_beq_eq_true hb
          obtain ⟨us, hl, hc, hk⟩ := exLs_len h
          obtain ⟨vs, hF, hr⟩ := denRes_run hC hS hk
          have hlc := run_loadCellsFrom (P := C.P) us 0 #[] hc
          rw [hl, ← hb] at hlc
          refine ⟨_, hF, run_mapM_cons ?_ hr⟩
          simp [resOf, hg, asAddr, loadVar, run_isAgg ((hC.ty ty).agg _ hag), run_sizeOf' ((hC.ty ty).size _ hsz), loadCells, hlc, Result.andThen]
        · exact h.elim
      · exact h.elim
    · exact h.elim
def fnHas (P : Program) (f : FuncId) : Bool := match P.funcs[f]? with
  | some fn => match fn.name == "runtime.NumGoroutine" with
    | true => false
    | false => match fn.body with
      | some _ => true
      | none => false
  | none => false
theorem fnHas_ok {P : Program} (f : FuncId) (h : fnHas P f = true) : ∃ fn c, P.funcs[f]? = some fn ∧ (fn.name == "runtime.NumGoroutine") = false ∧ fn.body = some c := by
  unfold fnHas at h
  split at h
  · rename_i fn hf
    split at h
    · cases h
    · rename_i hn
      split at h
      · rename_i c hc; exact ⟨fn, c, hf, hn, hc⟩
      · cases h
  · cases h
def mkCtx (P : Program) (tab : List (Nat × TI)) : Ctx := { P := P, tab := tab, fns := fnHas P }
theorem mkCtx_ok (P : Program) (tab : List (Nat × TI)) (h : ∀ p ∈ tab, TIok P p.1 p.2) (hm : P.follows .mixedOrders = true) : (mkCtx P tab).Ok :=
  ctxOk_of (C := mkCtx P tab) h (fun f h => fnHas_ok f h) hm
def bodyOf (f : Func) : Code := match f.body with
  | some c => c
  | none => .skip
def descOf : Option TypeDesc → TypeDesc
  | some d => d
  | none => .tuple #[]
def structOf : Option TypeDesc → Array Field
  | some (.struct fs) => fs
  | _ => #[]
def isIface : TypeDesc → Bool
  | .interface _ => true
  | _ => false
theorem concrete {d : TypeDesc} (h : isIface d = false) : ∀ ms, d ≠ .interface ms := by
  intro ms he
  subst he
  cases h
theorem results_eq (fn : Func) (tmps : Array Value) : results fn tmps = (do let vs ← fn.results.mapM (resOf tmps); pure (if h : vs.size = 1 then vs[0] else .tuple vs)) := by
  unfold results
  congr 1
theorem calls_of_den {C : Ctx} (hC : C.Ok) {f : FuncId} {fn : Func} {body : Code} {args : List Value} {w : World} {R : Value → World → Prop} (hf : C.P.funcs[f]? = some fn) (hb : fn.body = some body)
    (hn : Nat.ble args.length fn.ntmps = true) (hw : wf C fn.ntmps body = true) (h : denFun C body fn.results.toList args w R) :
    Calls C.P f args.toArray w fun e w' => ∃ v, e = .returned v ∧ R v w' := by
  refine calls_of_wp hf hb ?_
  have hle : args.length ≤ fn.ntmps := Nat.le_of_ble_eq_true hn
  have hS : Sim fn.ntmps { tmps := args.toArray ++ Array.replicate (fn.ntmps - args.toArray.size) undef, defers := [] } (argEnv 0 args) := by
    refine ⟨by simp; omega, rfl, fun t v hv => ?_⟩
    obtain ⟨_, h2⟩ := argEnv_get args 0 t v hv
    rw [Nat.sub_zero] at h2
    have hlt : t < args.length := by
      rcases Nat.lt_or_ge t args.length with h | h
      · exact h
      · simp [List.getElem?_eq_none h] at h2
    simp only []
    rw [Array.getElem?_append_left (by simpa using hlt)]
    simpa using h2
  have hres : ∀ (ex : Ex) (a' : Act) (e' : Env) (w' : World), SimK fn.ntmps (dsts body) (argEnv 0 args) a' e' → denRes C e' w' fn.results.toList (fun vs => R (retVal vs) w') →
      a'.defers = [] ∧ ∃ v, (results fn a'.tmps).run C.P w' = .ok v w' ∧ ∃ u, Ending.returned v = .returned u ∧ R u w' := by
    intro ex a' e' w' hS' hk
    obtain ⟨vs, hF, hr⟩ := denRes_run hC hS'.sim hk
    refine ⟨hS'.sim.defers, retVal vs, ?_, _, rfl, hF⟩
    rw [results_eq, Sem.run_bind, Array.mapM_eq_mapM_toList]
    simp only [Sem.run_map]
    rw [hr]
    simp only [Result.andThen, Sem.run_pure]
    congr 1
    match vs with
    | [] => simp [retVal]
    | [v] => simp [retVal]
    | u :: v :: r => simp [retVal]
  refine good_of_wf hC body hw hS h (fun ex a' e' w' hS' hk => ?_) (fun c d v a w hp => ⟨?_, hp.2⟩)
  · cases ex with
    | normal => exact hres .normal a' e' w' hS' hk
    | ret => exact hres .ret a' e' w' hS' hk
    | exit id => exact hk.elim
  · have := hp.1
    cases d <;> simpa [Act.put] using this
end Go.Proofs.YtibjkknfgppogaaDoor.Eng
