/- The walk along spines tells whether two may stand side by side. -/
import Derived.Test.YtpklkijdlnioaaaGreatZhLk
set_option linter.unusedVariables false
set_option linter.unusedSimpArgs false
set_option maxRecDepth 100000
namespace Go.Proofs.YtpklkijdlnioaaaGreat.Eng
open Go Go.RowKit
def blockedB (T : List Ent) (a b limit : Int) : Bool := match (mergesOf T).idxOf? (a, b) with
  | some i => decide (((256 + i : Nat) : Int) < limit)
  | none => false
theorem blocked_spec (w : World) (p tp : Nat) (T : List Ent) (a b limit steps : Int) (hT : TabIs w tp T) (h : WkIs w p tp a b limit steps) :
    Calls Tryz.prog 207 #[.pointer (some ⟨p, 0, none⟩)] w fun e w' => e = .returned (.bool (blockedB T a b limit)) ∧ Below w.heap.size w w' := by
  refine calls_ret (vc207_calls (some ⟨p, 0, none⟩) w (fun v w' => v = .bool (blockedB T a b limit) ∧ Below w.heap.size w w') ?_) (by rintro v w' ⟨rfl, h⟩; exact ⟨rfl, h⟩)
  intro w1 hw1
  have hb1 : Below w.heap.size w w1 := by subst hw1; exact drew_on w
  have h1 := h.on hb1
  have c1 : ∀ j, w1.cell? ⟨p, j, none⟩ = _ := fun j => cell_heap h1
  refine NilC.mk _ rfl ⟨_, by simp only [add_lit, Nat.zero_add]; exact c1 2, NilC.mk _ rfl ⟨a, by simp only [add_lit, Nat.zero_add, Nat.add_zero]; exact c1 0, NilC.mk _ rfl ⟨b, by simp only [add_lit, Nat.zero_add, Nat.add_zero]; exact c1 1, ?_⟩⟩⟩
  refine (tokPair_spec w1 tp T (hT.on hb1) a b).mono ?_
  rintro e w2 ⟨rfl, hb2⟩
  have c2 : ∀ j, w2.cell? ⟨p, j, none⟩ = _ := fun j => cell_heap (h1.on hb2)
  have hb := below_then hb1 hb2
  unfold blockedB
  cases hx : (mergesOf T).idxOf? (a, b) with
  | none => exact ⟨_, _, rfl, CondP.no rfl ⟨rfl, hb⟩⟩
  | some i => exact ⟨_, _, rfl, CondP.yes rfl (NilC.mk _ rfl ⟨limit, by simp only [add_lit, Nat.zero_add]; exact c2 3, rfl, hb⟩)⟩
theorem apart_spec (w : World) (B p tp : Nat) (T : List Ent) (a b limit steps : Int) (hT : TabIs w tp T) (hok : TOk T) (ht : ∀ w', Touch p w w' → TabIs w' tp T) (h : WkIs w p tp a b limit steps) (hB : B ≤ p) (hs : 0 ≤ steps ∧ steps ≤ 1000000) (ha : inTab T a) (hb : inTab T b) :
    Calls Tryz.prog 208 #[.pointer (some ⟨p, 0, none⟩)] w fun e w' => ∃ r : Bool, e = .returned (.bool r) ∧ Touch p w w' ∧ ((r = true ∧ b < a ∧ 256 ≤ a ∧ WkIs w' p tp (parentsOf T a).2 b a (steps + 1)) ∨ (r = true ∧ a ≤ b ∧ 256 ≤ b ∧ WkIs w' p tp a (parentsOf T b).1 (b + 1) (steps + 1)) ∨ (r = false ∧ a < 256 ∧ b < 256 ∧ WkIs w' p tp a b limit steps)) := by
  refine calls_ret (vc208_calls (some ⟨p, 0, none⟩) w (fun v w' => ∃ r : Bool, v = .bool r ∧ Touch p w w' ∧ ((r = true ∧ b < a ∧ 256 ≤ a ∧ WkIs w' p tp (parentsOf T a).2 b a (steps + 1)) ∨ (r = true ∧ a ≤ b ∧ 256 ≤ b ∧ WkIs w' p tp a (parentsOf T b).1 (b + 1) (steps + 1)) ∨ (r = false ∧ a < 256 ∧ b < 256 ∧ WkIs w' p tp a b limit steps))) ?_) (by rintro v w' ⟨r, rfl, h⟩; exact ⟨r, rfl, h⟩)
  intro w1 hw1
  have hb1 : Below w.heap.size w w1 := by subst hw1; exact drew_on w
  have h1 := h.on hb1
  have t1 : Touch p w w1 := Touch.of_below hb1
  have c1 : ∀ j, w1.cell? ⟨p, j, none⟩ = _ := fun j => cell_heap h1
  have hmost := hok.most
  have a0 := ha.1
  have a1 := ha.2
  have b0 := hb.1
  have b1 := hb.2
  have sa := splits_iff hok ha
  have sb := splits_iff hok hb
  refine NilC.mk _ rfl ⟨a, by simp only [add_lit, Nat.zero_add, Nat.add_zero]; exact c1 0, NilC.mk _ rfl ⟨b, by simp only [add_lit, Nat.zero_add, Nat.add_zero]; exact c1 1, CondP.mk (fun h0 => ?_) fun h0 => ?_⟩⟩
  · have h0 := of_decide_eq_true h0
    refine (left_spec w1 B p tp T a b limit steps (ht w1 t1) h1 hB hs (by omega)).mono ?_
    rintro e w2 ⟨rfl, hw2, t2⟩
    have t12 := t1.trans t2
    refine ⟨_, rfl, CondP.mk (fun h2 => ?_) fun h2 => ?_⟩
    · rw [if_pos h2] at hw2
      exact ⟨true, rfl, t12, .inl ⟨rfl, by omega, sa.1 h2, hw2⟩⟩
    · rw [if_neg (by rw [h2]; simp)] at hw2
      have ha256 : ¬ 256 ≤ a := fun hh => by rw [sa.2 hh] at h2; cases h2
      refine (right_spec w2 B p tp T a b limit steps (ht w2 t12) hw2 hB hs (by omega)).mono ?_
      rintro e w3 ⟨rfl, hw3, t3⟩
      have hsb : splits T b = false := by
        cases hx : splits T b with
        | false => rfl
        | true => have := sb.1 hx; omega
      rw [hsb] at hw3
      rw [if_neg (by simp)] at hw3
      exact ⟨_, rfl, false, by rw [hsb], t12.trans t3, .inr (.inr ⟨rfl, by omega, by omega, hw3⟩)⟩
  · have h0 := of_decide_eq_false h0
    refine (right_spec w1 B p tp T a b limit steps (ht w1 t1) h1 hB hs (by omega)).mono ?_
    rintro e w2 ⟨rfl, hw2, t2⟩
    have t12 := t1.trans t2
    refine ⟨_, rfl, CondP.mk (fun h2 => ?_) fun h2 => ?_⟩
    · rw [if_pos h2] at hw2
      exact ⟨true, rfl, t12, .inr (.inl ⟨rfl, by omega, sb.1 h2, hw2⟩)⟩
    · rw [if_neg (by rw [h2]; simp)] at hw2
      have hb256 : ¬ 256 ≤ b := fun hh => by rw [sb.2 hh] at h2; cases h2
      refine (left_spec w2 B p tp T a b limit steps (ht w2 t12) hw2 hB hs (by omega)).mono ?_
      rintro e w3 ⟨rfl, hw3, t3⟩
      have hsa : splits T a = false := by
        cases hx : splits T a with
        | false => rfl
        | true => have := sa.1 hx; omega
      rw [hsa] at hw3
      rw [if_neg (by simp)] at hw3
      exact ⟨_, rfl, false, by rw [hsa], t12.trans t3, .inr (.inr ⟨rfl, by omega, by omega, hw3⟩)⟩
theorem free_spec (w : World) (B p tp : Nat) (T : List Ent) (a b limit : Int) (hok : TOk T) (ht : ∀ w', Touch p w w' → TabIs w' tp T) (h : WkIs w p tp a b limit 0) (hB : B ≤ p) (ha : inTab T a) (hb : inTab T b) (aa : AloneT (mergesOf T) (exT T) a) (ab : AloneT (mergesOf T) (exT T) b) (la : a ≤ limit) (lb : b + 1 ≤ limit) :
    Calls Tryz.prog 185 #[.pointer (some ⟨p, 0, none⟩)] w fun e w' => ∃ r : Bool, e = .returned (.bool r) ∧ (r = true ↔ FreeTo (mergesOf T) (exT T) a b limit) ∧ Touch p w w' := by
  refine calls_ret (vc185_calls (some ⟨p, 0, none⟩) w (fun v w' => ∃ r : Bool, v = .bool r ∧ (r = true ↔ FreeTo (mergesOf T) (exT T) a b limit) ∧ Touch p w w') ?_) (by rintro v w' ⟨r, rfl, h⟩; exact ⟨r, rfl, h⟩)
  intro I hI
  have hG := good_of hok
  have hmost := hok.most
  have ml := merges_length hok
  have key : ∀ (n : Nat) (a' b' limit' steps : Int) (w1 : World), a'.toNat + b'.toNat ≤ n → WkIs w1 p tp a' b' limit' steps → Touch p w w1 → inTab T a' → inTab T b' → AloneT (mergesOf T) (exT T) a' → AloneT (mergesOf T) (exT T) b' → a' ≤ limit' → b' + 1 ≤ limit' → 0 ≤ steps → steps + a' + b' ≤ 10000 → (FreeTo (mergesOf T) (exT T) a' b' limit' ↔ FreeTo (mergesOf T) (exT T) a b limit) → ∀ y2 : Bool, I [.bool y2] w1 := by
    intro n
    induction n using Nat.strongRecOn with
    | ind n ih =>
      intro a' b' limit' steps w1 hn h1 t1 ha' hb' aa' ab' la' lb' hs0 hs1 hF y2
      have Ta := (tok_iff hok a').1 ha'
      have Tb := (tok_iff hok b').1 hb'
      refine hI y2 w1 ?_
      refine (blocked_spec w1 p tp T a' b' limit' steps (ht w1 t1) h1).mono ?_
      rintro e w2 ⟨rfl, hb2⟩
      have h2 := h1.on hb2
      have t2 := t1.trans (Touch.of_below hb2)
      refine ⟨_, rfl, CondP.mk (fun h0 => ?_) fun h0 => ?_⟩
      · have h0 : blockedB T a' b' limit' = false := by simpa using h0
        have hno : ∀ i : Nat, (mergesOf T)[i]? = some (a', b') → limit' ≤ 256 + (i : Int) := by
          intro i hi
          unfold blockedB at h0
          cases hx : (mergesOf T).idxOf? (a', b') with
          | none => exact absurd (List.mem_of_getElem? hi) (List.idxOf?_eq_none_iff.1 hx)
          | some j =>
            rw [hx] at h0
            have h0 := of_decide_eq_false h0
            obtain ⟨hj, he, hmin⟩ := List.findIdx?_eq_some_iff_getElem.1 hx
            have hij : j ≤ i := by
              rcases Nat.lt_or_ge i j with hlt | hge
              · exfalso
                have := hmin i hlt
                have hil := (List.getElem?_eq_some_iff.1 hi)
                apply this
                rw [hil.2]
                simp
              · exact hge
            omega
        refine (apart_spec w2 B p tp T a' b' limit' steps (ht w2 t2) hok (fun w' tt => ht w' (t2.trans tt)) h2 hB ⟨hs0, by have := ha'.1; have := hb'.1; omega⟩ ha' hb').mono ?_
        rintro e w3 ⟨r, rfl, t3, hcase⟩
        have t13 := t2.trans t3
        refine ⟨r, rfl, ?_⟩
        rcases hcase with ⟨rfl, hba, h256, hw3⟩ | ⟨rfl, hab, h256, hw3⟩ | ⟨rfl, h1a, h1b, hw3⟩
        · obtain ⟨j, rfl, hm⟩ := parents_merge hok ha' h256
          have hlt := merges_at hok hm
          obtain ⟨q1, _, _, _⟩ := alone_parts hG hm aa'
          have hj := (List.getElem?_eq_some_iff.1 hm).1
          have hp := hb'.1
          refine CondP.no rfl (ih _ ?_ (parentsOf T (256 + (j : Int))).2 b' (256 + (j : Int)) (steps + 1) w3 (Nat.le_refl _) hw3 t13 ⟨hlt.2.1, by omega⟩ hb' ?_ ab' (by omega) (by omega) (by omega) (by omega) ?_ y2)
          · omega
          · exact (alone_parts hG hm aa').2.2.2
          · rw [← hF]
            exact (free_left hG hm Tb aa' ab' hba la' hno).symm
        · obtain ⟨j, rfl, hm⟩ := parents_merge hok hb' h256
          have hlt := merges_at hok hm
          have hj := (List.getElem?_eq_some_iff.1 hm).1
          have hp := ha'.1
          refine CondP.no rfl (ih _ ?_ a' (parentsOf T (256 + (j : Int))).1 (256 + (j : Int) + 1) (steps + 1) w3 (Nat.le_refl _) hw3 t13 ha' ⟨hlt.1.1, by omega⟩ aa' ?_ (by omega) (by omega) (by omega) (by omega) ?_ y2)
          · omega
          · exact (alone_parts hG hm ab').2.2.1
          · rw [← hF]
            exact (free_right hG hm Ta aa' ab' hab (by omega) hno).symm
        · refine CondP.yes rfl ⟨true, rfl, ?_, t13⟩
          rw [← hF]
          exact ⟨fun _ => free_bytes hG Ta Tb aa' ab' h1a h1b hno, fun _ => rfl⟩
      · have h0 : blockedB T a' b' limit' = true := by simpa using h0
        refine ⟨false, rfl, ?_, t2⟩
        rw [← hF]
        refine ⟨(fun h => by cases h), fun hfree => ?_⟩
        unfold blockedB at h0
        cases hx : (mergesOf T).idxOf? (a', b') with
        | none => rw [hx] at h0; cases h0
        | some j =>
          rw [hx] at h0
          have h0 := of_decide_eq_true h0
          obtain ⟨hj, he, _⟩ := List.findIdx?_eq_some_iff_getElem.1 hx
          exact absurd hfree (free_blocked hG Ta Tb aa' ab' (i := j) (by rw [List.getElem?_eq_getElem hj]; congr 1; simpa using he) (by omega))
  exact key _ a b limit 0 w (Nat.le_refl _) h (Touch.of_below (Below.refl _ _)) ha hb aa ab la lb (Int.le_refl _) (by have := ha.2; have := hb.2; omega) Iff.rfl false

theorem spineHas_spec (w : World) (tp : Nat) (T : List Ent) (hT : TabIs w tp T) (a b : Int) : Calls Tryz.prog 183 #[.pointer (some ⟨tp, 0, none⟩), .int .i64 a, .int .i64 b] w fun e w' => e = .returned (.bool (decide (inTab T a ∧ inTab T b))) ∧ w' = w := by
  refine calls_ret (vc183_calls (some ⟨tp, 0, none⟩) a b w (fun v w' => v = .bool (decide (inTab T a ∧ inTab T b)) ∧ w' = w) ?_) (by rintro v w' ⟨rfl, h⟩; exact ⟨rfl, h⟩)
  have off : ¬ (inTab T a ∧ inTab T b) → (Value.bool false = .bool (decide (inTab T a ∧ inTab T b)) ∧ w = w) := fun h => ⟨by rw [decide_eq_false h], rfl⟩
  refine CondP.mk (fun h0 => ?_) fun h0 => off fun h => ?_
  · have h0 := of_decide_eq_true h0
    refine (tokLen_spec w tp T hT).mono ?_
    rintro e w1 ⟨rfl, hw⟩
    subst hw
    refine ⟨_, rfl, CondP.mk (fun h1 => ?_) fun h1 => off fun h => ?_⟩
    · have h1 := of_decide_eq_true h1
      refine CondP.mk (fun h2 => ?_) fun h2 => off fun h => ?_
      · have h2 := of_decide_eq_true h2
        refine (tokLen_spec w1 tp T hT).mono ?_
        rintro e w2 ⟨rfl, hw⟩
        subst hw
        refine ⟨_, rfl, ?_, rfl⟩
        congr 1
        exact decide_eq_decide.2 ⟨fun h => ⟨⟨h0, h1⟩, h2, h⟩, fun h => h.2.2⟩
      · exact of_decide_eq_false h2 h.2.1
    · exact of_decide_eq_false h1 h.1.2
  · exact of_decide_eq_false h0 h.1.1
theorem walk_spec (w : World) (tp : Nat) (T : List Ent) (hT : TabIs w tp T) (hok : TOk T) (a b limit : Int) (ha : inTab T a) (hb : inTab T b) (aa : AloneT (mergesOf T) (exT T) a) (ab : AloneT (mergesOf T) (exT T) b) (la : a ≤ limit) (lb : b + 1 ≤ limit) :
    Calls Tryz.prog 140 #[.pointer (some ⟨tp, 0, none⟩), .int .i64 a, .int .i64 b, .int .i64 limit] w fun e w' => ∃ r : Bool, e = .returned (.bool r) ∧ (r = true ↔ FreeTo (mergesOf T) (exT T) a b limit) ∧ Below w.heap.size w w' := by
  refine calls_ret (vc140_calls (some ⟨tp, 0, none⟩) a b limit w (fun v w' => ∃ r : Bool, v = .bool r ∧ (r = true ↔ FreeTo (mergesOf T) (exT T) a b limit) ∧ Below w.heap.size w w') ?_) (by rintro v w' ⟨r, rfl, h⟩; exact ⟨r, rfl, h⟩)
  refine (spineHas_spec w tp T hT a b).mono ?_
  rintro e w1 ⟨rfl, hw⟩
  subst hw
  refine ⟨_, rfl, CondP.yes (decide_eq_true ⟨ha, hb⟩) ?_⟩
  have hbegin : Calls Tryz.prog 184 #[.pointer (some ⟨tp, 0, none⟩), .int .i64 a, .int .i64 b, .int .i64 limit] w1 fun e w' => e = .returned (.pointer (some (nb w1))) ∧ w' = w1.alloc (.cells #[Value.int .i64 a, Value.int .i64 b, Value.pointer (some ⟨tp, 0, none⟩), Value.int .i64 limit, Value.int .i64 0] tWalk) := by
    refine calls_ret (vc184_calls (some ⟨tp, 0, none⟩) a b limit w1 (fun v w' => v = .pointer (some (nb w1)) ∧ w' = w1.alloc (.cells #[Value.int .i64 a, Value.int .i64 b, Value.pointer (some ⟨tp, 0, none⟩), Value.int .i64 limit, Value.int .i64 0] tWalk)) ?_) (by rintro v w' ⟨rfl, h⟩; exact ⟨rfl, h⟩)
    rintro w2 rfl
    exact ⟨rfl, rfl⟩
  refine hbegin.mono ?_
  rintro e w2 ⟨rfl, hw2⟩
  have hb2 : Below w1.heap.size w1 w2 := by subst hw2; exact below_alloc _ _
  have h2 : WkIs w2 w1.heap.size tp a b limit 0 := by subst hw2; exact alloc_new _ _
  refine ⟨_, rfl, ?_⟩
  refine (free_spec w2 w1.heap.size w1.heap.size tp T a b limit hok (fun w' t => hT.on (hb2.trans (t.below (Nat.le_refl _) hb2.size))) h2 (Nat.le_refl _) ha hb aa ab la lb).mono ?_
  rintro e w3 ⟨r, rfl, hr, t3⟩
  exact ⟨r, rfl, r, rfl, hr, hb2.trans (t3.below (Nat.le_refl _) hb2.size)⟩
theorem special_spec {w : World} {v : Nat} {c : Array Value} {tp bp mp : Nat} (h : VBlk w v c tp bp mp) {s : SpecV} {T : List Ent} {x : SpecW} (hp : VocParts w s T x tp bp mp) (id : Int) : Calls Tryz.prog 137 #[.pointer (some ⟨v, 0, none⟩), .int .i64 id] w fun e w' => ∃ r : Bool, e = .returned (.bool r) ∧ (r = true ↔ id ∈ s.specials.map (·.1)) ∧ w' = w := by
  refine calls_ret (vc137_calls (some ⟨v, 0, none⟩) id w (fun u w' => ∃ r : Bool, u = .bool r ∧ (r = true ↔ id ∈ s.specials.map (·.1)) ∧ w' = w) ?_) (by rintro v w' ⟨r, rfl, h⟩; exact ⟨r, rfl, h⟩)
  refine (vocMarks_spec h).mono ?_
  rintro e w1 ⟨rfl, hw⟩
  subst hw
  refine ⟨_, rfl, (markMark_spec w1 mp s.specials hp.marks hp.few id).mono ?_⟩
  rintro e w2 ⟨rfl, hw⟩
  subst hw
  exact ⟨_, _, rfl, _, rfl, idx_mem, rfl⟩
theorem last_ints (b : Bs) : (ints b).getLast? = b.getLast?.map fun z : UInt8 => (z.toNat : Int) := by simp [ints]
theorem head_ints (b : Bs) : (ints b).head? = b.head?.map fun z : UInt8 => (z.toNat : Int) := by simp [ints]
theorem beside_spec {w : World} {v : Nat} {c : Array Value} {tp bp mp : Nat} (h : VBlk w v c tp bp mp) {s : SpecV} {T : List Ent} {x : SpecW} (hp : VocParts w s T x tp bp mp) (a b : Int) (ha : (vocOf s T).Has a) (hb : (vocOf s T).Has b) (ca : (vocOf s T).Canon [a]) (cb : (vocOf s T).Canon [b]) :
    Calls Tryz.prog 102 #[.pointer (some ⟨v, 0, none⟩), .int .i64 a, .int .i64 b] w fun e w' => ∃ r : Bool, e = .returned (.bool r) ∧ (r = true ↔ (vocOf s T).Pair a b) ∧ Below w.heap.size w w' := by
  have hok := voc_ok hp
  refine calls_ret (vc102_calls (some ⟨v, 0, none⟩) a b w (fun u w' => ∃ r : Bool, u = .bool r ∧ (r = true ↔ (vocOf s T).Pair a b) ∧ Below w.heap.size w w') ?_) (by rintro v w' ⟨r, rfl, h⟩; exact ⟨r, rfl, h⟩)
  have mark_cut : ∀ t : Int, t ∈ s.specials.map (·.1) → ∃ z : Int, (vocOf s T).items t = [z] ∧ z < 0 := by
    intro t ht
    obtain ⟨i, hi, _⟩ := Voc.place_some (V := vocOf s T) ht
    refine ⟨-1 - (i : Int), ?_, by omega⟩
    unfold Voc.items
    rw [hi]
  refine (special_spec h hp a).mono ?_
  rintro e w1 ⟨r1, rfl, hr1, hw⟩
  subst hw
  refine ⟨_, rfl, CondP.mk (fun h0 => ?_) fun h0 => ?_⟩
  · refine ⟨true, rfl, ⟨fun _ => ?_, fun _ => rfl⟩, Below.refl _ _⟩
    obtain ⟨z, hz, hneg⟩ := mark_cut a (hr1.1 h0)
    obtain ⟨y, hy⟩ : ∃ y, ((vocOf s T).items b).head? = some y := by
      cases hx : (vocOf s T).items b with
      | nil => exact absurd hx (Voc.items_ne hok hb)
      | cons y t => exact ⟨y, rfl⟩
    exact .inl ⟨z, y, by rw [hz]; rfl, hy, by unfold Voc.cut; rw [decide_eq_true hneg]; rfl⟩
  have na : a ∉ s.specials.map (·.1) := fun hm => by rw [hr1.2 hm] at h0; cases h0
  refine (special_spec h hp b).mono ?_
  rintro e w2 ⟨r2, rfl, hr2, hw⟩
  subst hw
  refine ⟨_, rfl, CondP.mk (fun h1 => ?_) fun h1 => ?_⟩
  · refine ⟨true, rfl, ⟨fun _ => ?_, fun _ => rfl⟩, Below.refl _ _⟩
    obtain ⟨z, hz, hneg⟩ := mark_cut b (hr2.1 h1)
    obtain ⟨y, hy⟩ : ∃ y, ((vocOf s T).items a).getLast? = some y := by
      cases hx : ((vocOf s T).items a).getLast? with
      | none => exact absurd (List.getLast?_eq_none_iff.1 hx) (Voc.items_ne hok ha)
      | some y => exact ⟨y, rfl⟩
    exact .inl ⟨y, z, hy, by rw [hz]; rfl, by unfold Voc.cut; rw [decide_eq_true hneg]; simp⟩
  have nb' : b ∉ s.specials.map (·.1) := fun hm => by rw [hr2.2 hm] at h1; cases h1
  have Ta : Tok (mergesOf T) a := ha.resolve_right na
  have Tb : Tok (mergesOf T) b := hb.resolve_right nb'
  have ia := (tok_iff hp.ok a).2 Ta
  have ib := (tok_iff hp.ok b).2 Tb
  have short : ∀ t, inTab T t → (bytesOf T t).length ≤ 64 := by
    intro t ht
    obtain ⟨y, hy, hyb⟩ := bytesOf_at ht
    rw [hyb]
    exact hp.ok.short y (List.mem_of_getElem? hy)
  refine (vocTable_spec h).mono ?_
  rintro e w3 ⟨rfl, hw⟩
  subst hw
  refine ⟨_, rfl, (tokBytes_spec w3 tp T hp.tab a).mono ?_⟩
  rintro e w4 ⟨rfl, hw⟩
  subst hw
  rw [if_pos ia]
  refine ⟨_, _, rfl, (vocTable_spec h).mono ?_⟩
  rintro e w5 ⟨rfl, hw⟩
  subst hw
  refine ⟨_, rfl, (tokBytes_spec w5 tp T hp.tab b).mono ?_⟩
  rintro e w6 ⟨rfl, hw⟩
  subst hw
  rw [if_pos ib]
  refine ⟨_, _, rfl, (vocBounds_spec h).mono ?_⟩
  rintro e w7 ⟨rfl, hw⟩
  subst hw
  refine ⟨_, rfl, (between_spec w7 bp s.classes s.joins hp.bound (right_ok hp.right).1 (bytesOf T a) (bytesOf T b) (by have := short a ia; omega)).mono ?_⟩
  rintro e w8 ⟨rfl, hb8⟩
  -- what the pair is
  have hpair : (vocOf s T).Pair a b ↔ betweenB (cutB s.classes s.joins) (bytesOf T a) (bytesOf T b) = true ∨ (vocOf s T).Free a b := by
    unfold Voc.Pair
    rw [Voc.items_tok hok (V := vocOf s T) Ta, Voc.items_tok hok (V := vocOf s T) Tb]
    show (∃ x y, (ints (bytesOf T a)).getLast? = some x ∧ (ints (bytesOf T b)).head? = some y ∧ (vocOf s T).cut x y = true) ∨ _ ↔ _
    rw [last_ints, head_ints]
    unfold betweenB
    cases h1 : (bytesOf T a).getLast? with
    | none =>
      simp only [Option.map_none]
      constructor
      · rintro (⟨x, y, hx, _⟩ | h)
        · cases hx
        · exact .inr h.2.2
      · rintro (h | h)
        · cases h
        · exact .inr ⟨Ta, Tb, h⟩
    | some z1 =>
      cases h2 : (bytesOf T b).head? with
      | none =>
        simp only [Option.map_none]
        constructor
        · rintro (⟨x, y, _, hy, _⟩ | h)
          · cases hy
          · exact .inr h.2.2
        · rintro (h | h)
          · cases h
          · exact .inr ⟨Ta, Tb, h⟩
      | some z2 =>
        simp only [Option.map_some]
        constructor
        · rintro (⟨x, y, hx, hy, hc⟩ | h)
          · cases hx
            cases hy
            rw [cut_byte _ (by omega) (by omega)] at hc
            exact .inl hc
          · exact .inr h.2.2
        · rintro (h | h)
          · exact .inl ⟨_, _, rfl, rfl, by rw [cut_byte _ (by omega) (by omega)]; exact h⟩
          · exact .inr ⟨Ta, Tb, h⟩
  refine ⟨_, rfl, CondP.mk (fun h2 => ?_) fun h2 => ?_⟩
  · exact ⟨true, rfl, ⟨fun _ => hpair.2 (.inl h2), fun _ => rfl⟩, hb8⟩
  · refine (vocTable_spec (h.on hb8)).mono ?_
    rintro e w9 ⟨rfl, hw⟩
    subst hw
    have hmost := hp.ok.most
    have ml := merges_length hp.ok
    have a1 := ia.2
    have b1 := ib.2
    refine ⟨_, rfl, (walk_spec w9 tp T (hp.tab.on hb8) hp.ok a b 9223372036854775807 ia ib ((Voc.alone_iff hok (V := vocOf s T) Ta).1 ca).1 ((Voc.alone_iff hok (V := vocOf s T) Tb).1 cb).1 (by omega) (by omega)).mono ?_⟩
    rintro e w10 ⟨r, rfl, hr, hb10⟩
    refine ⟨_, rfl, r, rfl, ?_, below_then hb8 hb10⟩
    rw [hr, hpair, h2]
    constructor
    · intro hf
      exact .inr fun k hk hc => hf k hk (by change k < (mergesOf T).length at hk; omega) hc
    · rintro (h | h)
      · cases h
      · exact fun k hk _ hc => h k hk hc
theorem Rw.touch {α : Type} {enc : α → List Value} {sz : Nat} {w w' : World} {a : Option Addr} {xs : List α} {v : Nat} (h : Rw enc sz w a xs) (t : Touch v w w') (ha : xs ≠ [] → ∀ p, a = some p → p.block ≠ v) : Rw enc sz w' a xs := by
  intro j x hj
  obtain ⟨p, rfl, hp, hc⟩ := h j x hj
  refine ⟨p, rfl, Nat.lt_of_lt_of_le hp t.size, fun k u hk => ?_⟩
  rw [World.cell?_of_block (w := w) (by rw [add_block, add_block]; exact t.block p.block hp (ha (List.ne_nil_of_mem (List.mem_of_getElem? hj)) p rfl))]
  exact hc k u hk
end Go.Proofs.YtpklkijdlnioaaaGreat.Eng
