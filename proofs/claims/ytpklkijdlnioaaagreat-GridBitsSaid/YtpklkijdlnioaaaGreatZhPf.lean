/- The chain and its queue, in plain Lean: joining what is least comes to what the passes make. -/
import Derived.Test.YtpklkijdlnioaaaGreatZhPe
set_option linter.unusedVariables false
namespace Go.Proofs.YtpklkijdlnioaaaGreat.Eng
structure Nd where
  id : Int
  ahead : Int
  next : Int
  deriving Inhabited
abbrev ndAt (ns : List Nd) (p : Nat) : Nd := ns.getD p default
theorem ndAt_set {ns : List Nd} {q : Nat} (hq : q < ns.length) (x : Nd) (p : Nat) : ndAt (ns.set q x) p = if p = q then x else ndAt ns p := by
  unfold ndAt
  simp only [List.getD_eq_getElem?_getD, List.getElem?_set]
  by_cases h : q = p
  · subst h; simp [hq]
  · rw [if_neg h, if_neg (fun e => h e.symm)]
def hd (vs : List Nat) (nxt : Int) : Int := match vs with
  | [] => nxt
  | p :: _ => p
def lst : List Nat → Int → Int
  | [], prev => prev
  | p :: r, _ => lst r p
/-- These places stand one behind another. -/
def Ch (ns : List Nd) : Int → List Nat → Int → Prop
  | _, [], _ => True
  | prev, p :: r, nxt => (ndAt ns p).ahead = prev ∧ (ndAt ns p).next = hd r nxt ∧ Ch ns p r nxt
theorem ch_append {ns : List Nd} {vs : List Nat} {nxt : Int} : ∀ (us : List Nat) (prev : Int), Ch ns prev (us ++ vs) nxt ↔ Ch ns prev us (hd vs nxt) ∧ Ch ns (lst us prev) vs nxt
  | [], prev => by simp [Ch, lst]
  | p :: r, prev => by
    have hh : hd (r ++ vs) nxt = hd r (hd vs nxt) := by cases r <;> rfl
    simp only [List.cons_append, Ch, lst, ch_append r p, hh, and_assoc]
theorem ch_congr {ns ns' : List Nd} : ∀ (ps : List Nat) (prev nxt : Int), (∀ p ∈ ps, (ndAt ns' p).ahead = (ndAt ns p).ahead ∧ (ndAt ns' p).next = (ndAt ns p).next) → Ch ns prev ps nxt → Ch ns' prev ps nxt
  | [], _, _, _, _ => trivial
  | p :: r, prev, nxt, h, hc => ⟨(h p (by simp)).1.trans hc.1, (h p (by simp)).2.trans hc.2.1, ch_congr r p nxt (fun q hq => h q (by simp [hq])) hc.2.2⟩
structure LinkS (ns : List Nd) (ps : List Nat) : Prop where
  ch : Ch ns (-1) ps (-1)
  sorted : ps.Pairwise (· < ·)
  lt : ∀ p ∈ ps, p < ns.length
  alive : ∀ p ∈ ps, 0 ≤ (ndAt ns p).id
  dead : ∀ p, p < ns.length → p ∉ ps → (ndAt ns p).id = -2
  head : ns ≠ [] → hd ps (-1) = 0
def idsOf (ns : List Nd) (ps : List Nat) : List Int := ps.map fun p => (ndAt ns p).id
/-- What stands where two became one. -/
def joinW (ns : List Nd) (i q : Nat) (a c : Int) : List Nd :=
  if a = -1 then (ns.set q ⟨-2, (ndAt ns q).ahead, (ndAt ns q).next⟩).set i ⟨c, (ndAt ns i).ahead, a⟩
  else ((ns.set q ⟨-2, (ndAt ns q).ahead, (ndAt ns q).next⟩).set i ⟨c, (ndAt ns i).ahead, a⟩).set a.toNat ⟨(ndAt ((ns.set q ⟨-2, (ndAt ns q).ahead, (ndAt ns q).next⟩).set i ⟨c, (ndAt ns i).ahead, a⟩) a.toNat).id, (i : Int), (ndAt ((ns.set q ⟨-2, (ndAt ns q).ahead, (ndAt ns q).next⟩).set i ⟨c, (ndAt ns i).ahead, a⟩) a.toNat).next⟩
def joinN (ns : List Nd) (i : Nat) (c : Int) : List Nd := joinW ns i (ndAt ns i).next.toNat (ndAt ns (ndAt ns i).next.toNat).next c
theorem joinN_length (ns : List Nd) (i : Nat) (c : Int) : (joinN ns i c).length = ns.length := by
  unfold joinN joinW
  split <;> simp
theorem joinW_at {ns : List Nd} {i q : Nat} {c z : Int} (hi : i < ns.length) (hq : q < ns.length) (hiq : i < q) (hz : z = -1 ∨ ∃ a : Nat, z = a ∧ q < a ∧ a < ns.length) (p : Nat) :
    ndAt (joinW ns i q z c) p = if p = i then ⟨c, (ndAt ns i).ahead, z⟩ else if p = q then ⟨-2, (ndAt ns q).ahead, (ndAt ns q).next⟩ else if z = (p : Int) then ⟨(ndAt ns p).id, (i : Int), (ndAt ns p).next⟩ else ndAt ns p := by
  have n2 : ∀ (a : Int) (p : Nat), ndAt ((ns.set q ⟨-2, (ndAt ns q).ahead, (ndAt ns q).next⟩).set i ⟨c, (ndAt ns i).ahead, a⟩) p = if p = i then ⟨c, (ndAt ns i).ahead, a⟩ else if p = q then ⟨-2, (ndAt ns q).ahead, (ndAt ns q).next⟩ else ndAt ns p := by
    intro a p
    rw [ndAt_set (by simpa using hi), ndAt_set hq]
  unfold joinW
  rcases hz with rfl | ⟨a, rfl, ha1, ha2⟩
  · rw [if_pos rfl, n2]
    have : ¬ ((-1 : Int) = (p : Int)) := by omega
    rw [if_neg this]
  · rw [if_neg (by omega), Int.toNat_natCast, ndAt_set (by simp; exact ha2), n2, n2]
    by_cases e : p = a
    · subst e
      rw [if_pos rfl, if_neg (by omega), if_neg (by omega), if_neg (by omega), if_neg (by omega), if_pos rfl]
    · rw [if_neg e]
      have : ¬ ((a : Int) = (p : Int)) := by omega
      rw [if_neg this]
theorem join_link {ns : List Nd} {us vs : List Nat} {i q : Nat} {c : Int} (h : LinkS ns (us ++ i :: q :: vs)) (hc : 0 ≤ c) :
    LinkS (joinN ns i c) (us ++ i :: vs) ∧ idsOf (joinN ns i c) (us ++ i :: vs) = idsOf ns us ++ c :: idsOf ns vs ∧ (ndAt ns i).next = q ∧ (ndAt ns i).ahead = lst us (-1) ∧ (∀ p, p ∈ us ∨ p ∈ vs → (ndAt (joinN ns i c) p).id = (ndAt ns p).id) ∧ (ndAt (joinN ns i c) i).id = c ∧ (ndAt (joinN ns i c) i).ahead = lst us (-1) ∧ (ndAt (joinN ns i c) i).next = hd vs (-1) := by
  obtain ⟨c1, c2⟩ := (ch_append us (-1)).1 h.ch
  obtain ⟨a1, a2, a3, a4, c3⟩ := c2
  simp only [hd] at a2
  have hs := h.sorted
  rw [List.pairwise_append, List.pairwise_cons, List.pairwise_cons] at hs
  obtain ⟨s1, ⟨s2, s3, s4⟩, s5⟩ := hs
  have hi : i < ns.length := h.lt i (by simp)
  have hq : q < ns.length := h.lt q (by simp)
  have hiq : i < q := s2 q (by simp)
  have hus : ∀ p ∈ us, p < i := fun p hp => s5 p hp i (by simp)
  have hvs : ∀ p ∈ vs, q < p := s3
  have hvl : ∀ p ∈ vs, p < ns.length := fun p hp => h.lt p (by simp [hp])
  -- the node of a place, behind the join
  have at_ : ∀ p, ndAt (joinN ns i c) p = if p = i then ⟨c, (ndAt ns i).ahead, hd vs (-1)⟩ else if p = q then ⟨-2, (ndAt ns q).ahead, (ndAt ns q).next⟩ else if hd vs (-1) = (p : Int) then ⟨(ndAt ns p).id, (i : Int), (ndAt ns p).next⟩ else ndAt ns p := by
    intro p
    unfold joinN
    rw [a2, Int.toNat_natCast, a4]
    refine (joinW_at hi hq hiq ?_ p).trans (by rw [a4])
    cases hv : vs with
    | nil => exact .inl rfl
    | cons a r => exact .inr ⟨a, rfl, hvs a (by simp [hv]), hvl a (by simp [hv])⟩
  have hvh : ∀ p : Nat, hd vs (-1) = (p : Int) → p ∈ vs := fun p hp => by
    cases hv : vs with
    | nil =>
      rw [hv] at hp
      simp only [hd] at hp
      omega
    | cons a r =>
      rw [hv] at hp
      simp only [hd] at hp
      have : a = p := by omega
      simp [this]
  have atU : ∀ p ∈ us, ndAt (joinN ns i c) p = ndAt ns p := by
    intro p hp
    have h1 := hus p hp
    rw [at_, if_neg (by omega), if_neg (by omega), if_neg fun e => by have := hvs p (hvh p e); omega]
  have atV : ∀ p ∈ vs, (ndAt (joinN ns i c) p).id = (ndAt ns p).id ∧ (ndAt (joinN ns i c) p).next = (ndAt ns p).next ∧ (ndAt (joinN ns i c) p).ahead = if hd vs (-1) = (p : Int) then (i : Int) else (ndAt ns p).ahead := by
    intro p hp
    have h1 := hvs p hp
    rw [at_, if_neg (by omega), if_neg (by omega)]
    by_cases e : hd vs (-1) = (p : Int)
    · rw [if_pos e, if_pos e]; exact ⟨rfl, rfl, rfl⟩
    · rw [if_neg e, if_neg e]; exact ⟨rfl, rfl, rfl⟩
  have atI : ndAt (joinN ns i c) i = ⟨c, (ndAt ns i).ahead, hd vs (-1)⟩ := by rw [at_, if_pos rfl]
  refine ⟨⟨(ch_append us (-1)).2 ⟨ch_congr us _ _ (fun p hp => by rw [atU p hp]; exact ⟨rfl, rfl⟩) c1, ?_⟩, ?_, ?_, ?_, ?_, ?_⟩, ?_, a2, a1, fun p hp => ?_, by rw [atI], by rw [atI]; exact a1, by rw [atI]⟩
  · refine ⟨by rw [atI]; exact a1, by rw [atI], ?_⟩
    cases hv : vs with
    | nil => trivial
    | cons a r =>
      rw [hv] at c3
      obtain ⟨b1, b2, b3⟩ := c3
      have ha := atV a (by rw [hv]; simp)
      have hrs : ∀ p ∈ r, a < p := by
        rw [hv] at s4
        exact (List.pairwise_cons.1 s4).1
      refine ⟨by rw [ha.2.2, hv]; simp [hd], by rw [ha.2.1]; exact b2, ch_congr r _ _ (fun p hp => ?_) b3⟩
      have h2 := atV p (by rw [hv]; simp [hp])
      refine ⟨?_, h2.2.1⟩
      rw [h2.2.2, hv, if_neg fun e => by have := hrs p hp; simp only [hd] at e; omega]
  · rw [List.pairwise_append, List.pairwise_cons]
    exact ⟨s1, ⟨fun p hp => s2 p (by simp [hp]), s4⟩, fun p hp x hx => s5 p hp x (by
      rcases List.mem_cons.1 hx with rfl | hx
      · simp
      · simp [hx])⟩
  · intro p hp
    rw [joinN_length]
    exact h.lt p (by
      rcases List.mem_append.1 hp with hp | hp
      · simp [hp]
      · rcases List.mem_cons.1 hp with rfl | hp
        · simp
        · simp [hp])
  · intro p hp
    rcases List.mem_append.1 hp with hp | hp
    · rw [atU p hp]; exact h.alive p (by simp [hp])
    · rcases List.mem_cons.1 hp with rfl | hp
      · rw [atI]; exact hc
      · rw [(atV p hp).1]; exact h.alive p (by simp [hp])
  · intro p hp hn
    rw [joinN_length] at hp
    simp only [List.mem_append, List.mem_cons, not_or] at hn
    rw [at_, if_neg hn.2.1]
    by_cases e : p = q
    · rw [if_pos e]
    · rw [if_neg e, if_neg fun e => hn.2.2 (hvh p e)]
      exact h.dead p hp (by simp [hn.1, hn.2.1, hn.2.2, e])
  · intro hne
    have hne' : ns ≠ [] := fun e => by rw [e] at hi; simp at hi
    have := h.head hne'
    cases us with
    | nil => exact this
    | cons u us => exact this
  · rw [idsOf, List.map_append, List.map_cons, atI]
    congr 1
    · exact List.map_congr_left fun p hp => by rw [atU p hp]
    · congr 1
      exact List.map_congr_left fun p hp => (atV p hp).1
  · rcases hp with hp | hp
    · rw [atU p hp]
    · exact (atV p hp).1

/-! ### The queue -/
/-- What waits stands for two that may become one. -/
def GoodE (ms : List (Int × Int)) (below : Int) (n : Nat) (e : HE) : Prop := ∃ (i f : Nat), ms.idxOf? (e.a, e.b) = some i ∧ e.r = ((256 + i : Nat) : Int) ∧ e.r < below ∧ e.f = (f : Int) ∧ e.p = (f : Int) ∧ f < n
structure Waits (ms : List (Int × Int)) (below : Int) (ns : List Nd) (ps : List Nat) (es : List HE) : Prop where
  good : ∀ e ∈ es, GoodE ms below ns.length e
  all : ∀ us p q vs, ps = us ++ p :: q :: vs → ∀ i, ms.idxOf? ((ndAt ns p).id, (ndAt ns q).id) = some i → ((256 + i : Nat) : Int) < below → ∃ e ∈ es, e.f = (p : Int) ∧ e.a = (ndAt ns p).id ∧ e.b = (ndAt ns q).id
def Stale (ns : List Nd) (e : HE) : Prop := (ndAt ns e.f.toNat).id ≠ e.a ∨ (ndAt ns e.f.toNat).next = -1 ∨ (ndAt ns (ndAt ns e.f.toNat).next.toNat).id ≠ e.b
instance (ns : List Nd) (e : HE) : Decidable (Stale ns e) := by unfold Stale; infer_instance
/-- Two tokens of a chain that stand side by side. -/
theorem beside_ids {ns : List Nd} {ps : List Nat} {a b : Int} (h : Beside a b (idsOf ns ps)) : ∃ us p q vs, ps = us ++ p :: q :: vs ∧ (ndAt ns p).id = a ∧ (ndAt ns q).id = b := by
  obtain ⟨u, v, he⟩ := h
  obtain ⟨us, rest, rfl, h1, h2⟩ := List.map_eq_append_iff.1 he
  obtain ⟨p, r1, rfl, h3, h4⟩ := List.map_eq_cons_iff.1 h2
  obtain ⟨q, vs, rfl, h5, h6⟩ := List.map_eq_cons_iff.1 h4
  exact ⟨us, p, q, vs, rfl, h3, h5⟩
theorem not_stale_split {ms : List (Int × Int)} {below : Int} {ns : List Nd} {ps : List Nat} {e : HE} (hL : LinkS ns ps) (hg : GoodE ms below ns.length e) (hpos : ∀ m ∈ ms, 0 ≤ m.1) (hs : ¬ Stale ns e) :
    ∃ (us : List Nat) (f q : Nat) (vs : List Nat), ps = us ++ f :: q :: vs ∧ e.f = (f : Int) ∧ (ndAt ns f).id = e.a ∧ (ndAt ns q).id = e.b ∧ (ndAt ns f).next = (q : Int) := by
  obtain ⟨i, f, hi, hr, hb, hf, hp, hn⟩ := hg
  simp only [Stale, not_or, Classical.not_not] at hs
  obtain ⟨h1, h2, h3⟩ := hs
  rw [hf, Int.toNat_natCast] at h1 h2 h3
  have hmem : (e.a, e.b) ∈ ms := by
    rcases Classical.em ((e.a, e.b) ∈ ms) with h | h
    · exact h
    · rw [List.idxOf?_eq_none_iff.2 h] at hi; cases hi
  have h0 := hpos _ hmem
  have hfm : f ∈ ps := by
    rcases Classical.em (f ∈ ps) with h | h
    · exact h
    · have := hL.dead f hn h
      omega
  obtain ⟨us, rest, rfl⟩ := List.append_of_mem hfm
  obtain ⟨_, c2⟩ := (ch_append us (-1)).1 hL.ch
  obtain ⟨_, a2, _⟩ := c2
  cases rest with
  | nil => exact absurd a2 h2
  | cons q vs =>
    simp only [hd] at a2
    rw [a2, Int.toNat_natCast] at h3
    exact ⟨us, f, q, vs, rfl, hf, h1, h3, a2⟩
theorem take_sound {k : Int} : ∀ {ms : List (Int × Int)} {k : Int} (n : Nat), Sound k ms → Sound k (ms.take n)
  | [], _, n, _ => by simp [Sound]
  | m :: ms, k, 0, _ => by simp [Sound]
  | m :: ms, k, n + 1, h => ⟨h.1, h.2.1, take_sound (k := k) n h.2.2⟩
theorem idx_take {ms : List (Int × Int)} {i : Nat} {m : Int × Int} (h : m ∈ ms.take i) : ∃ j, j < i ∧ ms.idxOf? m = some j := by
  have hm : m ∈ ms := List.mem_of_mem_take h
  cases hx : ms.idxOf? m with
  | none => exact absurd hm (List.idxOf?_eq_none_iff.1 hx)
  | some j =>
    refine ⟨j, ?_, rfl⟩
    obtain ⟨hj, he, hb⟩ := List.findIdx?_eq_some_iff_getElem.1 hx
    obtain ⟨k, hk, rfl⟩ := List.getElem_of_mem h
    simp only [List.length_take] at hk
    rcases Nat.lt_or_ge j i with h' | h'
    · exact h'
    · exfalso
      have := hb k (by omega)
      simp at this
/-- **What is least may be joined.** -/
theorem least_join {ms : List (Int × Int)} {below : Int} {ns : List Nd} {ps : List Nat} {es : List HE} {e : HE} (hL : LinkS ns ps) (hW : Waits ms below ns ps es) (hS : Sound 256 ms) (hpos : ∀ m ∈ ms, 0 ≤ m.1) (he : e ∈ es) (hmin : ∀ x ∈ es, ¬ x.lt e) {us : List Nat} {f q : Nat} {vs : List Nat} (hps : ps = us ++ f :: q :: vs) (hf : e.f = (f : Int)) (ha : (ndAt ns f).id = e.a) (hb : (ndAt ns q).id = e.b) :
    encB ms below (idsOf ns ps) = encB ms below (idsOf ns us ++ e.r :: idsOf ns vs) := by
  obtain ⟨i, f', hi, hr, hlt, hf', hp, hn⟩ := hW.good e he
  have hff : f' = f := by omega
  subst hff
  obtain ⟨hil, hie, hib⟩ := List.findIdx?_eq_some_iff_getElem.1 hi
  have hie : ms[i] = (e.a, e.b) := by simpa using hie
  have hi2 : i < (below - 256).toNat := by omega
  have hsplit : ms.take (below - 256).toNat = ms.take i ++ (e.a, e.b) :: (ms.drop (i + 1)).take ((below - 256).toNat - (i + 1)) := by
    have h1 : ms.take (below - 256).toNat = (ms.take (below - 256).toNat).take i ++ (ms.take (below - 256).toNat).drop i := (List.take_append_drop _ _).symm
    rw [h1, List.take_take, Nat.min_eq_left (by omega)]
    congr 1
    rw [List.drop_take, List.drop_eq_getElem_cons hil, hie]
    rw [show (below - 256).toNat - i = ((below - 256).toNat - (i + 1)) + 1 by omega, List.take_succ_cons]
  have hids : idsOf ns ps = idsOf ns us ++ e.a :: e.b :: idsOf ns vs := by rw [hps, idsOf, List.map_append, List.map_cons, List.map_cons, ha, hb]; rfl
  -- an entry for each pair that stands there
  have entry : ∀ (us' : List Nat) (p q' : Nat) (vs' : List Nat), ps = us' ++ p :: q' :: vs' → ∀ j, ms.idxOf? ((ndAt ns p).id, (ndAt ns q').id) = some j → j ≤ i → ¬ (j < i ∨ p < f') := by
    intro us' p q' vs' hps' j hj hji hor
    obtain ⟨x, hx, hxf, hxa, hxb⟩ := hW.all us' p q' vs' hps' j hj (by omega)
    obtain ⟨j', fx, hj', hxr, _, hxf', hxp, _⟩ := hW.good x hx
    rw [hxa, hxb, hj] at hj'
    cases hj'
    apply hmin x hx
    unfold HE.lt
    omega
  unfold encB
  rw [hsplit, hids]
  have hlen : (ms.take i).length = i := by rw [List.length_take]; omega
  have := enc_join (k := 256) (low := ms.take i) (high := (ms.drop (i + 1)).take ((below - 256).toNat - (i + 1))) (m := (e.a, e.b)) (u := idsOf ns us) (v := idsOf ns vs) (by rw [← hsplit]; exact take_sound (k := 0) _ hS) ?_ ?_
  · rw [hlen] at this
    rw [this]
    congr 2
    congr 1
    omega
  · intro m hm hbs
    have hbs : Beside m.1 m.2 (idsOf ns ps) := by rw [hids]; exact hbs
    obtain ⟨us', p, q', vs', hps', h1, h2⟩ := beside_ids hbs
    obtain ⟨j, hj, hjx⟩ := idx_take hm
    exact entry us' p q' vs' hps' j (by rw [h1, h2]; exact hjx) (by omega) (.inl hj)
  · intro hbs
    have hbs : Beside e.a e.b (idsOf ns (us ++ [f'])) := by
      have : idsOf ns (us ++ [f']) = idsOf ns us ++ [e.a] := by rw [idsOf, List.map_append, List.map_cons, ha]; rfl
      rw [this]
      exact hbs
    obtain ⟨us', p, q', vs', hps', h1, h2⟩ := beside_ids hbs
    have hps2 : ps = us' ++ p :: q' :: (vs' ++ q :: vs) := by
      rw [hps]
      have : us ++ f' :: q :: vs = (us ++ [f']) ++ q :: vs := by simp
      rw [this, hps']
      simp
    have hpf : p < f' := by
      have hs := hL.sorted
      rw [hps, show us ++ f' :: q :: vs = (us ++ [f']) ++ q :: vs by simp] at hs
      have hs := (List.pairwise_append.1 hs).1
      have hq : q' ∈ us ++ [f'] := by rw [hps']; simp
      have hpq : p < q' := by
        rw [hps', List.pairwise_append, List.pairwise_cons] at hs
        exact hs.2.1.1 q' (by simp)
      rcases List.mem_append.1 hq with hq | hq
      · have hs2 := (List.pairwise_append.1 ((by
          have h0 := hL.sorted
          rw [hps] at h0
          exact h0) : (us ++ f' :: q :: vs).Pairwise (· < ·))).2.2 q' hq f' (by simp)
        omega
      · have := List.mem_singleton.1 hq
        omega
    exact entry us' p q' _ hps2 i (by rw [h1, h2]; exact hi) (Nat.le_refl _) (.inr hpf)
theorem waits_stale {ms : List (Int × Int)} {below : Int} {ns : List Nd} {ps : List Nat} {es es' : List HE} {e : HE} (hL : LinkS ns ps) (hW : Waits ms below ns ps es) (h1 : ∀ x ∈ es, x = e ∨ x ∈ es') (h2 : ∀ x ∈ es', x ∈ es) (hs : Stale ns e) : Waits ms below ns ps es' := by
  refine ⟨fun x hx => hW.good x (h2 x hx), fun us p q vs hps i hi hb => ?_⟩
  obtain ⟨x, hx, hf, ha, hb'⟩ := hW.all us p q vs hps i hi hb
  rcases h1 x hx with rfl | hx
  · exfalso
    have hc := hL.ch
    rw [hps] at hc
    obtain ⟨_, _, a2, _⟩ := (ch_append us (-1)).1 hc
    simp only [hd] at a2
    unfold Stale at hs
    rw [hf, Int.toNat_natCast, a2, Int.toNat_natCast] at hs
    rcases hs with h | h | h
    · exact h ha.symm
    · omega
    · exact h hb'.symm
  · exact ⟨x, hx, hf, ha, hb'⟩
/-- Does a place and the next one wait? -/
def Asked (ms : List (Int × Int)) (below : Int) (ns : List Nd) (j : Int) (es : List HE) : Prop := ∀ (p q : Nat) (i : Nat), j = (p : Int) → (ndAt ns p).next = (q : Int) → ms.idxOf? ((ndAt ns p).id, (ndAt ns q).id) = some i → ((256 + i : Nat) : Int) < below → ∃ e ∈ es, e.f = (p : Int) ∧ e.a = (ndAt ns p).id ∧ e.b = (ndAt ns q).id
theorem lst_last : ∀ (us : List Nat) (p : Nat) (prev : Int), lst (us ++ [p]) prev = p
  | [], p, prev => rfl
  | u :: us, p, prev => lst_last us p u
theorem waits_join {ms : List (Int × Int)} {below : Int} {ns : List Nd} {us vs : List Nat} {i q : Nat} {c : Int} {es es1 es' : List HE} {e : HE} (hL : LinkS ns (us ++ i :: q :: vs)) (hc : 0 ≤ c) (hW : Waits ms below ns (us ++ i :: q :: vs) es) (hei : e.f = (i : Int)) (h1 : ∀ x ∈ es, x = e ∨ x ∈ es1) (h2 : ∀ x ∈ es1, x ∈ es)
    (g1 : ∀ x ∈ es1, x ∈ es') (g2 : ∀ x ∈ es', x ∈ es1 ∨ GoodE ms below ns.length x) (q1 : Asked ms below (joinN ns i c) (lst us (-1)) es') (q2 : Asked ms below (joinN ns i c) i es') : Waits ms below (joinN ns i c) (us ++ i :: vs) es' := by
  obtain ⟨hL', _, hnx, hah, hid, hidi, hahi, hnxi⟩ := join_link hL hc
  have hs := hL.sorted
  rw [List.pairwise_append, List.pairwise_cons] at hs
  have hiu : i ∉ us := fun h => by have := hs.2.2 i h i (by simp); omega
  have hiv : i ∉ vs := fun h => by have := hs.2.1.1 i (by simp [h]); omega
  refine ⟨fun x hx => ?_, fun us' p r vs' hps j hj hb => ?_⟩
  · rw [joinN_length]
    rcases g2 x hx with h | h
    · exact hW.good x (h2 x h)
    · exact h
  · have hch := hL'.ch
    rw [hps] at hch
    obtain ⟨_, b1, b2, _⟩ := (ch_append us' (-1)).1 hch
    simp only [hd] at b2
    -- where the pair stands
    have old : (∃ us0 vs0, us ++ i :: q :: vs = us0 ++ p :: r :: vs0) → p ≠ i → (p ∈ us ∨ p ∈ vs) → (r ∈ us ∨ r ∈ vs) → ∃ x ∈ es', x.f = (p : Int) ∧ x.a = (ndAt (joinN ns i c) p).id ∧ x.b = (ndAt (joinN ns i c) r).id := by
      rintro ⟨us0, vs0, h0⟩ hpi hp hr
      rw [hid p hp, hid r hr] at hj ⊢
      obtain ⟨x, hx, hf, ha, hb'⟩ := hW.all us0 p r vs0 h0 j hj hb
      refine ⟨x, ?_, hf, ha, hb'⟩
      rcases h1 x hx with rfl | h
      · exfalso
        omega
      · exact g1 x h
    rcases List.append_eq_append_iff.1 hps with ⟨t, ht, hc'⟩ | ⟨t, ht, hc'⟩
    · -- us' = us ++ t, i :: vs = t ++ p :: r :: vs'
      cases t with
      | nil =>
        simp only [List.nil_append, List.cons.injEq] at hc'
        obtain ⟨rfl, _⟩ := hc'
        exact q2 i r j rfl b2 hj hb
      | cons t0 t =>
        simp only [List.cons_append, List.cons.injEq] at hc'
        obtain ⟨rfl, hv⟩ := hc'
        have hpv : p ∈ vs := by rw [hv]; simp
        refine old ⟨us ++ i :: q :: t, vs', by rw [hv]; simp⟩ (fun e => hiv (e ▸ hpv)) (.inr hpv) (.inr (by rw [hv]; simp))
    · -- us = us' ++ t, p :: r :: vs' = t ++ i :: vs
      match t, hc' with
      | [], hc' =>
        simp only [List.nil_append, List.cons.injEq] at hc'
        obtain ⟨rfl, _⟩ := hc'
        exact q2 p r j rfl b2 hj hb
      | [t0], hc' =>
        simp only [List.cons_append, List.nil_append, List.cons.injEq] at hc'
        obtain ⟨rfl, rfl, _⟩ := hc'
        have : lst us (-1) = (p : Int) := by rw [ht]; exact lst_last us' p (-1)
        rw [this] at q1
        exact q1 p r j rfl b2 hj hb
      | t0 :: t1 :: t, hc' =>
        simp only [List.cons_append, List.cons.injEq] at hc'
        obtain ⟨rfl, rfl, _⟩ := hc'
        have hpu : p ∈ us := by rw [ht]; simp
        have hru : r ∈ us := by rw [ht]; simp
        exact old ⟨us', t ++ i :: q :: vs, by rw [ht]; simp⟩ (fun e => hiu (e ▸ hpu)) (.inl hpu) (.inl hru)
/-- Nothing waits: nothing more is made. -/
theorem waits_none {ms : List (Int × Int)} {below : Int} {ns : List Nd} {ps : List Nat} (hW : Waits ms below ns ps []) : encB ms below (idsOf ns ps) = idsOf ns ps := by
  refine encFrom_none _ _ _ fun m hm hb => ?_
  obtain ⟨us, p, q, vs, hps, h1, h2⟩ := beside_ids hb
  obtain ⟨j, hj, hjx⟩ := idx_take hm
  obtain ⟨x, hx, _⟩ := hW.all us p q vs hps j (by rw [h1, h2]; exact hjx) (by omega)
  cases hx
/-! ### The beginning -/
def begN (bs : List Int) : List Nd := bs.zipIdx.map fun x => { id := x.1, ahead := (x.2 : Int) - 1, next := if x.2 + 1 = bs.length then -1 else (x.2 : Int) + 1 }
theorem begN_length (bs : List Int) : (begN bs).length = bs.length := by simp [begN]
theorem begN_at {bs : List Int} {p : Nat} (hp : p < bs.length) : ndAt (begN bs) p = { id := bs[p], ahead := (p : Int) - 1, next := if p + 1 = bs.length then -1 else (p : Int) + 1 } := by
  simp [ndAt, begN, List.getD_eq_getElem?_getD, hp]
theorem beg_ch (bs : List Int) : ∀ (k p : Nat), p + k = bs.length → Ch (begN bs) ((p : Int) - 1) (List.range' p k) (-1)
  | 0, p, h => trivial
  | k + 1, p, h => by
    simp only [List.range'_succ, Ch]
    rw [begN_at (show p < bs.length by omega)]
    refine ⟨rfl, ?_, ?_⟩
    · cases k with
      | zero => simp [hd]; omega
      | succ k =>
        rw [if_neg (by omega)]
        simp [List.range'_succ, hd]
    · have := beg_ch bs k (p + 1) (by omega)
      rw [show ((p + 1 : Nat) : Int) - 1 = (p : Int) by omega] at this
      exact this
theorem beg_link {bs : List Int} (h : ∀ b ∈ bs, 0 ≤ b) : LinkS (begN bs) (List.range' 0 bs.length) ∧ idsOf (begN bs) (List.range' 0 bs.length) = bs := by
  refine ⟨⟨by have := beg_ch bs bs.length 0 (by omega); simpa using this, ?_, fun p hp => ?_, fun p hp => ?_, fun p hp hn => ?_, fun hne => ?_⟩, ?_⟩
  · exact List.pairwise_lt_range' (s := 0) (n := bs.length)
  · rw [begN_length]
    have := List.mem_range'_1.1 hp
    omega
  · have := List.mem_range'_1.1 hp
    rw [begN_at (by omega)]
    exact h _ (List.getElem_mem _)
  · rw [begN_length] at hp
    exact absurd (List.mem_range'_1.2 ⟨by omega, by omega⟩) hn
  · cases bs with
    | nil => exact absurd rfl hne
    | cons b bs => rfl
  · apply List.ext_getElem
    · simp [idsOf]
    · intro i h1 h2
      simp only [idsOf, List.getElem_map, List.getElem_range']
      rw [show 0 + 1 * i = i by omega, begN_at h2]
theorem beg_waits {ms : List (Int × Int)} {below : Int} {bs : List Int} {es : List HE} (hg : ∀ e ∈ es, GoodE ms below bs.length e) (ha : ∀ p, p < bs.length → Asked ms below (begN bs) p es) : Waits ms below (begN bs) (List.range' 0 bs.length) es := by
  refine ⟨by rw [begN_length]; exact hg, fun us p q vs hps i hi hb => ?_⟩
  have hpm : p ∈ List.range' 0 bs.length := by rw [hps]; simp
  have hp : p < bs.length := by have := List.mem_range'_1.1 hpm; omega
  refine ha p hp p q i rfl ?_ hi hb
  have hc := beg_ch bs bs.length 0 (by omega)
  rw [hps] at hc
  obtain ⟨_, _, a2, _⟩ := (ch_append us _).1 hc
  exact a2
end Go.Proofs.YtpklkijdlnioaaaGreat.Eng
