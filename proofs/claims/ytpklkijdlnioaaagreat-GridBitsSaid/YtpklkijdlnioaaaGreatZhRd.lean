/- The reference's pieces, walked by the engine. -/
import Derived.Test.YtpklkijdlnioaaaGreatZhRc
set_option linter.unusedVariables false
set_option linter.unusedSimpArgs false
set_option maxRecDepth 100000
namespace Go.Proofs.YtpklkijdlnioaaaGreat.Eng
open Go Go.RowKit
theorem IsChop.more {cut : Int → Int → Bool} {p q : List Int} (hp : p ≠ []) (hu : Uncut cut (p ++ q)) : ∀ {a : List (List Int)}, IsChop cut (a ++ [p]) → IsChop cut (a ++ [p ++ q])
  | [], _ => ⟨by simp [hp], hu⟩
  | z :: a, h => by
    rw [List.cons_append] at h ⊢
    refine IsChop.cons h.head.1 h.head.2 (fun w r hw => ?_) (IsChop.more hp hu h.tail)
    cases a with
    | nil =>
      cases hw
      obtain ⟨u, v, hu', hv, hc⟩ := h.2.2.1
      exact ⟨u, v, hu', by rw [head_app _ hp]; exact hv, hc⟩
    | cons z' a => cases hw; exact h.2.2.1
theorem chop_new {cut : Int → Int → Bool} {Z : List Int} {x y : Int} (hx : Z.getLast? = some x) (hc : cut x y = true) : chop cut (Z ++ [y]) = chop cut Z ++ [[y]] := by
  obtain ⟨h1, h2⟩ := chop_is (cut := cut) Z
  rcases List.eq_nil_or_concat (chop cut Z) with e | ⟨a, p, e⟩
  · rw [e] at h2
    rw [← h2] at hx
    cases hx
  · rw [List.concat_eq_append] at e
    rw [e] at h1 h2 ⊢
    have hp := (chop_all' h1)
    have hlast : p.getLast? = some x := by
      rw [← h2, List.flatten_append, List.flatten_cons, List.flatten_nil, List.append_nil, getLast_app _ hp] at hx
      exact hx
    have := chop_unique (cut := cut) (a ++ p :: [[y]]) (h1.glue ⟨by simp, trivial⟩ fun q r' hq => by cases hq; exact ⟨x, y, hlast, rfl, hc⟩)
    rw [show (a ++ p :: [[y]]).flatten = Z ++ [y] by rw [← h2]; simp] at this
    rw [this]
    simp
where chop_all' {cut : Int → Int → Bool} {a : List (List Int)} {p : List Int} (h : IsChop cut (a ++ [p])) : p ≠ [] := (h.append).2.head.1
theorem chop_last {cut : Int → Int → Bool} {Z : List Int} {x y : Int} (hx : Z.getLast? = some x) (hc : cut x y = false) : ∃ a p, chop cut Z = a ++ [p] ∧ chop cut (Z ++ [y]) = a ++ [p ++ [y]] := by
  obtain ⟨h1, h2⟩ := chop_is (cut := cut) Z
  rcases List.eq_nil_or_concat (chop cut Z) with e | ⟨a, p, e⟩
  · rw [e] at h2
    rw [← h2] at hx
    cases hx
  · rw [List.concat_eq_append] at e
    rw [e] at h1 h2 ⊢
    have hpp := (h1.append).2.head
    have hlast : p.getLast? = some x := by
      rw [← h2, List.flatten_append, List.flatten_cons, List.flatten_nil, List.append_nil, getLast_app _ hpp.1] at hx
      exact hx
    refine ⟨a, p, rfl, ?_⟩
    have hu : Uncut cut (p ++ [y]) := (uncut_append p [y]).2 ⟨hpp.2, trivial, fun u v hu hv => by rw [hlast] at hu; cases hu; cases hv; exact hc⟩
    have := chop_unique (cut := cut) (a ++ [p ++ [y]]) (IsChop.more hpp.1 hu h1)
    rwa [show (a ++ [p ++ [y]]).flatten = Z ++ [y] by rw [← h2]; simp] at this
theorem store_one {w : World} {p : Addr} {v : Value} {k : World → Prop} (h : StoreP w p k [v] 0) : v.oneCell' = true ∧ (∃ u, w.cell? p = some u) ∧ w.frozen? p = false ∧ ∀ w', w' = w.setCell p v → k w' := by
  obtain ⟨h1, h2, h3, h4⟩ := h
  rw [add_zero] at h2 h3 h4
  exact ⟨h1, h2, h3, h4⟩
theorem ints_map_append (a : List Bs) (p : Bs) : (a ++ [p]).map ints = a.map ints ++ [ints p] := by simp
theorem map_last {a : List Bs} {x : List (List Int)} {p : List Int} (h : a.map ints = x ++ [p]) : ∃ b q, a = b ++ [q] ∧ b.map ints = x ∧ ints q = p := by
  rcases List.eq_nil_or_concat a with e | ⟨b, q, e⟩
  · rw [e] at h
    simp at h
  · rw [List.concat_eq_append] at e
    subst e
    rw [ints_map_append] at h
    have := List.append_inj' h rfl
    exact ⟨b, q, rfl, this.1, by simpa using this.2⟩
theorem refPieces_spec (w : World) (x : RtW) (cls : List (Int × Int × Int)) (js : List (Int × Int)) (h : BtAt w x cls js) (hl : cls.length ≤ 1000000) (hj : js.length ≤ 1000000) (s : Bs) (hs : s.length ≤ 1000000) :
    Calls Tryz.prog 58 #[x.v, .string (str s)] w fun e w' => ∃ (l : Sl) (ps : List Bs), e = .returned l.v ∧ w'.ownsRow w.heap.size tStr 1 l.v l.n (ps.flatMap encStr) ∧ ps.map ints = chop (cutB cls js) (ints s) ∧ Below w.heap.size w w' := by
  refine calls_ret (vc58_calls x.b.a x.b.n x.b.c x.m.a x.m.n x.m.c (str s) w (fun u w' => ∃ (l : Sl) (ps : List Bs), u = l.v ∧ w'.ownsRow w.heap.size tStr 1 l.v l.n (ps.flatMap encStr) ∧ ps.map ints = chop (cutB cls js) (ints s) ∧ Below w.heap.size w w') ?_) (by rintro v w' ⟨l, ps, rfl, h⟩; exact ⟨l, ps, rfl, h⟩)
  intro w1 hw1
  have hb1 : Below w.heap.size w w1 := by subst hw1; exact below_alloc _ _
  have l1 : w1.heap[w.heap.size]? = some (.cells #[x.b.v, x.m.v] tBt (0, 0)) := by subst hw1; exact alloc_new _ _
  intro I hI
  let Inv (i : Nat) (y : Sl × World) : Prop := ∃ ps : List Bs, y.2.ownsRow w1.heap.size tStr 1 y.1.v y.1.n (ps.flatMap encStr) ∧ ps.map ints = chop (cutB cls js) (ints (s.take i)) ∧ ps.length ≤ i ∧ (∀ p ∈ ps, p.length ≤ i) ∧ Below w1.heap.size w1 y.2
  have key := climb2 (α := Sl × World) s.length Inv (fun i y => I [.int .i64 (i : Int), y.1.v] y.2) (sl0, w1) ⟨[], own_none _ _ _ _ encStr, by simp [ints, chop], Nat.le_refl _, by simp, Below.refl _ _⟩ ?_ ?_
  · exact key
  · rintro i hi ih ⟨l, q⟩ ⟨ps, hown, hps, hpl, hpp, hB⟩
    change q.ownsRow w1.heap.size tStr 1 l.v l.n _ at hown
    change Below w1.heap.size w1 q at hB
    have hln : l.n = ps.length := (LsAt.of_own elStr hown).n
    have htake := ints_take s i hi
    refine hI _ l.a l.n l.c q (CondP.yes (by rw [str_size]; simp; omega) ?_)
    intro J hJ w6 hw6
    have b6 : Below q.heap.size q w6 := by subst hw6; exact drew_on q
    have join : ∀ (l' : Sl) (v : World) (a : List Bs) (p : Bs), v.ownsRow w1.heap.size tStr 1 l'.v l'.n ((a ++ [p]).flatMap encStr) → Below w1.heap.size w1 v → a.map ints ++ [ints p ++ [((s[i].toNat : Nat) : Int)]] = chop (cutB cls js) (ints (s.take (i + 1))) → a.length ≤ i → p.length ≤ i → (∀ z ∈ a, z.length ≤ i) → J [.slice l'.a l'.n l'.c] v := by
      intro l' v a p hv hBv hch hal hpl hza
      refine hJ l'.a l'.n l'.c v ?_
      intro w4 hw4
      have b4 : Below v.heap.size v w4 := by subst hw4; exact drew_on v
      have hv4 : w4.ownsRow w1.heap.size tStr 1 l'.v l'.n ((a ++ [p]).flatMap encStr) := by subst hw4; exact own_drew hv
      have hB4 : Below w1.heap.size w1 w4 := hBv.trans (b4.mono hBv.size)
      have hls := LsAt.of_own elStr hv4
      have hn := hls.n
      rw [List.length_append, List.length_singleton] at hn
      obtain ⟨pa, hpa, c0⟩ := cell_rw hls.r (i := a.length) (v := .string (str p)) (by simp) (by simp [encStr])
      refine Ar.nat a.length (by omega) (by omega) (Ar.nat a.length (by omega) (by omega) (NilC.mk pa hpa ⟨by omega, by omega, str p, c0, Ar.nat (i + 1) rfl (by omega) ⟨by omega, by omega, by rw [str_size]; omega, ?_, NilC.mk pa hpa ⟨by omega, by omega, ?_⟩⟩⟩))
      · show ((((str p).size + ((str s).extract i (i + 1)).size : Nat) : Int)) ≤ (9223372036854775807 : Int)
        rw [str_extract, str_size, str_size, List.length_take]
        omega
      · have hext : (str p) ++ (str s).extract (i : Int).toNat ((i + 1 : Nat) : Int).toNat = str (p ++ [s[i]]) := by
          show str p ++ (str s).extract i (i + 1) = _
          rw [str_extract, str_append, show i + 1 - i = 1 by omega, List.drop_eq_getElem_cons hi]
          rfl
        rw [hext]
        refine store_one (own_set (enc := encStr) (fun _ => rfl) (by decide) (fun y u hu => by rw [List.mem_singleton.1 hu]; rfl) hv4 hls.n hpa a.length (by simp) (p ++ [s[i]]) ?_)
        intro w5 h5 hs5 hz5 hB5
        have hset : (a ++ [p]).set a.length (p ++ [s[i]]) = a ++ [p ++ [s[i]]] := by rw [List.set_append_right _ _ (Nat.le_refl _), Nat.sub_self]; rfl
        rw [hset] at h5
        refine Ar.nat (i + 1) rfl (by omega) (ih (l', w5) ⟨a ++ [p ++ [s[i]]], h5, ?_, by simp; omega, ?_, hB5 _ _ (Nat.le_refl _) hB4⟩)
        · rw [ints_map_append, ← hch, ints_append]
          rfl
        · intro z hz
          rcases List.mem_append.1 hz with hz | hz
          · have := hza z hz; omega
          · rw [List.mem_singleton.1 hz]
            simp
            omega
    have fresh : ∀ (v : World) (w7 : World), v.ownsRow w1.heap.size tStr 1 l.v l.n (ps.flatMap encStr) → Below w1.heap.size w1 v → w7 = v.alloc (.cells #[Value.string ⟨#[]⟩] tStr) → chop (cutB cls js) (ints (s.take (i + 1))) = chop (cutB cls js) (ints (s.take i)) ++ [[((s[i].toNat : Nat) : Int)]] →
        ∃ A : Option Addr, ∃ N : Nat, ∃ C : Nat, ∃ w8 : World, (Builtin.append_ #[tStrs, tStrs] tStrs #[Value.slice l.a l.n l.c, Value.slice (some (nb v)) 1 1]).run Tryz.prog w7 = .ok (Value.slice A N C) w8 ∧ J [Value.slice A N C] w8 := by
      intro v w7 hv hBv hw7 hch
      obtain ⟨l', w8, hl', hrun, hown', hB', _⟩ := elStr.push hv ([] : Bs) hw7 rfl hBv.size (by omega) (by decide)
      exact ⟨l'.a, l'.n, l'.c, w8, hrun, join l' w8 ps [] hown' (hB' _ hBv) (by rw [hch, ← hps]; rfl) hpl (Nat.zero_le _) hpp⟩
    have hown6 : w6.ownsRow w1.heap.size tStr 1 l.v l.n (ps.flatMap encStr) := by subst hw6; exact own_drew hown
    have hB6 : Below w1.heap.size w1 w6 := hB.trans (b6.mono hB.size)
    refine CondP.mk (fun h0 => ?_) fun h0 => ?_
    · have h0 : i = 0 := by
        have : (i : Int) = 0 := by simpa using h0
        omega
      intro w7 hw7
      refine fresh w6 w7 hown6 hB6 hw7 ?_
      subst h0
      rw [htake]
      simp [ints, chop]
    · have h0 : i ≠ 0 := by
        intro e
        subst e
        simp at h0
      obtain ⟨j, rfl⟩ : ∃ j, i = j + 1 := ⟨i - 1, by omega⟩
      have hlast : (ints (s.take (j + 1))).getLast? = some ((s[j].toNat : Nat) : Int) := by rw [ints_take s j (by omega), List.getLast?_append]; rfl
      have hx := s[j].toNat_lt
      have hy := s[j + 1].toNat_lt
      refine ⟨_, _, _, _, _, _, agg2 (held_on (hB6) l1), Ar.nat j (by omega) (by omega) ⟨by omega, by rw [str_size]; omega, by omega, by rw [str_size]; omega, ?_⟩⟩
      rw [btAt_str s j (by omega), btAt_str s (j + 1) hi]
      refine (refCuts_spec w6 x cls js ((h.on hb1).on hB6) hl hj _ _ (by omega) (by omega)).mono ?_
      rintro e w9 ⟨rfl, b9⟩
      have hown9 := own_on hown6 b9
      have hB9 : Below w1.heap.size w1 w9 := hB6.trans (b9.mono hB6.size)
      refine ⟨_, rfl, CondP.mk (fun hc => ?_) fun hc => ?_⟩
      · intro w10 hw10
        refine fresh w9 w10 hown9 hB9 hw10 ?_
        rw [htake, chop_new hlast hc]
      · obtain ⟨a, p, e1, e2⟩ := chop_last hlast hc
        rw [e1] at hps
        obtain ⟨b, r, rfl, e3, e4⟩ := map_last hps
        refine join l w9 b r hown9 hB9 ?_ (by simp at hpl; omega) (hpp r (by simp)) (fun z hz => hpp z (by simp [hz]))
        rw [htake, e2, e3, e4]
  · rintro ⟨l, q⟩ ⟨ps, hown, hps, hpl, hpp, hB⟩
    change q.ownsRow w1.heap.size tStr 1 l.v l.n _ at hown
    change Below w1.heap.size w1 q at hB
    rw [List.take_length] at hps
    exact hI _ l.a l.n l.c q (CondP.no (by rw [str_size]; simp) ⟨l, ps, rfl, own_base hown hb1.size, hps, below_then hb1 hB⟩)
end Go.Proofs.YtpklkijdlnioaaaGreat.Eng
