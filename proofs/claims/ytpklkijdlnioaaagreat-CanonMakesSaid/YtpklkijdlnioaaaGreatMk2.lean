/- CanonMakes walked: what is made of any items is canonical. -/
import Derived.Test.YtpklkijdlnioaaaGreatRk
import Derived.Test.YtpklkijdlnioaaaGreatNn
set_option linter.unusedVariables false
set_option linter.unusedSimpArgs false
set_option maxRecDepth 100000
namespace Go.Proofs.YtpklkijdlnioaaaGreat.Eng
open Go Go.RowKit

theorem first_canon {V : Voc} (hV : V.Ok) {ids : List Int} (hh : ∀ t ∈ ids, V.Has t) (hc : V.Canon ids) {o : Option Nat} (ho : FirstIs V ids o) : o = none := by
  cases o with
  | none => rfl
  | some k =>
    exfalso
    obtain ⟨_, _, h2⟩ := ho
    rw [← List.take_append_drop (k + 1) ids] at hc hh
    exact h2 (Voc.canon_append hV hh hc).1
theorem hasV2_of {s : SpecV} {T : List Ent} (hok : TOk T) {t : Int} (h : (vocOf s T).Has t) : hasV2 s T t = true := by
  unfold hasV2
  rw [decide_eq_true_eq, tok_iff hok]
  exact Or.comm.1 h
theorem ready_of {s : SpecV} {T : List Ent} (hok : TOk T) {ids : List Int} (hh : ∀ t ∈ ids, (vocOf s T).Has t) (hl : ids.length ≤ 4000) : readyV s T ids = (0, 0) := by
  have : badId s T ids = -1 := idx_none (p := fun id => !hasV2 s T id) fun j hj => by rw [hasV2_of hok (hh _ (List.getElem_mem hj))]; rfl
  rw [readyV, if_neg (by omega), this]
  rfl
def itemIn (s : SpecV) (n : Int) : Bool := decide (-(s.specials.length : Int) ≤ n) && decide (n < 256)
theorem CanonMakes_spec (w : World) (y : CsW) (ls : List Int) (cs : List (Int × Int × Int)) (js : List (Int × Int)) (xs : List (Int × Bs)) (h : CsAt w y ls cs js xs) (A : Option Addr) (C : Nat) (items : List Int) (hr : Rw encInt 1 w A items) :
    Calls Tryz.prog 4 #[y.v, .slice A items.length C] w fun e w' => e = .returned (.bool true) ∧ Below w.heap.size w w' := by
  refine calls_ret (vc4_calls y.l.a y.l.n y.l.c y.c.a y.c.n y.c.c y.j.a y.j.n y.j.c y.x.a y.x.n y.x.c A items.length C w (fun u w' => u = .bool true ∧ Below w.heap.size w w') ?_) (by rintro v w' ⟨rfl, h⟩; exact ⟨rfl, h⟩)
  intro w1 hw1
  have hb1 : Below w.heap.size w w1 := by subst hw1; exact below_alloc _ _
  have l1 : w1.heap[w.heap.size]? = some (.cells y.cells tCs (0, 0)) := by subst hw1; exact alloc_new _ _
  refine ⟨_, _, _, _, _, _, _, _, _, _, _, _, agg4 l1, ?_⟩
  refine (lawGreat_spec w1 y ls cs js xs (h.on hb1)).mono ?_
  rintro e w2 ⟨n, rfl, b2⟩
  have hb2 := below_then hb1 b2
  have aw : ∀ {q : World}, Below w.heap.size w q → Calls Tryz.prog 16 #[] q fun e w' => ∃ b : Bool, e = .returned (.bool b) ∧ (Value.bool b = Value.bool true ∧ Below w.heap.size w w') := by
    intro q hq
    refine (awake18_spec q).mono ?_
    rintro e w3 ⟨rfl, b3⟩
    exact ⟨true, rfl, rfl, below_then hq b3⟩
  refine ⟨n, rfl, CondP.mk (fun _ => aw hb2) fun _ => CondP.mk (fun _ => aw hb2) fun h60 => ?_⟩
  have h60 := of_decide_eq_false h60
  refine (awake18_spec w2).mono ?_
  rintro e w6 ⟨rfl, b6⟩
  have hb6 := below_then hb2 b6
  refine ⟨_, rfl, CondP.no rfl ⟨_, _, _, _, _, _, _, _, _, _, _, _, agg4 (held_on b6 (held_on b2 l1)), ?_⟩⟩
  refine (lawOf_spec w6 y ls cs js xs (h.on hb6)).mono ?_
  rintro e w8 ⟨u, rfl, v, r, s, T, rfl, hB, hv, b8⟩
  have hb8 := below_then hb6 b8
  refine ⟨_, _, _, _, _, _, _, _, _, _, _, _, _, _, _, _, rfl, ?_⟩
  intro w9 hw9
  refine storeP_new (slRv rv0) (slRv r) rfl (ones_rv r) w9 hw9 ?_
  intro w10 h10 hz10 b10
  have hB10 := hB.on b10
  have hb10 := below_then hb8 b10
  have hvl := hB.voc.lt
  have hz1 := hb6.size
  have hsn := hB10.now.sn
  have hfew := hB.few
  refine CondP.no rfl ?_
  intro I hI
  have key := climb2 (α := Sl × World) items.length (fun i q => q.2.ownsRow w10.heap.size tInt 1 q.1.v q.1.n (((items.take i).filter (itemIn s)).flatMap encInt) ∧ q.1.n ≤ i ∧ Below w10.heap.size w10 q.2) (fun i q => I [.int .i64 (i : Int), q.1.v] q.2) (sl0, w10) ⟨own_none _ _ _ _ encInt, Nat.le_refl _, Below.refl _ _⟩ ?_ ?_
  · exact key
  · rintro i hi ih ⟨f, q⟩ ⟨hown, hfn, hBq⟩
    change q.ownsRow w10.heap.size tInt 1 f.v f.n _ at hown
    change f.n ≤ i at hfn
    change Below w10.heap.size w10 q at hBq
    have htk : items.take (i + 1) = items.take i ++ [items[i]] := by rw [List.take_add_one, List.getElem?_eq_getElem hi]; rfl
    rw [htk, List.filter_append] at ih
    refine hI _ f.a f.n f.c q (CondP.yes (by simp; omega) ?_)
    intro J hJ w12 hw12
    have b12 : Below q.heap.size q w12 := by subst hw12; exact drew_on q
    have hB12 := below_then hBq b12
    have hown12 := own_on hown b12
    have hw12 := below_then hb10 hB12
    obtain ⟨p, hp, c0⟩ := cell_rw (hr.on hw12) hi rfl
    have skip : itemIn s items[i] = false → J [.slice f.a f.n f.c] w12 := by
      intro hno
      rw [List.filter_cons_of_neg (by rw [hno]; simp), List.filter_nil, List.append_nil] at ih
      exact hJ _ _ _ _ (Ar.nat (i + 1) rfl (by omega) (ih (f, w12) ⟨hown12, by show f.n ≤ i + 1; omega, hB12⟩))
    refine NilC.mk p hp ⟨by omega, by omega, _, c0, _, _, _, ptr_add0 _ _ (held_on hB12 h10) 4, Ar.ok64 (by omega) (by omega) (CondP.mk (fun h1 => NilC.mk p hp ⟨by omega, by omega, _, c0, CondP.mk (fun h2 => NilC.mk p hp ⟨by omega, by omega, _, c0, ?_⟩) fun h2 => skip ?_⟩) fun h1 => skip ?_)⟩
    · intro w13 hw13
      have h1 := of_decide_eq_true h1
      obtain ⟨f', w14, g1, g2, g3, g4, _⟩ := elInt.push hown12 items[i] hw13 rfl hB12.size (by omega) (by decide)
      have hyes : itemIn s items[i] = true := by rw [itemIn, h2, decide_eq_true (by omega)]; rfl
      rw [List.filter_cons_of_pos hyes, List.filter_nil] at ih
      exact ⟨f'.a, f'.n, f'.c, w14, g2, hJ _ _ _ _ (Ar.nat (i + 1) rfl (by omega) (ih (f', w14) ⟨g3, by show f'.n ≤ i + 1; omega, g4 _ hB12⟩))⟩
    · rw [itemIn, h2, Bool.and_false]
    · have h1 := of_decide_eq_false h1
      rw [itemIn, decide_eq_false (by omega), Bool.false_and]
  · rintro ⟨f, q⟩ ⟨hown, hfn, hBq⟩
    change q.ownsRow w10.heap.size tInt 1 f.v f.n _ at hown
    change f.n ≤ items.length at hfn
    change Below w10.heap.size w10 q at hBq
    rw [List.take_length] at hown
    have hls := LsAt.of_own elInt hown
    have hZ : (vocOf s T).Items (items.filter (itemIn s)) := by
      intro n hn
      have := (List.mem_filter.1 hn).2
      unfold itemIn at this
      rw [Bool.and_eq_true, decide_eq_true_eq, decide_eq_true_eq] at this
      have e : (vocOf s T).sp.length = s.specials.length := by simp [vocOf]
      rw [e]
      exact this
    have hBq' := hB10.on hBq
    have hbq := below_then hb10 hBq
    generalize items.filter (itemIn s) = Z at hls hZ
    obtain ⟨fa, fn, fc⟩ := f
    have hfz := hls.n
    change fn = _ at hfz
    change fn ≤ items.length at hfn
    subst hfz
    refine hI _ fa _ fc q (CondP.no (by simp) ⟨_, _, _, _, _, _, _, _, _, _, _, _, _, _, _, agg5 (x := r) (held_on hBq h10), ?_⟩)
    refine (refVEncode_spec q r s T hBq'.now fa fc Z hls.r (by omega) hZ).mono ?_
    rintro e w15 ⟨⟨la, ln, lc⟩, rfl, hl, b15, hfr⟩
    have hB15 := hBq'.on b15
    have hln := hl.n
    change ln = _ at hln
    have hel := encode_len (s := s) (T := T) (Z := Z)
    have hok := hB15.now.ok
    obtain ⟨e1, e2⟩ := Voc.encode_items hB15.now.vok hZ
    have hcan : (vocOf s T).Canon ((vocOf s T).encode Z) := by unfold Voc.Canon; rw [e1]
    have hlr := hl.r
    generalize (vocOf s T).encode Z = E at hln hel e2 hcan hlr
    subst hln
    have hq10 := hBq.size
    have h810 := b10.size
    refine ⟨_, _, _, rfl, ?_⟩
    refine (check_spec w15 v s T hB15.voc la lc E hlr (fun _ p hp => by have := hfr p hp; omega)).mono ?_
    rintro e w16 ⟨hV16, t16, hcase⟩
    have hb16 : Below w.heap.size w w16 := (below_then hbq b15).trans (t16.below (by omega) (below_then hbq b15).size)
    rcases hcase with ⟨hne, rfl⟩ | ⟨_, hall, o, ho, rfl⟩
    · exfalso
      rw [ready_of hok e2 (by omega)] at hne
      exact hne rfl
    · have := first_canon hB15.now.vok e2 hcan ho
      subst this
      exact ⟨_, _, rfl, CondP.yes rfl ⟨rfl, hb16⟩⟩
end Go.Proofs.YtpklkijdlnioaaaGreat.Eng
