/- word's Parse, and the law WordNumbers, walked by the engine. -/
import Derived.Test.YtibjkknfgppogaaDoorWq
import Derived.Lib.AtoiErrMem
set_option linter.unusedVariables false
set_option linter.unusedSimpArgs false
namespace Go.Proofs.YtibjkknfgppogaaDoor.Eng
open Go Go.RowKit

theorem neq_nil (n : Nat) (w : World) : (do eqGuard .neq 47 (.tmp n) (.const Value.nilIface) Value.nilIface Value.nilIface; binOp .neq 47 Value.nilIface Value.nilIface).run Tryd.prog w = .ok (.bool false) w := by kernel_rfl
theorem neq_some (k : TypeId) (p : Option Addr) (n : Nat) (w : World) : (do eqGuard .neq 47 (.tmp n) (.const Value.nilIface) (Value.iface k (.pointer p)) Value.nilIface; binOp .neq 47 (Value.iface k (.pointer p)) Value.nilIface).run Tryd.prog w = .ok (.bool true) w := by kernel_rfl

/-- The two errors that strconv.Atoi hands back stand where they were laid. -/
abbrev Errs (w : World) : Prop := (∃ tp p, w.var? Tryd.prog "strconv.ErrSyntax" = some #[.iface tp p]) ∧ (∃ tp p, w.var? Tryd.prog "strconv.ErrRange" = some #[.iface tp p])
theorem var_on {P : Program} {w w' : World} {n : String} {cs : Array Value} (h : w.var? P n = some cs) (hb : Below w.heap.size w w') : w'.var? P n = some cs := by
  unfold World.var? at *
  cases hg : P.globalNamed n with
  | none => simp [hg] at h
  | some g =>
    simp only [hg, Option.bind_some] at h ⊢
    have hlt : g < w.heap.size := by
      rcases Nat.lt_or_ge g w.heap.size with h' | h'
      · exact h'
      · rw [Array.getElem?_eq_none h'] at h; simp at h
    rw [hb.block g hlt]
    exact h
theorem Errs.on {w w' : World} (h : Errs w) (hb : Below w.heap.size w w') : Errs w' := by
  obtain ⟨⟨t1, p1, h1⟩, ⟨t2, p2, h2⟩⟩ := h
  exact ⟨⟨t1, p1, var_on h1 hb⟩, ⟨t2, p2, var_on h2 hb⟩⟩

theorem atoi_within {l : List UInt8} {v : Int} (h : Lib.atoiAll l = .ok v) : I64 v := by
  unfold I64
  cases l with
  | nil => simp [Lib.atoiAll] at h
  | cons c r =>
    simp only [Lib.atoiAll] at h
    split at h
    · cases h
    · cases h
    · split at h
      · cases h
      · split at h
        · cases h
        · injection h with h
          split at h <;> omega

theorem Parse_spec (l : List UInt8) (most : Int) (w : World) (hl : l.length ≤ 1000000) (ht : Pow w) (he : Errs w) :
    Calls Tryd.prog 16 #[.string (str l), .int .i64 most] w fun e w' => e = .returned (pres (parseT l most)) ∧ Below w.heap.size w w' := by
  refine calls_ret (vc16_calls (str l) most w (fun v w' => v = pres (parseT l most) ∧ Below w.heap.size w w') ?_) (by rintro v w' ⟨rfl, h⟩; exact ⟨rfl, h⟩)
  have none_of : (∀ u : Nat, u ≤ maxI → (u : Int) ≤ most → Lib.decDigits u ≠ l) → Value.tuple #[.int .i64 0, .bool false] = pres (parseT l most) := fun h => by rw [parseT_none l most h]; rfl
  have bad : ∀ {tp : TypeId} {x : Int} {w1 : World} {N : Nat}, (∀ v, Lib.atoiAll l ≠ .ok v) → Below w.heap.size w w1 → Value.tuple #[.int .i64 0, .bool false] = pres (parseT l most) ∧ Below w.heap.size w w1 := by
    intro tp x w1 N h hb
    exact ⟨none_of fun u hu _ e => h u (by rw [← e]; exact atoi_dec u hu), hb⟩
  cases h : Lib.atoiAll l
  case ok v =>
    have hv := atoi_within h
    refine (Tryd.strconv_Atoi_ok (str l) (by rw [str_size]; omega) v h w).mono ?_
    rintro e w1 ⟨rfl, hw⟩
    have hb : Below w.heap.size w w1 := by
      rcases hw with rfl | ⟨t, rfl⟩
      · exact Below.refl _ _
      · exact Lib.bytesWorld_below _ _ _
    refine ⟨_, _, rfl, _, _, neq_nil _ _, CondP.no rfl (CondP.mk ?_ ?_)⟩
    · intro h0
      have h0 := of_decide_eq_true h0
      refine ⟨none_of fun u hu _ e => ?_, hb⟩
      rw [← e, atoi_dec u hu] at h
      injection h with h
      omega
    · intro h0
      have h0 := of_decide_eq_false h0
      refine CondP.mk ?_ ?_
      · intro hm
        have hm := of_decide_eq_true hm
        refine ⟨none_of fun u hu hum e => ?_, hb⟩
        rw [← e, atoi_dec u hu] at h
        injection h with h
        omega
      · intro hm
        have hm := of_decide_eq_false hm
        refine (Number_spec v w1 hv (ht.on hb)).mono ?_
        rintro e w3 ⟨rfl, h3⟩
        have hb3 := below_then hb h3
        obtain ⟨u, rfl⟩ : ∃ u : Nat, v = u := ⟨v.toNat, by omega⟩
        rw [Lib.itoa_nonneg]
        refine ⟨_, rfl, CondP.mk ?_ ?_⟩
        · intro hne
          rw [beq_str] at hne
          have hne : Lib.decDigits u ≠ l := by simpa using hne
          refine ⟨none_of fun u' hu' _ e => ?_, hb3⟩
          rw [← e, atoi_dec u' hu'] at h
          injection h with h
          have : u' = u := by omega
          subst this
          exact hne e
        · intro heq
          rw [beq_str] at heq
          have heq : Lib.decDigits u = l := by simpa using heq
          refine ⟨?_, hb3⟩
          have hmax := hv.2
          rw [parseT_some l most u (by unfold maxI; omega) (by omega) heq]
          rfl
  case range =>
    obtain ⟨_, ⟨tp, p, hvar⟩⟩ := he
    refine (Tryd.strconv_Atoi_range_var (str l) (by rw [str_size]; omega) h tp p w hvar).mono ?_
    rintro e w1 ⟨N, rfl, _, _, hb⟩
    exact ⟨_, _, rfl, _, _, neq_some _ _ _ _, CondP.yes rfl (bad (tp := tp) (x := 0) (N := N) (fun v hv => by rw [hv] at h; cases h) hb)⟩
  obtain ⟨⟨tp, p, hvar⟩, _⟩ := he
  refine (Tryd.strconv_Atoi_syntax_var (str l) (by rw [str_size]; omega) (by rw [show (str l).data.toList = l from rfl, h]; trivial) tp p w hvar).mono ?_
  rintro e w1 ⟨N, rfl, _, _, hb⟩
  exact ⟨_, _, rfl, _, _, neq_some _ _ _ _, CondP.yes rfl (bad (tp := tp) (x := 0) (N := N) (fun v hv => by rw [hv] at h; cases h) hb)⟩

theorem join_take (ns : List Int) (k : Nat) (h : k < ns.length) :
    (if k = 0 then ([] : List UInt8) else Lib.join ((ns.take k).map Lib.itoa) [32]) ++ (if k = 0 then [] else [32]) ++ Lib.itoa ns[k] = Lib.join ((ns.take (k + 1)).map Lib.itoa) [32] := by
  cases ns with
  | nil => simp at h
  | cons n r =>
    cases k with
    | zero => simp [Lib.join_one]
    | succ k =>
      rw [if_neg (by omega), if_neg (by omega), List.take_succ_cons, List.take_succ_cons, List.map_cons, List.map_cons, Lib.join_cons, Lib.join_cons]
      have hk : k < r.length := by simpa using h
      have := Lib.joinTail_take_succ [32] (r.map Lib.itoa) k (Lib.itoa r[k]) (by simp [hk])
      rw [← List.map_take, ← List.map_take] at this
      rw [this]
      simp

theorem join_small (ns : List Int) (h : ∀ n ∈ ns, I64 n) : (Lib.join (ns.map Lib.itoa) [32]).length ≤ 22 * ns.length := by
  cases ns with
  | nil => simp [Lib.join_nil]
  | cons n r =>
    rw [List.map_cons, Lib.join_length, ← List.map_cons]
    have := lens_small ((n :: r).map Lib.itoa) (by
      intro x hx
      obtain ⟨m, hm, rfl⟩ := List.mem_map.1 hx
      exact itoa_length m (h m hm))
    simp at this ⊢
    omega

theorem Numbers_none (a : Option Addr) (c : Nat) (w : World) :
    Calls Tryd.prog 20 #[.slice a 0 c] w fun e w' => e = .returned (.string (str (numsT []))) ∧ Below w.heap.size w w' := by
  refine calls_ret (vc20_calls a 0 c w (fun v w' => v = .string (str (numsT [])) ∧ Below w.heap.size w w') ?_) (by rintro v w' ⟨rfl, h⟩; exact ⟨rfl, h⟩)
  exact CondP.yes rfl ⟨rfl, Below.refl _ _⟩

theorem WordNumbers_spec (n : Int) (s : List UInt8) (most : Int) (a : Option Addr) (c : Nat) (ns : List Int) (w : World) (hn : I64 n) (hr : IntRow w a ns) (h64 : ∀ m ∈ ns, I64 m) (ht : Pow w) (he : Errs w) :
    Calls Tryd.prog 5 #[.int .i64 n, .string (str s), .int .i64 most, .slice a ns.length c] w fun e w' => e = .returned (.bool true) ∧ Below w.heap.size w w' := by
  refine calls_ret (vc5_calls n (str s) most a ns.length c w (fun v w' => v = .bool true ∧ Below w.heap.size w w') ?_) (by rintro v w' ⟨rfl, h⟩; exact ⟨rfl, h⟩)
  have aw : ∀ w1, Below w.heap.size w w1 → Calls Tryd.prog 6 #[] w1 (fun e1 w2 => ∃ b_1 : Bool, e1 = .returned (Value.bool b_1) ∧ (Value.bool b_1 = .bool true ∧ Below w.heap.size w w2)) := by
    intro w1 h1
    refine (awake_spec w1 (ht.on h1)).mono ?_
    rintro e w2 ⟨rfl, h2⟩
    exact ⟨_, rfl, rfl, below_then h1 h2⟩
  refine CondP.mk (fun _ => aw w (Below.refl _ _)) ?_
  intro hs
  have hs := of_decide_eq_false hs
  rw [str_size] at hs
  refine CondP.mk (fun _ => aw w (Below.refl _ _)) ?_
  intro hl
  have hl := of_decide_eq_false hl
  have hpres : ∃ (r : Int) (b : Bool), pres (parseT s most) = .tuple #[.int .i64 r, .bool b] := by
    cases parseT s most with
    | none => exact ⟨_, _, rfl⟩
    | some u => exact ⟨_, _, rfl⟩
  obtain ⟨r, b, hrb⟩ := hpres
  refine (Parse_spec s most w (by omega) ht he).mono ?_
  rintro e w3 ⟨rfl, h3⟩
  rw [hrb]
  refine ⟨_, _, rfl, ?_⟩
  refine (refParse_spec s most w3 (by omega)).mono ?_
  rintro e w4 ⟨rfl, hw4⟩
  subst w4
  rw [hrb]
  refine ⟨_, _, rfl, ?_⟩
  intro I hI
  have key := climb (α := World) ns.length (fun i x => Below w.heap.size w x)
    (fun i x => I [.int .i64 (i : Int), .string (str (if i = 0 then [] else Lib.join ((ns.take i).map Lib.itoa) [32]))] x) ?_ ?_ 0 (Nat.zero_le _) w3
  · exact key h3
  · intro w5 hB
    refine hI _ _ _ (CondP.no (by simp) ?_)
    rw [List.take_length]
    intro J hJ
    have fin : J [.string (str (numsT ns))] w5 := by
      refine hJ _ _ ?_
      refine (Number_spec n w5 hn (ht.on hB)).mono ?_
      rintro e w9 ⟨rfl, h9⟩
      have hB9 := below_then hB h9
      refine ⟨_, rfl, ?_⟩
      refine (refNumber_spec n w9 hn).mono ?_
      rintro e w10 ⟨rfl, h10⟩
      have hB10 := below_then hB9 h10
      refine ⟨_, rfl, CondP.yes (by simp) (CondP.yes (by simp) (CondP.yes (by simp) ?_))⟩
      have nums : Calls Tryd.prog 20 #[.slice a ns.length c] w10 fun e w' => e = .returned (.string (str (numsT ns))) ∧ Below w10.heap.size w10 w' := by
        by_cases hne : ns = []
        · subst hne; exact Numbers_none a c w10
        · exact Numbers_spec a c ns w10 (hr.on hB10) (by omega) h64 (ht.on hB10) hne
      refine nums.mono ?_
      rintro e w11 ⟨rfl, h11⟩
      exact ⟨_, rfl, CondP.yes (by simp) (aw w11 (below_then hB10 h11))⟩
    unfold numsT at fin
    refine CondP.mk ?_ ?_
    · intro h0
      have h0 : ns = [] := by simpa using h0
      rw [if_pos h0] at fin
      exact fin
    · intro h0
      have h0 : ns ≠ [] := by simpa using h0
      rw [if_neg h0] at fin
      rw [if_neg (by intro e; exact h0 (List.eq_nil_of_length_eq_zero e))]
      exact fin
  · intro i hi ih w5 hB
    refine hI _ _ _ (CondP.yes (by simp; omega) ?_)
    intro J hJ
    have hsm := join_small (ns.take i) (fun m hm => h64 m (List.mem_of_mem_take hm))
    rw [List.length_take] at hsm
    have hpart : (if i = 0 then ([] : List UInt8) else Lib.join ((ns.take i).map Lib.itoa) [32]).length ≤ 22 * i := by
      split
      · simp
      · exact Nat.le_trans hsm (by omega)
    have hit := itoa_length ns[i] (h64 _ (List.getElem_mem hi))
    have go : J [.string (str ((if i = 0 then ([] : List UInt8) else Lib.join ((ns.take i).map Lib.itoa) [32]) ++ (if i = 0 then [] else [32])))] w5 := by
      refine hJ _ _ ?_
      obtain ⟨x, hxa, _, hcx⟩ := (hr.on hB) i _ (List.getElem?_eq_getElem hi)
      refine NilC.mk x hxa ⟨by omega, by omega, ns[i], by simpa using hcx, ?_⟩
      refine (refNumber_spec ns[i] w5 (h64 _ (List.getElem_mem hi))).mono ?_
      rintro e w7 ⟨rfl, h7⟩
      refine ⟨_, rfl, ?_, Ar.ok64 (by omega) (by omega) ?_⟩
      · rw [str_size, str_size, List.length_append]
        have : (if i = 0 then ([] : List UInt8) else [32]).length ≤ 1 := by split <;> simp
        simp only [IntKind.max, IntKind.signed, IntKind.bits]
        have h2 : ((((if i = 0 then ([] : List UInt8) else Lib.join ((ns.take i).map Lib.itoa) [32]).length + (if i = 0 then ([] : List UInt8) else [32]).length + (Lib.itoa ns[i]).length : Nat) : Int)) ≤ 1000000 := by omega
        exact Int.le_trans h2 (by decide)
      · rw [str_append, join_take ns i hi]
        have := ih w7 (below_then hB h7)
        rw [if_neg (by omega)] at this
        exact this
    refine CondP.mk ?_ ?_
    · intro h0
      have h0 := of_decide_eq_true h0
      have hne : i ≠ 0 := by omega
      refine ⟨?_, ?_⟩
      · rw [str_size, show (⟨#[32]⟩ : ByteArray).size = 1 from rfl]
        have h2 : ((((if i = 0 then ([] : List UInt8) else Lib.join ((ns.take i).map Lib.itoa) [32]).length + 1 : Nat) : Int)) ≤ 1000000 := by omega
        exact Int.le_trans h2 (by decide)
      · rw [if_neg hne, if_neg hne] at go
        rw [if_neg hne, show (⟨#[32]⟩ : ByteArray) = str [32] from rfl, str_append]
        exact go
    · intro h0
      have h0 := of_decide_eq_false h0
      have he0 : i = 0 := by omega
      subst he0
      exact go
end Go.Proofs.YtibjkknfgppogaaDoor.Eng
