/- Lemmas on the world that the walks lean on. -/
import Derived.Test.YtibjkknfgppogaaDoorEngH
import Derived.Laws.AppendOwn
import Derived.Maps.AppendAt
import Derived.Below
import Derived.Lib.Builder
import Derived.SizedLaws
import Derived.Handed
import Derived.LaidLaws
import Derived.Stop.Joined
import Derived.Lib.UnsafeStr
import Derived.Laws.IdiomStrings
import Derived.Laws.BytesArg
set_option linter.unusedVariables false
set_option linter.unusedSimpArgs false
namespace Go.Proofs.YtibjkknfgppogaaDoor.Eng
open Go Go.RowKit

theorem info_exists {P : Program} {t n : Nat} (h : (P.info? t).map (·.size) = some n) : ∃ j, P.info? t = some j ∧ j.size = n := Option.map_eq_some_iff.1 h
theorem calls_ret {P : Program} {f : FuncId} {args : Array Value} {w : World} {R : Value → World → Prop} {R' : Ending → World → Prop} (h : Calls P f args w fun e w' => ∃ v, e = .returned v ∧ R v w') (hr : ∀ v w', R v w' → R' (.returned v) w') : Calls P f args w R' :=
  h.mono fun e w' ⟨v, he, h⟩ => by subst he; exact hr v w' h
theorem equal_same {P : Program} {t e : TypeId} {n : Nat} {a : Addr} {w : World} (h : P.underlying t = some (.pointer e)) (he : (P.info? e).map (·.size) = some n) (d : Nat) :
    (Op.equalIn (d + 1) t (.pointer (some a)) (.pointer (some a))).run P w = .ok true w := by
  obtain ⟨j, hj, _⟩ := info_exists he
  simp [Op.equalIn, run_underlying h, sizeOf, typeInfo, hj, run_sameAddr_same, Result.andThen]

theorem alloc_size (w : World) (o : Obj) : (w.alloc o).heap.size = w.heap.size + 1 := by
  show (w.heap.push o).size = _
  simp
theorem alloc_old (w : World) (o : Obj) {k : Nat} (h : k < w.heap.size) : (w.alloc o).heap[k]? = w.heap[k]? := by
  show (w.heap.push o)[k]? = _
  simp [Array.getElem?_push, Nat.ne_of_lt h]
theorem alloc_new (w : World) (o : Obj) : (w.alloc o).heap[w.heap.size]? = some o := by
  show (w.heap.push o)[w.heap.size]? = _
  simp
theorem cell_new (w : World) (c : Array Value) (e : TypeId) (j : Nat) : (w.alloc (.cells c e)).cell? ⟨w.heap.size, j, none⟩ = c[j]? := by
  simp only [World.cell?, alloc_new]
  rfl
theorem cell_heap {w : World} {b j : Nat} {c : Array Value} {e : TypeId} {fz : Nat × Nat} (h : w.heap[b]? = some (.cells c e fz)) : w.cell? ⟨b, j, none⟩ = c[j]? := by
  simp only [World.cell?, h]
  rfl
theorem frozen_heap {w : World} {b j : Nat} {c : Array Value} {e : TypeId} (h : w.heap[b]? = some (.cells c e (0, 0))) : w.frozen? ⟨b, j, none⟩ = false := by
  simp [World.frozen?, h]
theorem setCell_heap {w : World} {b j : Nat} {c : Array Value} {e : TypeId} {fz : Nat × Nat} (h : w.heap[b]? = some (.cells c e fz)) (u : Value) : (w.setCell ⟨b, j, none⟩ u).heap[b]? = some (.cells (c.setIfInBounds j u) e fz) := by
  simp [World.setCell, Array.getElem?_modify, h]

/-! ### A row that the call owns -/
/-- What a row that is owned looks like. -/
theorem own_form {w : World} {base : Nat} {e : TypeId} {size n : Nat} {v : Value} {xs : List Value} (h : w.ownsRow base e size v n xs) : ∃ a c, v = .slice a n c ∧ n ≤ c := by
  rcases h.2 with ⟨rfl, rfl⟩ | ⟨g, cap, cur, rfl, _, _, hc, _⟩
  · exact ⟨none, 0, rfl, Nat.le_refl _⟩
  · exact ⟨_, _, rfl, hc⟩
theorem own_lt {w : World} {base : Nat} {e : TypeId} {size n : Nat} {v : Value} {xs : List Value} (h : w.ownsRow base e size v n xs) : ∀ k, v.ownBlock = some k → base ≤ k ∧ k < w.heap.size := by
  intro k hk
  rcases h.2 with ⟨rfl, rfl⟩ | ⟨g, cap, cur, rfl, hb, hg, _⟩
  · cases hk
  · cases hk
    exact ⟨hb, (Array.getElem?_eq_some_iff.1 hg).1⟩
theorem own_nil (w : World) (base : Nat) (e : TypeId) (size : Nat) : w.ownsRow base e size (.slice none 0 0) 0 [] := ⟨by simp, .inl ⟨rfl, rfl⟩⟩
/-- 'append(xs, x)': the new element lies in a block of its own. -/
theorem run_push {P : Program} (t e : TypeId) {z : Value} {size bytes : Nat} (ht : P.underlying t = some (.slice e)) (hi : (P.info? e).map (fun i => (i.zero, i.size, i.bytes)) = some (some z, size, bytes)) (hzs : z.cells.size = size) (hsz : 0 < size)
    {base : Nat} {w1 : World} {v : Value} {n : Nat} {xs : List Value} (hown : w1.ownsRow base e size v n xs) (news : List Value) (hl : news.length = size) (h1 : ∀ u ∈ news, u.oneCell' = true)
    (hbytes : (n + 1) * bytes ≤ 140737488355328) (h63 : n + 1 ≤ 140737488355328) (hbase : base ≤ w1.heap.size) :
    ∃ a' c' w3, (Builtin.append_ #[t, t] t #[v, .slice (some (nb w1)) 1 1]).run P (w1.alloc (.cells news.toArray e)) = .ok (.slice a' (n + 1) c') w3 ∧ w3.ownsRow base e size (.slice a' (n + 1) c') (n + 1) (xs ++ news) ∧
      (w1.alloc (.cells news.toArray e)).grownBy w3 v.ownBlock ∧ ((Value.slice a' (n + 1) c').ownBlock = v.ownBlock ∨ (Value.slice a' (n + 1) c').ownBlock = some (w1.heap.size + 1)) := by
  obtain ⟨i, hi', hz, hs, hb⟩ := info_parts hi
  obtain ⟨v', w3, hr, hown', hg, _, hnb⟩ := run_append_own_at (P := P) (w1.alloc (.cells news.toArray e)) base t t e i z size bytes ht hi' hz hs hb hzs hsz v n xs (hown.alloc _) (nb w1) 1 1 news (by omega)
    (fun j u hj => by
      have hjl : j < news.length := (List.getElem?_eq_some_iff.1 hj).1
      have hadd : (nb w1).add j = ⟨w1.heap.size, j, none⟩ := by
        unfold Addr.add nb
        split
        · rename_i h0; subst h0; rfl
        · simp
      rw [hadd]
      rw [cell_new]; simpa using hj)
    h1 (by unfold maxLen; omega) hbytes (by rw [alloc_size]; omega)
  obtain ⟨a', c', rfl, _⟩ := own_form hown'
  exact ⟨a', c', w3, hr, hown', hg, by rwa [alloc_size] at hnb⟩
/-- What was below B is as it was behind an append of a row that lies from B on. -/
theorem below_push {B : Nat} {w w1 w3 : World} {e : TypeId} {size n : Nat} {v : Value} {xs : List Value} {o : Obj} (hb : Below B w w1) (hown : w1.ownsRow B e size v n xs) (hg : (w1.alloc o).grownBy w3 v.ownBlock) (hB : B ≤ w1.heap.size) : Below B w w3 :=
  (hb.alloc hB o).grown hg (by rw [alloc_size]; omega) fun k hk => (own_lt hown k hk).1
/-- A block that is not the row's own is as it was behind the append. -/
theorem block_push {w1 w3 : World} {row : Option Nat} {o : Obj} (hg : (w1.alloc o).grownBy w3 row) {k : Nat} (hk : k < w1.heap.size) (hne : some k ≠ row) : w3.heap[k]? = w1.heap[k]? := by
  rw [hg.block k (by rw [alloc_size]; omega) hne, alloc_old w1 o hk]
theorem size_push {w1 w3 : World} {row : Option Nat} {o : Obj} (hg : (w1.alloc o).grownBy w3 row) : w1.heap.size + 1 ≤ w3.heap.size := by
  have := hg.size
  rwa [alloc_size] at this
theorem heap_setCell_ne {w : World} {a : Addr} {u : Value} {k : Nat} (h : k ≠ a.block) : (w.setCell a u).heap[k]? = w.heap[k]? := Below.heap_setCell w a u k h
theorem size_setCell (w : World) (a : Addr) (u : Value) : (w.setCell a u).heap.size = w.heap.size := by simp [World.setCell]
theorem own_setCell {w : World} {base : Nat} {e : TypeId} {size n : Nat} {v : Value} {xs : List Value} (h : w.ownsRow base e size v n xs) {a : Addr} (u : Value) (hne : v.ownBlock ≠ some a.block) : (w.setCell a u).ownsRow base e size v n xs := by
  refine ⟨h.1, ?_⟩
  rcases h.2 with h2 | ⟨g, cap, cur, hv, hg, hh, r⟩
  · exact .inl h2
  · refine .inr ⟨g, cap, cur, hv, hg, ?_, r⟩
    rw [heap_setCell_ne]
    · exact hh
    · intro he
      subst he
      exact hne (by rw [hv]; rfl)

/-! ### Loops, sums, strings -/
/-- A loop that counts up to n: the last round, and one round. -/
theorem climb {α : Type} (n : Nat) (Inv G : Nat → α → Prop) (last : ∀ x, Inv n x → G n x) (step : ∀ i, i < n → (∀ x, Inv (i + 1) x → G (i + 1) x) → ∀ x, Inv i x → G i x) : ∀ i, i ≤ n → ∀ x, Inv i x → G i x := by
  have key : ∀ k i, i + k = n → ∀ x, Inv i x → G i x := by
    intro k
    induction k with
    | zero => intro i hi; have : i = n := by omega
              subst this; exact last
    | succ k ih => intro i hi; exact step i (by omega) (ih (i + 1) (by omega))
  intro i hi
  exact key (n - i) i (by omega)
theorem wrap_in {k : IntKind} {z : Int} (h1 : k.min ≤ z) (h2 : z ≤ k.max) : k.wrap z = z := by
  cases k <;> simp [IntKind.wrap, IntKind.bits, IntKind.signed, IntKind.min, IntKind.max] at * <;> omega
theorem Ar.ok {k : IntKind} {z : Int} {F : Int → Prop} (h1 : k.min ≤ z) (h2 : z ≤ k.max) (h : F z) : Ar k z F := by
  unfold Ar
  rw [wrap_in h1 h2]
  exact h
theorem Ar.ok64 {z : Int} {F : Int → Prop} (h1 : -9223372036854775808 ≤ z) (h2 : z ≤ 9223372036854775807) (h : F z) : Ar .i64 z F := Ar.ok (k := .i64) h1 h2 h
abbrev str (l : List UInt8) : ByteArray := ⟨l.toArray⟩
theorem str_eta (s : ByteArray) : s = str s.data.toList := by cases s; simp [str]
theorem str_size (l : List UInt8) : (str l).size = l.length := by simp [str, ByteArray.size]
theorem str_toList (l : List UInt8) : (str l).toList = l := by rw [ByteArray.toList_eq]
theorem btAt_str (l : List UInt8) (i : Nat) (h : i < l.length) : btAt (str l) (i : Int) = ((l[i]).toNat : Int) := by
  simp [btAt, str, List.getElem?_eq_getElem h]
theorem str_append (a b : List UInt8) : str a ++ str b = str (a ++ b) := by
  apply ByteArray.ext
  simp [str]
/-- 'string(b)' of a row of bytes that the call owns. -/
theorem run_str_own {P : Program} {src dst e : TypeId} (hs : P.underlying src = some (.slice e)) (he : P.underlying e = some (.int .u8)) (hd : P.underlying dst = some .string) {w : World} {base : Nat} {a : Option Addr} {n c : Nat} {l : List UInt8}
    (h : w.ownsRow base e 1 (.slice a n c) n (Lib.byteCells l)) : (convert src dst (.slice a n c)).run P w = .ok (.string (str l)) w := by
  have hl := h.1
  rw [Lib.byteCells_length] at hl
  rcases h.2 with ⟨h1, h2⟩ | ⟨g, cap, cur, h1, h2, h3, h4, h5, h6, h7⟩
  · cases h1
    have : l = [] := List.eq_nil_of_length_eq_zero (by omega)
    subst this
    exact run_convert_bytes_nil w src e hs he 0 0 dst hd
  · cases h1
    have hn : n = l.length := by omega
    subst hn
    refine run_convert_bytes_back w src dst e ⟨g, 0, none⟩ c l hs he hd ?_
    intro j hj
    have hadd : (⟨g, 0, none⟩ : Addr).add j = ⟨g, j, none⟩ := by unfold Addr.add; split <;> simp_all
    rw [hadd, cell_heap h3]
    have h8 : (Lib.byteCells l)[j]? = some (.int .u8 (l[j].toNat : Int)) := by simp [Lib.byteCells, hj]
    rw [← h7, List.getElem?_take_of_lt (by omega)] at h8
    simpa using h8
theorem own_drew {w : World} {base : Nat} {e : TypeId} {size n : Nat} {v : Value} {xs : List Value} (h : w.ownsRow base e size v n xs) : w.drew.ownsRow base e size v n xs := h
theorem byteCells_snoc (l : List UInt8) (b : UInt8) : Lib.byteCells l ++ [.int .u8 b.toNat] = Lib.byteCells (l ++ [b]) := by simp [Lib.byteCells]
theorem own_on {w w' : World} {base : Nat} {e : TypeId} {size n : Nat} {v : Value} {xs : List Value} (h : w.ownsRow base e size v n xs) (hb : Below w.heap.size w w') : w'.ownsRow base e size v n xs := by
  refine ⟨h.1, ?_⟩
  rcases h.2 with hh | ⟨g, cap, cur, h1, h2, h3, h4⟩
  · exact .inl hh
  · exact .inr ⟨g, cap, cur, h1, h2, by rw [hb.block g (Array.getElem?_eq_some_iff.1 h3).1]; exact h3, h4⟩
/-- One step behind another. -/
theorem below_then {a b c : World} (h : Below a.heap.size a b) (k : Below b.heap.size b c) : Below a.heap.size a c := h.trans (k.mono h.size)
theorem below_alloc (w : World) (o : Obj) : Below w.heap.size w (w.alloc o) := (Below.refl _ w).alloc (Nat.le_refl _) o
theorem str_extract (l : List UInt8) (a b : Nat) : (str l).extract a b = str ((l.drop a).take (b - a)) := by
  apply ByteArray.ext
  simp [str]
theorem add_block (a : Addr) (k : Nat) : (a.add k).block = a.block := by
  unfold Addr.add
  split <;> rfl
theorem add_lit (b o n : Nat) : Addr.add ⟨b, o, none⟩ n = ⟨b, o + n, none⟩ := Addr.add_lit b o n

/-! ### The frame of a law's row -/
section
variable {H : Type} {enc : TypeId × Value → H}
/-- From a contract at every world that meets the row's list, to the row: with the list, the shape of the world, and the reach in hand. -/
theorem law_frame {C : Checked} {os : Os} {f : FuncId} {fn : Func} {s : ChangeSpec} {laid : List (String × DataW Unit)}
    (own : ownKnob C.prog.godebug = none) (started : os.Started) (noInit : C.prog.inits.idxOf? f = none) (hfn : C.prog.funcs[f]? = some fn)
    (witness : ∃ (w : World) (tape : Tape) (i : Input), w.os = os ∧ (w.forCall tape i).Shaped C.prog ∧ i.vars = [] ∧ Input.okWide C.prog (w.forCall tape i) .any w.heap.size f i ∧
      ((s.pre enc C.prog fn [] false (w.forCall tape i).memory i.args ∧ laidMetH C.prog laid (w.forCall tape i).memory) ∧ sizedMet enc C.prog fn (OpenSpec.ofChange s) false (w.forCall tape i).memory i.args) ∧ ({} : Assume).holds C.prog (lone (Frame.enter C.prog f i.args .normal) [] (w.forCall tape i)))
    (contract : ∀ (W : World) (base : Nat) (args : Array Value) (ds gs : List (DataW H)) (before : List MemPlace),
      (∀ (j : Nat) t v, fn.params[j]? = some t → args[j]? = some v → Value.okWide C.prog W .any base t v) →
      DataW.Whole enc C.prog fn.params.toList s.vars false W args.toList ds gs before →
      (DataW.weightsEach C.prog (fn.params.toList ++ s.plain.varTypes C.prog) (ds ++ gs)).all (· ≤ reachBytes) = true →
      laidMetH C.prog laid W → W.ShapedOpen C.prog →
      Calls C.prog f args W fun e W' => ∃ v, e = .returned v ∧ s.post enc C.prog fn false true false false W args v W') :
    ReturnsInHanded {} C os f .any (fun w args => (s.pre enc C.prog fn [] false w args ∧ laidMetH C.prog laid w) ∧ sizedMet enc C.prog fn (OpenSpec.ofChange s) false w args) (s.post enc C.prog fn false true false false) := by
  refine returnsInHanded_of_calls own started noInit witness ?_
  intro w tape i _ hshape _ hok hpre _
  obtain ⟨_, _, _, fn', hfn', _, _, _, _, hval⟩ := hok
  obtain rfl : fn' = fn := Option.some.inj (hfn'.symm.trans hfn)
  obtain ⟨⟨⟨ds, gs, before, hw, _⟩, hx⟩, hz⟩ := hpre
  refine (contract (w.forCall tape i) w.heap.size i.args ds gs before hval (DataW.Whole.of_heap (w' := w.forCall tape i) (by rfl) hw) (hz.weights hw) (hx.of_heap (by rfl)) hshape).mono ?_
  rintro e W' ⟨v, rfl, hp⟩
  exact ChangeSpec.post_blind hp
end
end Go.Proofs.YtibjkknfgppogaaDoor.Eng
