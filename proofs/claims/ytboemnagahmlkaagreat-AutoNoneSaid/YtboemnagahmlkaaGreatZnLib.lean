/- Lemmas on the world that the walks lean on. -/
import Derived.Test.YtboemnagahmlkaaGreatZnEng
import Derived.Laws.AppendOwn
import Derived.Maps.AppendAt
import Derived.Below
import Derived.Lib.Builder
import Derived.SizedLaws
import Derived.Handed
import Derived.LaidLaws
import Derived.Stop.Joined
import Derived.Lib.UnsafeStr
import Derived.Laws.IdiomStrings
import Derived.Laws.BytesArg
import Derived.Laws.OwnMore
import Derived.DataElems
import Derived.Deep.Slices
import Derived.ChangeArms
import Derived.Test.YtboemnagahmlkaaGreatZnVc
import Derived.Lib.SplitLaws
import Derived.Lib.CountLaws
import Derived.Lib.Split
import Derived.Lib.Join
import Derived.Lib.ItoaNum
import Derived.Lib.AtoiAll
import Derived.Lib.ItoaMem
import Derived.Laws.MakeOwn
import Derived.Lib.AppendIntMem
import Derived.Lib.AtoiErrMem
import Derived.Lib.AppendStr
import Derived.Shelf.Strings.Builder1
import Derived.WideShapes
import Derived.ChangeSame
import Derived.MapKept
import Derived.Carry
set_option linter.unusedVariables false
set_option linter.unusedSimpArgs false
namespace Go.Proofs.YtboemnagahmlkaaGreat.Eng
open Go Go.RowKit
theorem calls_ret {P : Program} {f : FuncId} {args : Array Value} {w : World} {R : Value → World → Prop} {R' : Ending → World → Prop} (h : Calls P f args w fun e w' => ∃ v, e = .returned v ∧ R v w') (hr : ∀ v w', R v w' → R' (.returned v) w') : Calls P f args w R' :=
  h.mono fun e w' ⟨v, he, h⟩ => by subst he; exact hr v w' h
theorem alloc_size (w : World) (o : Obj) : (w.alloc o).heap.size = w.heap.size + 1 := by
  show (w.heap.push o).size = _
  simp
theorem alloc_old (w : World) (o : Obj) {k : Nat} (h : k < w.heap.size) : (w.alloc o).heap[k]? = w.heap[k]? := by
  show (w.heap.push o)[k]? = _
  simp [Array.getElem?_push, Nat.ne_of_lt h]
theorem alloc_new (w : World) (o : Obj) : (w.alloc o).heap[w.heap.size]? = some o := by
  show (w.heap.push o)[w.heap.size]? = _
  simp
theorem cell_new (w : World) (c : Array Value) (e : TypeId) (j : Nat) : (w.alloc (.cells c e)).cell? ⟨w.heap.size, j, none⟩ = c[j]? := by
  simp only [World.cell?, alloc_new]
  rfl
theorem cell_heap {w : World} {b j : Nat} {c : Array Value} {e : TypeId} {fz : Nat × Nat} (h : w.heap[b]? = some (.cells c e fz)) : w.cell? ⟨b, j, none⟩ = c[j]? := by
  simp only [World.cell?, h]
  rfl
theorem frozen_heap {w : World} {b j : Nat} {c : Array Value} {e : TypeId} (h : w.heap[b]? = some (.cells c e (0, 0))) : w.frozen? ⟨b, j, none⟩ = false := by
  simp [World.frozen?, h]
theorem setCell_heap {w : World} {b j : Nat} {c : Array Value} {e : TypeId} {fz : Nat × Nat} (h : w.heap[b]? = some (.cells c e fz)) (u : Value) : (w.setCell ⟨b, j, none⟩ u).heap[b]? = some (.cells (c.setIfInBounds j u) e fz) := by
  simp [World.setCell, Array.getElem?_modify, h]

/-- The cells of a block, written over from one on. -/
theorem storeP_block {b : Nat} {e : TypeId} {k : World → Prop} : ∀ (vs : List Value) (i : Nat) (w : World) (c : Array Value) (o : Nat), w.heap[b]? = some (.cells c e (0, 0)) → o + i + vs.length ≤ c.size → (∀ v ∈ vs, v.oneCell' = true) →
    (∀ w', w'.heap[b]? = some (.cells (layAt c.toList (o + i) vs).toArray e (0, 0)) → (∀ j, j ≠ b → w'.heap[j]? = w.heap[j]?) → w'.heap.size = w.heap.size → (∀ B w0, B ≤ b → Below B w0 w → Below B w0 w') → k w') → StoreP w ⟨b, o, none⟩ k vs i
  | [], i, w, c, o, h, hl, h1, hk => by
    rintro w' rfl
    exact hk w' (by simpa [layAt] using h) (fun _ _ => rfl) rfl (fun _ _ _ h => h)
  | v :: r, i, w, c, o, h, hl, h1, hk => by
    simp only [List.length_cons] at hl
    have ha : (⟨b, o, none⟩ : Addr).add i = ⟨b, o + i, none⟩ := Addr.add_lit b o i
    have hi : o + i < c.size := by omega
    refine ⟨h1 v (by simp), ?_, ?_, ?_⟩
    · rw [ha, cell_heap h]; exact ⟨c[o + i], by simp [hi]⟩
    · rw [ha]; exact frozen_heap h
    rw [ha]
    refine storeP_block r (i + 1) _ (c.setIfInBounds (o + i) v) o (setCell_heap h v) (by simp; omega) (fun u hu => h1 u (by simp [hu])) ?_
    intro w' hw hne hsz hB
    refine hk w' ?_ (fun j hj => (hne j hj).trans (Below.heap_setCell w ⟨b, o + i, none⟩ v j hj)) (by rw [hsz]; simp [World.setCell]) (fun B w0 hb hBel => hB B w0 hb (hBel.setCell (p := ⟨b, o + i, none⟩) hb v))
    rw [hw]
    congr 2
    have hi' : o + i < c.toList.length := by simp; omega
    simp only [layAt, Array.toList_setIfInBounds, List.length_cons, List.set_eq_take_append_cons_drop, hi', if_true]
    have hlen : (c.toList.take (o + i)).length = o + i := by rw [List.length_take]; omega
    rw [show o + (i + 1) = (c.toList.take (o + i)).length + 1 from by omega, List.take_length_add_append, show (c.toList.take (o + i)).length + 1 + r.length = (c.toList.take (o + i)).length + (1 + r.length) from by omega, List.drop_length_add_append]
    rw [Nat.add_comm 1 r.length]
    simp only [List.drop_succ_cons, List.drop_drop, List.take_succ_cons, List.take_zero, List.append_assoc, List.cons_append, List.nil_append]
    rw [show o + i + 1 + r.length = o + i + (r.length + 1) from by omega]
/-- A new block, filled. -/
theorem storeP_new {w : World} {e : TypeId} {k : World → Prop} (z vs : List Value) (hz : z.length = vs.length) (h1 : ∀ v ∈ vs, v.oneCell' = true) (w1 : World) (hw : w1 = w.alloc (.cells z.toArray e))
    (hk : ∀ w', w'.heap[w.heap.size]? = some (.cells vs.toArray e (0, 0)) → w'.heap.size = w.heap.size + 1 → Below w.heap.size w w' → k w') : StoreP w1 (nb w) k vs 0 := by
  subst hw
  refine storeP_block vs 0 _ z.toArray 0 (alloc_new w _) (by simp; omega) h1 ?_
  intro w' h hne hsz hB
  refine hk w' ?_ (by rw [hsz, alloc_size]) (hB _ w (Nat.le_refl _) ((Below.refl _ w).alloc (Nat.le_refl _) _))
  rw [h]
  congr 2
  simp [layAt, ← hz]

/-! ### A row that the call owns -/
/-- What a row that is owned looks like. -/
theorem own_form {w : World} {base : Nat} {e : TypeId} {size n : Nat} {v : Value} {xs : List Value} (h : w.ownsRow base e size v n xs) : ∃ a c, v = .slice a n c ∧ n ≤ c := by
  rcases h.2 with ⟨rfl, rfl⟩ | ⟨g, cap, cur, rfl, _, _, hc, _⟩
  · exact ⟨none, 0, rfl, Nat.le_refl _⟩
  · exact ⟨_, _, rfl, hc⟩
theorem own_lt {w : World} {base : Nat} {e : TypeId} {size n : Nat} {v : Value} {xs : List Value} (h : w.ownsRow base e size v n xs) : ∀ k, v.ownBlock = some k → base ≤ k ∧ k < w.heap.size := by
  intro k hk
  rcases h.2 with ⟨rfl, rfl⟩ | ⟨g, cap, cur, rfl, hb, hg, _⟩
  · cases hk
  · cases hk
    exact ⟨hb, (Array.getElem?_eq_some_iff.1 hg).1⟩
theorem own_nil (w : World) (base : Nat) (e : TypeId) (size : Nat) : w.ownsRow base e size (.slice none 0 0) 0 [] := ⟨by simp, .inl ⟨rfl, rfl⟩⟩
/-- 'append(xs, x)': the new element lies in a block of its own. -/
theorem run_push {P : Program} (t e : TypeId) {z : Value} {size bytes : Nat} (ht : P.underlying t = some (.slice e)) (hi : (P.info? e).map (fun i => (i.zero, i.size, i.bytes)) = some (some z, size, bytes)) (hzs : z.cells.size = size) (hsz : 0 < size)
    {base : Nat} {w1 : World} {v : Value} {n : Nat} {xs : List Value} (hown : w1.ownsRow base e size v n xs) (news : List Value) (hl : news.length = size) (h1 : ∀ u ∈ news, u.oneCell' = true)
    (hbytes : (n + 1) * bytes ≤ 140737488355328) (h63 : n + 1 ≤ 140737488355328) (hbase : base ≤ w1.heap.size) :
    ∃ a' c' w3, (Builtin.append_ #[t, t] t #[v, .slice (some (nb w1)) 1 1]).run P (w1.alloc (.cells news.toArray e)) = .ok (.slice a' (n + 1) c') w3 ∧ w3.ownsRow base e size (.slice a' (n + 1) c') (n + 1) (xs ++ news) ∧
      (w1.alloc (.cells news.toArray e)).grownBy w3 v.ownBlock ∧ ((Value.slice a' (n + 1) c').ownBlock = v.ownBlock ∨ (Value.slice a' (n + 1) c').ownBlock = some (w1.heap.size + 1)) := by
  obtain ⟨i, hi', hz, hs, hb⟩ := info_parts hi
  obtain ⟨v', w3, hr, hown', hg, _, hnb⟩ := run_append_own_at (P := P) (w1.alloc (.cells news.toArray e)) base t t e i z size bytes ht hi' hz hs hb hzs hsz v n xs (hown.alloc _) (nb w1) 1 1 news (by omega)
    (fun j u hj => by
      have hjl : j < news.length := (List.getElem?_eq_some_iff.1 hj).1
      have hadd : (nb w1).add j = ⟨w1.heap.size, j, none⟩ := by
        unfold Addr.add nb
        split
        · rename_i h0; subst h0; rfl
        · simp
      rw [hadd]
      rw [cell_new]; simpa using hj)
    h1 (by unfold maxLen; omega) hbytes (by rw [alloc_size]; omega)
  obtain ⟨a', c', rfl, _⟩ := own_form hown'
  exact ⟨a', c', w3, hr, hown', hg, by rwa [alloc_size] at hnb⟩
/-- What was below B is as it was behind an append of a row that lies from B on. -/
theorem below_push {B : Nat} {w w1 w3 : World} {e : TypeId} {size n : Nat} {v : Value} {xs : List Value} {o : Obj} (hb : Below B w w1) (hown : w1.ownsRow B e size v n xs) (hg : (w1.alloc o).grownBy w3 v.ownBlock) (hB : B ≤ w1.heap.size) : Below B w w3 :=
  (hb.alloc hB o).grown hg (by rw [alloc_size]; omega) fun k hk => (own_lt hown k hk).1
/-- A block that is not the row's own is as it was behind the append. -/
theorem block_push {w1 w3 : World} {row : Option Nat} {o : Obj} (hg : (w1.alloc o).grownBy w3 row) {k : Nat} (hk : k < w1.heap.size) (hne : some k ≠ row) : w3.heap[k]? = w1.heap[k]? := by
  rw [hg.block k (by rw [alloc_size]; omega) hne, alloc_old w1 o hk]
theorem size_push {w1 w3 : World} {row : Option Nat} {o : Obj} (hg : (w1.alloc o).grownBy w3 row) : w1.heap.size + 1 ≤ w3.heap.size := by
  have := hg.size
  rwa [alloc_size] at this
theorem heap_setCell_ne {w : World} {a : Addr} {u : Value} {k : Nat} (h : k ≠ a.block) : (w.setCell a u).heap[k]? = w.heap[k]? := Below.heap_setCell w a u k h
theorem size_setCell (w : World) (a : Addr) (u : Value) : (w.setCell a u).heap.size = w.heap.size := by simp [World.setCell]
theorem own_setCell {w : World} {base : Nat} {e : TypeId} {size n : Nat} {v : Value} {xs : List Value} (h : w.ownsRow base e size v n xs) {a : Addr} (u : Value) (hne : v.ownBlock ≠ some a.block) : (w.setCell a u).ownsRow base e size v n xs := by
  refine ⟨h.1, ?_⟩
  rcases h.2 with h2 | ⟨g, cap, cur, hv, hg, hh, r⟩
  · exact .inl h2
  · refine .inr ⟨g, cap, cur, hv, hg, ?_, r⟩
    rw [heap_setCell_ne]
    · exact hh
    · intro he
      subst he
      exact hne (by rw [hv]; rfl)

/-! ### Loops, sums, strings -/
/-- A loop that counts up to n: the last round, and one round. -/
theorem climb {α : Type} (n : Nat) (Inv G : Nat → α → Prop) (last : ∀ x, Inv n x → G n x) (step : ∀ i, i < n → (∀ x, Inv (i + 1) x → G (i + 1) x) → ∀ x, Inv i x → G i x) : ∀ i, i ≤ n → ∀ x, Inv i x → G i x := by
  have key : ∀ k i, i + k = n → ∀ x, Inv i x → G i x := by
    intro k
    induction k with
    | zero => intro i hi; have : i = n := by omega
              subst this; exact last
    | succ k ih => intro i hi; exact step i (by omega) (ih (i + 1) (by omega))
  intro i hi
  exact key (n - i) i (by omega)
theorem wrap_in {k : IntKind} {z : Int} (h1 : k.min ≤ z) (h2 : z ≤ k.max) : k.wrap z = z := by
  cases k <;> simp [IntKind.wrap, IntKind.bits, IntKind.signed, IntKind.min, IntKind.max] at * <;> omega
theorem Ar.ok {k : IntKind} {z : Int} {F : Int → Prop} (h1 : k.min ≤ z) (h2 : z ≤ k.max) (h : F z) : Ar k z F := by
  unfold Ar
  rw [wrap_in h1 h2]
  exact h
theorem Ar.ok64 {z : Int} {F : Int → Prop} (h1 : -9223372036854775808 ≤ z) (h2 : z ≤ 9223372036854775807) (h : F z) : Ar .i64 z F := Ar.ok (k := .i64) h1 h2 h
abbrev str (l : List UInt8) : ByteArray := ⟨l.toArray⟩
theorem str_size (l : List UInt8) : (str l).size = l.length := by simp [str, ByteArray.size]
theorem str_toList (l : List UInt8) : (str l).toList = l := by rw [ByteArray.toList_eq]
theorem btAt_str (l : List UInt8) (i : Nat) (h : i < l.length) : btAt (str l) (i : Int) = ((l[i]).toNat : Int) := by
  simp [btAt, str, List.getElem?_eq_getElem h]
theorem str_append (a b : List UInt8) : str a ++ str b = str (a ++ b) := by
  apply ByteArray.ext
  simp [str]
/-- 'string(b)' of a row of bytes that the call owns. -/
theorem run_str_own {P : Program} {src dst e : TypeId} (hs : P.underlying src = some (.slice e)) (he : P.underlying e = some (.int .u8)) (hd : P.underlying dst = some .string) {w : World} {base : Nat} {a : Option Addr} {n c : Nat} {l : List UInt8}
    (h : w.ownsRow base e 1 (.slice a n c) n (Lib.byteCells l)) : (convert src dst (.slice a n c)).run P w = .ok (.string (str l)) w := by
  have hl := h.1
  rw [Lib.byteCells_length] at hl
  rcases h.2 with ⟨h1, h2⟩ | ⟨g, cap, cur, h1, h2, h3, h4, h5, h6, h7⟩
  · cases h1
    have : l = [] := List.eq_nil_of_length_eq_zero (by omega)
    subst this
    exact run_convert_bytes_nil w src e hs he 0 0 dst hd
  · cases h1
    have hn : n = l.length := by omega
    subst hn
    refine run_convert_bytes_back w src dst e ⟨g, 0, none⟩ c l hs he hd ?_
    intro j hj
    have hadd : (⟨g, 0, none⟩ : Addr).add j = ⟨g, j, none⟩ := by unfold Addr.add; split <;> simp_all
    rw [hadd, cell_heap h3]
    have h8 : (Lib.byteCells l)[j]? = some (.int .u8 (l[j].toNat : Int)) := by simp [Lib.byteCells, hj]
    rw [← h7, List.getElem?_take_of_lt (by omega)] at h8
    simpa using h8
theorem own_drew {w : World} {base : Nat} {e : TypeId} {size n : Nat} {v : Value} {xs : List Value} (h : w.ownsRow base e size v n xs) : w.drew.ownsRow base e size v n xs := h
theorem own_on {w w' : World} {base : Nat} {e : TypeId} {size n : Nat} {v : Value} {xs : List Value} (h : w.ownsRow base e size v n xs) (hb : Below w.heap.size w w') : w'.ownsRow base e size v n xs := by
  refine ⟨h.1, ?_⟩
  rcases h.2 with hh | ⟨g, cap, cur, h1, h2, h3, h4⟩
  · exact .inl hh
  · exact .inr ⟨g, cap, cur, h1, h2, by rw [hb.block g (Array.getElem?_eq_some_iff.1 h3).1]; exact h3, h4⟩
/-- One step behind another. -/
theorem below_then {a b c : World} (h : Below a.heap.size a b) (k : Below b.heap.size b c) : Below a.heap.size a c := h.trans (k.mono h.size)
theorem below_alloc (w : World) (o : Obj) : Below w.heap.size w (w.alloc o) := (Below.refl _ w).alloc (Nat.le_refl _) o
theorem add_block (a : Addr) (k : Nat) : (a.add k).block = a.block := by
  unfold Addr.add
  split <;> rfl
theorem add_lit (b o n : Nat) : Addr.add ⟨b, o, none⟩ n = ⟨b, o + n, none⟩ := Addr.add_lit b o n

/-! ### The frame of a law's row -/
section
variable {H : Type} {enc : TypeId × Value → H}
end
end Go.Proofs.YtboemnagahmlkaaGreat.Eng
/- Several rows that a call owns, apart from one another: what an append to one of them leaves of the others. -/
set_option linter.unusedVariables false
set_option linter.unusedSimpArgs false
namespace Go.Proofs.YtboemnagahmlkaaGreat.Eng
open Go Go.RowKit
/-- A slice's words. -/
structure Sl where
  a : Option Addr
  n : Nat
  c : Nat
abbrev Sl.v (s : Sl) : Value := .slice s.a s.n s.c
/-- What is as it was in the rows' own blocks. -/
theorem own_same {w w' : World} {B : Nat} {e : TypeId} {size n : Nat} {v : Value} {xs : List Value} (h : w.ownsRow B e size v n xs) (hb : ∀ k, v.ownBlock = some k → w'.heap[k]? = w.heap[k]?) : w'.ownsRow B e size v n xs := by
  refine ⟨h.1, ?_⟩
  rcases h.2 with hh | ⟨g, cap, cur, h1, h2, h3, h4⟩
  · exact .inl hh
  · exact .inr ⟨g, cap, cur, h1, h2, by rw [hb g (by rw [h1]; rfl)]; exact h3, h4⟩
/-- A slice that is nil only when it is nothing at all. -/
def SlOk (s : Sl) : Prop := s = ⟨none, 0, 0⟩ ∨ ∃ a, s.a = some a
/-- 'append(xs, ys...)': all that ys holds lies behind what xs held. -/
theorem run_spread2 {P : Program} (t e : TypeId) {z : Value} {size bytes : Nat} (ht : P.underlying t = some (.slice e)) (hi : (P.info? e).map (fun i => (i.zero, i.size, i.bytes)) = some (some z, size, bytes)) (hzs : z.cells.size = size) (hsz : 0 < size)
    {base : Nat} {w1 : World} {v : Value} {n : Nat} {xs : List Value} (hown : w1.ownsRow base e size v n xs) (src : Sl) (hsrc : SlOk src) (news : List Value) (hl : news.length = src.n * size)
    (hcells : ∀ a, src.a = some a → ∀ j u, news[j]? = some u → w1.cell? (a.add j) = some u) (h1 : ∀ u ∈ news, u.oneCell' = true)
    (hbytes : (n + src.n) * bytes ≤ 140737488355328) (h63 : n + src.n ≤ 140737488355328) (hbase : base ≤ w1.heap.size) :
    ∃ a' c' w3, (Builtin.append_ #[t, t] t #[v, src.v]).run P w1 = .ok (.slice a' (n + src.n) c') w3 ∧ w3.ownsRow base e size (.slice a' (n + src.n) c') (n + src.n) (xs ++ news) ∧
      (∀ w0, Below base w0 w1 → Below base w0 w3) ∧ (∀ k, k < w1.heap.size → v.ownBlock ≠ some k → w3.heap[k]? = w1.heap[k]?) ∧ ∀ k, (Value.slice a' (n + src.n) c').ownBlock = some k → v.ownBlock = some k ∨ w1.heap.size ≤ k := by
  obtain ⟨i, hi', hz, hs, hb⟩ := info_parts hi
  obtain ⟨sa, sn, sc⟩ := src
  rcases hsrc with h | ⟨a, ha⟩
  · cases h
    have hn : news = [] := List.eq_nil_of_length_eq_zero (by simpa using hl)
    subst hn
    obtain ⟨a', c', rfl, _⟩ := own_form hown
    exact ⟨a', c', w1, run_append_owned_none w1 base t t e i size ht hi' _ n xs hown, by simpa using hown, fun w0 hb => hb, fun _ _ _ => rfl, fun k hk => .inl hk⟩
  · cases ha
    obtain ⟨v', w3, hr, hown', hg, _, hnb⟩ := run_append_own_at (P := P) w1 base t t e i z size bytes ht hi' hz hs hb hzs hsz v n xs hown a sn sc news hl (hcells a rfl) h1 (by unfold maxLen; dsimp only at h63; omega) hbytes hbase
    obtain ⟨a', c', rfl, _⟩ := own_form hown'
    refine ⟨a', c', w3, hr, hown', fun w0 hb => hb.grown hg hbase fun k hk => (own_lt hown k hk).1, fun k hk hne => hg.block k hk (fun e => hne e.symm), fun k hk => ?_⟩
    rcases hnb with h | h
    · exact .inl (by rw [← h]; exact hk)
    · rw [h] at hk
      cases hk
      exact .inr (Nat.le_refl _)
theorem run_spread {P : Program} (t e : TypeId) {z : Value} {size bytes : Nat} (ht : P.underlying t = some (.slice e)) (hi : (P.info? e).map (fun i => (i.zero, i.size, i.bytes)) = some (some z, size, bytes)) (hzs : z.cells.size = size) (hsz : 0 < size)
    {base : Nat} {w1 : World} {v : Value} {n : Nat} {xs : List Value} (hown : w1.ownsRow base e size v n xs) (src : Sl) (hsrc : SlOk src) (news : List Value) (hl : news.length = src.n * size)
    (hcells : ∀ a, src.a = some a → ∀ j u, news[j]? = some u → w1.cell? (a.add j) = some u) (h1 : ∀ u ∈ news, u.oneCell' = true)
    (hbytes : (n + src.n) * bytes ≤ 140737488355328) (h63 : n + src.n ≤ 140737488355328) (hbase : base ≤ w1.heap.size) :
    ∃ a' c' w3, (Builtin.append_ #[t, t] t #[v, src.v]).run P w1 = .ok (.slice a' (n + src.n) c') w3 ∧ w3.ownsRow base e size (.slice a' (n + src.n) c') (n + src.n) (xs ++ news) ∧
      (∀ w0, Below base w0 w1 → Below base w0 w3) ∧ (∀ k, k < w1.heap.size → v.ownBlock ≠ some k → w3.heap[k]? = w1.heap[k]?) := by
  obtain ⟨a', c', w3, g1, g2, g3, g4, _⟩ := run_spread2 t e ht hi hzs hsz hown src hsrc news hl hcells h1 hbytes h63 hbase
  exact ⟨a', c', w3, g1, g2, g3, g4⟩
end Go.Proofs.YtboemnagahmlkaaGreat.Eng
/- Arguments, opened: a slice's elements, each of some cells, as a list. -/
set_option linter.unusedVariables false
set_option linter.unusedSimpArgs false
namespace Go.Proofs.YtboemnagahmlkaaGreat.Eng
open Go Go.RowKit Go.Deep
end Go.Proofs.YtboemnagahmlkaaGreat.Eng

/- Sifted out of this repo's own templates by tool/sift.py. -/
set_option linter.unusedVariables false
set_option linter.unusedSimpArgs false
set_option maxRecDepth 100000
namespace Go.Proofs.YtboemnagahmlkaaGreat.Eng
open Go Go.RowKit Go.ChangeShapes Go.WideShapes
def step (n : Nat) (b : UInt8) : Nat := 10 * n + (b.toNat - 48)
abbrev Bs := List UInt8
/-- What a spec holds. -/
structure SpecV where
  ranked : Bool := false
  merges : List (Int × Int) := []
  tokens : List Bs := []
  specials : List (Int × Bs) := []
  classes : List (Int × Int × Int) := []
  joins : List (Int × Int) := []
  deriving DecidableEq
def mergeOk (m : Int × Int) : Bool := decide (0 ≤ m.1 ∧ m.1 ≤ 999 ∧ 0 ≤ m.2 ∧ m.2 ≤ 999)
def thingOk (s : Bs) : Bool := decide (2 ≤ s.length ∧ s.length ≤ 64)
def specialOk (x : Int × Bs) : Bool := decide (0 ≤ x.1 ∧ x.1 ≤ 1073741824 ∧ 1 ≤ x.2.length ∧ x.2.length ≤ 64)
def classOk (c : Int × Int × Int) : Bool := decide (0 ≤ c.1 ∧ c.1 ≤ c.2.1 ∧ c.2.1 ≤ 255 ∧ 0 ≤ c.2.2 ∧ c.2.2 ≤ 15)
def joinOk (j : Int × Int) : Bool := decide (0 ≤ j.1 ∧ j.1 ≤ 15 ∧ 0 ≤ j.2 ∧ j.2 ≤ 15)
def allOk {α : Type} (l : List α) (most : Nat) (may : α → Bool) : Bool := decide (l.length ≤ most) && l.all may
/-- Is a spec right? -/
def SpecV.right (s : SpecV) : Bool :=
  (if s.ranked then s.merges.isEmpty else s.tokens.isEmpty) && allOk s.merges 744 mergeOk && allOk s.tokens 744 thingOk && allOk s.specials 32 specialOk && allOk s.classes 64 classOk && allOk s.joins 64 joinOk
theorem right_parts {s : SpecV} (h : s.right = true) : (if s.ranked then s.merges.isEmpty else s.tokens.isEmpty) = true ∧ allOk s.merges 744 mergeOk = true ∧ allOk s.tokens 744 thingOk = true ∧ allOk s.specials 32 specialOk = true ∧ allOk s.classes 64 classOk = true ∧ allOk s.joins 64 joinOk = true := by
  unfold SpecV.right at h
  simp only [Bool.and_eq_true] at h
  obtain ⟨⟨⟨⟨⟨h1, h2⟩, h3⟩, h4⟩, h5⟩, h6⟩ := h
  exact ⟨h1, h2, h3, h4, h5, h6⟩
abbrev tU8 : TypeId := 5
abbrev tBytes : TypeId := 178
theorem infoU8 : (Tryz.prog.info? tU8).map (fun i => (i.zero, i.size, i.bytes)) = some (some (.int .u8 0), 1, 1) := by kernel_rfl
theorem undBytes : Tryz.prog.underlying tBytes = some (.slice tU8) := by kernel_rfl
abbrev tStr : TypeId := 9
theorem undStr : Tryz.prog.underlying tStr = some .string := by kernel_rfl
theorem undU8 : Tryz.prog.underlying tU8 = some (.int .u8) := by kernel_rfl
abbrev tStrs : TypeId := 32
theorem undStrs : Tryz.prog.underlying tStrs = some (.slice tStr) := by kernel_rfl
theorem infoStr : (Tryz.prog.info? tStr).map (fun i => (i.zero, i.size, i.bytes)) = some (some (.string ⟨#[]⟩), 1, 16) := by kernel_rfl
/-- A row of things, each of sz cells, read at each place. -/
def Rw {α : Type} (enc : α → List Value) (sz : Nat) (w : World) (a : Option Addr) (xs : List α) : Prop := ∀ (j : Nat) (x : α), xs[j]? = some x → ∃ p, a = some p ∧ p.block < w.heap.size ∧ ∀ (k : Nat) (v : Value), (enc x)[k]? = some v → w.cell? ((p.add (j * sz)).add k) = some v
theorem Rw.on {α : Type} {enc : α → List Value} {sz : Nat} {w w' : World} {a : Option Addr} {xs : List α} (h : Rw enc sz w a xs) (hb : Below w.heap.size w w') : Rw enc sz w' a xs := by
  intro j x hj
  obtain ⟨p, rfl, hp, hc⟩ := h j x hj
  refine ⟨p, rfl, Nat.lt_of_lt_of_le hp hb.size, fun k v hk => ?_⟩
  rw [hb.cell (by rw [add_block, add_block]; exact hp)]
  exact hc k v hk
theorem add_zero (a : Addr) : a.add 0 = a := by simp [Addr.add]
def encPair (m : Int × Int) : List Value := [.int .i64 m.1, .int .i64 m.2]
def encStr (s : Bs) : List Value := [.string (str s)]
def encSpecial (x : Int × Bs) : List Value := [.int .i64 x.1, .string (str x.2)]
def encClass (c : Int × Int × Int) : List Value := [.int .i64 c.1, .int .i64 c.2.1, .int .i64 c.2.2]
theorem within_spec (n lo hi : Int) (w : World) : Calls Tryz.prog 195 #[.int .i64 n, .int .i64 lo, .int .i64 hi] w fun e w' => e = .returned (.bool (decide (lo ≤ n ∧ n ≤ hi))) ∧ Below w.heap.size w w' := by
  refine calls_ret (vc195_calls n lo hi w (fun v w' => v = .bool (decide (lo ≤ n ∧ n ≤ hi)) ∧ Below w.heap.size w w') ?_) (by rintro v w' ⟨rfl, h⟩; exact ⟨rfl, h⟩)
  refine CondP.mk ?_ ?_
  · intro h
    have h := of_decide_eq_true h
    refine ⟨?_, Below.refl _ _⟩
    congr 1
    exact decide_eq_decide.2 ⟨fun e => ⟨by omega, e⟩, fun e => e.2⟩
  · intro h
    have h := of_decide_eq_false h
    refine ⟨?_, Below.refl _ _⟩
    rw [decide_eq_false (by omega)]
theorem spec_merge_spec (m : Int × Int) (w : World) : Calls Tryz.prog 138 #[.agg #[.int .i64 m.1, .int .i64 m.2]] w fun e w' => e = .returned (.bool (mergeOk m)) ∧ Below w.heap.size w w' := by
  refine calls_ret (vc138_calls m.1 m.2 w (fun v w' => v = .bool (mergeOk m) ∧ Below w.heap.size w w') ?_) (by rintro v w' ⟨rfl, h⟩; exact ⟨rfl, h⟩)
  rintro w1 rfl
  have hb := below_alloc w (.cells #[Value.int .i64 m.1, Value.int .i64 m.2] 98)
  refine ⟨m.1, by rw [add_lit, cell_new]; rfl, ?_⟩
  refine (within_spec m.1 0 999 _).mono ?_
  rintro e w2 ⟨rfl, h2⟩
  refine ⟨_, rfl, CondP.mk ?_ ?_⟩
  · intro h
    have h := of_decide_eq_true h
    refine ⟨m.2, by rw [add_lit, h2.cell (by rw [alloc_size]; exact Nat.lt_succ_self _), cell_new]; rfl, ?_⟩
    refine (within_spec m.2 0 999 w2).mono ?_
    rintro e w3 ⟨rfl, h3⟩
    refine ⟨_, rfl, ?_, below_then hb (below_then h2 h3)⟩
    congr 1
    unfold mergeOk
    exact decide_eq_decide.2 (by omega)
  · intro h
    have h := of_decide_eq_false h
    refine ⟨?_, below_then hb h2⟩
    congr 1
    unfold mergeOk
    exact (decide_eq_false (by omega)).symm
theorem spec_join_spec (m : Int × Int) (w : World) : Calls Tryz.prog 146 #[.agg #[.int .i64 m.1, .int .i64 m.2]] w fun e w' => e = .returned (.bool (joinOk m)) ∧ Below w.heap.size w w' := by
  refine calls_ret (vc146_calls m.1 m.2 w (fun v w' => v = .bool (joinOk m) ∧ Below w.heap.size w w') ?_) (by rintro v w' ⟨rfl, h⟩; exact ⟨rfl, h⟩)
  rintro w1 rfl
  have hb := below_alloc w (.cells #[Value.int .i64 m.1, Value.int .i64 m.2] 169)
  refine ⟨m.1, by rw [add_lit, cell_new]; rfl, ?_⟩
  refine (within_spec m.1 0 15 _).mono ?_
  rintro e w2 ⟨rfl, h2⟩
  refine ⟨_, rfl, CondP.mk ?_ ?_⟩
  · intro h
    have h := of_decide_eq_true h
    refine ⟨m.2, by rw [add_lit, h2.cell (by rw [alloc_size]; exact Nat.lt_succ_self _), cell_new]; rfl, ?_⟩
    refine (within_spec m.2 0 15 w2).mono ?_
    rintro e w3 ⟨rfl, h3⟩
    refine ⟨_, rfl, ?_, below_then hb (below_then h2 h3)⟩
    congr 1
    unfold joinOk
    exact decide_eq_decide.2 (by omega)
  · intro h
    have h := of_decide_eq_false h
    refine ⟨?_, below_then hb h2⟩
    congr 1
    unfold joinOk
    exact (decide_eq_false (by omega)).symm
theorem spec_thing_spec (s : Bs) (w : World) : Calls Tryz.prog 140 #[.string (str s)] w fun e w' => e = .returned (.bool (thingOk s)) ∧ Below w.heap.size w w' := by
  refine calls_ret (vc140_calls (str s) w (fun v w' => v = .bool (thingOk s) ∧ Below w.heap.size w w') ?_) (by rintro v w' ⟨rfl, h⟩; exact ⟨rfl, h⟩)
  refine (within_spec _ 2 64 w).mono ?_
  rintro e w2 ⟨rfl, h2⟩
  refine ⟨_, rfl, ?_, h2⟩
  congr 1
  unfold thingOk
  rw [str_size]
  exact decide_eq_decide.2 (by omega)
theorem spec_special_spec (x : Int × Bs) (w : World) : Calls Tryz.prog 142 #[.agg #[.int .i64 x.1, .string (str x.2)]] w fun e w' => e = .returned (.bool (specialOk x)) ∧ Below w.heap.size w w' := by
  refine calls_ret (vc142_calls x.1 (str x.2) w (fun v w' => v = .bool (specialOk x) ∧ Below w.heap.size w w') ?_) (by rintro v w' ⟨rfl, h⟩; exact ⟨rfl, h⟩)
  rintro w1 rfl
  have hb := below_alloc w (.cells #[Value.int .i64 x.1, Value.string (str x.2)] 171)
  refine ⟨x.1, by rw [add_lit, cell_new]; rfl, ?_⟩
  refine (within_spec x.1 0 1073741824 _).mono ?_
  rintro e w2 ⟨rfl, h2⟩
  refine ⟨_, rfl, CondP.mk ?_ ?_⟩
  · intro h
    have h := of_decide_eq_true h
    refine ⟨str x.2, by rw [add_lit, h2.cell (by rw [alloc_size]; exact Nat.lt_succ_self _), cell_new]; rfl, ?_⟩
    refine (within_spec _ 1 64 w2).mono ?_
    rintro e w3 ⟨rfl, h3⟩
    refine ⟨_, rfl, ?_, below_then hb (below_then h2 h3)⟩
    congr 1
    unfold specialOk
    rw [str_size]
    exact decide_eq_decide.2 (by omega)
  · intro h
    have h := of_decide_eq_false h
    refine ⟨?_, below_then hb h2⟩
    congr 1
    unfold specialOk
    exact (decide_eq_false (by omega)).symm
theorem spec_class_spec (c : Int × Int × Int) (w : World) : Calls Tryz.prog 144 #[.agg #[.int .i64 c.1, .int .i64 c.2.1, .int .i64 c.2.2]] w fun e w' => e = .returned (.bool (classOk c)) ∧ Below w.heap.size w w' := by
  refine calls_ret (vc144_calls c.1 c.2.1 c.2.2 w (fun v w' => v = .bool (classOk c) ∧ Below w.heap.size w w') ?_) (by rintro v w' ⟨rfl, h⟩; exact ⟨rfl, h⟩)
  rintro w1 rfl
  have hb := below_alloc w (.cells #[Value.int .i64 c.1, Value.int .i64 c.2.1, Value.int .i64 c.2.2] 168)
  refine ⟨c.1, by rw [add_lit, cell_new]; rfl, c.2.1, by rw [add_lit, cell_new]; rfl, ?_⟩
  refine (within_spec c.1 0 c.2.1 _).mono ?_
  rintro e w2 ⟨rfl, h2⟩
  refine ⟨_, rfl, CondP.mk ?_ ?_⟩
  · intro h
    have h := of_decide_eq_true h
    refine ⟨c.2.1, by rw [add_lit, h2.cell (by rw [alloc_size]; exact Nat.lt_succ_self _), cell_new]; rfl, CondP.mk ?_ ?_⟩
    · intro h5
      have h5 := of_decide_eq_true h5
      refine ⟨c.2.2, by rw [add_lit, h2.cell (by rw [alloc_size]; exact Nat.lt_succ_self _), cell_new]; rfl, ?_⟩
      refine (within_spec c.2.2 0 15 w2).mono ?_
      rintro e w3 ⟨rfl, h3⟩
      refine ⟨_, rfl, ?_, below_then hb (below_then h2 h3)⟩
      congr 1
      unfold classOk
      exact decide_eq_decide.2 (by omega)
    · intro h5
      have h5 := of_decide_eq_false h5
      refine ⟨?_, below_then hb h2⟩
      congr 1
      unfold classOk
      exact (decide_eq_false (by omega)).symm
  · intro h
    have h := of_decide_eq_false h
    refine ⟨?_, below_then hb h2⟩
    congr 1
    unfold classOk
    exact (decide_eq_false (by omega)).symm
theorem CallG.mono {C : Ctx} {f : Value} {args : List Value} {w : World} {R R' : Ending → World → Prop} (h : CallG C f args w R) (hr : ∀ e w', R e w' → R' e w') : CallG C f args w R' := by
  unfold CallG at h ⊢
  split at h
  · split at h
    · exact h.mono hr
    · obtain ⟨v, w', h1, h2⟩ := h
      exact ⟨v, w', h1, hr _ _ h2⟩
  · exact h.elim
theorem callG_of {g : FuncId} {cap : Array Value} {args : List Value} {w : World} {R : Ending → World → Prop} (hg : ctx.fns g = true) (h : Calls Tryz.prog g (args ++ cap.toList).toArray w R) : CallG ctx (.func (.func g) #[] cap) args w R := by
  unfold CallG
  simp only [hg]
  exact h
/-- The first place at which something holds; -1: there is none. -/
def idx {α : Type} (p : α → Bool) (xs : List α) : Int := match xs.findIdx? p with
  | some i => (i : Int)
  | none => -1
theorem idx_any {α : Type} (p : α → Bool) (xs : List α) : decide (idx p xs ≥ 0) = xs.any p := by
  unfold idx
  cases h : xs.findIdx? p with
  | none =>
    rw [List.findIdx?_eq_none_iff] at h
    have : xs.any p = false := by
      rw [List.any_eq_false]
      intro x hx
      simpa using h x hx
    rw [this]; rfl
  | some i =>
    have hi := List.findIdx?_eq_some_iff_getElem.1 h
    have : xs.any p = true := List.any_eq_true.2 ⟨xs[i]'hi.1, List.getElem_mem hi.1, hi.2.1⟩
    rw [this]
    exact decide_eq_true (by simp)
theorem idx_some {α : Type} {p : α → Bool} {xs : List α} {i : Nat} (h : i < xs.length) (hp : p xs[i] = true) (hb : ∀ j (hj : j < i), p (xs[j]'(by omega)) = false) : idx p xs = i := by
  have : xs.findIdx? p = some i := List.findIdx?_eq_some_iff_getElem.2 ⟨h, hp, fun j hj => by simpa using hb j hj⟩
  unfold idx
  rw [this]
theorem idx_none {α : Type} {p : α → Bool} {xs : List α} (hb : ∀ j (hj : j < xs.length), p (xs[j]) = false) : idx p xs = -1 := by
  have : xs.findIdx? p = none := by
    rw [List.findIdx?_eq_none_iff]
    intro x hx
    obtain ⟨j, hj, rfl⟩ := List.getElem_of_mem hx
    exact hb j hj
  unfold idx
  rw [this]
theorem not_any {α : Type} (p : α → Bool) (xs : List α) : (!xs.any fun x => !p x) = xs.all p := by
  induction xs with
  | nil => rfl
  | cons x xs ih => simp only [List.any_cons, List.all_cons, Bool.not_or, Bool.not_not, ih]
theorem indexM_spec (a : Option Addr) (c : Nat) (xs : List (Int × Int)) (f : Value) (p : Int × Int → Bool) (w : World) (hr : Rw encPair 2 w a xs) (hl : xs.length ≤ 1000000000000000)
    (hf : ∀ x ∈ xs, ∀ w1, Below w.heap.size w w1 → CallG ctx f [.agg #[.int .i64 x.1, .int .i64 x.2]] w1 (fun e w2 => e = .returned (.bool (p x)) ∧ Below w1.heap.size w1 w2)) :
    Calls Tryz.prog 235 #[.slice a xs.length c, f] w fun e w' => e = .returned (.int .i64 (idx p xs)) ∧ Below w.heap.size w w' := by
  refine calls_ret (vc235_calls a xs.length c f w (fun v w' => v = .int .i64 (idx p xs) ∧ Below w.heap.size w w') ?_) (by rintro v w' ⟨rfl, h⟩; exact ⟨rfl, h⟩)
  intro I hI
  have key := climb (α := Int × World) xs.length (fun i x => (∀ j (hj : j < xs.length), j < i → p xs[j] = false) ∧ Below w.heap.size w x.2) (fun i x => I [.int .i64 (i : Int), .int .i64 x.1] x.2) ?_ ?_ 0 (Nat.zero_le _) (0, w)
  · exact key ⟨fun j _ hj => absurd hj (Nat.not_lt_zero j), Below.refl _ _⟩
  · rintro ⟨y, w1⟩ ⟨hb, hB⟩
    exact hI _ _ _ (CondP.no (by simp) ⟨by rw [idx_none fun j hj => hb j hj hj], hB⟩)
  · rintro i hi ih ⟨y, w1⟩ ⟨hb, hB⟩
    obtain ⟨q, hq, _, hcx⟩ := (hr.on hB) i _ (List.getElem?_eq_getElem hi)
    refine hI _ _ _ (CondP.yes (by simp; omega) (NilC.mk q hq ⟨by omega, by omega, xs[i].1, xs[i].2, ⟨by have := hcx 0 _ rfl; simpa [add_zero] using this, by have := hcx 1 _ rfl; simpa using this, trivial⟩, ?_⟩))
    refine (hf xs[i] (List.getElem_mem hi) w1 hB).mono ?_
    rintro e w2 ⟨rfl, h2⟩
    refine ⟨_, rfl, CondP.mk ?_ ?_⟩
    · intro hp
      exact ⟨by rw [idx_some hi hp fun j hj => hb j (by omega) hj], below_then hB h2⟩
    · intro hp
      refine Ar.ok64 (by omega) (by omega) (ih (y, w2) ⟨?_, below_then hB h2⟩)
      intro j hj hji
      by_cases he : j = i
      · subst he; exact hp
      · exact hb j hj (by omega)
theorem containsM_spec (a : Option Addr) (c : Nat) (xs : List (Int × Int)) (f : Value) (p : Int × Int → Bool) (w : World) (hr : Rw encPair 2 w a xs) (hl : xs.length ≤ 1000000000000000)
    (hf : ∀ x ∈ xs, ∀ w1, Below w.heap.size w w1 → CallG ctx f [.agg #[.int .i64 x.1, .int .i64 x.2]] w1 (fun e w2 => e = .returned (.bool (p x)) ∧ Below w1.heap.size w1 w2)) :
    Calls Tryz.prog 193 #[.slice a xs.length c, f] w fun e w' => e = .returned (.bool (xs.any p)) ∧ Below w.heap.size w w' := by
  refine calls_ret (vc193_calls a xs.length c f w (fun v w' => v = .bool (xs.any p) ∧ Below w.heap.size w w') ?_) (by rintro v w' ⟨rfl, h⟩; exact ⟨rfl, h⟩)
  refine (indexM_spec a c xs f p w hr hl hf).mono ?_
  rintro e w1 ⟨rfl, h1⟩
  exact ⟨_, rfl, by rw [idx_any], h1⟩
theorem notM_spec (x : Int × Int) (cb : Nat) (may : Value) (p : Int × Int → Bool) (w : World) (hcb : cb < w.heap.size) (hc : w.cell? ⟨cb, 0, none⟩ = some may) (hm : ∀ w1, CallG ctx may [.agg #[.int .i64 x.1, .int .i64 x.2]] w1 (fun e w2 => e = .returned (.bool (p x)) ∧ Below w1.heap.size w1 w2)) :
    Calls Tryz.prog 194 #[.agg #[.int .i64 x.1, .int .i64 x.2], .pointer (some ⟨cb, 0, none⟩)] w fun e w' => e = .returned (.bool (!p x)) ∧ Below w.heap.size w w' := by
  refine calls_ret (vc194_calls (x.1) (x.2) (some ⟨cb, 0, none⟩) w (fun v w' => v = .bool (!p x) ∧ Below w.heap.size w w') ?_) (by rintro v w' ⟨rfl, h⟩; exact ⟨rfl, h⟩)
  rintro w1 rfl
  have hb := below_alloc w (.cells #[Value.int .i64 x.1, Value.int .i64 x.2] 98)
  refine ⟨may, by rw [hb.cell hcb]; exact hc, x.1, x.2, ⟨by rw [cell_new]; rfl, by rw [add_lit, cell_new]; rfl, trivial⟩, ?_⟩
  refine (hm _).mono ?_
  rintro e w2 ⟨rfl, h2⟩
  exact ⟨_, rfl, rfl, below_then hb h2⟩
theorem allM_spec (a : Option Addr) (c most : Nat) (xs : List (Int × Int)) (w : World) (hr : Rw encPair 2 w a xs) (hm : most ≤ 1000000) :
    Calls Tryz.prog 137 #[.slice a xs.length c, .int .i64 most, .func (.func 138) #[] #[]] w fun e w' => e = .returned (.bool (allOk xs most mergeOk)) ∧ Below w.heap.size w w' := by
  refine calls_ret (vc137_calls a xs.length c most (.func (.func 138) #[] #[]) w (fun v w' => v = .bool (allOk xs most mergeOk) ∧ Below w.heap.size w w') ?_) (by rintro v w' ⟨rfl, h⟩; exact ⟨rfl, h⟩)
  rintro w1 rfl
  refine CondP.mk ?_ ?_
  · intro h
    have h := of_decide_eq_true h
    have hb := below_alloc w (.cells (Value.cells (.func (.func 138) #[] #[])) 207)
    refine (containsM_spec a c xs _ (fun x => !mergeOk x) _ (hr.on hb) (by omega) ?_).mono ?_
    · intro x hx w1 hB
      refine callG_of (by kernel_rfl) ?_
      refine notM_spec x w.heap.size (.func (.func 138) #[] #[]) mergeOk w1 (Nat.lt_of_lt_of_le (by rw [alloc_size]; exact Nat.lt_succ_self _) hB.size) (by rw [hB.cell (by rw [alloc_size]; exact Nat.lt_succ_self _), cell_new]; rfl) ?_
      intro w2
      exact callG_of (by kernel_rfl) (spec_merge_spec x w2)
    · rintro e w2 ⟨rfl, h2⟩
      refine ⟨_, rfl, ?_, below_then hb h2⟩
      rw [not_any, allOk, decide_eq_true (show xs.length ≤ most by omega)]
      rfl
  · intro h
    have h := of_decide_eq_false h
    refine ⟨?_, below_alloc _ _⟩
    rw [allOk, decide_eq_false (show ¬ xs.length ≤ most by omega)]
    rfl
theorem indexT_spec (a : Option Addr) (c : Nat) (xs : List (Bs)) (f : Value) (p : Bs → Bool) (w : World) (hr : Rw encStr 1 w a xs) (hl : xs.length ≤ 1000000000000000)
    (hf : ∀ x ∈ xs, ∀ w1, Below w.heap.size w w1 → CallG ctx f [.string (str x)] w1 (fun e w2 => e = .returned (.bool (p x)) ∧ Below w1.heap.size w1 w2)) :
    Calls Tryz.prog 236 #[.slice a xs.length c, f] w fun e w' => e = .returned (.int .i64 (idx p xs)) ∧ Below w.heap.size w w' := by
  refine calls_ret (vc236_calls a xs.length c f w (fun v w' => v = .int .i64 (idx p xs) ∧ Below w.heap.size w w') ?_) (by rintro v w' ⟨rfl, h⟩; exact ⟨rfl, h⟩)
  intro I hI
  have key := climb (α := Int × World) xs.length (fun i x => (∀ j (hj : j < xs.length), j < i → p xs[j] = false) ∧ Below w.heap.size w x.2) (fun i x => I [.int .i64 (i : Int), .int .i64 x.1] x.2) ?_ ?_ 0 (Nat.zero_le _) (0, w)
  · exact key ⟨fun j _ hj => absurd hj (Nat.not_lt_zero j), Below.refl _ _⟩
  · rintro ⟨y, w1⟩ ⟨hb, hB⟩
    exact hI _ _ _ (CondP.no (by simp) ⟨by rw [idx_none fun j hj => hb j hj hj], hB⟩)
  · rintro i hi ih ⟨y, w1⟩ ⟨hb, hB⟩
    obtain ⟨q, hq, _, hcx⟩ := (hr.on hB) i _ (List.getElem?_eq_getElem hi)
    refine hI _ _ _ (CondP.yes (by simp; omega) (NilC.mk q hq ⟨by omega, by omega, str xs[i], by have := hcx 0 _ rfl; simpa [add_zero] using this, ?_⟩))
    refine (hf xs[i] (List.getElem_mem hi) w1 hB).mono ?_
    rintro e w2 ⟨rfl, h2⟩
    refine ⟨_, rfl, CondP.mk ?_ ?_⟩
    · intro hp
      exact ⟨by rw [idx_some hi hp fun j hj => hb j (by omega) hj], below_then hB h2⟩
    · intro hp
      refine Ar.ok64 (by omega) (by omega) (ih (y, w2) ⟨?_, below_then hB h2⟩)
      intro j hj hji
      by_cases he : j = i
      · subst he; exact hp
      · exact hb j hj (by omega)
theorem containsT_spec (a : Option Addr) (c : Nat) (xs : List (Bs)) (f : Value) (p : Bs → Bool) (w : World) (hr : Rw encStr 1 w a xs) (hl : xs.length ≤ 1000000000000000)
    (hf : ∀ x ∈ xs, ∀ w1, Below w.heap.size w w1 → CallG ctx f [.string (str x)] w1 (fun e w2 => e = .returned (.bool (p x)) ∧ Below w1.heap.size w1 w2)) :
    Calls Tryz.prog 196 #[.slice a xs.length c, f] w fun e w' => e = .returned (.bool (xs.any p)) ∧ Below w.heap.size w w' := by
  refine calls_ret (vc196_calls a xs.length c f w (fun v w' => v = .bool (xs.any p) ∧ Below w.heap.size w w') ?_) (by rintro v w' ⟨rfl, h⟩; exact ⟨rfl, h⟩)
  refine (indexT_spec a c xs f p w hr hl hf).mono ?_
  rintro e w1 ⟨rfl, h1⟩
  exact ⟨_, rfl, by rw [idx_any], h1⟩
theorem notT_spec (x : Bs) (cb : Nat) (may : Value) (p : Bs → Bool) (w : World) (hcb : cb < w.heap.size) (hc : w.cell? ⟨cb, 0, none⟩ = some may) (hm : ∀ w1, CallG ctx may [.string (str x)] w1 (fun e w2 => e = .returned (.bool (p x)) ∧ Below w1.heap.size w1 w2)) :
    Calls Tryz.prog 197 #[.string (str x), .pointer (some ⟨cb, 0, none⟩)] w fun e w' => e = .returned (.bool (!p x)) ∧ Below w.heap.size w w' := by
  refine calls_ret (vc197_calls (str x) (some ⟨cb, 0, none⟩) w (fun v w' => v = .bool (!p x) ∧ Below w.heap.size w w') ?_) (by rintro v w' ⟨rfl, h⟩; exact ⟨rfl, h⟩)
  refine ⟨may, hc, ?_⟩
  refine (hm w).mono ?_
  rintro e w2 ⟨rfl, h2⟩
  exact ⟨_, rfl, rfl, h2⟩
theorem allT_spec (a : Option Addr) (c most : Nat) (xs : List (Bs)) (w : World) (hr : Rw encStr 1 w a xs) (hm : most ≤ 1000000) :
    Calls Tryz.prog 139 #[.slice a xs.length c, .int .i64 most, .func (.func 140) #[] #[]] w fun e w' => e = .returned (.bool (allOk xs most thingOk)) ∧ Below w.heap.size w w' := by
  refine calls_ret (vc139_calls a xs.length c most (.func (.func 140) #[] #[]) w (fun v w' => v = .bool (allOk xs most thingOk) ∧ Below w.heap.size w w') ?_) (by rintro v w' ⟨rfl, h⟩; exact ⟨rfl, h⟩)
  rintro w1 rfl
  refine CondP.mk ?_ ?_
  · intro h
    have h := of_decide_eq_true h
    have hb := below_alloc w (.cells (Value.cells (.func (.func 140) #[] #[])) 209)
    refine (containsT_spec a c xs _ (fun x => !thingOk x) _ (hr.on hb) (by omega) ?_).mono ?_
    · intro x hx w1 hB
      refine callG_of (by kernel_rfl) ?_
      refine notT_spec x w.heap.size (.func (.func 140) #[] #[]) thingOk w1 (Nat.lt_of_lt_of_le (by rw [alloc_size]; exact Nat.lt_succ_self _) hB.size) (by rw [hB.cell (by rw [alloc_size]; exact Nat.lt_succ_self _), cell_new]; rfl) ?_
      intro w2
      exact callG_of (by kernel_rfl) (spec_thing_spec x w2)
    · rintro e w2 ⟨rfl, h2⟩
      refine ⟨_, rfl, ?_, below_then hb h2⟩
      rw [not_any, allOk, decide_eq_true (show xs.length ≤ most by omega)]
      rfl
  · intro h
    have h := of_decide_eq_false h
    refine ⟨?_, below_alloc _ _⟩
    rw [allOk, decide_eq_false (show ¬ xs.length ≤ most by omega)]
    rfl
theorem indexS_spec (a : Option Addr) (c : Nat) (xs : List (Int × Bs)) (f : Value) (p : Int × Bs → Bool) (w : World) (hr : Rw encSpecial 2 w a xs) (hl : xs.length ≤ 1000000000000000)
    (hf : ∀ x ∈ xs, ∀ w1, Below w.heap.size w w1 → CallG ctx f [.agg #[.int .i64 x.1, .string (str x.2)]] w1 (fun e w2 => e = .returned (.bool (p x)) ∧ Below w1.heap.size w1 w2)) :
    Calls Tryz.prog 149 #[.slice a xs.length c, f] w fun e w' => e = .returned (.int .i64 (idx p xs)) ∧ Below w.heap.size w w' := by
  refine calls_ret (vc149_calls a xs.length c f w (fun v w' => v = .int .i64 (idx p xs) ∧ Below w.heap.size w w') ?_) (by rintro v w' ⟨rfl, h⟩; exact ⟨rfl, h⟩)
  intro I hI
  have key := climb (α := Int × World) xs.length (fun i x => (∀ j (hj : j < xs.length), j < i → p xs[j] = false) ∧ Below w.heap.size w x.2) (fun i x => I [.int .i64 (i : Int), .int .i64 x.1] x.2) ?_ ?_ 0 (Nat.zero_le _) (0, w)
  · exact key ⟨fun j _ hj => absurd hj (Nat.not_lt_zero j), Below.refl _ _⟩
  · rintro ⟨y, w1⟩ ⟨hb, hB⟩
    exact hI _ _ _ (CondP.no (by simp) ⟨by rw [idx_none fun j hj => hb j hj hj], hB⟩)
  · rintro i hi ih ⟨y, w1⟩ ⟨hb, hB⟩
    obtain ⟨q, hq, _, hcx⟩ := (hr.on hB) i _ (List.getElem?_eq_getElem hi)
    refine hI _ _ _ (CondP.yes (by simp; omega) (NilC.mk q hq ⟨by omega, by omega, xs[i].1, str xs[i].2, ⟨by have := hcx 0 _ rfl; simpa [add_zero] using this, by have := hcx 1 _ rfl; simpa using this, trivial⟩, ?_⟩))
    refine (hf xs[i] (List.getElem_mem hi) w1 hB).mono ?_
    rintro e w2 ⟨rfl, h2⟩
    refine ⟨_, rfl, CondP.mk ?_ ?_⟩
    · intro hp
      exact ⟨by rw [idx_some hi hp fun j hj => hb j (by omega) hj], below_then hB h2⟩
    · intro hp
      refine Ar.ok64 (by omega) (by omega) (ih (y, w2) ⟨?_, below_then hB h2⟩)
      intro j hj hji
      by_cases he : j = i
      · subst he; exact hp
      · exact hb j hj (by omega)
theorem containsS_spec (a : Option Addr) (c : Nat) (xs : List (Int × Bs)) (f : Value) (p : Int × Bs → Bool) (w : World) (hr : Rw encSpecial 2 w a xs) (hl : xs.length ≤ 1000000000000000)
    (hf : ∀ x ∈ xs, ∀ w1, Below w.heap.size w w1 → CallG ctx f [.agg #[.int .i64 x.1, .string (str x.2)]] w1 (fun e w2 => e = .returned (.bool (p x)) ∧ Below w1.heap.size w1 w2)) :
    Calls Tryz.prog 198 #[.slice a xs.length c, f] w fun e w' => e = .returned (.bool (xs.any p)) ∧ Below w.heap.size w w' := by
  refine calls_ret (vc198_calls a xs.length c f w (fun v w' => v = .bool (xs.any p) ∧ Below w.heap.size w w') ?_) (by rintro v w' ⟨rfl, h⟩; exact ⟨rfl, h⟩)
  refine (indexS_spec a c xs f p w hr hl hf).mono ?_
  rintro e w1 ⟨rfl, h1⟩
  exact ⟨_, rfl, by rw [idx_any], h1⟩
theorem notS_spec (x : Int × Bs) (cb : Nat) (may : Value) (p : Int × Bs → Bool) (w : World) (hcb : cb < w.heap.size) (hc : w.cell? ⟨cb, 0, none⟩ = some may) (hm : ∀ w1, CallG ctx may [.agg #[.int .i64 x.1, .string (str x.2)]] w1 (fun e w2 => e = .returned (.bool (p x)) ∧ Below w1.heap.size w1 w2)) :
    Calls Tryz.prog 199 #[.agg #[.int .i64 x.1, .string (str x.2)], .pointer (some ⟨cb, 0, none⟩)] w fun e w' => e = .returned (.bool (!p x)) ∧ Below w.heap.size w w' := by
  refine calls_ret (vc199_calls (x.1) (str x.2) (some ⟨cb, 0, none⟩) w (fun v w' => v = .bool (!p x) ∧ Below w.heap.size w w') ?_) (by rintro v w' ⟨rfl, h⟩; exact ⟨rfl, h⟩)
  rintro w1 rfl
  have hb := below_alloc w (.cells #[Value.int .i64 x.1, Value.string (str x.2)] 171)
  refine ⟨may, by rw [hb.cell hcb]; exact hc, x.1, str x.2, ⟨by rw [cell_new]; rfl, by rw [add_lit, cell_new]; rfl, trivial⟩, ?_⟩
  refine (hm _).mono ?_
  rintro e w2 ⟨rfl, h2⟩
  exact ⟨_, rfl, rfl, below_then hb h2⟩
theorem allS_spec (a : Option Addr) (c most : Nat) (xs : List (Int × Bs)) (w : World) (hr : Rw encSpecial 2 w a xs) (hm : most ≤ 1000000) :
    Calls Tryz.prog 141 #[.slice a xs.length c, .int .i64 most, .func (.func 142) #[] #[]] w fun e w' => e = .returned (.bool (allOk xs most specialOk)) ∧ Below w.heap.size w w' := by
  refine calls_ret (vc141_calls a xs.length c most (.func (.func 142) #[] #[]) w (fun v w' => v = .bool (allOk xs most specialOk) ∧ Below w.heap.size w w') ?_) (by rintro v w' ⟨rfl, h⟩; exact ⟨rfl, h⟩)
  rintro w1 rfl
  refine CondP.mk ?_ ?_
  · intro h
    have h := of_decide_eq_true h
    have hb := below_alloc w (.cells (Value.cells (.func (.func 142) #[] #[])) 211)
    refine (containsS_spec a c xs _ (fun x => !specialOk x) _ (hr.on hb) (by omega) ?_).mono ?_
    · intro x hx w1 hB
      refine callG_of (by kernel_rfl) ?_
      refine notS_spec x w.heap.size (.func (.func 142) #[] #[]) specialOk w1 (Nat.lt_of_lt_of_le (by rw [alloc_size]; exact Nat.lt_succ_self _) hB.size) (by rw [hB.cell (by rw [alloc_size]; exact Nat.lt_succ_self _), cell_new]; rfl) ?_
      intro w2
      exact callG_of (by kernel_rfl) (spec_special_spec x w2)
    · rintro e w2 ⟨rfl, h2⟩
      refine ⟨_, rfl, ?_, below_then hb h2⟩
      rw [not_any, allOk, decide_eq_true (show xs.length ≤ most by omega)]
      rfl
  · intro h
    have h := of_decide_eq_false h
    refine ⟨?_, below_alloc _ _⟩
    rw [allOk, decide_eq_false (show ¬ xs.length ≤ most by omega)]
    rfl
theorem indexC_spec (a : Option Addr) (c : Nat) (xs : List (Int × Int × Int)) (f : Value) (p : Int × Int × Int → Bool) (w : World) (hr : Rw encClass 3 w a xs) (hl : xs.length ≤ 1000000000000000)
    (hf : ∀ x ∈ xs, ∀ w1, Below w.heap.size w w1 → CallG ctx f [.agg #[.int .i64 x.1, .int .i64 x.2.1, .int .i64 x.2.2]] w1 (fun e w2 => e = .returned (.bool (p x)) ∧ Below w1.heap.size w1 w2)) :
    Calls Tryz.prog 237 #[.slice a xs.length c, f] w fun e w' => e = .returned (.int .i64 (idx p xs)) ∧ Below w.heap.size w w' := by
  refine calls_ret (vc237_calls a xs.length c f w (fun v w' => v = .int .i64 (idx p xs) ∧ Below w.heap.size w w') ?_) (by rintro v w' ⟨rfl, h⟩; exact ⟨rfl, h⟩)
  intro I hI
  have key := climb (α := Int × World) xs.length (fun i x => (∀ j (hj : j < xs.length), j < i → p xs[j] = false) ∧ Below w.heap.size w x.2) (fun i x => I [.int .i64 (i : Int), .int .i64 x.1] x.2) ?_ ?_ 0 (Nat.zero_le _) (0, w)
  · exact key ⟨fun j _ hj => absurd hj (Nat.not_lt_zero j), Below.refl _ _⟩
  · rintro ⟨y, w1⟩ ⟨hb, hB⟩
    exact hI _ _ _ (CondP.no (by simp) ⟨by rw [idx_none fun j hj => hb j hj hj], hB⟩)
  · rintro i hi ih ⟨y, w1⟩ ⟨hb, hB⟩
    obtain ⟨q, hq, _, hcx⟩ := (hr.on hB) i _ (List.getElem?_eq_getElem hi)
    refine hI _ _ _ (CondP.yes (by simp; omega) (NilC.mk q hq ⟨by omega, by omega, xs[i].1, xs[i].2.1, xs[i].2.2, ⟨by have := hcx 0 _ rfl; simpa [add_zero] using this, by have := hcx 1 _ rfl; simpa using this, by have := hcx 2 _ rfl; simpa using this, trivial⟩, ?_⟩))
    refine (hf xs[i] (List.getElem_mem hi) w1 hB).mono ?_
    rintro e w2 ⟨rfl, h2⟩
    refine ⟨_, rfl, CondP.mk ?_ ?_⟩
    · intro hp
      exact ⟨by rw [idx_some hi hp fun j hj => hb j (by omega) hj], below_then hB h2⟩
    · intro hp
      refine Ar.ok64 (by omega) (by omega) (ih (y, w2) ⟨?_, below_then hB h2⟩)
      intro j hj hji
      by_cases he : j = i
      · subst he; exact hp
      · exact hb j hj (by omega)
theorem containsC_spec (a : Option Addr) (c : Nat) (xs : List (Int × Int × Int)) (f : Value) (p : Int × Int × Int → Bool) (w : World) (hr : Rw encClass 3 w a xs) (hl : xs.length ≤ 1000000000000000)
    (hf : ∀ x ∈ xs, ∀ w1, Below w.heap.size w w1 → CallG ctx f [.agg #[.int .i64 x.1, .int .i64 x.2.1, .int .i64 x.2.2]] w1 (fun e w2 => e = .returned (.bool (p x)) ∧ Below w1.heap.size w1 w2)) :
    Calls Tryz.prog 200 #[.slice a xs.length c, f] w fun e w' => e = .returned (.bool (xs.any p)) ∧ Below w.heap.size w w' := by
  refine calls_ret (vc200_calls a xs.length c f w (fun v w' => v = .bool (xs.any p) ∧ Below w.heap.size w w') ?_) (by rintro v w' ⟨rfl, h⟩; exact ⟨rfl, h⟩)
  refine (indexC_spec a c xs f p w hr hl hf).mono ?_
  rintro e w1 ⟨rfl, h1⟩
  exact ⟨_, rfl, by rw [idx_any], h1⟩
theorem notC_spec (x : Int × Int × Int) (cb : Nat) (may : Value) (p : Int × Int × Int → Bool) (w : World) (hcb : cb < w.heap.size) (hc : w.cell? ⟨cb, 0, none⟩ = some may) (hm : ∀ w1, CallG ctx may [.agg #[.int .i64 x.1, .int .i64 x.2.1, .int .i64 x.2.2]] w1 (fun e w2 => e = .returned (.bool (p x)) ∧ Below w1.heap.size w1 w2)) :
    Calls Tryz.prog 201 #[.agg #[.int .i64 x.1, .int .i64 x.2.1, .int .i64 x.2.2], .pointer (some ⟨cb, 0, none⟩)] w fun e w' => e = .returned (.bool (!p x)) ∧ Below w.heap.size w w' := by
  refine calls_ret (vc201_calls (x.1) (x.2.1) (x.2.2) (some ⟨cb, 0, none⟩) w (fun v w' => v = .bool (!p x) ∧ Below w.heap.size w w') ?_) (by rintro v w' ⟨rfl, h⟩; exact ⟨rfl, h⟩)
  rintro w1 rfl
  have hb := below_alloc w (.cells #[Value.int .i64 x.1, Value.int .i64 x.2.1, Value.int .i64 x.2.2] 168)
  refine ⟨may, by rw [hb.cell hcb]; exact hc, x.1, x.2.1, x.2.2, ⟨by rw [cell_new]; rfl, by rw [add_lit, cell_new]; rfl, by rw [add_lit, cell_new]; rfl, trivial⟩, ?_⟩
  refine (hm _).mono ?_
  rintro e w2 ⟨rfl, h2⟩
  exact ⟨_, rfl, rfl, below_then hb h2⟩
theorem allC_spec (a : Option Addr) (c most : Nat) (xs : List (Int × Int × Int)) (w : World) (hr : Rw encClass 3 w a xs) (hm : most ≤ 1000000) :
    Calls Tryz.prog 143 #[.slice a xs.length c, .int .i64 most, .func (.func 144) #[] #[]] w fun e w' => e = .returned (.bool (allOk xs most classOk)) ∧ Below w.heap.size w w' := by
  refine calls_ret (vc143_calls a xs.length c most (.func (.func 144) #[] #[]) w (fun v w' => v = .bool (allOk xs most classOk) ∧ Below w.heap.size w w') ?_) (by rintro v w' ⟨rfl, h⟩; exact ⟨rfl, h⟩)
  rintro w1 rfl
  refine CondP.mk ?_ ?_
  · intro h
    have h := of_decide_eq_true h
    have hb := below_alloc w (.cells (Value.cells (.func (.func 144) #[] #[])) 213)
    refine (containsC_spec a c xs _ (fun x => !classOk x) _ (hr.on hb) (by omega) ?_).mono ?_
    · intro x hx w1 hB
      refine callG_of (by kernel_rfl) ?_
      refine notC_spec x w.heap.size (.func (.func 144) #[] #[]) classOk w1 (Nat.lt_of_lt_of_le (by rw [alloc_size]; exact Nat.lt_succ_self _) hB.size) (by rw [hB.cell (by rw [alloc_size]; exact Nat.lt_succ_self _), cell_new]; rfl) ?_
      intro w2
      exact callG_of (by kernel_rfl) (spec_class_spec x w2)
    · rintro e w2 ⟨rfl, h2⟩
      refine ⟨_, rfl, ?_, below_then hb h2⟩
      rw [not_any, allOk, decide_eq_true (show xs.length ≤ most by omega)]
      rfl
  · intro h
    have h := of_decide_eq_false h
    refine ⟨?_, below_alloc _ _⟩
    rw [allOk, decide_eq_false (show ¬ xs.length ≤ most by omega)]
    rfl
theorem indexJ_spec (a : Option Addr) (c : Nat) (xs : List (Int × Int)) (f : Value) (p : Int × Int → Bool) (w : World) (hr : Rw encPair 2 w a xs) (hl : xs.length ≤ 1000000000000000)
    (hf : ∀ x ∈ xs, ∀ w1, Below w.heap.size w w1 → CallG ctx f [.agg #[.int .i64 x.1, .int .i64 x.2]] w1 (fun e w2 => e = .returned (.bool (p x)) ∧ Below w1.heap.size w1 w2)) :
    Calls Tryz.prog 238 #[.slice a xs.length c, f] w fun e w' => e = .returned (.int .i64 (idx p xs)) ∧ Below w.heap.size w w' := by
  refine calls_ret (vc238_calls a xs.length c f w (fun v w' => v = .int .i64 (idx p xs) ∧ Below w.heap.size w w') ?_) (by rintro v w' ⟨rfl, h⟩; exact ⟨rfl, h⟩)
  intro I hI
  have key := climb (α := Int × World) xs.length (fun i x => (∀ j (hj : j < xs.length), j < i → p xs[j] = false) ∧ Below w.heap.size w x.2) (fun i x => I [.int .i64 (i : Int), .int .i64 x.1] x.2) ?_ ?_ 0 (Nat.zero_le _) (0, w)
  · exact key ⟨fun j _ hj => absurd hj (Nat.not_lt_zero j), Below.refl _ _⟩
  · rintro ⟨y, w1⟩ ⟨hb, hB⟩
    exact hI _ _ _ (CondP.no (by simp) ⟨by rw [idx_none fun j hj => hb j hj hj], hB⟩)
  · rintro i hi ih ⟨y, w1⟩ ⟨hb, hB⟩
    obtain ⟨q, hq, _, hcx⟩ := (hr.on hB) i _ (List.getElem?_eq_getElem hi)
    refine hI _ _ _ (CondP.yes (by simp; omega) (NilC.mk q hq ⟨by omega, by omega, xs[i].1, xs[i].2, ⟨by have := hcx 0 _ rfl; simpa [add_zero] using this, by have := hcx 1 _ rfl; simpa using this, trivial⟩, ?_⟩))
    refine (hf xs[i] (List.getElem_mem hi) w1 hB).mono ?_
    rintro e w2 ⟨rfl, h2⟩
    refine ⟨_, rfl, CondP.mk ?_ ?_⟩
    · intro hp
      exact ⟨by rw [idx_some hi hp fun j hj => hb j (by omega) hj], below_then hB h2⟩
    · intro hp
      refine Ar.ok64 (by omega) (by omega) (ih (y, w2) ⟨?_, below_then hB h2⟩)
      intro j hj hji
      by_cases he : j = i
      · subst he; exact hp
      · exact hb j hj (by omega)
theorem containsJ_spec (a : Option Addr) (c : Nat) (xs : List (Int × Int)) (f : Value) (p : Int × Int → Bool) (w : World) (hr : Rw encPair 2 w a xs) (hl : xs.length ≤ 1000000000000000)
    (hf : ∀ x ∈ xs, ∀ w1, Below w.heap.size w w1 → CallG ctx f [.agg #[.int .i64 x.1, .int .i64 x.2]] w1 (fun e w2 => e = .returned (.bool (p x)) ∧ Below w1.heap.size w1 w2)) :
    Calls Tryz.prog 202 #[.slice a xs.length c, f] w fun e w' => e = .returned (.bool (xs.any p)) ∧ Below w.heap.size w w' := by
  refine calls_ret (vc202_calls a xs.length c f w (fun v w' => v = .bool (xs.any p) ∧ Below w.heap.size w w') ?_) (by rintro v w' ⟨rfl, h⟩; exact ⟨rfl, h⟩)
  refine (indexJ_spec a c xs f p w hr hl hf).mono ?_
  rintro e w1 ⟨rfl, h1⟩
  exact ⟨_, rfl, by rw [idx_any], h1⟩
theorem notJ_spec (x : Int × Int) (cb : Nat) (may : Value) (p : Int × Int → Bool) (w : World) (hcb : cb < w.heap.size) (hc : w.cell? ⟨cb, 0, none⟩ = some may) (hm : ∀ w1, CallG ctx may [.agg #[.int .i64 x.1, .int .i64 x.2]] w1 (fun e w2 => e = .returned (.bool (p x)) ∧ Below w1.heap.size w1 w2)) :
    Calls Tryz.prog 203 #[.agg #[.int .i64 x.1, .int .i64 x.2], .pointer (some ⟨cb, 0, none⟩)] w fun e w' => e = .returned (.bool (!p x)) ∧ Below w.heap.size w w' := by
  refine calls_ret (vc203_calls (x.1) (x.2) (some ⟨cb, 0, none⟩) w (fun v w' => v = .bool (!p x) ∧ Below w.heap.size w w') ?_) (by rintro v w' ⟨rfl, h⟩; exact ⟨rfl, h⟩)
  rintro w1 rfl
  have hb := below_alloc w (.cells #[Value.int .i64 x.1, Value.int .i64 x.2] 169)
  refine ⟨may, by rw [hb.cell hcb]; exact hc, x.1, x.2, ⟨by rw [cell_new]; rfl, by rw [add_lit, cell_new]; rfl, trivial⟩, ?_⟩
  refine (hm _).mono ?_
  rintro e w2 ⟨rfl, h2⟩
  exact ⟨_, rfl, rfl, below_then hb h2⟩
theorem allJ_spec (a : Option Addr) (c most : Nat) (xs : List (Int × Int)) (w : World) (hr : Rw encPair 2 w a xs) (hm : most ≤ 1000000) :
    Calls Tryz.prog 145 #[.slice a xs.length c, .int .i64 most, .func (.func 146) #[] #[]] w fun e w' => e = .returned (.bool (allOk xs most joinOk)) ∧ Below w.heap.size w w' := by
  refine calls_ret (vc145_calls a xs.length c most (.func (.func 146) #[] #[]) w (fun v w' => v = .bool (allOk xs most joinOk) ∧ Below w.heap.size w w') ?_) (by rintro v w' ⟨rfl, h⟩; exact ⟨rfl, h⟩)
  rintro w1 rfl
  refine CondP.mk ?_ ?_
  · intro h
    have h := of_decide_eq_true h
    have hb := below_alloc w (.cells (Value.cells (.func (.func 146) #[] #[])) 215)
    refine (containsJ_spec a c xs _ (fun x => !joinOk x) _ (hr.on hb) (by omega) ?_).mono ?_
    · intro x hx w1 hB
      refine callG_of (by kernel_rfl) ?_
      refine notJ_spec x w.heap.size (.func (.func 146) #[] #[]) joinOk w1 (Nat.lt_of_lt_of_le (by rw [alloc_size]; exact Nat.lt_succ_self _) hB.size) (by rw [hB.cell (by rw [alloc_size]; exact Nat.lt_succ_self _), cell_new]; rfl) ?_
      intro w2
      exact callG_of (by kernel_rfl) (spec_join_spec x w2)
    · rintro e w2 ⟨rfl, h2⟩
      refine ⟨_, rfl, ?_, below_then hb h2⟩
      rw [not_any, allOk, decide_eq_true (show xs.length ≤ most by omega)]
      rfl
  · intro h
    have h := of_decide_eq_false h
    refine ⟨?_, below_alloc _ _⟩
    rw [allOk, decide_eq_false (show ¬ xs.length ≤ most by omega)]
    rfl
/-- A spec's words in memory. -/
structure SpecW where
  ranked : Bool
  s1 : Sl
  s2 : Sl
  s3 : Sl
  s4 : Sl
  s5 : Sl
abbrev SpecW.cells (x : SpecW) : Array Value := #[.bool x.ranked, x.s1.v, x.s2.v, x.s3.v, x.s4.v, x.s5.v]
abbrev SpecW.v (x : SpecW) : Value := .agg x.cells
/-- They hold a spec. -/
structure SpecAt (w : World) (x : SpecW) (s : SpecV) : Prop where
  ranked : x.ranked = s.ranked
  n1 : x.s1.n = s.merges.length
  r1 : Rw encPair 2 w x.s1.a s.merges
  n2 : x.s2.n = s.tokens.length
  r2 : Rw encStr 1 w x.s2.a s.tokens
  n3 : x.s3.n = s.specials.length
  r3 : Rw encSpecial 2 w x.s3.a s.specials
  n4 : x.s4.n = s.classes.length
  r4 : Rw encClass 3 w x.s4.a s.classes
  n5 : x.s5.n = s.joins.length
  r5 : Rw encPair 2 w x.s5.a s.joins
theorem SpecAt.on {w w' : World} {x : SpecW} {s : SpecV} (h : SpecAt w x s) (hb : Below w.heap.size w w') : SpecAt w' x s :=
  ⟨h.ranked, h.n1, h.r1.on hb, h.n2, h.r2.on hb, h.n3, h.r3.on hb, h.n4, h.r4.on hb, h.n5, h.r5.on hb⟩
theorem cell_kept {w w1 : World} {c : Array Value} {e : TypeId} {j : Nat} (h : Below (w.alloc (.cells c e)).heap.size (w.alloc (.cells c e)) w1) : w1.cell? ⟨w.heap.size, j, none⟩ = c[j]? := by
  rw [h.cell (by rw [alloc_size]; exact Nat.lt_succ_self _), cell_new]
theorem Right_spec (x : SpecW) (s : SpecV) (w : World) (h : SpecAt w x s) :
    Calls Tryz.prog 105 #[x.v] w fun e w' => e = .returned (.bool s.right) ∧ Below w.heap.size w w' := by
  refine calls_ret (vc105_calls x.ranked x.s1.a x.s1.n x.s1.c x.s2.a x.s2.n x.s2.c x.s3.a x.s3.n x.s3.c x.s4.a x.s4.n x.s4.c x.s5.a x.s5.n x.s5.c w (fun v w' => v = .bool s.right ∧ Below w.heap.size w w') ?_) (by rintro v w' ⟨rfl, h⟩; exact ⟨rfl, h⟩)
  rintro w1 rfl
  have hb := below_alloc w (.cells x.cells 100)
  have h1 := h.on hb
  have c0 : ∀ j, (w.alloc (.cells x.cells 100)).cell? ((nb w).add j) = x.cells[j]? := fun j => by rw [add_lit, Nat.zero_add, cell_new]
  have rest : (if s.ranked then s.merges.isEmpty else s.tokens.isEmpty) = true → ∀ (b1 : Bool), b1 = allOk s.merges 744 mergeOk → ∀ w2, Below (w.alloc (.cells x.cells 100)).heap.size (w.alloc (.cells x.cells 100)) w2 →
      CondP b1
        (∃ lA : Option Addr, ∃ lN : Nat, ∃ lC : Nat, w2.cell? ((nb w).add 2) = some (Value.slice lA lN lC) ∧
          Calls Tryz.prog 139 #[Value.slice lA lN lC, Value.int .i64 744, Value.func (.func 140) #[] #[]] w2 (fun e3 w3 =>
            ∃ b_12 : Bool, e3 = .returned (Value.bool b_12) ∧
            CondP b_12
              (∃ lA : Option Addr, ∃ lN : Nat, ∃ lC : Nat, w3.cell? ((nb w).add 3) = some (Value.slice lA lN lC) ∧
                Calls Tryz.prog 141 #[Value.slice lA lN lC, Value.int .i64 32, Value.func (.func 142) #[] #[]] w3 (fun e4 w4 =>
                  ∃ b_16 : Bool, e4 = .returned (Value.bool b_16) ∧
                  CondP b_16
                    (∃ lA : Option Addr, ∃ lN : Nat, ∃ lC : Nat, w4.cell? ((nb w).add 4) = some (Value.slice lA lN lC) ∧
                      Calls Tryz.prog 143 #[Value.slice lA lN lC, Value.int .i64 64, Value.func (.func 144) #[] #[]] w4 (fun e5 w5 =>
                        ∃ b_20 : Bool, e5 = .returned (Value.bool b_20) ∧
                        CondP b_20
                          (∃ lA : Option Addr, ∃ lN : Nat, ∃ lC : Nat, w5.cell? ((nb w).add 5) = some (Value.slice lA lN lC) ∧
                            Calls Tryz.prog 145 #[Value.slice lA lN lC, Value.int .i64 64, Value.func (.func 146) #[] #[]] w5 (fun e6 w6 =>
                              ∃ b_24 : Bool, e6 = .returned (Value.bool b_24) ∧ (Value.bool b_24 = .bool s.right ∧ Below w.heap.size w w6)))
                          (Value.bool false = .bool s.right ∧ Below w.heap.size w w5)))
                    (Value.bool false = .bool s.right ∧ Below w.heap.size w w4)))
              (Value.bool false = .bool s.right ∧ Below w.heap.size w w3)))
        (Value.bool false = .bool s.right ∧ Below w.heap.size w w2) := by
    intro hr0 b1 hb1 w2 hB
    have c2 : ∀ {w3 : World} (j : Nat), Below (w.alloc (.cells x.cells 100)).heap.size (w.alloc (.cells x.cells 100)) w3 → w3.cell? ((nb w).add j) = x.cells[j]? := fun j hB => by rw [add_lit, Nat.zero_add, cell_kept hB]
    have off : ∀ {w3 : World}, s.right = false → Below (w.alloc (.cells x.cells 100)).heap.size (w.alloc (.cells x.cells 100)) w3 → (Value.bool false = .bool s.right ∧ Below w.heap.size w w3) := fun e hB => ⟨by rw [e], below_then hb hB⟩
    refine CondP.mk ?_ fun e => off (by unfold SpecV.right; rw [← hb1, e]; simp) hB
    intro e1
    refine ⟨_, _, _, c2 2 hB, ?_⟩
    rw [h.n2]
    refine (allT_spec x.s2.a x.s2.c 744 s.tokens w2 (h1.r2.on hB) (by omega)).mono ?_
    rintro e w3 ⟨rfl, h3⟩
    have hB3 := below_then hB h3
    refine ⟨_, rfl, CondP.mk ?_ fun e => off (by unfold SpecV.right; rw [e]; simp) hB3⟩
    intro e2
    refine ⟨_, _, _, c2 3 hB3, ?_⟩
    rw [h.n3]
    refine (allS_spec x.s3.a x.s3.c 32 s.specials w3 (h1.r3.on hB3) (by omega)).mono ?_
    rintro e w4 ⟨rfl, h4⟩
    have hB4 := below_then hB3 h4
    refine ⟨_, rfl, CondP.mk ?_ fun e => off (by unfold SpecV.right; rw [e]; simp) hB4⟩
    intro e3
    refine ⟨_, _, _, c2 4 hB4, ?_⟩
    rw [h.n4]
    refine (allC_spec x.s4.a x.s4.c 64 s.classes w4 (h1.r4.on hB4) (by omega)).mono ?_
    rintro e w5 ⟨rfl, h5⟩
    have hB5 := below_then hB4 h5
    refine ⟨_, rfl, CondP.mk ?_ fun e => off (by unfold SpecV.right; rw [e]; simp) hB5⟩
    intro e4
    refine ⟨_, _, _, c2 5 hB5, ?_⟩
    rw [h.n5]
    refine (allJ_spec x.s5.a x.s5.c 64 s.joins w5 (h1.r5.on hB5) (by omega)).mono ?_
    rintro e w6 ⟨rfl, h6⟩
    refine ⟨_, rfl, ?_, below_then hb (below_then hB5 h6)⟩
    congr 1
    unfold SpecV.right
    rw [hr0, ← hb1, e1, e2, e3, e4]
    rfl
  refine ⟨_, c0 0, CondP.mk ?_ ?_⟩
  · intro hrk
    have hrk : s.ranked = true := by rw [← h.ranked]; exact hrk
    refine ⟨_, _, _, c0 1, CondP.mk ?_ ?_⟩
    · intro hm
      have hm := of_decide_eq_true hm
      refine ⟨?_, hb⟩
      congr 1
      unfold SpecV.right
      have : s.merges.isEmpty = false := by cases hh : s.merges with | nil => rw [h.n1, hh] at hm; simp at hm | cons _ _ => rfl
      rw [if_pos hrk, this]; rfl
    · intro hm
      have hm := of_decide_eq_false hm
      have hme : s.merges = [] := List.eq_nil_of_length_eq_zero (by rw [h.n1] at hm; omega)
      refine ⟨_, c0 0, CondP.no (by rw [h.ranked, hrk]; rfl) ?_⟩
      refine ⟨_, _, _, c0 1, ?_⟩
      have hall := allM_spec x.s1.a x.s1.c 744 s.merges _ h1.r1 (by omega)
      rw [← h.n1] at hall
      refine hall.mono ?_
      rintro e w2 ⟨rfl, h2⟩
      exact ⟨_, rfl, rest (by rw [if_pos hrk, hme]; rfl) _ rfl w2 h2⟩
  · intro hrk
    have hrk : s.ranked = false := by rw [← h.ranked]; exact hrk
    refine ⟨_, c0 0, CondP.yes (by rw [h.ranked, hrk]; rfl) ?_⟩
    refine ⟨_, _, _, c0 2, CondP.mk ?_ ?_⟩
    · intro hm
      have hm := of_decide_eq_true hm
      refine ⟨?_, hb⟩
      congr 1
      unfold SpecV.right
      have : s.tokens.isEmpty = false := by cases hh : s.tokens with | nil => rw [h.n2, hh] at hm; simp at hm | cons _ _ => rfl
      rw [if_neg (by rw [hrk]; simp), this]; rfl
    · intro hm
      have hm := of_decide_eq_false hm
      have hme : s.tokens = [] := List.eq_nil_of_length_eq_zero (by rw [h.n2] at hm; omega)
      refine ⟨_, _, _, c0 1, ?_⟩
      have hall := allM_spec x.s1.a x.s1.c 744 s.merges _ h1.r1 (by omega)
      rw [← h.n1] at hall
      refine hall.mono ?_
      rintro e w2 ⟨rfl, h2⟩
      exact ⟨_, rfl, rest (by rw [if_neg (by rw [hrk]; simp), hme]; rfl) _ rfl w2 h2⟩
/-- A loop that counts up to n: what holds first, one round, what is behind it. -/
theorem climb2 {α : Type} (n : Nat) (Inv G : Nat → α → Prop) (x0 : α) (h0 : Inv 0 x0) (step : ∀ i, i < n → (∀ x, Inv (i + 1) x → G (i + 1) x) → ∀ x, Inv i x → G i x) (last : ∀ x, Inv n x → G n x) : G 0 x0 :=
  climb n Inv G last step 0 (Nat.zero_le _) x0 h0
theorem heap_put {w : World} {b j : Nat} {c : Array Value} {e : TypeId} (h : w.heap[b]? = some (.cells c e (0, 0))) (v : Value) : (w.setCell ((⟨b, 0, none⟩ : Addr).add j) v).heap[b]? = some (.cells (c.setIfInBounds j v) e (0, 0)) := by
  rw [add_lit, Nat.zero_add]
  exact setCell_heap h v
theorem cell_put {w : World} {b j : Nat} {c : Array Value} {e : TypeId} (h : w.heap[b]? = some (.cells c e (0, 0))) : w.cell? ((⟨b, 0, none⟩ : Addr).add j) = c[j]? := by
  rw [add_lit, Nat.zero_add]
  exact cell_heap h
theorem frozen_put {w : World} {b j : Nat} {c : Array Value} {e : TypeId} (h : w.heap[b]? = some (.cells c e (0, 0))) : w.frozen? ((⟨b, 0, none⟩ : Addr).add j) = false := by
  rw [add_lit, Nat.zero_add]
  exact frozen_heap h
theorem below_put {B : Nat} {w w' : World} {b j : Nat} (h : Below B w w') (hb : B ≤ b) (v : Value) : Below B w (w'.setCell ((⟨b, 0, none⟩ : Addr).add j) v) := by
  rw [add_lit, Nat.zero_add]
  exact h.setCell (p := ⟨b, 0 + j, none⟩) hb v |> (by simpa using ·)
theorem allOk_len {α : Type} {l : List α} {most : Nat} {may : α → Bool} (h : allOk l most may = true) : l.length ≤ most := by
  unfold allOk at h
  rw [Bool.and_eq_true] at h
  exact of_decide_eq_true h.1
theorem flatMap_get {α : Type} {enc : α → List Value} {sz : Nat} (hsz : ∀ x, (enc x).length = sz) : ∀ (xs : List α) (j : Nat) (x : α), xs[j]? = some x → ∀ k, k < sz → (xs.flatMap enc)[j * sz + k]? = (enc x)[k]?
  | [], j, x, h, k, hk => by simp at h
  | y :: ys, 0, x, h, k, hk => by
    simp at h
    subst h
    rw [List.flatMap_cons, List.getElem?_append_left (by rw [hsz]; omega)]
    congr 1
    omega
  | y :: ys, j + 1, x, h, k, hk => by
    simp at h
    rw [List.flatMap_cons, List.getElem?_append_right (by rw [hsz, Nat.succ_mul]; omega), hsz, ← flatMap_get hsz ys j x h k hk]
    congr 1
    rw [Nat.succ_mul]
    omega
theorem flatMap_length {α : Type} {enc : α → List Value} {sz : Nat} (hsz : ∀ x, (enc x).length = sz) (xs : List α) : (xs.flatMap enc).length = xs.length * sz := by
  induction xs with
  | nil => simp
  | cons x xs ih => rw [List.flatMap_cons, List.length_append, ih, hsz, List.length_cons, Nat.succ_mul]; omega
theorem Rw.of_own {α : Type} {enc : α → List Value} {sz : Nat} {w : World} {B : Nat} {e : TypeId} {s : Sl} {xs : List α} (h : w.ownsRow B e sz s.v s.n (xs.flatMap enc)) (hsz : ∀ x, (enc x).length = sz) (h0 : 0 < sz) : Rw enc sz w s.a xs ∧ s.n = xs.length := by
  have hn := h.1
  rw [flatMap_length hsz] at hn
  have hn : s.n = xs.length := (Nat.eq_of_mul_eq_mul_right h0 hn).symm
  refine ⟨?_, hn⟩
  intro j x hj
  have hjl := (List.getElem?_eq_some_iff.1 hj).1
  rcases h.2 with ⟨h1, h2⟩ | ⟨g, cap, cur, h1, h2, h3, h4, h5, h6, h7⟩
  · omega
  · obtain ⟨sa, sn, sc⟩ := s
    cases h1
    refine ⟨_, rfl, (Array.getElem?_eq_some_iff.1 h3).1, ?_⟩
    intro k v hk
    have hkl : k < sz := by rw [← hsz x]; exact (List.getElem?_eq_some_iff.1 hk).1
    rw [add_lit, add_lit, Nat.zero_add, cell_heap h3]
    have h8 := flatMap_get hsz xs j x hj k hkl
    have hb : j * sz + k < sn * sz := by
      have : (j + 1) * sz ≤ sn * sz := Nat.mul_le_mul_right _ (by simp at hn; omega)
      rw [Nat.succ_mul] at this
      omega
    rw [hk, ← h7, List.getElem?_take_of_lt hb] at h8
    simpa using h8
def encInt (n : Int) : List Value := [.int .i64 n]
abbrev tInt : TypeId := 3
abbrev tInts : TypeId := 28
theorem undInts : Tryz.prog.underlying tInts = some (.slice tInt) := by kernel_rfl
theorem infoInt : (Tryz.prog.info? tInt).map (fun i => (i.zero, i.size, i.bytes)) = some (some (.int .i64 0), 1, 8) := by kernel_rfl
abbrev tMg : TypeId := 98
abbrev tSp : TypeId := 171
abbrev tCl : TypeId := 168
abbrev tJn : TypeId := 169
theorem undMgs : Tryz.prog.underlying 33 = some (.slice tMg) := by kernel_rfl
theorem undSps : Tryz.prog.underlying 25 = some (.slice tSp) := by kernel_rfl
theorem undCls : Tryz.prog.underlying 23 = some (.slice tCl) := by kernel_rfl
theorem undJns : Tryz.prog.underlying 24 = some (.slice tJn) := by kernel_rfl
theorem infoMg : (Tryz.prog.info? tMg).map (fun i => (i.zero, i.size, i.bytes)) = some (some (.agg #[.int .i64 0, .int .i64 0]), 2, 16) := by kernel_rfl
theorem infoSp : (Tryz.prog.info? tSp).map (fun i => (i.zero, i.size, i.bytes)) = some (some (.agg #[.int .i64 0, .string ⟨#[]⟩]), 2, 24) := by kernel_rfl
theorem infoCl : (Tryz.prog.info? tCl).map (fun i => (i.zero, i.size, i.bytes)) = some (some (.agg #[.int .i64 0, .int .i64 0, .int .i64 0]), 3, 24) := by kernel_rfl
theorem infoJn : (Tryz.prog.info? tJn).map (fun i => (i.zero, i.size, i.bytes)) = some (some (.agg #[.int .i64 0, .int .i64 0]), 2, 16) := by kernel_rfl
def SmallS (s : SpecV) : Prop := s.merges.length ≤ 1000000 ∧ s.tokens.length ≤ 1000000 ∧ s.specials.length ≤ 1000000 ∧ s.classes.length ≤ 1000000 ∧ s.joins.length ≤ 1000000
theorem right_small {s : SpecV} (h : s.right = true) : SmallS s := by
  obtain ⟨_, p1, p2, p3, p4, p5⟩ := right_parts h
  have l1 := allOk_len p1
  have l2 := allOk_len p2
  have l3 := allOk_len p3
  have l4 := allOk_len p4
  have l5 := allOk_len p5
  exact ⟨by omega, by omega, by omega, by omega, by omega⟩
abbrev tSpec : TypeId := 100
abbrev sl0 : Sl := ⟨none, 0, 0⟩
abbrev zeroX : SpecW := ⟨false, sl0, sl0, sl0, sl0, sl0⟩
theorem Rw.at {α : Type} {enc : α → List Value} {sz : Nat} {w : World} {a : Option Addr} {xs : List α} (h : Rw enc sz w a xs) {p : Addr} (hp : a = some p) {j : Nat} {x : α} (hj : xs[j]? = some x) (k : Nat) (v : Value) (hk : (enc x)[k]? = some v) : w.cell? ((p.add (j * sz)).add k) = some v := by
  obtain ⟨q, hq, _, hc⟩ := h j x hj
  rw [hp] at hq
  cases hq
  exact hc k v hk
/-- A spec's words are stored, read again, and handed on. -/
theorem ret_specK {w w6 : World} {c : Array Value} {T : TypeId} (K : SpecW → World → Prop) (x : SpecW) (hblk : w6.heap[w.heap.size]? = some (.cells c T (0, 0))) (hc : c.size = 6)
    (hR : ∀ w7, (∀ w0, Below w.heap.size w0 w6 → Below w.heap.size w0 w7) → (∀ j, j ≠ w.heap.size → w7.heap[j]? = w6.heap[j]?) → K x w7) :
    StoreP w6 (nb w) (fun w7 =>
      ∃ res0 : Bool, ∃ res1A : Option Addr, ∃ res1N : Nat, ∃ res1C : Nat, ∃ res2A : Option Addr, ∃ res2N : Nat, ∃ res2C : Nat, ∃ res3A : Option Addr, ∃ res3N : Nat, ∃ res3C : Nat, ∃ res4A : Option Addr, ∃ res4N : Nat, ∃ res4C : Nat, ∃ res5A : Option Addr, ∃ res5N : Nat, ∃ res5C : Nat, (w7.cell? (nb w) = some (Value.bool res0) ∧ w7.cell? ((nb w).add 1) = some (Value.slice res1A res1N res1C) ∧ w7.cell? ((nb w).add 2) = some (Value.slice res2A res2N res2C) ∧ w7.cell? ((nb w).add 3) = some (Value.slice res3A res3N res3C) ∧ w7.cell? ((nb w).add 4) = some (Value.slice res4A res4N res4C) ∧ w7.cell? ((nb w).add 5) = some (Value.slice res5A res5N res5C) ∧ True) ∧
      K ⟨res0, ⟨res1A, res1N, res1C⟩, ⟨res2A, res2N, res2C⟩, ⟨res3A, res3N, res3C⟩, ⟨res4A, res4N, res4C⟩, ⟨res5A, res5N, res5C⟩⟩ w7)
      [Value.bool x.ranked, Value.slice x.s1.a x.s1.n x.s1.c, Value.slice x.s2.a x.s2.n x.s2.c, Value.slice x.s3.a x.s3.n x.s3.c, Value.slice x.s4.a x.s4.n x.s4.c, Value.slice x.s5.a x.s5.n x.s5.c] 0 := by
  refine storeP_block _ 0 w6 c 0 hblk (by simp [hc]) (by intro v hv; simp at hv; rcases hv with rfl | rfl | rfl | rfl | rfl | rfl <;> rfl) ?_
  intro w7 h7 hne hsz hB
  have h7' : w7.heap[w.heap.size]? = some (.cells x.cells T (0, 0)) := by
    rw [h7]
    congr 2
    simp [layAt, hc]
  have c0 : w7.cell? (nb w) = some (Value.bool x.ranked) := by have := cell_put (j := 0) h7'; rw [add_zero] at this; exact this.trans rfl
  exact ⟨x.ranked, _, _, _, _, _, _, _, _, _, _, _, _, _, _, _, ⟨c0, (cell_put (j := 1) h7').trans rfl, (cell_put (j := 2) h7').trans rfl, (cell_put (j := 3) h7').trans rfl, (cell_put (j := 4) h7').trans rfl, (cell_put (j := 5) h7').trans rfl, trivial⟩, hR w7 (fun w0 h => hB _ w0 (Nat.le_refl _) h) hne⟩
theorem Rw.flat {α : Type} {enc : α → List Value} {sz : Nat} {w : World} {p : Addr} {xs : List α} (h : Rw enc sz w (some p) xs) (hsz : ∀ x, (enc x).length = sz) (h0 : 0 < sz) (i : Nat) (u : Value) (hi : (xs.flatMap enc)[i]? = some u) : w.cell? (p.add i) = some u := by
  have hlt := (List.getElem?_eq_some_iff.1 hi).1
  rw [flatMap_length hsz] at hlt
  have hj : i / sz < xs.length := Nat.div_lt_of_lt_mul (by rw [Nat.mul_comm]; exact hlt)
  have hk : i % sz < sz := Nat.mod_lt _ h0
  have hsplit : i / sz * sz + i % sz = i := by rw [Nat.mul_comm]; exact Nat.div_add_mod i sz
  have hg := flatMap_get hsz xs (i / sz) _ (List.getElem?_eq_getElem hj) (i % sz) hk
  rw [hsplit, hi] at hg
  have := h.at rfl (List.getElem?_eq_getElem hj) (i % sz) u hg.symm
  rw [Addr.add_add, hsplit] at this
  exact this
/-- A row, copied into one of its own: 'append([]T{}, xs...)'. -/
theorem copy_row {α : Type} {enc : α → List Value} {sz : Nat} (hsz : ∀ x, (enc x).length = sz) (h0 : 0 < sz) (h1 : ∀ x, ∀ u ∈ enc x, u.oneCell' = true) (t e : TypeId) {z : Value} {bytes : Nat} (ht : Tryz.prog.underlying t = some (.slice e)) (hi : (Tryz.prog.info? e).map (fun i => (i.zero, i.size, i.bytes)) = some (some z, sz, bytes)) (hzs : z.cells.size = sz)
    (w8 : World) (src : Sl) (xs : List α) (hsrc : SlOk src) (hr : Rw enc sz w8 src.a xs) (hn : src.n = xs.length) (hb : src.n * bytes ≤ 140737488355328) (hN : src.n ≤ 140737488355328) : ∀ w18, w18 = w8.alloc (.cells #[] e) →
    ∃ A C w19, (Builtin.append_ #[t, t] t #[.slice (some (nb w8)) 0 0, src.v]).run Tryz.prog w18 = .ok (.slice A src.n C) w19 ∧ w19.ownsRow w8.heap.size e sz (.slice A src.n C) src.n (xs.flatMap enc) ∧ Below w8.heap.size w8 w19 := by
  rintro w18 rfl
  have hB := below_alloc w8 (.cells #[] e)
  have hown : (w8.alloc (.cells #[] e)).ownsRow w8.heap.size e sz (.slice (some (nb w8)) 0 0) 0 [] := ⟨by simp, .inr ⟨w8.heap.size, 0, _, rfl, Nat.le_refl _, alloc_new w8 _, Nat.le_refl _, by decide, by simp, by simp⟩⟩
  obtain ⟨A, C, w19, h2, h3, h4, _⟩ := run_spread (P := Tryz.prog) t e ht hi hzs h0 hown src hsrc (xs.flatMap enc) (by rw [flatMap_length hsz, hn]) (by
    intro a ha j u hj
    have hr' := hr.on hB
    rw [ha] at hr'
    exact hr'.flat hsz h0 j u hj) (by
    intro u hu
    obtain ⟨x, _, hx⟩ := List.mem_flatMap.1 hu
    exact h1 x u hx) (by rw [Nat.zero_add]; exact hb) (by rw [Nat.zero_add]; exact hN) hB.size
  rw [Nat.zero_add] at h2 h3
  exact ⟨A, C, w19, h2, h3, h4 w8 hB⟩
theorem agg_cells {w : World} {b : Nat} {x : SpecW} {T : TypeId} {fz : Nat × Nat} (h : w.heap[b]? = some (.cells x.cells T fz)) :
    w.cell? ⟨b, 0, none⟩ = some (Value.bool x.ranked) ∧ w.cell? ((⟨b, 0, none⟩ : Addr).add 1) = some x.s1.v ∧ w.cell? ((⟨b, 0, none⟩ : Addr).add 2) = some x.s2.v ∧ w.cell? ((⟨b, 0, none⟩ : Addr).add 3) = some x.s3.v ∧ w.cell? ((⟨b, 0, none⟩ : Addr).add 4) = some x.s4.v ∧ w.cell? ((⟨b, 0, none⟩ : Addr).add 5) = some x.s5.v ∧ True := by
  have hc : ∀ j, w.cell? ((⟨b, 0, none⟩ : Addr).add j) = x.cells[j]? := fun j => by rw [add_lit, Nat.zero_add, cell_heap h]
  exact ⟨by have := hc 0; rw [add_zero] at this; exact this, hc 1, hc 2, hc 3, hc 4, hc 5, trivial⟩
theorem Below.keeps {B : Nat} {w w' : World} (h : Below B w w') {b : Nat} (hb : b < B) {o : Obj} (ho : w.heap[b]? = some o) : w'.heap[b]? = some o := by rw [h.block b hb, ho]
theorem held_on {w w' : World} (h : Below w.heap.size w w') {b : Nat} {o : Obj} (ho : w.heap[b]? = some o) : w'.heap[b]? = some o := by rw [h.block b (Array.getElem?_eq_some_iff.1 ho).1, ho]
section
variable {H : Type} {enc0 : TypeId × Value → H} {w : World} {base : Nat} {spare : Nat → Bool} {held : Bool}
end
end Go.Proofs.YtboemnagahmlkaaGreat.Eng

/- Maps, as lists of keys and values in the order in which they came. -/
set_option linter.unusedVariables false
set_option linter.unusedSimpArgs false
set_option linter.unusedSectionVars false
namespace Go.Proofs.YtboemnagahmlkaaGreat.Eng
open Go Go.RowKit
/-- Where a key stands, and what stands there. -/
def lookIx {κ : Type} [DecidableEq κ] (k : κ) : List (κ × Value) → Nat → Option (Nat × Value)
  | [], _ => none
  | p :: r, i => if k = p.1 then some (i, p.2) else lookIx k r (i + 1)
def look {κ : Type} [DecidableEq κ] (k : κ) : List (κ × Value) → Option Value
  | [] => none
  | p :: r => if k = p.1 then some p.2 else look k r
theorem lookIx_eq {κ : Type} [DecidableEq κ] (k : κ) : ∀ (m : List (κ × Value)) (i : Nat), (lookIx k m i).map (·.2) = look k m
  | [], i => rfl
  | p :: r, i => by
    simp only [lookIx, look]
    split
    · rfl
    · exact lookIx_eq k r (i + 1)
/-- Keys of a type, as what they stand for. -/
structure KeyTy (P : Program) (kt : TypeId) (κ : Type) [DecidableEq κ] (kv : κ → Value) : Prop where
  check : ∀ (e : Bool) (k : κ) (w : World), (Instr.checkKey e 10000 kt (kv k)).run P w = .ok () w
  find : ∀ (k : κ) (es : List MapEntry) (m : List (κ × Value)) (w : World), es.map (fun x => (x.key, x.val)) = m.map (fun p => (kv p.1, p.2)) → (Instr.findKey kt (kv k) es).run P w = .ok (lookIx k m 0) w
/-- A map's block. -/
def MapIs {κ : Type} (kv : κ → Value) (w : World) (r : Nat) (m : List (κ × Value)) : Prop := ∃ es clock, w.heap[r]? = some (.map es clock) ∧ es.toList.map (fun x => (x.key, x.val)) = m.map (fun p => (kv p.1, p.2)) ∧ ∀ x ∈ es.toList, x.born < clock
theorem getObj_is {P : Program} {w : World} {r : Nat} {es : Array MapEntry} {c : Nat} (hb : w.heap[r]? = some (.map es c)) : (getObj r).run P w = .ok (.map es c) w := by simp [getObj, Sem.run, hb]
theorem setObj_is {P : Program} {w : World} {r : Nat} {es : Array MapEntry} {c : Nat} (o : Obj) (hb : w.heap[r]? = some (.map es c)) : (setObj r o).run P w = .ok () { w with heap := w.heap.setIfInBounds r o } := by simp [setObj, Sem.run, hb]
section
variable {P : Program} {kt et t : TypeId} {κ : Type} [DecidableEq κ] {kv : κ → Value}
theorem MapIs.lt {w : World} {r : Nat} {m : List (κ × Value)} (h : MapIs kv w r m) : r < w.heap.size := by
  obtain ⟨es, clock, h, _⟩ := h
  exact (Array.getElem?_eq_some_iff.1 h).1
theorem MapIs.same {w w' : World} {r : Nat} {m : List (κ × Value)} (h : MapIs kv w r m) (hs : w'.heap[r]? = w.heap[r]?) : MapIs kv w' r m := by
  obtain ⟨es, clock, h, hm, hs'⟩ := h
  exact ⟨es, clock, by rw [hs]; exact h, hm, hs'⟩
theorem MapIs.on {w w' : World} {r : Nat} {m : List (κ × Value)} (h : MapIs kv w r m) (hb : Below w.heap.size w w') : MapIs kv w' r m := h.same (hb.block r h.lt)
theorem map_new (w : World) : MapIs kv (w.alloc (.map #[] 0)) w.heap.size [] := ⟨#[], 0, alloc_new w _, rfl, by simp⟩
theorem run_look (K : KeyTy P kt κ kv) (ht : P.underlying t = some (.map kt et)) {z : Value} (hz : (P.info? et).map (·.zero) = some (some z)) {w : World} {r : Nat} {m : List (κ × Value)} (h : MapIs kv w r m) (k : κ) :
    (Instr.lookup t (.map (some r)) (kv k) true).run P w = .ok (.tuple #[(look k m).getD z, .bool (look k m).isSome]) w := by
  obtain ⟨es, clock, hb, hm, _⟩ := h
  unfold Instr.lookup
  simp only [Sem.run_bind, run_underlying ht, Result.andThen, getObj_is hb, Sem.run_pure, K.check, K.find k es.toList m w hm]
  have hl := lookIx_eq k m 0
  cases hx : lookIx k m 0 with
  | none =>
    rw [hx] at hl
    simp only [Option.map_none] at hl
    rw [← hl]
    simp [run_zero' hz, Result.andThen]
  | some q =>
    rw [hx] at hl
    simp only [Option.map_some] at hl
    rw [← hl]
    simp
theorem run_look1 (K : KeyTy P kt κ kv) (ht : P.underlying t = some (.map kt et)) {z : Value} (hz : (P.info? et).map (·.zero) = some (some z)) {w : World} {r : Nat} {m : List (κ × Value)} (h : MapIs kv w r m) (k : κ) :
    (Instr.lookup t (.map (some r)) (kv k) false).run P w = .ok ((look k m).getD z) w := by
  obtain ⟨es, clock, hb, hm, _⟩ := h
  unfold Instr.lookup
  simp only [Sem.run_bind, run_underlying ht, Result.andThen, getObj_is hb, Sem.run_pure, K.check, K.find k es.toList m w hm]
  have hl := lookIx_eq k m 0
  cases hx : lookIx k m 0 with
  | none =>
    rw [hx] at hl
    simp only [Option.map_none] at hl
    rw [← hl]
    simp [run_zero' hz, Result.andThen]
  | some q =>
    rw [hx] at hl
    simp only [Option.map_some] at hl
    rw [← hl]
    simp
theorem look_none {k : κ} {m : List (κ × Value)} : look k m = none ↔ ∀ p ∈ m, p.1 ≠ k := by
  induction m with
  | nil => simp [look]
  | cons p m ih =>
    simp only [look]
    split
    · rename_i e
      simp [e]
    · rename_i e
      rw [ih]
      constructor
      · intro h q hq
        rcases List.mem_cons.1 hq with rfl | hq
        · exact fun e' => e e'.symm
        · exact h q hq
      · exact fun h q hq => h q (by simp [hq])
/-- A key that isn't there comes to stand last. -/
theorem run_put_new (K : KeyTy P kt κ kv) (ht : P.underlying t = some (.map kt et)) {w : World} {r : Nat} {m : List (κ × Value)} (h : MapIs kv w r m) (k : κ) (v : Value) (hk : look k m = none) :
    ∃ w', (Instr.mapUpdate t (.map (some r)) (kv k) v).run P w = .ok () w' ∧ MapIs kv w' r (m ++ [(k, v)]) ∧ (∀ j, j ≠ r → w'.heap[j]? = w.heap[j]?) ∧ w'.heap.size = w.heap.size ∧ (∀ B w0, B ≤ r → Below B w0 w → Below B w0 w') := by
  obtain ⟨es, clock, hb, hm, hst⟩ := h
  have hlt := (Array.getElem?_eq_some_iff.1 hb).1
  have hl := lookIx_eq k m 0
  rw [hk] at hl
  have hx : lookIx k m 0 = none := by
    cases hx : lookIx k m 0 with
    | none => rfl
    | some q => rw [hx] at hl; cases hl
  refine ⟨{ w with heap := w.heap.setIfInBounds r (.map (es.push { key := kv k, val := v, born := clock }) (clock + 1)) }, ?_, ?_, ?_, by simp, ?_⟩
  · unfold Instr.mapUpdate
    simp only [Sem.run_bind, run_underlying ht, Result.andThen, getObj_is hb, K.check, K.find k es.toList m w hm, hx]
    exact setObj_is _ hb
  · refine ⟨es.push { key := kv k, val := v, born := clock }, clock + 1, by simp [hlt], by simp [hm], fun x hx => ?_⟩
    rw [Array.toList_push, List.mem_append, List.mem_singleton] at hx
    rcases hx with hx | rfl
    · have := hst x hx
      omega
    · exact Nat.lt_succ_self _
  · intro j hj
    simp [Array.getElem?_setIfInBounds_ne (fun e => hj e.symm)]
  · intro B w0 hB h0
    exact h0.trans ⟨rfl, rfl, rfl, by simp, fun j hj => by simp [Array.getElem?_setIfInBounds_ne (show r ≠ j by omega)]⟩
/-- A key was asked for that wasn't there: it stands last, and waits for its value. -/
def Pend {κ : Type} (kv : κ → Value) (w : World) (r : Nat) (m : List (κ × Value)) (k : κ) (c : Nat) : Prop := ∃ (es : Array MapEntry) (z : Value), w.heap[r]? = some (.map (es.push { key := kv k, val := z, born := c }) (c + 1)) ∧ es.toList.map (fun x => (x.key, x.val)) = m.map (fun p => (kv p.1, p.2)) ∧ ∀ x ∈ es.toList, x.born < c
theorem run_entry_new (K : KeyTy P kt κ kv) (ht : P.underlying t = some (.map kt et)) {z : Value} (hz : (P.info? et).map (·.zero) = some (some z)) {w : World} {r : Nat} {m : List (κ × Value)} (h : MapIs kv w r m) (k : κ) (hk : look k m = none) :
    ∃ (c : Nat) (w' : World), (Instr.mapEntry t (.map (some r)) (kv k)).run P w = .ok (.tuple #[z, .int .i64 c]) w' ∧ Pend kv w' r m k c ∧ (∀ j, j ≠ r → w'.heap[j]? = w.heap[j]?) ∧ w'.heap.size = w.heap.size ∧ (∀ B w0, B ≤ r → Below B w0 w → Below B w0 w') := by
  obtain ⟨es, clock, hb, hm, hst⟩ := h
  have hlt := (Array.getElem?_eq_some_iff.1 hb).1
  have hl := lookIx_eq k m 0
  rw [hk] at hl
  have hx : lookIx k m 0 = none := by
    cases hx : lookIx k m 0 with
    | none => rfl
    | some q => rw [hx] at hl; cases hl
  refine ⟨clock, { w with heap := w.heap.setIfInBounds r (.map (es.push { key := kv k, val := z, born := clock }) (clock + 1)) }, ?_, ⟨es, z, by simp [hlt], hm, hst⟩, ?_, by simp, ?_⟩
  · unfold Instr.mapEntry
    simp only [Sem.run_bind, run_underlying ht, Result.andThen, getObj_is hb, K.check, K.find k es.toList m w hm, hx, run_zero' hz, setObj_is _ hb]
    rfl
  · intro j hj
    simp [Array.getElem?_setIfInBounds_ne (fun e => hj e.symm)]
  · intro B w0 hB h0
    exact h0.trans ⟨rfl, rfl, rfl, by simp, fun j hj => by simp [Array.getElem?_setIfInBounds_ne (show r ≠ j by omega)]⟩
theorem push_modify (es : Array MapEntry) (x : MapEntry) (v : Value) : (es.push x).modify es.size (fun e => { e with val := v }) = es.push { x with val := v } := by
  apply Array.ext
  · simp
  · intro i h1 h2
    simp only [Array.getElem_modify, Array.getElem_push]
    simp at h2
    by_cases hi : i < es.size
    · simp [hi, show ¬ es.size = i by omega]
    · simp [show es.size = i by omega]
theorem run_store_new {w : World} {r : Nat} {m : List (κ × Value)} {k : κ} {c : Nat} (t : TypeId) (h : Pend kv w r m k c) (v : Value) :
    ∃ w' : World, (Instr.entryStore t (.map (some r)) (.int .i64 c) v).run P w = .ok () w' ∧ MapIs kv w' r (m ++ [(k, v)]) ∧ (∀ j, j ≠ r → w'.heap[j]? = w.heap[j]?) ∧ w'.heap.size = w.heap.size ∧ (∀ B w0, B ≤ r → Below B w0 w → Below B w0 w') := by
  obtain ⟨es, z, hb, hm, hst⟩ := h
  have hlt := (Array.getElem?_eq_some_iff.1 hb).1
  have hf : (es.push { key := kv k, val := z, born := c }).findIdx? (fun e => ((e.born : Int) == (c : Int))) = some es.size := by
    rw [Array.findIdx?_eq_some_iff_getElem]
    refine ⟨by simp, by simp, fun j hj => ?_⟩
    have := hst es[j] (by simp)
    simp [Array.getElem_push_lt hj]
    omega
  refine ⟨{ w with heap := w.heap.setIfInBounds r (.map (es.push { key := kv k, val := v, born := c }) (c + 1)) }, ?_, ⟨es.push { key := kv k, val := v, born := c }, c + 1, by simp [hlt], by simp [hm], ?_⟩, ?_, by simp, ?_⟩
  · unfold Instr.entryStore
    simp only [Sem.run_bind, Result.andThen, getObj_is hb, asInt, asIntOf, Sem.run_map, Sem.run_pure, hf, push_modify]
    exact setObj_is _ hb
  · intro x hx
    rw [Array.toList_push, List.mem_append, List.mem_singleton] at hx
    rcases hx with hx | rfl
    · have := hst x hx
      omega
    · exact Nat.lt_succ_self _
  · intro j hj
    simp [Array.getElem?_setIfInBounds_ne (fun e => hj e.symm)]
  · intro B w0 hB h0
    exact h0.trans ⟨rfl, rfl, rfl, by simp, fun j hj => by simp [Array.getElem?_setIfInBounds_ne (show r ≠ j by omega)]⟩
theorem run_make {w : World} (t : TypeId) : (Instr.makeMap t none).run P w = .ok (.map (some w.heap.size)) (w.alloc (.map #[] 0)) := by
  unfold Instr.makeMap
  simp [Sem.run_bind, newObj, Sem.run, Result.andThen]
end
/-! ### Keys -/
theorem lookIx_now {κ : Type} [DecidableEq κ] {kv : κ → Value} {d : TypeDesc} (hs : ∀ a b, Instr.sameNow d (kv a) (kv b) = some (decide (a = b))) (k : κ) : ∀ (es : List MapEntry) (m : List (κ × Value)) (i : Nat), es.map (fun x => (x.key, x.val)) = m.map (fun p => (kv p.1, p.2)) → Instr.findNow d (kv k) es i = some (lookIx k m i)
  | [], m, i, h => by
    have : m = [] := by simpa using h.symm
    subst this
    rfl
  | e :: es, [], i, h => by simp at h
  | e :: es, p :: m, i, h => by
    simp only [List.map_cons, List.cons.injEq, Prod.mk.injEq] at h
    simp only [Instr.findNow, lookIx]
    rw [h.1.1, hs]
    by_cases hk : k = p.1
    · rw [decide_eq_true hk, if_pos hk, h.1.2]
    · rw [decide_eq_false hk, if_neg hk]
      exact lookIx_now hs k es m (i + 1) h.2
theorem keys_now {P : Program} {kt : TypeId} {κ : Type} [DecidableEq κ] {kv : κ → Value} {d : TypeDesc} (hd : P.underlying kt = some d) (hs : ∀ a b, Instr.sameNow d (kv a) (kv b) = some (decide (a = b)))
    (hc : ∀ (e : Bool) (k : κ) (w : World), (Instr.checkKey e 10000 kt (kv k)).run P w = .ok () w) : KeyTy P kt κ kv := by
  refine ⟨hc, fun k es m w h => ?_⟩
  unfold Instr.findKey
  simp only [Sem.run_bind, run_underlying hd, Result.andThen, lookIx_now hs k es m 0 h, Sem.run_pure]
abbrev intKey (n : Int) : Value := .int .i64 n
abbrev strKey (s : List UInt8) : Value := .string (str s)
abbrev pairKey (m : Int × Int) : Value := .agg #[.int .i64 m.1, .int .i64 m.2]
theorem int_keys {P : Program} {kt : TypeId} (hd : P.underlying kt = some (.int .i64)) : KeyTy P kt Int intKey := by
  refine keys_now hd (fun a b => by simp [Instr.sameNow, intKey]; exact (Bool.beq_eq_decide_eq a b)) (fun e k w => ?_)
  unfold Instr.checkKey
  simp [run_underlying hd, Result.andThen]
theorem str_inj {a b : List UInt8} (h : str a = str b) : a = b := by
  have := congrArg (fun x : ByteArray => x.data.toList) h
  simpa [str] using this
theorem str_keys {P : Program} {kt : TypeId} (hd : P.underlying kt = some .string) : KeyTy P kt (List UInt8) strKey := by
  refine keys_now hd (fun a b => ?_) (fun e k w => ?_)
  · simp only [Instr.sameNow, strKey]
    congr 1
    rw [Bool.eq_iff_iff, Go.MapKept.bytes_beq, decide_eq_true_eq]
    exact ⟨str_inj, fun h => by rw [h]⟩
  · unfold Instr.checkKey
    simp [run_underlying hd, Result.andThen]
theorem pair_asking {P : Program} {kt : TypeId} (hf : eqFact P kt [.i, .i] = true) (k : Int × Int) : ∀ (es : List MapEntry) (m : List ((Int × Int) × Value)) (i : Nat) (w : World), es.map (fun x => (x.key, x.val)) = m.map (fun p => (pairKey p.1, p.2)) → (Instr.findAsking kt (pairKey k) es i).run P w = .ok (lookIx k m i) w
  | [], m, i, w, h => by
    have : m = [] := by simpa using h.symm
    subst this
    rfl
  | e :: es, [], i, w, h => by simp at h
  | e :: es, p :: m, i, w, h => by
    simp only [List.map_cons, List.cons.injEq, Prod.mk.injEq] at h
    have hb : eqL [.i, .i] (#[Value.int .i64 k.1, Value.int .i64 k.2] : Array Value).toList (#[Value.int .i64 p.1.1, Value.int .i64 p.1.2] : Array Value).toList = some (decide (k = p.1)) := by
      have h1 : (k.1 == p.1.1 && (k.2 == p.1.2 && true)) = decide (k = p.1) := by
        rw [Bool.eq_iff_iff]
        simp [Prod.ext_iff]
      rw [← h1]
      rfl
    obtain ⟨hr, _⟩ := eqFact_run (w := w) hf hb
    simp only [Instr.findAsking, Sem.run_bind, lookIx, h.1.1]
    unfold Op.equal
    rw [show (Op.equalIn Op.maxDepth kt (pairKey k) (pairKey p.1)).run P w = .ok (decide (k = p.1)) w from hr]
    by_cases hk : k = p.1
    · simp [hk, Result.andThen, h.1.2]
    · simp only [Result.andThen, decide_eq_false hk, if_neg hk]
      exact pair_asking hf k es m (i + 1) w h.2
theorem pair_keys {P : Program} {kt : TypeId} {fs : Array Field} (hd : P.underlying kt = some (.struct fs)) (hf : eqFact P kt [.i, .i] = true) (hc : ∀ (e : Bool) (k : Int × Int) (w : World), (Instr.checkKey e 10000 kt (pairKey k)).run P w = .ok () w) : KeyTy P kt (Int × Int) pairKey := by
  refine ⟨hc, fun k es m w h => ?_⟩
  unfold Instr.findKey
  simp only [Sem.run_bind, run_underlying hd, Result.andThen]
  cases es with
  | nil =>
    have : m = [] := by simpa using h.symm
    subst this
    rfl
  | cons e es =>
    have : Instr.findNow (.struct fs) (pairKey k) (e :: es) 0 = none := by simp [Instr.findNow, Instr.sameNow]
    rw [this]
    exact pair_asking hf k (e :: es) m 0 w h
end Go.Proofs.YtboemnagahmlkaaGreat.Eng
