/- Lemmas on the world that the walks lean on. -/
import Derived.Test.YtpklkijdlnioaaaGreatZhEng
import Derived.Laws.AppendOwn
import Derived.Maps.AppendAt
import Derived.Below
import Derived.Lib.Builder
import Derived.SizedLaws
import Derived.Handed
import Derived.LaidLaws
import Derived.Stop.Joined
import Derived.Lib.UnsafeStr
import Derived.Laws.IdiomStrings
import Derived.Laws.BytesArg
import Derived.Laws.OwnMore
import Derived.DataElems
import Derived.Deep.Slices
import Derived.ChangeArms
set_option linter.unusedVariables false
set_option linter.unusedSimpArgs false
namespace Go.Proofs.YtpklkijdlnioaaaGreat.Eng
open Go Go.RowKit
theorem calls_ret {P : Program} {f : FuncId} {args : Array Value} {w : World} {R : Value → World → Prop} {R' : Ending → World → Prop} (h : Calls P f args w fun e w' => ∃ v, e = .returned v ∧ R v w') (hr : ∀ v w', R v w' → R' (.returned v) w') : Calls P f args w R' :=
  h.mono fun e w' ⟨v, he, h⟩ => by subst he; exact hr v w' h
theorem alloc_size (w : World) (o : Obj) : (w.alloc o).heap.size = w.heap.size + 1 := by
  show (w.heap.push o).size = _
  simp
theorem alloc_old (w : World) (o : Obj) {k : Nat} (h : k < w.heap.size) : (w.alloc o).heap[k]? = w.heap[k]? := by
  show (w.heap.push o)[k]? = _
  simp [Array.getElem?_push, Nat.ne_of_lt h]
theorem alloc_new (w : World) (o : Obj) : (w.alloc o).heap[w.heap.size]? = some o := by
  show (w.heap.push o)[w.heap.size]? = _
  simp
theorem cell_new (w : World) (c : Array Value) (e : TypeId) (j : Nat) : (w.alloc (.cells c e)).cell? ⟨w.heap.size, j, none⟩ = c[j]? := by
  simp only [World.cell?, alloc_new]
  rfl
theorem cell_heap {w : World} {b j : Nat} {c : Array Value} {e : TypeId} {fz : Nat × Nat} (h : w.heap[b]? = some (.cells c e fz)) : w.cell? ⟨b, j, none⟩ = c[j]? := by
  simp only [World.cell?, h]
  rfl
theorem frozen_heap {w : World} {b j : Nat} {c : Array Value} {e : TypeId} (h : w.heap[b]? = some (.cells c e (0, 0))) : w.frozen? ⟨b, j, none⟩ = false := by
  simp [World.frozen?, h]
theorem setCell_heap {w : World} {b j : Nat} {c : Array Value} {e : TypeId} {fz : Nat × Nat} (h : w.heap[b]? = some (.cells c e fz)) (u : Value) : (w.setCell ⟨b, j, none⟩ u).heap[b]? = some (.cells (c.setIfInBounds j u) e fz) := by
  simp [World.setCell, Array.getElem?_modify, h]

/-- The cells of a block, written over from one on. -/
theorem storeP_block {b : Nat} {e : TypeId} {k : World → Prop} : ∀ (vs : List Value) (i : Nat) (w : World) (c : Array Value) (o : Nat), w.heap[b]? = some (.cells c e (0, 0)) → o + i + vs.length ≤ c.size → (∀ v ∈ vs, v.oneCell' = true) →
    (∀ w', w'.heap[b]? = some (.cells (layAt c.toList (o + i) vs).toArray e (0, 0)) → (∀ j, j ≠ b → w'.heap[j]? = w.heap[j]?) → w'.heap.size = w.heap.size → (∀ B w0, B ≤ b → Below B w0 w → Below B w0 w') → k w') → StoreP w ⟨b, o, none⟩ k vs i
  | [], i, w, c, o, h, hl, h1, hk => by
    rintro w' rfl
    exact hk w' (by simpa [layAt] using h) (fun _ _ => rfl) rfl (fun _ _ _ h => h)
  | v :: r, i, w, c, o, h, hl, h1, hk => by
    simp only [List.length_cons] at hl
    have ha : (⟨b, o, none⟩ : Addr).add i = ⟨b, o + i, none⟩ := Addr.add_lit b o i
    have hi : o + i < c.size := by omega
    refine ⟨h1 v (by simp), ?_, ?_, ?_⟩
    · rw [ha, cell_heap h]; exact ⟨c[o + i], by simp [hi]⟩
    · rw [ha]; exact frozen_heap h
    rw [ha]
    refine storeP_block r (i + 1) _ (c.setIfInBounds (o + i) v) o (setCell_heap h v) (by simp; omega) (fun u hu => h1 u (by simp [hu])) ?_
    intro w' hw hne hsz hB
    refine hk w' ?_ (fun j hj => (hne j hj).trans (Below.heap_setCell w ⟨b, o + i, none⟩ v j hj)) (by rw [hsz]; simp [World.setCell]) (fun B w0 hb hBel => hB B w0 hb (hBel.setCell (p := ⟨b, o + i, none⟩) hb v))
    rw [hw]
    congr 2
    have hi' : o + i < c.toList.length := by simp; omega
    simp only [layAt, Array.toList_setIfInBounds, List.length_cons, List.set_eq_take_append_cons_drop, hi', if_true]
    have hlen : (c.toList.take (o + i)).length = o + i := by rw [List.length_take]; omega
    rw [show o + (i + 1) = (c.toList.take (o + i)).length + 1 from by omega, List.take_length_add_append, show (c.toList.take (o + i)).length + 1 + r.length = (c.toList.take (o + i)).length + (1 + r.length) from by omega, List.drop_length_add_append]
    rw [Nat.add_comm 1 r.length]
    simp only [List.drop_succ_cons, List.drop_drop, List.take_succ_cons, List.take_zero, List.append_assoc, List.cons_append, List.nil_append]
    rw [show o + i + 1 + r.length = o + i + (r.length + 1) from by omega]
/-- A new block, filled. -/
theorem storeP_new {w : World} {e : TypeId} {k : World → Prop} (z vs : List Value) (hz : z.length = vs.length) (h1 : ∀ v ∈ vs, v.oneCell' = true) (w1 : World) (hw : w1 = w.alloc (.cells z.toArray e))
    (hk : ∀ w', w'.heap[w.heap.size]? = some (.cells vs.toArray e (0, 0)) → w'.heap.size = w.heap.size + 1 → Below w.heap.size w w' → k w') : StoreP w1 (nb w) k vs 0 := by
  subst hw
  refine storeP_block vs 0 _ z.toArray 0 (alloc_new w _) (by simp; omega) h1 ?_
  intro w' h hne hsz hB
  refine hk w' ?_ (by rw [hsz, alloc_size]) (hB _ w (Nat.le_refl _) ((Below.refl _ w).alloc (Nat.le_refl _) _))
  rw [h]
  congr 2
  simp [layAt, ← hz]

/-! ### A row that the call owns -/
/-- What a row that is owned looks like. -/
theorem own_form {w : World} {base : Nat} {e : TypeId} {size n : Nat} {v : Value} {xs : List Value} (h : w.ownsRow base e size v n xs) : ∃ a c, v = .slice a n c ∧ n ≤ c := by
  rcases h.2 with ⟨rfl, rfl⟩ | ⟨g, cap, cur, rfl, _, _, hc, _⟩
  · exact ⟨none, 0, rfl, Nat.le_refl _⟩
  · exact ⟨_, _, rfl, hc⟩
theorem own_lt {w : World} {base : Nat} {e : TypeId} {size n : Nat} {v : Value} {xs : List Value} (h : w.ownsRow base e size v n xs) : ∀ k, v.ownBlock = some k → base ≤ k ∧ k < w.heap.size := by
  intro k hk
  rcases h.2 with ⟨rfl, rfl⟩ | ⟨g, cap, cur, rfl, hb, hg, _⟩
  · cases hk
  · cases hk
    exact ⟨hb, (Array.getElem?_eq_some_iff.1 hg).1⟩
theorem own_nil (w : World) (base : Nat) (e : TypeId) (size : Nat) : w.ownsRow base e size (.slice none 0 0) 0 [] := ⟨by simp, .inl ⟨rfl, rfl⟩⟩
/-- 'append(xs, x)': the new element lies in a block of its own. -/
theorem run_push {P : Program} (t e : TypeId) {z : Value} {size bytes : Nat} (ht : P.underlying t = some (.slice e)) (hi : (P.info? e).map (fun i => (i.zero, i.size, i.bytes)) = some (some z, size, bytes)) (hzs : z.cells.size = size) (hsz : 0 < size)
    {base : Nat} {w1 : World} {v : Value} {n : Nat} {xs : List Value} (hown : w1.ownsRow base e size v n xs) (news : List Value) (hl : news.length = size) (h1 : ∀ u ∈ news, u.oneCell' = true)
    (hbytes : (n + 1) * bytes ≤ 140737488355328) (h63 : n + 1 ≤ 140737488355328) (hbase : base ≤ w1.heap.size) :
    ∃ a' c' w3, (Builtin.append_ #[t, t] t #[v, .slice (some (nb w1)) 1 1]).run P (w1.alloc (.cells news.toArray e)) = .ok (.slice a' (n + 1) c') w3 ∧ w3.ownsRow base e size (.slice a' (n + 1) c') (n + 1) (xs ++ news) ∧
      (w1.alloc (.cells news.toArray e)).grownBy w3 v.ownBlock ∧ ((Value.slice a' (n + 1) c').ownBlock = v.ownBlock ∨ (Value.slice a' (n + 1) c').ownBlock = some (w1.heap.size + 1)) := by
  obtain ⟨i, hi', hz, hs, hb⟩ := info_parts hi
  obtain ⟨v', w3, hr, hown', hg, _, hnb⟩ := run_append_own_at (P := P) (w1.alloc (.cells news.toArray e)) base t t e i z size bytes ht hi' hz hs hb hzs hsz v n xs (hown.alloc _) (nb w1) 1 1 news (by omega)
    (fun j u hj => by
      have hjl : j < news.length := (List.getElem?_eq_some_iff.1 hj).1
      have hadd : (nb w1).add j = ⟨w1.heap.size, j, none⟩ := by
        unfold Addr.add nb
        split
        · rename_i h0; subst h0; rfl
        · simp
      rw [hadd]
      rw [cell_new]; simpa using hj)
    h1 (by unfold maxLen; omega) hbytes (by rw [alloc_size]; omega)
  obtain ⟨a', c', rfl, _⟩ := own_form hown'
  exact ⟨a', c', w3, hr, hown', hg, by rwa [alloc_size] at hnb⟩
/-- What was below B is as it was behind an append of a row that lies from B on. -/
theorem below_push {B : Nat} {w w1 w3 : World} {e : TypeId} {size n : Nat} {v : Value} {xs : List Value} {o : Obj} (hb : Below B w w1) (hown : w1.ownsRow B e size v n xs) (hg : (w1.alloc o).grownBy w3 v.ownBlock) (hB : B ≤ w1.heap.size) : Below B w w3 :=
  (hb.alloc hB o).grown hg (by rw [alloc_size]; omega) fun k hk => (own_lt hown k hk).1
/-- A block that is not the row's own is as it was behind the append. -/
theorem block_push {w1 w3 : World} {row : Option Nat} {o : Obj} (hg : (w1.alloc o).grownBy w3 row) {k : Nat} (hk : k < w1.heap.size) (hne : some k ≠ row) : w3.heap[k]? = w1.heap[k]? := by
  rw [hg.block k (by rw [alloc_size]; omega) hne, alloc_old w1 o hk]
theorem size_push {w1 w3 : World} {row : Option Nat} {o : Obj} (hg : (w1.alloc o).grownBy w3 row) : w1.heap.size + 1 ≤ w3.heap.size := by
  have := hg.size
  rwa [alloc_size] at this
theorem heap_setCell_ne {w : World} {a : Addr} {u : Value} {k : Nat} (h : k ≠ a.block) : (w.setCell a u).heap[k]? = w.heap[k]? := Below.heap_setCell w a u k h
theorem size_setCell (w : World) (a : Addr) (u : Value) : (w.setCell a u).heap.size = w.heap.size := by simp [World.setCell]
theorem own_setCell {w : World} {base : Nat} {e : TypeId} {size n : Nat} {v : Value} {xs : List Value} (h : w.ownsRow base e size v n xs) {a : Addr} (u : Value) (hne : v.ownBlock ≠ some a.block) : (w.setCell a u).ownsRow base e size v n xs := by
  refine ⟨h.1, ?_⟩
  rcases h.2 with h2 | ⟨g, cap, cur, hv, hg, hh, r⟩
  · exact .inl h2
  · refine .inr ⟨g, cap, cur, hv, hg, ?_, r⟩
    rw [heap_setCell_ne]
    · exact hh
    · intro he
      subst he
      exact hne (by rw [hv]; rfl)

/-! ### Loops, sums, strings -/
/-- A loop that counts up to n: the last round, and one round. -/
theorem climb {α : Type} (n : Nat) (Inv G : Nat → α → Prop) (last : ∀ x, Inv n x → G n x) (step : ∀ i, i < n → (∀ x, Inv (i + 1) x → G (i + 1) x) → ∀ x, Inv i x → G i x) : ∀ i, i ≤ n → ∀ x, Inv i x → G i x := by
  have key : ∀ k i, i + k = n → ∀ x, Inv i x → G i x := by
    intro k
    induction k with
    | zero => intro i hi; have : i = n := by omega
              subst this; exact last
    | succ k ih => intro i hi; exact step i (by omega) (ih (i + 1) (by omega))
  intro i hi
  exact key (n - i) i (by omega)
theorem wrap_in {k : IntKind} {z : Int} (h1 : k.min ≤ z) (h2 : z ≤ k.max) : k.wrap z = z := by
  cases k <;> simp [IntKind.wrap, IntKind.bits, IntKind.signed, IntKind.min, IntKind.max] at * <;> omega
theorem Ar.ok {k : IntKind} {z : Int} {F : Int → Prop} (h1 : k.min ≤ z) (h2 : z ≤ k.max) (h : F z) : Ar k z F := by
  unfold Ar
  rw [wrap_in h1 h2]
  exact h
theorem Ar.ok64 {z : Int} {F : Int → Prop} (h1 : -9223372036854775808 ≤ z) (h2 : z ≤ 9223372036854775807) (h : F z) : Ar .i64 z F := Ar.ok (k := .i64) h1 h2 h
abbrev str (l : List UInt8) : ByteArray := ⟨l.toArray⟩
theorem str_eta (s : ByteArray) : s = str s.data.toList := by cases s; simp [str]
theorem str_size (l : List UInt8) : (str l).size = l.length := by simp [str, ByteArray.size]
theorem str_toList (l : List UInt8) : (str l).toList = l := by rw [ByteArray.toList_eq]
theorem btAt_str (l : List UInt8) (i : Nat) (h : i < l.length) : btAt (str l) (i : Int) = ((l[i]).toNat : Int) := by
  simp [btAt, str, List.getElem?_eq_getElem h]
theorem str_append (a b : List UInt8) : str a ++ str b = str (a ++ b) := by
  apply ByteArray.ext
  simp [str]
/-- 'string(b)' of a row of bytes that the call owns. -/
theorem run_str_own {P : Program} {src dst e : TypeId} (hs : P.underlying src = some (.slice e)) (he : P.underlying e = some (.int .u8)) (hd : P.underlying dst = some .string) {w : World} {base : Nat} {a : Option Addr} {n c : Nat} {l : List UInt8}
    (h : w.ownsRow base e 1 (.slice a n c) n (Lib.byteCells l)) : (convert src dst (.slice a n c)).run P w = .ok (.string (str l)) w := by
  have hl := h.1
  rw [Lib.byteCells_length] at hl
  rcases h.2 with ⟨h1, h2⟩ | ⟨g, cap, cur, h1, h2, h3, h4, h5, h6, h7⟩
  · cases h1
    have : l = [] := List.eq_nil_of_length_eq_zero (by omega)
    subst this
    exact run_convert_bytes_nil w src e hs he 0 0 dst hd
  · cases h1
    have hn : n = l.length := by omega
    subst hn
    refine run_convert_bytes_back w src dst e ⟨g, 0, none⟩ c l hs he hd ?_
    intro j hj
    have hadd : (⟨g, 0, none⟩ : Addr).add j = ⟨g, j, none⟩ := by unfold Addr.add; split <;> simp_all
    rw [hadd, cell_heap h3]
    have h8 : (Lib.byteCells l)[j]? = some (.int .u8 (l[j].toNat : Int)) := by simp [Lib.byteCells, hj]
    rw [← h7, List.getElem?_take_of_lt (by omega)] at h8
    simpa using h8
theorem own_drew {w : World} {base : Nat} {e : TypeId} {size n : Nat} {v : Value} {xs : List Value} (h : w.ownsRow base e size v n xs) : w.drew.ownsRow base e size v n xs := h
theorem own_on {w w' : World} {base : Nat} {e : TypeId} {size n : Nat} {v : Value} {xs : List Value} (h : w.ownsRow base e size v n xs) (hb : Below w.heap.size w w') : w'.ownsRow base e size v n xs := by
  refine ⟨h.1, ?_⟩
  rcases h.2 with hh | ⟨g, cap, cur, h1, h2, h3, h4⟩
  · exact .inl hh
  · exact .inr ⟨g, cap, cur, h1, h2, by rw [hb.block g (Array.getElem?_eq_some_iff.1 h3).1]; exact h3, h4⟩
/-- One step behind another. -/
theorem below_then {a b c : World} (h : Below a.heap.size a b) (k : Below b.heap.size b c) : Below a.heap.size a c := h.trans (k.mono h.size)
theorem below_alloc (w : World) (o : Obj) : Below w.heap.size w (w.alloc o) := (Below.refl _ w).alloc (Nat.le_refl _) o
theorem str_extract (l : List UInt8) (a b : Nat) : (str l).extract a b = str ((l.drop a).take (b - a)) := by
  apply ByteArray.ext
  simp [str]
theorem add_block (a : Addr) (k : Nat) : (a.add k).block = a.block := by
  unfold Addr.add
  split <;> rfl
theorem add_lit (b o n : Nat) : Addr.add ⟨b, o, none⟩ n = ⟨b, o + n, none⟩ := Addr.add_lit b o n

/-! ### The frame of a law's row -/
section
variable {H : Type} {enc : TypeId × Value → H}
end
end Go.Proofs.YtpklkijdlnioaaaGreat.Eng
/- Several rows that a call owns, apart from one another: what an append to one of them leaves of the others. -/
set_option linter.unusedVariables false
set_option linter.unusedSimpArgs false
namespace Go.Proofs.YtpklkijdlnioaaaGreat.Eng
open Go Go.RowKit
/-- A slice's words. -/
structure Sl where
  a : Option Addr
  n : Nat
  c : Nat
abbrev Sl.v (s : Sl) : Value := .slice s.a s.n s.c
/-- A row: where it lies, of what it is, and what it holds. -/
structure RowV where
  sl : Sl
  e : TypeId
  sz : Nat
  xs : List Value
def RowV.blk (r : RowV) : Option Nat := r.sl.v.ownBlock
def Apart (r r' : RowV) : Prop := ∀ k, r.blk = some k → r'.blk ≠ some k
structure OwnRows (w : World) (B : Nat) (rows : List RowV) : Prop where
  own : ∀ r ∈ rows, w.ownsRow B r.e r.sz r.sl.v r.sl.n r.xs
  apart : rows.Pairwise Apart
theorem OwnRows.lt {w : World} {B : Nat} {rows : List RowV} (h : OwnRows w B rows) {r : RowV} (hr : r ∈ rows) : ∀ k, r.blk = some k → B ≤ k ∧ k < w.heap.size := own_lt (h.own r hr)
theorem OwnRows.on {w w' : World} {B : Nat} {rows : List RowV} (h : OwnRows w B rows) (hb : Below w.heap.size w w') : OwnRows w' B rows :=
  ⟨fun r hr => own_on (h.own r hr) hb, h.apart⟩
/-- What is as it was in the rows' own blocks. -/
theorem own_same {w w' : World} {B : Nat} {e : TypeId} {size n : Nat} {v : Value} {xs : List Value} (h : w.ownsRow B e size v n xs) (hb : ∀ k, v.ownBlock = some k → w'.heap[k]? = w.heap[k]?) : w'.ownsRow B e size v n xs := by
  refine ⟨h.1, ?_⟩
  rcases h.2 with hh | ⟨g, cap, cur, h1, h2, h3, h4⟩
  · exact .inl hh
  · exact .inr ⟨g, cap, cur, h1, h2, by rw [hb g (by rw [h1]; rfl)]; exact h3, h4⟩
theorem OwnRows.same {w w' : World} {B : Nat} {rows : List RowV} (h : OwnRows w B rows) (hb : ∀ r ∈ rows, ∀ k, r.blk = some k → w'.heap[k]? = w.heap[k]?) : OwnRows w' B rows :=
  ⟨fun r hr => own_same (h.own r hr) (hb r hr), h.apart⟩
theorem OwnRows.setCell {w : World} {B : Nat} {rows : List RowV} (h : OwnRows w B rows) (a : Addr) (u : Value) (hne : ∀ r ∈ rows, r.blk ≠ some a.block) : OwnRows (w.setCell a u) B rows :=
  h.same fun r hr k hk => heap_setCell_ne fun e => hne r hr (by rw [hk, e])
/-- One of the rows stands for another one, that lies in the same block or in a new one. -/
theorem apart_swap {pre post : List RowV} {r r' : RowV} {top : Nat} (h : (pre ++ r :: post).Pairwise Apart) (hlt : ∀ x ∈ pre ++ r :: post, ∀ k, x.blk = some k → k < top) (hr : ∀ k, r'.blk = some k → r.blk = some k ∨ top ≤ k) : (pre ++ r' :: post).Pairwise Apart := by
  rw [List.pairwise_append, List.pairwise_cons] at h ⊢
  obtain ⟨h1, ⟨h2, h3⟩, h4⟩ := h
  refine ⟨h1, ⟨fun y hy k hk => ?_, h3⟩, fun x hx y hy => ?_⟩
  · rcases hr k hk with e | e
    · exact h2 y hy k e
    · intro e'
      have := hlt y (by simp [hy]) k e'
      omega
  · rcases List.mem_cons.1 hy with rfl | hy
    · intro k hk e'
      rcases hr k e' with e | e
      · exact h4 x hx r (by simp) k hk e
      · have := hlt x (by simp [hx]) k hk
        omega
    · exact h4 x hx y (by simp [hy])
/-- 'append(xs, x)' to one row of several. -/
theorem OwnRows.push {P : Program} (t : TypeId) {z : Value} {bytes : Nat} {w1 : World} {B : Nat} {pre post : List RowV} {r : RowV} (h : OwnRows w1 B (pre ++ r :: post)) (ht : P.underlying t = some (.slice r.e)) (hi : (P.info? r.e).map (fun i => (i.zero, i.size, i.bytes)) = some (some z, r.sz, bytes)) (hzs : z.cells.size = r.sz) (hsz : 0 < r.sz)
    (news : List Value) (hl : news.length = r.sz) (h1 : ∀ u ∈ news, u.oneCell' = true) (hbytes : (r.sl.n + 1) * bytes ≤ 140737488355328) (h63 : r.sl.n + 1 ≤ 140737488355328) (hB : B ≤ w1.heap.size) :
    ∃ a' c' w3, (Builtin.append_ #[t, t] t #[r.sl.v, .slice (some (nb w1)) 1 1]).run P (w1.alloc (.cells news.toArray r.e)) = .ok (.slice a' (r.sl.n + 1) c') w3 ∧
      OwnRows w3 B (pre ++ ⟨⟨a', r.sl.n + 1, c'⟩, r.e, r.sz, r.xs ++ news⟩ :: post) ∧ (∀ k, k < w1.heap.size → r.blk ≠ some k → w3.heap[k]? = w1.heap[k]?) ∧
      (∀ k, (Value.slice a' (r.sl.n + 1) c').ownBlock = some k → r.blk = some k ∨ w1.heap.size < k) ∧ (∀ w0, Below B w0 w1 → Below B w0 w3) ∧ w1.heap.size < w3.heap.size := by
  have hown := h.own r (by simp)
  obtain ⟨a', c', w3, hr, hown', hg, hnb⟩ := run_push (P := P) t r.e ht hi hzs hsz hown news hl h1 hbytes h63 hB
  have hkeep : ∀ k, k < w1.heap.size → r.blk ≠ some k → w3.heap[k]? = w1.heap[k]? := fun k hk hne => block_push hg hk (fun e => hne e.symm)
  have hnew : ∀ k, (Value.slice a' (r.sl.n + 1) c').ownBlock = some k → r.blk = some k ∨ w1.heap.size < k := by
    intro k hk
    rcases hnb with e | e
    · rw [e] at hk; exact .inl hk
    · rw [e] at hk; cases hk; exact .inr (by omega)
  have hsize := size_push hg
  refine ⟨a', c', w3, hr, ⟨?_, apart_swap (top := w1.heap.size) h.apart (fun x hx k hk => (h.lt hx k hk).2) fun k hk => (hnew k hk).imp id Nat.le_of_lt⟩, hkeep, hnew, fun w0 hb => below_push hb hown hg hB, by omega⟩
  intro x hx
  have other : ∀ y ∈ pre ++ r :: post, Apart r y ∨ Apart y r → w3.ownsRow B y.e y.sz y.sl.v y.sl.n y.xs := by
    intro y hy hap
    refine own_same (h.own y hy) fun k hk => hkeep k (h.lt hy k hk).2 fun e => ?_
    rcases hap with hap | hap
    · exact hap k e hk
    · exact hap k hk e
  have hap := h.apart
  rw [List.pairwise_append, List.pairwise_cons] at hap
  rcases List.mem_append.1 hx with hx | hx
  · exact other x (by simp [hx]) (.inr (hap.2.2 x hx r (by simp)))
  · rcases List.mem_cons.1 hx with rfl | hx
    · exact hown'
    · exact other x (by simp [hx]) (.inl (hap.2.1.1 x hx))
/-- A slice that is nil only when it is nothing at all. -/
def SlOk (s : Sl) : Prop := s = ⟨none, 0, 0⟩ ∨ ∃ a, s.a = some a
/-- 'append(xs, ys...)': all that ys holds lies behind what xs held. -/
theorem run_spread2 {P : Program} (t e : TypeId) {z : Value} {size bytes : Nat} (ht : P.underlying t = some (.slice e)) (hi : (P.info? e).map (fun i => (i.zero, i.size, i.bytes)) = some (some z, size, bytes)) (hzs : z.cells.size = size) (hsz : 0 < size)
    {base : Nat} {w1 : World} {v : Value} {n : Nat} {xs : List Value} (hown : w1.ownsRow base e size v n xs) (src : Sl) (hsrc : SlOk src) (news : List Value) (hl : news.length = src.n * size)
    (hcells : ∀ a, src.a = some a → ∀ j u, news[j]? = some u → w1.cell? (a.add j) = some u) (h1 : ∀ u ∈ news, u.oneCell' = true)
    (hbytes : (n + src.n) * bytes ≤ 140737488355328) (h63 : n + src.n ≤ 140737488355328) (hbase : base ≤ w1.heap.size) :
    ∃ a' c' w3, (Builtin.append_ #[t, t] t #[v, src.v]).run P w1 = .ok (.slice a' (n + src.n) c') w3 ∧ w3.ownsRow base e size (.slice a' (n + src.n) c') (n + src.n) (xs ++ news) ∧
      (∀ w0, Below base w0 w1 → Below base w0 w3) ∧ (∀ k, k < w1.heap.size → v.ownBlock ≠ some k → w3.heap[k]? = w1.heap[k]?) ∧ ∀ k, (Value.slice a' (n + src.n) c').ownBlock = some k → v.ownBlock = some k ∨ w1.heap.size ≤ k := by
  obtain ⟨i, hi', hz, hs, hb⟩ := info_parts hi
  obtain ⟨sa, sn, sc⟩ := src
  rcases hsrc with h | ⟨a, ha⟩
  · cases h
    have hn : news = [] := List.eq_nil_of_length_eq_zero (by simpa using hl)
    subst hn
    obtain ⟨a', c', rfl, _⟩ := own_form hown
    exact ⟨a', c', w1, run_append_owned_none w1 base t t e i size ht hi' _ n xs hown, by simpa using hown, fun w0 hb => hb, fun _ _ _ => rfl, fun k hk => .inl hk⟩
  · cases ha
    obtain ⟨v', w3, hr, hown', hg, _, hnb⟩ := run_append_own_at (P := P) w1 base t t e i z size bytes ht hi' hz hs hb hzs hsz v n xs hown a sn sc news hl (hcells a rfl) h1 (by unfold maxLen; dsimp only at h63; omega) hbytes hbase
    obtain ⟨a', c', rfl, _⟩ := own_form hown'
    refine ⟨a', c', w3, hr, hown', fun w0 hb => hb.grown hg hbase fun k hk => (own_lt hown k hk).1, fun k hk hne => hg.block k hk (fun e => hne e.symm), fun k hk => ?_⟩
    rcases hnb with h | h
    · exact .inl (by rw [← h]; exact hk)
    · rw [h] at hk
      cases hk
      exact .inr (Nat.le_refl _)
theorem run_spread {P : Program} (t e : TypeId) {z : Value} {size bytes : Nat} (ht : P.underlying t = some (.slice e)) (hi : (P.info? e).map (fun i => (i.zero, i.size, i.bytes)) = some (some z, size, bytes)) (hzs : z.cells.size = size) (hsz : 0 < size)
    {base : Nat} {w1 : World} {v : Value} {n : Nat} {xs : List Value} (hown : w1.ownsRow base e size v n xs) (src : Sl) (hsrc : SlOk src) (news : List Value) (hl : news.length = src.n * size)
    (hcells : ∀ a, src.a = some a → ∀ j u, news[j]? = some u → w1.cell? (a.add j) = some u) (h1 : ∀ u ∈ news, u.oneCell' = true)
    (hbytes : (n + src.n) * bytes ≤ 140737488355328) (h63 : n + src.n ≤ 140737488355328) (hbase : base ≤ w1.heap.size) :
    ∃ a' c' w3, (Builtin.append_ #[t, t] t #[v, src.v]).run P w1 = .ok (.slice a' (n + src.n) c') w3 ∧ w3.ownsRow base e size (.slice a' (n + src.n) c') (n + src.n) (xs ++ news) ∧
      (∀ w0, Below base w0 w1 → Below base w0 w3) ∧ (∀ k, k < w1.heap.size → v.ownBlock ≠ some k → w3.heap[k]? = w1.heap[k]?) := by
  obtain ⟨a', c', w3, g1, g2, g3, g4, _⟩ := run_spread2 t e ht hi hzs hsz hown src hsrc news hl hcells h1 hbytes h63 hbase
  exact ⟨a', c', w3, g1, g2, g3, g4⟩
end Go.Proofs.YtpklkijdlnioaaaGreat.Eng
/- Arguments, opened: a slice's elements, each of some cells, as a list. -/
set_option linter.unusedVariables false
set_option linter.unusedSimpArgs false
namespace Go.Proofs.YtpklkijdlnioaaaGreat.Eng
open Go Go.RowKit Go.Deep
theorem list_choose {α : Type} {p : Nat → α → Prop} : ∀ n : Nat, (∀ i, i < n → ∃ m, p i m) → ∃ xs : List α, xs.length = n ∧ ∀ i x, xs[i]? = some x → p i x
  | 0, _ => ⟨[], rfl, fun i x h => by simp at h⟩
  | n + 1, h => by
    obtain ⟨xs, hl, hx⟩ := list_choose n fun i hi => h i (by omega)
    obtain ⟨m, hm⟩ := h n (by omega)
    refine ⟨xs ++ [m], by simp [hl], fun i x hi => ?_⟩
    rcases Nat.lt_trichotomy i xs.length with h1 | h1 | h1
    · rw [List.getElem?_append_left h1] at hi; exact hx i x hi
    · subst h1
      rw [List.getElem?_append_right (Nat.le_refl _)] at hi
      simp at hi
      subst hi
      rw [hl]
      exact hm
    · rw [List.getElem?_append_right (by omega)] at hi
      have := (List.getElem?_eq_some_iff.1 hi).1
      simp at this
      omega
/-- A slice among the arguments, read: its elements as a list. -/
theorem open_list {P : Program} {H : Type} {enc0 : TypeId × Value → H} {w : World} {base : Nat} {spare : Nat → Bool} {held : Bool} {t e : TypeId} {fuel : Nat} {cs : List Value} {x : DataW H × List MemPlace} {α : Type} {enc : α → List Value} {sz : Nat} (ht : P.underlying t = some (.slice e)) (hc : P.cellsOf e = sz) (hsz : ∀ m, (enc m).length = sz) (h0 : 0 < sz)
    (hel : ∀ n cs' y, DataW.trod enc0 P w base spare held n e cs' = some y → ∃ m : α, cs' = enc m) (h : DataW.trod enc0 P w base spare held fuel t cs = some x) :
    ∃ (s : Sl) (xs : List α), cs = [s.v] ∧ s.n = xs.length ∧ SlOk s ∧ s.n ≤ s.c ∧ s.c ≤ maxLen ∧
      ∀ (j : Nat) (m : α), xs[j]? = some m → ∃ p, s.a = some p ∧ p.block < w.heap.size ∧ ∀ (k : Nat) (v : Value), (enc m)[k]? = some v → w.cell? ((p.add (j * sz)).add k) = some v := by
  rcases open_slice ht h with ⟨rfl, _⟩ | ⟨a, len, cap, m, n, D, Pl, rfl, hb, hl, hm, hmm, rfl, hx⟩
  · exact ⟨⟨none, 0, 0⟩, [], rfl, rfl, .inl rfl, Nat.le_refl _, Nat.zero_le _, fun j m hj => by simp at hj⟩
  · have hle : len ≤ m := by rw [hmm]; split <;> omega
    obtain ⟨xs, hxl, hxs⟩ := list_choose (α := α) (p := fun i u => w.cells? base (a.add (i * sz)) sz = some (enc u)) len (fun i hi => by
      obtain ⟨cs', h1, h2⟩ := hx i (by omega)
      rw [hc] at h1
      obtain ⟨u, rfl⟩ := hel _ _ _ h2
      exact ⟨u, h1⟩)
    refine ⟨⟨some a, len, cap⟩, xs, rfl, hxl.symm, .inr ⟨a, rfl⟩, hl, hm, fun j u hj => ⟨a, rfl, ?_, fun k v hk => ?_⟩⟩
    · obtain ⟨_, _, hcell⟩ := World.cells?_some (hxs j u hj)
      have h3 := hcell 0 h0
      have hlt : 0 < (enc u).length := by rw [hsz]; exact h0
      rw [List.getElem?_eq_getElem hlt] at h3
      have := World.block_lt_of_cell? _ _ h3
      rwa [add_block, add_block] at this
    · obtain ⟨_, _, hcell⟩ := World.cells?_some (hxs j u hj)
      rw [hcell k (by rw [← hsz u]; exact (List.getElem?_eq_some_iff.1 hk).1)]
      exact hk
end Go.Proofs.YtpklkijdlnioaaaGreat.Eng
