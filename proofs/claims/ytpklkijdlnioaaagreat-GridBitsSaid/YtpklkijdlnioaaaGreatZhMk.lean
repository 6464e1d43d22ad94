/- Special tokens: the set, walked by the engine. -/
import Derived.Test.YtpklkijdlnioaaaGreatZhTk
set_option linter.unusedVariables false
set_option linter.unusedSimpArgs false
set_option maxRecDepth 100000
namespace Go.Proofs.YtpklkijdlnioaaaGreat.Eng
open Go Go.RowKit
theorem look_zipf {α κ : Type} [DecidableEq κ] [BEq κ] [LawfulBEq κ] (f : α → κ) (m : κ) : ∀ (l : List α) (k : Nat), look m ((l.zipIdx k).map fun x => (f x.1, Value.int .i64 (x.2 : Int))) = ((l.map f).idxOf? m).map fun i => Value.int .i64 ((k + i : Nat) : Int)
  | [], k => rfl
  | e :: l, k => by
    simp only [List.zipIdx_cons, List.map_cons, look, List.idxOf?_cons]
    by_cases h : m = f e
    · simp [h]
    · rw [if_neg h, look_zipf f m l (k + 1)]
      have : (f e == m) = false := by simp; exact fun e' => h e'.symm
      rw [this]
      simp only [Bool.false_eq_true, if_false, Option.map_map]
      congr 1
      funext i
      simp
      omega
def imap (xs : List (Int × Bs)) : List (Int × Value) := xs.zipIdx.map fun x => (x.1.1, .int .i64 (x.2 : Int))
def tmap (xs : List (Int × Bs)) : List (Bs × Value) := xs.zipIdx.map fun x => (x.1.2, .int .i64 (x.2 : Int))
theorem imap_snoc (xs : List (Int × Bs)) (x : Int × Bs) : imap (xs ++ [x]) = imap xs ++ [(x.1, .int .i64 (xs.length : Int))] := by simp [imap, List.zipIdx_append]
theorem tmap_snoc (xs : List (Int × Bs)) (x : Int × Bs) : tmap (xs ++ [x]) = tmap xs ++ [(x.2, .int .i64 (xs.length : Int))] := by simp [tmap, List.zipIdx_append]
theorem look_imap (xs : List (Int × Bs)) (k : Int) : look k (imap xs) = ((xs.map (·.1)).idxOf? k).map fun i : Nat => Value.int .i64 (i : Int) := by
  have := look_zipf (fun x : Int × Bs => x.1) k xs 0
  simpa [imap] using this
theorem look_tmap (xs : List (Int × Bs)) (k : Bs) : look k (tmap xs) = ((xs.map (·.2)).idxOf? k).map fun i : Nat => Value.int .i64 (i : Int) := by
  have := look_zipf (fun x : Int × Bs => x.2) k xs 0
  simpa [tmap] using this
theorem idx_mem {κ : Type} [BEq κ] [LawfulBEq κ] {l : List κ} {k : κ} : (l.idxOf? k).isSome = true ↔ k ∈ l := by
  cases h : l.idxOf? k with
  | none =>
    have := List.idxOf?_eq_none_iff.1 h
    simp [this]
  | some i =>
    have : k ∈ l := by
      rcases Classical.em (k ∈ l) with h' | h'
      · exact h'
      · rw [List.idxOf?_eq_none_iff.2 h'] at h; cases h
    simp [this]

abbrev tSet : TypeId := 196
abbrev tMapI : TypeId := 100
theorem undMapI : Tryz.prog.underlying tMapI = some (.map tInt tInt) := by kernel_rfl
def mostOf (xs : List (Int × Bs)) : Int := xs.foldl (fun n x => if (x.2.length : Int) > n then (x.2.length : Int) else n) 0
def firstOf (xs : List (Int × Bs)) (i : Nat) : Bool := xs.any fun x => x.2.head?.map (·.toNat) == some i
structure SetCells (c : Array Value) (l : Sl) (mi mt : Nat) (xs : List (Int × Bs)) : Prop where
  size : c.size = 260
  c0 : c[0]? = some l.v
  c1 : c[1]? = some (.map (some mi))
  c2 : c[2]? = some (.map (some mt))
  most : c[259]? = some (.int .i64 (mostOf xs))
  first : ∀ i, i < 256 → c[3 + i]? = some (.bool (firstOf xs i))
structure MkRaw (w : World) (B p : Nat) (l : Sl) (mi mt : Nat) (c : Array Value) (xs : List (Int × Bs)) : Prop where
  blk : w.heap[p]? = some (.cells c tSet (0, 0))
  cells : SetCells c l mi mt xs
  row : w.ownsRow B tSp 2 l.v l.n (xs.flatMap encSpecial)
  len : l.n = xs.length
  off : l.v.ownBlock ≠ some p
  ids : MapIs intKey w mi (imap xs)
  texts : MapIs strKey w mt (tmap xs)
  bp : B ≤ p
  bi : B ≤ mi
  bt : B ≤ mt
  ne : mi ≠ mt
theorem MkRaw.on {w w' : World} {B p : Nat} {l : Sl} {mi mt : Nat} {c : Array Value} {xs : List (Int × Bs)} (h : MkRaw w B p l mi mt c xs) (hb : Below w.heap.size w w') : MkRaw w' B p l mi mt c xs :=
  ⟨held_on hb h.blk, h.cells, own_on h.row hb, h.len, h.off, h.ids.on hb, h.texts.on hb, h.bp, h.bi, h.bt, h.ne⟩
theorem drew_on (w : World) : Below w.heap.size w w.drew := (Below.refl _ _).drew
def MkAt (w : World) (B p : Nat) (xs : List (Int × Bs)) : Prop := ∃ l mi mt c, MkRaw w B p l mi mt c xs
def MkIs (w : World) (p : Nat) (xs : List (Int × Bs)) : Prop := ∃ (l : Sl) (mi mt : Nat) (c : Array Value), w.heap[p]? = some (.cells c tSet (0, 0)) ∧ SetCells c l mi mt xs ∧ l.n = xs.length ∧ Rw encSpecial 2 w l.a xs ∧ MapIs intKey w mi (imap xs) ∧ MapIs strKey w mt (tmap xs)
theorem MkIs.on {w w' : World} {p : Nat} {xs : List (Int × Bs)} (h : MkIs w p xs) (hb : Below w.heap.size w w') : MkIs w' p xs := by
  obtain ⟨l, mi, mt, c, h1, h2, h3, h4, h5, h6⟩ := h
  exact ⟨l, mi, mt, c, held_on hb h1, h2, h3, h4.on hb, h5.on hb, h6.on hb⟩
theorem MkAt.on {w w' : World} {B p : Nat} {xs : List (Int × Bs)} (h : MkAt w B p xs) (hb : Below w.heap.size w w') : MkAt w' B p xs := by
  obtain ⟨l, mi, mt, c, h⟩ := h
  exact ⟨l, mi, mt, c, held_on hb h.blk, h.cells, own_on h.row hb, h.len, h.off, h.ids.on hb, h.texts.on hb, h.bp, h.bi, h.bt, h.ne⟩
theorem encSpecial_len (x : Int × Bs) : (encSpecial x).length = 2 := rfl
theorem MkAt.is {w : World} {B p : Nat} {xs : List (Int × Bs)} (h : MkAt w B p xs) : MkIs w p xs := by
  obtain ⟨l, mi, mt, c, h⟩ := h
  exact ⟨l, mi, mt, c, h.blk, h.cells, h.len, (Rw.of_own h.row encSpecial_len (by decide)).1, h.ids, h.texts⟩
theorem MkIs.lt {w : World} {p : Nat} {xs : List (Int × Bs)} (h : MkIs w p xs) : p < w.heap.size := by
  obtain ⟨l, mi, mt, c, h1, _⟩ := h
  exact (Array.getElem?_eq_some_iff.1 h1).1

theorem markItem_spec (i : Nat) (hi : i ≤ 1000000) (w : World) : Calls Tryz.prog 126 #[.int .i64 (i : Int)] w fun e w' => e = .returned (.int .i64 (-1 - (i : Int))) ∧ w' = w := by
  refine calls_ret (vc126_calls (i : Int) w (fun v w' => v = .int .i64 (-1 - (i : Int)) ∧ w' = w) ?_) (by rintro v w' ⟨rfl, h⟩; exact ⟨rfl, h⟩)
  exact Ar.ok64 (by omega) (by omega) ⟨rfl, rfl⟩
def markOf (xs : List (Int × Bs)) (id : Int) : Option Nat := (xs.map (·.1)).idxOf? id
theorem markMark_spec (w : World) (p : Nat) (xs : List (Int × Bs)) (h : MkIs w p xs) (hx : xs.length ≤ 1000000) (id : Int) : Calls Tryz.prog 93 #[.pointer (some ⟨p, 0, none⟩), .int .i64 id] w fun e w' => e = .returned (.tuple #[.int .i64 (((markOf xs id).map fun i : Nat => -1 - (i : Int)).getD 0), .bool (markOf xs id).isSome]) ∧ w' = w := by
  obtain ⟨l, mi, mt, c, h1, h2, h3, h4, h5, h6⟩ := h
  refine calls_ret (vc93_calls (some ⟨p, 0, none⟩) id w (fun v w' => v = .tuple #[.int .i64 (((markOf xs id).map fun i : Nat => -1 - (i : Int)).getD 0), .bool (markOf xs id).isSome] ∧ w' = w) ?_) (by rintro v w' ⟨rfl, h⟩; exact ⟨rfl, h⟩)
  refine CondP.no rfl (NilC.mk _ rfl ⟨some mi, by rw [ptr_add0 p w h1]; exact h2.c1, ?_⟩)
  have hl := run_look keysI undMapI zeroInt h5 id
  rw [look_imap] at hl
  unfold markOf
  cases hx' : (xs.map (·.1)).idxOf? id with
  | none =>
    rw [hx'] at hl
    exact ⟨0, false, w, hl, CondP.yes rfl ⟨rfl, rfl⟩⟩
  | some i =>
    rw [hx'] at hl
    have hi : i < xs.length := by
      have := (List.idxOf?_eq_some_iff.1 hx').1
      simpa using this
    refine ⟨_, true, w, hl, CondP.no rfl ?_⟩
    refine (markItem_spec i (by omega) w).mono ?_
    rintro e w2 ⟨rfl, hw⟩
    subst hw
    exact ⟨_, rfl, rfl, rfl⟩
theorem ones_special (a : Int) (b : ByteArray) : ∀ v ∈ [Value.int .i64 a, Value.string b], v.oneCell' = true := by
  intro v hv
  simp only [List.mem_cons, List.not_mem_nil, or_false] at hv
  rcases hv with rfl | rfl <;> rfl
theorem special_local (w w1 : World) (x : Int × Bs) (hw1 : w1 = w.alloc (.cells #[.int .i64 x.1, .string (str x.2)] tSp)) (j : Nat) : w1.cell? ((nb w).add j) = (#[Value.int .i64 x.1, Value.string (str x.2)] : Array Value)[j]? := by
  subst hw1
  rw [add_lit, Nat.zero_add, cell_new]
theorem markRight_spec (x : Int × Bs) (w : World) : Calls Tryz.prog 193 #[.agg #[.int .i64 x.1, .string (str x.2)]] w fun e w' => e = .returned (.bool (specialOk x)) ∧ Below w.heap.size w w' := by
  refine calls_ret (vc193_calls x.1 (str x.2) w (fun v w' => v = .bool (specialOk x) ∧ Below w.heap.size w w') ?_) (by rintro v w' ⟨rfl, h⟩; exact ⟨rfl, h⟩)
  intro w1 hw1
  have hb : Below w.heap.size w w1 := by subst hw1; exact below_alloc _ _
  have hc := special_local w w1 x hw1
  have off : specialOk x = false → (Value.bool false = .bool (specialOk x) ∧ Below w.heap.size w w1) := fun h => ⟨by rw [h], hb⟩
  refine ⟨x.1, hc 0, CondP.mk (fun h1 => ?_) fun h1 => off ?_⟩
  · have h1 := of_decide_eq_true h1
    refine ⟨x.1, hc 0, CondP.mk (fun h2 => ?_) fun h2 => off ?_⟩
    · have h2 := of_decide_eq_true h2
      refine ⟨_, hc 1, CondP.mk (fun h3 => ?_) fun h3 => off ?_⟩
      · refine ⟨_, hc 1, ?_, hb⟩
        congr 1
        rw [str_size]
        have : x.2 ≠ [] := by
          intro e
          rw [e] at h3
          simp at h3
        have : 0 < x.2.length := List.length_pos_iff.2 this
        unfold specialOk
        exact decide_eq_decide.2 (by omega)
      · have : x.2 = [] := by
          rw [str_toList] at h3
          simpa using h3
        unfold specialOk
        exact decide_eq_false (by rw [this]; simp)
    · have h2 := of_decide_eq_false h2
      unfold specialOk
      exact decide_eq_false (by omega)
  · have h1 := of_decide_eq_false h1
    unfold specialOk
    exact decide_eq_false (by omega)
def markAdd (xs : List (Int × Bs)) (x : Int × Bs) : Int := if specialOk x = false then 1 else if 32 ≤ xs.length then 3 else if x.1 ∈ xs.map (·.1) ∨ x.2 ∈ xs.map (·.2) then 10 else 0
def MarkPost (w : World) (B p : Nat) (xs : List (Int × Bs)) (x : Int × Bs) (v : Value) (w' : World) : Prop := Below B w w' ∧ v = .int .i64 (markAdd xs x) ∧ (markAdd xs x = 0 → MkAt w' B p (xs ++ [x]))
theorem mostOf_snoc (xs : List (Int × Bs)) (x : Int × Bs) : mostOf (xs ++ [x]) = if (x.2.length : Int) > mostOf xs then (x.2.length : Int) else mostOf xs := by simp [mostOf]
theorem markAdd_spec (w : World) (B p : Nat) (xs : List (Int × Bs)) (h : MkAt w B p xs) (hB : B ≤ w.heap.size) (x : Int × Bs) :
    Calls Tryz.prog 154 #[.pointer (some ⟨p, 0, none⟩), .agg #[.int .i64 x.1, .string (str x.2)]] w fun e w' => ∃ v, e = .returned v ∧ MarkPost w B p xs x v w' := by
  refine vc154_calls (some ⟨p, 0, none⟩) x.1 (str x.2) w (MarkPost w B p xs x) ?_
  intro w1 hw1
  have hb1 : Below w.heap.size w w1 := by subst hw1; exact below_alloc _ _
  intro w2 hw2
  have hb2 : Below w.heap.size w w2 := by subst hw2; exact hb1.drew
  have hh2 : w2.heap = w1.heap := by subst hw2; rfl
  have hsz2 : w2.heap.size = w.heap.size + 1 := by rw [hh2]; subst hw1; rw [alloc_size]
  have hc2 : ∀ j, w2.cell? ((nb w).add j) = (#[Value.int .i64 x.1, Value.string (str x.2)] : Array Value)[j]? := by
    intro j
    rw [← special_local w w1 x hw1 j]
    subst hw2
    rfl
  obtain ⟨l, mi, mt, c, hM⟩ := h.on hb2
  have hcell : ∀ j, w2.cell? ((⟨p, 0, none⟩ : Addr).add j) = c[j]? := fun j => ptr_add0 p _ hM.blk j
  have hL := run_look keysI undMapI zeroInt hM.ids x.1
  rw [look_imap] at hL
  obtain ⟨r0, r1, hr1, hL⟩ : ∃ (r0 : Int) (r1 : Bool), (r1 = true ↔ x.1 ∈ xs.map (·.1)) ∧ (Instr.lookup tMapI (Value.map (some mi)) (intKey x.1) true).run Tryz.prog w2 = .ok (Value.tuple #[Value.int .i64 r0, Value.bool r1]) w2 := by
    have hm := idx_mem (l := xs.map (·.1)) (k := x.1)
    cases hx : (xs.map (·.1)).idxOf? x.1 with
    | none => rw [hx] at hL hm; exact ⟨0, false, hm, hL⟩
    | some i => rw [hx] at hL hm; exact ⟨_, true, hm, hL⟩
  refine NilC.mk _ rfl ⟨some mi, by rw [hcell]; exact hM.cells.c1, x.1, hc2 0, r0, r1, w2, hL, ?_⟩
  intro w4 hw4
  have hh4 : w4.heap = w2.heap := by subst hw4; rfl
  have hb4 : Below w.heap.size w w4 := by subst hw4; exact hb2.drew
  have hcell4 : ∀ j, w4.cell? ((⟨p, 0, none⟩ : Addr).add j) = c[j]? := fun j => by rw [← hcell j]; subst hw4; rfl
  have hc4 : ∀ j, w4.cell? ((nb w).add j) = (#[Value.int .i64 x.1, Value.string (str x.2)] : Array Value)[j]? := fun j => by rw [← hc2 j]; subst hw4; rfl
  have hM4 : MkRaw w4 B p l mi mt c xs := by subst hw4; exact hM.on (drew_on _)
  have hL := run_look keysB undMapB zeroInt hM4.texts x.2
  rw [look_tmap] at hL
  obtain ⟨r4, r5, hr5, hL⟩ : ∃ (r4 : Int) (r5 : Bool), (r5 = true ↔ x.2 ∈ xs.map (·.2)) ∧ (Instr.lookup tMapB (Value.map (some mt)) (strKey x.2) true).run Tryz.prog w4 = .ok (Value.tuple #[Value.int .i64 r4, Value.bool r5]) w4 := by
    have hm := idx_mem (l := xs.map (·.2)) (k := x.2)
    cases hx : (xs.map (·.2)).idxOf? x.2 with
    | none => rw [hx] at hL hm; exact ⟨0, false, hm, hL⟩
    | some i => rw [hx] at hL hm; exact ⟨_, true, hm, hL⟩
  refine NilC.mk _ rfl ⟨some mt, by rw [hcell4]; exact hM.cells.c2, _, hc4 1, r4, r5, w4, hL, x.1, _, ⟨by have := hc4 0; rwa [add_zero] at this, hc4 1, trivial⟩, ?_⟩
  refine (markRight_spec x w4).mono ?_
  rintro e w6 ⟨rfl, hb6'⟩
  have hb6 : Below w.heap.size w w6 := hb4.trans (hb6'.mono hb4.size)
  have hM6 : MkRaw w6 B p l mi mt c xs := ⟨held_on hb6' hM4.blk, hM4.cells, own_on hM4.row hb6', hM4.len, hM4.off, hM4.ids.on hb6', hM4.texts.on hb6', hM4.bp, hM4.bi, hM4.bt, hM4.ne⟩
  have hcell6 : ∀ j, w6.cell? ((⟨p, 0, none⟩ : Addr).add j) = c[j]? := fun j => ptr_add0 p _ hM6.blk j
  have fail : ∀ n : Int, n ≠ 0 → markAdd xs x = n → MarkPost w B p xs x (.int .i64 n) w6 := fun n h0 hn => ⟨hb6.mono hB, by rw [hn], fun h => absurd (hn ▸ h) h0⟩
  refine ⟨_, rfl, CondP.mk (fun h0 => fail 1 (by decide) ?_) fun h0 => ?_⟩
  · rw [markAdd, if_pos (by simpa using h0)]
  have hok : specialOk x = true := by simpa using h0
  refine NilC.mk _ rfl ⟨l.a, l.n, l.c, by rw [hcell6]; exact hM.cells.c0, CondP.mk (fun h1 => fail 3 (by decide) ?_) fun h1 => ?_⟩
  · have h1 := of_decide_eq_true h1
    rw [markAdd, if_neg (by rw [hok]; simp), if_pos (by rw [← hM.len]; omega)]
  have h1 := of_decide_eq_false h1
  have hlen := hM.len
  have hk : ¬ 32 ≤ xs.length := by rw [← hlen]; omega
  refine CondP.mk (fun h2 => fail 10 (by decide) ?_) fun h2 => CondP.mk (fun h3 => fail 10 (by decide) ?_) fun h3 => ?_
  · rw [markAdd, if_neg (by rw [hok]; simp), if_neg hk, if_pos (.inl (hr1.1 h2))]
  · rw [markAdd, if_neg (by rw [hok]; simp), if_neg hk, if_pos (.inr (hr5.1 h3))]
  have n1 : x.1 ∉ xs.map (·.1) := fun h => by rw [hr1.2 h] at h2; cases h2
  have n2 : x.2 ∉ xs.map (·.2) := fun h => by rw [hr5.2 h] at h3; cases h3
  have hadd : markAdd xs x = 0 := by rw [markAdd, if_neg (by rw [hok]; simp), if_neg hk, if_neg (fun h => h.elim n1 n2)]
  have hkl : 1 ≤ x.2.length ∧ x.2.length ≤ 64 := by
    have := of_decide_eq_true (by simpa [specialOk] using hok : decide _ = true)
    omega
  intro w7 hw7
  have hh7 : w7.heap = w6.heap := by subst hw7; rfl
  have hb7 : Below w.heap.size w w7 := by subst hw7; exact hb6.drew
  have hM7 : MkRaw w7 B p l mi mt c xs := by subst hw7; exact hM6.on (drew_on _)
  have hcell7 : ∀ j, w7.cell? ((⟨p, 0, none⟩ : Addr).add j) = c[j]? := fun j => ptr_add0 p _ hM7.blk j
  have hloc4 : w4.heap[w.heap.size]? = some (.cells #[Value.int .i64 x.1, Value.string (str x.2)] tSp) := by
    rw [hh4, hh2]
    subst hw1
    exact alloc_new _ _
  have hloc7 : w7.heap[w.heap.size]? = some (.cells #[Value.int .i64 x.1, Value.string (str x.2)] tSp) := by rw [hh7]; exact held_on hb6' hloc4
  have loc : ∀ w' : World, w'.heap[w.heap.size]? = w7.heap[w.heap.size]? → ∀ j, w'.cell? ((nb w).add j) = (#[Value.int .i64 x.1, Value.string (str x.2)] : Array Value)[j]? := fun w' hw' j => by
    rw [hloc7] at hw'
    exact ptr_add0 _ _ hw' j
  have hpw : p < w.heap.size := h.is.lt
  have hmip : mi ≠ p := map_ne_blk hM7.blk hM7.ids
  have hmtp : mt ≠ p := map_ne_blk hM7.blk hM7.texts
  have hmiw : mi ≠ w.heap.size := map_ne_blk hloc7 hM7.ids
  have hmtw : mt ≠ w.heap.size := map_ne_blk hloc7 hM7.texts
  refine NilC.mk _ rfl ⟨some mi, by rw [hcell7]; exact hM.cells.c1, x.1, loc w7 rfl 0, NilC.mk _ rfl ⟨some mt, by rw [hcell7]; exact hM.cells.c2, _, loc w7 rfl 1, NilC.mk _ rfl ⟨l.a, l.n, l.c, by rw [hcell7]; exact hM.cells.c0, NilC.mk _ rfl ⟨l.a, l.n, l.c, by rw [hcell7]; exact hM.cells.c0, ?_⟩⟩⟩⟩
  obtain ⟨k1, w8, hr8, hp8, hs8, hz8, hB8⟩ := run_entry_new keysI undMapI zeroInt hM7.ids x.1 (by rw [look_imap, List.idxOf?_eq_none_iff.2 n1]; rfl)
  obtain ⟨w9, hr9, hm9, hs9, hz9, hB9⟩ := run_store_new tMapI hp8 (.int .i64 (l.n : Int))
  have ht9 : MapIs strKey w9 mt (tmap xs) := hM7.texts.same (by rw [hs9 mt hM.ne.symm, hs8 mt hM.ne.symm])
  obtain ⟨k2, w10, hr10, hp10, hs10, hz10, hB10⟩ := run_entry_new keysB undMapB zeroInt ht9 x.2 (by rw [look_tmap, List.idxOf?_eq_none_iff.2 n2]; rfl)
  obtain ⟨w11, hr11, hm11, hs11, hz11, hB11⟩ := run_store_new tMapB hp10 (.int .i64 (l.n : Int))
  have hblk8 : w8.heap[p]? = some (.cells c tSet (0, 0)) := by rw [hs8 p (Ne.symm hmip)]; exact hM7.blk
  refine ⟨0, k1, w8, hr8, ⟨by rw [ptr_add0 p _ hblk8]; exact hM.cells.c0, trivial⟩, ⟨loc w8 (hs8 _ (Ne.symm hmiw)) 1, trivial⟩, w9, hr9, ⟨loc w9 (by rw [hs9 _ (Ne.symm hmiw), hs8 _ (Ne.symm hmiw)]) 1, trivial⟩, 0, k2, w10, hr10, w11, hr11, ?_⟩
  have h11 : ∀ k, k ≠ mi → k ≠ mt → w11.heap[k]? = w7.heap[k]? := fun k h1 h2 => by rw [hs11 k h2, hs10 k h2, hs9 k h1, hs8 k h1]
  have hsz7 : w11.heap.size = w7.heap.size := by rw [hz11, hz10, hz9, hz8]
  intro w12 hw12
  have hh12 : w12.heap = w11.heap := by subst hw12; rfl
  have hblk12 : w12.heap[p]? = some (.cells c tSet (0, 0)) := by rw [hh12, h11 p (Ne.symm hmip) (Ne.symm hmtp)]; exact hM7.blk
  have hb12 : Below B w w12 := by
    have := hB11 _ _ hM.bt (hB10 _ _ hM.bt (hB9 _ _ hM.bi (hB8 _ _ hM.bi (hb7.mono hB))))
    subst hw12
    exact this.drew
  have hw12' : ∀ w' : World, w'.heap[w.heap.size]? = w12.heap[w.heap.size]? → ∀ j, w'.cell? ((nb w).add j) = (#[Value.int .i64 x.1, Value.string (str x.2)] : Array Value)[j]? := fun w' hw' j => loc w' (by rw [hw', hh12, h11 _ (Ne.symm hmiw) (Ne.symm hmtw)]) j
  obtain ⟨b0, t0, hx0⟩ : ∃ b0 t0, x.2 = b0 :: t0 := by
    cases hx : x.2 with
    | nil => rw [hx] at hkl; simp at hkl
    | cons a t => exact ⟨a, t, rfl⟩
  have hbt : btAt (str x.2) 0 = (b0.toNat : Int) := by
    have := btAt_str x.2 0 (by omega)
    rw [show ((0 : Nat) : Int) = 0 from rfl] at this
    rw [this]
    simp [hx0]
  have hb0 : b0.toNat < 256 := b0.toNat_lt
  have hadr : ((⟨p, 0, none⟩ : Addr).add 3).add ((b0.toNat : Int).toNat * 1) = (⟨p, 0, none⟩ : Addr).add (3 + b0.toNat) := by
    rw [add_lit, add_lit, add_lit]
    simp
  refine ⟨_, hw12' w12 rfl 1, Int.le_refl _, by rw [str_size]; omega, NilC.mk _ rfl ?_⟩
  rw [hbt, hadr]
  refine ⟨by omega, by omega, rfl, ⟨_, by rw [ptr_add0 p _ hblk12]; exact hM.cells.first _ hb0⟩, frozen_put hblk12, ?_⟩
  intro w13 hw13
  have hblk13 : w13.heap[p]? = some (.cells (c.setIfInBounds (3 + b0.toNat) (.bool true)) tSet (0, 0)) := by subst hw13; exact heap_put hblk12 _
  have hb13 : Below B w w13 := by subst hw13; exact below_put hb12 hM.bp _
  have hs13 : ∀ k, k ≠ p → w13.heap[k]? = w12.heap[k]? := fun k hk => by subst hw13; exact heap_setCell_ne (by rw [add_block]; exact hk)
  have hz13 : w13.heap.size = w12.heap.size := by subst hw13; exact size_setCell _ _ _
  intro w14 hw14
  have hh14 : w14.heap = w13.heap := by subst hw14; rfl
  have hblk14 : w14.heap[p]? = some (.cells (c.setIfInBounds (3 + b0.toNat) (.bool true)) tSet (0, 0)) := by rw [hh14]; exact hblk13
  have hcs := hM.cells.size
  refine NilC.mk _ rfl ⟨mostOf xs, by rw [ptr_add0 p _ hblk14, Array.getElem?_setIfInBounds_ne (by omega)]; exact hM.cells.most, _, hw12' w14 (by rw [hh14, hs13 _ (by omega)]) 1, _, w14, run_max2 _ _ _ _ _, NilC.mk _ rfl ⟨rfl, ⟨_, by rw [ptr_add0 p _ hblk14, Array.getElem?_setIfInBounds_ne (by omega)]; exact hM.cells.most⟩, frozen_put hblk14, ?_⟩⟩
  rw [str_size, ← mostOf_snoc]
  intro w16 hw16
  have hblk16 : w16.heap[p]? = some (.cells ((c.setIfInBounds (3 + b0.toNat) (.bool true)).setIfInBounds 259 (.int .i64 (mostOf (xs ++ [x])))) tSet (0, 0)) := by subst hw16; exact heap_put hblk14 _
  have hb16 : Below B w w16 := by
    subst hw16
    refine below_put ?_ hM.bp _
    subst hw14
    exact hb13.drew
  have hs16 : ∀ k, k ≠ p → w16.heap[k]? = w12.heap[k]? := fun k hk => by
    rw [← hs13 k hk, ← hh14]
    subst hw16
    exact heap_setCell_ne (by rw [add_block]; exact hk)
  have hz16 : w16.heap.size = w12.heap.size := by rw [← hz13, ← hh14]; subst hw16; exact size_setCell _ _ _
  intro w17 hw17
  have hh17 : w17.heap = w16.heap := by subst hw17; rfl
  have hb17 : Below B w w17 := by subst hw17; exact hb16.drew
  have hblk17 : w17.heap[p]? = some (.cells ((c.setIfInBounds (3 + b0.toNat) (.bool true)).setIfInBounds 259 (.int .i64 (mostOf (xs ++ [x])))) tSet (0, 0)) := by rw [hh17]; exact hblk16
  have hc17 : ((c.setIfInBounds (3 + b0.toNat) (.bool true)).setIfInBounds 259 (.int .i64 (mostOf (xs ++ [x]))))[0]? = some l.v := by
    rw [Array.getElem?_setIfInBounds_ne (by omega), Array.getElem?_setIfInBounds_ne (by omega)]
    exact hM.cells.c0
  have hsame : ∀ k, k ≠ p → k ≠ mi → k ≠ mt → w17.heap[k]? = w7.heap[k]? := fun k h1 h2 h3 => by rw [hh17, hs16 k h1, hh12, h11 k h2 h3]
  have hrow17 : w17.ownsRow B tSp 2 l.v l.n (xs.flatMap encSpecial) := own_same hM7.row fun k hk => hsame k (fun e => hM.off (e ▸ hk)) (fun e => row_not_map hM7.row hM7.ids (e ▸ hk)) (fun e => row_not_map hM7.row hM7.texts (e ▸ hk))
  have hi17 : MapIs intKey w17 mi (imap (xs ++ [x])) := by
    rw [imap_snoc, ← hlen]
    exact hm9.same (by rw [hh17, hs16 _ hmip, hh12, hs11 _ hM.ne, hs10 _ hM.ne])
  have ht17 : MapIs strKey w17 mt (tmap (xs ++ [x])) := by
    rw [tmap_snoc, ← hlen]
    exact hm11.same (by rw [hh17, hs16 _ hmtp, hh12])
  have hsz17 : w7.heap.size = w17.heap.size := by rw [hh17, hz16, hh12, hsz7]
  have hw17 : w.heap.size < w17.heap.size := by
    have := (Array.getElem?_eq_some_iff.1 hloc7).1
    omega
  have hc17' := hw12' w17 (by rw [hh17, hs16 _ (by omega)])
  obtain ⟨a', c', w19, hr19, hu19, hf19, h20⟩ := obj_push1 (P := Tryz.prog) (s := l) 0 hblk17 (by simp; omega) hrow17 hM.off hM.bp 25 undSps infoSp rfl (by decide) (encSpecial x) rfl (ones_special _ _) (by omega) (by omega)
  refine NilC.mk _ rfl ⟨l.a, l.n, l.c, by rw [ptr_add0 p _ hblk17]; exact hc17, x.1, _, ⟨by have := hc17' 0; rwa [add_zero] at this, hc17' 1, trivial⟩, ?_⟩
  rintro w18 rfl
  refine ⟨⟨by rw [(below_alloc w17 _).cell (by rw [add_block]; exact (Array.getElem?_eq_some_iff.1 hblk17).1), ptr_add0 p _ hblk17]; exact hc17, trivial⟩, a', l.n + 1, c', w19, hr19, NilC.mk _ rfl ⟨rfl, hu19, hf19, ?_⟩⟩
  intro w20 hw20
  obtain ⟨hblk20, hrow20, hoff20, hB20, hkeep20, hsz20⟩ := h20 w20 hw20
  refine ⟨hB20 w hb17, by rw [hadd], fun _ => ⟨⟨a', l.n + 1, c'⟩, mi, mt, _, hblk20, ⟨by simp [hcs], ?_, ?_, ?_, ?_, ?_⟩, ?_, by simp; omega, hoff20, ?_, ?_, hM.bp, hM.bi, hM.bt, hM.ne⟩⟩
  · rw [Array.getElem?_setIfInBounds_self_of_lt (by simp; omega)]
  · rw [Array.getElem?_setIfInBounds_ne (by omega), Array.getElem?_setIfInBounds_ne (by omega), Array.getElem?_setIfInBounds_ne (by omega)]
    exact hM.cells.c1
  · rw [Array.getElem?_setIfInBounds_ne (by omega), Array.getElem?_setIfInBounds_ne (by omega), Array.getElem?_setIfInBounds_ne (by omega)]
    exact hM.cells.c2
  · rw [Array.getElem?_setIfInBounds_ne (by omega), Array.getElem?_setIfInBounds_self_of_lt (by simp; omega)]
  · intro i hi
    rw [Array.getElem?_setIfInBounds_ne (by omega), Array.getElem?_setIfInBounds_ne (by omega)]
    have hf : firstOf (xs ++ [x]) i = (firstOf xs i || decide (b0.toNat = i)) := by
      simp [firstOf, hx0, Bool.beq_eq_decide_eq]
    rw [hf]
    by_cases he : b0.toNat = i
    · subst he
      rw [Array.getElem?_setIfInBounds_self_of_lt (by omega)]
      simp
    · rw [Array.getElem?_setIfInBounds_ne (by omega), hM.cells.first i hi, decide_eq_false he, Bool.or_false]
  · have hflat : (xs ++ [x]).flatMap encSpecial = xs.flatMap encSpecial ++ encSpecial x := by simp
    rw [hflat]
    exact hrow20
  · exact hi17.same (hkeep20 mi hi17.lt hmip (row_not_map hrow17 hi17))
  · exact ht17.same (hkeep20 mt ht17.lt hmtp (row_not_map hrow17 ht17))
def markErr : List (Int × Bs) → Nat → List (Int × Bs) → Option (Nat × Int)
  | _, _, [] => none
  | xs, i, x :: r => if markAdd xs x = 0 then markErr (xs ++ [x]) (i + 1) r else some (i, markAdd xs x)
def MarkNewPost (w : World) (xs : List (Int × Bs)) (v : Value) (w' : World) : Prop := Below w.heap.size w w' ∧ match markErr [] 0 xs with
  | some q => v = .tuple #[.pointer none, .int .i64 q.1, .int .i64 q.2]
  | none => ∃ p, v = .tuple #[.pointer (some ⟨p, 0, none⟩), .int .i64 xs.length, .int .i64 0] ∧ MkAt w' w.heap.size p xs
theorem markNew_spec (w : World) (a : Option Addr) (c : Nat) (xs : List (Int × Bs)) (hr : Rw encSpecial 2 w a xs) (hl : xs.length ≤ 1000000000) :
    Calls Tryz.prog 115 #[.slice a xs.length c] w fun e w' => ∃ v, e = .returned v ∧ MarkNewPost w xs v w' := by
  refine vc115_calls a xs.length c w (MarkNewPost w xs) ?_
  refine ⟨some w.heap.size, _, run_make _, some (w.alloc (.map #[] 0)).heap.size, _, run_make _, ?_⟩
  rintro w3 hw3
  have hz1 : (w.alloc (.map #[] 0)).heap.size = w.heap.size + 1 := alloc_size _ _
  have hz2 : ((w.alloc (.map #[] 0)).alloc (.map #[] 0)).heap.size = w.heap.size + 2 := by rw [alloc_size, hz1]
  have hb3 : Below w.heap.size w w3 := by
    subst hw3
    exact (((Below.refl _ _).alloc (Nat.le_refl _) _).alloc (by omega) _).alloc (by omega) _
  have hT3 : MkAt w3 w.heap.size (w.heap.size + 2) (xs.take 0) := by
    subst hw3
    refine ⟨⟨none, 0, 0⟩, w.heap.size, w.heap.size + 1, List.toArray ([Value.slice none 0 0, Value.map (some w.heap.size), Value.map (some (w.alloc (.map #[] 0)).heap.size)] ++ List.replicate 256 (Value.bool false) ++ [Value.int .i64 0]), ?_, ⟨?_, rfl, rfl, ?_, ?_, ?_⟩, own_nil _ _ _ _, rfl, (by intro h; cases h), ?_, ?_, by omega, by omega, by omega, by omega⟩
    · have := alloc_new ((w.alloc (.map #[] 0)).alloc (.map #[] 0)) (.cells (List.toArray ([Value.slice none 0 0, Value.map (some w.heap.size), Value.map (some (w.alloc (.map #[] 0)).heap.size)] ++ List.replicate 256 (Value.bool false) ++ [Value.int .i64 0])) tSet)
      rw [hz2] at this
      exact this
    · simp
    · rw [← hz1]; rfl
    · rfl
    · intro i hi
      simp only [List.getElem?_toArray, List.append_assoc, List.cons_append, List.nil_append]
      rw [show 3 + i = i + 1 + 1 + 1 by omega]
      simp only [List.getElem?_cons_succ]
      rw [List.getElem?_append_left (by simpa using hi), List.getElem?_replicate]
      simp [hi, firstOf]
    · exact (map_new (kv := intKey) w).same (by rw [alloc_old _ _ (by omega), alloc_old _ _ (by omega)])
    · have h0 := map_new (kv := strKey) (w.alloc (.map #[] 0))
      rw [hz1] at h0
      exact h0.same (by rw [alloc_old _ _ (by omega)])
  have hp2 : nb ((w.alloc (.map #[] 0)).alloc (.map #[] 0)) = ⟨w.heap.size + 2, 0, none⟩ := by rw [nb, hz2]
  rw [hp2]
  intro I hI
  have key := climb2 (α := Int × Int × Option Addr × World) xs.length (fun i x => MkAt x.2.2.2 w.heap.size (w.heap.size + 2) (xs.take i) ∧ markErr [] 0 xs = markErr (xs.take i) i (xs.drop i) ∧ Below w.heap.size w x.2.2.2) (fun i x => I [.int .i64 (i : Int), .int .i64 x.1, .int .i64 x.2.1, .pointer x.2.2.1] x.2.2.2) (0, 0, none, w3) ⟨hT3, by rw [List.drop_zero, List.take_zero], hb3⟩ ?_ ?_
  · exact key
  · rintro i hi ih ⟨y4, y3, y2, w4⟩ ⟨hT, heq, hB⟩
    change MkAt w4 _ _ _ at hT
    change Below w.heap.size w w4 at hB
    obtain ⟨q, hq, _, hc⟩ := (hr.on hB) i _ (List.getElem?_eq_getElem hi)
    have h0 := hc 0 _ rfl
    rw [add_zero] at h0
    refine hI _ _ _ _ _ (CondP.yes (by simp; omega) (NilC.mk q hq ⟨by omega, by omega, _, _, ⟨h0, hc 1 _ rfl, trivial⟩, ?_⟩))
    intro w5 hw5
    refine storeP_new [.int .i64 0, .string ⟨#[]⟩] [.int .i64 xs[i].1, .string (str xs[i].2)] rfl (ones_special _ _) w5 hw5 ?_
    intro w6 h6 hz6 hB6
    refine ⟨_, _, ⟨by have := ptr_add0 _ _ h6 0; rw [add_zero] at this; exact this, ptr_add0 _ _ h6 1, trivial⟩, ?_⟩
    refine (markAdd_spec w6 w.heap.size (w.heap.size + 2) (xs.take i) (hT.on hB6) (by have h1 : w.heap.size ≤ w4.heap.size := hB.size; have h2 : w6.heap.size = w4.heap.size + 1 := hz6; omega) xs[i]).mono ?_
    rintro e w7 ⟨v, rfl, hB7, rfl, hpost⟩
    have hdrop : xs.drop i = xs[i] :: xs.drop (i + 1) := List.drop_eq_getElem_cons hi
    have hB8 : Below w.heap.size w w7 := (hB.trans (hB6.mono hB.size)).trans hB7
    refine ⟨_, rfl, CondP.mk (fun h => ?_) fun h => ?_⟩
    · have h : markAdd (xs.take i) xs[i] ≠ 0 := by simpa using h
      refine ⟨hB8, ?_⟩
      rw [heq, hdrop, markErr, if_neg h]
    · have h : markAdd (xs.take i) xs[i] = 0 := by simpa using h
      have htake : xs.take (i + 1) = xs.take i ++ [xs[i]] := by rw [List.take_add_one, List.getElem?_eq_getElem hi]; rfl
      refine Ar.ok64 (by omega) (by omega) (ih (y4, y3, y2, w7) ⟨?_, ?_, hB8⟩)
      · rw [htake]
        exact hpost h
      · rw [heq, hdrop, markErr, if_pos h, htake]
  · rintro ⟨y4, y3, y2, w4⟩ ⟨hT, heq, hB⟩
    change MkAt w4 _ _ _ at hT
    refine hI _ _ _ _ _ (CondP.no (by simp) ⟨hB, ?_⟩)
    rw [heq, List.drop_length, List.take_length, markErr]
    rw [List.take_length] at hT
    exact ⟨_, rfl, hT⟩
end Go.Proofs.YtpklkijdlnioaaaGreat.Eng
