/- spec's reader's methods, walked by the engine. -/
import Derived.Test.YtldgehlbicoedaaGreatDoorSa
set_option linter.unusedVariables false
set_option linter.unusedSimpArgs false
set_option maxRecDepth 100000
namespace Go.Proofs.YtldgehlbicoedaaGreatDoor.Eng
open Go Go.RowKit

abbrev tR : TypeId := 51
abbrev tMg : TypeId := 55
abbrev tSp : TypeId := 46
abbrev tCl : TypeId := 57
abbrev tJn : TypeId := 58
theorem undMgs : Tryz.prog.underlying 23 = some (.slice tMg) := by kernel_rfl
theorem undSps : Tryz.prog.underlying 25 = some (.slice tSp) := by kernel_rfl
theorem undCls : Tryz.prog.underlying 26 = some (.slice tCl) := by kernel_rfl
theorem undJns : Tryz.prog.underlying 27 = some (.slice tJn) := by kernel_rfl
theorem infoMg : (Tryz.prog.info? tMg).map (fun i => (i.zero, i.size, i.bytes)) = some (some (.agg #[.int .i64 0, .int .i64 0]), 2, 16) := by kernel_rfl
theorem infoSp : (Tryz.prog.info? tSp).map (fun i => (i.zero, i.size, i.bytes)) = some (some (.agg #[.int .i64 0, .string ⟨#[]⟩]), 2, 24) := by kernel_rfl
theorem infoCl : (Tryz.prog.info? tCl).map (fun i => (i.zero, i.size, i.bytes)) = some (some (.agg #[.int .i64 0, .int .i64 0, .int .i64 0]), 3, 24) := by kernel_rfl
theorem infoJn : (Tryz.prog.info? tJn).map (fun i => (i.zero, i.size, i.bytes)) = some (some (.agg #[.int .i64 0, .int .i64 0]), 2, 16) := by kernel_rfl

/-- The rows of a spec. -/
abbrev row1 (x : Sl) (s : SpecV) : RowV := ⟨x, tMg, 2, s.merges.flatMap encPair⟩
abbrev row2 (x : Sl) (s : SpecV) : RowV := ⟨x, tStr, 1, s.tokens.flatMap encStr⟩
abbrev row3 (x : Sl) (s : SpecV) : RowV := ⟨x, tSp, 2, s.specials.flatMap encSpecial⟩
abbrev row4 (x : Sl) (s : SpecV) : RowV := ⟨x, tCl, 3, s.classes.flatMap encClass⟩
abbrev row5 (x : Sl) (s : SpecV) : RowV := ⟨x, tJn, 2, s.joins.flatMap encPair⟩
abbrev rdRows (x : SpecW) (s : SpecV) : List RowV := [row1 x.s1 s, row2 x.s2 s, row3 x.s3 s, row4 x.s4 s, row5 x.s5 s]
abbrev rdCells (x : SpecW) (k : Int) : Array Value := #[.bool x.ranked, x.s1.v, x.s2.v, x.s3.v, x.s4.v, x.s5.v, .int .i64 k]
/-- A reader that has gathered a spec. -/
structure RdAt (B b : Nat) (x : SpecW) (s : SpecV) (k : Int) (w : World) : Prop where
  hB : B ≤ b
  blk : w.heap[b]? = some (.cells (rdCells x k) tR (0, 0))
  rk : x.ranked = s.ranked
  rows : OwnRows w B (rdRows x s)
  off : ∀ r ∈ rdRows x s, r.blk ≠ some b
theorem RdAt.lt {B b : Nat} {x : SpecW} {s : SpecV} {k : Int} {w : World} (h : RdAt B b x s k w) : b < w.heap.size := (Array.getElem?_eq_some_iff.1 h.blk).1
theorem RdAt.on {B b : Nat} {x : SpecW} {s : SpecV} {k : Int} {w w' : World} (h : RdAt B b x s k w) (hb : Below w.heap.size w w') : RdAt B b x s k w' :=
  ⟨h.hB, by rw [hb.block b h.lt]; exact h.blk, h.rk, h.rows.on hb, h.off⟩
theorem RdAt.spec {B b : Nat} {x : SpecW} {s : SpecV} {k : Int} {w : World} (h : RdAt B b x s k w) : SpecAt w x s := by
  have o1 := Rw.of_own (h.rows.own (row1 x.s1 s) (by simp)) (fun _ => rfl) (Nat.succ_pos _)
  have o2 := Rw.of_own (h.rows.own (row2 x.s2 s) (by simp)) (fun _ => rfl) (Nat.succ_pos _)
  have o3 := Rw.of_own (h.rows.own (row3 x.s3 s) (by simp)) (fun _ => rfl) (Nat.succ_pos _)
  have o4 := Rw.of_own (h.rows.own (row4 x.s4 s) (by simp)) (fun _ => rfl) (Nat.succ_pos _)
  have o5 := Rw.of_own (h.rows.own (row5 x.s5 s) (by simp)) (fun _ => rfl) (Nat.succ_pos _)
  exact ⟨h.rk, o1.2, o1.1, o2.2, o2.1, o3.2, o3.1, o4.2, o4.1, o5.2, o5.1⟩
def SmallS (s : SpecV) : Prop := s.merges.length ≤ 1000000 ∧ s.tokens.length ≤ 1000000 ∧ s.specials.length ≤ 1000000 ∧ s.classes.length ≤ 1000000 ∧ s.joins.length ≤ 1000000
/-- What a method leaves. -/
def RdPost (B b : Nat) (o : Option SpecV) (k : Int) (ok : Bool) (w' : World) : Prop := match o with
  | some s' => ok = true ∧ ∃ x', RdAt B b x' s' k w'
  | none => ok = false


theorem rd_put1 {B b : Nat} {x : SpecW} {s : SpecV} {k : Int} {w : World} (h : RdAt B b x s k w) (hs : s.merges.length ≤ 1000000) (m : Int × Int) :
    ∃ a' c' w3, (Builtin.append_ #[23, 23] 23 #[x.s1.v, .slice (some (nb w)) 1 1]).run Tryz.prog (w.alloc (.cells (encPair m).toArray tMg)) = .ok (.slice a' (x.s1.n + 1) c') w3 ∧
      (∃ u, w3.cell? ((⟨b, 0, none⟩ : Addr).add 1) = some u) ∧ w3.frozen? ((⟨b, 0, none⟩ : Addr).add 1) = false ∧
      ∀ w4, w4 = w3.setCell ((⟨b, 0, none⟩ : Addr).add 1) (.slice a' (x.s1.n + 1) c') → RdAt B b { x with s1 := ⟨a', x.s1.n + 1, c'⟩ } { s with merges := s.merges ++ [m] } k w4 ∧ (∀ w0, Below B w0 w → Below B w0 w4) := by
  have hn : x.s1.n = s.merges.length := h.spec.n1
  obtain ⟨a', c', w3, hr, hc, hf, hk⟩ := obj_push (P := Tryz.prog) (pre := []) (post := [row2 x.s2 s, row3 x.s3 s, row4 x.s4 s, row5 x.s5 s]) (r := row1 x.s1 s) 1 h.blk (by simp) h.rows h.off h.hB 23 undMgs infoMg rfl (Nat.succ_pos _) (encPair m) rfl (by intro u hu; simp [encPair] at hu; rcases hu with rfl | rfl <;> rfl) (by dsimp only; omega) (by dsimp only; omega)
  refine ⟨a', c', w3, hr, hc, hf, ?_⟩
  rintro w4 hw4
  obtain ⟨k1, k2, k3, k4⟩ := hk w4 hw4
  have e : s.merges.flatMap encPair ++ encPair m = (s.merges ++ [m]).flatMap encPair := by simp
  dsimp only at k2 k3
  rw [e] at k2 k3
  exact ⟨⟨h.hB, k1.trans rfl, h.rk, k2, k3⟩, k4⟩

theorem rd_put2 {B b : Nat} {x : SpecW} {s : SpecV} {k : Int} {w : World} (h : RdAt B b x s k w) (hs : s.tokens.length ≤ 1000000) (m : Bs) :
    ∃ a' c' w3, (Builtin.append_ #[tStrs, tStrs] tStrs #[x.s2.v, .slice (some (nb w)) 1 1]).run Tryz.prog (w.alloc (.cells (encStr m).toArray tStr)) = .ok (.slice a' (x.s2.n + 1) c') w3 ∧
      (∃ u, w3.cell? ((⟨b, 0, none⟩ : Addr).add 2) = some u) ∧ w3.frozen? ((⟨b, 0, none⟩ : Addr).add 2) = false ∧
      ∀ w4, w4 = w3.setCell ((⟨b, 0, none⟩ : Addr).add 2) (.slice a' (x.s2.n + 1) c') → RdAt B b { x with s2 := ⟨a', x.s2.n + 1, c'⟩ } { s with tokens := s.tokens ++ [m] } k w4 ∧ (∀ w0, Below B w0 w → Below B w0 w4) := by
  have hn : x.s2.n = s.tokens.length := h.spec.n2
  obtain ⟨a', c', w3, hr, hc, hf, hk⟩ := obj_push (P := Tryz.prog) (pre := [row1 x.s1 s]) (post := [row3 x.s3 s, row4 x.s4 s, row5 x.s5 s]) (r := row2 x.s2 s) 2 h.blk (by simp) h.rows h.off h.hB tStrs undStrs infoStr rfl (Nat.succ_pos _) (encStr m) rfl (by intro u hu; simp [encStr] at hu; rcases hu with rfl; rfl) (by dsimp only; omega) (by dsimp only; omega)
  refine ⟨a', c', w3, hr, hc, hf, ?_⟩
  rintro w4 hw4
  obtain ⟨k1, k2, k3, k4⟩ := hk w4 hw4
  have e : s.tokens.flatMap encStr ++ encStr m = (s.tokens ++ [m]).flatMap encStr := by simp
  dsimp only at k2 k3
  rw [e] at k2 k3
  exact ⟨⟨h.hB, k1.trans rfl, h.rk, k2, k3⟩, k4⟩

theorem rd_put3 {B b : Nat} {x : SpecW} {s : SpecV} {k : Int} {w : World} (h : RdAt B b x s k w) (hs : s.specials.length ≤ 1000000) (m : Int × Bs) :
    ∃ a' c' w3, (Builtin.append_ #[25, 25] 25 #[x.s3.v, .slice (some (nb w)) 1 1]).run Tryz.prog (w.alloc (.cells (encSpecial m).toArray tSp)) = .ok (.slice a' (x.s3.n + 1) c') w3 ∧
      (∃ u, w3.cell? ((⟨b, 0, none⟩ : Addr).add 3) = some u) ∧ w3.frozen? ((⟨b, 0, none⟩ : Addr).add 3) = false ∧
      ∀ w4, w4 = w3.setCell ((⟨b, 0, none⟩ : Addr).add 3) (.slice a' (x.s3.n + 1) c') → RdAt B b { x with s3 := ⟨a', x.s3.n + 1, c'⟩ } { s with specials := s.specials ++ [m] } k w4 ∧ (∀ w0, Below B w0 w → Below B w0 w4) := by
  have hn : x.s3.n = s.specials.length := h.spec.n3
  obtain ⟨a', c', w3, hr, hc, hf, hk⟩ := obj_push (P := Tryz.prog) (pre := [row1 x.s1 s, row2 x.s2 s]) (post := [row4 x.s4 s, row5 x.s5 s]) (r := row3 x.s3 s) 3 h.blk (by simp) h.rows h.off h.hB 25 undSps infoSp rfl (Nat.succ_pos _) (encSpecial m) rfl (by intro u hu; simp [encSpecial] at hu; rcases hu with rfl | rfl <;> rfl) (by dsimp only; omega) (by dsimp only; omega)
  refine ⟨a', c', w3, hr, hc, hf, ?_⟩
  rintro w4 hw4
  obtain ⟨k1, k2, k3, k4⟩ := hk w4 hw4
  have e : s.specials.flatMap encSpecial ++ encSpecial m = (s.specials ++ [m]).flatMap encSpecial := by simp
  dsimp only at k2 k3
  rw [e] at k2 k3
  exact ⟨⟨h.hB, k1.trans rfl, h.rk, k2, k3⟩, k4⟩

theorem rd_put4 {B b : Nat} {x : SpecW} {s : SpecV} {k : Int} {w : World} (h : RdAt B b x s k w) (hs : s.classes.length ≤ 1000000) (m : Int × Int × Int) :
    ∃ a' c' w3, (Builtin.append_ #[26, 26] 26 #[x.s4.v, .slice (some (nb w)) 1 1]).run Tryz.prog (w.alloc (.cells (encClass m).toArray tCl)) = .ok (.slice a' (x.s4.n + 1) c') w3 ∧
      (∃ u, w3.cell? ((⟨b, 0, none⟩ : Addr).add 4) = some u) ∧ w3.frozen? ((⟨b, 0, none⟩ : Addr).add 4) = false ∧
      ∀ w4, w4 = w3.setCell ((⟨b, 0, none⟩ : Addr).add 4) (.slice a' (x.s4.n + 1) c') → RdAt B b { x with s4 := ⟨a', x.s4.n + 1, c'⟩ } { s with classes := s.classes ++ [m] } k w4 ∧ (∀ w0, Below B w0 w → Below B w0 w4) := by
  have hn : x.s4.n = s.classes.length := h.spec.n4
  obtain ⟨a', c', w3, hr, hc, hf, hk⟩ := obj_push (P := Tryz.prog) (pre := [row1 x.s1 s, row2 x.s2 s, row3 x.s3 s]) (post := [row5 x.s5 s]) (r := row4 x.s4 s) 4 h.blk (by simp) h.rows h.off h.hB 26 undCls infoCl rfl (Nat.succ_pos _) (encClass m) rfl (by intro u hu; simp [encClass] at hu; rcases hu with rfl | rfl | rfl <;> rfl) (by dsimp only; omega) (by dsimp only; omega)
  refine ⟨a', c', w3, hr, hc, hf, ?_⟩
  rintro w4 hw4
  obtain ⟨k1, k2, k3, k4⟩ := hk w4 hw4
  have e : s.classes.flatMap encClass ++ encClass m = (s.classes ++ [m]).flatMap encClass := by simp
  dsimp only at k2 k3
  rw [e] at k2 k3
  exact ⟨⟨h.hB, k1.trans rfl, h.rk, k2, k3⟩, k4⟩

theorem rd_put5 {B b : Nat} {x : SpecW} {s : SpecV} {k : Int} {w : World} (h : RdAt B b x s k w) (hs : s.joins.length ≤ 1000000) (m : Int × Int) :
    ∃ a' c' w3, (Builtin.append_ #[27, 27] 27 #[x.s5.v, .slice (some (nb w)) 1 1]).run Tryz.prog (w.alloc (.cells (encPair m).toArray tJn)) = .ok (.slice a' (x.s5.n + 1) c') w3 ∧
      (∃ u, w3.cell? ((⟨b, 0, none⟩ : Addr).add 5) = some u) ∧ w3.frozen? ((⟨b, 0, none⟩ : Addr).add 5) = false ∧
      ∀ w4, w4 = w3.setCell ((⟨b, 0, none⟩ : Addr).add 5) (.slice a' (x.s5.n + 1) c') → RdAt B b { x with s5 := ⟨a', x.s5.n + 1, c'⟩ } { s with joins := s.joins ++ [m] } k w4 ∧ (∀ w0, Below B w0 w → Below B w0 w4) := by
  have hn : x.s5.n = s.joins.length := h.spec.n5
  obtain ⟨a', c', w3, hr, hc, hf, hk⟩ := obj_push (P := Tryz.prog) (pre := [row1 x.s1 s, row2 x.s2 s, row3 x.s3 s, row4 x.s4 s]) (post := []) (r := row5 x.s5 s) 5 h.blk (by simp) h.rows h.off h.hB 27 undJns infoJn rfl (Nat.succ_pos _) (encPair m) rfl (by intro u hu; simp [encPair] at hu; rcases hu with rfl | rfl <;> rfl) (by dsimp only; omega) (by dsimp only; omega)
  refine ⟨a', c', w3, hr, hc, hf, ?_⟩
  rintro w4 hw4
  obtain ⟨k1, k2, k3, k4⟩ := hk w4 hw4
  have e : s.joins.flatMap encPair ++ encPair m = (s.joins ++ [m]).flatMap encPair := by simp
  dsimp only at k2 k3
  rw [e] at k2 k3
  exact ⟨⟨h.hB, k1.trans rfl, h.rk, k2, k3⟩, k4⟩

theorem rd_merge_spec (B b : Nat) (x : SpecW) (s : SpecV) (k : Int) (a : Option Addr) (c : Nat) (ws : List Bs) (w : World) (hR : RdAt B b x s k w) (hs : SmallS s) (h : StrRow w a ws) (hl : ∀ x ∈ ws, x.length ≤ 1000000) (hn : ws.length ≤ 1000000) (ht : Pow w) (he : Errs w) :
    Calls Tryz.prog 72 #[.pointer (some ⟨b, 0, none⟩), .slice a ws.length c] w fun e w' => ∃ ok, e = .returned (.bool ok) ∧ RdPost B b ((nums2 ws).map fun m => { s with merges := s.merges ++ [m] }) k ok w' ∧ Below B w w' := by
  refine calls_ret (vc72_calls (some ⟨b, 0, none⟩) a ws.length c w (fun v w' => ∃ ok, v = .bool ok ∧ RdPost B b ((nums2 ws).map fun m => { s with merges := s.merges ++ [m] }) k ok w' ∧ Below B w w') ?_) (by rintro v w' ⟨ok, rfl, h⟩; exact ⟨ok, rfl, h⟩)
  have hBw : B ≤ w.heap.size := Nat.le_trans hR.hB (Nat.le_of_lt hR.lt)
  refine (numbers_spec a c ws 2 w h hl hn ht he).mono ?_
  rintro e w1 ⟨hp, hB1⟩
  rw [nums2_eq] at hp
  have hBB : Below B w w1 := hB1.mono hBw
  cases hm : nums2 ws with
  | none =>
    rw [hm] at hp
    subst hp
    refine ⟨_, _, _, _, rfl, ?_⟩
    intro J hJ
    exact CondP.no rfl (hJ w1 ⟨false, rfl, rfl, hBB⟩)
  | some m =>
    rw [hm] at hp
    obtain ⟨ra, rc, rfl, hrow⟩ := hp
    refine ⟨_, _, _, _, rfl, ?_⟩
    intro J hJ
    refine CondP.yes rfl ?_
    rintro w3 rfl
    have hR3 : RdAt B b x s k w1.drew := (hR.on hB1).on ((Below.refl _ _).drew)
    have hns : ([m.1, m.2] : List Int).length = 2 := rfl
    refine NilC.mk ⟨b, 0, none⟩ rfl ⟨_, _, _, (cell_put (j := 1) hR3.blk).trans rfl, ?_⟩
    obtain ⟨p0, hp0, hlt0, hc0⟩ := hrow 0 _ rfl
    obtain ⟨p1, hp1, hlt1, hc1⟩ := hrow 1 _ rfl
    refine NilC.mk p0 hp0 ⟨by simp, by simp, m.1, hc0, ?_⟩
    refine NilC.mk p1 hp1 ⟨by simp, by simp, m.2, hc1, ?_⟩

    rintro w4 rfl
    have hR4 := hR3.on (below_alloc w1.drew (.cells (encPair m).toArray tMg))
    refine ⟨⟨(cell_put (j := 1) hR4.blk).trans rfl, trivial⟩, ?_⟩
    obtain ⟨a', c', w5, hr, hcc, hf, hk⟩ := rd_put1 hR3 hs.1 m
    refine ⟨a', _, c', w5, hr, ?_⟩
    refine NilC.mk ⟨b, 0, none⟩ rfl ⟨rfl, hcc, hf, ?_⟩
    intro w6 hw6
    obtain ⟨k1, k2⟩ := hk w6 hw6
    exact hJ w6 ⟨true, rfl, ⟨rfl, _, k1⟩, k2 w hBB.drew⟩

theorem rd_class_spec (B b : Nat) (x : SpecW) (s : SpecV) (k : Int) (a : Option Addr) (c : Nat) (ws : List Bs) (w : World) (hR : RdAt B b x s k w) (hs : SmallS s) (h : StrRow w a ws) (hl : ∀ x ∈ ws, x.length ≤ 1000000) (hn : ws.length ≤ 1000000) (ht : Pow w) (he : Errs w) :
    Calls Tryz.prog 75 #[.pointer (some ⟨b, 0, none⟩), .slice a ws.length c] w fun e w' => ∃ ok, e = .returned (.bool ok) ∧ RdPost B b ((nums3 ws).map fun m => { s with classes := s.classes ++ [m] }) k ok w' ∧ Below B w w' := by
  refine calls_ret (vc75_calls (some ⟨b, 0, none⟩) a ws.length c w (fun v w' => ∃ ok, v = .bool ok ∧ RdPost B b ((nums3 ws).map fun m => { s with classes := s.classes ++ [m] }) k ok w' ∧ Below B w w') ?_) (by rintro v w' ⟨ok, rfl, h⟩; exact ⟨ok, rfl, h⟩)
  have hBw : B ≤ w.heap.size := Nat.le_trans hR.hB (Nat.le_of_lt hR.lt)
  refine (numbers_spec a c ws 3 w h hl hn ht he).mono ?_
  rintro e w1 ⟨hp, hB1⟩
  rw [nums3_eq] at hp
  have hBB : Below B w w1 := hB1.mono hBw
  cases hm : nums3 ws with
  | none =>
    rw [hm] at hp
    subst hp
    refine ⟨_, _, _, _, rfl, ?_⟩
    intro J hJ
    exact CondP.no rfl (hJ w1 ⟨false, rfl, rfl, hBB⟩)
  | some m =>
    rw [hm] at hp
    obtain ⟨ra, rc, rfl, hrow⟩ := hp
    refine ⟨_, _, _, _, rfl, ?_⟩
    intro J hJ
    refine CondP.yes rfl ?_
    rintro w3 rfl
    have hR3 : RdAt B b x s k w1.drew := (hR.on hB1).on ((Below.refl _ _).drew)
    have hns : ([m.1, m.2.1, m.2.2] : List Int).length = 3 := rfl
    refine NilC.mk ⟨b, 0, none⟩ rfl ⟨_, _, _, (cell_put (j := 4) hR3.blk).trans rfl, ?_⟩
    obtain ⟨p0, hp0, hlt0, hc0⟩ := hrow 0 _ rfl
    obtain ⟨p1, hp1, hlt1, hc1⟩ := hrow 1 _ rfl
    obtain ⟨p2, hp2, hlt2, hc2⟩ := hrow 2 _ rfl
    refine NilC.mk p0 hp0 ⟨by simp, by simp, m.1, hc0, ?_⟩
    refine NilC.mk p1 hp1 ⟨by simp, by simp, m.2.1, hc1, ?_⟩
    refine NilC.mk p2 hp2 ⟨by simp, by simp, m.2.2, hc2, ?_⟩
    rintro w4 rfl
    have hR4 := hR3.on (below_alloc w1.drew (.cells (encClass m).toArray tCl))
    refine ⟨⟨(cell_put (j := 4) hR4.blk).trans rfl, trivial⟩, ?_⟩
    obtain ⟨a', c', w5, hr, hcc, hf, hk⟩ := rd_put4 hR3 hs.2.2.2.1 m
    refine ⟨a', _, c', w5, hr, ?_⟩
    refine NilC.mk ⟨b, 0, none⟩ rfl ⟨rfl, hcc, hf, ?_⟩
    intro w6 hw6
    obtain ⟨k1, k2⟩ := hk w6 hw6
    exact hJ w6 ⟨true, rfl, ⟨rfl, _, k1⟩, k2 w hBB.drew⟩

theorem rd_join_spec (B b : Nat) (x : SpecW) (s : SpecV) (k : Int) (a : Option Addr) (c : Nat) (ws : List Bs) (w : World) (hR : RdAt B b x s k w) (hs : SmallS s) (h : StrRow w a ws) (hl : ∀ x ∈ ws, x.length ≤ 1000000) (hn : ws.length ≤ 1000000) (ht : Pow w) (he : Errs w) :
    Calls Tryz.prog 76 #[.pointer (some ⟨b, 0, none⟩), .slice a ws.length c] w fun e w' => ∃ ok, e = .returned (.bool ok) ∧ RdPost B b ((nums2 ws).map fun m => { s with joins := s.joins ++ [m] }) k ok w' ∧ Below B w w' := by
  refine calls_ret (vc76_calls (some ⟨b, 0, none⟩) a ws.length c w (fun v w' => ∃ ok, v = .bool ok ∧ RdPost B b ((nums2 ws).map fun m => { s with joins := s.joins ++ [m] }) k ok w' ∧ Below B w w') ?_) (by rintro v w' ⟨ok, rfl, h⟩; exact ⟨ok, rfl, h⟩)
  have hBw : B ≤ w.heap.size := Nat.le_trans hR.hB (Nat.le_of_lt hR.lt)
  refine (numbers_spec a c ws 2 w h hl hn ht he).mono ?_
  rintro e w1 ⟨hp, hB1⟩
  rw [nums2_eq] at hp
  have hBB : Below B w w1 := hB1.mono hBw
  cases hm : nums2 ws with
  | none =>
    rw [hm] at hp
    subst hp
    refine ⟨_, _, _, _, rfl, ?_⟩
    intro J hJ
    exact CondP.no rfl (hJ w1 ⟨false, rfl, rfl, hBB⟩)
  | some m =>
    rw [hm] at hp
    obtain ⟨ra, rc, rfl, hrow⟩ := hp
    refine ⟨_, _, _, _, rfl, ?_⟩
    intro J hJ
    refine CondP.yes rfl ?_
    rintro w3 rfl
    have hR3 : RdAt B b x s k w1.drew := (hR.on hB1).on ((Below.refl _ _).drew)
    have hns : ([m.1, m.2] : List Int).length = 2 := rfl
    refine NilC.mk ⟨b, 0, none⟩ rfl ⟨_, _, _, (cell_put (j := 5) hR3.blk).trans rfl, ?_⟩
    obtain ⟨p0, hp0, hlt0, hc0⟩ := hrow 0 _ rfl
    obtain ⟨p1, hp1, hlt1, hc1⟩ := hrow 1 _ rfl
    refine NilC.mk p0 hp0 ⟨by simp, by simp, m.1, hc0, ?_⟩
    refine NilC.mk p1 hp1 ⟨by simp, by simp, m.2, hc1, ?_⟩

    rintro w4 rfl
    have hR4 := hR3.on (below_alloc w1.drew (.cells (encPair m).toArray tJn))
    refine ⟨⟨(cell_put (j := 5) hR4.blk).trans rfl, trivial⟩, ?_⟩
    obtain ⟨a', c', w5, hr, hcc, hf, hk⟩ := rd_put5 hR3 hs.2.2.2.2 m
    refine ⟨a', _, c', w5, hr, ?_⟩
    refine NilC.mk ⟨b, 0, none⟩ rfl ⟨rfl, hcc, hf, ?_⟩
    intro w6 hw6
    obtain ⟨k1, k2⟩ := hk w6 hw6
    exact hJ w6 ⟨true, rfl, ⟨rfl, _, k1⟩, k2 w hBB.drew⟩

theorem rd_token_spec (B b : Nat) (x : SpecW) (s : SpecV) (k : Int) (a : Option Addr) (c : Nat) (ws : List Bs) (w : World) (hR : RdAt B b x s k w) (hs : SmallS s) (h : StrRow w a ws) (hl : ∀ x ∈ ws, x.length ≤ 1000000) (hn : ws.length ≤ 1000000) :
    Calls Tryz.prog 73 #[.pointer (some ⟨b, 0, none⟩), .slice a ws.length c] w fun e w' => ∃ ok, e = .returned (.bool ok) ∧ RdPost B b ((hexW ws).map fun m => { s with tokens := s.tokens ++ [m] }) k ok w' ∧ Below B w w' := by
  refine calls_ret (vc73_calls (some ⟨b, 0, none⟩) a ws.length c w (fun v w' => ∃ ok, v = .bool ok ∧ RdPost B b ((hexW ws).map fun m => { s with tokens := s.tokens ++ [m] }) k ok w' ∧ Below B w w') ?_) (by rintro v w' ⟨ok, rfl, h⟩; exact ⟨ok, rfl, h⟩)
  have hBw : B ≤ w.heap.size := Nat.le_trans hR.hB (Nat.le_of_lt hR.lt)
  refine CondP.mk ?_ ?_
  · intro hc
    have hc : (ws.length : Int) ≠ 1 := by simpa using hc
    refine ⟨false, rfl, ?_, Below.refl _ _⟩
    match ws, hc with
    | [], _ => rfl
    | _ :: _ :: _, _ => rfl
    | [_], hc => simp at hc
  · intro hc
    have hc : (ws.length : Int) = 1 := by simpa using hc
    match ws, hc, h, hl with
    | [t], _, h, hl =>
      obtain ⟨p, hp, _, hcp⟩ := h 0 _ rfl
      refine NilC.mk p hp ⟨by simp, by simp, str t, hcp, ?_⟩
      have htl := hl t (by simp)
      refine (Unhex_spec t w (by omega)).mono ?_
      rintro e w1 ⟨rfl, hB1⟩
      have hBB : Below B w w1 := hB1.mono hBw
      have hR1 := hR.on hB1
      have fin : ∀ (o : Option Bs) (u : Bs) (q : Bool), (∀ m, o = some m → u = m ∧ q = true) → (o = none → q = false) →
        NilC (some ⟨b, 0, none⟩) (fun pa_1 =>
          ∃ lA_2 : Option Addr, ∃ lN_3 : Nat, ∃ lC_4 : Nat, w1.cell? ((pa_1.add 0).add 2) = some (Value.slice lA_2 lN_3 lC_4) ∧
          ∀ w2 : World, w2 = w1.alloc (.cells #[Value.string (str u)] tStr) →
          ∃ lA_5 : Option Addr, ∃ lN_6 : Nat, ∃ lC_7 : Nat, ∃ w3 : World, (Builtin.append_ #[tStrs, tStrs] tStrs #[Value.slice lA_2 lN_3 lC_4, Value.slice (some (nb w1)) 1 1]).run Tryz.prog w2 = .ok (Value.slice lA_5 lN_6 lC_7) w3 ∧
          NilC (some ⟨b, 0, none⟩) (fun pa_8 =>
          (Value.slice lA_5 lN_6 lC_7).oneCell' = true ∧ (∃ u, w3.cell? ((pa_8.add 0).add 2) = some u) ∧ w3.frozen? ((pa_8.add 0).add 2) = false ∧
          ∀ w4 : World, w4 = (w3.setCell ((pa_8.add 0).add 2) (Value.slice lA_5 lN_6 lC_7)) →
          ∃ ok, Value.bool q = .bool ok ∧ RdPost B b (o.map fun m => { s with tokens := s.tokens ++ [m] }) k ok w4 ∧ Below B w w4)) := by
        intro o u q h1 h2
        refine NilC.mk ⟨b, 0, none⟩ rfl ⟨_, _, _, (cell_put (j := 2) hR1.blk).trans rfl, ?_⟩
        rintro w2 rfl
        obtain ⟨a', c', w5, hr, hcc, hf, hk⟩ := rd_put2 hR1 hs.2.1 u
        refine ⟨a', _, c', w5, hr, ?_⟩
        refine NilC.mk ⟨b, 0, none⟩ rfl ⟨rfl, hcc, hf, ?_⟩
        intro w6 hw6
        obtain ⟨k1, k2⟩ := hk w6 hw6
        refine ⟨q, rfl, ?_, k2 w hBB⟩
        cases o with
        | none => exact h2 rfl
        | some m =>
          obtain ⟨rfl, hq⟩ := h1 m rfl
          exact ⟨hq, _, k1⟩
      show ∃ r0 : ByteArray, ∃ r1 : Bool, _
      cases hu : unhexT t with
      | none => exact ⟨str [], false, rfl, fin _ [] false (by simp [hexW, hu]) (fun _ => rfl)⟩
      | some m => exact ⟨str m, true, rfl, fin _ m true (by simp [hexW, hu]) (by simp [hexW, hu])⟩

theorem rd_special_spec (B b : Nat) (x : SpecW) (s : SpecV) (k : Int) (a : Option Addr) (c : Nat) (ws : List Bs) (w : World) (hR : RdAt B b x s k w) (hs : SmallS s) (h : StrRow w a ws) (hl : ∀ x ∈ ws, x.length ≤ 1000000) (hn : ws.length ≤ 1000000) (ht : Pow w) (he : Errs w) :
    Calls Tryz.prog 74 #[.pointer (some ⟨b, 0, none⟩), .slice a ws.length c] w fun e w' => ∃ ok, e = .returned (.bool ok) ∧ RdPost B b ((specW ws).map fun m => { s with specials := s.specials ++ [m] }) k ok w' ∧ Below B w w' := by
  refine calls_ret (vc74_calls (some ⟨b, 0, none⟩) a ws.length c w (fun v w' => ∃ ok, v = .bool ok ∧ RdPost B b ((specW ws).map fun m => { s with specials := s.specials ++ [m] }) k ok w' ∧ Below B w w') ?_) (by rintro v w' ⟨ok, rfl, h⟩; exact ⟨ok, rfl, h⟩)
  have hBw : B ≤ w.heap.size := Nat.le_trans hR.hB (Nat.le_of_lt hR.lt)
  refine CondP.mk ?_ ?_
  · intro hc
    have hc : (ws.length : Int) ≠ 2 := by simpa using hc
    refine ⟨false, rfl, ?_, Below.refl _ _⟩
    match ws, hc with
    | [], _ => rfl
    | [_], _ => rfl
    | _ :: _ :: _ :: _, _ => rfl
    | [_, _], hc => simp at hc
  · intro hc
    have hc : (ws.length : Int) = 2 := by simpa using hc
    match ws, hc, h, hl with
    | [t, t2], _, h, hl =>
      obtain ⟨p, hp, _, hcp⟩ := h 0 _ rfl
      refine NilC.mk p hp ⟨by simp, by simp, str t, hcp, ?_⟩
      have htl := hl t (by simp)
      refine (Parse_spec t maxId w (by omega) ht he).mono ?_
      rintro e w1 ⟨rfl, hB1⟩
      obtain ⟨p2, hp2, _, hcp2⟩ := (h.on hB1) 1 _ rfl
      have hw : numW t = (parseT t maxId).map fun u => (u : Int) := rfl
      have tail : ∀ (n : Int) (q1 : Bool), (numW t = some n ∧ q1 = true) ∨ (numW t = none ∧ q1 = false) →
          NilC a (fun pa_1 =>
            (0 : Int) ≤ 1 ∧ 1 < (([t, t2].length : Nat) : Int) ∧
            ∃ s_2 : ByteArray, w1.cell? (pa_1.add ((1 : Int).toNat * 1)) = some (Value.string s_2) ∧
            Calls Tryz.prog 89 #[Value.string s_2] w1 (fun e2 w2 =>
            ∃ r0_3 : ByteArray, ∃ r1_4 : Bool, e2 = .returned (Value.tuple #[Value.string r0_3, Value.bool r1_4]) ∧
            NilC (some ⟨b, 0, none⟩) (fun pa_5 =>
            ∃ lA_6 : Option Addr, ∃ lN_7 : Nat, ∃ lC_8 : Nat, w2.cell? ((pa_5.add 0).add 3) = some (Value.slice lA_6 lN_7 lC_8) ∧
            ∀ w3 : World, w3 = w2.alloc (.cells #[Value.int .i64 n, Value.string r0_3] tSp) →
            ∃ lA_9 : Option Addr, ∃ lN_10 : Nat, ∃ lC_11 : Nat, ∃ w4 : World, (Builtin.append_ #[25, 25] 25 #[Value.slice lA_6 lN_7 lC_8, Value.slice (some (nb w2)) 1 1]).run Tryz.prog w3 = .ok (Value.slice lA_9 lN_10 lC_11) w4 ∧
            NilC (some ⟨b, 0, none⟩) (fun pa_12 =>
            (Value.slice lA_9 lN_10 lC_11).oneCell' = true ∧ (∃ u, w4.cell? ((pa_12.add 0).add 3) = some u) ∧ w4.frozen? ((pa_12.add 0).add 3) = false ∧
            ∀ w5 : World, w5 = (w4.setCell ((pa_12.add 0).add 3) (Value.slice lA_9 lN_10 lC_11)) →
            CondP q1
              (∃ ok, Value.bool r1_4 = .bool ok ∧ RdPost B b ((specW [t, t2]).map fun m => { s with specials := s.specials ++ [m] }) k ok w5 ∧ Below B w w5)
              (∃ ok, Value.bool false = .bool ok ∧ RdPost B b ((specW [t, t2]).map fun m => { s with specials := s.specials ++ [m] }) k ok w5 ∧ Below B w w5))))) := by
        intro n q1 hq
        refine NilC.mk p2 hp2 ⟨by simp, by simp, str t2, hcp2, ?_⟩
        have htl2 := hl t2 (by simp)
        refine (Unhex_spec t2 w1 (by omega)).mono ?_
        rintro e w2 ⟨rfl, hB2⟩
        have hB12 := below_then hB1 hB2
        have hBB : Below B w w2 := hB12.mono hBw
        have hR2 := hR.on hB12
        have fin : ∀ (u : Bs) (q : Bool), (unhexT t2 = some u ∧ q = true) ∨ (unhexT t2 = none ∧ q = false) →
            NilC (some ⟨b, 0, none⟩) (fun pa_5 =>
            ∃ lA_6 : Option Addr, ∃ lN_7 : Nat, ∃ lC_8 : Nat, w2.cell? ((pa_5.add 0).add 3) = some (Value.slice lA_6 lN_7 lC_8) ∧
            ∀ w3 : World, w3 = w2.alloc (.cells #[Value.int .i64 n, Value.string (str u)] tSp) →
            ∃ lA_9 : Option Addr, ∃ lN_10 : Nat, ∃ lC_11 : Nat, ∃ w4 : World, (Builtin.append_ #[25, 25] 25 #[Value.slice lA_6 lN_7 lC_8, Value.slice (some (nb w2)) 1 1]).run Tryz.prog w3 = .ok (Value.slice lA_9 lN_10 lC_11) w4 ∧
            NilC (some ⟨b, 0, none⟩) (fun pa_12 =>
            (Value.slice lA_9 lN_10 lC_11).oneCell' = true ∧ (∃ u, w4.cell? ((pa_12.add 0).add 3) = some u) ∧ w4.frozen? ((pa_12.add 0).add 3) = false ∧
            ∀ w5 : World, w5 = (w4.setCell ((pa_12.add 0).add 3) (Value.slice lA_9 lN_10 lC_11)) →
            CondP q1
              (∃ ok, Value.bool q = .bool ok ∧ RdPost B b ((specW [t, t2]).map fun m => { s with specials := s.specials ++ [m] }) k ok w5 ∧ Below B w w5)
              (∃ ok, Value.bool false = .bool ok ∧ RdPost B b ((specW [t, t2]).map fun m => { s with specials := s.specials ++ [m] }) k ok w5 ∧ Below B w w5))) := by
          intro u q hqq
          refine NilC.mk ⟨b, 0, none⟩ rfl ⟨_, _, _, (cell_put (j := 3) hR2.blk).trans rfl, ?_⟩
          rintro w3 rfl
          obtain ⟨a', c', w5, hr, hcc, hf, hk⟩ := rd_put3 hR2 hs.2.2.1 (n, u)
          refine ⟨a', _, c', w5, hr, ?_⟩
          refine NilC.mk ⟨b, 0, none⟩ rfl ⟨rfl, hcc, hf, ?_⟩
          intro w6 hw6
          obtain ⟨k1, k2⟩ := hk w6 hw6
          have hk2 := k2 w hBB
          rcases hq with ⟨h1, rfl⟩ | ⟨h1, rfl⟩
          · refine CondP.yes rfl ⟨q, rfl, ?_, hk2⟩
            rcases hqq with ⟨h2, rfl⟩ | ⟨h2, rfl⟩
            · simp only [specW, h1, h2]; exact ⟨rfl, _, k1⟩
            · simp only [specW, h1, h2]; rfl
          · refine CondP.no rfl ⟨false, rfl, ?_, hk2⟩
            simp only [specW, h1]; rfl
        cases hu : unhexT t2 with
        | none => exact ⟨str [], false, rfl, fin [] false (.inr ⟨hu, rfl⟩)⟩
        | some m => exact ⟨str m, true, rfl, fin m true (.inl ⟨hu, rfl⟩)⟩
      cases hp : parseT t maxId with
      | none => exact ⟨0, false, rfl, tail 0 false (.inr ⟨by rw [hw, hp]; rfl, rfl⟩)⟩
      | some u => exact ⟨(u : Int), true, rfl, tail u true (.inl ⟨by rw [hw, hp]; rfl, rfl⟩)⟩
end Go.Proofs.YtldgehlbicoedaaGreatDoor.Eng

/- spec's reader's head, take and line, and spec.Parse, walked by the engine. -/
set_option linter.unusedVariables false
set_option linter.unusedSimpArgs false
set_option maxRecDepth 100000
namespace Go.Proofs.YtldgehlbicoedaaGreatDoor.Eng
open Go Go.RowKit

theorem cell_setCell_ne {w : World} {a p : Addr} {u : Value} (h : p.block ≠ a.block) : (w.setCell a u).cell? p = w.cell? p := by
  unfold World.cell?
  rw [heap_setCell_ne h]
noncomputable def headW (l : List Bs) : Option Bool := if l = [wRanks] then some true else if l = [wMerges] then some false else none
theorem rd_head_spec (B b : Nat) (x : SpecW) (s : SpecV) (k : Int) (a : Option Addr) (c : Nat) (ws : List Bs) (w : World) (hR : RdAt B b x s k w) (h : StrRow w a ws) (hoff : ∀ p, a = some p → p.block ≠ b) (hn : ws.length ≤ 1000000) :
    Calls Tryz.prog 71 #[.pointer (some ⟨b, 0, none⟩), .slice a ws.length c] w fun e w' => ∃ ok, e = .returned (.bool ok) ∧ RdPost B b ((headW ws).map fun q => { s with ranked := q }) k ok w' ∧ Below B w w' := by
  refine calls_ret (vc71_calls (some ⟨b, 0, none⟩) a ws.length c w (fun v w' => ∃ ok, v = .bool ok ∧ RdPost B b ((headW ws).map fun q => { s with ranked := q }) k ok w' ∧ Below B w w') ?_) (by rintro v w' ⟨ok, rfl, h⟩; exact ⟨ok, rfl, h⟩)
  have put : ∀ q : Bool, ∀ w1, w1 = w.setCell (((⟨b, 0, none⟩ : Addr).add 0).add 0) (.bool q) → RdAt B b { x with ranked := q } { s with ranked := q } k w1 ∧ Below B w w1 := by
    intro q w1 hw1
    rw [add_zero] at hw1
    subst hw1
    refine ⟨⟨hR.hB, (heap_put (j := 0) hR.blk _).trans rfl, rfl, hR.rows.setCell _ _ (by rw [add_block]; exact hR.off), hR.off⟩, below_put (Below.refl _ _) hR.hB _⟩
  have c0 : w.cell? (((⟨b, 0, none⟩ : Addr).add 0).add 0) = some (.bool x.ranked) := by rw [add_zero]; exact (cell_put (j := 0) hR.blk).trans rfl
  have f0 : w.frozen? (((⟨b, 0, none⟩ : Addr).add 0).add 0) = false := by rw [add_zero]; exact frozen_put hR.blk
  refine CondP.mk ?_ ?_
  · intro hc
    have hc1 : (ws.length : Int) = 1 := by simpa using hc
    match ws, hc1, hc, h with
    | [t], _, hc, h =>
      obtain ⟨p, hp, _, hcp⟩ := h 0 _ rfl
      have hpb := hoff p hp
      refine NilC.mk p hp ⟨by simp, by simp, str t, hcp, ?_⟩
      refine NilC.mk ⟨b, 0, none⟩ rfl ⟨rfl, ⟨_, c0⟩, f0, ?_⟩
      have eR : ((str t).toList == (⟨#[114, 97, 110, 107, 115]⟩ : ByteArray).toList) = decide (t = wRanks) := by rw [show (⟨#[114, 97, 110, 107, 115]⟩ : ByteArray) = str wRanks from rfl, beq_str]
      have eM : ((str t).toList == (⟨#[109, 101, 114, 103, 101, 115]⟩ : ByteArray).toList) = decide (t = wMerges) := by rw [show (⟨#[109, 101, 114, 103, 101, 115]⟩ : ByteArray) = str wMerges from rfl, beq_str]
      rw [eR]
      intro w1 hw1
      obtain ⟨hR1, hB1⟩ := put _ w1 hw1
      have hc1 : w1.cell? (p.add 0) = some (.string (str t)) := by
        rw [hw1, cell_setCell_ne (by rw [add_block, add_block, add_block]; exact hpb)]; exact hcp
      refine CondP.yes hc (NilC.mk p hp ⟨by simp, by simp, str t, hc1, ?_⟩)
      rw [eR]
      refine CondP.mk ?_ ?_
      · intro ht
        have ht := of_decide_eq_true ht
        subst ht
        refine ⟨true, rfl, ?_, hB1⟩
        unfold headW
        rw [if_pos rfl]
        exact ⟨rfl, _, hR1⟩
      · intro ht
        have ht' := of_decide_eq_false ht
        refine NilC.mk p hp ⟨by simp, by simp, str t, hc1, ?_⟩
        rw [eM]
        refine ⟨_, rfl, ?_, hB1⟩
        unfold headW
        rw [if_neg (by simpa using ht')]
        by_cases hm : t = wMerges
        · rw [if_pos (by simpa using hm)]
          rw [ht] at hR1
          exact ⟨by simpa using hm, _, hR1⟩
        · rw [if_neg (by simpa using hm)]
          exact decide_eq_false hm
  · intro hc
    have hc1 : (ws.length : Int) ≠ 1 := by simpa using hc
    refine NilC.mk ⟨b, 0, none⟩ rfl ⟨rfl, ⟨_, c0⟩, f0, ?_⟩
    intro w2 hw2
    obtain ⟨hR1, hB1⟩ := put _ w2 hw2
    refine CondP.no hc ⟨false, rfl, ?_, hB1⟩
    unfold headW
    rw [if_neg (by rintro rfl; simp at hc1), if_neg (by rintro rfl; simp at hc1)]
    rfl

/-! ### take -/
def TakePost (B b : Nat) (o : Option (SpecV × Nat)) (k j : Int) (ok : Bool) (w' : World) : Prop := match o with
  | some (s', j') => ok = true ∧ j = j' ∧ ∃ x', RdAt B b x' s' k w'
  | none => ok = false
theorem takePost_of {B b : Nat} {o : Option SpecV} {k : Int} {n : Nat} {ok : Bool} {w' : World} (h : RdPost B b o k ok w') : TakePost B b (o.map fun s => (s, n)) k n ok w' := by
  cases o with
  | none => exact h
  | some s => exact ⟨h.1, rfl, h.2⟩
theorem addW_cases (s : SpecV) (first : Bs) (l : List Bs) :
    addW s (first :: l) = if first = wVocab then ((headW l).map fun q => { s with ranked := q }).map fun s => (s, 0) else if first = wMerge then ((nums2 l).map fun m => { s with merges := s.merges ++ [m] }).map fun s => (s, 1)
      else if first = wToken then ((hexW l).map fun m => { s with tokens := s.tokens ++ [m] }).map fun s => (s, 1) else if first = wSpecial then ((specW l).map fun m => { s with specials := s.specials ++ [m] }).map fun s => (s, 2)
      else if first = wClass then ((nums3 l).map fun m => { s with classes := s.classes ++ [m] }).map fun s => (s, 3) else if first = wJoin then ((nums2 l).map fun m => { s with joins := s.joins ++ [m] }).map fun s => (s, 4) else none := by
  unfold addW headW
  simp only [Option.map_map]
  split
  · split
    · rfl
    · split <;> rfl
  · rfl
theorem rd_take_spec (B b : Nat) (x : SpecW) (s : SpecV) (k : Int) (first : Bs) (a : Option Addr) (c : Nat) (ws : List Bs) (w : World) (hR : RdAt B b x s k w) (hs : SmallS s) (h : StrRow w a ws) (hoff : ∀ p, a = some p → p.block ≠ b) (hl : ∀ x ∈ ws, x.length ≤ 1000000) (hn : ws.length ≤ 1000000) (ht : Pow w) (he : Errs w) :
    Calls Tryz.prog 48 #[.pointer (some ⟨b, 0, none⟩), .string (str first), .slice a ws.length c] w fun e w' => ∃ (j : Int) (ok : Bool), e = .returned (.tuple #[.int .i64 j, .bool ok]) ∧ TakePost B b (addW s (first :: ws)) k j ok w' ∧ Below B w w' := by
  refine calls_ret (vc48_calls (some ⟨b, 0, none⟩) (str first) a ws.length c w (fun v w' => ∃ (j : Int) (ok : Bool), v = .tuple #[.int .i64 j, .bool ok] ∧ TakePost B b (addW s (first :: ws)) k j ok w' ∧ Below B w w') ?_) (by rintro v w' ⟨j, ok, rfl, h⟩; exact ⟨j, ok, rfl, h⟩)
  rw [addW_cases]
  have e1 : ((str first).toList == (⟨#[118, 111, 99, 97, 98]⟩ : ByteArray).toList) = decide (first = wVocab) := by rw [show (⟨#[118, 111, 99, 97, 98]⟩ : ByteArray) = str wVocab from rfl, beq_str]
  have e2 : ((str first).toList == (⟨#[109, 101, 114, 103, 101]⟩ : ByteArray).toList) = decide (first = wMerge) := by rw [show (⟨#[109, 101, 114, 103, 101]⟩ : ByteArray) = str wMerge from rfl, beq_str]
  have e3 : ((str first).toList == (⟨#[116, 111, 107, 101, 110]⟩ : ByteArray).toList) = decide (first = wToken) := by rw [show (⟨#[116, 111, 107, 101, 110]⟩ : ByteArray) = str wToken from rfl, beq_str]
  have e4 : ((str first).toList == (⟨#[115, 112, 101, 99, 105, 97, 108]⟩ : ByteArray).toList) = decide (first = wSpecial) := by rw [show (⟨#[115, 112, 101, 99, 105, 97, 108]⟩ : ByteArray) = str wSpecial from rfl, beq_str]
  have e5 : ((str first).toList == (⟨#[99, 108, 97, 115, 115]⟩ : ByteArray).toList) = decide (first = wClass) := by rw [show (⟨#[99, 108, 97, 115, 115]⟩ : ByteArray) = str wClass from rfl, beq_str]
  have e6 : ((str first).toList == (⟨#[106, 111, 105, 110]⟩ : ByteArray).toList) = decide (first = wJoin) := by rw [show (⟨#[106, 111, 105, 110]⟩ : ByteArray) = str wJoin from rfl, beq_str]
  refine CondP.mk ?_ ?_
  · intro hc
    rw [e1] at hc
    rw [if_pos (of_decide_eq_true hc)]
    refine (rd_head_spec B b x s k a c ws w hR h hoff hn).mono ?_
    rintro e w1 ⟨ok, rfl, hp, hB⟩
    exact ⟨ok, rfl, _, ok, rfl, takePost_of (n := 0) hp, hB⟩
  intro hc
  rw [e1] at hc
  rw [if_neg (of_decide_eq_false hc)]
  refine CondP.mk ?_ ?_
  · intro hc
    rw [e2] at hc
    rw [if_pos (of_decide_eq_true hc)]
    refine (rd_merge_spec B b x s k a c ws w hR hs h hl hn ht he).mono ?_
    rintro e w1 ⟨ok, rfl, hp, hB⟩
    exact ⟨ok, rfl, _, ok, rfl, takePost_of (n := 1) hp, hB⟩
  intro hc
  rw [e2] at hc
  rw [if_neg (of_decide_eq_false hc)]
  refine CondP.mk ?_ ?_
  · intro hc
    rw [e3] at hc
    rw [if_pos (of_decide_eq_true hc)]
    refine (rd_token_spec B b x s k a c ws w hR hs h hl hn).mono ?_
    rintro e w1 ⟨ok, rfl, hp, hB⟩
    exact ⟨ok, rfl, _, ok, rfl, takePost_of (n := 1) hp, hB⟩
  intro hc
  rw [e3] at hc
  rw [if_neg (of_decide_eq_false hc)]
  refine CondP.mk ?_ ?_
  · intro hc
    rw [e4] at hc
    rw [if_pos (of_decide_eq_true hc)]
    refine (rd_special_spec B b x s k a c ws w hR hs h hl hn ht he).mono ?_
    rintro e w1 ⟨ok, rfl, hp, hB⟩
    exact ⟨ok, rfl, _, ok, rfl, takePost_of (n := 2) hp, hB⟩
  intro hc
  rw [e4] at hc
  rw [if_neg (of_decide_eq_false hc)]
  refine CondP.mk ?_ ?_
  · intro hc
    rw [e5] at hc
    rw [if_pos (of_decide_eq_true hc)]
    refine (rd_class_spec B b x s k a c ws w hR hs h hl hn ht he).mono ?_
    rintro e w1 ⟨ok, rfl, hp, hB⟩
    exact ⟨ok, rfl, _, ok, rfl, takePost_of (n := 3) hp, hB⟩
  intro hc
  rw [e5] at hc
  rw [if_neg (of_decide_eq_false hc)]
  refine CondP.mk ?_ ?_
  · intro hc
    rw [e6] at hc
    rw [if_pos (of_decide_eq_true hc)]
    refine (rd_join_spec B b x s k a c ws w hR hs h hl hn ht he).mono ?_
    rintro e w1 ⟨ok, rfl, hp, hB⟩
    exact ⟨ok, rfl, _, ok, rfl, takePost_of (n := 4) hp, hB⟩
  intro hc
  rw [e6] at hc
  rw [if_neg (of_decide_eq_false hc)]
  exact ⟨0, false, rfl, rfl, Below.refl _ _⟩

/-! ### line -/
theorem right_small {s : SpecV} (h : s.right = true) : SmallS s := by
  obtain ⟨_, p1, p2, p3, p4, p5⟩ := right_parts h
  have l1 := allOk_len p1
  have l2 := allOk_len p2
  have l3 := allOk_len p3
  have l4 := allOk_len p4
  have l5 := allOk_len p5
  exact ⟨by omega, by omega, by omega, by omega, by omega⟩
theorem cutL_small (c : UInt8) (l : Bs) : ∀ w ∈ cutL c l, w.length ≤ l.length := by
  induction l with
  | nil => intro w hw; simp [cutL] at hw; subst hw; simp
  | cons b l ih =>
    intro w hw
    simp only [cutL] at hw
    split at hw
    · rcases List.mem_cons.1 hw with e | e
      · subst e; simp
      · have := ih w e; simp; omega
    · cases hc : cutL c l with
      | nil => exact absurd hc (cutL_ne c l)
      | cons x r =>
        rw [hc] at hw ih
        rcases List.mem_cons.1 hw with e | e
        · subst e; have := ih x (by simp); simp; omega
        · have := ih w (by simp [e]); simp; omega
theorem cutL_count (c : UInt8) (l : Bs) : (cutL c l).length ≤ l.length + 1 := by
  induction l with
  | nil => simp [cutL]
  | cons b l ih =>
    simp only [cutL]
    split
    · simp; omega
    · cases hc : cutL c l with
      | nil => simp
      | cons x r => rw [hc] at ih; simp at ih ⊢; omega
/-- What line leaves. -/
def LinePost (B b : Nat) (o : Option (SpecV × Nat)) (ok : Bool) (w' : World) : Prop := match o with
  | some (s', j) => ok = true ∧ ∃ x', RdAt B b x' s' j w'
  | none => ok = false
theorem rd_line_spec (B b : Nat) (x : SpecW) (s : SpecV) (k n : Nat) (line : Bs) (w : World) (hR : RdAt B b x s k w) (hs : SmallS s) (hl : line.length ≤ 100000) (ht : Pow w) (he : Errs w) (hm : Mx w) :
    Calls Tryz.prog 18 #[.pointer (some ⟨b, 0, none⟩), .int .i64 n, .string (str line)] w fun e w' => ∃ ok : Bool, e = .returned (.bool ok) ∧ LinePost B b (readLn s k n line) ok w' ∧ Below B w w' := by
  refine calls_ret (vc18_calls (some ⟨b, 0, none⟩) n (str line) w (fun v w' => ∃ ok : Bool, v = .bool ok ∧ LinePost B b (readLn s k n line) ok w' ∧ Below B w w') ?_) (by rintro v w' ⟨ok, rfl, h⟩; exact ⟨ok, rfl, h⟩)
  have hBw : B ≤ w.heap.size := Nat.le_trans hR.hB (Nat.le_of_lt hR.lt)
  refine (Cut_at line w (by omega) hm).mono ?_
  rintro e w1 ⟨rfl, hrow, hB1⟩
  refine ⟨_, _, _, rfl, ?_⟩
  rintro w2 rfl
  have hB2 : Below w.heap.size w w1.drew := hB1.drew
  have hR2 := hR.on hB2
  have hrow2 : StrRow w1.drew (some (nb w)) (cutL 32 line) := hrow
  have hsm := cutL_small 32 line
  have hct := cutL_count 32 line
  obtain ⟨first, ws, hcut⟩ : ∃ f r, cutL 32 line = f :: r := by
    cases hc : cutL 32 line with
    | nil => exact absurd hc (cutL_ne 32 line)
    | cons f r => exact ⟨f, r, rfl⟩
  have hln : readLn s k n line = gate k n (addW s (first :: ws)) := by unfold readLn; rw [hcut]
  rw [hcut] at hrow2 hsm hct ⊢
  obtain ⟨p, hp, _, hcp⟩ := hrow2 0 _ rfl
  cases hp
  refine NilC.mk (nb w) rfl ⟨by simp, by simp, str first, hcp, by simp, by simp; omega, trivial, trivial, trivial, ?_⟩
  have hlt := hR.lt
  have htail : ∃ a', slBase (some (nb w)) (1 : Int).toNat (((first :: ws).length : Nat) : Int).toNat 1 = a' ∧ StrRow w1.drew a' ws ∧ ∀ p, a' = some p → p.block ≠ b := by
    refine ⟨_, rfl, ?_, ?_⟩
    · intro j t hj
      have hj' := (List.getElem?_eq_some_iff.1 hj).1
      obtain ⟨p, hp, hlt, hc⟩ := hrow2 (j + 1) t (by simpa using hj)
      cases hp
      have : slBase (some (nb w)) (1 : Int).toNat (((first :: ws).length : Nat) : Int).toNat 1 = some ((nb w).add 1) := by
        unfold slBase
        rw [if_neg (by simp; intro e; rw [e] at hj'; simp at hj')]
        rfl
      refine ⟨_, this, by rw [add_block]; exact hlt, ?_⟩
      rw [add_lit] at hc ⊢
      rw [add_lit]
      rw [← hc]
      congr 2
      omega
    · intro p hp
      unfold slBase at hp
      split at hp
      · cases hp; dsimp only; omega
      · cases hp; rw [add_block]; dsimp only; omega
  obtain ⟨a', ha', hrow', hoff'⟩ := htail
  rw [ha']
  have hlen : (((first :: ws).length : Nat) : Int).toNat - (1 : Int).toNat = ws.length := by simp
  rw [hlen]
  have hB2B : Below B w w1.drew := hB2.mono hBw
  refine (rd_take_spec B b x s k first a' _ ws w1.drew hR2 hs hrow' hoff' (fun y hy => by have := hsm y (by simp [hy]); omega) (by simp at hct; omega) (ht.on hB2) (he.on hB2)).mono ?_
  rintro e w3 ⟨j, ok, rfl, hp, hB3⟩
  have hB23 : Below B w w3 := hB2B.trans hB3
  refine ⟨_, _, rfl, ?_⟩
  rw [hln]
  cases ha : addW s (first :: ws) with
  | none =>
    rw [ha] at hp
    have hp : ok = false := hp
    subst hp
    exact CondP.yes rfl ⟨false, rfl, rfl, hB23⟩
  | some sj =>
    obtain ⟨s', j'⟩ := sj
    rw [ha] at hp
    obtain ⟨rfl, rfl, x', hR'⟩ := hp
    refine CondP.no rfl ?_
    simp only [gate]
    refine CondP.mk ?_ ?_
    · intro hc
      refine ⟨false, rfl, ?_, hB23⟩
      rw [if_neg ?_]
      · rfl
      · rintro ⟨h1, _⟩
        have : ((n : Int) == 0) = ((j' : Int) == 0) := by
          rw [Bool.eq_iff_iff]; simp; omega
        rw [this] at hc
        simp at hc
    · intro hc
      have h1 : n = 0 ↔ j' = 0 := by
        simp at hc
        rw [Bool.eq_iff_iff] at hc
        simp at hc
        omega
      refine NilC.mk ⟨b, 0, none⟩ rfl ⟨_, (cell_put (j := 6) hR'.blk).trans rfl, CondP.mk ?_ ?_⟩
      · intro hk
        have hk := of_decide_eq_true hk
        refine ⟨false, rfl, ?_, hB23⟩
        rw [if_neg (by omega)]
        rfl
      · intro hk
        have hk := of_decide_eq_false hk
        have cc : ∀ j v, (rdCells x' k)[j]? = some v → w3.cell? (((⟨b, 0, none⟩ : Addr).add 0).add j) = some v := by
          intro j v hv
          rw [add_zero, cell_put hR'.blk, hv]
        refine NilC.mk ⟨b, 0, none⟩ rfl ⟨x'.ranked, _, _, _, _, _, _, _, _, _, _, _, _, _, _, _, ⟨?_, cc 1 _ rfl, cc 2 _ rfl, cc 3 _ rfl, cc 4 _ rfl, cc 5 _ rfl, trivial⟩, ?_⟩
        · rw [add_zero]; have := cell_put (j := 0) hR'.blk; rw [add_zero] at this; exact this
        refine (Right_spec x' s' w3 hR'.spec).mono ?_
        rintro e w4 ⟨rfl, hB4⟩
        have hR4 := hR'.on hB4
        have hB34 : Below B w w4 := hB23.trans (hB4.mono (Nat.le_trans hR'.hB (Nat.le_of_lt hR'.lt)))
        refine ⟨_, rfl, CondP.mk ?_ ?_⟩
        · intro hr
          refine ⟨false, rfl, ?_, hB34⟩
          rw [if_neg (by rintro ⟨_, _, e⟩; rw [e] at hr; simp at hr)]
          rfl
        · intro hr
          have hr : s'.right = true := by simpa using hr
          refine NilC.mk ⟨b, 0, none⟩ rfl ⟨rfl, ⟨_, (cell_put (j := 6) hR4.blk).trans rfl⟩, frozen_put hR4.blk, ?_⟩
          rintro w5 rfl
          refine ⟨true, rfl, ?_, below_put hB34 hR4.hB _⟩
          rw [if_pos ⟨h1, by omega, hr⟩]
          refine ⟨rfl, x', hR4.hB, (heap_put (j := 6) hR4.blk _).trans rfl, hR4.rk, hR4.rows.setCell _ _ (by rw [add_block]; exact hR4.off), hR4.off⟩
end Go.Proofs.YtldgehlbicoedaaGreatDoor.Eng

/- spec.Parse, walked by the engine. -/
set_option linter.unusedVariables false
set_option linter.unusedSimpArgs false
set_option maxRecDepth 100000
namespace Go.Proofs.YtldgehlbicoedaaGreatDoor.Eng
open Go Go.RowKit

abbrev tSpec : TypeId := 29
abbrev sl0 : Sl := ⟨none, 0, 0⟩
abbrev zeroX : SpecW := ⟨false, sl0, sl0, sl0, sl0, sl0⟩
theorem rw_nil {α : Type} {enc : α → List Value} {sz : Nat} {w : World} {a : Option Addr} : Rw enc sz w a [] := by
  intro j x hj
  simp at hj
theorem zero_at (w : World) : SpecAt w zeroX {} := ⟨rfl, rfl, rw_nil, rfl, rw_nil, rfl, rw_nil, rfl, rw_nil, rfl, rw_nil⟩
/-- A spec is stored in the block that is kept for the answer, and answered. -/
theorem ret_spec {w w6 : World} {c : Array Value} {T : TypeId} (R : Value → World → Prop) (n m : Int) (x : SpecW) (hblk : w6.heap[w.heap.size]? = some (.cells c T (0, 0))) (hc : c.size = 6)
    (hR : ∀ w7, (∀ w0, Below w.heap.size w0 w6 → Below w.heap.size w0 w7) → (∀ j, j ≠ w.heap.size → w7.heap[j]? = w6.heap[j]?) → R (.tuple #[x.v, .int .i64 n, .int .i64 m]) w7) :
    StoreP w6 (nb w) (fun w7 =>
      ∃ res0 : Bool, ∃ res1A : Option Addr, ∃ res1N : Nat, ∃ res1C : Nat, ∃ res2A : Option Addr, ∃ res2N : Nat, ∃ res2C : Nat, ∃ res3A : Option Addr, ∃ res3N : Nat, ∃ res3C : Nat, ∃ res4A : Option Addr, ∃ res4N : Nat, ∃ res4C : Nat, ∃ res5A : Option Addr, ∃ res5N : Nat, ∃ res5C : Nat, (w7.cell? (nb w) = some (Value.bool res0) ∧ w7.cell? ((nb w).add 1) = some (Value.slice res1A res1N res1C) ∧ w7.cell? ((nb w).add 2) = some (Value.slice res2A res2N res2C) ∧ w7.cell? ((nb w).add 3) = some (Value.slice res3A res3N res3C) ∧ w7.cell? ((nb w).add 4) = some (Value.slice res4A res4N res4C) ∧ w7.cell? ((nb w).add 5) = some (Value.slice res5A res5N res5C) ∧ True) ∧
      R (Value.tuple #[Value.agg #[Value.bool res0, Value.slice res1A res1N res1C, Value.slice res2A res2N res2C, Value.slice res3A res3N res3C, Value.slice res4A res4N res4C, Value.slice res5A res5N res5C], Value.int .i64 n, Value.int .i64 m]) w7)
      [Value.bool x.ranked, Value.slice x.s1.a x.s1.n x.s1.c, Value.slice x.s2.a x.s2.n x.s2.c, Value.slice x.s3.a x.s3.n x.s3.c, Value.slice x.s4.a x.s4.n x.s4.c, Value.slice x.s5.a x.s5.n x.s5.c] 0 := by
  refine storeP_block _ 0 w6 c 0 hblk (by simp [hc]) (by intro v hv; simp at hv; rcases hv with rfl | rfl | rfl | rfl | rfl | rfl <;> rfl) ?_
  intro w7 h7 hne hsz hB
  have h7' : w7.heap[w.heap.size]? = some (.cells x.cells T (0, 0)) := by
    rw [h7]
    congr 2
    simp [layAt, hc]
  have c0 : w7.cell? (nb w) = some (Value.bool x.ranked) := by have := cell_put (j := 0) h7'; rw [add_zero] at this; exact this.trans rfl
  exact ⟨x.ranked, _, _, _, _, _, _, _, _, _, _, _, _, _, _, _, ⟨c0, (cell_put (j := 1) h7').trans rfl, (cell_put (j := 2) h7').trans rfl, (cell_put (j := 3) h7').trans rfl, (cell_put (j := 4) h7').trans rfl, (cell_put (j := 5) h7').trans rfl, trivial⟩, hR w7 (fun w0 h => hB _ w0 (Nat.le_refl _) h) hne⟩
theorem Rw.off {α : Type} {enc : α → List Value} {sz : Nat} {w w7 : World} {b : Nat} {a : Option Addr} {xs : List α} (h : Rw enc sz w a xs) (hne : ∀ j, j ≠ b → w7.heap[j]? = w.heap[j]?) (hs : w.heap.size ≤ w7.heap.size) (ha : ∀ p, a = some p → p.block ≠ b) : Rw enc sz w7 a xs := by
  intro j x hj
  obtain ⟨p, hp, hlt, hc⟩ := h j x hj
  refine ⟨p, hp, by omega, fun k v hk => ?_⟩
  rw [← hc k v hk]
  unfold World.cell?
  rw [hne _ (by rw [add_block, add_block]; exact ha p hp)]

/-- What Parse answers. -/
def ParsePost (t : Bs) (v : Value) (w' : World) : Prop :=
  if 60000 < t.length then ∃ x, v = .tuple #[x.v, .int .i64 0, .int .i64 3] ∧ SpecAt w' x {}
  else match parseS t with
    | .ok s => ∃ x, v = .tuple #[x.v, .int .i64 0, .int .i64 0] ∧ SpecAt w' x s
    | .error m => ∃ x, v = .tuple #[x.v, .int .i64 m, .int .i64 2] ∧ SpecAt w' x {}

theorem specParse_spec (t : Bs) (w : World) (ht : Pow w) (he : Errs w) (hm : Mx w) :
    Calls Tryz.prog 8 #[.string (str t)] w fun e w' => ∃ v, e = .returned v ∧ ParsePost t v w' ∧ Below w.heap.size w w' := by
  refine (vc8_calls (str t) w (fun v w' => ParsePost t v w' ∧ Below w.heap.size w w') ?_)
  intro w1 hw1
  have hb1 : Below w.heap.size w w1 := by rw [hw1]; exact below_alloc _ _
  have k1 : w1.heap[w.heap.size]? = some (.cells zeroX.cells tSpec (0, 0)) := by rw [hw1]; exact alloc_new w _
  have hlt1 : w.heap.size < w1.heap.size := (Array.getElem?_eq_some_iff.1 k1).1
  refine CondP.mk ?_ ?_
  · intro hc
    have hc := of_decide_eq_true hc
    rw [str_size] at hc
    refine ret_spec (fun v w' => ParsePost t v w' ∧ Below w.heap.size w w') 0 3 zeroX k1 rfl ?_
    intro w7 hB hne
    refine ⟨?_, hB w hb1⟩
    unfold ParsePost
    rw [if_pos (by omega)]
    exact ⟨zeroX, rfl, zero_at w7⟩
  · intro hc
    have hc := of_decide_eq_false hc
    rw [str_size] at hc
    refine (Lines_spec t w1 (by omega) (hm.on hb1)).mono ?_
    rintro e w3 ⟨ra, rc, rfl, hrow, hB3⟩
    refine ⟨_, _, _, _, rfl, ?_⟩
    intro w4 hw4
    have hlt3 : w1.heap.size ≤ w3.heap.size := hB3.size
    have hb3 := below_then hb1 hB3
    have hb34 : Below w3.heap.size w3 w4 := by rw [hw4]; exact below_alloc _ _
    have hR4 : RdAt w3.heap.size w3.heap.size zeroX {} 0 w4 := by
      refine ⟨Nat.le_refl _, by rw [hw4]; exact alloc_new w3 _, rfl, ⟨?_, ?_⟩, ?_⟩
      · intro r hr
        simp at hr
        rcases hr with rfl | rfl | rfl | rfl | rfl <;> exact own_nil _ _ _ _
      · simp only [rdRows, List.pairwise_cons]
        refine ⟨?_, ?_, ?_, ?_, ?_, List.Pairwise.nil⟩ <;> (intro r' _ k hk; cases hk)
      · intro r hr
        simp at hr
        rcases hr with rfl | rfl | rfl | rfl | rfl <;> (intro e; cases e)
    have hne0 := cutL_ne 10 t
    have hlen : (cutL 10 t).dropLast.length = (cutL 10 t).length - 1 := by simp
    have hpos : 0 < (cutL 10 t).length := List.length_pos_iff.2 hne0
    have hcnt := cutL_count 10 t
    have hsm := cutL_small 10 t
    -- what stays
    have kk : ∀ {w5 : World}, Below w3.heap.size w4 w5 → w5.heap[w.heap.size]? = some (.cells zeroX.cells tSpec (0, 0)) := by
      intro w5 hB
      rw [hB.block _ (by omega), hb34.block _ (by omega), hB3.block _ hlt1, k1]
    have bel : ∀ {w5 : World}, Below w3.heap.size w4 w5 → Below w.heap.size w w5 := fun hB => below_then hb3 (hb34.trans hB)
    have bad : ∀ (m : Nat) {w5 : World}, Below w3.heap.size w4 w5 → parseS t = .error m → ∀ z : Int, z = m →
        StoreP w5 (nb w) (fun w7 =>
      ∃ res0 : Bool, ∃ res1A : Option Addr, ∃ res1N : Nat, ∃ res1C : Nat, ∃ res2A : Option Addr, ∃ res2N : Nat, ∃ res2C : Nat, ∃ res3A : Option Addr, ∃ res3N : Nat, ∃ res3C : Nat, ∃ res4A : Option Addr, ∃ res4N : Nat, ∃ res4C : Nat, ∃ res5A : Option Addr, ∃ res5N : Nat, ∃ res5C : Nat, (w7.cell? (nb w) = some (Value.bool res0) ∧ w7.cell? ((nb w).add 1) = some (Value.slice res1A res1N res1C) ∧ w7.cell? ((nb w).add 2) = some (Value.slice res2A res2N res2C) ∧ w7.cell? ((nb w).add 3) = some (Value.slice res3A res3N res3C) ∧ w7.cell? ((nb w).add 4) = some (Value.slice res4A res4N res4C) ∧ w7.cell? ((nb w).add 5) = some (Value.slice res5A res5N res5C) ∧ True) ∧
      (fun v w' => ParsePost t v w' ∧ Below w.heap.size w w') (Value.tuple #[Value.agg #[Value.bool res0, Value.slice res1A res1N res1C, Value.slice res2A res2N res2C, Value.slice res3A res3N res3C, Value.slice res4A res4N res4C, Value.slice res5A res5N res5C], Value.int .i64 z, Value.int .i64 2]) w7)
      [Value.bool false, Value.slice none 0 0, Value.slice none 0 0, Value.slice none 0 0, Value.slice none 0 0, Value.slice none 0 0] 0 := by
      intro m w5 hB hp z hz
      refine ret_spec (fun v w' => ParsePost t v w' ∧ Below w.heap.size w w') z 2 zeroX (kk hB) rfl ?_
      intro w7 hB7 hne
      refine ⟨?_, hB7 w (bel hB)⟩
      unfold ParsePost
      rw [if_neg (by omega), hp]
      exact ⟨zeroX, by rw [hz], zero_at w7⟩
    intro I hI
    refine climb2 (α := SpecW × SpecV × Nat × World) ((cutL 10 t).length - 1)
      (fun i y => RdAt w3.heap.size w3.heap.size y.1 y.2.1 y.2.2.1 y.2.2.2 ∧ SmallS y.2.1 ∧ readAll {} 0 0 (cutL 10 t).dropLast = readAll y.2.1 y.2.2.1 i ((cutL 10 t).dropLast.drop i) ∧ Below w3.heap.size w4 y.2.2.2)
      (fun i y => I [.int .i64 (i : Int), .int .i64 0, .int .i64 0] y.2.2.2) (zeroX, {}, 0, w4) ⟨hR4, by simp [SmallS], rfl, Below.refl _ _⟩ ?_ ?_
    · rintro i hi ih ⟨x, s, k, w5⟩ ⟨hR, hs, hrd, hB⟩
      dsimp only at hR hs hrd hB
      refine hI _ _ _ _ (CondP.yes (by simp; omega) ?_)
      have hi' : i < (cutL 10 t).dropLast.length := by omega
      have hb5 : Below w3.heap.size w3 w5 := hb34.trans hB
      obtain ⟨p, hpa, _, hcp⟩ := (hrow.on hb5) i _ (List.getElem?_eq_getElem hi')
      refine NilC.mk p hpa ⟨by omega, by omega, str (cutL 10 t).dropLast[i], by simpa using hcp, ?_⟩
      have hll : (cutL 10 t).dropLast[i].length ≤ 60000 := by
        have := hsm _ (List.dropLast_subset _ (List.getElem_mem hi'))
        omega
      have hall := bel hB
      refine (rd_line_spec _ _ x s k i (cutL 10 t).dropLast[i] w5 hR hs (by omega) (ht.on hall) (he.on hall) (hm.on hall)).mono ?_
      rintro e w6 ⟨ok, rfl, hp, hB6⟩
      rw [List.drop_eq_getElem_cons hi', readAll] at hrd
      refine ⟨_, rfl, ?_⟩
      cases hr : readLn s k i (cutL 10 t).dropLast[i] with
      | none =>
        rw [hr] at hp hrd
        have hp : ok = false := hp
        subst hp
        refine CondP.yes rfl (Ar.ok64 (by omega) (by omega) ?_)
        exact bad (i + 1) (hB.trans hB6) (by unfold parseS; rw [hrd]) _ (by simp)
      | some sj =>
        obtain ⟨s', j⟩ := sj
        rw [hr] at hp hrd
        obtain ⟨rfl, x', hR'⟩ := hp
        refine CondP.no rfl (Ar.ok64 (by omega) (by omega) ?_)
        refine ih (x', s', j, w6) ⟨hR', ?_, hrd, hB.trans hB6⟩
        refine right_small ?_
        unfold readLn gate at hr
        split at hr
        · cases hr
        · split at hr
          · rename_i hg
            cases hr
            exact hg.2.2
          · cases hr
    · rintro ⟨x, s, k, w5⟩ ⟨hR, hs, hrd, hB⟩
      dsimp only at hR hs hrd hB
      refine hI _ _ _ _ (CondP.no (by simp) ?_)
      rw [List.drop_eq_nil_of_le (by omega), readAll] at hrd
      refine CondP.mk ?_ ?_
      · intro hc1
        have hc1 : ¬ (cutL 10 t).getLast? = some [] := by simpa using hc1
        refine Ar.ok64 (by omega) (by omega) ?_
        exact bad (cutL 10 t).length hB (by unfold parseS; rw [hrd]; dsimp only; rw [if_neg (fun h => hc1 h.1)]) _ (by omega)
      · intro hc1
        have hc1 : (cutL 10 t).getLast? = some [] := by simpa using hc1
        refine CondP.mk ?_ ?_
        · intro hc2
          have hc2 : (((cutL 10 t).length - 1 : Nat) : Int) = 0 := by simpa using hc2
          refine Ar.ok64 (by omega) (by omega) ?_
          exact bad (cutL 10 t).length hB (by unfold parseS; rw [hrd]; dsimp only; rw [if_neg (fun h => h.2 (List.eq_nil_of_length_eq_zero (by omega)))]) _ (by omega)
        · intro hc2
          have hc2 : (((cutL 10 t).length - 1 : Nat) : Int) ≠ 0 := by simpa using hc2
          have cc : ∀ j v, (rdCells x k)[j]? = some v → w5.cell? (((nb w3).add 0).add j) = some v := by
            intro j v hv
            rw [add_zero, cell_put hR.blk, hv]
          have cc0 : w5.cell? ((nb w3).add 0) = some (.bool x.ranked) := (cell_put (j := 0) hR.blk).trans rfl
          refine ⟨x.ranked, _, _, _, _, _, _, _, _, _, _, _, _, _, _, _, ⟨cc0, cc 1 _ rfl, cc 2 _ rfl, cc 3 _ rfl, cc 4 _ rfl, cc 5 _ rfl, trivial⟩, ?_⟩
          refine ret_spec (fun v w' => ParsePost t v w' ∧ Below w.heap.size w w') 0 0 x (kk hB) rfl ?_
          intro w7 hB7 hne
          refine ⟨?_, hB7 w (bel hB)⟩
          unfold ParsePost
          rw [if_neg (by omega)]
          have hps : parseS t = .ok s := by
            unfold parseS; rw [hrd]; dsimp only; rw [if_pos ⟨hc1, fun h => by rw [h] at hlen; simp at hlen; omega⟩]
          rw [hps]
          refine ⟨x, rfl, ?_⟩
          have hsp := hR.spec
          have hsz : w5.heap.size ≤ w7.heap.size := (hB7 w5 (Below.refl _ _)).size
          have hoff : ∀ r ∈ rdRows x s, ∀ p, r.sl.a = some p → p.block ≠ w.heap.size := by
            intro r hr p hp
            have h1 : r.blk = some p.block := by
              unfold RowV.blk Sl.v
              rw [hp]
              rfl
            have := (hR.rows.lt hr _ h1).1
            omega
          exact ⟨hsp.ranked, hsp.n1, hsp.r1.off hne hsz (hoff (row1 x.s1 s) (by simp)), hsp.n2, hsp.r2.off hne hsz (hoff (row2 x.s2 s) (by simp)), hsp.n3, hsp.r3.off hne hsz (hoff (row3 x.s3 s) (by simp)),
            hsp.n4, hsp.r4.off hne hsz (hoff (row4 x.s4 s) (by simp)), hsp.n5, hsp.r5.off hne hsz (hoff (row5 x.s5 s) (by simp))⟩
end Go.Proofs.YtldgehlbicoedaaGreatDoor.Eng
