/- strings.Builder's writers, walked by the engine: what is written is appended to the bytes that it holds. -/
import Derived.Test.YtibjkknfgppogaaDoorVc
import Derived.Test.YtibjkknfgppogaaDoorLib
import Derived.Test.YtibjkknfgppogaaDoorSh
set_option linter.unusedVariables false
set_option linter.unusedSimpArgs false
namespace Go.Proofs.YtibjkknfgppogaaDoor.Eng
open Go Go.RowKit

/-- The type numbers of a strings.Builder and of a byte. -/
abbrev tB : TypeId := 45
abbrev tU8 : TypeId := 5
abbrev tBytes : TypeId := 41
theorem sizeB : (Tryd.prog.info? tB).map (·.size) = some 2 := by kernel_rfl
theorem liesB : liesAt Tryd.prog Tryd.prog.depth tB (2 / Tryd.prog.cellsOf tB) 0 tB 1 = true := by kernel_rfl
theorem undPB : Tryd.prog.underlying 43 = some (.pointer tB) := by kernel_rfl
theorem undUP : Tryd.prog.underlying 62 = some .unsafePointer := by kernel_rfl
theorem infoU8 : (Tryd.prog.info? tU8).map (fun i => (i.zero, i.size, i.bytes)) = some (some (.int .u8 0), 1, 1) := by kernel_rfl
theorem undBytes : Tryd.prog.underlying tBytes = some (.slice tU8) := by kernel_rfl
theorem ext_noEscape (x : Value) (w : World) : (extCall 40 #[x]).run Tryd.prog w = .ok x w := by kernel_rfl

theorem copyCheck_spec (B b : Nat) (bs : List Value) (w : World) (h : Lib.IsBuilder tB tU8 B b bs w) :
    Calls Tryd.prog 31 #[.pointer (some ⟨b, 0, none⟩)] w fun e w' => e = .returned (.tuple #[]) ∧ Lib.BuilderAt tB tU8 B b (.pointer (some ⟨b, 0, none⟩)) bs w' ∧ Below B w w' := by
  obtain ⟨j, hj, hjs⟩ := info_exists sizeB
  refine calls_ret (vc31_calls (some ⟨b, 0, none⟩) w (fun v w' => v = .tuple #[] ∧ Lib.BuilderAt tB tU8 B b (.pointer (some ⟨b, 0, none⟩)) bs w' ∧ Below B w w') ?_) (by rintro v w' ⟨rfl, h⟩; exact ⟨rfl, h⟩)
  rcases h with h | h
  · refine ⟨none, h.cell0, some ⟨b, 0, none⟩, w, ?_, .pointer (some ⟨b, 0, none⟩), w, ext_noEscape _ _, some ⟨b, 0, none⟩, rfl, some ⟨b, 0, none⟩, w, ?_, rfl, ⟨_, h.cell0⟩, h.frozen0, ?_⟩
    · exact Lib.run_to_unsafe w ⟨b, 0, none⟩ undPB undUP hj (by rw [hjs]; decide) h.shape (Nat.zero_lt_succ 1)
    · exact Lib.run_from_unsafe w ⟨b, 0, none⟩ undUP undPB hj h.shape liesB
    · rintro w4 rfl
      exact ⟨rfl, h.used _, (Below.refl B w).setCell (p := ⟨b, 0, none⟩) h.1 _⟩
  · exact ⟨_, h.cell0, _, h.cell0, true, equal_same undPB sizeB 9999, rfl, h, Below.refl _ _⟩

theorem writeByte_spec (B b : Nat) (bs : List Value) (c : Int) (w : World) (h : Lib.IsBuilder tB tU8 B b bs w) (hlen : bs.length + 1 ≤ 140737488355328) (hBw : B ≤ w.heap.size) :
    Calls Tryd.prog 23 #[.pointer (some ⟨b, 0, none⟩), .int .u8 c] w fun e w' => e = .returned .nilIface ∧ Lib.BuilderAt tB tU8 B b (.pointer (some ⟨b, 0, none⟩)) (bs ++ [.int .u8 c]) w' ∧ Below B w w' := by
  refine calls_ret (vc23_calls (some ⟨b, 0, none⟩) c w (fun v w' => v = .nilIface ∧ Lib.BuilderAt tB tU8 B b (.pointer (some ⟨b, 0, none⟩)) (bs ++ [.int .u8 c]) w' ∧ Below B w w') ?_) (by rintro v w' ⟨rfl, h⟩; exact ⟨rfl, h⟩)
  refine (copyCheck_spec B b bs w h).mono ?_
  rintro e w1 ⟨rfl, h1, hb1⟩
  refine ⟨rfl, ?_⟩
  obtain ⟨hB, v, hb, hown, hne⟩ := h1
  obtain ⟨ao, cap, rfl, hcap⟩ := own_form hown
  have hlt : b < w1.heap.size := (Array.getElem?_eq_some_iff.1 hb).1
  have hB1 : B ≤ w1.heap.size := Nat.le_trans hBw hb1.size
  have c1 : w1.cell? ⟨b, 1, none⟩ = some (.slice ao bs.length cap) := by rw [cell_heap hb]; rfl
  refine ⟨ao, bs.length, cap, c1, ?_⟩
  rintro w2 rfl
  obtain ⟨a', c', w3, hr, hown3, hg, hnb⟩ := run_push (P := Tryd.prog) tBytes tU8 undBytes infoU8 rfl (by decide) hown [.int .u8 c] rfl (by intro u hu; simp at hu; subst hu; rfl) (by omega) (by omega) hB1
  have hb3 : w3.heap[b]? = some (.cells #[.pointer (some ⟨b, 0, none⟩), .slice ao bs.length cap] tB (0, 0)) := by
    rw [block_push hg hlt (fun he => hne he.symm)]; exact hb
  have hlt3 : b < w3.heap.size := (Array.getElem?_eq_some_iff.1 hb3).1
  have hne3 : (Value.slice a' (bs.length + 1) c').ownBlock ≠ some b := by
    rcases hnb with e | e
    · rw [e]; exact hne
    · rw [e]; intro e; cases e; omega
  refine ⟨a', bs.length + 1, c', w3, hr, rfl, ⟨_, (cell_heap hb3 (j := 1)).trans rfl⟩, ?_, ?_⟩
  · show w3.frozen? ⟨b, 1, none⟩ = false
    simp [World.frozen?, hb3]
  · rintro w4 rfl
    refine ⟨rfl, ⟨hB, .slice a' (bs.length + 1) c', ?_, ?_, hne3⟩, ?_⟩
    · exact (setCell_heap hb3 _).trans rfl
    · rw [show (bs ++ [Value.int .u8 c]).length = bs.length + 1 from by simp]
      exact own_setCell hown3 _ hne3
    · exact (below_push hb1 hown hg hB1).setCell (p := ⟨b, 1, none⟩) hB _
end Go.Proofs.YtibjkknfgppogaaDoor.Eng
