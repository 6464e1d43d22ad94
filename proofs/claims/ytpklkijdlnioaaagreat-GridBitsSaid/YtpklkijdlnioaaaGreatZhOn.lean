/- sync/atomic and sync.Once, one goroutine: walked by the kit's tactics. -/
import Derived.Test.YtpklkijdlnioaaaGreatZhVp
import Derived.Tactics
import Derived.Tactics2
import Derived.Defers
import Derived.Laws.Pointers
import Derived.Laws.LoneSync
import Derived.RegionTactic
import Derived.RegionCalls
import Derived.ChangeAlike
set_option linter.unusedVariables false
set_option linter.unusedSimpArgs false
set_option maxRecDepth 100000
namespace Go.Proofs.YtpklkijdlnioaaaGreat.Eng
open Go Go.RowKit
theorem once_disable (w : World) : (callFunc 210 #[]).run Tryz.prog w = .ok (.value (.tuple #[])) w := run_call_mark0 Tryz.func210 (by kernel_rfl) (by kernel_rfl) (by kernel_rfl) .disable (by kernel_rfl) w
theorem once_enable (w : World) : (callFunc 212 #[]).run Tryz.prog w = .ok (.value (.tuple #[])) w := run_call_mark0 Tryz.func212 (by kernel_rfl) (by kernel_rfl) (by kernel_rfl) .enable (by kernel_rfl) w
theorem once_acquire (a : Addr) (w : World) : (callFunc 213 #[.pointer (some a)]).run Tryz.prog w = .ok (.value (.tuple #[])) w := run_call_marked Tryz.func213 (by kernel_rfl) (by kernel_rfl) (by kernel_rfl) .acquire (by kernel_rfl) a w
theorem once_releaseMerge (a : Addr) (w : World) : (callFunc 215 #[.pointer (some a)]).run Tryz.prog w = .ok (.value (.tuple #[])) w := run_call_marked Tryz.func215 (by kernel_rfl) (by kernel_rfl) (by kernel_rfl) .releaseMerge (by kernel_rfl) a w

/-- atomic.Int64's Add. -/
theorem atomicAdd_spec (a : Addr) (n : Int) (w : World) (hc : w.cell? a = some (.int .i64 n)) (hz : w.frozen? a = false) :
    Calls Tryz.prog 99 #[.pointer (some a), .int .i64 1] w fun e w' => ∃ m : Int, e = .returned (.int .i64 m) ∧ w' = w.setCell a (.int .i64 m) := by
  have hadd := run_call_add (P := Tryz.prog) Tryz.func131 (by kernel_rfl) (by kernel_rfl) (by kernel_rfl) .i64 (by kernel_rfl) (y := 1) (s := IntKind.i64.wrap (n + 1)) hc hz (by simp [go_sem])
  go_enter Tryz.func99, Tryz.ntmps99
  go_wp2
  go_ret
  exact ⟨_, rfl, rfl⟩
theorem once_store (a : Addr) (x : Value) (u : FrameMode) (w : World) (hc : w.cell? a = some x) (hz : w.frozen? a = false) :
    CallsD Tryz.prog 178 #[.pointer (some a), .bool true] u w fun e u' w' => u' = u ∧ (e = .returned (.tuple #[]) ∧ w' = w.drew.setCell a (.int .u32 1)) := by
  have hc' : w.drew.cell? a = some x := by go_simp
  have hz' : w.drew.frozen? a = false := by go_simp
  have hst := run_call_store (P := Tryz.prog) Tryz.func202 (by kernel_rfl) (by kernel_rfl) (by kernel_rfl) (by kernel_rfl) (k := .u32) (y := 1) hc' hz'
  go_enter_d Tryz.func178, Tryz.ntmps178
  go_wp2
  go_region_calls
  all_goals (go_end0; exact ⟨rfl, rfl⟩)
theorem once_unlock (a : Addr) (u : FrameMode) (w : World) (hc : w.cell? a = some (.int .i32 1)) (hz : w.frozen? a = false) :
    CallsD Tryz.prog 177 #[.pointer (some a)] u w fun e u' w' => u' = u ∧ (e = .returned (.tuple #[]) ∧ w' = w.setCell a (.int .i32 0)) := by
  have hd := once_disable
  have he := once_enable
  have hr := once_releaseMerge
  have hadd := run_call_add (P := Tryz.prog) Tryz.func216 (by kernel_rfl) (by kernel_rfl) (by kernel_rfl) .i32 (by kernel_rfl) (y := -1) (s := 0) hc hz (by simp [go_sem]; rfl)
  have hcv := run_convert_to_unsafe (P := Tryz.prog) (src := 279) (dst := 283) Tryz.underlying279 Tryz.underlying283 (by kernel_rfl) hc
  go_enter_d Tryz.func177, Tryz.ntmps177
  go_wp2
  go_end0
  go_wp2
  go_end0
  exact ⟨rfl, rfl⟩
theorem once_lock (a : Addr) (w : World) (hc : w.cell? a = some (.int .i32 0)) (hz : w.frozen? a = false) :
    Calls Tryz.prog 176 #[.pointer (some a)] w fun e w' => e = .returned (.tuple #[]) ∧ w' = w.setCell a (.int .i32 1) := by
  have hd := once_disable
  have he := once_enable
  have ha := once_acquire
  have hcas := run_call_cas_hit (P := Tryz.prog) Tryz.func211 (by kernel_rfl) (by kernel_rfl) (by kernel_rfl) .i32 (by kernel_rfl) (y := 1) hc hz
  have hc' : (w.setCell a (.int .i32 1)).cell? a = some (.int .i32 1) := World.cell?_setCell_same w a _ hc
  have hcv := run_convert_to_unsafe (P := Tryz.prog) (src := 279) (dst := 283) Tryz.underlying279 Tryz.underlying283 (by kernel_rfl) hc'
  go_enter Tryz.func176, Tryz.ntmps176
  go_wp2
  first | go_end0 | (simp only [Exit.inBlock, Exit.then]; refine bodyPost_ret (results_none rfl _ _ _) rfl ?_) | refine bodyPost_ret (results_none rfl _ _ _) rfl ?_
  go_wp2
  go_end0
  exact ⟨rfl, rfl⟩
set_option maxHeartbeats 1600000 in
theorem once_slow (v : Nat) (w : World) (K : World → Prop)
    (hfind : Calls Tryz.prog 101 #[.pointer (some ⟨v, 0, none⟩)] (w.setCell ⟨v, 10, none⟩ (.int .i32 1)) fun e w' => e = .returned (.tuple #[]) ∧ K w')
    (hK : ∀ w', K w' → w'.cell? ⟨v, 9, none⟩ = some (.int .u32 0) ∧ w'.frozen? ⟨v, 9, none⟩ = false ∧ w'.cell? ⟨v, 10, none⟩ = some (.int .i32 1) ∧ w'.frozen? ⟨v, 10, none⟩ = false)
    (h0 : w.cell? ⟨v, 9, none⟩ = some (.int .u32 0)) (h1 : w.cell? ⟨v, 10, none⟩ = some (.int .i32 0)) (f0 : w.frozen? ⟨v, 9, none⟩ = false) (f1 : w.frozen? ⟨v, 10, none⟩ = false) :
    Calls Tryz.prog 133 #[.pointer (some ⟨v, 9, none⟩), .func (.func 101) #[.pointer (some ⟨v, 0, none⟩)] #[]] w fun e w' => e = .returned (.tuple #[]) ∧ ∃ w2, K w2 ∧ w' = (w2.drew.setCell ⟨v, 9, none⟩ (.int .u32 1)).setCell ⟨v, 10, none⟩ (.int .i32 0) := by
  have hl := run_call_load (P := Tryz.prog) Tryz.func175 (by kernel_rfl) (by kernel_rfl) (by kernel_rfl) .u32 (by kernel_rfl) (w := w.setCell ⟨v, 10, none⟩ (.int .i32 1)) (a := ⟨v, 9, none⟩) (x := 0) ((World.cell?_setCell_other _ ⟨v, 10, none⟩ ⟨v, 9, none⟩ _ (by simp)).trans h0)
  have hnot : ∀ (x : Bool) (w : World), (Op.unary .not (.bool x)).run Tryz.prog w = .ok (.bool (!x)) w := fun _ _ => rfl
  go_enter_defers Tryz.func133, Tryz.ntmps133
  go_wp2_with (go_at_call 176; refine (once_lock ⟨v, 10, none⟩ _ (by go_simp) (by go_simp)).mono ?_; rintro e w' ⟨rfl, rfl⟩)
  go_wp2_with (first | (go_at_call 101; refine hfind.mono ?_; rintro e w' ⟨rfl, hk⟩) | go_in)
  obtain ⟨k0, k1, k2, k3⟩ := hK _ hk
  refine leaves_cons (f := 178) (args := #[.pointer (some ⟨v, 9, none⟩), .bool true]) (by simp) (by simp [go_sem]) ?_
  refine (once_store ⟨v, 9, none⟩ (.int .u32 0) .returning _ k0 k1).mono ?_
  rintro e u' w'' ⟨rfl, rfl, rfl⟩
  refine leaves_cons (f := 177) (args := #[.pointer (some ⟨v, 10, none⟩)]) (by simp [settle]) (by simp [go_sem]) ?_
  refine (once_unlock ⟨v, 10, none⟩ _ _ ?_ ?_).mono ?_
  · refine (World.cell?_setCell_other _ ⟨v, 9, none⟩ ⟨v, 10, none⟩ _ (by simp)).trans ?_
    rw [World.cell?_drew]
    exact k2
  · simp [k3]
  rintro e u' w'' ⟨rfl, rfl, rfl⟩
  simp [Leaves, settle, results, Tryz.results133]
  exact ⟨_, hk, rfl⟩
set_option maxHeartbeats 1600000 in
theorem once_do (v : Nat) (w : World) (K : World → Prop)
    (hfind : Calls Tryz.prog 101 #[.pointer (some ⟨v, 0, none⟩)] (w.setCell ⟨v, 10, none⟩ (.int .i32 1)) fun e w' => e = .returned (.tuple #[]) ∧ K w')
    (hK : ∀ w', K w' → w'.cell? ⟨v, 9, none⟩ = some (.int .u32 0) ∧ w'.frozen? ⟨v, 9, none⟩ = false ∧ w'.cell? ⟨v, 10, none⟩ = some (.int .i32 1) ∧ w'.frozen? ⟨v, 10, none⟩ = false)
    (h0 : w.cell? ⟨v, 9, none⟩ = some (.int .u32 0)) (h1 : w.cell? ⟨v, 10, none⟩ = some (.int .i32 0)) (f0 : w.frozen? ⟨v, 9, none⟩ = false) (f1 : w.frozen? ⟨v, 10, none⟩ = false) :
    Calls Tryz.prog 100 #[.pointer (some ⟨v, 9, none⟩), .func (.func 101) #[.pointer (some ⟨v, 0, none⟩)] #[]] w fun e w' => e = .returned (.tuple #[]) ∧ ∃ w2, K w2 ∧ w' = (w2.drew.setCell ⟨v, 9, none⟩ (.int .u32 1)).setCell ⟨v, 10, none⟩ (.int .i32 0) := by
  have hl := run_call_load (P := Tryz.prog) Tryz.func175 (by kernel_rfl) (by kernel_rfl) (by kernel_rfl) .u32 (by kernel_rfl) h0
  have hnot : ∀ (x : Bool) (w : World), (Op.unary .not (.bool x)).run Tryz.prog w = .ok (.bool (!x)) w := fun _ _ => rfl
  go_enter Tryz.func100, Tryz.ntmps100
  go_wp2_with (first | (go_at_call 133; refine (once_slow v w K hfind hK h0 h1 f0 f1).mono ?_; rintro e w' ⟨rfl, hk⟩) | (go_at_call 132; go_in))
  go_end0
  exact ⟨rfl, hk⟩
theorem once_done (a : Addr) (d : Int) (hd : ¬ d = 0) (fv : Value) (w : World) (h0 : w.cell? a = some (.int .u32 d)) :
    Calls Tryz.prog 100 #[.pointer (some a), fv] w fun e w' => e = .returned (.tuple #[]) ∧ w' = w := by
  have hl := run_call_load (P := Tryz.prog) Tryz.func175 (by kernel_rfl) (by kernel_rfl) (by kernel_rfl) .u32 (by kernel_rfl) h0
  have hnot : ∀ (x : Bool) (w : World), (Op.unary .not (.bool x)).run Tryz.prog w = .ok (.bool (!x)) w := fun _ _ => rfl
  have hd' : (d != 0) = true := by simp [hd]
  go_enter Tryz.func100, Tryz.ntmps100
  go_wp2
  go_end0
  exact ⟨rfl, rfl⟩
end Go.Proofs.YtpklkijdlnioaaaGreat.Eng
