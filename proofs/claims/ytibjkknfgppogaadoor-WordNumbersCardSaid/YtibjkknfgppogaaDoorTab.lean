/- The types that this claim's functions name, as the loaded program has them. -/
import Derived.Test.YtibjkknfgppogaaDoorEngH
import Derived.Test.YtibjkknfgppogaaDoorProg
import Derived.KernelRfl
set_option linter.unusedVariables false
namespace Go.Proofs.YtibjkknfgppogaaDoor.Eng
open Go

def ti0 : TI := { rs := some (.tup []) }
theorem ti0_ok : TIok Tryd.prog 0 ti0 where
  size := none_all rfl
  agg := none_all rfl
  zero := none_all rfl
  offs := none_all rfl
  arr := none_all2 rfl
  slc := none_all2 rfl
  isStr := no_all rfl
  intk := none_all rfl
  conc := no_all rfl
  isPtr := no_all rfl
  isSlc := no_all rfl
  isMap := no_all rfl
  isBool := no_all rfl
def ti3 : TI := { size := some 1, agg := some false, rs := some (.one (.leaf (.int .i64))), zero := some (Value.int .i64 0), intk := some .i64, conc := true }
theorem ti3_ok : TIok Tryd.prog 3 ti3 where
  size := some_all (1) rfl (by kernel_rfl)
  agg := some_all (false) rfl (by kernel_rfl)
  zero := some_all (Value.int .i64 0) rfl (by kernel_rfl)
  offs := none_all rfl
  arr := none_all2 rfl
  slc := none_all2 rfl
  isStr := no_all rfl
  intk := some_all (IntKind.i64) rfl (by kernel_rfl)
  conc := yes_all ⟨descOf (Tryd.prog.underlying 3), by kernel_rfl, concrete (by kernel_rfl)⟩
  isPtr := no_all rfl
  isSlc := no_all rfl
  isMap := no_all rfl
  isBool := no_all rfl
def ti4 : TI := { size := some 1, agg := some false, rs := some (.one (.leaf (.bool))), zero := some (Value.bool false), conc := true, isBool := true }
theorem ti4_ok : TIok Tryd.prog 4 ti4 where
  size := some_all (1) rfl (by kernel_rfl)
  agg := some_all (false) rfl (by kernel_rfl)
  zero := some_all (Value.bool false) rfl (by kernel_rfl)
  offs := none_all rfl
  arr := none_all2 rfl
  slc := none_all2 rfl
  isStr := no_all rfl
  intk := none_all rfl
  conc := yes_all ⟨descOf (Tryd.prog.underlying 4), by kernel_rfl, concrete (by kernel_rfl)⟩
  isPtr := no_all rfl
  isSlc := no_all rfl
  isMap := no_all rfl
  isBool := yes_all (by kernel_rfl)
def ti5 : TI := { size := some 1, agg := some false, rs := some (.one (.leaf (.int .u8))), zero := some (Value.int .u8 0), intk := some .u8, conc := true }
theorem ti5_ok : TIok Tryd.prog 5 ti5 where
  size := some_all (1) rfl (by kernel_rfl)
  agg := some_all (false) rfl (by kernel_rfl)
  zero := some_all (Value.int .u8 0) rfl (by kernel_rfl)
  offs := none_all rfl
  arr := none_all2 rfl
  slc := none_all2 rfl
  isStr := no_all rfl
  intk := some_all (IntKind.u8) rfl (by kernel_rfl)
  conc := yes_all ⟨descOf (Tryd.prog.underlying 5), by kernel_rfl, concrete (by kernel_rfl)⟩
  isPtr := no_all rfl
  isSlc := no_all rfl
  isMap := no_all rfl
  isBool := no_all rfl
def ti9 : TI := { size := some 1, agg := some false, rs := some (.one (.leaf (.str))), zero := some (Value.string ⟨#[]⟩), isStr := true, conc := true }
theorem ti9_ok : TIok Tryd.prog 9 ti9 where
  size := some_all (1) rfl (by kernel_rfl)
  agg := some_all (false) rfl (by kernel_rfl)
  zero := some_all (Value.string ⟨#[]⟩) rfl (by kernel_rfl)
  offs := none_all rfl
  arr := none_all2 rfl
  slc := none_all2 rfl
  isStr := yes_all (by kernel_rfl)
  intk := none_all rfl
  conc := yes_all ⟨descOf (Tryd.prog.underlying 9), by kernel_rfl, concrete (by kernel_rfl)⟩
  isPtr := no_all rfl
  isSlc := no_all rfl
  isMap := no_all rfl
  isBool := no_all rfl
def ti23 : TI := { rs := some (.tup [.leaf (.str), .leaf (.bool)]) }
theorem ti23_ok : TIok Tryd.prog 23 ti23 where
  size := none_all rfl
  agg := none_all rfl
  zero := none_all rfl
  offs := none_all rfl
  arr := none_all2 rfl
  slc := none_all2 rfl
  isStr := no_all rfl
  intk := none_all rfl
  conc := no_all rfl
  isPtr := no_all rfl
  isSlc := no_all rfl
  isMap := no_all rfl
  isBool := no_all rfl
def ti27 : TI := { size := some 1, agg := some false, rs := some (.one (.leaf (.slice))), zero := some (Value.slice none 0 0), slc := some (9, 1), conc := true, isSlc := true }
theorem ti27_ok : TIok Tryd.prog 27 ti27 where
  size := some_all (1) rfl (by kernel_rfl)
  agg := some_all (false) rfl (by kernel_rfl)
  zero := some_all (Value.slice none 0 0) rfl (by kernel_rfl)
  offs := none_all rfl
  arr := none_all2 rfl
  slc := some_all2 9 1 rfl ⟨by kernel_rfl, by kernel_rfl⟩
  isStr := no_all rfl
  intk := none_all rfl
  conc := yes_all ⟨descOf (Tryd.prog.underlying 27), by kernel_rfl, concrete (by kernel_rfl)⟩
  isPtr := no_all rfl
  isSlc := yes_all ⟨9, by kernel_rfl⟩
  isMap := no_all rfl
  isBool := no_all rfl
def ti28 : TI := { rs := some (.tup [.leaf (.slice), .leaf (.bool)]) }
theorem ti28_ok : TIok Tryd.prog 28 ti28 where
  size := none_all rfl
  agg := none_all rfl
  zero := none_all rfl
  offs := none_all rfl
  arr := none_all2 rfl
  slc := none_all2 rfl
  isStr := no_all rfl
  intk := none_all rfl
  conc := no_all rfl
  isPtr := no_all rfl
  isSlc := no_all rfl
  isMap := no_all rfl
  isBool := no_all rfl
def ti35 : TI := { size := some 1, agg := some false, rs := some (.one (.leaf (.slice))), zero := some (Value.slice none 0 0), slc := some (3, 1), conc := true, isSlc := true }
theorem ti35_ok : TIok Tryd.prog 35 ti35 where
  size := some_all (1) rfl (by kernel_rfl)
  agg := some_all (false) rfl (by kernel_rfl)
  zero := some_all (Value.slice none 0 0) rfl (by kernel_rfl)
  offs := none_all rfl
  arr := none_all2 rfl
  slc := some_all2 3 1 rfl ⟨by kernel_rfl, by kernel_rfl⟩
  isStr := no_all rfl
  intk := none_all rfl
  conc := yes_all ⟨descOf (Tryd.prog.underlying 35), by kernel_rfl, concrete (by kernel_rfl)⟩
  isPtr := no_all rfl
  isSlc := yes_all ⟨3, by kernel_rfl⟩
  isMap := no_all rfl
  isBool := no_all rfl
def ti36 : TI := { rs := some (.tup [.leaf (.int .i64), .leaf (.bool)]) }
theorem ti36_ok : TIok Tryd.prog 36 ti36 where
  size := none_all rfl
  agg := none_all rfl
  zero := none_all rfl
  offs := none_all rfl
  arr := none_all2 rfl
  slc := none_all2 rfl
  isStr := no_all rfl
  intk := none_all rfl
  conc := no_all rfl
  isPtr := no_all rfl
  isSlc := no_all rfl
  isMap := no_all rfl
  isBool := no_all rfl
def ti41 : TI := { size := some 1, agg := some false, rs := some (.one (.leaf (.slice))), zero := some (Value.slice none 0 0), slc := some (5, 1), conc := true, isSlc := true }
theorem ti41_ok : TIok Tryd.prog 41 ti41 where
  size := some_all (1) rfl (by kernel_rfl)
  agg := some_all (false) rfl (by kernel_rfl)
  zero := some_all (Value.slice none 0 0) rfl (by kernel_rfl)
  offs := none_all rfl
  arr := none_all2 rfl
  slc := some_all2 5 1 rfl ⟨by kernel_rfl, by kernel_rfl⟩
  isStr := no_all rfl
  intk := none_all rfl
  conc := yes_all ⟨descOf (Tryd.prog.underlying 41), by kernel_rfl, concrete (by kernel_rfl)⟩
  isPtr := no_all rfl
  isSlc := yes_all ⟨5, by kernel_rfl⟩
  isMap := no_all rfl
  isBool := no_all rfl
def ti43 : TI := { size := some 1, agg := some false, rs := some (.one (.leaf (.ptr))), zero := some (Value.pointer none), conc := true, isPtr := true }
theorem ti43_ok : TIok Tryd.prog 43 ti43 where
  size := some_all (1) rfl (by kernel_rfl)
  agg := some_all (false) rfl (by kernel_rfl)
  zero := some_all (Value.pointer none) rfl (by kernel_rfl)
  offs := none_all rfl
  arr := none_all2 rfl
  slc := none_all2 rfl
  isStr := no_all rfl
  intk := none_all rfl
  conc := yes_all ⟨descOf (Tryd.prog.underlying 43), by kernel_rfl, concrete (by kernel_rfl)⟩
  isPtr := yes_all ⟨45, by kernel_rfl⟩
  isSlc := no_all rfl
  isMap := no_all rfl
  isBool := no_all rfl
def ti45 : TI := { size := some 2, agg := some true, rs := some (.one (.agg [.ptr, .slice])), zero := some (Value.agg #[Value.pointer none, Value.slice none 0 0]), offs := some [(0, 0, false), (1, 0, false)], conc := true }
theorem ti45_ok : TIok Tryd.prog 45 ti45 where
  size := some_all (2) rfl (by kernel_rfl)
  agg := some_all (true) rfl (by kernel_rfl)
  zero := some_all (Value.agg #[Value.pointer none, Value.slice none 0 0]) rfl (by kernel_rfl)
  offs := some_all [(0, 0, false), (1, 0, false)] rfl ⟨structOf (Tryd.prog.underlying 45), by kernel_rfl, by kernel_rfl⟩
  arr := none_all2 rfl
  slc := none_all2 rfl
  isStr := no_all rfl
  intk := none_all rfl
  conc := yes_all ⟨descOf (Tryd.prog.underlying 45), by kernel_rfl, concrete (by kernel_rfl)⟩
  isPtr := no_all rfl
  isSlc := no_all rfl
  isMap := no_all rfl
  isBool := no_all rfl
def ti47 : TI := { size := some 1, agg := some false, rs := some (.one (.leaf (.any))), zero := some (Value.nilIface) }
theorem ti47_ok : TIok Tryd.prog 47 ti47 where
  size := some_all (1) rfl (by kernel_rfl)
  agg := some_all (false) rfl (by kernel_rfl)
  zero := some_all (Value.nilIface) rfl (by kernel_rfl)
  offs := none_all rfl
  arr := none_all2 rfl
  slc := none_all2 rfl
  isStr := no_all rfl
  intk := none_all rfl
  conc := no_all rfl
  isPtr := no_all rfl
  isSlc := no_all rfl
  isMap := no_all rfl
  isBool := no_all rfl
def ti51 : TI := { rs := some (.tup [.leaf (.str), .leaf (.str), .leaf (.bool)]) }
theorem ti51_ok : TIok Tryd.prog 51 ti51 where
  size := none_all rfl
  agg := none_all rfl
  zero := none_all rfl
  offs := none_all rfl
  arr := none_all2 rfl
  slc := none_all2 rfl
  isStr := no_all rfl
  intk := none_all rfl
  conc := no_all rfl
  isPtr := no_all rfl
  isSlc := no_all rfl
  isMap := no_all rfl
  isBool := no_all rfl
def ti55 : TI := { rs := some (.tup [.leaf (.int .i64), .leaf (.any)]) }
theorem ti55_ok : TIok Tryd.prog 55 ti55 where
  size := none_all rfl
  agg := none_all rfl
  zero := none_all rfl
  offs := none_all rfl
  arr := none_all2 rfl
  slc := none_all2 rfl
  isStr := no_all rfl
  intk := none_all rfl
  conc := no_all rfl
  isPtr := no_all rfl
  isSlc := no_all rfl
  isMap := no_all rfl
  isBool := no_all rfl
def ti62 : TI := { size := some 1, agg := some false, rs := some (.one (.leaf (.ptr))), zero := some (Value.pointer none), conc := true }
theorem ti62_ok : TIok Tryd.prog 62 ti62 where
  size := some_all (1) rfl (by kernel_rfl)
  agg := some_all (false) rfl (by kernel_rfl)
  zero := some_all (Value.pointer none) rfl (by kernel_rfl)
  offs := none_all rfl
  arr := none_all2 rfl
  slc := none_all2 rfl
  isStr := no_all rfl
  intk := none_all rfl
  conc := yes_all ⟨descOf (Tryd.prog.underlying 62), by kernel_rfl, concrete (by kernel_rfl)⟩
  isPtr := no_all rfl
  isSlc := no_all rfl
  isMap := no_all rfl
  isBool := no_all rfl
def tab0 : List (Nat × TI) := [(0, ti0), (3, ti3), (4, ti4), (5, ti5), (9, ti9), (23, ti23), (27, ti27), (28, ti28), (35, ti35), (36, ti36), (41, ti41), (43, ti43), (45, ti45), (47, ti47), (51, ti51), (55, ti55), (62, ti62)]
theorem tab0_ok : ∀ p ∈ tab0, TIok Tryd.prog p.1 p.2 :=
  tabCons ti0_ok <| tabCons ti3_ok <| tabCons ti4_ok <| tabCons ti5_ok <| tabCons ti9_ok <| tabCons ti23_ok <| tabCons ti27_ok <| tabCons ti28_ok <| tabCons ti35_ok <| tabCons ti36_ok <| tabCons ti41_ok <| tabCons ti43_ok <| tabCons ti45_ok <| tabCons ti47_ok <| tabCons ti51_ok <| tabCons ti55_ok <| tabCons ti62_ok <| tabNil
def tab : List (Nat × TI) := tab0
set_option maxRecDepth 100000 in
theorem tab_ok : ∀ p ∈ tab, TIok Tryd.prog p.1 p.2 :=
  tab0_ok
theorem mixed_ok : Tryd.prog.follows .mixedOrders = true := by kernel_rfl
noncomputable def ctx : Ctx := mkCtx Tryd.prog tab
theorem ctxOk : ctx.Ok := mkCtx_ok Tryd.prog tab tab_ok mixed_ok
end Go.Proofs.YtibjkknfgppogaaDoor.Eng
