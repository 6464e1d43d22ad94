/- The types that this claim's functions name, as the loaded program has them. -/
import Derived.Test.YtldgehlbicoedaaGreatDoorEng
import Derived.Test.YtldgehlbicoedaaGreatDoorProg
import Derived.KernelRfl
set_option linter.unusedVariables false
namespace Go.Proofs.YtldgehlbicoedaaGreatDoor.Eng
open Go

def ti0 : TI := { rs := some (.tup []) }
theorem ti0_ok : TIok Tryz.prog 0 ti0 where
  size := none_all rfl
  agg := none_all rfl
  zero := none_all rfl
  offs := none_all rfl
  arr := none_all2 rfl
  slc := none_all2 rfl
  isStr := no_all rfl
  intk := none_all rfl
  conc := no_all rfl
  isPtr := no_all rfl
  isSlc := no_all rfl
  isMap := no_all rfl
  isBool := no_all rfl
  eqs := none_all rfl
def ti3 : TI := { size := some 1, agg := some false, rs := some (.one (.leaf (.int .i64))), zero := some (Value.int .i64 0), intk := some .i64, conc := true }
theorem ti3_ok : TIok Tryz.prog 3 ti3 where
  size := some_all (1) rfl (by kernel_rfl)
  agg := some_all (false) rfl (by kernel_rfl)
  zero := some_all (Value.int .i64 0) rfl (by kernel_rfl)
  offs := none_all rfl
  arr := none_all2 rfl
  slc := none_all2 rfl
  isStr := no_all rfl
  intk := some_all (IntKind.i64) rfl (by kernel_rfl)
  conc := yes_all ⟨descOf (Tryz.prog.underlying 3), by kernel_rfl, concrete (by kernel_rfl)⟩
  isPtr := no_all rfl
  isSlc := no_all rfl
  isMap := no_all rfl
  isBool := no_all rfl
  eqs := none_all rfl
def ti4 : TI := { size := some 1, agg := some false, rs := some (.one (.leaf (.bool))), zero := some (Value.bool false), conc := true, isBool := true }
theorem ti4_ok : TIok Tryz.prog 4 ti4 where
  size := some_all (1) rfl (by kernel_rfl)
  agg := some_all (false) rfl (by kernel_rfl)
  zero := some_all (Value.bool false) rfl (by kernel_rfl)
  offs := none_all rfl
  arr := none_all2 rfl
  slc := none_all2 rfl
  isStr := no_all rfl
  intk := none_all rfl
  conc := yes_all ⟨descOf (Tryz.prog.underlying 4), by kernel_rfl, concrete (by kernel_rfl)⟩
  isPtr := no_all rfl
  isSlc := no_all rfl
  isMap := no_all rfl
  isBool := yes_all (by kernel_rfl)
  eqs := none_all rfl
def ti5 : TI := { size := some 1, agg := some false, rs := some (.one (.leaf (.int .u8))), zero := some (Value.int .u8 0), intk := some .u8, conc := true }
theorem ti5_ok : TIok Tryz.prog 5 ti5 where
  size := some_all (1) rfl (by kernel_rfl)
  agg := some_all (false) rfl (by kernel_rfl)
  zero := some_all (Value.int .u8 0) rfl (by kernel_rfl)
  offs := none_all rfl
  arr := none_all2 rfl
  slc := none_all2 rfl
  isStr := no_all rfl
  intk := some_all (IntKind.u8) rfl (by kernel_rfl)
  conc := yes_all ⟨descOf (Tryz.prog.underlying 5), by kernel_rfl, concrete (by kernel_rfl)⟩
  isPtr := no_all rfl
  isSlc := no_all rfl
  isMap := no_all rfl
  isBool := no_all rfl
  eqs := none_all rfl
def ti9 : TI := { size := some 1, agg := some false, rs := some (.one (.leaf (.str))), zero := some (Value.string ⟨#[]⟩), isStr := true, conc := true }
theorem ti9_ok : TIok Tryz.prog 9 ti9 where
  size := some_all (1) rfl (by kernel_rfl)
  agg := some_all (false) rfl (by kernel_rfl)
  zero := some_all (Value.string ⟨#[]⟩) rfl (by kernel_rfl)
  offs := none_all rfl
  arr := none_all2 rfl
  slc := none_all2 rfl
  isStr := yes_all (by kernel_rfl)
  intk := none_all rfl
  conc := yes_all ⟨descOf (Tryz.prog.underlying 9), by kernel_rfl, concrete (by kernel_rfl)⟩
  isPtr := no_all rfl
  isSlc := no_all rfl
  isMap := no_all rfl
  isBool := no_all rfl
  eqs := none_all rfl
def ti23 : TI := { size := some 1, agg := some false, rs := some (.one (.leaf (.slice))), zero := some (Value.slice none 0 0), slc := some (55, 2), conc := true, isSlc := true }
theorem ti23_ok : TIok Tryz.prog 23 ti23 where
  size := some_all (1) rfl (by kernel_rfl)
  agg := some_all (false) rfl (by kernel_rfl)
  zero := some_all (Value.slice none 0 0) rfl (by kernel_rfl)
  offs := none_all rfl
  arr := none_all2 rfl
  slc := some_all2 55 2 rfl ⟨by kernel_rfl, by kernel_rfl⟩
  isStr := no_all rfl
  intk := none_all rfl
  conc := yes_all ⟨descOf (Tryz.prog.underlying 23), by kernel_rfl, concrete (by kernel_rfl)⟩
  isPtr := no_all rfl
  isSlc := yes_all ⟨55, by kernel_rfl⟩
  isMap := no_all rfl
  isBool := no_all rfl
  eqs := none_all rfl
def ti24 : TI := { size := some 1, agg := some false, rs := some (.one (.leaf (.slice))), zero := some (Value.slice none 0 0), slc := some (9, 1), conc := true, isSlc := true }
theorem ti24_ok : TIok Tryz.prog 24 ti24 where
  size := some_all (1) rfl (by kernel_rfl)
  agg := some_all (false) rfl (by kernel_rfl)
  zero := some_all (Value.slice none 0 0) rfl (by kernel_rfl)
  offs := none_all rfl
  arr := none_all2 rfl
  slc := some_all2 9 1 rfl ⟨by kernel_rfl, by kernel_rfl⟩
  isStr := no_all rfl
  intk := none_all rfl
  conc := yes_all ⟨descOf (Tryz.prog.underlying 24), by kernel_rfl, concrete (by kernel_rfl)⟩
  isPtr := no_all rfl
  isSlc := yes_all ⟨9, by kernel_rfl⟩
  isMap := no_all rfl
  isBool := no_all rfl
  eqs := none_all rfl
def ti25 : TI := { size := some 1, agg := some false, rs := some (.one (.leaf (.slice))), zero := some (Value.slice none 0 0), slc := some (46, 2), conc := true, isSlc := true }
theorem ti25_ok : TIok Tryz.prog 25 ti25 where
  size := some_all (1) rfl (by kernel_rfl)
  agg := some_all (false) rfl (by kernel_rfl)
  zero := some_all (Value.slice none 0 0) rfl (by kernel_rfl)
  offs := none_all rfl
  arr := none_all2 rfl
  slc := some_all2 46 2 rfl ⟨by kernel_rfl, by kernel_rfl⟩
  isStr := no_all rfl
  intk := none_all rfl
  conc := yes_all ⟨descOf (Tryz.prog.underlying 25), by kernel_rfl, concrete (by kernel_rfl)⟩
  isPtr := no_all rfl
  isSlc := yes_all ⟨46, by kernel_rfl⟩
  isMap := no_all rfl
  isBool := no_all rfl
  eqs := none_all rfl
def ti26 : TI := { size := some 1, agg := some false, rs := some (.one (.leaf (.slice))), zero := some (Value.slice none 0 0), slc := some (57, 3), conc := true, isSlc := true }
theorem ti26_ok : TIok Tryz.prog 26 ti26 where
  size := some_all (1) rfl (by kernel_rfl)
  agg := some_all (false) rfl (by kernel_rfl)
  zero := some_all (Value.slice none 0 0) rfl (by kernel_rfl)
  offs := none_all rfl
  arr := none_all2 rfl
  slc := some_all2 57 3 rfl ⟨by kernel_rfl, by kernel_rfl⟩
  isStr := no_all rfl
  intk := none_all rfl
  conc := yes_all ⟨descOf (Tryz.prog.underlying 26), by kernel_rfl, concrete (by kernel_rfl)⟩
  isPtr := no_all rfl
  isSlc := yes_all ⟨57, by kernel_rfl⟩
  isMap := no_all rfl
  isBool := no_all rfl
  eqs := none_all rfl
def ti27 : TI := { size := some 1, agg := some false, rs := some (.one (.leaf (.slice))), zero := some (Value.slice none 0 0), slc := some (58, 2), conc := true, isSlc := true }
theorem ti27_ok : TIok Tryz.prog 27 ti27 where
  size := some_all (1) rfl (by kernel_rfl)
  agg := some_all (false) rfl (by kernel_rfl)
  zero := some_all (Value.slice none 0 0) rfl (by kernel_rfl)
  offs := none_all rfl
  arr := none_all2 rfl
  slc := some_all2 58 2 rfl ⟨by kernel_rfl, by kernel_rfl⟩
  isStr := no_all rfl
  intk := none_all rfl
  conc := yes_all ⟨descOf (Tryz.prog.underlying 27), by kernel_rfl, concrete (by kernel_rfl)⟩
  isPtr := no_all rfl
  isSlc := yes_all ⟨58, by kernel_rfl⟩
  isMap := no_all rfl
  isBool := no_all rfl
  eqs := none_all rfl
def ti29 : TI := { size := some 6, agg := some true, rs := some (.one (.agg [.bool, .slice, .slice, .slice, .slice, .slice])), zero := some (Value.agg #[Value.bool false, Value.slice none 0 0, Value.slice none 0 0, Value.slice none 0 0, Value.slice none 0 0, Value.slice none 0 0]), offs := some [(0, 0, false), (1, 0, false), (2, 0, false), (3, 0, false), (4, 0, false), (5, 0, false)], conc := true }
theorem ti29_ok : TIok Tryz.prog 29 ti29 where
  size := some_all (6) rfl (by kernel_rfl)
  agg := some_all (true) rfl (by kernel_rfl)
  zero := some_all (Value.agg #[Value.bool false, Value.slice none 0 0, Value.slice none 0 0, Value.slice none 0 0, Value.slice none 0 0, Value.slice none 0 0]) rfl (by kernel_rfl)
  offs := some_all [(0, 0, false), (1, 0, false), (2, 0, false), (3, 0, false), (4, 0, false), (5, 0, false)] rfl ⟨structOf (Tryz.prog.underlying 29), by kernel_rfl, by kernel_rfl⟩
  arr := none_all2 rfl
  slc := none_all2 rfl
  isStr := no_all rfl
  intk := none_all rfl
  conc := yes_all ⟨descOf (Tryz.prog.underlying 29), by kernel_rfl, concrete (by kernel_rfl)⟩
  isPtr := no_all rfl
  isSlc := no_all rfl
  isMap := no_all rfl
  isBool := no_all rfl
  eqs := none_all rfl
def ti30 : TI := { size := some 1, agg := some false, rs := some (.one (.leaf (.int .i64))), zero := some (Value.int .i64 0), intk := some .i64, conc := true }
theorem ti30_ok : TIok Tryz.prog 30 ti30 where
  size := some_all (1) rfl (by kernel_rfl)
  agg := some_all (false) rfl (by kernel_rfl)
  zero := some_all (Value.int .i64 0) rfl (by kernel_rfl)
  offs := none_all rfl
  arr := none_all2 rfl
  slc := none_all2 rfl
  isStr := no_all rfl
  intk := some_all (IntKind.i64) rfl (by kernel_rfl)
  conc := yes_all ⟨descOf (Tryz.prog.underlying 30), by kernel_rfl, concrete (by kernel_rfl)⟩
  isPtr := no_all rfl
  isSlc := no_all rfl
  isMap := no_all rfl
  isBool := no_all rfl
  eqs := none_all rfl
def ti31 : TI := { rs := some (.tup [.agg [.bool, .slice, .slice, .slice, .slice, .slice], .leaf (.int .i64), .leaf (.int .i64)]) }
theorem ti31_ok : TIok Tryz.prog 31 ti31 where
  size := none_all rfl
  agg := none_all rfl
  zero := none_all rfl
  offs := none_all rfl
  arr := none_all2 rfl
  slc := none_all2 rfl
  isStr := no_all rfl
  intk := none_all rfl
  conc := no_all rfl
  isPtr := no_all rfl
  isSlc := no_all rfl
  isMap := no_all rfl
  isBool := no_all rfl
  eqs := none_all rfl
def ti34 : TI := { rs := some (.tup [.agg [.bool, .slice, .slice, .slice, .slice, .slice], .leaf (.int .i64)]) }
theorem ti34_ok : TIok Tryz.prog 34 ti34 where
  size := none_all rfl
  agg := none_all rfl
  zero := none_all rfl
  offs := none_all rfl
  arr := none_all2 rfl
  slc := none_all2 rfl
  isStr := no_all rfl
  intk := none_all rfl
  conc := no_all rfl
  isPtr := no_all rfl
  isSlc := no_all rfl
  isMap := no_all rfl
  isBool := no_all rfl
  eqs := none_all rfl
def ti36 : TI := { size := some 1, agg := some false, rs := some (.one (.leaf (.any))), zero := some (Value.nilFunc), conc := true }
theorem ti36_ok : TIok Tryz.prog 36 ti36 where
  size := some_all (1) rfl (by kernel_rfl)
  agg := some_all (false) rfl (by kernel_rfl)
  zero := some_all (Value.nilFunc) rfl (by kernel_rfl)
  offs := none_all rfl
  arr := none_all2 rfl
  slc := none_all2 rfl
  isStr := no_all rfl
  intk := none_all rfl
  conc := yes_all ⟨descOf (Tryz.prog.underlying 36), by kernel_rfl, concrete (by kernel_rfl)⟩
  isPtr := no_all rfl
  isSlc := no_all rfl
  isMap := no_all rfl
  isBool := no_all rfl
  eqs := none_all rfl
def ti38 : TI := { rs := some (.tup [.leaf (.str), .leaf (.int .i64)]) }
theorem ti38_ok : TIok Tryz.prog 38 ti38 where
  size := none_all rfl
  agg := none_all rfl
  zero := none_all rfl
  offs := none_all rfl
  arr := none_all2 rfl
  slc := none_all2 rfl
  isStr := no_all rfl
  intk := none_all rfl
  conc := no_all rfl
  isPtr := no_all rfl
  isSlc := no_all rfl
  isMap := no_all rfl
  isBool := no_all rfl
  eqs := none_all rfl
def ti41 : TI := { size := some 1, agg := some false, rs := some (.one (.leaf (.slice))), zero := some (Value.slice none 0 0), slc := some (3, 1), conc := true, isSlc := true }
theorem ti41_ok : TIok Tryz.prog 41 ti41 where
  size := some_all (1) rfl (by kernel_rfl)
  agg := some_all (false) rfl (by kernel_rfl)
  zero := some_all (Value.slice none 0 0) rfl (by kernel_rfl)
  offs := none_all rfl
  arr := none_all2 rfl
  slc := some_all2 3 1 rfl ⟨by kernel_rfl, by kernel_rfl⟩
  isStr := no_all rfl
  intk := none_all rfl
  conc := yes_all ⟨descOf (Tryz.prog.underlying 41), by kernel_rfl, concrete (by kernel_rfl)⟩
  isPtr := no_all rfl
  isSlc := yes_all ⟨3, by kernel_rfl⟩
  isMap := no_all rfl
  isBool := no_all rfl
  eqs := none_all rfl
def ti42 : TI := { size := some 1, agg := some false, rs := some (.one (.leaf (.int .u64))), zero := some (Value.int .u64 0), intk := some .u64, conc := true }
theorem ti42_ok : TIok Tryz.prog 42 ti42 where
  size := some_all (1) rfl (by kernel_rfl)
  agg := some_all (false) rfl (by kernel_rfl)
  zero := some_all (Value.int .u64 0) rfl (by kernel_rfl)
  offs := none_all rfl
  arr := none_all2 rfl
  slc := none_all2 rfl
  isStr := no_all rfl
  intk := some_all (IntKind.u64) rfl (by kernel_rfl)
  conc := yes_all ⟨descOf (Tryz.prog.underlying 42), by kernel_rfl, concrete (by kernel_rfl)⟩
  isPtr := no_all rfl
  isSlc := no_all rfl
  isMap := no_all rfl
  isBool := no_all rfl
  eqs := none_all rfl
def ti46 : TI := { size := some 2, agg := some true, rs := some (.one (.agg [.int .i64, .str])), zero := some (Value.agg #[Value.int .i64 0, Value.string ⟨#[]⟩]), offs := some [(0, 0, false), (1, 0, false)], eqs := some [.i, .s], conc := true }
theorem ti46_ok : TIok Tryz.prog 46 ti46 where
  size := some_all (2) rfl (by kernel_rfl)
  agg := some_all (true) rfl (by kernel_rfl)
  zero := some_all (Value.agg #[Value.int .i64 0, Value.string ⟨#[]⟩]) rfl (by kernel_rfl)
  offs := some_all [(0, 0, false), (1, 0, false)] rfl ⟨structOf (Tryz.prog.underlying 46), by kernel_rfl, by kernel_rfl⟩
  arr := none_all2 rfl
  slc := none_all2 rfl
  isStr := no_all rfl
  intk := none_all rfl
  conc := yes_all ⟨descOf (Tryz.prog.underlying 46), by kernel_rfl, concrete (by kernel_rfl)⟩
  isPtr := no_all rfl
  isSlc := no_all rfl
  isMap := no_all rfl
  isBool := no_all rfl
  eqs := some_all [.i, .s] rfl (by kernel_rfl)
def ti47 : TI := { rs := some (.tup [.leaf (.slice), .leaf (.bool)]) }
theorem ti47_ok : TIok Tryz.prog 47 ti47 where
  size := none_all rfl
  agg := none_all rfl
  zero := none_all rfl
  offs := none_all rfl
  arr := none_all2 rfl
  slc := none_all2 rfl
  isStr := no_all rfl
  intk := none_all rfl
  conc := no_all rfl
  isPtr := no_all rfl
  isSlc := no_all rfl
  isMap := no_all rfl
  isBool := no_all rfl
  eqs := none_all rfl
def ti49 : TI := { size := some 1, agg := some false, rs := some (.one (.leaf (.ptr))), zero := some (Value.pointer none), conc := true, isPtr := true }
theorem ti49_ok : TIok Tryz.prog 49 ti49 where
  size := some_all (1) rfl (by kernel_rfl)
  agg := some_all (false) rfl (by kernel_rfl)
  zero := some_all (Value.pointer none) rfl (by kernel_rfl)
  offs := none_all rfl
  arr := none_all2 rfl
  slc := none_all2 rfl
  isStr := no_all rfl
  intk := none_all rfl
  conc := yes_all ⟨descOf (Tryz.prog.underlying 49), by kernel_rfl, concrete (by kernel_rfl)⟩
  isPtr := yes_all ⟨51, by kernel_rfl⟩
  isSlc := no_all rfl
  isMap := no_all rfl
  isBool := no_all rfl
  eqs := none_all rfl
def ti51 : TI := { size := some 7, agg := some true, rs := some (.one (.agg [.bool, .slice, .slice, .slice, .slice, .slice, .int .i64])), zero := some (Value.agg #[Value.bool false, Value.slice none 0 0, Value.slice none 0 0, Value.slice none 0 0, Value.slice none 0 0, Value.slice none 0 0, Value.int .i64 0]), offs := some [(0, 5, true), (6, 0, false)], conc := true }
theorem ti51_ok : TIok Tryz.prog 51 ti51 where
  size := some_all (7) rfl (by kernel_rfl)
  agg := some_all (true) rfl (by kernel_rfl)
  zero := some_all (Value.agg #[Value.bool false, Value.slice none 0 0, Value.slice none 0 0, Value.slice none 0 0, Value.slice none 0 0, Value.slice none 0 0, Value.int .i64 0]) rfl (by kernel_rfl)
  offs := some_all [(0, 5, true), (6, 0, false)] rfl ⟨structOf (Tryz.prog.underlying 51), by kernel_rfl, by kernel_rfl⟩
  arr := none_all2 rfl
  slc := none_all2 rfl
  isStr := no_all rfl
  intk := none_all rfl
  conc := yes_all ⟨descOf (Tryz.prog.underlying 51), by kernel_rfl, concrete (by kernel_rfl)⟩
  isPtr := no_all rfl
  isSlc := no_all rfl
  isMap := no_all rfl
  isBool := no_all rfl
  eqs := none_all rfl
def ti55 : TI := { size := some 2, agg := some true, rs := some (.one (.agg [.int .i64, .int .i64])), zero := some (Value.agg #[Value.int .i64 0, Value.int .i64 0]), offs := some [(0, 0, false), (1, 0, false)], eqs := some [.i, .i], conc := true }
theorem ti55_ok : TIok Tryz.prog 55 ti55 where
  size := some_all (2) rfl (by kernel_rfl)
  agg := some_all (true) rfl (by kernel_rfl)
  zero := some_all (Value.agg #[Value.int .i64 0, Value.int .i64 0]) rfl (by kernel_rfl)
  offs := some_all [(0, 0, false), (1, 0, false)] rfl ⟨structOf (Tryz.prog.underlying 55), by kernel_rfl, by kernel_rfl⟩
  arr := none_all2 rfl
  slc := none_all2 rfl
  isStr := no_all rfl
  intk := none_all rfl
  conc := yes_all ⟨descOf (Tryz.prog.underlying 55), by kernel_rfl, concrete (by kernel_rfl)⟩
  isPtr := no_all rfl
  isSlc := no_all rfl
  isMap := no_all rfl
  isBool := no_all rfl
  eqs := some_all [.i, .i] rfl (by kernel_rfl)
def ti57 : TI := { size := some 3, agg := some true, rs := some (.one (.agg [.int .i64, .int .i64, .int .i64])), zero := some (Value.agg #[Value.int .i64 0, Value.int .i64 0, Value.int .i64 0]), offs := some [(0, 0, false), (1, 0, false), (2, 0, false)], eqs := some [.i, .i, .i], conc := true }
theorem ti57_ok : TIok Tryz.prog 57 ti57 where
  size := some_all (3) rfl (by kernel_rfl)
  agg := some_all (true) rfl (by kernel_rfl)
  zero := some_all (Value.agg #[Value.int .i64 0, Value.int .i64 0, Value.int .i64 0]) rfl (by kernel_rfl)
  offs := some_all [(0, 0, false), (1, 0, false), (2, 0, false)] rfl ⟨structOf (Tryz.prog.underlying 57), by kernel_rfl, by kernel_rfl⟩
  arr := none_all2 rfl
  slc := none_all2 rfl
  isStr := no_all rfl
  intk := none_all rfl
  conc := yes_all ⟨descOf (Tryz.prog.underlying 57), by kernel_rfl, concrete (by kernel_rfl)⟩
  isPtr := no_all rfl
  isSlc := no_all rfl
  isMap := no_all rfl
  isBool := no_all rfl
  eqs := some_all [.i, .i, .i] rfl (by kernel_rfl)
def ti58 : TI := { size := some 2, agg := some true, rs := some (.one (.agg [.int .i64, .int .i64])), zero := some (Value.agg #[Value.int .i64 0, Value.int .i64 0]), offs := some [(0, 0, false), (1, 0, false)], eqs := some [.i, .i], conc := true }
theorem ti58_ok : TIok Tryz.prog 58 ti58 where
  size := some_all (2) rfl (by kernel_rfl)
  agg := some_all (true) rfl (by kernel_rfl)
  zero := some_all (Value.agg #[Value.int .i64 0, Value.int .i64 0]) rfl (by kernel_rfl)
  offs := some_all [(0, 0, false), (1, 0, false)] rfl ⟨structOf (Tryz.prog.underlying 58), by kernel_rfl, by kernel_rfl⟩
  arr := none_all2 rfl
  slc := none_all2 rfl
  isStr := no_all rfl
  intk := none_all rfl
  conc := yes_all ⟨descOf (Tryz.prog.underlying 58), by kernel_rfl, concrete (by kernel_rfl)⟩
  isPtr := no_all rfl
  isSlc := no_all rfl
  isMap := no_all rfl
  isBool := no_all rfl
  eqs := some_all [.i, .i] rfl (by kernel_rfl)
def ti63 : TI := { size := some 1, agg := some false, rs := some (.one (.leaf (.ptr))), zero := some (Value.pointer none), conc := true, isPtr := true }
theorem ti63_ok : TIok Tryz.prog 63 ti63 where
  size := some_all (1) rfl (by kernel_rfl)
  agg := some_all (false) rfl (by kernel_rfl)
  zero := some_all (Value.pointer none) rfl (by kernel_rfl)
  offs := none_all rfl
  arr := none_all2 rfl
  slc := none_all2 rfl
  isStr := no_all rfl
  intk := none_all rfl
  conc := yes_all ⟨descOf (Tryz.prog.underlying 63), by kernel_rfl, concrete (by kernel_rfl)⟩
  isPtr := yes_all ⟨69, by kernel_rfl⟩
  isSlc := no_all rfl
  isMap := no_all rfl
  isBool := no_all rfl
  eqs := none_all rfl
def ti64 : TI := { size := some 1, agg := some false, rs := some (.one (.leaf (.ptr))), zero := some (Value.pointer none), conc := true, isPtr := true }
theorem ti64_ok : TIok Tryz.prog 64 ti64 where
  size := some_all (1) rfl (by kernel_rfl)
  agg := some_all (false) rfl (by kernel_rfl)
  zero := some_all (Value.pointer none) rfl (by kernel_rfl)
  offs := none_all rfl
  arr := none_all2 rfl
  slc := none_all2 rfl
  isStr := no_all rfl
  intk := none_all rfl
  conc := yes_all ⟨descOf (Tryz.prog.underlying 64), by kernel_rfl, concrete (by kernel_rfl)⟩
  isPtr := yes_all ⟨67, by kernel_rfl⟩
  isSlc := no_all rfl
  isMap := no_all rfl
  isBool := no_all rfl
  eqs := none_all rfl
def ti65 : TI := { size := some 1, agg := some false, rs := some (.one (.leaf (.slice))), zero := some (Value.slice none 0 0), slc := some (5, 1), conc := true, isSlc := true }
theorem ti65_ok : TIok Tryz.prog 65 ti65 where
  size := some_all (1) rfl (by kernel_rfl)
  agg := some_all (false) rfl (by kernel_rfl)
  zero := some_all (Value.slice none 0 0) rfl (by kernel_rfl)
  offs := none_all rfl
  arr := none_all2 rfl
  slc := some_all2 5 1 rfl ⟨by kernel_rfl, by kernel_rfl⟩
  isStr := no_all rfl
  intk := none_all rfl
  conc := yes_all ⟨descOf (Tryz.prog.underlying 65), by kernel_rfl, concrete (by kernel_rfl)⟩
  isPtr := no_all rfl
  isSlc := yes_all ⟨5, by kernel_rfl⟩
  isMap := no_all rfl
  isBool := no_all rfl
  eqs := none_all rfl
def ti67 : TI := { size := some 2, agg := some true, rs := some (.one (.agg [.ptr, .slice])), zero := some (Value.agg #[Value.pointer none, Value.slice none 0 0]), offs := some [(0, 0, false), (1, 0, false)], conc := true }
theorem ti67_ok : TIok Tryz.prog 67 ti67 where
  size := some_all (2) rfl (by kernel_rfl)
  agg := some_all (true) rfl (by kernel_rfl)
  zero := some_all (Value.agg #[Value.pointer none, Value.slice none 0 0]) rfl (by kernel_rfl)
  offs := some_all [(0, 0, false), (1, 0, false)] rfl ⟨structOf (Tryz.prog.underlying 67), by kernel_rfl, by kernel_rfl⟩
  arr := none_all2 rfl
  slc := none_all2 rfl
  isStr := no_all rfl
  intk := none_all rfl
  conc := yes_all ⟨descOf (Tryz.prog.underlying 67), by kernel_rfl, concrete (by kernel_rfl)⟩
  isPtr := no_all rfl
  isSlc := no_all rfl
  isMap := no_all rfl
  isBool := no_all rfl
  eqs := none_all rfl
def ti69 : TI := { size := some 2, agg := some true, rs := some (.one (.agg [.ptr, .slice])), zero := some (Value.agg #[Value.pointer none, Value.slice none 0 0]), offs := some [(0, 1, true)], conc := true }
theorem ti69_ok : TIok Tryz.prog 69 ti69 where
  size := some_all (2) rfl (by kernel_rfl)
  agg := some_all (true) rfl (by kernel_rfl)
  zero := some_all (Value.agg #[Value.pointer none, Value.slice none 0 0]) rfl (by kernel_rfl)
  offs := some_all [(0, 1, true)] rfl ⟨structOf (Tryz.prog.underlying 69), by kernel_rfl, by kernel_rfl⟩
  arr := none_all2 rfl
  slc := none_all2 rfl
  isStr := no_all rfl
  intk := none_all rfl
  conc := yes_all ⟨descOf (Tryz.prog.underlying 69), by kernel_rfl, concrete (by kernel_rfl)⟩
  isPtr := no_all rfl
  isSlc := no_all rfl
  isMap := no_all rfl
  isBool := no_all rfl
  eqs := none_all rfl
def ti77 : TI := { size := some 1, agg := some false, rs := some (.one (.leaf (.any))), zero := some (Value.nilFunc), conc := true }
theorem ti77_ok : TIok Tryz.prog 77 ti77 where
  size := some_all (1) rfl (by kernel_rfl)
  agg := some_all (false) rfl (by kernel_rfl)
  zero := some_all (Value.nilFunc) rfl (by kernel_rfl)
  offs := none_all rfl
  arr := none_all2 rfl
  slc := none_all2 rfl
  isStr := no_all rfl
  intk := none_all rfl
  conc := yes_all ⟨descOf (Tryz.prog.underlying 77), by kernel_rfl, concrete (by kernel_rfl)⟩
  isPtr := no_all rfl
  isSlc := no_all rfl
  isMap := no_all rfl
  isBool := no_all rfl
  eqs := none_all rfl
def ti80 : TI := { size := some 1, agg := some false, rs := some (.one (.leaf (.any))), zero := some (Value.nilFunc), conc := true }
theorem ti80_ok : TIok Tryz.prog 80 ti80 where
  size := some_all (1) rfl (by kernel_rfl)
  agg := some_all (false) rfl (by kernel_rfl)
  zero := some_all (Value.nilFunc) rfl (by kernel_rfl)
  offs := none_all rfl
  arr := none_all2 rfl
  slc := none_all2 rfl
  isStr := no_all rfl
  intk := none_all rfl
  conc := yes_all ⟨descOf (Tryz.prog.underlying 80), by kernel_rfl, concrete (by kernel_rfl)⟩
  isPtr := no_all rfl
  isSlc := no_all rfl
  isMap := no_all rfl
  isBool := no_all rfl
  eqs := none_all rfl
def ti82 : TI := { size := some 1, agg := some false, rs := some (.one (.leaf (.any))), zero := some (Value.nilFunc), conc := true }
theorem ti82_ok : TIok Tryz.prog 82 ti82 where
  size := some_all (1) rfl (by kernel_rfl)
  agg := some_all (false) rfl (by kernel_rfl)
  zero := some_all (Value.nilFunc) rfl (by kernel_rfl)
  offs := none_all rfl
  arr := none_all2 rfl
  slc := none_all2 rfl
  isStr := no_all rfl
  intk := none_all rfl
  conc := yes_all ⟨descOf (Tryz.prog.underlying 82), by kernel_rfl, concrete (by kernel_rfl)⟩
  isPtr := no_all rfl
  isSlc := no_all rfl
  isMap := no_all rfl
  isBool := no_all rfl
  eqs := none_all rfl
def ti84 : TI := { size := some 1, agg := some false, rs := some (.one (.leaf (.any))), zero := some (Value.nilFunc), conc := true }
theorem ti84_ok : TIok Tryz.prog 84 ti84 where
  size := some_all (1) rfl (by kernel_rfl)
  agg := some_all (false) rfl (by kernel_rfl)
  zero := some_all (Value.nilFunc) rfl (by kernel_rfl)
  offs := none_all rfl
  arr := none_all2 rfl
  slc := none_all2 rfl
  isStr := no_all rfl
  intk := none_all rfl
  conc := yes_all ⟨descOf (Tryz.prog.underlying 84), by kernel_rfl, concrete (by kernel_rfl)⟩
  isPtr := no_all rfl
  isSlc := no_all rfl
  isMap := no_all rfl
  isBool := no_all rfl
  eqs := none_all rfl
def ti90 : TI := { rs := some (.tup [.leaf (.str), .leaf (.str), .leaf (.bool)]) }
theorem ti90_ok : TIok Tryz.prog 90 ti90 where
  size := none_all rfl
  agg := none_all rfl
  zero := none_all rfl
  offs := none_all rfl
  arr := none_all2 rfl
  slc := none_all2 rfl
  isStr := no_all rfl
  intk := none_all rfl
  conc := no_all rfl
  isPtr := no_all rfl
  isSlc := no_all rfl
  isMap := no_all rfl
  isBool := no_all rfl
  eqs := none_all rfl
def ti93 : TI := { rs := some (.tup [.leaf (.int .i64), .leaf (.bool)]) }
theorem ti93_ok : TIok Tryz.prog 93 ti93 where
  size := none_all rfl
  agg := none_all rfl
  zero := none_all rfl
  offs := none_all rfl
  arr := none_all2 rfl
  slc := none_all2 rfl
  isStr := no_all rfl
  intk := none_all rfl
  conc := no_all rfl
  isPtr := no_all rfl
  isSlc := no_all rfl
  isMap := no_all rfl
  isBool := no_all rfl
  eqs := none_all rfl
def ti96 : TI := { rs := some (.tup [.leaf (.str), .leaf (.bool)]) }
theorem ti96_ok : TIok Tryz.prog 96 ti96 where
  size := none_all rfl
  agg := none_all rfl
  zero := none_all rfl
  offs := none_all rfl
  arr := none_all2 rfl
  slc := none_all2 rfl
  isStr := no_all rfl
  intk := none_all rfl
  conc := no_all rfl
  isPtr := no_all rfl
  isSlc := no_all rfl
  isMap := no_all rfl
  isBool := no_all rfl
  eqs := none_all rfl
def ti99 : TI := { size := some 1, agg := some false, rs := some (.one (.leaf (.any))), zero := some (Value.nilIface) }
theorem ti99_ok : TIok Tryz.prog 99 ti99 where
  size := some_all (1) rfl (by kernel_rfl)
  agg := some_all (false) rfl (by kernel_rfl)
  zero := some_all (Value.nilIface) rfl (by kernel_rfl)
  offs := none_all rfl
  arr := none_all2 rfl
  slc := none_all2 rfl
  isStr := no_all rfl
  intk := none_all rfl
  conc := no_all rfl
  isPtr := no_all rfl
  isSlc := no_all rfl
  isMap := no_all rfl
  isBool := no_all rfl
  eqs := none_all rfl
def ti100 : TI := { rs := some (.tup [.leaf (.int .i64), .leaf (.any)]) }
theorem ti100_ok : TIok Tryz.prog 100 ti100 where
  size := none_all rfl
  agg := none_all rfl
  zero := none_all rfl
  offs := none_all rfl
  arr := none_all2 rfl
  slc := none_all2 rfl
  isStr := no_all rfl
  intk := none_all rfl
  conc := no_all rfl
  isPtr := no_all rfl
  isSlc := no_all rfl
  isMap := no_all rfl
  isBool := no_all rfl
  eqs := none_all rfl
def ti105 : TI := { size := some 1, agg := some false, rs := some (.one (.leaf (.ptr))), zero := some (Value.pointer none), conc := true, isPtr := true }
theorem ti105_ok : TIok Tryz.prog 105 ti105 where
  size := some_all (1) rfl (by kernel_rfl)
  agg := some_all (false) rfl (by kernel_rfl)
  zero := some_all (Value.pointer none) rfl (by kernel_rfl)
  offs := none_all rfl
  arr := none_all2 rfl
  slc := none_all2 rfl
  isStr := no_all rfl
  intk := none_all rfl
  conc := yes_all ⟨descOf (Tryz.prog.underlying 105), by kernel_rfl, concrete (by kernel_rfl)⟩
  isPtr := yes_all ⟨5, by kernel_rfl⟩
  isSlc := no_all rfl
  isMap := no_all rfl
  isBool := no_all rfl
  eqs := none_all rfl
def ti122 : TI := { rs := some (.tup [.leaf (.slice), .leaf (.bool)]) }
theorem ti122_ok : TIok Tryz.prog 122 ti122 where
  size := none_all rfl
  agg := none_all rfl
  zero := none_all rfl
  offs := none_all rfl
  arr := none_all2 rfl
  slc := none_all2 rfl
  isStr := no_all rfl
  intk := none_all rfl
  conc := no_all rfl
  isPtr := no_all rfl
  isSlc := no_all rfl
  isMap := no_all rfl
  isBool := no_all rfl
  eqs := none_all rfl
def ti124 : TI := { size := some 1, agg := some false, rs := some (.one (.leaf (.ptr))), zero := some (Value.pointer none), conc := true }
theorem ti124_ok : TIok Tryz.prog 124 ti124 where
  size := some_all (1) rfl (by kernel_rfl)
  agg := some_all (false) rfl (by kernel_rfl)
  zero := some_all (Value.pointer none) rfl (by kernel_rfl)
  offs := none_all rfl
  arr := none_all2 rfl
  slc := none_all2 rfl
  isStr := no_all rfl
  intk := none_all rfl
  conc := yes_all ⟨descOf (Tryz.prog.underlying 124), by kernel_rfl, concrete (by kernel_rfl)⟩
  isPtr := no_all rfl
  isSlc := no_all rfl
  isMap := no_all rfl
  isBool := no_all rfl
  eqs := none_all rfl
def tab0 : List (Nat × TI) := [(0, ti0), (3, ti3), (4, ti4), (5, ti5), (9, ti9), (23, ti23), (24, ti24), (25, ti25), (26, ti26), (27, ti27), (29, ti29), (30, ti30), (31, ti31), (34, ti34), (36, ti36), (38, ti38), (41, ti41), (42, ti42), (46, ti46), (47, ti47), (49, ti49), (51, ti51), (55, ti55), (57, ti57), (58, ti58)]
theorem tab0_ok : ∀ p ∈ tab0, TIok Tryz.prog p.1 p.2 :=
  tabCons ti0_ok <| tabCons ti3_ok <| tabCons ti4_ok <| tabCons ti5_ok <| tabCons ti9_ok <| tabCons ti23_ok <| tabCons ti24_ok <| tabCons ti25_ok <| tabCons ti26_ok <| tabCons ti27_ok <| tabCons ti29_ok <| tabCons ti30_ok <| tabCons ti31_ok <| tabCons ti34_ok <| tabCons ti36_ok <| tabCons ti38_ok <| tabCons ti41_ok <| tabCons ti42_ok <| tabCons ti46_ok <| tabCons ti47_ok <| tabCons ti49_ok <| tabCons ti51_ok <| tabCons ti55_ok <| tabCons ti57_ok <| tabCons ti58_ok <| tabNil
def tab1 : List (Nat × TI) := [(63, ti63), (64, ti64), (65, ti65), (67, ti67), (69, ti69), (77, ti77), (80, ti80), (82, ti82), (84, ti84), (90, ti90), (93, ti93), (96, ti96), (99, ti99), (100, ti100), (105, ti105), (122, ti122), (124, ti124)]
theorem tab1_ok : ∀ p ∈ tab1, TIok Tryz.prog p.1 p.2 :=
  tabCons ti63_ok <| tabCons ti64_ok <| tabCons ti65_ok <| tabCons ti67_ok <| tabCons ti69_ok <| tabCons ti77_ok <| tabCons ti80_ok <| tabCons ti82_ok <| tabCons ti84_ok <| tabCons ti90_ok <| tabCons ti93_ok <| tabCons ti96_ok <| tabCons ti99_ok <| tabCons ti100_ok <| tabCons ti105_ok <| tabCons ti122_ok <| tabCons ti124_ok <| tabNil
def tab : List (Nat × TI) := tab0 ++ tab1
set_option maxRecDepth 100000 in
theorem tab_ok : ∀ p ∈ tab, TIok Tryz.prog p.1 p.2 :=
  tabApp (tab0_ok) tab1_ok
theorem mixed_ok : Tryz.prog.follows .mixedOrders = true := by kernel_rfl
noncomputable def ctx : Ctx := mkCtx Tryz.prog tab
theorem ctxOk : ctx.Ok := mkCtx_ok Tryz.prog tab tab_ok mixed_ok
end Go.Proofs.YtldgehlbicoedaaGreatDoor.Eng
