/- The types that this claim's functions name, as the loaded program has them. -/
import Derived.Test.YtpklkijdlnioaaaGreatZhEng
import Derived.Test.YtpklkijdlnioaaaGreatProg
import Derived.KernelRfl
set_option linter.unusedVariables false
namespace Go.Proofs.YtpklkijdlnioaaaGreat.Eng
open Go
abbrev OA := Option Addr
abbrev KW := List Value → World → Prop
abbrev RW := Value → World → Prop

def ti0 : TI := { rs := some (.tup []) }
theorem ti0_ok : TIok Tryz.prog 0 ti0 where
  size := none_all rfl
  agg := none_all rfl
  zero := none_all rfl
  offs := none_all rfl
  arr := none_all2 rfl
  slc := none_all2 rfl
  isStr := no_all rfl
  intk := none_all rfl
  conc := no_all rfl
  isPtr := no_all rfl
  isSlc := no_all rfl
  isMap := no_all rfl
  isBool := no_all rfl
  eqs := none_all rfl
def ti2 : TI := { size := some 1, agg := some false, rs := some (.one (.leaf (.int .i64))), zero := some (Value.int .i64 0), intk := some .i64, conc := true }
theorem ti2_ok : TIok Tryz.prog 2 ti2 where
  size := some_all (1) rfl (by kernel_rfl)
  agg := some_all (false) rfl (by kernel_rfl)
  zero := some_all (Value.int .i64 0) rfl (by kernel_rfl)
  offs := none_all rfl
  arr := none_all2 rfl
  slc := none_all2 rfl
  isStr := no_all rfl
  intk := some_all (IntKind.i64) rfl (by kernel_rfl)
  conc := yes_all ⟨descOf (Tryz.prog.underlying 2), by kernel_rfl, concrete (by kernel_rfl)⟩
  isPtr := no_all rfl
  isSlc := no_all rfl
  isMap := no_all rfl
  isBool := no_all rfl
  eqs := none_all rfl
def ti3 : TI := { size := some 1, agg := some false, rs := some (.one (.leaf (.int .i64))), zero := some (Value.int .i64 0), intk := some .i64, conc := true }
theorem ti3_ok : TIok Tryz.prog 3 ti3 where
  size := some_all (1) rfl (by kernel_rfl)
  agg := some_all (false) rfl (by kernel_rfl)
  zero := some_all (Value.int .i64 0) rfl (by kernel_rfl)
  offs := none_all rfl
  arr := none_all2 rfl
  slc := none_all2 rfl
  isStr := no_all rfl
  intk := some_all (IntKind.i64) rfl (by kernel_rfl)
  conc := yes_all ⟨descOf (Tryz.prog.underlying 3), by kernel_rfl, concrete (by kernel_rfl)⟩
  isPtr := no_all rfl
  isSlc := no_all rfl
  isMap := no_all rfl
  isBool := no_all rfl
  eqs := none_all rfl
def ti4 : TI := { size := some 1, agg := some false, rs := some (.one (.leaf (.bool))), zero := some (Value.bool false), conc := true, isBool := true }
theorem ti4_ok : TIok Tryz.prog 4 ti4 where
  size := some_all (1) rfl (by kernel_rfl)
  agg := some_all (false) rfl (by kernel_rfl)
  zero := some_all (Value.bool false) rfl (by kernel_rfl)
  offs := none_all rfl
  arr := none_all2 rfl
  slc := none_all2 rfl
  isStr := no_all rfl
  intk := none_all rfl
  conc := yes_all ⟨descOf (Tryz.prog.underlying 4), by kernel_rfl, concrete (by kernel_rfl)⟩
  isPtr := no_all rfl
  isSlc := no_all rfl
  isMap := no_all rfl
  isBool := yes_all (by kernel_rfl)
  eqs := none_all rfl
def ti5 : TI := { size := some 1, agg := some false, rs := some (.one (.leaf (.int .u8))), zero := some (Value.int .u8 0), intk := some .u8, conc := true }
theorem ti5_ok : TIok Tryz.prog 5 ti5 where
  size := some_all (1) rfl (by kernel_rfl)
  agg := some_all (false) rfl (by kernel_rfl)
  zero := some_all (Value.int .u8 0) rfl (by kernel_rfl)
  offs := none_all rfl
  arr := none_all2 rfl
  slc := none_all2 rfl
  isStr := no_all rfl
  intk := some_all (IntKind.u8) rfl (by kernel_rfl)
  conc := yes_all ⟨descOf (Tryz.prog.underlying 5), by kernel_rfl, concrete (by kernel_rfl)⟩
  isPtr := no_all rfl
  isSlc := no_all rfl
  isMap := no_all rfl
  isBool := no_all rfl
  eqs := none_all rfl
def ti9 : TI := { size := some 1, agg := some false, rs := some (.one (.leaf (.str))), zero := some (Value.string ⟨#[]⟩), isStr := true, conc := true }
theorem ti9_ok : TIok Tryz.prog 9 ti9 where
  size := some_all (1) rfl (by kernel_rfl)
  agg := some_all (false) rfl (by kernel_rfl)
  zero := some_all (Value.string ⟨#[]⟩) rfl (by kernel_rfl)
  offs := none_all rfl
  arr := none_all2 rfl
  slc := none_all2 rfl
  isStr := yes_all (by kernel_rfl)
  intk := none_all rfl
  conc := yes_all ⟨descOf (Tryz.prog.underlying 9), by kernel_rfl, concrete (by kernel_rfl)⟩
  isPtr := no_all rfl
  isSlc := no_all rfl
  isMap := no_all rfl
  isBool := no_all rfl
  eqs := none_all rfl
def ti22 : TI := { size := some 1, agg := some false, rs := some (.one (.leaf (.slice))), zero := some (Value.slice none 0 0), slc := some (188, 1), conc := true, isSlc := true }
theorem ti22_ok : TIok Tryz.prog 22 ti22 where
  size := some_all (1) rfl (by kernel_rfl)
  agg := some_all (false) rfl (by kernel_rfl)
  zero := some_all (Value.slice none 0 0) rfl (by kernel_rfl)
  offs := none_all rfl
  arr := none_all2 rfl
  slc := some_all2 188 1 rfl ⟨by kernel_rfl, by kernel_rfl⟩
  isStr := no_all rfl
  intk := none_all rfl
  conc := yes_all ⟨descOf (Tryz.prog.underlying 22), by kernel_rfl, concrete (by kernel_rfl)⟩
  isPtr := no_all rfl
  isSlc := yes_all ⟨188, by kernel_rfl⟩
  isMap := no_all rfl
  isBool := no_all rfl
  eqs := none_all rfl
def ti23 : TI := { size := some 1, agg := some false, rs := some (.one (.leaf (.slice))), zero := some (Value.slice none 0 0), slc := some (125, 3), conc := true, isSlc := true }
theorem ti23_ok : TIok Tryz.prog 23 ti23 where
  size := some_all (1) rfl (by kernel_rfl)
  agg := some_all (false) rfl (by kernel_rfl)
  zero := some_all (Value.slice none 0 0) rfl (by kernel_rfl)
  offs := none_all rfl
  arr := none_all2 rfl
  slc := some_all2 125 3 rfl ⟨by kernel_rfl, by kernel_rfl⟩
  isStr := no_all rfl
  intk := none_all rfl
  conc := yes_all ⟨descOf (Tryz.prog.underlying 23), by kernel_rfl, concrete (by kernel_rfl)⟩
  isPtr := no_all rfl
  isSlc := yes_all ⟨125, by kernel_rfl⟩
  isMap := no_all rfl
  isBool := no_all rfl
  eqs := none_all rfl
def ti24 : TI := { size := some 1, agg := some false, rs := some (.one (.leaf (.slice))), zero := some (Value.slice none 0 0), slc := some (126, 2), conc := true, isSlc := true }
theorem ti24_ok : TIok Tryz.prog 24 ti24 where
  size := some_all (1) rfl (by kernel_rfl)
  agg := some_all (false) rfl (by kernel_rfl)
  zero := some_all (Value.slice none 0 0) rfl (by kernel_rfl)
  offs := none_all rfl
  arr := none_all2 rfl
  slc := some_all2 126 2 rfl ⟨by kernel_rfl, by kernel_rfl⟩
  isStr := no_all rfl
  intk := none_all rfl
  conc := yes_all ⟨descOf (Tryz.prog.underlying 24), by kernel_rfl, concrete (by kernel_rfl)⟩
  isPtr := no_all rfl
  isSlc := yes_all ⟨126, by kernel_rfl⟩
  isMap := no_all rfl
  isBool := no_all rfl
  eqs := none_all rfl
def ti25 : TI := { size := some 1, agg := some false, rs := some (.one (.leaf (.slice))), zero := some (Value.slice none 0 0), slc := some (93, 2), conc := true, isSlc := true }
theorem ti25_ok : TIok Tryz.prog 25 ti25 where
  size := some_all (1) rfl (by kernel_rfl)
  agg := some_all (false) rfl (by kernel_rfl)
  zero := some_all (Value.slice none 0 0) rfl (by kernel_rfl)
  offs := none_all rfl
  arr := none_all2 rfl
  slc := some_all2 93 2 rfl ⟨by kernel_rfl, by kernel_rfl⟩
  isStr := no_all rfl
  intk := none_all rfl
  conc := yes_all ⟨descOf (Tryz.prog.underlying 25), by kernel_rfl, concrete (by kernel_rfl)⟩
  isPtr := no_all rfl
  isSlc := yes_all ⟨93, by kernel_rfl⟩
  isMap := no_all rfl
  isBool := no_all rfl
  eqs := none_all rfl
def ti27 : TI := { size := some 4, agg := some true, rs := some (.one (.agg [.slice, .slice, .slice, .slice])), zero := some (Value.agg #[Value.slice none 0 0, Value.slice none 0 0, Value.slice none 0 0, Value.slice none 0 0]), offs := some [(0, 0, false), (1, 0, false), (2, 0, false), (3, 0, false)], conc := true }
theorem ti27_ok : TIok Tryz.prog 27 ti27 where
  size := some_all (4) rfl (by kernel_rfl)
  agg := some_all (true) rfl (by kernel_rfl)
  zero := some_all (Value.agg #[Value.slice none 0 0, Value.slice none 0 0, Value.slice none 0 0, Value.slice none 0 0]) rfl (by kernel_rfl)
  offs := some_all [(0, 0, false), (1, 0, false), (2, 0, false), (3, 0, false)] rfl ⟨structOf (Tryz.prog.underlying 27), by kernel_rfl, by kernel_rfl⟩
  arr := none_all2 rfl
  slc := none_all2 rfl
  isStr := no_all rfl
  intk := none_all rfl
  conc := yes_all ⟨descOf (Tryz.prog.underlying 27), by kernel_rfl, concrete (by kernel_rfl)⟩
  isPtr := no_all rfl
  isSlc := no_all rfl
  isMap := no_all rfl
  isBool := no_all rfl
  eqs := none_all rfl
def ti28 : TI := { size := some 1, agg := some false, rs := some (.one (.leaf (.slice))), zero := some (Value.slice none 0 0), slc := some (3, 1), conc := true, isSlc := true }
theorem ti28_ok : TIok Tryz.prog 28 ti28 where
  size := some_all (1) rfl (by kernel_rfl)
  agg := some_all (false) rfl (by kernel_rfl)
  zero := some_all (Value.slice none 0 0) rfl (by kernel_rfl)
  offs := none_all rfl
  arr := none_all2 rfl
  slc := some_all2 3 1 rfl ⟨by kernel_rfl, by kernel_rfl⟩
  isStr := no_all rfl
  intk := none_all rfl
  conc := yes_all ⟨descOf (Tryz.prog.underlying 28), by kernel_rfl, concrete (by kernel_rfl)⟩
  isPtr := no_all rfl
  isSlc := yes_all ⟨3, by kernel_rfl⟩
  isMap := no_all rfl
  isBool := no_all rfl
  eqs := none_all rfl
def ti31 : TI := { size := some 1, agg := some false, rs := some (.one (.leaf (.ptr))), zero := some (Value.pointer none), conc := true, isPtr := true }
theorem ti31_ok : TIok Tryz.prog 31 ti31 where
  size := some_all (1) rfl (by kernel_rfl)
  agg := some_all (false) rfl (by kernel_rfl)
  zero := some_all (Value.pointer none) rfl (by kernel_rfl)
  offs := none_all rfl
  arr := none_all2 rfl
  slc := none_all2 rfl
  isStr := no_all rfl
  intk := none_all rfl
  conc := yes_all ⟨descOf (Tryz.prog.underlying 31), by kernel_rfl, concrete (by kernel_rfl)⟩
  isPtr := yes_all ⟨164, by kernel_rfl⟩
  isSlc := no_all rfl
  isMap := no_all rfl
  isBool := no_all rfl
  eqs := none_all rfl
def ti32 : TI := { size := some 1, agg := some false, rs := some (.one (.leaf (.slice))), zero := some (Value.slice none 0 0), slc := some (9, 1), conc := true, isSlc := true }
theorem ti32_ok : TIok Tryz.prog 32 ti32 where
  size := some_all (1) rfl (by kernel_rfl)
  agg := some_all (false) rfl (by kernel_rfl)
  zero := some_all (Value.slice none 0 0) rfl (by kernel_rfl)
  offs := none_all rfl
  arr := none_all2 rfl
  slc := some_all2 9 1 rfl ⟨by kernel_rfl, by kernel_rfl⟩
  isStr := no_all rfl
  intk := none_all rfl
  conc := yes_all ⟨descOf (Tryz.prog.underlying 32), by kernel_rfl, concrete (by kernel_rfl)⟩
  isPtr := no_all rfl
  isSlc := yes_all ⟨9, by kernel_rfl⟩
  isMap := no_all rfl
  isBool := no_all rfl
  eqs := none_all rfl
def ti33 : TI := { size := some 1, agg := some false, rs := some (.one (.leaf (.slice))), zero := some (Value.slice none 0 0), slc := some (81, 2), conc := true, isSlc := true }
theorem ti33_ok : TIok Tryz.prog 33 ti33 where
  size := some_all (1) rfl (by kernel_rfl)
  agg := some_all (false) rfl (by kernel_rfl)
  zero := some_all (Value.slice none 0 0) rfl (by kernel_rfl)
  offs := none_all rfl
  arr := none_all2 rfl
  slc := some_all2 81 2 rfl ⟨by kernel_rfl, by kernel_rfl⟩
  isStr := no_all rfl
  intk := none_all rfl
  conc := yes_all ⟨descOf (Tryz.prog.underlying 33), by kernel_rfl, concrete (by kernel_rfl)⟩
  isPtr := no_all rfl
  isSlc := yes_all ⟨81, by kernel_rfl⟩
  isMap := no_all rfl
  isBool := no_all rfl
  eqs := none_all rfl
def ti35 : TI := { size := some 2, agg := some true, rs := some (.one (.agg [.slice, .slice])), zero := some (Value.agg #[Value.slice none 0 0, Value.slice none 0 0]), offs := some [(0, 0, false), (1, 0, false)], conc := true }
theorem ti35_ok : TIok Tryz.prog 35 ti35 where
  size := some_all (2) rfl (by kernel_rfl)
  agg := some_all (true) rfl (by kernel_rfl)
  zero := some_all (Value.agg #[Value.slice none 0 0, Value.slice none 0 0]) rfl (by kernel_rfl)
  offs := some_all [(0, 0, false), (1, 0, false)] rfl ⟨structOf (Tryz.prog.underlying 35), by kernel_rfl, by kernel_rfl⟩
  arr := none_all2 rfl
  slc := none_all2 rfl
  isStr := no_all rfl
  intk := none_all rfl
  conc := yes_all ⟨descOf (Tryz.prog.underlying 35), by kernel_rfl, concrete (by kernel_rfl)⟩
  isPtr := no_all rfl
  isSlc := no_all rfl
  isMap := no_all rfl
  isBool := no_all rfl
  eqs := none_all rfl
def ti37 : TI := { size := some 2, agg := some true, rs := some (.one (.agg [.slice, .slice])), zero := some (Value.agg #[Value.slice none 0 0, Value.slice none 0 0]), offs := some [(0, 0, false), (1, 0, false)], conc := true }
theorem ti37_ok : TIok Tryz.prog 37 ti37 where
  size := some_all (2) rfl (by kernel_rfl)
  agg := some_all (true) rfl (by kernel_rfl)
  zero := some_all (Value.agg #[Value.slice none 0 0, Value.slice none 0 0]) rfl (by kernel_rfl)
  offs := some_all [(0, 0, false), (1, 0, false)] rfl ⟨structOf (Tryz.prog.underlying 37), by kernel_rfl, by kernel_rfl⟩
  arr := none_all2 rfl
  slc := none_all2 rfl
  isStr := no_all rfl
  intk := none_all rfl
  conc := yes_all ⟨descOf (Tryz.prog.underlying 37), by kernel_rfl, concrete (by kernel_rfl)⟩
  isPtr := no_all rfl
  isSlc := no_all rfl
  isMap := no_all rfl
  isBool := no_all rfl
  eqs := none_all rfl
def ti39 : TI := { size := some 5, agg := some true, rs := some (.one (.agg [.slice, .slice, .slice, .slice, .slice])), zero := some (Value.agg #[Value.slice none 0 0, Value.slice none 0 0, Value.slice none 0 0, Value.slice none 0 0, Value.slice none 0 0]), offs := some [(0, 1, true), (2, 1, true), (4, 0, false)], conc := true }
theorem ti39_ok : TIok Tryz.prog 39 ti39 where
  size := some_all (5) rfl (by kernel_rfl)
  agg := some_all (true) rfl (by kernel_rfl)
  zero := some_all (Value.agg #[Value.slice none 0 0, Value.slice none 0 0, Value.slice none 0 0, Value.slice none 0 0, Value.slice none 0 0]) rfl (by kernel_rfl)
  offs := some_all [(0, 1, true), (2, 1, true), (4, 0, false)] rfl ⟨structOf (Tryz.prog.underlying 39), by kernel_rfl, by kernel_rfl⟩
  arr := none_all2 rfl
  slc := none_all2 rfl
  isStr := no_all rfl
  intk := none_all rfl
  conc := yes_all ⟨descOf (Tryz.prog.underlying 39), by kernel_rfl, concrete (by kernel_rfl)⟩
  isPtr := no_all rfl
  isSlc := no_all rfl
  isMap := no_all rfl
  isBool := no_all rfl
  eqs := none_all rfl
def ti40 : TI := { rs := some (.tup [.leaf (.ptr), .agg [.slice, .slice, .slice, .slice, .slice]]) }
theorem ti40_ok : TIok Tryz.prog 40 ti40 where
  size := none_all rfl
  agg := none_all rfl
  zero := none_all rfl
  offs := none_all rfl
  arr := none_all2 rfl
  slc := none_all2 rfl
  isStr := no_all rfl
  intk := none_all rfl
  conc := no_all rfl
  isPtr := no_all rfl
  isSlc := no_all rfl
  isMap := no_all rfl
  isBool := no_all rfl
  eqs := none_all rfl
def ti42 : TI := { size := some 1, agg := some false, rs := some (.one (.leaf (.int .i64))), zero := some (Value.int .i64 0), intk := some .i64, conc := true }
theorem ti42_ok : TIok Tryz.prog 42 ti42 where
  size := some_all (1) rfl (by kernel_rfl)
  agg := some_all (false) rfl (by kernel_rfl)
  zero := some_all (Value.int .i64 0) rfl (by kernel_rfl)
  offs := none_all rfl
  arr := none_all2 rfl
  slc := none_all2 rfl
  isStr := no_all rfl
  intk := some_all (IntKind.i64) rfl (by kernel_rfl)
  conc := yes_all ⟨descOf (Tryz.prog.underlying 42), by kernel_rfl, concrete (by kernel_rfl)⟩
  isPtr := no_all rfl
  isSlc := no_all rfl
  isMap := no_all rfl
  isBool := no_all rfl
  eqs := none_all rfl
def ti43 : TI := { rs := some (.tup [.leaf (.int .i64), .leaf (.int .i64)]) }
theorem ti43_ok : TIok Tryz.prog 43 ti43 where
  size := none_all rfl
  agg := none_all rfl
  zero := none_all rfl
  offs := none_all rfl
  arr := none_all2 rfl
  slc := none_all2 rfl
  isStr := no_all rfl
  intk := none_all rfl
  conc := no_all rfl
  isPtr := no_all rfl
  isSlc := no_all rfl
  isMap := no_all rfl
  isBool := no_all rfl
  eqs := none_all rfl
def ti51 : TI := { size := some 1, agg := some false, rs := some (.one (.leaf (.slice))), zero := some (Value.slice none 0 0), slc := some (28, 1), conc := true, isSlc := true }
theorem ti51_ok : TIok Tryz.prog 51 ti51 where
  size := some_all (1) rfl (by kernel_rfl)
  agg := some_all (false) rfl (by kernel_rfl)
  zero := some_all (Value.slice none 0 0) rfl (by kernel_rfl)
  offs := none_all rfl
  arr := none_all2 rfl
  slc := some_all2 28 1 rfl ⟨by kernel_rfl, by kernel_rfl⟩
  isStr := no_all rfl
  intk := none_all rfl
  conc := yes_all ⟨descOf (Tryz.prog.underlying 51), by kernel_rfl, concrete (by kernel_rfl)⟩
  isPtr := no_all rfl
  isSlc := yes_all ⟨28, by kernel_rfl⟩
  isMap := no_all rfl
  isBool := no_all rfl
  eqs := none_all rfl
def ti52 : TI := { size := some 1, agg := some false, rs := some (.one (.leaf (.ptr))), zero := some (Value.pointer none), conc := true, isPtr := true }
theorem ti52_ok : TIok Tryz.prog 52 ti52 where
  size := some_all (1) rfl (by kernel_rfl)
  agg := some_all (false) rfl (by kernel_rfl)
  zero := some_all (Value.pointer none) rfl (by kernel_rfl)
  offs := none_all rfl
  arr := none_all2 rfl
  slc := none_all2 rfl
  isStr := no_all rfl
  intk := none_all rfl
  conc := yes_all ⟨descOf (Tryz.prog.underlying 52), by kernel_rfl, concrete (by kernel_rfl)⟩
  isPtr := yes_all ⟨96, by kernel_rfl⟩
  isSlc := no_all rfl
  isMap := no_all rfl
  isBool := no_all rfl
  eqs := none_all rfl
def ti57 : TI := { size := some 1, agg := some false, rs := some (.one (.leaf (.ptr))), zero := some (Value.pointer none), conc := true, isPtr := true }
theorem ti57_ok : TIok Tryz.prog 57 ti57 where
  size := some_all (1) rfl (by kernel_rfl)
  agg := some_all (false) rfl (by kernel_rfl)
  zero := some_all (Value.pointer none) rfl (by kernel_rfl)
  offs := none_all rfl
  arr := none_all2 rfl
  slc := none_all2 rfl
  isStr := no_all rfl
  intk := none_all rfl
  conc := yes_all ⟨descOf (Tryz.prog.underlying 57), by kernel_rfl, concrete (by kernel_rfl)⟩
  isPtr := yes_all ⟨104, by kernel_rfl⟩
  isSlc := no_all rfl
  isMap := no_all rfl
  isBool := no_all rfl
  eqs := none_all rfl
def ti58 : TI := { rs := some (.tup [.leaf (.ptr), .leaf (.int .i64)]) }
theorem ti58_ok : TIok Tryz.prog 58 ti58 where
  size := none_all rfl
  agg := none_all rfl
  zero := none_all rfl
  offs := none_all rfl
  arr := none_all2 rfl
  slc := none_all2 rfl
  isStr := no_all rfl
  intk := none_all rfl
  conc := no_all rfl
  isPtr := no_all rfl
  isSlc := no_all rfl
  isMap := no_all rfl
  isBool := no_all rfl
  eqs := none_all rfl
def ti60 : TI := { rs := some (.tup [.leaf (.int .i64), .leaf (.bool)]) }
theorem ti60_ok : TIok Tryz.prog 60 ti60 where
  size := none_all rfl
  agg := none_all rfl
  zero := none_all rfl
  offs := none_all rfl
  arr := none_all2 rfl
  slc := none_all2 rfl
  isStr := no_all rfl
  intk := none_all rfl
  conc := no_all rfl
  isPtr := no_all rfl
  isSlc := no_all rfl
  isMap := no_all rfl
  isBool := no_all rfl
  eqs := none_all rfl
def ti62 : TI := { size := some 1, agg := some false, rs := some (.one (.leaf (.slice))), zero := some (Value.slice none 0 0), slc := some (64, 1), conc := true, isSlc := true }
theorem ti62_ok : TIok Tryz.prog 62 ti62 where
  size := some_all (1) rfl (by kernel_rfl)
  agg := some_all (false) rfl (by kernel_rfl)
  zero := some_all (Value.slice none 0 0) rfl (by kernel_rfl)
  offs := none_all rfl
  arr := none_all2 rfl
  slc := some_all2 64 1 rfl ⟨by kernel_rfl, by kernel_rfl⟩
  isStr := no_all rfl
  intk := none_all rfl
  conc := yes_all ⟨descOf (Tryz.prog.underlying 62), by kernel_rfl, concrete (by kernel_rfl)⟩
  isPtr := no_all rfl
  isSlc := yes_all ⟨64, by kernel_rfl⟩
  isMap := no_all rfl
  isBool := no_all rfl
  eqs := none_all rfl
def ti64 : TI := { size := some 1, agg := some false, rs := some (.one (.leaf (.int .u64))), zero := some (Value.int .u64 0), intk := some .u64, conc := true }
theorem ti64_ok : TIok Tryz.prog 64 ti64 where
  size := some_all (1) rfl (by kernel_rfl)
  agg := some_all (false) rfl (by kernel_rfl)
  zero := some_all (Value.int .u64 0) rfl (by kernel_rfl)
  offs := none_all rfl
  arr := none_all2 rfl
  slc := none_all2 rfl
  isStr := no_all rfl
  intk := some_all (IntKind.u64) rfl (by kernel_rfl)
  conc := yes_all ⟨descOf (Tryz.prog.underlying 64), by kernel_rfl, concrete (by kernel_rfl)⟩
  isPtr := no_all rfl
  isSlc := no_all rfl
  isMap := no_all rfl
  isBool := no_all rfl
  eqs := none_all rfl
def ti65 : TI := { size := some 1, agg := some false, rs := some (.one (.leaf (.int .u64))), zero := some (Value.int .u64 0), intk := some .u64, conc := true }
theorem ti65_ok : TIok Tryz.prog 65 ti65 where
  size := some_all (1) rfl (by kernel_rfl)
  agg := some_all (false) rfl (by kernel_rfl)
  zero := some_all (Value.int .u64 0) rfl (by kernel_rfl)
  offs := none_all rfl
  arr := none_all2 rfl
  slc := none_all2 rfl
  isStr := no_all rfl
  intk := some_all (IntKind.u64) rfl (by kernel_rfl)
  conc := yes_all ⟨descOf (Tryz.prog.underlying 65), by kernel_rfl, concrete (by kernel_rfl)⟩
  isPtr := no_all rfl
  isSlc := no_all rfl
  isMap := no_all rfl
  isBool := no_all rfl
  eqs := none_all rfl
def ti70 : TI := { size := some 1, agg := some false, rs := some (.one (.leaf (.any))), zero := some (Value.nilFunc), conc := true }
theorem ti70_ok : TIok Tryz.prog 70 ti70 where
  size := some_all (1) rfl (by kernel_rfl)
  agg := some_all (false) rfl (by kernel_rfl)
  zero := some_all (Value.nilFunc) rfl (by kernel_rfl)
  offs := none_all rfl
  arr := none_all2 rfl
  slc := none_all2 rfl
  isStr := no_all rfl
  intk := none_all rfl
  conc := yes_all ⟨descOf (Tryz.prog.underlying 70), by kernel_rfl, concrete (by kernel_rfl)⟩
  isPtr := no_all rfl
  isSlc := no_all rfl
  isMap := no_all rfl
  isBool := no_all rfl
  eqs := none_all rfl
def ti73 : TI := { size := some 1, agg := some false, rs := some (.one (.leaf (.ptr))), zero := some (Value.pointer none), conc := true, isPtr := true }
theorem ti73_ok : TIok Tryz.prog 73 ti73 where
  size := some_all (1) rfl (by kernel_rfl)
  agg := some_all (false) rfl (by kernel_rfl)
  zero := some_all (Value.pointer none) rfl (by kernel_rfl)
  offs := none_all rfl
  arr := none_all2 rfl
  slc := none_all2 rfl
  isStr := no_all rfl
  intk := none_all rfl
  conc := yes_all ⟨descOf (Tryz.prog.underlying 73), by kernel_rfl, concrete (by kernel_rfl)⟩
  isPtr := yes_all ⟨113, by kernel_rfl⟩
  isSlc := no_all rfl
  isMap := no_all rfl
  isBool := no_all rfl
  eqs := none_all rfl
def ti74 : TI := { rs := some (.tup [.leaf (.ptr), .leaf (.ptr)]) }
theorem ti74_ok : TIok Tryz.prog 74 ti74 where
  size := none_all rfl
  agg := none_all rfl
  zero := none_all rfl
  offs := none_all rfl
  arr := none_all2 rfl
  slc := none_all2 rfl
  isStr := no_all rfl
  intk := none_all rfl
  conc := no_all rfl
  isPtr := no_all rfl
  isSlc := no_all rfl
  isMap := no_all rfl
  isBool := no_all rfl
  eqs := none_all rfl
def ti78 : TI := { rs := some (.tup [.leaf (.ptr), .leaf (.int .i64), .leaf (.int .i64)]) }
theorem ti78_ok : TIok Tryz.prog 78 ti78 where
  size := none_all rfl
  agg := none_all rfl
  zero := none_all rfl
  offs := none_all rfl
  arr := none_all2 rfl
  slc := none_all2 rfl
  isStr := no_all rfl
  intk := none_all rfl
  conc := no_all rfl
  isPtr := no_all rfl
  isSlc := no_all rfl
  isMap := no_all rfl
  isBool := no_all rfl
  eqs := none_all rfl
def ti81 : TI := { size := some 2, agg := some true, rs := some (.one (.agg [.int .i64, .int .i64])), zero := some (Value.agg #[Value.int .i64 0, Value.int .i64 0]), offs := some [(0, 0, false), (1, 0, false)], eqs := some [.i, .i], conc := true }
theorem ti81_ok : TIok Tryz.prog 81 ti81 where
  size := some_all (2) rfl (by kernel_rfl)
  agg := some_all (true) rfl (by kernel_rfl)
  zero := some_all (Value.agg #[Value.int .i64 0, Value.int .i64 0]) rfl (by kernel_rfl)
  offs := some_all [(0, 0, false), (1, 0, false)] rfl ⟨structOf (Tryz.prog.underlying 81), by kernel_rfl, by kernel_rfl⟩
  arr := none_all2 rfl
  slc := none_all2 rfl
  isStr := no_all rfl
  intk := none_all rfl
  conc := yes_all ⟨descOf (Tryz.prog.underlying 81), by kernel_rfl, concrete (by kernel_rfl)⟩
  isPtr := no_all rfl
  isSlc := no_all rfl
  isMap := no_all rfl
  isBool := no_all rfl
  eqs := some_all [.i, .i] rfl (by kernel_rfl)
def ti83 : TI := { size := some 6, agg := some true, rs := some (.one (.agg [.bool, .slice, .slice, .slice, .slice, .slice])), zero := some (Value.agg #[Value.bool false, Value.slice none 0 0, Value.slice none 0 0, Value.slice none 0 0, Value.slice none 0 0, Value.slice none 0 0]), offs := some [(0, 0, false), (1, 0, false), (2, 0, false), (3, 0, false), (4, 0, false), (5, 0, false)], conc := true }
theorem ti83_ok : TIok Tryz.prog 83 ti83 where
  size := some_all (6) rfl (by kernel_rfl)
  agg := some_all (true) rfl (by kernel_rfl)
  zero := some_all (Value.agg #[Value.bool false, Value.slice none 0 0, Value.slice none 0 0, Value.slice none 0 0, Value.slice none 0 0, Value.slice none 0 0]) rfl (by kernel_rfl)
  offs := some_all [(0, 0, false), (1, 0, false), (2, 0, false), (3, 0, false), (4, 0, false), (5, 0, false)] rfl ⟨structOf (Tryz.prog.underlying 83), by kernel_rfl, by kernel_rfl⟩
  arr := none_all2 rfl
  slc := none_all2 rfl
  isStr := no_all rfl
  intk := none_all rfl
  conc := yes_all ⟨descOf (Tryz.prog.underlying 83), by kernel_rfl, concrete (by kernel_rfl)⟩
  isPtr := no_all rfl
  isSlc := no_all rfl
  isMap := no_all rfl
  isBool := no_all rfl
  eqs := none_all rfl
def ti88 : TI := { size := some 1, agg := some true, rs := some (.one (.agg [.ptr])), zero := some (Value.agg #[Value.pointer none]), offs := some [(0, 0, false)], conc := true }
theorem ti88_ok : TIok Tryz.prog 88 ti88 where
  size := some_all (1) rfl (by kernel_rfl)
  agg := some_all (true) rfl (by kernel_rfl)
  zero := some_all (Value.agg #[Value.pointer none]) rfl (by kernel_rfl)
  offs := some_all [(0, 0, false)] rfl ⟨structOf (Tryz.prog.underlying 88), by kernel_rfl, by kernel_rfl⟩
  arr := none_all2 rfl
  slc := none_all2 rfl
  isStr := no_all rfl
  intk := none_all rfl
  conc := yes_all ⟨descOf (Tryz.prog.underlying 88), by kernel_rfl, concrete (by kernel_rfl)⟩
  isPtr := no_all rfl
  isSlc := no_all rfl
  isMap := no_all rfl
  isBool := no_all rfl
  eqs := none_all rfl
def ti89 : TI := { size := some 1, agg := some false, rs := some (.one (.leaf (.slice))), zero := some (Value.slice none 0 0), slc := some (5, 1), conc := true, isSlc := true }
theorem ti89_ok : TIok Tryz.prog 89 ti89 where
  size := some_all (1) rfl (by kernel_rfl)
  agg := some_all (false) rfl (by kernel_rfl)
  zero := some_all (Value.slice none 0 0) rfl (by kernel_rfl)
  offs := none_all rfl
  arr := none_all2 rfl
  slc := some_all2 5 1 rfl ⟨by kernel_rfl, by kernel_rfl⟩
  isStr := no_all rfl
  intk := none_all rfl
  conc := yes_all ⟨descOf (Tryz.prog.underlying 89), by kernel_rfl, concrete (by kernel_rfl)⟩
  isPtr := no_all rfl
  isSlc := yes_all ⟨5, by kernel_rfl⟩
  isMap := no_all rfl
  isBool := no_all rfl
  eqs := none_all rfl
def ti93 : TI := { size := some 2, agg := some true, rs := some (.one (.agg [.int .i64, .str])), zero := some (Value.agg #[Value.int .i64 0, Value.string ⟨#[]⟩]), offs := some [(0, 0, false), (1, 0, false)], eqs := some [.i, .s], conc := true }
theorem ti93_ok : TIok Tryz.prog 93 ti93 where
  size := some_all (2) rfl (by kernel_rfl)
  agg := some_all (true) rfl (by kernel_rfl)
  zero := some_all (Value.agg #[Value.int .i64 0, Value.string ⟨#[]⟩]) rfl (by kernel_rfl)
  offs := some_all [(0, 0, false), (1, 0, false)] rfl ⟨structOf (Tryz.prog.underlying 93), by kernel_rfl, by kernel_rfl⟩
  arr := none_all2 rfl
  slc := none_all2 rfl
  isStr := no_all rfl
  intk := none_all rfl
  conc := yes_all ⟨descOf (Tryz.prog.underlying 93), by kernel_rfl, concrete (by kernel_rfl)⟩
  isPtr := no_all rfl
  isSlc := no_all rfl
  isMap := no_all rfl
  isBool := no_all rfl
  eqs := some_all [.i, .s] rfl (by kernel_rfl)
def ti94 : TI := { size := some 1, agg := some true, rs := some (.one (.agg [.ptr])), zero := some (Value.agg #[Value.pointer none]), offs := some [(0, 0, false)], conc := true }
theorem ti94_ok : TIok Tryz.prog 94 ti94 where
  size := some_all (1) rfl (by kernel_rfl)
  agg := some_all (true) rfl (by kernel_rfl)
  zero := some_all (Value.agg #[Value.pointer none]) rfl (by kernel_rfl)
  offs := some_all [(0, 0, false)] rfl ⟨structOf (Tryz.prog.underlying 94), by kernel_rfl, by kernel_rfl⟩
  arr := none_all2 rfl
  slc := none_all2 rfl
  isStr := no_all rfl
  intk := none_all rfl
  conc := yes_all ⟨descOf (Tryz.prog.underlying 94), by kernel_rfl, concrete (by kernel_rfl)⟩
  isPtr := no_all rfl
  isSlc := no_all rfl
  isMap := no_all rfl
  isBool := no_all rfl
  eqs := none_all rfl
def ti96 : TI := { size := some 4, agg := some true, rs := some (.one (.agg [.ptr, .slice, .int .i64, .int .i64])), zero := some (Value.agg #[Value.pointer none, Value.slice none 0 0, Value.int .i64 0, Value.int .i64 0]), offs := some [(0, 0, false), (1, 0, false), (2, 0, false), (3, 0, false)], conc := true }
theorem ti96_ok : TIok Tryz.prog 96 ti96 where
  size := some_all (4) rfl (by kernel_rfl)
  agg := some_all (true) rfl (by kernel_rfl)
  zero := some_all (Value.agg #[Value.pointer none, Value.slice none 0 0, Value.int .i64 0, Value.int .i64 0]) rfl (by kernel_rfl)
  offs := some_all [(0, 0, false), (1, 0, false), (2, 0, false), (3, 0, false)] rfl ⟨structOf (Tryz.prog.underlying 96), by kernel_rfl, by kernel_rfl⟩
  arr := none_all2 rfl
  slc := none_all2 rfl
  isStr := no_all rfl
  intk := none_all rfl
  conc := yes_all ⟨descOf (Tryz.prog.underlying 96), by kernel_rfl, concrete (by kernel_rfl)⟩
  isPtr := no_all rfl
  isSlc := no_all rfl
  isMap := no_all rfl
  isBool := no_all rfl
  eqs := none_all rfl
def ti100 : TI := { size := some 1, agg := some false, rs := some (.one (.leaf (.map))), zero := some (Value.map none), elemSh := some (.leaf (.int .i64)), conc := true, isMap := true }
theorem ti100_ok : TIok Tryz.prog 100 ti100 where
  size := some_all (1) rfl (by kernel_rfl)
  agg := some_all (false) rfl (by kernel_rfl)
  zero := some_all (Value.map none) rfl (by kernel_rfl)
  offs := none_all rfl
  arr := none_all2 rfl
  slc := none_all2 rfl
  isStr := no_all rfl
  intk := none_all rfl
  conc := yes_all ⟨descOf (Tryz.prog.underlying 100), by kernel_rfl, concrete (by kernel_rfl)⟩
  isPtr := no_all rfl
  isSlc := no_all rfl
  isMap := yes_all ⟨3, 3, by kernel_rfl⟩
  isBool := no_all rfl
  eqs := none_all rfl
def ti101 : TI := { size := some 1, agg := some false, rs := some (.one (.leaf (.slice))), zero := some (Value.slice none 0 0), slc := some (102, 1), conc := true, isSlc := true }
theorem ti101_ok : TIok Tryz.prog 101 ti101 where
  size := some_all (1) rfl (by kernel_rfl)
  agg := some_all (false) rfl (by kernel_rfl)
  zero := some_all (Value.slice none 0 0) rfl (by kernel_rfl)
  offs := none_all rfl
  arr := none_all2 rfl
  slc := some_all2 102 1 rfl ⟨by kernel_rfl, by kernel_rfl⟩
  isStr := no_all rfl
  intk := none_all rfl
  conc := yes_all ⟨descOf (Tryz.prog.underlying 101), by kernel_rfl, concrete (by kernel_rfl)⟩
  isPtr := no_all rfl
  isSlc := yes_all ⟨102, by kernel_rfl⟩
  isMap := no_all rfl
  isBool := no_all rfl
  eqs := none_all rfl
def ti102 : TI := { size := some 1, agg := some false, rs := some (.one (.leaf (.slice))), zero := some (Value.slice none 0 0), slc := some (64, 1), conc := true, isSlc := true }
theorem ti102_ok : TIok Tryz.prog 102 ti102 where
  size := some_all (1) rfl (by kernel_rfl)
  agg := some_all (false) rfl (by kernel_rfl)
  zero := some_all (Value.slice none 0 0) rfl (by kernel_rfl)
  offs := none_all rfl
  arr := none_all2 rfl
  slc := some_all2 64 1 rfl ⟨by kernel_rfl, by kernel_rfl⟩
  isStr := no_all rfl
  intk := none_all rfl
  conc := yes_all ⟨descOf (Tryz.prog.underlying 102), by kernel_rfl, concrete (by kernel_rfl)⟩
  isPtr := no_all rfl
  isSlc := yes_all ⟨64, by kernel_rfl⟩
  isMap := no_all rfl
  isBool := no_all rfl
  eqs := none_all rfl
def ti104 : TI := { size := some 4, agg := some true, rs := some (.one (.agg [.slice, .map, .slice, .slice])), zero := some (Value.agg #[Value.slice none 0 0, Value.map none, Value.slice none 0 0, Value.slice none 0 0]), offs := some [(0, 0, false), (1, 0, false), (2, 0, false), (3, 0, false)], conc := true }
theorem ti104_ok : TIok Tryz.prog 104 ti104 where
  size := some_all (4) rfl (by kernel_rfl)
  agg := some_all (true) rfl (by kernel_rfl)
  zero := some_all (Value.agg #[Value.slice none 0 0, Value.map none, Value.slice none 0 0, Value.slice none 0 0]) rfl (by kernel_rfl)
  offs := some_all [(0, 0, false), (1, 0, false), (2, 0, false), (3, 0, false)] rfl ⟨structOf (Tryz.prog.underlying 104), by kernel_rfl, by kernel_rfl⟩
  arr := none_all2 rfl
  slc := none_all2 rfl
  isStr := no_all rfl
  intk := none_all rfl
  conc := yes_all ⟨descOf (Tryz.prog.underlying 104), by kernel_rfl, concrete (by kernel_rfl)⟩
  isPtr := no_all rfl
  isSlc := no_all rfl
  isMap := no_all rfl
  isBool := no_all rfl
  eqs := none_all rfl
def ti109 : TI := { size := some 2, agg := some true, rs := some (.one (.agg [.slice, .slice])), zero := some (Value.agg #[Value.slice none 0 0, Value.slice none 0 0]), offs := some [(0, 0, false), (1, 0, false)], conc := true }
theorem ti109_ok : TIok Tryz.prog 109 ti109 where
  size := some_all (2) rfl (by kernel_rfl)
  agg := some_all (true) rfl (by kernel_rfl)
  zero := some_all (Value.agg #[Value.slice none 0 0, Value.slice none 0 0]) rfl (by kernel_rfl)
  offs := some_all [(0, 0, false), (1, 0, false)] rfl ⟨structOf (Tryz.prog.underlying 109), by kernel_rfl, by kernel_rfl⟩
  arr := none_all2 rfl
  slc := none_all2 rfl
  isStr := no_all rfl
  intk := none_all rfl
  conc := yes_all ⟨descOf (Tryz.prog.underlying 109), by kernel_rfl, concrete (by kernel_rfl)⟩
  isPtr := no_all rfl
  isSlc := no_all rfl
  isMap := no_all rfl
  isBool := no_all rfl
  eqs := none_all rfl
def ti110 : TI := { size := some 1, agg := some false, rs := some (.one (.leaf (.slice))), zero := some (Value.slice none 0 0), slc := some (111, 1), conc := true, isSlc := true }
theorem ti110_ok : TIok Tryz.prog 110 ti110 where
  size := some_all (1) rfl (by kernel_rfl)
  agg := some_all (false) rfl (by kernel_rfl)
  zero := some_all (Value.slice none 0 0) rfl (by kernel_rfl)
  offs := none_all rfl
  arr := none_all2 rfl
  slc := some_all2 111 1 rfl ⟨by kernel_rfl, by kernel_rfl⟩
  isStr := no_all rfl
  intk := none_all rfl
  conc := yes_all ⟨descOf (Tryz.prog.underlying 110), by kernel_rfl, concrete (by kernel_rfl)⟩
  isPtr := no_all rfl
  isSlc := yes_all ⟨111, by kernel_rfl⟩
  isMap := no_all rfl
  isBool := no_all rfl
  eqs := none_all rfl
def ti111 : TI := { size := some 1, agg := some false, rs := some (.one (.leaf (.slice))), zero := some (Value.slice none 0 0), slc := some (4, 1), conc := true, isSlc := true }
theorem ti111_ok : TIok Tryz.prog 111 ti111 where
  size := some_all (1) rfl (by kernel_rfl)
  agg := some_all (false) rfl (by kernel_rfl)
  zero := some_all (Value.slice none 0 0) rfl (by kernel_rfl)
  offs := none_all rfl
  arr := none_all2 rfl
  slc := some_all2 4 1 rfl ⟨by kernel_rfl, by kernel_rfl⟩
  isStr := no_all rfl
  intk := none_all rfl
  conc := yes_all ⟨descOf (Tryz.prog.underlying 111), by kernel_rfl, concrete (by kernel_rfl)⟩
  isPtr := no_all rfl
  isSlc := yes_all ⟨4, by kernel_rfl⟩
  isMap := no_all rfl
  isBool := no_all rfl
  eqs := none_all rfl
def ti113 : TI := { size := some 7, agg := some true, rs := some (.one (.agg [.ptr, .slice, .slice, .slice, .slice, .slice, .slice])), zero := some (Value.agg #[Value.pointer none, Value.slice none 0 0, Value.slice none 0 0, Value.slice none 0 0, Value.slice none 0 0, Value.slice none 0 0, Value.slice none 0 0]), offs := some [(0, 0, false), (1, 1, true), (3, 1, true), (5, 0, false), (6, 0, false)], conc := true }
theorem ti113_ok : TIok Tryz.prog 113 ti113 where
  size := some_all (7) rfl (by kernel_rfl)
  agg := some_all (true) rfl (by kernel_rfl)
  zero := some_all (Value.agg #[Value.pointer none, Value.slice none 0 0, Value.slice none 0 0, Value.slice none 0 0, Value.slice none 0 0, Value.slice none 0 0, Value.slice none 0 0]) rfl (by kernel_rfl)
  offs := some_all [(0, 0, false), (1, 1, true), (3, 1, true), (5, 0, false), (6, 0, false)] rfl ⟨structOf (Tryz.prog.underlying 113), by kernel_rfl, by kernel_rfl⟩
  arr := none_all2 rfl
  slc := none_all2 rfl
  isStr := no_all rfl
  intk := none_all rfl
  conc := yes_all ⟨descOf (Tryz.prog.underlying 113), by kernel_rfl, concrete (by kernel_rfl)⟩
  isPtr := no_all rfl
  isSlc := no_all rfl
  isMap := no_all rfl
  isBool := no_all rfl
  eqs := none_all rfl
def ti116 : TI := { size := some 1, agg := some false, rs := some (.one (.leaf (.any))), zero := some (Value.nilFunc), conc := true }
theorem ti116_ok : TIok Tryz.prog 116 ti116 where
  size := some_all (1) rfl (by kernel_rfl)
  agg := some_all (false) rfl (by kernel_rfl)
  zero := some_all (Value.nilFunc) rfl (by kernel_rfl)
  offs := none_all rfl
  arr := none_all2 rfl
  slc := none_all2 rfl
  isStr := no_all rfl
  intk := none_all rfl
  conc := yes_all ⟨descOf (Tryz.prog.underlying 116), by kernel_rfl, concrete (by kernel_rfl)⟩
  isPtr := no_all rfl
  isSlc := no_all rfl
  isMap := no_all rfl
  isBool := no_all rfl
  eqs := none_all rfl
def ti120 : TI := { rs := some (.tup [.leaf (.ptr), .leaf (.int .i64), .leaf (.int .i64), .leaf (.int .i64)]) }
theorem ti120_ok : TIok Tryz.prog 120 ti120 where
  size := none_all rfl
  agg := none_all rfl
  zero := none_all rfl
  offs := none_all rfl
  arr := none_all2 rfl
  slc := none_all2 rfl
  isStr := no_all rfl
  intk := none_all rfl
  conc := no_all rfl
  isPtr := no_all rfl
  isSlc := no_all rfl
  isMap := no_all rfl
  isBool := no_all rfl
  eqs := none_all rfl
def ti125 : TI := { size := some 3, agg := some true, rs := some (.one (.agg [.int .i64, .int .i64, .int .i64])), zero := some (Value.agg #[Value.int .i64 0, Value.int .i64 0, Value.int .i64 0]), offs := some [(0, 0, false), (1, 0, false), (2, 0, false)], eqs := some [.i, .i, .i], conc := true }
theorem ti125_ok : TIok Tryz.prog 125 ti125 where
  size := some_all (3) rfl (by kernel_rfl)
  agg := some_all (true) rfl (by kernel_rfl)
  zero := some_all (Value.agg #[Value.int .i64 0, Value.int .i64 0, Value.int .i64 0]) rfl (by kernel_rfl)
  offs := some_all [(0, 0, false), (1, 0, false), (2, 0, false)] rfl ⟨structOf (Tryz.prog.underlying 125), by kernel_rfl, by kernel_rfl⟩
  arr := none_all2 rfl
  slc := none_all2 rfl
  isStr := no_all rfl
  intk := none_all rfl
  conc := yes_all ⟨descOf (Tryz.prog.underlying 125), by kernel_rfl, concrete (by kernel_rfl)⟩
  isPtr := no_all rfl
  isSlc := no_all rfl
  isMap := no_all rfl
  isBool := no_all rfl
  eqs := some_all [.i, .i, .i] rfl (by kernel_rfl)
def ti126 : TI := { size := some 2, agg := some true, rs := some (.one (.agg [.int .i64, .int .i64])), zero := some (Value.agg #[Value.int .i64 0, Value.int .i64 0]), offs := some [(0, 0, false), (1, 0, false)], eqs := some [.i, .i], conc := true }
theorem ti126_ok : TIok Tryz.prog 126 ti126 where
  size := some_all (2) rfl (by kernel_rfl)
  agg := some_all (true) rfl (by kernel_rfl)
  zero := some_all (Value.agg #[Value.int .i64 0, Value.int .i64 0]) rfl (by kernel_rfl)
  offs := some_all [(0, 0, false), (1, 0, false)] rfl ⟨structOf (Tryz.prog.underlying 126), by kernel_rfl, by kernel_rfl⟩
  arr := none_all2 rfl
  slc := none_all2 rfl
  isStr := no_all rfl
  intk := none_all rfl
  conc := yes_all ⟨descOf (Tryz.prog.underlying 126), by kernel_rfl, concrete (by kernel_rfl)⟩
  isPtr := no_all rfl
  isSlc := no_all rfl
  isMap := no_all rfl
  isBool := no_all rfl
  eqs := some_all [.i, .i] rfl (by kernel_rfl)
def ti127 : TI := { rs := some (.tup [.leaf (.int .i64), .leaf (.int .i64)]) }
theorem ti127_ok : TIok Tryz.prog 127 ti127 where
  size := none_all rfl
  agg := none_all rfl
  zero := none_all rfl
  offs := none_all rfl
  arr := none_all2 rfl
  slc := none_all2 rfl
  isStr := no_all rfl
  intk := none_all rfl
  conc := no_all rfl
  isPtr := no_all rfl
  isSlc := no_all rfl
  isMap := no_all rfl
  isBool := no_all rfl
  eqs := none_all rfl
def ti129 : TI := { rs := some (.tup [.agg [.slice, .slice, .slice, .slice, .slice], .leaf (.int .i64), .leaf (.int .i64), .leaf (.int .i64)]) }
theorem ti129_ok : TIok Tryz.prog 129 ti129 where
  size := none_all rfl
  agg := none_all rfl
  zero := none_all rfl
  offs := none_all rfl
  arr := none_all2 rfl
  slc := none_all2 rfl
  isStr := no_all rfl
  intk := none_all rfl
  conc := no_all rfl
  isPtr := no_all rfl
  isSlc := no_all rfl
  isMap := no_all rfl
  isBool := no_all rfl
  eqs := none_all rfl
def ti132 : TI := { size := some 1, agg := some false, rs := some (.one (.leaf (.any))), zero := some (Value.nilIface) }
theorem ti132_ok : TIok Tryz.prog 132 ti132 where
  size := some_all (1) rfl (by kernel_rfl)
  agg := some_all (false) rfl (by kernel_rfl)
  zero := some_all (Value.nilIface) rfl (by kernel_rfl)
  offs := none_all rfl
  arr := none_all2 rfl
  slc := none_all2 rfl
  isStr := no_all rfl
  intk := none_all rfl
  conc := no_all rfl
  isPtr := no_all rfl
  isSlc := no_all rfl
  isMap := no_all rfl
  isBool := no_all rfl
  eqs := none_all rfl
def ti137 : TI := { size := some 1, agg := some false, rs := some (.one (.leaf (.ptr))), zero := some (Value.pointer none), conc := true, isPtr := true }
theorem ti137_ok : TIok Tryz.prog 137 ti137 where
  size := some_all (1) rfl (by kernel_rfl)
  agg := some_all (false) rfl (by kernel_rfl)
  zero := some_all (Value.pointer none) rfl (by kernel_rfl)
  offs := none_all rfl
  arr := none_all2 rfl
  slc := none_all2 rfl
  isStr := no_all rfl
  intk := none_all rfl
  conc := yes_all ⟨descOf (Tryz.prog.underlying 137), by kernel_rfl, concrete (by kernel_rfl)⟩
  isPtr := yes_all ⟨196, by kernel_rfl⟩
  isSlc := no_all rfl
  isMap := no_all rfl
  isBool := no_all rfl
  eqs := none_all rfl
def ti142 : TI := { size := some 1, agg := some false, rs := some (.one (.leaf (.ptr))), zero := some (Value.pointer none), conc := true, isPtr := true }
theorem ti142_ok : TIok Tryz.prog 142 ti142 where
  size := some_all (1) rfl (by kernel_rfl)
  agg := some_all (false) rfl (by kernel_rfl)
  zero := some_all (Value.pointer none) rfl (by kernel_rfl)
  offs := none_all rfl
  arr := none_all2 rfl
  slc := none_all2 rfl
  isStr := no_all rfl
  intk := none_all rfl
  conc := yes_all ⟨descOf (Tryz.prog.underlying 142), by kernel_rfl, concrete (by kernel_rfl)⟩
  isPtr := yes_all ⟨224, by kernel_rfl⟩
  isSlc := no_all rfl
  isMap := no_all rfl
  isBool := no_all rfl
  eqs := none_all rfl
def ti143 : TI := { size := some 1, agg := some false, rs := some (.one (.leaf (.ptr))), zero := some (Value.pointer none), conc := true, isPtr := true }
theorem ti143_ok : TIok Tryz.prog 143 ti143 where
  size := some_all (1) rfl (by kernel_rfl)
  agg := some_all (false) rfl (by kernel_rfl)
  zero := some_all (Value.pointer none) rfl (by kernel_rfl)
  offs := none_all rfl
  arr := none_all2 rfl
  slc := none_all2 rfl
  isStr := no_all rfl
  intk := none_all rfl
  conc := yes_all ⟨descOf (Tryz.prog.underlying 143), by kernel_rfl, concrete (by kernel_rfl)⟩
  isPtr := yes_all ⟨229, by kernel_rfl⟩
  isSlc := no_all rfl
  isMap := no_all rfl
  isBool := no_all rfl
  eqs := none_all rfl
def ti145 : TI := { size := some 9, agg := some true, rs := some (.one (.agg [.bool, .slice, .slice, .slice, .slice, .slice, .ptr, .ptr, .ptr])), zero := some (Value.agg #[Value.bool false, Value.slice none 0 0, Value.slice none 0 0, Value.slice none 0 0, Value.slice none 0 0, Value.slice none 0 0, Value.pointer none, Value.pointer none, Value.pointer none]), offs := some [(0, 5, true), (6, 0, false), (7, 0, false), (8, 0, false)], conc := true }
theorem ti145_ok : TIok Tryz.prog 145 ti145 where
  size := some_all (9) rfl (by kernel_rfl)
  agg := some_all (true) rfl (by kernel_rfl)
  zero := some_all (Value.agg #[Value.bool false, Value.slice none 0 0, Value.slice none 0 0, Value.slice none 0 0, Value.slice none 0 0, Value.slice none 0 0, Value.pointer none, Value.pointer none, Value.pointer none]) rfl (by kernel_rfl)
  offs := some_all [(0, 5, true), (6, 0, false), (7, 0, false), (8, 0, false)] rfl ⟨structOf (Tryz.prog.underlying 145), by kernel_rfl, by kernel_rfl⟩
  arr := none_all2 rfl
  slc := none_all2 rfl
  isStr := no_all rfl
  intk := none_all rfl
  conc := yes_all ⟨descOf (Tryz.prog.underlying 145), by kernel_rfl, concrete (by kernel_rfl)⟩
  isPtr := no_all rfl
  isSlc := no_all rfl
  isMap := no_all rfl
  isBool := no_all rfl
  eqs := none_all rfl
def ti159 : TI := { size := some 4, agg := some true, rs := some (.one (.agg [.int .u32, .int .i32, .int .u32, .slice])), zero := some (Value.agg #[Value.int .u32 0, Value.int .i32 0, Value.int .u32 0, Value.slice none 0 0]), offs := some [(0, 2, true), (3, 0, false)], conc := true }
theorem ti159_ok : TIok Tryz.prog 159 ti159 where
  size := some_all (4) rfl (by kernel_rfl)
  agg := some_all (true) rfl (by kernel_rfl)
  zero := some_all (Value.agg #[Value.int .u32 0, Value.int .i32 0, Value.int .u32 0, Value.slice none 0 0]) rfl (by kernel_rfl)
  offs := some_all [(0, 2, true), (3, 0, false)] rfl ⟨structOf (Tryz.prog.underlying 159), by kernel_rfl, by kernel_rfl⟩
  arr := none_all2 rfl
  slc := none_all2 rfl
  isStr := no_all rfl
  intk := none_all rfl
  conc := yes_all ⟨descOf (Tryz.prog.underlying 159), by kernel_rfl, concrete (by kernel_rfl)⟩
  isPtr := no_all rfl
  isSlc := no_all rfl
  isMap := no_all rfl
  isBool := no_all rfl
  eqs := none_all rfl
def ti164 : TI := { size := some 14, agg := some true, rs := some (.one (.agg [.bool, .slice, .slice, .slice, .slice, .slice, .ptr, .ptr, .ptr, .int .u32, .int .i32, .int .u32, .slice, .int .i64])), zero := some (Value.agg #[Value.bool false, Value.slice none 0 0, Value.slice none 0 0, Value.slice none 0 0, Value.slice none 0 0, Value.slice none 0 0, Value.pointer none, Value.pointer none, Value.pointer none, Value.int .u32 0, Value.int .i32 0, Value.int .u32 0, Value.slice none 0 0, Value.int .i64 0]), offs := some [(0, 8, true), (9, 3, true), (13, 0, true)], conc := true }
theorem ti164_ok : TIok Tryz.prog 164 ti164 where
  size := some_all (14) rfl (by kernel_rfl)
  agg := some_all (true) rfl (by kernel_rfl)
  zero := some_all (Value.agg #[Value.bool false, Value.slice none 0 0, Value.slice none 0 0, Value.slice none 0 0, Value.slice none 0 0, Value.slice none 0 0, Value.pointer none, Value.pointer none, Value.pointer none, Value.int .u32 0, Value.int .i32 0, Value.int .u32 0, Value.slice none 0 0, Value.int .i64 0]) rfl (by kernel_rfl)
  offs := some_all [(0, 8, true), (9, 3, true), (13, 0, true)] rfl ⟨structOf (Tryz.prog.underlying 164), by kernel_rfl, by kernel_rfl⟩
  arr := none_all2 rfl
  slc := none_all2 rfl
  isStr := no_all rfl
  intk := none_all rfl
  conc := yes_all ⟨descOf (Tryz.prog.underlying 164), by kernel_rfl, concrete (by kernel_rfl)⟩
  isPtr := no_all rfl
  isSlc := no_all rfl
  isMap := no_all rfl
  isBool := no_all rfl
  eqs := none_all rfl
def ti168 : TI := { size := some 1, agg := some false, rs := some (.one (.leaf (.map))), zero := some (Value.map none), elemSh := some (.leaf (.int .i64)), conc := true, isMap := true }
theorem ti168_ok : TIok Tryz.prog 168 ti168 where
  size := some_all (1) rfl (by kernel_rfl)
  agg := some_all (false) rfl (by kernel_rfl)
  zero := some_all (Value.map none) rfl (by kernel_rfl)
  offs := none_all rfl
  arr := none_all2 rfl
  slc := none_all2 rfl
  isStr := no_all rfl
  intk := none_all rfl
  conc := yes_all ⟨descOf (Tryz.prog.underlying 168), by kernel_rfl, concrete (by kernel_rfl)⟩
  isPtr := no_all rfl
  isSlc := no_all rfl
  isMap := yes_all ⟨9, 3, by kernel_rfl⟩
  isBool := no_all rfl
  eqs := none_all rfl
def ti170 : TI := { size := some 1, agg := some false, rs := some (.one (.leaf (.any))), zero := some (Value.nilFunc), conc := true }
theorem ti170_ok : TIok Tryz.prog 170 ti170 where
  size := some_all (1) rfl (by kernel_rfl)
  agg := some_all (false) rfl (by kernel_rfl)
  zero := some_all (Value.nilFunc) rfl (by kernel_rfl)
  offs := none_all rfl
  arr := none_all2 rfl
  slc := none_all2 rfl
  isStr := no_all rfl
  intk := none_all rfl
  conc := yes_all ⟨descOf (Tryz.prog.underlying 170), by kernel_rfl, concrete (by kernel_rfl)⟩
  isPtr := no_all rfl
  isSlc := no_all rfl
  isMap := no_all rfl
  isBool := no_all rfl
  eqs := none_all rfl
def ti172 : TI := { size := some 1, agg := some false, rs := some (.one (.leaf (.any))), zero := some (Value.nilFunc), conc := true }
theorem ti172_ok : TIok Tryz.prog 172 ti172 where
  size := some_all (1) rfl (by kernel_rfl)
  agg := some_all (false) rfl (by kernel_rfl)
  zero := some_all (Value.nilFunc) rfl (by kernel_rfl)
  offs := none_all rfl
  arr := none_all2 rfl
  slc := none_all2 rfl
  isStr := no_all rfl
  intk := none_all rfl
  conc := yes_all ⟨descOf (Tryz.prog.underlying 172), by kernel_rfl, concrete (by kernel_rfl)⟩
  isPtr := no_all rfl
  isSlc := no_all rfl
  isMap := no_all rfl
  isBool := no_all rfl
  eqs := none_all rfl
def ti174 : TI := { size := some 1, agg := some false, rs := some (.one (.leaf (.any))), zero := some (Value.nilFunc), conc := true }
theorem ti174_ok : TIok Tryz.prog 174 ti174 where
  size := some_all (1) rfl (by kernel_rfl)
  agg := some_all (false) rfl (by kernel_rfl)
  zero := some_all (Value.nilFunc) rfl (by kernel_rfl)
  offs := none_all rfl
  arr := none_all2 rfl
  slc := none_all2 rfl
  isStr := no_all rfl
  intk := none_all rfl
  conc := yes_all ⟨descOf (Tryz.prog.underlying 174), by kernel_rfl, concrete (by kernel_rfl)⟩
  isPtr := no_all rfl
  isSlc := no_all rfl
  isMap := no_all rfl
  isBool := no_all rfl
  eqs := none_all rfl
def ti176 : TI := { size := some 1, agg := some false, rs := some (.one (.leaf (.any))), zero := some (Value.nilFunc), conc := true }
theorem ti176_ok : TIok Tryz.prog 176 ti176 where
  size := some_all (1) rfl (by kernel_rfl)
  agg := some_all (false) rfl (by kernel_rfl)
  zero := some_all (Value.nilFunc) rfl (by kernel_rfl)
  offs := none_all rfl
  arr := none_all2 rfl
  slc := none_all2 rfl
  isStr := no_all rfl
  intk := none_all rfl
  conc := yes_all ⟨descOf (Tryz.prog.underlying 176), by kernel_rfl, concrete (by kernel_rfl)⟩
  isPtr := no_all rfl
  isSlc := no_all rfl
  isMap := no_all rfl
  isBool := no_all rfl
  eqs := none_all rfl
def ti178 : TI := { size := some 1, agg := some false, rs := some (.one (.leaf (.any))), zero := some (Value.nilFunc), conc := true }
theorem ti178_ok : TIok Tryz.prog 178 ti178 where
  size := some_all (1) rfl (by kernel_rfl)
  agg := some_all (false) rfl (by kernel_rfl)
  zero := some_all (Value.nilFunc) rfl (by kernel_rfl)
  offs := none_all rfl
  arr := none_all2 rfl
  slc := none_all2 rfl
  isStr := no_all rfl
  intk := none_all rfl
  conc := yes_all ⟨descOf (Tryz.prog.underlying 178), by kernel_rfl, concrete (by kernel_rfl)⟩
  isPtr := no_all rfl
  isSlc := no_all rfl
  isMap := no_all rfl
  isBool := no_all rfl
  eqs := none_all rfl
def ti179 : TI := { rs := some (.tup [.leaf (.ptr), .leaf (.int .i64), .leaf (.int .i64)]) }
theorem ti179_ok : TIok Tryz.prog 179 ti179 where
  size := none_all rfl
  agg := none_all rfl
  zero := none_all rfl
  offs := none_all rfl
  arr := none_all2 rfl
  slc := none_all2 rfl
  isStr := no_all rfl
  intk := none_all rfl
  conc := no_all rfl
  isPtr := no_all rfl
  isSlc := no_all rfl
  isMap := no_all rfl
  isBool := no_all rfl
  eqs := none_all rfl
def ti181 : TI := { rs := some (.tup [.leaf (.ptr), .leaf (.int .i64), .leaf (.int .i64)]) }
theorem ti181_ok : TIok Tryz.prog 181 ti181 where
  size := none_all rfl
  agg := none_all rfl
  zero := none_all rfl
  offs := none_all rfl
  arr := none_all2 rfl
  slc := none_all2 rfl
  isStr := no_all rfl
  intk := none_all rfl
  conc := no_all rfl
  isPtr := no_all rfl
  isSlc := no_all rfl
  isMap := no_all rfl
  isBool := no_all rfl
  eqs := none_all rfl
def ti184 : TI := { rs := some (.tup [.leaf (.ptr), .leaf (.int .i64)]) }
theorem ti184_ok : TIok Tryz.prog 184 ti184 where
  size := none_all rfl
  agg := none_all rfl
  zero := none_all rfl
  offs := none_all rfl
  arr := none_all2 rfl
  slc := none_all2 rfl
  isStr := no_all rfl
  intk := none_all rfl
  conc := no_all rfl
  isPtr := no_all rfl
  isSlc := no_all rfl
  isMap := no_all rfl
  isBool := no_all rfl
  eqs := none_all rfl
def ti188 : TI := { size := some 1, agg := some false, rs := some (.one (.leaf (.int .u16))), zero := some (Value.int .u16 0), intk := some .u16, conc := true }
theorem ti188_ok : TIok Tryz.prog 188 ti188 where
  size := some_all (1) rfl (by kernel_rfl)
  agg := some_all (false) rfl (by kernel_rfl)
  zero := some_all (Value.int .u16 0) rfl (by kernel_rfl)
  offs := none_all rfl
  arr := none_all2 rfl
  slc := none_all2 rfl
  isStr := no_all rfl
  intk := some_all (IntKind.u16) rfl (by kernel_rfl)
  conc := yes_all ⟨descOf (Tryz.prog.underlying 188), by kernel_rfl, concrete (by kernel_rfl)⟩
  isPtr := no_all rfl
  isSlc := no_all rfl
  isMap := no_all rfl
  isBool := no_all rfl
  eqs := none_all rfl
def ti189 : TI := { rs := some (.tup [.agg [.slice, .slice], .leaf (.int .i64)]) }
theorem ti189_ok : TIok Tryz.prog 189 ti189 where
  size := none_all rfl
  agg := none_all rfl
  zero := none_all rfl
  offs := none_all rfl
  arr := none_all2 rfl
  slc := none_all2 rfl
  isStr := no_all rfl
  intk := none_all rfl
  conc := no_all rfl
  isPtr := no_all rfl
  isSlc := no_all rfl
  isMap := no_all rfl
  isBool := no_all rfl
  eqs := none_all rfl
def ti191 : TI := { rs := some (.tup [.agg [.slice, .slice], .leaf (.int .i64), .leaf (.int .i64)]) }
theorem ti191_ok : TIok Tryz.prog 191 ti191 where
  size := none_all rfl
  agg := none_all rfl
  zero := none_all rfl
  offs := none_all rfl
  arr := none_all2 rfl
  slc := none_all2 rfl
  isStr := no_all rfl
  intk := none_all rfl
  conc := no_all rfl
  isPtr := no_all rfl
  isSlc := no_all rfl
  isMap := no_all rfl
  isBool := no_all rfl
  eqs := none_all rfl
def ti194 : TI := { size := some 256, agg := some true, zero := some (Value.agg (List.toArray (List.replicate 256 (Value.bool false)))), arr := some (256, 1), conc := true }
theorem ti194_ok : TIok Tryz.prog 194 ti194 where
  size := some_all (256) rfl (by kernel_rfl)
  agg := some_all (true) rfl (by kernel_rfl)
  zero := some_all (Value.agg (List.toArray (List.replicate 256 (Value.bool false)))) rfl (by kernel_rfl)
  offs := none_all rfl
  arr := some_all2 256 1 rfl ⟨4, by kernel_rfl, by kernel_rfl⟩
  slc := none_all2 rfl
  isStr := no_all rfl
  intk := none_all rfl
  conc := yes_all ⟨descOf (Tryz.prog.underlying 194), by kernel_rfl, concrete (by kernel_rfl)⟩
  isPtr := no_all rfl
  isSlc := no_all rfl
  isMap := no_all rfl
  isBool := no_all rfl
  eqs := none_all rfl
def ti196 : TI := { size := some 260, agg := some true, zero := some (Value.agg (List.toArray ([Value.slice none 0 0, Value.map none, Value.map none] ++ List.replicate 256 (Value.bool false) ++ [Value.int .i64 0]))), offs := some [(0, 0, false), (1, 0, false), (2, 0, false), (3, 255, true), (259, 0, false)], conc := true }
theorem ti196_ok : TIok Tryz.prog 196 ti196 where
  size := some_all (260) rfl (by kernel_rfl)
  agg := some_all (true) rfl (by kernel_rfl)
  zero := some_all (Value.agg (List.toArray ([Value.slice none 0 0, Value.map none, Value.map none] ++ List.replicate 256 (Value.bool false) ++ [Value.int .i64 0]))) rfl (by kernel_rfl)
  offs := some_all [(0, 0, false), (1, 0, false), (2, 0, false), (3, 255, true), (259, 0, false)] rfl ⟨structOf (Tryz.prog.underlying 196), by kernel_rfl, by kernel_rfl⟩
  arr := none_all2 rfl
  slc := none_all2 rfl
  isStr := no_all rfl
  intk := none_all rfl
  conc := yes_all ⟨descOf (Tryz.prog.underlying 196), by kernel_rfl, concrete (by kernel_rfl)⟩
  isPtr := no_all rfl
  isSlc := no_all rfl
  isMap := no_all rfl
  isBool := no_all rfl
  eqs := none_all rfl
def ti205 : TI := { rs := some (.tup [.leaf (.str), .leaf (.bool)]) }
theorem ti205_ok : TIok Tryz.prog 205 ti205 where
  size := none_all rfl
  agg := none_all rfl
  zero := none_all rfl
  offs := none_all rfl
  arr := none_all2 rfl
  slc := none_all2 rfl
  isStr := no_all rfl
  intk := none_all rfl
  conc := no_all rfl
  isPtr := no_all rfl
  isSlc := no_all rfl
  isMap := no_all rfl
  isBool := no_all rfl
  eqs := none_all rfl
def ti221 : TI := { size := some 1, agg := some false, rs := some (.one (.leaf (.slice))), zero := some (Value.slice none 0 0), slc := some (250, 3), conc := true, isSlc := true }
theorem ti221_ok : TIok Tryz.prog 221 ti221 where
  size := some_all (1) rfl (by kernel_rfl)
  agg := some_all (false) rfl (by kernel_rfl)
  zero := some_all (Value.slice none 0 0) rfl (by kernel_rfl)
  offs := none_all rfl
  arr := none_all2 rfl
  slc := some_all2 250 3 rfl ⟨by kernel_rfl, by kernel_rfl⟩
  isStr := no_all rfl
  intk := none_all rfl
  conc := yes_all ⟨descOf (Tryz.prog.underlying 221), by kernel_rfl, concrete (by kernel_rfl)⟩
  isPtr := no_all rfl
  isSlc := yes_all ⟨250, by kernel_rfl⟩
  isMap := no_all rfl
  isBool := no_all rfl
  eqs := none_all rfl
def ti222 : TI := { size := some 1, agg := some false, rs := some (.one (.leaf (.map))), zero := some (Value.map none), elemSh := some (.leaf (.int .i64)), conc := true, isMap := true }
theorem ti222_ok : TIok Tryz.prog 222 ti222 where
  size := some_all (1) rfl (by kernel_rfl)
  agg := some_all (false) rfl (by kernel_rfl)
  zero := some_all (Value.map none) rfl (by kernel_rfl)
  offs := none_all rfl
  arr := none_all2 rfl
  slc := none_all2 rfl
  isStr := no_all rfl
  intk := none_all rfl
  conc := yes_all ⟨descOf (Tryz.prog.underlying 222), by kernel_rfl, concrete (by kernel_rfl)⟩
  isPtr := no_all rfl
  isSlc := no_all rfl
  isMap := yes_all ⟨81, 3, by kernel_rfl⟩
  isBool := no_all rfl
  eqs := none_all rfl
def ti224 : TI := { size := some 4, agg := some true, rs := some (.one (.agg [.slice, .map, .map, .int .i64])), zero := some (Value.agg #[Value.slice none 0 0, Value.map none, Value.map none, Value.int .i64 0]), offs := some [(0, 0, false), (1, 0, false), (2, 0, false), (3, 0, false)], conc := true }
theorem ti224_ok : TIok Tryz.prog 224 ti224 where
  size := some_all (4) rfl (by kernel_rfl)
  agg := some_all (true) rfl (by kernel_rfl)
  zero := some_all (Value.agg #[Value.slice none 0 0, Value.map none, Value.map none, Value.int .i64 0]) rfl (by kernel_rfl)
  offs := some_all [(0, 0, false), (1, 0, false), (2, 0, false), (3, 0, false)] rfl ⟨structOf (Tryz.prog.underlying 224), by kernel_rfl, by kernel_rfl⟩
  arr := none_all2 rfl
  slc := none_all2 rfl
  isStr := no_all rfl
  intk := none_all rfl
  conc := yes_all ⟨descOf (Tryz.prog.underlying 224), by kernel_rfl, concrete (by kernel_rfl)⟩
  isPtr := no_all rfl
  isSlc := no_all rfl
  isMap := no_all rfl
  isBool := no_all rfl
  eqs := none_all rfl
def ti225 : TI := { size := some 256, agg := some true, zero := some (Value.agg (List.toArray (List.replicate 256 (Value.int .i64 0)))), arr := some (256, 1), conc := true }
theorem ti225_ok : TIok Tryz.prog 225 ti225 where
  size := some_all (256) rfl (by kernel_rfl)
  agg := some_all (true) rfl (by kernel_rfl)
  zero := some_all (Value.agg (List.toArray (List.replicate 256 (Value.int .i64 0)))) rfl (by kernel_rfl)
  offs := none_all rfl
  arr := some_all2 256 1 rfl ⟨3, by kernel_rfl, by kernel_rfl⟩
  slc := none_all2 rfl
  isStr := no_all rfl
  intk := none_all rfl
  conc := yes_all ⟨descOf (Tryz.prog.underlying 225), by kernel_rfl, concrete (by kernel_rfl)⟩
  isPtr := no_all rfl
  isSlc := no_all rfl
  isMap := no_all rfl
  isBool := no_all rfl
  eqs := none_all rfl
def ti226 : TI := { size := some 16, agg := some true, rs := some (.one (.agg [.bool, .bool, .bool, .bool, .bool, .bool, .bool, .bool, .bool, .bool, .bool, .bool, .bool, .bool, .bool, .bool])), zero := some (Value.agg #[Value.bool false, Value.bool false, Value.bool false, Value.bool false, Value.bool false, Value.bool false, Value.bool false, Value.bool false, Value.bool false, Value.bool false, Value.bool false, Value.bool false, Value.bool false, Value.bool false, Value.bool false, Value.bool false]), arr := some (16, 1), conc := true }
theorem ti226_ok : TIok Tryz.prog 226 ti226 where
  size := some_all (16) rfl (by kernel_rfl)
  agg := some_all (true) rfl (by kernel_rfl)
  zero := some_all (Value.agg #[Value.bool false, Value.bool false, Value.bool false, Value.bool false, Value.bool false, Value.bool false, Value.bool false, Value.bool false, Value.bool false, Value.bool false, Value.bool false, Value.bool false, Value.bool false, Value.bool false, Value.bool false, Value.bool false]) rfl (by kernel_rfl)
  offs := none_all rfl
  arr := some_all2 16 1 rfl ⟨4, by kernel_rfl, by kernel_rfl⟩
  slc := none_all2 rfl
  isStr := no_all rfl
  intk := none_all rfl
  conc := yes_all ⟨descOf (Tryz.prog.underlying 226), by kernel_rfl, concrete (by kernel_rfl)⟩
  isPtr := no_all rfl
  isSlc := no_all rfl
  isMap := no_all rfl
  isBool := no_all rfl
  eqs := none_all rfl
def ti227 : TI := { size := some 256, agg := some true, zero := some (Value.agg (List.toArray (List.replicate 256 (Value.bool false)))), arr := some (16, 16), conc := true }
theorem ti227_ok : TIok Tryz.prog 227 ti227 where
  size := some_all (256) rfl (by kernel_rfl)
  agg := some_all (true) rfl (by kernel_rfl)
  zero := some_all (Value.agg (List.toArray (List.replicate 256 (Value.bool false)))) rfl (by kernel_rfl)
  offs := none_all rfl
  arr := some_all2 16 16 rfl ⟨226, by kernel_rfl, by kernel_rfl⟩
  slc := none_all2 rfl
  isStr := no_all rfl
  intk := none_all rfl
  conc := yes_all ⟨descOf (Tryz.prog.underlying 227), by kernel_rfl, concrete (by kernel_rfl)⟩
  isPtr := no_all rfl
  isSlc := no_all rfl
  isMap := no_all rfl
  isBool := no_all rfl
  eqs := none_all rfl
def ti229 : TI := { size := some 512, agg := some true, zero := some (Value.agg (List.toArray (List.replicate 256 (Value.int .i64 0) ++ List.replicate 256 (Value.bool false)))), offs := some [(0, 255, true), (256, 255, true)], conc := true }
theorem ti229_ok : TIok Tryz.prog 229 ti229 where
  size := some_all (512) rfl (by kernel_rfl)
  agg := some_all (true) rfl (by kernel_rfl)
  zero := some_all (Value.agg (List.toArray (List.replicate 256 (Value.int .i64 0) ++ List.replicate 256 (Value.bool false)))) rfl (by kernel_rfl)
  offs := some_all [(0, 255, true), (256, 255, true)] rfl ⟨structOf (Tryz.prog.underlying 229), by kernel_rfl, by kernel_rfl⟩
  arr := none_all2 rfl
  slc := none_all2 rfl
  isStr := no_all rfl
  intk := none_all rfl
  conc := yes_all ⟨descOf (Tryz.prog.underlying 229), by kernel_rfl, concrete (by kernel_rfl)⟩
  isPtr := no_all rfl
  isSlc := no_all rfl
  isMap := no_all rfl
  isBool := no_all rfl
  eqs := none_all rfl
def ti238 : TI := { size := some 1, agg := some false, rs := some (.one (.leaf (.int .i64))), zero := some (Value.int .i64 0), intk := some .i64, conc := true }
theorem ti238_ok : TIok Tryz.prog 238 ti238 where
  size := some_all (1) rfl (by kernel_rfl)
  agg := some_all (false) rfl (by kernel_rfl)
  zero := some_all (Value.int .i64 0) rfl (by kernel_rfl)
  offs := none_all rfl
  arr := none_all2 rfl
  slc := none_all2 rfl
  isStr := no_all rfl
  intk := some_all (IntKind.i64) rfl (by kernel_rfl)
  conc := yes_all ⟨descOf (Tryz.prog.underlying 238), by kernel_rfl, concrete (by kernel_rfl)⟩
  isPtr := no_all rfl
  isSlc := no_all rfl
  isMap := no_all rfl
  isBool := no_all rfl
  eqs := none_all rfl
def ti239 : TI := { rs := some (.tup [.leaf (.int .i64), .leaf (.int .i64)]) }
theorem ti239_ok : TIok Tryz.prog 239 ti239 where
  size := none_all rfl
  agg := none_all rfl
  zero := none_all rfl
  offs := none_all rfl
  arr := none_all2 rfl
  slc := none_all2 rfl
  isStr := no_all rfl
  intk := none_all rfl
  conc := no_all rfl
  isPtr := no_all rfl
  isSlc := no_all rfl
  isMap := no_all rfl
  isBool := no_all rfl
  eqs := none_all rfl
def ti250 : TI := { size := some 3, agg := some true, rs := some (.one (.agg [.str, .int .i64, .int .i64])), zero := some (Value.agg #[Value.string ⟨#[]⟩, Value.int .i64 0, Value.int .i64 0]), offs := some [(0, 0, false), (1, 1, true)], conc := true }
theorem ti250_ok : TIok Tryz.prog 250 ti250 where
  size := some_all (3) rfl (by kernel_rfl)
  agg := some_all (true) rfl (by kernel_rfl)
  zero := some_all (Value.agg #[Value.string ⟨#[]⟩, Value.int .i64 0, Value.int .i64 0]) rfl (by kernel_rfl)
  offs := some_all [(0, 0, false), (1, 1, true)] rfl ⟨structOf (Tryz.prog.underlying 250), by kernel_rfl, by kernel_rfl⟩
  arr := none_all2 rfl
  slc := none_all2 rfl
  isStr := no_all rfl
  intk := none_all rfl
  conc := yes_all ⟨descOf (Tryz.prog.underlying 250), by kernel_rfl, concrete (by kernel_rfl)⟩
  isPtr := no_all rfl
  isSlc := no_all rfl
  isMap := no_all rfl
  isBool := no_all rfl
  eqs := none_all rfl
def ti253 : TI := { size := some 1, agg := some false, rs := some (.one (.leaf (.ptr))), zero := some (Value.pointer none), conc := true, isPtr := true }
theorem ti253_ok : TIok Tryz.prog 253 ti253 where
  size := some_all (1) rfl (by kernel_rfl)
  agg := some_all (false) rfl (by kernel_rfl)
  zero := some_all (Value.pointer none) rfl (by kernel_rfl)
  offs := none_all rfl
  arr := none_all2 rfl
  slc := none_all2 rfl
  isStr := no_all rfl
  intk := none_all rfl
  conc := yes_all ⟨descOf (Tryz.prog.underlying 253), by kernel_rfl, concrete (by kernel_rfl)⟩
  isPtr := yes_all ⟨276, by kernel_rfl⟩
  isSlc := no_all rfl
  isMap := no_all rfl
  isBool := no_all rfl
  eqs := none_all rfl
def ti259 : TI := { rs := some (.tup [.agg [.int .i64, .int .i64], .leaf (.bool)]) }
theorem ti259_ok : TIok Tryz.prog 259 ti259 where
  size := none_all rfl
  agg := none_all rfl
  zero := none_all rfl
  offs := none_all rfl
  arr := none_all2 rfl
  slc := none_all2 rfl
  isStr := no_all rfl
  intk := none_all rfl
  conc := no_all rfl
  isPtr := no_all rfl
  isSlc := no_all rfl
  isMap := no_all rfl
  isBool := no_all rfl
  eqs := none_all rfl
def ti266 : TI := { size := some 1, agg := some false, rs := some (.one (.leaf (.ptr))), zero := some (Value.pointer none), conc := true, isPtr := true }
theorem ti266_ok : TIok Tryz.prog 266 ti266 where
  size := some_all (1) rfl (by kernel_rfl)
  agg := some_all (false) rfl (by kernel_rfl)
  zero := some_all (Value.pointer none) rfl (by kernel_rfl)
  offs := none_all rfl
  arr := none_all2 rfl
  slc := none_all2 rfl
  isStr := no_all rfl
  intk := none_all rfl
  conc := yes_all ⟨descOf (Tryz.prog.underlying 266), by kernel_rfl, concrete (by kernel_rfl)⟩
  isPtr := yes_all ⟨3, by kernel_rfl⟩
  isSlc := no_all rfl
  isMap := no_all rfl
  isBool := no_all rfl
  eqs := none_all rfl
def ti271 : TI := { size := some 1, agg := some false, rs := some (.one (.leaf (.ptr))), zero := some (Value.pointer none), conc := true, isPtr := true }
theorem ti271_ok : TIok Tryz.prog 271 ti271 where
  size := some_all (1) rfl (by kernel_rfl)
  agg := some_all (false) rfl (by kernel_rfl)
  zero := some_all (Value.pointer none) rfl (by kernel_rfl)
  offs := none_all rfl
  arr := none_all2 rfl
  slc := none_all2 rfl
  isStr := no_all rfl
  intk := none_all rfl
  conc := yes_all ⟨descOf (Tryz.prog.underlying 271), by kernel_rfl, concrete (by kernel_rfl)⟩
  isPtr := yes_all ⟨292, by kernel_rfl⟩
  isSlc := no_all rfl
  isMap := no_all rfl
  isBool := no_all rfl
  eqs := none_all rfl
def ti274 : TI := { size := some 2, agg := some true, rs := some (.one (.agg [.int .i64, .int .i64])), zero := some (Value.agg #[Value.int .i64 0, Value.int .i64 0]), offs := some [(0, 1, true)], conc := true }
theorem ti274_ok : TIok Tryz.prog 274 ti274 where
  size := some_all (2) rfl (by kernel_rfl)
  agg := some_all (true) rfl (by kernel_rfl)
  zero := some_all (Value.agg #[Value.int .i64 0, Value.int .i64 0]) rfl (by kernel_rfl)
  offs := some_all [(0, 1, true)] rfl ⟨structOf (Tryz.prog.underlying 274), by kernel_rfl, by kernel_rfl⟩
  arr := none_all2 rfl
  slc := none_all2 rfl
  isStr := no_all rfl
  intk := none_all rfl
  conc := yes_all ⟨descOf (Tryz.prog.underlying 274), by kernel_rfl, concrete (by kernel_rfl)⟩
  isPtr := no_all rfl
  isSlc := no_all rfl
  isMap := no_all rfl
  isBool := no_all rfl
  eqs := none_all rfl
def ti276 : TI := { size := some 5, agg := some true, rs := some (.one (.agg [.int .i64, .int .i64, .ptr, .int .i64, .int .i64])), zero := some (Value.agg #[Value.int .i64 0, Value.int .i64 0, Value.pointer none, Value.int .i64 0, Value.int .i64 0]), offs := some [(0, 1, true), (2, 0, false), (3, 0, false), (4, 0, false)], conc := true }
theorem ti276_ok : TIok Tryz.prog 276 ti276 where
  size := some_all (5) rfl (by kernel_rfl)
  agg := some_all (true) rfl (by kernel_rfl)
  zero := some_all (Value.agg #[Value.int .i64 0, Value.int .i64 0, Value.pointer none, Value.int .i64 0, Value.int .i64 0]) rfl (by kernel_rfl)
  offs := some_all [(0, 1, true), (2, 0, false), (3, 0, false), (4, 0, false)] rfl ⟨structOf (Tryz.prog.underlying 276), by kernel_rfl, by kernel_rfl⟩
  arr := none_all2 rfl
  slc := none_all2 rfl
  isStr := no_all rfl
  intk := none_all rfl
  conc := yes_all ⟨descOf (Tryz.prog.underlying 276), by kernel_rfl, concrete (by kernel_rfl)⟩
  isPtr := no_all rfl
  isSlc := no_all rfl
  isMap := no_all rfl
  isBool := no_all rfl
  eqs := none_all rfl
def ti286 : TI := { size := some 1, agg := some false, rs := some (.one (.leaf (.ptr))), zero := some (Value.pointer none), conc := true, isPtr := true }
theorem ti286_ok : TIok Tryz.prog 286 ti286 where
  size := some_all (1) rfl (by kernel_rfl)
  agg := some_all (false) rfl (by kernel_rfl)
  zero := some_all (Value.pointer none) rfl (by kernel_rfl)
  offs := none_all rfl
  arr := none_all2 rfl
  slc := none_all2 rfl
  isStr := no_all rfl
  intk := none_all rfl
  conc := yes_all ⟨descOf (Tryz.prog.underlying 286), by kernel_rfl, concrete (by kernel_rfl)⟩
  isPtr := yes_all ⟨305, by kernel_rfl⟩
  isSlc := no_all rfl
  isMap := no_all rfl
  isBool := no_all rfl
  eqs := none_all rfl
def ti289 : TI := { size := some 3, agg := some true, rs := some (.one (.agg [.int .i64, .int .i64, .int .i64])), zero := some (Value.agg #[Value.int .i64 0, Value.int .i64 0, Value.int .i64 0]), offs := some [(0, 0, false), (1, 1, true)], conc := true }
theorem ti289_ok : TIok Tryz.prog 289 ti289 where
  size := some_all (3) rfl (by kernel_rfl)
  agg := some_all (true) rfl (by kernel_rfl)
  zero := some_all (Value.agg #[Value.int .i64 0, Value.int .i64 0, Value.int .i64 0]) rfl (by kernel_rfl)
  offs := some_all [(0, 0, false), (1, 1, true)] rfl ⟨structOf (Tryz.prog.underlying 289), by kernel_rfl, by kernel_rfl⟩
  arr := none_all2 rfl
  slc := none_all2 rfl
  isStr := no_all rfl
  intk := none_all rfl
  conc := yes_all ⟨descOf (Tryz.prog.underlying 289), by kernel_rfl, concrete (by kernel_rfl)⟩
  isPtr := no_all rfl
  isSlc := no_all rfl
  isMap := no_all rfl
  isBool := no_all rfl
  eqs := none_all rfl
def ti290 : TI := { size := some 1, agg := some false, rs := some (.one (.leaf (.slice))), zero := some (Value.slice none 0 0), slc := some (294, 3), conc := true, isSlc := true }
theorem ti290_ok : TIok Tryz.prog 290 ti290 where
  size := some_all (1) rfl (by kernel_rfl)
  agg := some_all (false) rfl (by kernel_rfl)
  zero := some_all (Value.slice none 0 0) rfl (by kernel_rfl)
  offs := none_all rfl
  arr := none_all2 rfl
  slc := some_all2 294 3 rfl ⟨by kernel_rfl, by kernel_rfl⟩
  isStr := no_all rfl
  intk := none_all rfl
  conc := yes_all ⟨descOf (Tryz.prog.underlying 290), by kernel_rfl, concrete (by kernel_rfl)⟩
  isPtr := no_all rfl
  isSlc := yes_all ⟨294, by kernel_rfl⟩
  isMap := no_all rfl
  isBool := no_all rfl
  eqs := none_all rfl
def ti292 : TI := { size := some 5, agg := some true, rs := some (.one (.agg [.ptr, .slice, .ptr, .int .i64, .int .i64])), zero := some (Value.agg #[Value.pointer none, Value.slice none 0 0, Value.pointer none, Value.int .i64 0, Value.int .i64 0]), offs := some [(0, 0, false), (1, 0, false), (2, 0, false), (3, 0, false), (4, 0, false)], conc := true }
theorem ti292_ok : TIok Tryz.prog 292 ti292 where
  size := some_all (5) rfl (by kernel_rfl)
  agg := some_all (true) rfl (by kernel_rfl)
  zero := some_all (Value.agg #[Value.pointer none, Value.slice none 0 0, Value.pointer none, Value.int .i64 0, Value.int .i64 0]) rfl (by kernel_rfl)
  offs := some_all [(0, 0, false), (1, 0, false), (2, 0, false), (3, 0, false), (4, 0, false)] rfl ⟨structOf (Tryz.prog.underlying 292), by kernel_rfl, by kernel_rfl⟩
  arr := none_all2 rfl
  slc := none_all2 rfl
  isStr := no_all rfl
  intk := none_all rfl
  conc := yes_all ⟨descOf (Tryz.prog.underlying 292), by kernel_rfl, concrete (by kernel_rfl)⟩
  isPtr := no_all rfl
  isSlc := no_all rfl
  isMap := no_all rfl
  isBool := no_all rfl
  eqs := none_all rfl
def ti294 : TI := { size := some 3, agg := some true, rs := some (.one (.agg [.int .i64, .int .i64, .int .i64])), zero := some (Value.agg #[Value.int .i64 0, Value.int .i64 0, Value.int .i64 0]), offs := some [(0, 0, false), (1, 0, false), (2, 0, false)], eqs := some [.i, .i, .i], conc := true }
theorem ti294_ok : TIok Tryz.prog 294 ti294 where
  size := some_all (3) rfl (by kernel_rfl)
  agg := some_all (true) rfl (by kernel_rfl)
  zero := some_all (Value.agg #[Value.int .i64 0, Value.int .i64 0, Value.int .i64 0]) rfl (by kernel_rfl)
  offs := some_all [(0, 0, false), (1, 0, false), (2, 0, false)] rfl ⟨structOf (Tryz.prog.underlying 294), by kernel_rfl, by kernel_rfl⟩
  arr := none_all2 rfl
  slc := none_all2 rfl
  isStr := no_all rfl
  intk := none_all rfl
  conc := yes_all ⟨descOf (Tryz.prog.underlying 294), by kernel_rfl, concrete (by kernel_rfl)⟩
  isPtr := no_all rfl
  isSlc := no_all rfl
  isMap := no_all rfl
  isBool := no_all rfl
  eqs := some_all [.i, .i, .i] rfl (by kernel_rfl)
def ti295 : TI := { rs := some (.tup [.agg [.int .i64, .int .i64, .int .i64], .leaf (.int .i64), .leaf (.int .i64), .leaf (.bool)]) }
theorem ti295_ok : TIok Tryz.prog 295 ti295 where
  size := none_all rfl
  agg := none_all rfl
  zero := none_all rfl
  offs := none_all rfl
  arr := none_all2 rfl
  slc := none_all2 rfl
  isStr := no_all rfl
  intk := none_all rfl
  conc := no_all rfl
  isPtr := no_all rfl
  isSlc := no_all rfl
  isMap := no_all rfl
  isBool := no_all rfl
  eqs := none_all rfl
def ti303 : TI := { size := some 1, agg := some false, rs := some (.one (.leaf (.slice))), zero := some (Value.slice none 0 0), slc := some (311, 6), conc := true, isSlc := true }
theorem ti303_ok : TIok Tryz.prog 303 ti303 where
  size := some_all (1) rfl (by kernel_rfl)
  agg := some_all (false) rfl (by kernel_rfl)
  zero := some_all (Value.slice none 0 0) rfl (by kernel_rfl)
  offs := none_all rfl
  arr := none_all2 rfl
  slc := some_all2 311 6 rfl ⟨by kernel_rfl, by kernel_rfl⟩
  isStr := no_all rfl
  intk := none_all rfl
  conc := yes_all ⟨descOf (Tryz.prog.underlying 303), by kernel_rfl, concrete (by kernel_rfl)⟩
  isPtr := no_all rfl
  isSlc := yes_all ⟨311, by kernel_rfl⟩
  isMap := no_all rfl
  isBool := no_all rfl
  eqs := none_all rfl
def ti305 : TI := { size := some 2, agg := some true, rs := some (.one (.agg [.slice, .int .i64])), zero := some (Value.agg #[Value.slice none 0 0, Value.int .i64 0]), offs := some [(0, 0, false), (1, 0, false)], conc := true }
theorem ti305_ok : TIok Tryz.prog 305 ti305 where
  size := some_all (2) rfl (by kernel_rfl)
  agg := some_all (true) rfl (by kernel_rfl)
  zero := some_all (Value.agg #[Value.slice none 0 0, Value.int .i64 0]) rfl (by kernel_rfl)
  offs := some_all [(0, 0, false), (1, 0, false)] rfl ⟨structOf (Tryz.prog.underlying 305), by kernel_rfl, by kernel_rfl⟩
  arr := none_all2 rfl
  slc := none_all2 rfl
  isStr := no_all rfl
  intk := none_all rfl
  conc := yes_all ⟨descOf (Tryz.prog.underlying 305), by kernel_rfl, concrete (by kernel_rfl)⟩
  isPtr := no_all rfl
  isSlc := no_all rfl
  isMap := no_all rfl
  isBool := no_all rfl
  eqs := none_all rfl
def ti309 : TI := { size := some 3, agg := some true, rs := some (.one (.agg [.int .i64, .int .i64, .int .i64])), zero := some (Value.agg #[Value.int .i64 0, Value.int .i64 0, Value.int .i64 0]), offs := some [(0, 0, false), (1, 0, false), (2, 0, false)], eqs := some [.i, .i, .i], conc := true }
theorem ti309_ok : TIok Tryz.prog 309 ti309 where
  size := some_all (3) rfl (by kernel_rfl)
  agg := some_all (true) rfl (by kernel_rfl)
  zero := some_all (Value.agg #[Value.int .i64 0, Value.int .i64 0, Value.int .i64 0]) rfl (by kernel_rfl)
  offs := some_all [(0, 0, false), (1, 0, false), (2, 0, false)] rfl ⟨structOf (Tryz.prog.underlying 309), by kernel_rfl, by kernel_rfl⟩
  arr := none_all2 rfl
  slc := none_all2 rfl
  isStr := no_all rfl
  intk := none_all rfl
  conc := yes_all ⟨descOf (Tryz.prog.underlying 309), by kernel_rfl, concrete (by kernel_rfl)⟩
  isPtr := no_all rfl
  isSlc := no_all rfl
  isMap := no_all rfl
  isBool := no_all rfl
  eqs := some_all [.i, .i, .i] rfl (by kernel_rfl)
def ti311 : TI := { size := some 6, agg := some true, rs := some (.one (.agg [.int .i64, .int .i64, .int .i64, .int .i64, .int .i64, .int .i64])), zero := some (Value.agg #[Value.int .i64 0, Value.int .i64 0, Value.int .i64 0, Value.int .i64 0, Value.int .i64 0, Value.int .i64 0]), offs := some [(0, 2, true), (3, 2, true)], conc := true }
theorem ti311_ok : TIok Tryz.prog 311 ti311 where
  size := some_all (6) rfl (by kernel_rfl)
  agg := some_all (true) rfl (by kernel_rfl)
  zero := some_all (Value.agg #[Value.int .i64 0, Value.int .i64 0, Value.int .i64 0, Value.int .i64 0, Value.int .i64 0, Value.int .i64 0]) rfl (by kernel_rfl)
  offs := some_all [(0, 2, true), (3, 2, true)] rfl ⟨structOf (Tryz.prog.underlying 311), by kernel_rfl, by kernel_rfl⟩
  arr := none_all2 rfl
  slc := none_all2 rfl
  isStr := no_all rfl
  intk := none_all rfl
  conc := yes_all ⟨descOf (Tryz.prog.underlying 311), by kernel_rfl, concrete (by kernel_rfl)⟩
  isPtr := no_all rfl
  isSlc := no_all rfl
  isMap := no_all rfl
  isBool := no_all rfl
  eqs := none_all rfl
def ti312 : TI := { size := some 2, agg := some true, rs := some (.one (.agg [.int .i64, .int .i64])), zero := some (Value.agg #[Value.int .i64 0, Value.int .i64 0]), arr := some (2, 1), conc := true }
theorem ti312_ok : TIok Tryz.prog 312 ti312 where
  size := some_all (2) rfl (by kernel_rfl)
  agg := some_all (true) rfl (by kernel_rfl)
  zero := some_all (Value.agg #[Value.int .i64 0, Value.int .i64 0]) rfl (by kernel_rfl)
  offs := none_all rfl
  arr := some_all2 2 1 rfl ⟨3, by kernel_rfl, by kernel_rfl⟩
  slc := none_all2 rfl
  isStr := no_all rfl
  intk := none_all rfl
  conc := yes_all ⟨descOf (Tryz.prog.underlying 312), by kernel_rfl, concrete (by kernel_rfl)⟩
  isPtr := no_all rfl
  isSlc := no_all rfl
  isMap := no_all rfl
  isBool := no_all rfl
  eqs := none_all rfl
def ti342 : TI := { rs := some (.tup [.agg [.int .i64, .str], .leaf (.bool)]) }
theorem ti342_ok : TIok Tryz.prog 342 ti342 where
  size := none_all rfl
  agg := none_all rfl
  zero := none_all rfl
  offs := none_all rfl
  arr := none_all2 rfl
  slc := none_all2 rfl
  isStr := no_all rfl
  intk := none_all rfl
  conc := no_all rfl
  isPtr := no_all rfl
  isSlc := no_all rfl
  isMap := no_all rfl
  isBool := no_all rfl
  eqs := none_all rfl
def tab0 : List (Nat × TI) := [(0, ti0), (2, ti2), (3, ti3), (4, ti4), (5, ti5), (9, ti9), (22, ti22), (23, ti23), (24, ti24), (25, ti25), (27, ti27), (28, ti28), (31, ti31), (32, ti32), (33, ti33), (35, ti35), (37, ti37), (39, ti39), (40, ti40), (42, ti42), (43, ti43), (51, ti51), (52, ti52), (57, ti57), (58, ti58)]
theorem tab0_ok : ∀ p ∈ tab0, TIok Tryz.prog p.1 p.2 :=
  tabCons ti0_ok <| tabCons ti2_ok <| tabCons ti3_ok <| tabCons ti4_ok <| tabCons ti5_ok <| tabCons ti9_ok <| tabCons ti22_ok <| tabCons ti23_ok <| tabCons ti24_ok <| tabCons ti25_ok <| tabCons ti27_ok <| tabCons ti28_ok <| tabCons ti31_ok <| tabCons ti32_ok <| tabCons ti33_ok <| tabCons ti35_ok <| tabCons ti37_ok <| tabCons ti39_ok <| tabCons ti40_ok <| tabCons ti42_ok <| tabCons ti43_ok <| tabCons ti51_ok <| tabCons ti52_ok <| tabCons ti57_ok <| tabCons ti58_ok <| tabNil
def tab1 : List (Nat × TI) := [(60, ti60), (62, ti62), (64, ti64), (65, ti65), (70, ti70), (73, ti73), (74, ti74), (78, ti78), (81, ti81), (83, ti83), (88, ti88), (89, ti89), (93, ti93), (94, ti94), (96, ti96), (100, ti100), (101, ti101), (102, ti102), (104, ti104), (109, ti109), (110, ti110), (111, ti111), (113, ti113), (116, ti116), (120, ti120)]
theorem tab1_ok : ∀ p ∈ tab1, TIok Tryz.prog p.1 p.2 :=
  tabCons ti60_ok <| tabCons ti62_ok <| tabCons ti64_ok <| tabCons ti65_ok <| tabCons ti70_ok <| tabCons ti73_ok <| tabCons ti74_ok <| tabCons ti78_ok <| tabCons ti81_ok <| tabCons ti83_ok <| tabCons ti88_ok <| tabCons ti89_ok <| tabCons ti93_ok <| tabCons ti94_ok <| tabCons ti96_ok <| tabCons ti100_ok <| tabCons ti101_ok <| tabCons ti102_ok <| tabCons ti104_ok <| tabCons ti109_ok <| tabCons ti110_ok <| tabCons ti111_ok <| tabCons ti113_ok <| tabCons ti116_ok <| tabCons ti120_ok <| tabNil
def tab2 : List (Nat × TI) := [(125, ti125), (126, ti126), (127, ti127), (129, ti129), (132, ti132), (137, ti137), (142, ti142), (143, ti143), (145, ti145), (159, ti159), (164, ti164), (168, ti168), (170, ti170), (172, ti172), (174, ti174), (176, ti176), (178, ti178), (179, ti179), (181, ti181), (184, ti184), (188, ti188), (189, ti189), (191, ti191), (194, ti194), (196, ti196)]
theorem tab2_ok : ∀ p ∈ tab2, TIok Tryz.prog p.1 p.2 :=
  tabCons ti125_ok <| tabCons ti126_ok <| tabCons ti127_ok <| tabCons ti129_ok <| tabCons ti132_ok <| tabCons ti137_ok <| tabCons ti142_ok <| tabCons ti143_ok <| tabCons ti145_ok <| tabCons ti159_ok <| tabCons ti164_ok <| tabCons ti168_ok <| tabCons ti170_ok <| tabCons ti172_ok <| tabCons ti174_ok <| tabCons ti176_ok <| tabCons ti178_ok <| tabCons ti179_ok <| tabCons ti181_ok <| tabCons ti184_ok <| tabCons ti188_ok <| tabCons ti189_ok <| tabCons ti191_ok <| tabCons ti194_ok <| tabCons ti196_ok <| tabNil
def tab3 : List (Nat × TI) := [(205, ti205), (221, ti221), (222, ti222), (224, ti224), (225, ti225), (226, ti226), (227, ti227), (229, ti229), (238, ti238), (239, ti239), (250, ti250), (253, ti253), (259, ti259), (266, ti266), (271, ti271), (274, ti274), (276, ti276), (286, ti286), (289, ti289), (290, ti290), (292, ti292), (294, ti294), (295, ti295), (303, ti303), (305, ti305)]
theorem tab3_ok : ∀ p ∈ tab3, TIok Tryz.prog p.1 p.2 :=
  tabCons ti205_ok <| tabCons ti221_ok <| tabCons ti222_ok <| tabCons ti224_ok <| tabCons ti225_ok <| tabCons ti226_ok <| tabCons ti227_ok <| tabCons ti229_ok <| tabCons ti238_ok <| tabCons ti239_ok <| tabCons ti250_ok <| tabCons ti253_ok <| tabCons ti259_ok <| tabCons ti266_ok <| tabCons ti271_ok <| tabCons ti274_ok <| tabCons ti276_ok <| tabCons ti286_ok <| tabCons ti289_ok <| tabCons ti290_ok <| tabCons ti292_ok <| tabCons ti294_ok <| tabCons ti295_ok <| tabCons ti303_ok <| tabCons ti305_ok <| tabNil
def tab4 : List (Nat × TI) := [(309, ti309), (311, ti311), (312, ti312), (342, ti342)]
theorem tab4_ok : ∀ p ∈ tab4, TIok Tryz.prog p.1 p.2 :=
  tabCons ti309_ok <| tabCons ti311_ok <| tabCons ti312_ok <| tabCons ti342_ok <| tabNil
def tab : List (Nat × TI) := tab0 ++ tab1 ++ tab2 ++ tab3 ++ tab4
set_option maxRecDepth 100000 in
theorem tab_ok : ∀ p ∈ tab, TIok Tryz.prog p.1 p.2 :=
  tabApp (tabApp (tabApp (tabApp (tab0_ok) tab1_ok) tab2_ok) tab3_ok) tab4_ok
theorem mixed_ok : Tryz.prog.follows .mixedOrders = true := by kernel_rfl
noncomputable def ctx : Ctx := mkCtx Tryz.prog tab
theorem ctxOk : ctx.Ok := mkCtx_ok Tryz.prog tab tab_ok mixed_ok
end Go.Proofs.YtpklkijdlnioaaaGreat.Eng
