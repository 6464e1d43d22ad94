/- The types that this claim's functions name, as the loaded program has them. -/
import Derived.Test.YtnmdljikfhafiaaGreatZjEng
import Derived.Test.YtnmdljikfhafiaaGreatProg
import Derived.KernelRfl
set_option linter.unusedVariables false
namespace Go.Proofs.YtnmdljikfhafiaaGreat.Eng
open Go
abbrev OA := Option Addr
abbrev KW := List Value → World → Prop
abbrev RW := Value → World → Prop
abbrev CP := Calls Tryz.prog
abbrev CR (k : Nat) (a : Array Value) (w : World) (R : RW) : Prop := CP k a w fun e w' => ∃ v, e = .returned v ∧ R v w'
def ti0 : TI := { rs := some (.tup []) }
theorem ti0_ok : TIok Tryz.prog 0 ti0 where
def ti2 : TI := { size := some 1, agg := some false, rs := some (.one (.leaf (.int .i64))), zero := some (Value.int .i64 0), intk := some .i64, conc := true }
theorem ti2_ok : TIok Tryz.prog 2 ti2 where
 zero := some_all (Value.int .i64 0) rfl (by kernel_rfl)
 intk := some_all (IntKind.i64) rfl (by kernel_rfl)
 conc := yes_all ⟨descOf (Tryz.prog.underlying 2), by kernel_rfl, concrete (by kernel_rfl)⟩
def ti3 : TI := { size := some 1, agg := some false, rs := some (.one (.leaf (.int .i64))), zero := some (Value.int .i64 0), intk := some .i64, conc := true }
theorem ti3_ok : TIok Tryz.prog 3 ti3 where
 zero := some_all (Value.int .i64 0) rfl (by kernel_rfl)
 intk := some_all (IntKind.i64) rfl (by kernel_rfl)
 conc := yes_all ⟨descOf (Tryz.prog.underlying 3), by kernel_rfl, concrete (by kernel_rfl)⟩
def ti4 : TI := { size := some 1, agg := some false, rs := some (.one (.leaf (.bool))), zero := some (Value.bool false), conc := true, isBool := true }
theorem ti4_ok : TIok Tryz.prog 4 ti4 where
 zero := some_all (Value.bool false) rfl (by kernel_rfl)
 conc := yes_all ⟨descOf (Tryz.prog.underlying 4), by kernel_rfl, concrete (by kernel_rfl)⟩
 isBool := yes_all (by kernel_rfl)
def ti5 : TI := { size := some 1, agg := some false, rs := some (.one (.leaf (.int .u8))), zero := some (Value.int .u8 0), intk := some .u8, conc := true }
theorem ti5_ok : TIok Tryz.prog 5 ti5 where
 zero := some_all (Value.int .u8 0) rfl (by kernel_rfl)
 intk := some_all (IntKind.u8) rfl (by kernel_rfl)
 conc := yes_all ⟨descOf (Tryz.prog.underlying 5), by kernel_rfl, concrete (by kernel_rfl)⟩
def ti9 : TI := { size := some 1, agg := some false, rs := some (.one (.leaf (.str))), zero := some (Value.string ⟨#[]⟩), isStr := true, conc := true }
theorem ti9_ok : TIok Tryz.prog 9 ti9 where
 zero := some_all (Value.string ⟨#[]⟩) rfl (by kernel_rfl)
 isStr := yes_all (by kernel_rfl)
 conc := yes_all ⟨descOf (Tryz.prog.underlying 9), by kernel_rfl, concrete (by kernel_rfl)⟩
def ti22 : TI := { size := some 1, agg := some false, rs := some (.one (.leaf (.slice))), zero := some (Value.slice none 0 0), slc := some (245, 1), conc := true, isSlc := true }
theorem ti22_ok : TIok Tryz.prog 22 ti22 where
 zero := some_all (Value.slice none 0 0) rfl (by kernel_rfl)
 slc := some_all2 245 1 rfl ⟨by kernel_rfl, by kernel_rfl⟩
 conc := yes_all ⟨descOf (Tryz.prog.underlying 22), by kernel_rfl, concrete (by kernel_rfl)⟩
 isSlc := yes_all ⟨245, by kernel_rfl⟩
def ti23 : TI := { size := some 1, agg := some false, rs := some (.one (.leaf (.slice))), zero := some (Value.slice none 0 0), slc := some (158, 3), conc := true, isSlc := true }
theorem ti23_ok : TIok Tryz.prog 23 ti23 where
 zero := some_all (Value.slice none 0 0) rfl (by kernel_rfl)
 slc := some_all2 158 3 rfl ⟨by kernel_rfl, by kernel_rfl⟩
 conc := yes_all ⟨descOf (Tryz.prog.underlying 23), by kernel_rfl, concrete (by kernel_rfl)⟩
 isSlc := yes_all ⟨158, by kernel_rfl⟩
def ti24 : TI := { size := some 1, agg := some false, rs := some (.one (.leaf (.slice))), zero := some (Value.slice none 0 0), slc := some (159, 2), conc := true, isSlc := true }
theorem ti24_ok : TIok Tryz.prog 24 ti24 where
 zero := some_all (Value.slice none 0 0) rfl (by kernel_rfl)
 slc := some_all2 159 2 rfl ⟨by kernel_rfl, by kernel_rfl⟩
 conc := yes_all ⟨descOf (Tryz.prog.underlying 24), by kernel_rfl, concrete (by kernel_rfl)⟩
 isSlc := yes_all ⟨159, by kernel_rfl⟩
def ti25 : TI := { size := some 1, agg := some false, rs := some (.one (.leaf (.slice))), zero := some (Value.slice none 0 0), slc := some (105, 2), conc := true, isSlc := true }
theorem ti25_ok : TIok Tryz.prog 25 ti25 where
 zero := some_all (Value.slice none 0 0) rfl (by kernel_rfl)
 slc := some_all2 105 2 rfl ⟨by kernel_rfl, by kernel_rfl⟩
 conc := yes_all ⟨descOf (Tryz.prog.underlying 25), by kernel_rfl, concrete (by kernel_rfl)⟩
 isSlc := yes_all ⟨105, by kernel_rfl⟩
def ti27 : TI := { size := some 4, agg := some true, rs := some (.one (.agg [.slice, .slice, .slice, .slice])), zero := some (Value.agg #[Value.slice none 0 0, Value.slice none 0 0, Value.slice none 0 0, Value.slice none 0 0]), offs := some [(0, 0, false), (1, 0, false), (2, 0, false), (3, 0, false)], conc := true }
theorem ti27_ok : TIok Tryz.prog 27 ti27 where
 size := some_all (4) rfl (by kernel_rfl)
 agg := some_all (true) rfl (by kernel_rfl)
 zero := some_all (Value.agg #[Value.slice none 0 0, Value.slice none 0 0, Value.slice none 0 0, Value.slice none 0 0]) rfl (by kernel_rfl)
 offs := some_all [(0, 0, false), (1, 0, false), (2, 0, false), (3, 0, false)] rfl ⟨structOf (Tryz.prog.underlying 27), by kernel_rfl, by kernel_rfl⟩
 conc := yes_all ⟨descOf (Tryz.prog.underlying 27), by kernel_rfl, concrete (by kernel_rfl)⟩
def ti28 : TI := { size := some 1, agg := some false, rs := some (.one (.leaf (.slice))), zero := some (Value.slice none 0 0), slc := some (3, 1), conc := true, isSlc := true }
theorem ti28_ok : TIok Tryz.prog 28 ti28 where
 zero := some_all (Value.slice none 0 0) rfl (by kernel_rfl)
 slc := some_all2 3 1 rfl ⟨by kernel_rfl, by kernel_rfl⟩
 conc := yes_all ⟨descOf (Tryz.prog.underlying 28), by kernel_rfl, concrete (by kernel_rfl)⟩
 isSlc := yes_all ⟨3, by kernel_rfl⟩
def ti31 : TI := { size := some 1, agg := some false, rs := some (.one (.leaf (.ptr))), zero := some (Value.pointer none), conc := true, isPtr := true }
theorem ti31_ok : TIok Tryz.prog 31 ti31 where
 zero := some_all (Value.pointer none) rfl (by kernel_rfl)
 conc := yes_all ⟨descOf (Tryz.prog.underlying 31), by kernel_rfl, concrete (by kernel_rfl)⟩
 isPtr := yes_all ⟨201, by kernel_rfl⟩
def ti32 : TI := { size := some 1, agg := some false, rs := some (.one (.leaf (.slice))), zero := some (Value.slice none 0 0), slc := some (9, 1), conc := true, isSlc := true }
theorem ti32_ok : TIok Tryz.prog 32 ti32 where
 zero := some_all (Value.slice none 0 0) rfl (by kernel_rfl)
 slc := some_all2 9 1 rfl ⟨by kernel_rfl, by kernel_rfl⟩
 conc := yes_all ⟨descOf (Tryz.prog.underlying 32), by kernel_rfl, concrete (by kernel_rfl)⟩
 isSlc := yes_all ⟨9, by kernel_rfl⟩
def ti33 : TI := { size := some 1, agg := some false, rs := some (.one (.leaf (.slice))), zero := some (Value.slice none 0 0), slc := some (89, 2), conc := true, isSlc := true }
theorem ti33_ok : TIok Tryz.prog 33 ti33 where
 zero := some_all (Value.slice none 0 0) rfl (by kernel_rfl)
 slc := some_all2 89 2 rfl ⟨by kernel_rfl, by kernel_rfl⟩
 conc := yes_all ⟨descOf (Tryz.prog.underlying 33), by kernel_rfl, concrete (by kernel_rfl)⟩
 isSlc := yes_all ⟨89, by kernel_rfl⟩
def ti35 : TI := { size := some 2, agg := some true, rs := some (.one (.agg [.slice, .slice])), zero := some (Value.agg #[Value.slice none 0 0, Value.slice none 0 0]), offs := some [(0, 0, false), (1, 0, false)], conc := true }
theorem ti35_ok : TIok Tryz.prog 35 ti35 where
 size := some_all (2) rfl (by kernel_rfl)
 agg := some_all (true) rfl (by kernel_rfl)
 zero := some_all (Value.agg #[Value.slice none 0 0, Value.slice none 0 0]) rfl (by kernel_rfl)
 offs := some_all [(0, 0, false), (1, 0, false)] rfl ⟨structOf (Tryz.prog.underlying 35), by kernel_rfl, by kernel_rfl⟩
 conc := yes_all ⟨descOf (Tryz.prog.underlying 35), by kernel_rfl, concrete (by kernel_rfl)⟩
def ti37 : TI := { size := some 2, agg := some true, rs := some (.one (.agg [.slice, .slice])), zero := some (Value.agg #[Value.slice none 0 0, Value.slice none 0 0]), offs := some [(0, 0, false), (1, 0, false)], conc := true }
theorem ti37_ok : TIok Tryz.prog 37 ti37 where
 size := some_all (2) rfl (by kernel_rfl)
 agg := some_all (true) rfl (by kernel_rfl)
 zero := some_all (Value.agg #[Value.slice none 0 0, Value.slice none 0 0]) rfl (by kernel_rfl)
 offs := some_all [(0, 0, false), (1, 0, false)] rfl ⟨structOf (Tryz.prog.underlying 37), by kernel_rfl, by kernel_rfl⟩
 conc := yes_all ⟨descOf (Tryz.prog.underlying 37), by kernel_rfl, concrete (by kernel_rfl)⟩
def ti39 : TI := { size := some 5, agg := some true, rs := some (.one (.agg [.slice, .slice, .slice, .slice, .slice])), zero := some (Value.agg #[Value.slice none 0 0, Value.slice none 0 0, Value.slice none 0 0, Value.slice none 0 0, Value.slice none 0 0]), offs := some [(0, 1, true), (2, 1, true), (4, 0, false)], conc := true }
theorem ti39_ok : TIok Tryz.prog 39 ti39 where
 size := some_all (5) rfl (by kernel_rfl)
 agg := some_all (true) rfl (by kernel_rfl)
 zero := some_all (Value.agg #[Value.slice none 0 0, Value.slice none 0 0, Value.slice none 0 0, Value.slice none 0 0, Value.slice none 0 0]) rfl (by kernel_rfl)
 offs := some_all [(0, 1, true), (2, 1, true), (4, 0, false)] rfl ⟨structOf (Tryz.prog.underlying 39), by kernel_rfl, by kernel_rfl⟩
 conc := yes_all ⟨descOf (Tryz.prog.underlying 39), by kernel_rfl, concrete (by kernel_rfl)⟩
def ti40 : TI := { rs := some (.tup [.leaf (.ptr), .agg [.slice, .slice, .slice, .slice, .slice]]) }
theorem ti40_ok : TIok Tryz.prog 40 ti40 where
def ti42 : TI := { size := some 1, agg := some false, rs := some (.one (.leaf (.int .i64))), zero := some (Value.int .i64 0), intk := some .i64, conc := true }
theorem ti42_ok : TIok Tryz.prog 42 ti42 where
 zero := some_all (Value.int .i64 0) rfl (by kernel_rfl)
 intk := some_all (IntKind.i64) rfl (by kernel_rfl)
 conc := yes_all ⟨descOf (Tryz.prog.underlying 42), by kernel_rfl, concrete (by kernel_rfl)⟩
def ti43 : TI := { rs := some (.tup [.leaf (.int .i64), .leaf (.int .i64)]) }
theorem ti43_ok : TIok Tryz.prog 43 ti43 where
def ti48 : TI := { size := some 1, agg := some false, rs := some (.one (.leaf (.ptr))), zero := some (Value.pointer none), conc := true, isPtr := true }
theorem ti48_ok : TIok Tryz.prog 48 ti48 where
 zero := some_all (Value.pointer none) rfl (by kernel_rfl)
 conc := yes_all ⟨descOf (Tryz.prog.underlying 48), by kernel_rfl, concrete (by kernel_rfl)⟩
 isPtr := yes_all ⟨122, by kernel_rfl⟩
def ti49 : TI := { size := some 1, agg := some false, rs := some (.one (.leaf (.ptr))), zero := some (Value.pointer none), conc := true, isPtr := true }
theorem ti49_ok : TIok Tryz.prog 49 ti49 where
 zero := some_all (Value.pointer none) rfl (by kernel_rfl)
 conc := yes_all ⟨descOf (Tryz.prog.underlying 49), by kernel_rfl, concrete (by kernel_rfl)⟩
 isPtr := yes_all ⟨128, by kernel_rfl⟩
def ti50 : TI := { rs := some (.tup [.leaf (.ptr), .leaf (.ptr), .agg [.slice, .slice, .slice, .slice, .slice]]) }
theorem ti50_ok : TIok Tryz.prog 50 ti50 where
def ti52 : TI := { rs := some (.tup [.leaf (.slice), .leaf (.int .i64), .leaf (.int .i64)]) }
theorem ti52_ok : TIok Tryz.prog 52 ti52 where
def ti55 : TI := { size := some 1, agg := some false, rs := some (.one (.leaf (.slice))), zero := some (Value.slice none 0 0), slc := some (65, 1), conc := true, isSlc := true }
theorem ti55_ok : TIok Tryz.prog 55 ti55 where
 zero := some_all (Value.slice none 0 0) rfl (by kernel_rfl)
 slc := some_all2 65 1 rfl ⟨by kernel_rfl, by kernel_rfl⟩
 conc := yes_all ⟨descOf (Tryz.prog.underlying 55), by kernel_rfl, concrete (by kernel_rfl)⟩
 isSlc := yes_all ⟨65, by kernel_rfl⟩
def ti56 : TI := { rs := some (.tup [.leaf (.slice), .leaf (.int .i64), .leaf (.int .i64)]) }
theorem ti56_ok : TIok Tryz.prog 56 ti56 where
def ti59 : TI := { rs := some (.tup [.leaf (.int .i64), .leaf (.bool)]) }
theorem ti59_ok : TIok Tryz.prog 59 ti59 where
def ti61 : TI := { size := some 1, agg := some false, rs := some (.one (.leaf (.any))), zero := some (Value.nilFunc), conc := true }
theorem ti61_ok : TIok Tryz.prog 61 ti61 where
 zero := some_all (Value.nilFunc) rfl (by kernel_rfl)
 conc := yes_all ⟨descOf (Tryz.prog.underlying 61), by kernel_rfl, concrete (by kernel_rfl)⟩
def ti65 : TI := { size := some 1, agg := some false, rs := some (.one (.leaf (.int .u64))), zero := some (Value.int .u64 0), intk := some .u64, conc := true }
theorem ti65_ok : TIok Tryz.prog 65 ti65 where
 zero := some_all (Value.int .u64 0) rfl (by kernel_rfl)
 intk := some_all (IntKind.u64) rfl (by kernel_rfl)
 conc := yes_all ⟨descOf (Tryz.prog.underlying 65), by kernel_rfl, concrete (by kernel_rfl)⟩
def ti66 : TI := { size := some 1, agg := some false, rs := some (.one (.leaf (.int .u64))), zero := some (Value.int .u64 0), intk := some .u64, conc := true }
theorem ti66_ok : TIok Tryz.prog 66 ti66 where
 zero := some_all (Value.int .u64 0) rfl (by kernel_rfl)
 intk := some_all (IntKind.u64) rfl (by kernel_rfl)
 conc := yes_all ⟨descOf (Tryz.prog.underlying 66), by kernel_rfl, concrete (by kernel_rfl)⟩
def ti69 : TI := { size := some 1, agg := some false, rs := some (.one (.leaf (.slice))), zero := some (Value.slice none 0 0), slc := some (74, 2), conc := true, isSlc := true }
theorem ti69_ok : TIok Tryz.prog 69 ti69 where
 zero := some_all (Value.slice none 0 0) rfl (by kernel_rfl)
 slc := some_all2 74 2 rfl ⟨by kernel_rfl, by kernel_rfl⟩
 conc := yes_all ⟨descOf (Tryz.prog.underlying 69), by kernel_rfl, concrete (by kernel_rfl)⟩
 isSlc := yes_all ⟨74, by kernel_rfl⟩
def ti70 : TI := { rs := some (.tup [.leaf (.slice), .leaf (.int .i64), .leaf (.int .i64)]) }
theorem ti70_ok : TIok Tryz.prog 70 ti70 where
def ti74 : TI := { size := some 2, agg := some true, rs := some (.one (.agg [.int .i64, .int .i64])), zero := some (Value.agg #[Value.int .i64 0, Value.int .i64 0]), offs := some [(0, 0, false), (1, 0, false)], eqs := some [.i, .i], conc := true }
theorem ti74_ok : TIok Tryz.prog 74 ti74 where
 size := some_all (2) rfl (by kernel_rfl)
 agg := some_all (true) rfl (by kernel_rfl)
 zero := some_all (Value.agg #[Value.int .i64 0, Value.int .i64 0]) rfl (by kernel_rfl)
 offs := some_all [(0, 0, false), (1, 0, false)] rfl ⟨structOf (Tryz.prog.underlying 74), by kernel_rfl, by kernel_rfl⟩
 conc := yes_all ⟨descOf (Tryz.prog.underlying 74), by kernel_rfl, concrete (by kernel_rfl)⟩
 eqs := some_all [.i, .i] rfl (by kernel_rfl)
def ti79 : TI := { rs := some (.tup [.leaf (.slice), .leaf (.int .i64)]) }
theorem ti79_ok : TIok Tryz.prog 79 ti79 where
def ti87 : TI := { size := some 6, agg := some true, rs := some (.one (.agg [.bool, .slice, .slice, .slice, .slice, .slice])), zero := some (Value.agg #[Value.bool false, Value.slice none 0 0, Value.slice none 0 0, Value.slice none 0 0, Value.slice none 0 0, Value.slice none 0 0]), offs := some [(0, 0, false), (1, 0, false), (2, 0, false), (3, 0, false), (4, 0, false), (5, 0, false)], conc := true }
theorem ti87_ok : TIok Tryz.prog 87 ti87 where
 size := some_all (6) rfl (by kernel_rfl)
 agg := some_all (true) rfl (by kernel_rfl)
 zero := some_all (Value.agg #[Value.bool false, Value.slice none 0 0, Value.slice none 0 0, Value.slice none 0 0, Value.slice none 0 0, Value.slice none 0 0]) rfl (by kernel_rfl)
 offs := some_all [(0, 0, false), (1, 0, false), (2, 0, false), (3, 0, false), (4, 0, false), (5, 0, false)] rfl ⟨structOf (Tryz.prog.underlying 87), by kernel_rfl, by kernel_rfl⟩
 conc := yes_all ⟨descOf (Tryz.prog.underlying 87), by kernel_rfl, concrete (by kernel_rfl)⟩
def ti89 : TI := { size := some 2, agg := some true, rs := some (.one (.agg [.int .i64, .int .i64])), zero := some (Value.agg #[Value.int .i64 0, Value.int .i64 0]), offs := some [(0, 0, false), (1, 0, false)], eqs := some [.i, .i], conc := true }
theorem ti89_ok : TIok Tryz.prog 89 ti89 where
 size := some_all (2) rfl (by kernel_rfl)
 agg := some_all (true) rfl (by kernel_rfl)
 zero := some_all (Value.agg #[Value.int .i64 0, Value.int .i64 0]) rfl (by kernel_rfl)
 offs := some_all [(0, 0, false), (1, 0, false)] rfl ⟨structOf (Tryz.prog.underlying 89), by kernel_rfl, by kernel_rfl⟩
 conc := yes_all ⟨descOf (Tryz.prog.underlying 89), by kernel_rfl, concrete (by kernel_rfl)⟩
 eqs := some_all [.i, .i] rfl (by kernel_rfl)
def ti90 : TI := { rs := some (.tup [.leaf (.ptr), .leaf (.int .i64), .leaf (.int .i64)]) }
theorem ti90_ok : TIok Tryz.prog 90 ti90 where
def ti92 : TI := { rs := some (.tup [.leaf (.slice), .leaf (.int .i64)]) }
theorem ti92_ok : TIok Tryz.prog 92 ti92 where
def ti99 : TI := { rs := some (.tup [.leaf (.slice), .leaf (.str), .leaf (.int .i64)]) }
theorem ti99_ok : TIok Tryz.prog 99 ti99 where
def ti105 : TI := { size := some 2, agg := some true, rs := some (.one (.agg [.int .i64, .str])), zero := some (Value.agg #[Value.int .i64 0, Value.string ⟨#[]⟩]), offs := some [(0, 0, false), (1, 0, false)], eqs := some [.i, .s], conc := true }
theorem ti105_ok : TIok Tryz.prog 105 ti105 where
 size := some_all (2) rfl (by kernel_rfl)
 agg := some_all (true) rfl (by kernel_rfl)
 zero := some_all (Value.agg #[Value.int .i64 0, Value.string ⟨#[]⟩]) rfl (by kernel_rfl)
 offs := some_all [(0, 0, false), (1, 0, false)] rfl ⟨structOf (Tryz.prog.underlying 105), by kernel_rfl, by kernel_rfl⟩
 conc := yes_all ⟨descOf (Tryz.prog.underlying 105), by kernel_rfl, concrete (by kernel_rfl)⟩
 eqs := some_all [.i, .s] rfl (by kernel_rfl)
def ti106 : TI := { rs := some (.tup [.leaf (.ptr), .leaf (.int .i64)]) }
theorem ti106_ok : TIok Tryz.prog 106 ti106 where
def ti108 : TI := { rs := some (.tup [.leaf (.ptr), .leaf (.int .i64)]) }
theorem ti108_ok : TIok Tryz.prog 108 ti108 where
def ti116 : TI := { size := some 1, agg := some true, rs := some (.one (.agg [.ptr])), zero := some (Value.agg #[Value.pointer none]), offs := some [(0, 0, false)], conc := true }
theorem ti116_ok : TIok Tryz.prog 116 ti116 where
 agg := some_all (true) rfl (by kernel_rfl)
 zero := some_all (Value.agg #[Value.pointer none]) rfl (by kernel_rfl)
 offs := some_all [(0, 0, false)] rfl ⟨structOf (Tryz.prog.underlying 116), by kernel_rfl, by kernel_rfl⟩
 conc := yes_all ⟨descOf (Tryz.prog.underlying 116), by kernel_rfl, concrete (by kernel_rfl)⟩
def ti117 : TI := { size := some 1, agg := some true, rs := some (.one (.agg [.ptr])), zero := some (Value.agg #[Value.pointer none]), offs := some [(0, 0, false)], conc := true }
theorem ti117_ok : TIok Tryz.prog 117 ti117 where
 agg := some_all (true) rfl (by kernel_rfl)
 zero := some_all (Value.agg #[Value.pointer none]) rfl (by kernel_rfl)
 offs := some_all [(0, 0, false)] rfl ⟨structOf (Tryz.prog.underlying 117), by kernel_rfl, by kernel_rfl⟩
 conc := yes_all ⟨descOf (Tryz.prog.underlying 117), by kernel_rfl, concrete (by kernel_rfl)⟩
def ti120 : TI := { size := some 1, agg := some false, rs := some (.one (.leaf (.ptr))), zero := some (Value.pointer none), conc := true, isPtr := true }
theorem ti120_ok : TIok Tryz.prog 120 ti120 where
 zero := some_all (Value.pointer none) rfl (by kernel_rfl)
 conc := yes_all ⟨descOf (Tryz.prog.underlying 120), by kernel_rfl, concrete (by kernel_rfl)⟩
 isPtr := yes_all ⟨241, by kernel_rfl⟩
def ti122 : TI := { size := some 3, agg := some true, rs := some (.one (.agg [.ptr, .ptr, .ptr])), zero := some (Value.agg #[Value.pointer none, Value.pointer none, Value.pointer none]), offs := some [(0, 0, false), (1, 0, false), (2, 0, false)], conc := true }
theorem ti122_ok : TIok Tryz.prog 122 ti122 where
 size := some_all (3) rfl (by kernel_rfl)
 agg := some_all (true) rfl (by kernel_rfl)
 zero := some_all (Value.agg #[Value.pointer none, Value.pointer none, Value.pointer none]) rfl (by kernel_rfl)
 offs := some_all [(0, 0, false), (1, 0, false), (2, 0, false)] rfl ⟨structOf (Tryz.prog.underlying 122), by kernel_rfl, by kernel_rfl⟩
 conc := yes_all ⟨descOf (Tryz.prog.underlying 122), by kernel_rfl, concrete (by kernel_rfl)⟩
def ti124 : TI := { size := some 1, agg := some false, rs := some (.one (.leaf (.map))), zero := some (Value.map none), elemSh := some (.leaf (.int .i64)), conc := true, isMap := true }
theorem ti124_ok : TIok Tryz.prog 124 ti124 where
 zero := some_all (Value.map none) rfl (by kernel_rfl)
 conc := yes_all ⟨descOf (Tryz.prog.underlying 124), by kernel_rfl, concrete (by kernel_rfl)⟩
 isMap := yes_all ⟨3, 3, by kernel_rfl⟩
def ti125 : TI := { size := some 1, agg := some false, rs := some (.one (.leaf (.slice))), zero := some (Value.slice none 0 0), slc := some (126, 1), conc := true, isSlc := true }
theorem ti125_ok : TIok Tryz.prog 125 ti125 where
 zero := some_all (Value.slice none 0 0) rfl (by kernel_rfl)
 slc := some_all2 126 1 rfl ⟨by kernel_rfl, by kernel_rfl⟩
 conc := yes_all ⟨descOf (Tryz.prog.underlying 125), by kernel_rfl, concrete (by kernel_rfl)⟩
 isSlc := yes_all ⟨126, by kernel_rfl⟩
def ti126 : TI := { size := some 1, agg := some false, rs := some (.one (.leaf (.slice))), zero := some (Value.slice none 0 0), slc := some (65, 1), conc := true, isSlc := true }
theorem ti126_ok : TIok Tryz.prog 126 ti126 where
 zero := some_all (Value.slice none 0 0) rfl (by kernel_rfl)
 slc := some_all2 65 1 rfl ⟨by kernel_rfl, by kernel_rfl⟩
 conc := yes_all ⟨descOf (Tryz.prog.underlying 126), by kernel_rfl, concrete (by kernel_rfl)⟩
 isSlc := yes_all ⟨65, by kernel_rfl⟩
def ti128 : TI := { size := some 4, agg := some true, rs := some (.one (.agg [.slice, .map, .slice, .slice])), zero := some (Value.agg #[Value.slice none 0 0, Value.map none, Value.slice none 0 0, Value.slice none 0 0]), offs := some [(0, 0, false), (1, 0, false), (2, 0, false), (3, 0, false)], conc := true }
theorem ti128_ok : TIok Tryz.prog 128 ti128 where
 size := some_all (4) rfl (by kernel_rfl)
 agg := some_all (true) rfl (by kernel_rfl)
 zero := some_all (Value.agg #[Value.slice none 0 0, Value.map none, Value.slice none 0 0, Value.slice none 0 0]) rfl (by kernel_rfl)
 offs := some_all [(0, 0, false), (1, 0, false), (2, 0, false), (3, 0, false)] rfl ⟨structOf (Tryz.prog.underlying 128), by kernel_rfl, by kernel_rfl⟩
 conc := yes_all ⟨descOf (Tryz.prog.underlying 128), by kernel_rfl, concrete (by kernel_rfl)⟩
def ti130 : TI := { size := some 1, agg := some false, rs := some (.one (.leaf (.ptr))), zero := some (Value.pointer none), conc := true, isPtr := true }
theorem ti130_ok : TIok Tryz.prog 130 ti130 where
 zero := some_all (Value.pointer none) rfl (by kernel_rfl)
 conc := yes_all ⟨descOf (Tryz.prog.underlying 130), by kernel_rfl, concrete (by kernel_rfl)⟩
 isPtr := yes_all ⟨175, by kernel_rfl⟩
def ti131 : TI := { rs := some (.tup [.leaf (.ptr), .leaf (.int .i64), .leaf (.int .i64)]) }
theorem ti131_ok : TIok Tryz.prog 131 ti131 where
def ti134 : TI := { size := some 1, agg := some false, rs := some (.one (.leaf (.slice))), zero := some (Value.slice none 0 0), slc := some (5, 1), conc := true, isSlc := true }
theorem ti134_ok : TIok Tryz.prog 134 ti134 where
 zero := some_all (Value.slice none 0 0) rfl (by kernel_rfl)
 slc := some_all2 5 1 rfl ⟨by kernel_rfl, by kernel_rfl⟩
 conc := yes_all ⟨descOf (Tryz.prog.underlying 134), by kernel_rfl, concrete (by kernel_rfl)⟩
 isSlc := yes_all ⟨5, by kernel_rfl⟩
def ti137 : TI := { size := some 1, agg := some false, rs := some (.one (.leaf (.ptr))), zero := some (Value.pointer none), conc := true, isPtr := true }
theorem ti137_ok : TIok Tryz.prog 137 ti137 where
 zero := some_all (Value.pointer none) rfl (by kernel_rfl)
 conc := yes_all ⟨descOf (Tryz.prog.underlying 137), by kernel_rfl, concrete (by kernel_rfl)⟩
 isPtr := yes_all ⟨206, by kernel_rfl⟩
def ti143 : TI := { rs := some (.tup [.leaf (.ptr), .leaf (.int .i64), .leaf (.int .i64), .leaf (.int .i64)]) }
theorem ti143_ok : TIok Tryz.prog 143 ti143 where
def ti145 : TI := { size := some 1, agg := some false, rs := some (.one (.leaf (.ptr))), zero := some (Value.pointer none), conc := true, isPtr := true }
theorem ti145_ok : TIok Tryz.prog 145 ti145 where
 zero := some_all (Value.pointer none) rfl (by kernel_rfl)
 conc := yes_all ⟨descOf (Tryz.prog.underlying 145), by kernel_rfl, concrete (by kernel_rfl)⟩
 isPtr := yes_all ⟨253, by kernel_rfl⟩
def ti149 : TI := { rs := some (.tup [.leaf (.int .i64), .leaf (.str), .leaf (.bool)]) }
theorem ti149_ok : TIok Tryz.prog 149 ti149 where
def ti158 : TI := { size := some 3, agg := some true, rs := some (.one (.agg [.int .i64, .int .i64, .int .i64])), zero := some (Value.agg #[Value.int .i64 0, Value.int .i64 0, Value.int .i64 0]), offs := some [(0, 0, false), (1, 0, false), (2, 0, false)], eqs := some [.i, .i, .i], conc := true }
theorem ti158_ok : TIok Tryz.prog 158 ti158 where
 size := some_all (3) rfl (by kernel_rfl)
 agg := some_all (true) rfl (by kernel_rfl)
 zero := some_all (Value.agg #[Value.int .i64 0, Value.int .i64 0, Value.int .i64 0]) rfl (by kernel_rfl)
 offs := some_all [(0, 0, false), (1, 0, false), (2, 0, false)] rfl ⟨structOf (Tryz.prog.underlying 158), by kernel_rfl, by kernel_rfl⟩
 conc := yes_all ⟨descOf (Tryz.prog.underlying 158), by kernel_rfl, concrete (by kernel_rfl)⟩
 eqs := some_all [.i, .i, .i] rfl (by kernel_rfl)
def ti159 : TI := { size := some 2, agg := some true, rs := some (.one (.agg [.int .i64, .int .i64])), zero := some (Value.agg #[Value.int .i64 0, Value.int .i64 0]), offs := some [(0, 0, false), (1, 0, false)], eqs := some [.i, .i], conc := true }
theorem ti159_ok : TIok Tryz.prog 159 ti159 where
 size := some_all (2) rfl (by kernel_rfl)
 agg := some_all (true) rfl (by kernel_rfl)
 zero := some_all (Value.agg #[Value.int .i64 0, Value.int .i64 0]) rfl (by kernel_rfl)
 offs := some_all [(0, 0, false), (1, 0, false)] rfl ⟨structOf (Tryz.prog.underlying 159), by kernel_rfl, by kernel_rfl⟩
 conc := yes_all ⟨descOf (Tryz.prog.underlying 159), by kernel_rfl, concrete (by kernel_rfl)⟩
 eqs := some_all [.i, .i] rfl (by kernel_rfl)
def ti160 : TI := { rs := some (.tup [.leaf (.int .i64), .leaf (.int .i64)]) }
theorem ti160_ok : TIok Tryz.prog 160 ti160 where
def ti162 : TI := { rs := some (.tup [.agg [.slice, .slice, .slice, .slice, .slice], .leaf (.int .i64), .leaf (.int .i64), .leaf (.int .i64)]) }
theorem ti162_ok : TIok Tryz.prog 162 ti162 where
def ti165 : TI := { size := some 1, agg := some false, rs := some (.one (.leaf (.any))), zero := some (Value.nilIface) }
theorem ti165_ok : TIok Tryz.prog 165 ti165 where
 zero := some_all (Value.nilIface) rfl (by kernel_rfl)
def ti175 : TI := { size := some 3, agg := some true, rs := some (.one (.agg [.ptr, .ptr, .slice])), zero := some (Value.agg #[Value.pointer none, Value.pointer none, Value.slice none 0 0]), offs := some [(0, 0, false), (1, 0, false), (2, 0, false)], conc := true }
theorem ti175_ok : TIok Tryz.prog 175 ti175 where
 size := some_all (3) rfl (by kernel_rfl)
 agg := some_all (true) rfl (by kernel_rfl)
 zero := some_all (Value.agg #[Value.pointer none, Value.pointer none, Value.slice none 0 0]) rfl (by kernel_rfl)
 offs := some_all [(0, 0, false), (1, 0, false), (2, 0, false)] rfl ⟨structOf (Tryz.prog.underlying 175), by kernel_rfl, by kernel_rfl⟩
 conc := yes_all ⟨descOf (Tryz.prog.underlying 175), by kernel_rfl, concrete (by kernel_rfl)⟩
def ti179 : TI := { size := some 1, agg := some false, rs := some (.one (.leaf (.ptr))), zero := some (Value.pointer none), conc := true, isPtr := true }
theorem ti179_ok : TIok Tryz.prog 179 ti179 where
 zero := some_all (Value.pointer none) rfl (by kernel_rfl)
 conc := yes_all ⟨descOf (Tryz.prog.underlying 179), by kernel_rfl, concrete (by kernel_rfl)⟩
 isPtr := yes_all ⟨274, by kernel_rfl⟩
def ti181 : TI := { size := some 9, agg := some true, rs := some (.one (.agg [.bool, .slice, .slice, .slice, .slice, .slice, .ptr, .ptr, .ptr])), zero := some (Value.agg #[Value.bool false, Value.slice none 0 0, Value.slice none 0 0, Value.slice none 0 0, Value.slice none 0 0, Value.slice none 0 0, Value.pointer none, Value.pointer none, Value.pointer none]), offs := some [(0, 5, true), (6, 0, false), (7, 0, false), (8, 0, false)], conc := true }
theorem ti181_ok : TIok Tryz.prog 181 ti181 where
 size := some_all (9) rfl (by kernel_rfl)
 agg := some_all (true) rfl (by kernel_rfl)
 zero := some_all (Value.agg #[Value.bool false, Value.slice none 0 0, Value.slice none 0 0, Value.slice none 0 0, Value.slice none 0 0, Value.slice none 0 0, Value.pointer none, Value.pointer none, Value.pointer none]) rfl (by kernel_rfl)
 offs := some_all [(0, 5, true), (6, 0, false), (7, 0, false), (8, 0, false)] rfl ⟨structOf (Tryz.prog.underlying 181), by kernel_rfl, by kernel_rfl⟩
 conc := yes_all ⟨descOf (Tryz.prog.underlying 181), by kernel_rfl, concrete (by kernel_rfl)⟩
def ti194 : TI := { size := some 1, agg := some false, rs := some (.one (.leaf (.slice))), zero := some (Value.slice none 0 0), slc := some (4, 1), conc := true, isSlc := true }
theorem ti194_ok : TIok Tryz.prog 194 ti194 where
 zero := some_all (Value.slice none 0 0) rfl (by kernel_rfl)
 slc := some_all2 4 1 rfl ⟨by kernel_rfl, by kernel_rfl⟩
 conc := yes_all ⟨descOf (Tryz.prog.underlying 194), by kernel_rfl, concrete (by kernel_rfl)⟩
 isSlc := yes_all ⟨4, by kernel_rfl⟩
def ti196 : TI := { size := some 4, agg := some true, rs := some (.one (.agg [.int .u32, .int .i32, .int .u32, .slice])), zero := some (Value.agg #[Value.int .u32 0, Value.int .i32 0, Value.int .u32 0, Value.slice none 0 0]), offs := some [(0, 2, true), (3, 0, false)], conc := true }
theorem ti196_ok : TIok Tryz.prog 196 ti196 where
 size := some_all (4) rfl (by kernel_rfl)
 agg := some_all (true) rfl (by kernel_rfl)
 zero := some_all (Value.agg #[Value.int .u32 0, Value.int .i32 0, Value.int .u32 0, Value.slice none 0 0]) rfl (by kernel_rfl)
 offs := some_all [(0, 2, true), (3, 0, false)] rfl ⟨structOf (Tryz.prog.underlying 196), by kernel_rfl, by kernel_rfl⟩
 conc := yes_all ⟨descOf (Tryz.prog.underlying 196), by kernel_rfl, concrete (by kernel_rfl)⟩
def ti201 : TI := { size := some 14, agg := some true, rs := some (.one (.agg [.bool, .slice, .slice, .slice, .slice, .slice, .ptr, .ptr, .ptr, .int .u32, .int .i32, .int .u32, .slice, .int .i64])), zero := some (Value.agg #[Value.bool false, Value.slice none 0 0, Value.slice none 0 0, Value.slice none 0 0, Value.slice none 0 0, Value.slice none 0 0, Value.pointer none, Value.pointer none, Value.pointer none, Value.int .u32 0, Value.int .i32 0, Value.int .u32 0, Value.slice none 0 0, Value.int .i64 0]), offs := some [(0, 8, true), (9, 3, true), (13, 0, true)], conc := true }
theorem ti201_ok : TIok Tryz.prog 201 ti201 where
 size := some_all (14) rfl (by kernel_rfl)
 agg := some_all (true) rfl (by kernel_rfl)
 zero := some_all (Value.agg #[Value.bool false, Value.slice none 0 0, Value.slice none 0 0, Value.slice none 0 0, Value.slice none 0 0, Value.slice none 0 0, Value.pointer none, Value.pointer none, Value.pointer none, Value.int .u32 0, Value.int .i32 0, Value.int .u32 0, Value.slice none 0 0, Value.int .i64 0]) rfl (by kernel_rfl)
 offs := some_all [(0, 8, true), (9, 3, true), (13, 0, true)] rfl ⟨structOf (Tryz.prog.underlying 201), by kernel_rfl, by kernel_rfl⟩
 conc := yes_all ⟨descOf (Tryz.prog.underlying 201), by kernel_rfl, concrete (by kernel_rfl)⟩
def ti202 : TI := { size := some 1, agg := some false, rs := some (.one (.leaf (.slice))), zero := some (Value.slice none 0 0), slc := some (283, 3), conc := true, isSlc := true }
theorem ti202_ok : TIok Tryz.prog 202 ti202 where
 zero := some_all (Value.slice none 0 0) rfl (by kernel_rfl)
 slc := some_all2 283 3 rfl ⟨by kernel_rfl, by kernel_rfl⟩
 conc := yes_all ⟨descOf (Tryz.prog.underlying 202), by kernel_rfl, concrete (by kernel_rfl)⟩
 isSlc := yes_all ⟨283, by kernel_rfl⟩
def ti203 : TI := { size := some 1, agg := some false, rs := some (.one (.leaf (.map))), zero := some (Value.map none), elemSh := some (.leaf (.int .i64)), conc := true, isMap := true }
theorem ti203_ok : TIok Tryz.prog 203 ti203 where
 zero := some_all (Value.map none) rfl (by kernel_rfl)
 conc := yes_all ⟨descOf (Tryz.prog.underlying 203), by kernel_rfl, concrete (by kernel_rfl)⟩
 isMap := yes_all ⟨9, 3, by kernel_rfl⟩
def ti204 : TI := { size := some 1, agg := some false, rs := some (.one (.leaf (.map))), zero := some (Value.map none), elemSh := some (.leaf (.int .i64)), conc := true, isMap := true }
theorem ti204_ok : TIok Tryz.prog 204 ti204 where
 zero := some_all (Value.map none) rfl (by kernel_rfl)
 conc := yes_all ⟨descOf (Tryz.prog.underlying 204), by kernel_rfl, concrete (by kernel_rfl)⟩
 isMap := yes_all ⟨89, 3, by kernel_rfl⟩
def ti206 : TI := { size := some 4, agg := some true, rs := some (.one (.agg [.slice, .map, .map, .int .i64])), zero := some (Value.agg #[Value.slice none 0 0, Value.map none, Value.map none, Value.int .i64 0]), offs := some [(0, 0, false), (1, 0, false), (2, 0, false), (3, 0, false)], conc := true }
theorem ti206_ok : TIok Tryz.prog 206 ti206 where
 size := some_all (4) rfl (by kernel_rfl)
 agg := some_all (true) rfl (by kernel_rfl)
 zero := some_all (Value.agg #[Value.slice none 0 0, Value.map none, Value.map none, Value.int .i64 0]) rfl (by kernel_rfl)
 offs := some_all [(0, 0, false), (1, 0, false), (2, 0, false), (3, 0, false)] rfl ⟨structOf (Tryz.prog.underlying 206), by kernel_rfl, by kernel_rfl⟩
 conc := yes_all ⟨descOf (Tryz.prog.underlying 206), by kernel_rfl, concrete (by kernel_rfl)⟩
def ti211 : TI := { size := some 1, agg := some false, rs := some (.one (.leaf (.any))), zero := some (Value.nilFunc), conc := true }
theorem ti211_ok : TIok Tryz.prog 211 ti211 where
 zero := some_all (Value.nilFunc) rfl (by kernel_rfl)
 conc := yes_all ⟨descOf (Tryz.prog.underlying 211), by kernel_rfl, concrete (by kernel_rfl)⟩
def ti213 : TI := { size := some 1, agg := some false, rs := some (.one (.leaf (.any))), zero := some (Value.nilFunc), conc := true }
theorem ti213_ok : TIok Tryz.prog 213 ti213 where
 zero := some_all (Value.nilFunc) rfl (by kernel_rfl)
 conc := yes_all ⟨descOf (Tryz.prog.underlying 213), by kernel_rfl, concrete (by kernel_rfl)⟩
def ti215 : TI := { size := some 1, agg := some false, rs := some (.one (.leaf (.any))), zero := some (Value.nilFunc), conc := true }
theorem ti215_ok : TIok Tryz.prog 215 ti215 where
 zero := some_all (Value.nilFunc) rfl (by kernel_rfl)
 conc := yes_all ⟨descOf (Tryz.prog.underlying 215), by kernel_rfl, concrete (by kernel_rfl)⟩
def ti217 : TI := { size := some 1, agg := some false, rs := some (.one (.leaf (.any))), zero := some (Value.nilFunc), conc := true }
theorem ti217_ok : TIok Tryz.prog 217 ti217 where
 zero := some_all (Value.nilFunc) rfl (by kernel_rfl)
 conc := yes_all ⟨descOf (Tryz.prog.underlying 217), by kernel_rfl, concrete (by kernel_rfl)⟩
def ti219 : TI := { size := some 1, agg := some false, rs := some (.one (.leaf (.any))), zero := some (Value.nilFunc), conc := true }
theorem ti219_ok : TIok Tryz.prog 219 ti219 where
 zero := some_all (Value.nilFunc) rfl (by kernel_rfl)
 conc := yes_all ⟨descOf (Tryz.prog.underlying 219), by kernel_rfl, concrete (by kernel_rfl)⟩
def ti220 : TI := { rs := some (.tup [.leaf (.ptr), .leaf (.int .i64), .leaf (.int .i64)]) }
theorem ti220_ok : TIok Tryz.prog 220 ti220 where
def ti222 : TI := { rs := some (.tup [.leaf (.ptr), .leaf (.int .i64), .leaf (.int .i64)]) }
theorem ti222_ok : TIok Tryz.prog 222 ti222 where
def ti225 : TI := { rs := some (.tup [.leaf (.ptr), .leaf (.int .i64)]) }
theorem ti225_ok : TIok Tryz.prog 225 ti225 where
def ti228 : TI := { rs := some (.tup [.agg [.int .i64, .str], .leaf (.bool)]) }
theorem ti228_ok : TIok Tryz.prog 228 ti228 where
def ti234 : TI := { rs := some (.tup [.leaf (.str), .leaf (.bool)]) }
theorem ti234_ok : TIok Tryz.prog 234 ti234 where
def ti239 : TI := { size := some 1, agg := some false, rs := some (.one (.leaf (.ptr))), zero := some (Value.pointer none), conc := true, isPtr := true }
theorem ti239_ok : TIok Tryz.prog 239 ti239 where
 zero := some_all (Value.pointer none) rfl (by kernel_rfl)
 conc := yes_all ⟨descOf (Tryz.prog.underlying 239), by kernel_rfl, concrete (by kernel_rfl)⟩
 isPtr := yes_all ⟨258, by kernel_rfl⟩
def ti241 : TI := { size := some 2, agg := some true, rs := some (.one (.agg [.ptr, .int .i64])), zero := some (Value.agg #[Value.pointer none, Value.int .i64 0]), offs := some [(0, 0, false), (1, 0, false)], conc := true }
theorem ti241_ok : TIok Tryz.prog 241 ti241 where
 size := some_all (2) rfl (by kernel_rfl)
 agg := some_all (true) rfl (by kernel_rfl)
 zero := some_all (Value.agg #[Value.pointer none, Value.int .i64 0]) rfl (by kernel_rfl)
 offs := some_all [(0, 0, false), (1, 0, false)] rfl ⟨structOf (Tryz.prog.underlying 241), by kernel_rfl, by kernel_rfl⟩
 conc := yes_all ⟨descOf (Tryz.prog.underlying 241), by kernel_rfl, concrete (by kernel_rfl)⟩
def ti245 : TI := { size := some 1, agg := some false, rs := some (.one (.leaf (.int .u16))), zero := some (Value.int .u16 0), intk := some .u16, conc := true }
theorem ti245_ok : TIok Tryz.prog 245 ti245 where
 zero := some_all (Value.int .u16 0) rfl (by kernel_rfl)
 intk := some_all (IntKind.u16) rfl (by kernel_rfl)
 conc := yes_all ⟨descOf (Tryz.prog.underlying 245), by kernel_rfl, concrete (by kernel_rfl)⟩
def ti246 : TI := { rs := some (.tup [.agg [.slice, .slice], .leaf (.int .i64)]) }
theorem ti246_ok : TIok Tryz.prog 246 ti246 where
def ti248 : TI := { rs := some (.tup [.agg [.slice, .slice], .leaf (.int .i64), .leaf (.int .i64)]) }
theorem ti248_ok : TIok Tryz.prog 248 ti248 where
def ti251 : TI := { size := some 256, agg := some true, zero := some (Value.agg (List.toArray (List.replicate 256 (Value.bool false)))), arr := some (256, 1), conc := true }
theorem ti251_ok : TIok Tryz.prog 251 ti251 where
 size := some_all (256) rfl (by kernel_rfl)
 agg := some_all (true) rfl (by kernel_rfl)
 zero := some_all (Value.agg (List.toArray (List.replicate 256 (Value.bool false)))) rfl (by kernel_rfl)
 arr := some_all2 256 1 rfl ⟨4, by kernel_rfl, by kernel_rfl⟩
 conc := yes_all ⟨descOf (Tryz.prog.underlying 251), by kernel_rfl, concrete (by kernel_rfl)⟩
def ti253 : TI := { size := some 260, agg := some true, zero := some (Value.agg (List.toArray ([Value.slice none 0 0, Value.map none, Value.map none] ++ List.replicate 256 (Value.bool false) ++ [Value.int .i64 0]))), offs := some [(0, 0, false), (1, 0, false), (2, 0, false), (3, 255, true), (259, 0, false)], conc := true }
theorem ti253_ok : TIok Tryz.prog 253 ti253 where
 size := some_all (260) rfl (by kernel_rfl)
 agg := some_all (true) rfl (by kernel_rfl)
 zero := some_all (Value.agg (List.toArray ([Value.slice none 0 0, Value.map none, Value.map none] ++ List.replicate 256 (Value.bool false) ++ [Value.int .i64 0]))) rfl (by kernel_rfl)
 offs := some_all [(0, 0, false), (1, 0, false), (2, 0, false), (3, 255, true), (259, 0, false)] rfl ⟨structOf (Tryz.prog.underlying 253), by kernel_rfl, by kernel_rfl⟩
 conc := yes_all ⟨descOf (Tryz.prog.underlying 253), by kernel_rfl, concrete (by kernel_rfl)⟩
def ti256 : TI := { size := some 1, agg := some false, rs := some (.one (.leaf (.map))), zero := some (Value.map none), elemSh := some (.leaf (.ptr)), conc := true, isMap := true }
theorem ti256_ok : TIok Tryz.prog 256 ti256 where
 zero := some_all (Value.map none) rfl (by kernel_rfl)
 conc := yes_all ⟨descOf (Tryz.prog.underlying 256), by kernel_rfl, concrete (by kernel_rfl)⟩
 isMap := yes_all ⟨5, 239, by kernel_rfl⟩
def ti258 : TI := { size := some 2, agg := some true, rs := some (.one (.agg [.map, .int .i64])), zero := some (Value.agg #[Value.map none, Value.int .i64 0]), offs := some [(0, 0, false), (1, 0, false)], conc := true }
theorem ti258_ok : TIok Tryz.prog 258 ti258 where
 size := some_all (2) rfl (by kernel_rfl)
 agg := some_all (true) rfl (by kernel_rfl)
 zero := some_all (Value.agg #[Value.map none, Value.int .i64 0]) rfl (by kernel_rfl)
 offs := some_all [(0, 0, false), (1, 0, false)] rfl ⟨structOf (Tryz.prog.underlying 258), by kernel_rfl, by kernel_rfl⟩
 conc := yes_all ⟨descOf (Tryz.prog.underlying 258), by kernel_rfl, concrete (by kernel_rfl)⟩
def ti270 : TI := { size := some 256, agg := some true, zero := some (Value.agg (List.toArray (List.replicate 256 (Value.int .i64 0)))), arr := some (256, 1), conc := true }
theorem ti270_ok : TIok Tryz.prog 270 ti270 where
 size := some_all (256) rfl (by kernel_rfl)
 agg := some_all (true) rfl (by kernel_rfl)
 zero := some_all (Value.agg (List.toArray (List.replicate 256 (Value.int .i64 0)))) rfl (by kernel_rfl)
 arr := some_all2 256 1 rfl ⟨3, by kernel_rfl, by kernel_rfl⟩
 conc := yes_all ⟨descOf (Tryz.prog.underlying 270), by kernel_rfl, concrete (by kernel_rfl)⟩
def ti271 : TI := { size := some 16, agg := some true, rs := some (.one (.agg [.bool, .bool, .bool, .bool, .bool, .bool, .bool, .bool, .bool, .bool, .bool, .bool, .bool, .bool, .bool, .bool])), zero := some (Value.agg #[Value.bool false, Value.bool false, Value.bool false, Value.bool false, Value.bool false, Value.bool false, Value.bool false, Value.bool false, Value.bool false, Value.bool false, Value.bool false, Value.bool false, Value.bool false, Value.bool false, Value.bool false, Value.bool false]), arr := some (16, 1), conc := true }
theorem ti271_ok : TIok Tryz.prog 271 ti271 where
 size := some_all (16) rfl (by kernel_rfl)
 agg := some_all (true) rfl (by kernel_rfl)
 zero := some_all (Value.agg #[Value.bool false, Value.bool false, Value.bool false, Value.bool false, Value.bool false, Value.bool false, Value.bool false, Value.bool false, Value.bool false, Value.bool false, Value.bool false, Value.bool false, Value.bool false, Value.bool false, Value.bool false, Value.bool false]) rfl (by kernel_rfl)
 arr := some_all2 16 1 rfl ⟨4, by kernel_rfl, by kernel_rfl⟩
 conc := yes_all ⟨descOf (Tryz.prog.underlying 271), by kernel_rfl, concrete (by kernel_rfl)⟩
def ti272 : TI := { size := some 256, agg := some true, zero := some (Value.agg (List.toArray (List.replicate 256 (Value.bool false)))), arr := some (16, 16), conc := true }
theorem ti272_ok : TIok Tryz.prog 272 ti272 where
 size := some_all (256) rfl (by kernel_rfl)
 agg := some_all (true) rfl (by kernel_rfl)
 zero := some_all (Value.agg (List.toArray (List.replicate 256 (Value.bool false)))) rfl (by kernel_rfl)
 arr := some_all2 16 16 rfl ⟨271, by kernel_rfl, by kernel_rfl⟩
 conc := yes_all ⟨descOf (Tryz.prog.underlying 272), by kernel_rfl, concrete (by kernel_rfl)⟩
def ti274 : TI := { size := some 512, agg := some true, zero := some (Value.agg (List.toArray (List.replicate 256 (Value.int .i64 0) ++ List.replicate 256 (Value.bool false)))), offs := some [(0, 255, true), (256, 255, true)], conc := true }
theorem ti274_ok : TIok Tryz.prog 274 ti274 where
 size := some_all (512) rfl (by kernel_rfl)
 agg := some_all (true) rfl (by kernel_rfl)
 zero := some_all (Value.agg (List.toArray (List.replicate 256 (Value.int .i64 0) ++ List.replicate 256 (Value.bool false)))) rfl (by kernel_rfl)
 offs := some_all [(0, 255, true), (256, 255, true)] rfl ⟨structOf (Tryz.prog.underlying 274), by kernel_rfl, by kernel_rfl⟩
 conc := yes_all ⟨descOf (Tryz.prog.underlying 274), by kernel_rfl, concrete (by kernel_rfl)⟩
def ti283 : TI := { size := some 3, agg := some true, rs := some (.one (.agg [.str, .int .i64, .int .i64])), zero := some (Value.agg #[Value.string ⟨#[]⟩, Value.int .i64 0, Value.int .i64 0]), offs := some [(0, 0, false), (1, 1, true)], conc := true }
theorem ti283_ok : TIok Tryz.prog 283 ti283 where
 size := some_all (3) rfl (by kernel_rfl)
 agg := some_all (true) rfl (by kernel_rfl)
 zero := some_all (Value.agg #[Value.string ⟨#[]⟩, Value.int .i64 0, Value.int .i64 0]) rfl (by kernel_rfl)
 offs := some_all [(0, 0, false), (1, 1, true)] rfl ⟨structOf (Tryz.prog.underlying 283), by kernel_rfl, by kernel_rfl⟩
 conc := yes_all ⟨descOf (Tryz.prog.underlying 283), by kernel_rfl, concrete (by kernel_rfl)⟩
def ti291 : TI := { rs := some (.tup [.leaf (.ptr), .leaf (.bool)]) }
theorem ti291_ok : TIok Tryz.prog 291 ti291 where
def ti295 : TI := { size := some 1, agg := some false, rs := some (.one (.leaf (.int .i64))), zero := some (Value.int .i64 0), intk := some .i64, conc := true }
theorem ti295_ok : TIok Tryz.prog 295 ti295 where
 zero := some_all (Value.int .i64 0) rfl (by kernel_rfl)
 intk := some_all (IntKind.i64) rfl (by kernel_rfl)
 conc := yes_all ⟨descOf (Tryz.prog.underlying 295), by kernel_rfl, concrete (by kernel_rfl)⟩
def ti296 : TI := { rs := some (.tup [.leaf (.int .i64), .leaf (.int .i64)]) }
theorem ti296_ok : TIok Tryz.prog 296 ti296 where
def ti303 : TI := { size := some 1, agg := some false, rs := some (.one (.leaf (.any))), zero := some (Value.nilFunc), conc := true }
theorem ti303_ok : TIok Tryz.prog 303 ti303 where
 zero := some_all (Value.nilFunc) rfl (by kernel_rfl)
 conc := yes_all ⟨descOf (Tryz.prog.underlying 303), by kernel_rfl, concrete (by kernel_rfl)⟩
def ti308 : TI := { rs := some (.tup [.agg [.int .i64, .int .i64], .leaf (.bool)]) }
theorem ti308_ok : TIok Tryz.prog 308 ti308 where
def ti319 : TI := { size := some 1, agg := some false, rs := some (.one (.leaf (.ptr))), zero := some (Value.pointer none), conc := true, isPtr := true }
theorem ti319_ok : TIok Tryz.prog 319 ti319 where
 zero := some_all (Value.pointer none) rfl (by kernel_rfl)
 conc := yes_all ⟨descOf (Tryz.prog.underlying 319), by kernel_rfl, concrete (by kernel_rfl)⟩
 isPtr := yes_all ⟨335, by kernel_rfl⟩
def ti325 : TI := { size := some 1, agg := some false, rs := some (.one (.leaf (.ptr))), zero := some (Value.pointer none), conc := true, isPtr := true }
theorem ti325_ok : TIok Tryz.prog 325 ti325 where
 zero := some_all (Value.pointer none) rfl (by kernel_rfl)
 conc := yes_all ⟨descOf (Tryz.prog.underlying 325), by kernel_rfl, concrete (by kernel_rfl)⟩
 isPtr := yes_all ⟨3, by kernel_rfl⟩
def ti330 : TI := { size := some 1, agg := some false, rs := some (.one (.leaf (.ptr))), zero := some (Value.pointer none), conc := true, isPtr := true }
theorem ti330_ok : TIok Tryz.prog 330 ti330 where
 zero := some_all (Value.pointer none) rfl (by kernel_rfl)
 conc := yes_all ⟨descOf (Tryz.prog.underlying 330), by kernel_rfl, concrete (by kernel_rfl)⟩
 isPtr := yes_all ⟨351, by kernel_rfl⟩
def ti333 : TI := { size := some 2, agg := some true, rs := some (.one (.agg [.int .i64, .int .i64])), zero := some (Value.agg #[Value.int .i64 0, Value.int .i64 0]), offs := some [(0, 1, true)], conc := true }
theorem ti333_ok : TIok Tryz.prog 333 ti333 where
 size := some_all (2) rfl (by kernel_rfl)
 agg := some_all (true) rfl (by kernel_rfl)
 zero := some_all (Value.agg #[Value.int .i64 0, Value.int .i64 0]) rfl (by kernel_rfl)
 offs := some_all [(0, 1, true)] rfl ⟨structOf (Tryz.prog.underlying 333), by kernel_rfl, by kernel_rfl⟩
 conc := yes_all ⟨descOf (Tryz.prog.underlying 333), by kernel_rfl, concrete (by kernel_rfl)⟩
def ti335 : TI := { size := some 5, agg := some true, rs := some (.one (.agg [.int .i64, .int .i64, .ptr, .int .i64, .int .i64])), zero := some (Value.agg #[Value.int .i64 0, Value.int .i64 0, Value.pointer none, Value.int .i64 0, Value.int .i64 0]), offs := some [(0, 1, true), (2, 0, false), (3, 0, false), (4, 0, false)], conc := true }
theorem ti335_ok : TIok Tryz.prog 335 ti335 where
 size := some_all (5) rfl (by kernel_rfl)
 agg := some_all (true) rfl (by kernel_rfl)
 zero := some_all (Value.agg #[Value.int .i64 0, Value.int .i64 0, Value.pointer none, Value.int .i64 0, Value.int .i64 0]) rfl (by kernel_rfl)
 offs := some_all [(0, 1, true), (2, 0, false), (3, 0, false), (4, 0, false)] rfl ⟨structOf (Tryz.prog.underlying 335), by kernel_rfl, by kernel_rfl⟩
 conc := yes_all ⟨descOf (Tryz.prog.underlying 335), by kernel_rfl, concrete (by kernel_rfl)⟩
def ti345 : TI := { size := some 1, agg := some false, rs := some (.one (.leaf (.ptr))), zero := some (Value.pointer none), conc := true, isPtr := true }
theorem ti345_ok : TIok Tryz.prog 345 ti345 where
 zero := some_all (Value.pointer none) rfl (by kernel_rfl)
 conc := yes_all ⟨descOf (Tryz.prog.underlying 345), by kernel_rfl, concrete (by kernel_rfl)⟩
 isPtr := yes_all ⟨364, by kernel_rfl⟩
def ti348 : TI := { size := some 3, agg := some true, rs := some (.one (.agg [.int .i64, .int .i64, .int .i64])), zero := some (Value.agg #[Value.int .i64 0, Value.int .i64 0, Value.int .i64 0]), offs := some [(0, 0, false), (1, 1, true)], conc := true }
theorem ti348_ok : TIok Tryz.prog 348 ti348 where
 size := some_all (3) rfl (by kernel_rfl)
 agg := some_all (true) rfl (by kernel_rfl)
 zero := some_all (Value.agg #[Value.int .i64 0, Value.int .i64 0, Value.int .i64 0]) rfl (by kernel_rfl)
 offs := some_all [(0, 0, false), (1, 1, true)] rfl ⟨structOf (Tryz.prog.underlying 348), by kernel_rfl, by kernel_rfl⟩
 conc := yes_all ⟨descOf (Tryz.prog.underlying 348), by kernel_rfl, concrete (by kernel_rfl)⟩
def ti349 : TI := { size := some 1, agg := some false, rs := some (.one (.leaf (.slice))), zero := some (Value.slice none 0 0), slc := some (353, 3), conc := true, isSlc := true }
theorem ti349_ok : TIok Tryz.prog 349 ti349 where
 zero := some_all (Value.slice none 0 0) rfl (by kernel_rfl)
 slc := some_all2 353 3 rfl ⟨by kernel_rfl, by kernel_rfl⟩
 conc := yes_all ⟨descOf (Tryz.prog.underlying 349), by kernel_rfl, concrete (by kernel_rfl)⟩
 isSlc := yes_all ⟨353, by kernel_rfl⟩
def ti351 : TI := { size := some 5, agg := some true, rs := some (.one (.agg [.ptr, .slice, .ptr, .int .i64, .int .i64])), zero := some (Value.agg #[Value.pointer none, Value.slice none 0 0, Value.pointer none, Value.int .i64 0, Value.int .i64 0]), offs := some [(0, 0, false), (1, 0, false), (2, 0, false), (3, 0, false), (4, 0, false)], conc := true }
theorem ti351_ok : TIok Tryz.prog 351 ti351 where
 size := some_all (5) rfl (by kernel_rfl)
 agg := some_all (true) rfl (by kernel_rfl)
 zero := some_all (Value.agg #[Value.pointer none, Value.slice none 0 0, Value.pointer none, Value.int .i64 0, Value.int .i64 0]) rfl (by kernel_rfl)
 offs := some_all [(0, 0, false), (1, 0, false), (2, 0, false), (3, 0, false), (4, 0, false)] rfl ⟨structOf (Tryz.prog.underlying 351), by kernel_rfl, by kernel_rfl⟩
 conc := yes_all ⟨descOf (Tryz.prog.underlying 351), by kernel_rfl, concrete (by kernel_rfl)⟩
def ti353 : TI := { size := some 3, agg := some true, rs := some (.one (.agg [.int .i64, .int .i64, .int .i64])), zero := some (Value.agg #[Value.int .i64 0, Value.int .i64 0, Value.int .i64 0]), offs := some [(0, 0, false), (1, 0, false), (2, 0, false)], eqs := some [.i, .i, .i], conc := true }
theorem ti353_ok : TIok Tryz.prog 353 ti353 where
 size := some_all (3) rfl (by kernel_rfl)
 agg := some_all (true) rfl (by kernel_rfl)
 zero := some_all (Value.agg #[Value.int .i64 0, Value.int .i64 0, Value.int .i64 0]) rfl (by kernel_rfl)
 offs := some_all [(0, 0, false), (1, 0, false), (2, 0, false)] rfl ⟨structOf (Tryz.prog.underlying 353), by kernel_rfl, by kernel_rfl⟩
 conc := yes_all ⟨descOf (Tryz.prog.underlying 353), by kernel_rfl, concrete (by kernel_rfl)⟩
 eqs := some_all [.i, .i, .i] rfl (by kernel_rfl)
def ti354 : TI := { rs := some (.tup [.agg [.int .i64, .int .i64, .int .i64], .leaf (.int .i64), .leaf (.int .i64), .leaf (.bool)]) }
theorem ti354_ok : TIok Tryz.prog 354 ti354 where
def ti362 : TI := { size := some 1, agg := some false, rs := some (.one (.leaf (.slice))), zero := some (Value.slice none 0 0), slc := some (370, 6), conc := true, isSlc := true }
theorem ti362_ok : TIok Tryz.prog 362 ti362 where
 zero := some_all (Value.slice none 0 0) rfl (by kernel_rfl)
 slc := some_all2 370 6 rfl ⟨by kernel_rfl, by kernel_rfl⟩
 conc := yes_all ⟨descOf (Tryz.prog.underlying 362), by kernel_rfl, concrete (by kernel_rfl)⟩
 isSlc := yes_all ⟨370, by kernel_rfl⟩
def ti364 : TI := { size := some 2, agg := some true, rs := some (.one (.agg [.slice, .int .i64])), zero := some (Value.agg #[Value.slice none 0 0, Value.int .i64 0]), offs := some [(0, 0, false), (1, 0, false)], conc := true }
theorem ti364_ok : TIok Tryz.prog 364 ti364 where
 size := some_all (2) rfl (by kernel_rfl)
 agg := some_all (true) rfl (by kernel_rfl)
 zero := some_all (Value.agg #[Value.slice none 0 0, Value.int .i64 0]) rfl (by kernel_rfl)
 offs := some_all [(0, 0, false), (1, 0, false)] rfl ⟨structOf (Tryz.prog.underlying 364), by kernel_rfl, by kernel_rfl⟩
 conc := yes_all ⟨descOf (Tryz.prog.underlying 364), by kernel_rfl, concrete (by kernel_rfl)⟩
def ti368 : TI := { size := some 3, agg := some true, rs := some (.one (.agg [.int .i64, .int .i64, .int .i64])), zero := some (Value.agg #[Value.int .i64 0, Value.int .i64 0, Value.int .i64 0]), offs := some [(0, 0, false), (1, 0, false), (2, 0, false)], eqs := some [.i, .i, .i], conc := true }
theorem ti368_ok : TIok Tryz.prog 368 ti368 where
 size := some_all (3) rfl (by kernel_rfl)
 agg := some_all (true) rfl (by kernel_rfl)
 zero := some_all (Value.agg #[Value.int .i64 0, Value.int .i64 0, Value.int .i64 0]) rfl (by kernel_rfl)
 offs := some_all [(0, 0, false), (1, 0, false), (2, 0, false)] rfl ⟨structOf (Tryz.prog.underlying 368), by kernel_rfl, by kernel_rfl⟩
 conc := yes_all ⟨descOf (Tryz.prog.underlying 368), by kernel_rfl, concrete (by kernel_rfl)⟩
 eqs := some_all [.i, .i, .i] rfl (by kernel_rfl)
def ti370 : TI := { size := some 6, agg := some true, rs := some (.one (.agg [.int .i64, .int .i64, .int .i64, .int .i64, .int .i64, .int .i64])), zero := some (Value.agg #[Value.int .i64 0, Value.int .i64 0, Value.int .i64 0, Value.int .i64 0, Value.int .i64 0, Value.int .i64 0]), offs := some [(0, 2, true), (3, 2, true)], conc := true }
theorem ti370_ok : TIok Tryz.prog 370 ti370 where
 size := some_all (6) rfl (by kernel_rfl)
 agg := some_all (true) rfl (by kernel_rfl)
 zero := some_all (Value.agg #[Value.int .i64 0, Value.int .i64 0, Value.int .i64 0, Value.int .i64 0, Value.int .i64 0, Value.int .i64 0]) rfl (by kernel_rfl)
 offs := some_all [(0, 2, true), (3, 2, true)] rfl ⟨structOf (Tryz.prog.underlying 370), by kernel_rfl, by kernel_rfl⟩
 conc := yes_all ⟨descOf (Tryz.prog.underlying 370), by kernel_rfl, concrete (by kernel_rfl)⟩
def ti371 : TI := { size := some 2, agg := some true, rs := some (.one (.agg [.int .i64, .int .i64])), zero := some (Value.agg #[Value.int .i64 0, Value.int .i64 0]), arr := some (2, 1), conc := true }
theorem ti371_ok : TIok Tryz.prog 371 ti371 where
 size := some_all (2) rfl (by kernel_rfl)
 agg := some_all (true) rfl (by kernel_rfl)
 zero := some_all (Value.agg #[Value.int .i64 0, Value.int .i64 0]) rfl (by kernel_rfl)
 arr := some_all2 2 1 rfl ⟨3, by kernel_rfl, by kernel_rfl⟩
 conc := yes_all ⟨descOf (Tryz.prog.underlying 371), by kernel_rfl, concrete (by kernel_rfl)⟩
def ti387 : TI := { rs := some (.tup [.leaf (.slice), .leaf (.bool)]) }
theorem ti387_ok : TIok Tryz.prog 387 ti387 where
def tab0 : List (Nat × TI) := [(0, ti0), (2, ti2), (3, ti3), (4, ti4), (5, ti5), (9, ti9), (22, ti22), (23, ti23), (24, ti24), (25, ti25), (27, ti27), (28, ti28), (31, ti31), (32, ti32), (33, ti33), (35, ti35), (37, ti37), (39, ti39), (40, ti40), (42, ti42), (43, ti43), (48, ti48), (49, ti49), (50, ti50), (52, ti52)]
theorem tab0_ok : ∀ p ∈ tab0, TIok Tryz.prog p.1 p.2 :=
 tabCons ti0_ok <| tabCons ti2_ok <| tabCons ti3_ok <| tabCons ti4_ok <| tabCons ti5_ok <| tabCons ti9_ok <| tabCons ti22_ok <| tabCons ti23_ok <| tabCons ti24_ok <| tabCons ti25_ok <| tabCons ti27_ok <| tabCons ti28_ok <| tabCons ti31_ok <| tabCons ti32_ok <| tabCons ti33_ok <| tabCons ti35_ok <| tabCons ti37_ok <| tabCons ti39_ok <| tabCons ti40_ok <| tabCons ti42_ok <| tabCons ti43_ok <| tabCons ti48_ok <| tabCons ti49_ok <| tabCons ti50_ok <| tabCons ti52_ok <| tabNil
def tab1 : List (Nat × TI) := [(55, ti55), (56, ti56), (59, ti59), (61, ti61), (65, ti65), (66, ti66), (69, ti69), (70, ti70), (74, ti74), (79, ti79), (87, ti87), (89, ti89), (90, ti90), (92, ti92), (99, ti99), (105, ti105), (106, ti106), (108, ti108), (116, ti116), (117, ti117), (120, ti120), (122, ti122), (124, ti124), (125, ti125), (126, ti126)]
theorem tab1_ok : ∀ p ∈ tab1, TIok Tryz.prog p.1 p.2 :=
 tabCons ti55_ok <| tabCons ti56_ok <| tabCons ti59_ok <| tabCons ti61_ok <| tabCons ti65_ok <| tabCons ti66_ok <| tabCons ti69_ok <| tabCons ti70_ok <| tabCons ti74_ok <| tabCons ti79_ok <| tabCons ti87_ok <| tabCons ti89_ok <| tabCons ti90_ok <| tabCons ti92_ok <| tabCons ti99_ok <| tabCons ti105_ok <| tabCons ti106_ok <| tabCons ti108_ok <| tabCons ti116_ok <| tabCons ti117_ok <| tabCons ti120_ok <| tabCons ti122_ok <| tabCons ti124_ok <| tabCons ti125_ok <| tabCons ti126_ok <| tabNil
def tab2 : List (Nat × TI) := [(128, ti128), (130, ti130), (131, ti131), (134, ti134), (137, ti137), (143, ti143), (145, ti145), (149, ti149), (158, ti158), (159, ti159), (160, ti160), (162, ti162), (165, ti165), (175, ti175), (179, ti179), (181, ti181), (194, ti194), (196, ti196), (201, ti201), (202, ti202), (203, ti203), (204, ti204), (206, ti206), (211, ti211), (213, ti213)]
theorem tab2_ok : ∀ p ∈ tab2, TIok Tryz.prog p.1 p.2 :=
 tabCons ti128_ok <| tabCons ti130_ok <| tabCons ti131_ok <| tabCons ti134_ok <| tabCons ti137_ok <| tabCons ti143_ok <| tabCons ti145_ok <| tabCons ti149_ok <| tabCons ti158_ok <| tabCons ti159_ok <| tabCons ti160_ok <| tabCons ti162_ok <| tabCons ti165_ok <| tabCons ti175_ok <| tabCons ti179_ok <| tabCons ti181_ok <| tabCons ti194_ok <| tabCons ti196_ok <| tabCons ti201_ok <| tabCons ti202_ok <| tabCons ti203_ok <| tabCons ti204_ok <| tabCons ti206_ok <| tabCons ti211_ok <| tabCons ti213_ok <| tabNil
def tab3 : List (Nat × TI) := [(215, ti215), (217, ti217), (219, ti219), (220, ti220), (222, ti222), (225, ti225), (228, ti228), (234, ti234), (239, ti239), (241, ti241), (245, ti245), (246, ti246), (248, ti248), (251, ti251), (253, ti253), (256, ti256), (258, ti258), (270, ti270), (271, ti271), (272, ti272), (274, ti274), (283, ti283), (291, ti291), (295, ti295), (296, ti296)]
theorem tab3_ok : ∀ p ∈ tab3, TIok Tryz.prog p.1 p.2 :=
 tabCons ti215_ok <| tabCons ti217_ok <| tabCons ti219_ok <| tabCons ti220_ok <| tabCons ti222_ok <| tabCons ti225_ok <| tabCons ti228_ok <| tabCons ti234_ok <| tabCons ti239_ok <| tabCons ti241_ok <| tabCons ti245_ok <| tabCons ti246_ok <| tabCons ti248_ok <| tabCons ti251_ok <| tabCons ti253_ok <| tabCons ti256_ok <| tabCons ti258_ok <| tabCons ti270_ok <| tabCons ti271_ok <| tabCons ti272_ok <| tabCons ti274_ok <| tabCons ti283_ok <| tabCons ti291_ok <| tabCons ti295_ok <| tabCons ti296_ok <| tabNil
def tab4 : List (Nat × TI) := [(303, ti303), (308, ti308), (319, ti319), (325, ti325), (330, ti330), (333, ti333), (335, ti335), (345, ti345), (348, ti348), (349, ti349), (351, ti351), (353, ti353), (354, ti354), (362, ti362), (364, ti364), (368, ti368), (370, ti370), (371, ti371), (387, ti387)]
theorem tab4_ok : ∀ p ∈ tab4, TIok Tryz.prog p.1 p.2 :=
 tabCons ti303_ok <| tabCons ti308_ok <| tabCons ti319_ok <| tabCons ti325_ok <| tabCons ti330_ok <| tabCons ti333_ok <| tabCons ti335_ok <| tabCons ti345_ok <| tabCons ti348_ok <| tabCons ti349_ok <| tabCons ti351_ok <| tabCons ti353_ok <| tabCons ti354_ok <| tabCons ti362_ok <| tabCons ti364_ok <| tabCons ti368_ok <| tabCons ti370_ok <| tabCons ti371_ok <| tabCons ti387_ok <| tabNil
def tab : List (Nat × TI) := tab0 ++ tab1 ++ tab2 ++ tab3 ++ tab4
set_option maxRecDepth 100000 in
theorem tab_ok : ∀ p ∈ tab, TIok Tryz.prog p.1 p.2 :=
 tabApp (tabApp (tabApp (tabApp (tab0_ok) tab1_ok) tab2_ok) tab3_ok) tab4_ok
theorem mixed_ok : Tryz.prog.follows .mixedOrders = true := by kernel_rfl
noncomputable def ctx : Ctx := mkCtx Tryz.prog tab
theorem ctxOk : ctx.Ok := mkCtx_ok Tryz.prog tab tab_ok mixed_ok
theorem cden {f : FuncId} {fn : Func} {args : List Value} {w : World} {R : RW} {p : Prop} (hf : Tryz.prog.funcs[f]? = some fn) (hb : fn.body = some (bodyOf fn)) (hn : Nat.ble args.length fn.ntmps = true) (hw : wf ctx fn.ntmps (bodyOf fn) = true) (h : p = denFun ctx (bodyOf fn) fn.results.toList args w R) (hh : p) : Calls Tryz.prog f args.toArray w fun e w' => ∃ v, e = .returned v ∧ R v w' :=
 calls_of_den ctxOk hf hb hn hw (Eq.mp h hh)
end Go.Proofs.YtnmdljikfhafiaaGreat.Eng
