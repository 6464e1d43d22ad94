/- The types that this claim's functions name, as the loaded program has them. -/
import Derived.Test.YtboemnagahmlkaaGreatZjEng
import Derived.Test.YtboemnagahmlkaaGreatProg
import Derived.KernelRfl
set_option linter.unusedVariables false
namespace Go.Proofs.YtboemnagahmlkaaGreat.Eng
open Go
abbrev OA := Option Addr
abbrev KW := List Value → World → Prop
abbrev RW := Value → World → Prop
abbrev CP := Calls Tryz.prog
abbrev CR (k : Nat) (a : Array Value) (w : World) (R : RW) : Prop := CP k a w fun e w' => ∃ v, e = .returned v ∧ R v w'
def ti0 : TI := { rs := some (.tup []) }
theorem ti0_ok : TIok Tryz.prog 0 ti0 where
def ti2 : TI := { size := some 1, agg := some false, rs := some (.one (.leaf (.int .i64))), zero := some (Value.int .i64 0), intk := some .i64, conc := true }
theorem ti2_ok : TIok Tryz.prog 2 ti2 where
 zero := some_all (Value.int .i64 0) rfl (by kernel_rfl)
 intk := some_all (IntKind.i64) rfl (by kernel_rfl)
 conc := yes_all ⟨descOf (Tryz.prog.underlying 2), by kernel_rfl, concrete (by kernel_rfl)⟩
def ti3 : TI := { size := some 1, agg := some false, rs := some (.one (.leaf (.int .i64))), zero := some (Value.int .i64 0), intk := some .i64, conc := true }
theorem ti3_ok : TIok Tryz.prog 3 ti3 where
 zero := some_all (Value.int .i64 0) rfl (by kernel_rfl)
 intk := some_all (IntKind.i64) rfl (by kernel_rfl)
 conc := yes_all ⟨descOf (Tryz.prog.underlying 3), by kernel_rfl, concrete (by kernel_rfl)⟩
def ti4 : TI := { size := some 1, agg := some false, rs := some (.one (.leaf (.bool))), zero := some (Value.bool false), conc := true, isBool := true }
theorem ti4_ok : TIok Tryz.prog 4 ti4 where
 zero := some_all (Value.bool false) rfl (by kernel_rfl)
 conc := yes_all ⟨descOf (Tryz.prog.underlying 4), by kernel_rfl, concrete (by kernel_rfl)⟩
 isBool := yes_all (by kernel_rfl)
def ti5 : TI := { size := some 1, agg := some false, rs := some (.one (.leaf (.int .u8))), zero := some (Value.int .u8 0), intk := some .u8, conc := true }
theorem ti5_ok : TIok Tryz.prog 5 ti5 where
 zero := some_all (Value.int .u8 0) rfl (by kernel_rfl)
 intk := some_all (IntKind.u8) rfl (by kernel_rfl)
 conc := yes_all ⟨descOf (Tryz.prog.underlying 5), by kernel_rfl, concrete (by kernel_rfl)⟩
def ti9 : TI := { size := some 1, agg := some false, rs := some (.one (.leaf (.str))), zero := some (Value.string ⟨#[]⟩), isStr := true, conc := true }
theorem ti9_ok : TIok Tryz.prog 9 ti9 where
 zero := some_all (Value.string ⟨#[]⟩) rfl (by kernel_rfl)
 isStr := yes_all (by kernel_rfl)
 conc := yes_all ⟨descOf (Tryz.prog.underlying 9), by kernel_rfl, concrete (by kernel_rfl)⟩
def ti22 : TI := { size := some 1, agg := some false, rs := some (.one (.leaf (.slice))), zero := some (Value.slice none 0 0), slc := some (225, 1), conc := true, isSlc := true }
theorem ti22_ok : TIok Tryz.prog 22 ti22 where
 zero := some_all (Value.slice none 0 0) rfl (by kernel_rfl)
 slc := some_all2 225 1 rfl ⟨by kernel_rfl, by kernel_rfl⟩
 conc := yes_all ⟨descOf (Tryz.prog.underlying 22), by kernel_rfl, concrete (by kernel_rfl)⟩
 isSlc := yes_all ⟨225, by kernel_rfl⟩
def ti23 : TI := { size := some 1, agg := some false, rs := some (.one (.leaf (.slice))), zero := some (Value.slice none 0 0), slc := some (168, 3), conc := true, isSlc := true }
theorem ti23_ok : TIok Tryz.prog 23 ti23 where
 zero := some_all (Value.slice none 0 0) rfl (by kernel_rfl)
 slc := some_all2 168 3 rfl ⟨by kernel_rfl, by kernel_rfl⟩
 conc := yes_all ⟨descOf (Tryz.prog.underlying 23), by kernel_rfl, concrete (by kernel_rfl)⟩
 isSlc := yes_all ⟨168, by kernel_rfl⟩
def ti24 : TI := { size := some 1, agg := some false, rs := some (.one (.leaf (.slice))), zero := some (Value.slice none 0 0), slc := some (169, 2), conc := true, isSlc := true }
theorem ti24_ok : TIok Tryz.prog 24 ti24 where
 zero := some_all (Value.slice none 0 0) rfl (by kernel_rfl)
 slc := some_all2 169 2 rfl ⟨by kernel_rfl, by kernel_rfl⟩
 conc := yes_all ⟨descOf (Tryz.prog.underlying 24), by kernel_rfl, concrete (by kernel_rfl)⟩
 isSlc := yes_all ⟨169, by kernel_rfl⟩
def ti25 : TI := { size := some 1, agg := some false, rs := some (.one (.leaf (.slice))), zero := some (Value.slice none 0 0), slc := some (171, 2), conc := true, isSlc := true }
theorem ti25_ok : TIok Tryz.prog 25 ti25 where
 zero := some_all (Value.slice none 0 0) rfl (by kernel_rfl)
 slc := some_all2 171 2 rfl ⟨by kernel_rfl, by kernel_rfl⟩
 conc := yes_all ⟨descOf (Tryz.prog.underlying 25), by kernel_rfl, concrete (by kernel_rfl)⟩
 isSlc := yes_all ⟨171, by kernel_rfl⟩
def ti27 : TI := { size := some 4, agg := some true, rs := some (.one (.agg [.slice, .slice, .slice, .slice])), zero := some (Value.agg #[Value.slice none 0 0, Value.slice none 0 0, Value.slice none 0 0, Value.slice none 0 0]), offs := some [(0, 0, false), (1, 0, false), (2, 0, false), (3, 0, false)], conc := true }
theorem ti27_ok : TIok Tryz.prog 27 ti27 where
 size := some_all (4) rfl (by kernel_rfl)
 agg := some_all (true) rfl (by kernel_rfl)
 zero := some_all (Value.agg #[Value.slice none 0 0, Value.slice none 0 0, Value.slice none 0 0, Value.slice none 0 0]) rfl (by kernel_rfl)
 offs := some_all [(0, 0, false), (1, 0, false), (2, 0, false), (3, 0, false)] rfl ⟨structOf (Tryz.prog.underlying 27), by kernel_rfl, by kernel_rfl⟩
 conc := yes_all ⟨descOf (Tryz.prog.underlying 27), by kernel_rfl, concrete (by kernel_rfl)⟩
def ti28 : TI := { size := some 1, agg := some false, rs := some (.one (.leaf (.slice))), zero := some (Value.slice none 0 0), slc := some (3, 1), conc := true, isSlc := true }
theorem ti28_ok : TIok Tryz.prog 28 ti28 where
 zero := some_all (Value.slice none 0 0) rfl (by kernel_rfl)
 slc := some_all2 3 1 rfl ⟨by kernel_rfl, by kernel_rfl⟩
 conc := yes_all ⟨descOf (Tryz.prog.underlying 28), by kernel_rfl, concrete (by kernel_rfl)⟩
 isSlc := yes_all ⟨3, by kernel_rfl⟩
def ti31 : TI := { size := some 1, agg := some false, rs := some (.one (.leaf (.ptr))), zero := some (Value.pointer none), conc := true, isPtr := true }
theorem ti31_ok : TIok Tryz.prog 31 ti31 where
 zero := some_all (Value.pointer none) rfl (by kernel_rfl)
 conc := yes_all ⟨descOf (Tryz.prog.underlying 31), by kernel_rfl, concrete (by kernel_rfl)⟩
 isPtr := yes_all ⟨199, by kernel_rfl⟩
def ti32 : TI := { size := some 1, agg := some false, rs := some (.one (.leaf (.slice))), zero := some (Value.slice none 0 0), slc := some (9, 1), conc := true, isSlc := true }
theorem ti32_ok : TIok Tryz.prog 32 ti32 where
 zero := some_all (Value.slice none 0 0) rfl (by kernel_rfl)
 slc := some_all2 9 1 rfl ⟨by kernel_rfl, by kernel_rfl⟩
 conc := yes_all ⟨descOf (Tryz.prog.underlying 32), by kernel_rfl, concrete (by kernel_rfl)⟩
 isSlc := yes_all ⟨9, by kernel_rfl⟩
def ti33 : TI := { size := some 1, agg := some false, rs := some (.one (.leaf (.slice))), zero := some (Value.slice none 0 0), slc := some (98, 2), conc := true, isSlc := true }
theorem ti33_ok : TIok Tryz.prog 33 ti33 where
 zero := some_all (Value.slice none 0 0) rfl (by kernel_rfl)
 slc := some_all2 98 2 rfl ⟨by kernel_rfl, by kernel_rfl⟩
 conc := yes_all ⟨descOf (Tryz.prog.underlying 33), by kernel_rfl, concrete (by kernel_rfl)⟩
 isSlc := yes_all ⟨98, by kernel_rfl⟩
def ti35 : TI := { size := some 2, agg := some true, rs := some (.one (.agg [.slice, .slice])), zero := some (Value.agg #[Value.slice none 0 0, Value.slice none 0 0]), offs := some [(0, 0, false), (1, 0, false)], conc := true }
theorem ti35_ok : TIok Tryz.prog 35 ti35 where
 size := some_all (2) rfl (by kernel_rfl)
 agg := some_all (true) rfl (by kernel_rfl)
 zero := some_all (Value.agg #[Value.slice none 0 0, Value.slice none 0 0]) rfl (by kernel_rfl)
 offs := some_all [(0, 0, false), (1, 0, false)] rfl ⟨structOf (Tryz.prog.underlying 35), by kernel_rfl, by kernel_rfl⟩
 conc := yes_all ⟨descOf (Tryz.prog.underlying 35), by kernel_rfl, concrete (by kernel_rfl)⟩
def ti37 : TI := { size := some 2, agg := some true, rs := some (.one (.agg [.slice, .slice])), zero := some (Value.agg #[Value.slice none 0 0, Value.slice none 0 0]), offs := some [(0, 0, false), (1, 0, false)], conc := true }
theorem ti37_ok : TIok Tryz.prog 37 ti37 where
 size := some_all (2) rfl (by kernel_rfl)
 agg := some_all (true) rfl (by kernel_rfl)
 zero := some_all (Value.agg #[Value.slice none 0 0, Value.slice none 0 0]) rfl (by kernel_rfl)
 offs := some_all [(0, 0, false), (1, 0, false)] rfl ⟨structOf (Tryz.prog.underlying 37), by kernel_rfl, by kernel_rfl⟩
 conc := yes_all ⟨descOf (Tryz.prog.underlying 37), by kernel_rfl, concrete (by kernel_rfl)⟩
def ti39 : TI := { size := some 5, agg := some true, rs := some (.one (.agg [.slice, .slice, .slice, .slice, .slice])), zero := some (Value.agg #[Value.slice none 0 0, Value.slice none 0 0, Value.slice none 0 0, Value.slice none 0 0, Value.slice none 0 0]), offs := some [(0, 1, true), (2, 1, true), (4, 0, false)], conc := true }
theorem ti39_ok : TIok Tryz.prog 39 ti39 where
 size := some_all (5) rfl (by kernel_rfl)
 agg := some_all (true) rfl (by kernel_rfl)
 zero := some_all (Value.agg #[Value.slice none 0 0, Value.slice none 0 0, Value.slice none 0 0, Value.slice none 0 0, Value.slice none 0 0]) rfl (by kernel_rfl)
 offs := some_all [(0, 1, true), (2, 1, true), (4, 0, false)] rfl ⟨structOf (Tryz.prog.underlying 39), by kernel_rfl, by kernel_rfl⟩
 conc := yes_all ⟨descOf (Tryz.prog.underlying 39), by kernel_rfl, concrete (by kernel_rfl)⟩
def ti40 : TI := { rs := some (.tup [.leaf (.ptr), .agg [.slice, .slice, .slice, .slice, .slice]]) }
theorem ti40_ok : TIok Tryz.prog 40 ti40 where
def ti42 : TI := { size := some 1, agg := some false, rs := some (.one (.leaf (.int .i64))), zero := some (Value.int .i64 0), intk := some .i64, conc := true }
theorem ti42_ok : TIok Tryz.prog 42 ti42 where
 zero := some_all (Value.int .i64 0) rfl (by kernel_rfl)
 intk := some_all (IntKind.i64) rfl (by kernel_rfl)
 conc := yes_all ⟨descOf (Tryz.prog.underlying 42), by kernel_rfl, concrete (by kernel_rfl)⟩
def ti43 : TI := { rs := some (.tup [.leaf (.int .i64), .leaf (.int .i64)]) }
theorem ti43_ok : TIok Tryz.prog 43 ti43 where
def ti48 : TI := { size := some 1, agg := some false, rs := some (.one (.leaf (.ptr))), zero := some (Value.pointer none), conc := true, isPtr := true }
theorem ti48_ok : TIok Tryz.prog 48 ti48 where
 zero := some_all (Value.pointer none) rfl (by kernel_rfl)
 conc := yes_all ⟨descOf (Tryz.prog.underlying 48), by kernel_rfl, concrete (by kernel_rfl)⟩
 isPtr := yes_all ⟨111, by kernel_rfl⟩
def ti49 : TI := { size := some 1, agg := some false, rs := some (.one (.leaf (.ptr))), zero := some (Value.pointer none), conc := true, isPtr := true }
theorem ti49_ok : TIok Tryz.prog 49 ti49 where
 zero := some_all (Value.pointer none) rfl (by kernel_rfl)
 conc := yes_all ⟨descOf (Tryz.prog.underlying 49), by kernel_rfl, concrete (by kernel_rfl)⟩
 isPtr := yes_all ⟨115, by kernel_rfl⟩
def ti50 : TI := { rs := some (.tup [.leaf (.ptr), .leaf (.ptr)]) }
theorem ti50_ok : TIok Tryz.prog 50 ti50 where
def ti53 : TI := { rs := some (.tup [.leaf (.int .i64), .leaf (.bool)]) }
theorem ti53_ok : TIok Tryz.prog 53 ti53 where
def ti55 : TI := { size := some 1, agg := some false, rs := some (.one (.leaf (.slice))), zero := some (Value.slice none 0 0), slc := some (57, 1), conc := true, isSlc := true }
theorem ti55_ok : TIok Tryz.prog 55 ti55 where
 zero := some_all (Value.slice none 0 0) rfl (by kernel_rfl)
 slc := some_all2 57 1 rfl ⟨by kernel_rfl, by kernel_rfl⟩
 conc := yes_all ⟨descOf (Tryz.prog.underlying 55), by kernel_rfl, concrete (by kernel_rfl)⟩
 isSlc := yes_all ⟨57, by kernel_rfl⟩
def ti57 : TI := { size := some 1, agg := some false, rs := some (.one (.leaf (.int .u64))), zero := some (Value.int .u64 0), intk := some .u64, conc := true }
theorem ti57_ok : TIok Tryz.prog 57 ti57 where
 zero := some_all (Value.int .u64 0) rfl (by kernel_rfl)
 intk := some_all (IntKind.u64) rfl (by kernel_rfl)
 conc := yes_all ⟨descOf (Tryz.prog.underlying 57), by kernel_rfl, concrete (by kernel_rfl)⟩
def ti58 : TI := { size := some 1, agg := some false, rs := some (.one (.leaf (.any))), zero := some (Value.nilFunc), conc := true }
theorem ti58_ok : TIok Tryz.prog 58 ti58 where
 zero := some_all (Value.nilFunc) rfl (by kernel_rfl)
 conc := yes_all ⟨descOf (Tryz.prog.underlying 58), by kernel_rfl, concrete (by kernel_rfl)⟩
def ti62 : TI := { size := some 1, agg := some false, rs := some (.one (.leaf (.ptr))), zero := some (Value.pointer none), conc := true, isPtr := true }
theorem ti62_ok : TIok Tryz.prog 62 ti62 where
 zero := some_all (Value.pointer none) rfl (by kernel_rfl)
 conc := yes_all ⟨descOf (Tryz.prog.underlying 62), by kernel_rfl, concrete (by kernel_rfl)⟩
 isPtr := yes_all ⟨136, by kernel_rfl⟩
def ti63 : TI := { rs := some (.tup [.leaf (.ptr), .leaf (.ptr), .agg [.slice, .slice, .slice, .slice, .slice]]) }
theorem ti63_ok : TIok Tryz.prog 63 ti63 where
def ti66 : TI := { rs := some (.tup [.leaf (.ptr), .leaf (.int .i64)]) }
theorem ti66_ok : TIok Tryz.prog 66 ti66 where
def ti71 : TI := { size := some 1, agg := some false, rs := some (.one (.leaf (.slice))), zero := some (Value.slice none 0 0), slc := some (72, 1), conc := true, isSlc := true }
theorem ti71_ok : TIok Tryz.prog 71 ti71 where
 zero := some_all (Value.slice none 0 0) rfl (by kernel_rfl)
 slc := some_all2 72 1 rfl ⟨by kernel_rfl, by kernel_rfl⟩
 conc := yes_all ⟨descOf (Tryz.prog.underlying 71), by kernel_rfl, concrete (by kernel_rfl)⟩
 isSlc := yes_all ⟨72, by kernel_rfl⟩
def ti72 : TI := { size := some 1, agg := some false, rs := some (.one (.leaf (.slice))), zero := some (Value.slice none 0 0), slc := some (4, 1), conc := true, isSlc := true }
theorem ti72_ok : TIok Tryz.prog 72 ti72 where
 zero := some_all (Value.slice none 0 0) rfl (by kernel_rfl)
 slc := some_all2 4 1 rfl ⟨by kernel_rfl, by kernel_rfl⟩
 conc := yes_all ⟨descOf (Tryz.prog.underlying 72), by kernel_rfl, concrete (by kernel_rfl)⟩
 isSlc := yes_all ⟨4, by kernel_rfl⟩
def ti86 : TI := { size := some 1, agg := some false, rs := some (.one (.leaf (.int .u64))), zero := some (Value.int .u64 0), intk := some .u64, conc := true }
theorem ti86_ok : TIok Tryz.prog 86 ti86 where
 zero := some_all (Value.int .u64 0) rfl (by kernel_rfl)
 intk := some_all (IntKind.u64) rfl (by kernel_rfl)
 conc := yes_all ⟨descOf (Tryz.prog.underlying 86), by kernel_rfl, concrete (by kernel_rfl)⟩
def ti91 : TI := { rs := some (.tup [.leaf (.ptr), .leaf (.int .i64)]) }
theorem ti91_ok : TIok Tryz.prog 91 ti91 where
def ti95 : TI := { rs := some (.tup [.leaf (.ptr), .leaf (.int .i64), .leaf (.int .i64)]) }
theorem ti95_ok : TIok Tryz.prog 95 ti95 where
def ti98 : TI := { size := some 2, agg := some true, rs := some (.one (.agg [.int .i64, .int .i64])), zero := some (Value.agg #[Value.int .i64 0, Value.int .i64 0]), offs := some [(0, 0, false), (1, 0, false)], eqs := some [.i, .i], conc := true }
theorem ti98_ok : TIok Tryz.prog 98 ti98 where
 size := some_all (2) rfl (by kernel_rfl)
 agg := some_all (true) rfl (by kernel_rfl)
 zero := some_all (Value.agg #[Value.int .i64 0, Value.int .i64 0]) rfl (by kernel_rfl)
 offs := some_all [(0, 0, false), (1, 0, false)] rfl ⟨structOf (Tryz.prog.underlying 98), by kernel_rfl, by kernel_rfl⟩
 conc := yes_all ⟨descOf (Tryz.prog.underlying 98), by kernel_rfl, concrete (by kernel_rfl)⟩
 eqs := some_all [.i, .i] rfl (by kernel_rfl)
def ti100 : TI := { size := some 6, agg := some true, rs := some (.one (.agg [.bool, .slice, .slice, .slice, .slice, .slice])), zero := some (Value.agg #[Value.bool false, Value.slice none 0 0, Value.slice none 0 0, Value.slice none 0 0, Value.slice none 0 0, Value.slice none 0 0]), offs := some [(0, 0, false), (1, 0, false), (2, 0, false), (3, 0, false), (4, 0, false), (5, 0, false)], conc := true }
theorem ti100_ok : TIok Tryz.prog 100 ti100 where
 size := some_all (6) rfl (by kernel_rfl)
 agg := some_all (true) rfl (by kernel_rfl)
 zero := some_all (Value.agg #[Value.bool false, Value.slice none 0 0, Value.slice none 0 0, Value.slice none 0 0, Value.slice none 0 0, Value.slice none 0 0]) rfl (by kernel_rfl)
 offs := some_all [(0, 0, false), (1, 0, false), (2, 0, false), (3, 0, false), (4, 0, false), (5, 0, false)] rfl ⟨structOf (Tryz.prog.underlying 100), by kernel_rfl, by kernel_rfl⟩
 conc := yes_all ⟨descOf (Tryz.prog.underlying 100), by kernel_rfl, concrete (by kernel_rfl)⟩
def ti104 : TI := { size := some 1, agg := some true, rs := some (.one (.agg [.ptr])), zero := some (Value.agg #[Value.pointer none]), offs := some [(0, 0, false)], conc := true }
theorem ti104_ok : TIok Tryz.prog 104 ti104 where
 agg := some_all (true) rfl (by kernel_rfl)
 zero := some_all (Value.agg #[Value.pointer none]) rfl (by kernel_rfl)
 offs := some_all [(0, 0, false)] rfl ⟨structOf (Tryz.prog.underlying 104), by kernel_rfl, by kernel_rfl⟩
 conc := yes_all ⟨descOf (Tryz.prog.underlying 104), by kernel_rfl, concrete (by kernel_rfl)⟩
def ti105 : TI := { size := some 1, agg := some true, rs := some (.one (.agg [.ptr])), zero := some (Value.agg #[Value.pointer none]), offs := some [(0, 0, false)], conc := true }
theorem ti105_ok : TIok Tryz.prog 105 ti105 where
 agg := some_all (true) rfl (by kernel_rfl)
 zero := some_all (Value.agg #[Value.pointer none]) rfl (by kernel_rfl)
 offs := some_all [(0, 0, false)] rfl ⟨structOf (Tryz.prog.underlying 105), by kernel_rfl, by kernel_rfl⟩
 conc := yes_all ⟨descOf (Tryz.prog.underlying 105), by kernel_rfl, concrete (by kernel_rfl)⟩
def ti107 : TI := { size := some 1, agg := some false, rs := some (.one (.leaf (.map))), zero := some (Value.map none), elemSh := some (.leaf (.int .i64)), conc := true, isMap := true }
theorem ti107_ok : TIok Tryz.prog 107 ti107 where
 zero := some_all (Value.map none) rfl (by kernel_rfl)
 conc := yes_all ⟨descOf (Tryz.prog.underlying 107), by kernel_rfl, concrete (by kernel_rfl)⟩
 isMap := yes_all ⟨3, 3, by kernel_rfl⟩
def ti108 : TI := { size := some 1, agg := some false, rs := some (.one (.leaf (.slice))), zero := some (Value.slice none 0 0), slc := some (109, 1), conc := true, isSlc := true }
theorem ti108_ok : TIok Tryz.prog 108 ti108 where
 zero := some_all (Value.slice none 0 0) rfl (by kernel_rfl)
 slc := some_all2 109 1 rfl ⟨by kernel_rfl, by kernel_rfl⟩
 conc := yes_all ⟨descOf (Tryz.prog.underlying 108), by kernel_rfl, concrete (by kernel_rfl)⟩
 isSlc := yes_all ⟨109, by kernel_rfl⟩
def ti109 : TI := { size := some 1, agg := some false, rs := some (.one (.leaf (.slice))), zero := some (Value.slice none 0 0), slc := some (57, 1), conc := true, isSlc := true }
theorem ti109_ok : TIok Tryz.prog 109 ti109 where
 zero := some_all (Value.slice none 0 0) rfl (by kernel_rfl)
 slc := some_all2 57 1 rfl ⟨by kernel_rfl, by kernel_rfl⟩
 conc := yes_all ⟨descOf (Tryz.prog.underlying 109), by kernel_rfl, concrete (by kernel_rfl)⟩
 isSlc := yes_all ⟨57, by kernel_rfl⟩
def ti111 : TI := { size := some 4, agg := some true, rs := some (.one (.agg [.slice, .map, .slice, .slice])), zero := some (Value.agg #[Value.slice none 0 0, Value.map none, Value.slice none 0 0, Value.slice none 0 0]), offs := some [(0, 0, false), (1, 0, false), (2, 0, false), (3, 0, false)], conc := true }
theorem ti111_ok : TIok Tryz.prog 111 ti111 where
 size := some_all (4) rfl (by kernel_rfl)
 agg := some_all (true) rfl (by kernel_rfl)
 zero := some_all (Value.agg #[Value.slice none 0 0, Value.map none, Value.slice none 0 0, Value.slice none 0 0]) rfl (by kernel_rfl)
 offs := some_all [(0, 0, false), (1, 0, false), (2, 0, false), (3, 0, false)] rfl ⟨structOf (Tryz.prog.underlying 111), by kernel_rfl, by kernel_rfl⟩
 conc := yes_all ⟨descOf (Tryz.prog.underlying 111), by kernel_rfl, concrete (by kernel_rfl)⟩
def ti113 : TI := { size := some 2, agg := some true, rs := some (.one (.agg [.slice, .slice])), zero := some (Value.agg #[Value.slice none 0 0, Value.slice none 0 0]), offs := some [(0, 0, false), (1, 0, false)], conc := true }
theorem ti113_ok : TIok Tryz.prog 113 ti113 where
 size := some_all (2) rfl (by kernel_rfl)
 agg := some_all (true) rfl (by kernel_rfl)
 zero := some_all (Value.agg #[Value.slice none 0 0, Value.slice none 0 0]) rfl (by kernel_rfl)
 offs := some_all [(0, 0, false), (1, 0, false)] rfl ⟨structOf (Tryz.prog.underlying 113), by kernel_rfl, by kernel_rfl⟩
 conc := yes_all ⟨descOf (Tryz.prog.underlying 113), by kernel_rfl, concrete (by kernel_rfl)⟩
def ti115 : TI := { size := some 7, agg := some true, rs := some (.one (.agg [.ptr, .slice, .slice, .slice, .slice, .slice, .slice])), zero := some (Value.agg #[Value.pointer none, Value.slice none 0 0, Value.slice none 0 0, Value.slice none 0 0, Value.slice none 0 0, Value.slice none 0 0, Value.slice none 0 0]), offs := some [(0, 0, false), (1, 1, true), (3, 1, true), (5, 0, false), (6, 0, false)], conc := true }
theorem ti115_ok : TIok Tryz.prog 115 ti115 where
 size := some_all (7) rfl (by kernel_rfl)
 agg := some_all (true) rfl (by kernel_rfl)
 zero := some_all (Value.agg #[Value.pointer none, Value.slice none 0 0, Value.slice none 0 0, Value.slice none 0 0, Value.slice none 0 0, Value.slice none 0 0, Value.slice none 0 0]) rfl (by kernel_rfl)
 offs := some_all [(0, 0, false), (1, 1, true), (3, 1, true), (5, 0, false), (6, 0, false)] rfl ⟨structOf (Tryz.prog.underlying 115), by kernel_rfl, by kernel_rfl⟩
 conc := yes_all ⟨descOf (Tryz.prog.underlying 115), by kernel_rfl, concrete (by kernel_rfl)⟩
def ti119 : TI := { size := some 1, agg := some false, rs := some (.one (.leaf (.any))), zero := some (Value.nilFunc), conc := true }
theorem ti119_ok : TIok Tryz.prog 119 ti119 where
 zero := some_all (Value.nilFunc) rfl (by kernel_rfl)
 conc := yes_all ⟨descOf (Tryz.prog.underlying 119), by kernel_rfl, concrete (by kernel_rfl)⟩
def ti120 : TI := { size := some 1, agg := some false, rs := some (.one (.leaf (.slice))), zero := some (Value.slice none 0 0), slc := some (28, 1), conc := true, isSlc := true }
theorem ti120_ok : TIok Tryz.prog 120 ti120 where
 zero := some_all (Value.slice none 0 0) rfl (by kernel_rfl)
 slc := some_all2 28 1 rfl ⟨by kernel_rfl, by kernel_rfl⟩
 conc := yes_all ⟨descOf (Tryz.prog.underlying 120), by kernel_rfl, concrete (by kernel_rfl)⟩
 isSlc := yes_all ⟨28, by kernel_rfl⟩
def ti134 : TI := { size := some 4, agg := some true, rs := some (.one (.agg [.int .u32, .int .i32, .int .u32, .slice])), zero := some (Value.agg #[Value.int .u32 0, Value.int .i32 0, Value.int .u32 0, Value.slice none 0 0]), offs := some [(0, 2, true), (3, 0, false)], conc := true }
theorem ti134_ok : TIok Tryz.prog 134 ti134 where
 size := some_all (4) rfl (by kernel_rfl)
 agg := some_all (true) rfl (by kernel_rfl)
 zero := some_all (Value.agg #[Value.int .u32 0, Value.int .i32 0, Value.int .u32 0, Value.slice none 0 0]) rfl (by kernel_rfl)
 offs := some_all [(0, 2, true), (3, 0, false)] rfl ⟨structOf (Tryz.prog.underlying 134), by kernel_rfl, by kernel_rfl⟩
 conc := yes_all ⟨descOf (Tryz.prog.underlying 134), by kernel_rfl, concrete (by kernel_rfl)⟩
def ti136 : TI := { size := some 7, agg := some true, rs := some (.one (.agg [.ptr, .slice, .slice, .int .u32, .int .i32, .int .u32, .slice])), zero := some (Value.agg #[Value.pointer none, Value.slice none 0 0, Value.slice none 0 0, Value.int .u32 0, Value.int .i32 0, Value.int .u32 0, Value.slice none 0 0]), offs := some [(0, 0, false), (1, 0, false), (2, 0, false), (3, 3, true)], conc := true }
theorem ti136_ok : TIok Tryz.prog 136 ti136 where
 size := some_all (7) rfl (by kernel_rfl)
 agg := some_all (true) rfl (by kernel_rfl)
 zero := some_all (Value.agg #[Value.pointer none, Value.slice none 0 0, Value.slice none 0 0, Value.int .u32 0, Value.int .i32 0, Value.int .u32 0, Value.slice none 0 0]) rfl (by kernel_rfl)
 offs := some_all [(0, 0, false), (1, 0, false), (2, 0, false), (3, 3, true)] rfl ⟨structOf (Tryz.prog.underlying 136), by kernel_rfl, by kernel_rfl⟩
 conc := yes_all ⟨descOf (Tryz.prog.underlying 136), by kernel_rfl, concrete (by kernel_rfl)⟩
def ti137 : TI := { size := some 1, agg := some false, rs := some (.one (.leaf (.any))), zero := some (Value.nilFunc), conc := true }
theorem ti137_ok : TIok Tryz.prog 137 ti137 where
 zero := some_all (Value.nilFunc) rfl (by kernel_rfl)
 conc := yes_all ⟨descOf (Tryz.prog.underlying 137), by kernel_rfl, concrete (by kernel_rfl)⟩
def ti140 : TI := { rs := some (.tup [.leaf (.slice), .leaf (.map)]) }
theorem ti140_ok : TIok Tryz.prog 140 ti140 where
def ti151 : TI := { size := some 1, agg := some false, rs := some (.one (.leaf (.ptr))), zero := some (Value.pointer none), conc := true, isPtr := true }
theorem ti151_ok : TIok Tryz.prog 151 ti151 where
 zero := some_all (Value.pointer none) rfl (by kernel_rfl)
 conc := yes_all ⟨descOf (Tryz.prog.underlying 151), by kernel_rfl, concrete (by kernel_rfl)⟩
 isPtr := yes_all ⟨203, by kernel_rfl⟩
def ti157 : TI := { size := some 1, agg := some false, rs := some (.one (.leaf (.any))), zero := some (Value.nilIface) }
theorem ti157_ok : TIok Tryz.prog 157 ti157 where
 zero := some_all (Value.nilIface) rfl (by kernel_rfl)
def ti163 : TI := { rs := some (.tup [.leaf (.ptr), .leaf (.int .i64), .leaf (.int .i64), .leaf (.int .i64)]) }
theorem ti163_ok : TIok Tryz.prog 163 ti163 where
def ti168 : TI := { size := some 3, agg := some true, rs := some (.one (.agg [.int .i64, .int .i64, .int .i64])), zero := some (Value.agg #[Value.int .i64 0, Value.int .i64 0, Value.int .i64 0]), offs := some [(0, 0, false), (1, 0, false), (2, 0, false)], eqs := some [.i, .i, .i], conc := true }
theorem ti168_ok : TIok Tryz.prog 168 ti168 where
 size := some_all (3) rfl (by kernel_rfl)
 agg := some_all (true) rfl (by kernel_rfl)
 zero := some_all (Value.agg #[Value.int .i64 0, Value.int .i64 0, Value.int .i64 0]) rfl (by kernel_rfl)
 offs := some_all [(0, 0, false), (1, 0, false), (2, 0, false)] rfl ⟨structOf (Tryz.prog.underlying 168), by kernel_rfl, by kernel_rfl⟩
 conc := yes_all ⟨descOf (Tryz.prog.underlying 168), by kernel_rfl, concrete (by kernel_rfl)⟩
 eqs := some_all [.i, .i, .i] rfl (by kernel_rfl)
def ti169 : TI := { size := some 2, agg := some true, rs := some (.one (.agg [.int .i64, .int .i64])), zero := some (Value.agg #[Value.int .i64 0, Value.int .i64 0]), offs := some [(0, 0, false), (1, 0, false)], eqs := some [.i, .i], conc := true }
theorem ti169_ok : TIok Tryz.prog 169 ti169 where
 size := some_all (2) rfl (by kernel_rfl)
 agg := some_all (true) rfl (by kernel_rfl)
 zero := some_all (Value.agg #[Value.int .i64 0, Value.int .i64 0]) rfl (by kernel_rfl)
 offs := some_all [(0, 0, false), (1, 0, false)] rfl ⟨structOf (Tryz.prog.underlying 169), by kernel_rfl, by kernel_rfl⟩
 conc := yes_all ⟨descOf (Tryz.prog.underlying 169), by kernel_rfl, concrete (by kernel_rfl)⟩
 eqs := some_all [.i, .i] rfl (by kernel_rfl)
def ti171 : TI := { size := some 2, agg := some true, rs := some (.one (.agg [.int .i64, .str])), zero := some (Value.agg #[Value.int .i64 0, Value.string ⟨#[]⟩]), offs := some [(0, 0, false), (1, 0, false)], eqs := some [.i, .s], conc := true }
theorem ti171_ok : TIok Tryz.prog 171 ti171 where
 size := some_all (2) rfl (by kernel_rfl)
 agg := some_all (true) rfl (by kernel_rfl)
 zero := some_all (Value.agg #[Value.int .i64 0, Value.string ⟨#[]⟩]) rfl (by kernel_rfl)
 offs := some_all [(0, 0, false), (1, 0, false)] rfl ⟨structOf (Tryz.prog.underlying 171), by kernel_rfl, by kernel_rfl⟩
 conc := yes_all ⟨descOf (Tryz.prog.underlying 171), by kernel_rfl, concrete (by kernel_rfl)⟩
 eqs := some_all [.i, .s] rfl (by kernel_rfl)
def ti172 : TI := { rs := some (.tup [.leaf (.int .i64), .leaf (.int .i64)]) }
theorem ti172_ok : TIok Tryz.prog 172 ti172 where
def ti174 : TI := { rs := some (.tup [.agg [.slice, .slice, .slice, .slice, .slice], .leaf (.int .i64), .leaf (.int .i64), .leaf (.int .i64)]) }
theorem ti174_ok : TIok Tryz.prog 174 ti174 where
def ti177 : TI := { size := some 1, agg := some false, rs := some (.one (.leaf (.map))), zero := some (Value.map none), elemSh := some (.leaf (.int .i64)), conc := true, isMap := true }
theorem ti177_ok : TIok Tryz.prog 177 ti177 where
 zero := some_all (Value.map none) rfl (by kernel_rfl)
 conc := yes_all ⟨descOf (Tryz.prog.underlying 177), by kernel_rfl, concrete (by kernel_rfl)⟩
 isMap := yes_all ⟨9, 3, by kernel_rfl⟩
def ti178 : TI := { size := some 1, agg := some false, rs := some (.one (.leaf (.slice))), zero := some (Value.slice none 0 0), slc := some (5, 1), conc := true, isSlc := true }
theorem ti178_ok : TIok Tryz.prog 178 ti178 where
 zero := some_all (Value.slice none 0 0) rfl (by kernel_rfl)
 slc := some_all2 5 1 rfl ⟨by kernel_rfl, by kernel_rfl⟩
 conc := yes_all ⟨descOf (Tryz.prog.underlying 178), by kernel_rfl, concrete (by kernel_rfl)⟩
 isSlc := yes_all ⟨5, by kernel_rfl⟩
def ti180 : TI := { rs := some (.tup [.leaf (.int .u64), .leaf (.int .u64)]) }
theorem ti180_ok : TIok Tryz.prog 180 ti180 where
def ti187 : TI := { size := some 1, agg := some false, rs := some (.one (.leaf (.ptr))), zero := some (Value.pointer none), conc := true, isPtr := true }
theorem ti187_ok : TIok Tryz.prog 187 ti187 where
 zero := some_all (Value.pointer none) rfl (by kernel_rfl)
 conc := yes_all ⟨descOf (Tryz.prog.underlying 187), by kernel_rfl, concrete (by kernel_rfl)⟩
 isPtr := yes_all ⟨260, by kernel_rfl⟩
def ti190 : TI := { size := some 1, agg := some false, rs := some (.one (.leaf (.ptr))), zero := some (Value.pointer none), conc := true, isPtr := true }
theorem ti190_ok : TIok Tryz.prog 190 ti190 where
 zero := some_all (Value.pointer none) rfl (by kernel_rfl)
 conc := yes_all ⟨descOf (Tryz.prog.underlying 190), by kernel_rfl, concrete (by kernel_rfl)⟩
 isPtr := yes_all ⟨286, by kernel_rfl⟩
def ti192 : TI := { size := some 9, agg := some true, rs := some (.one (.agg [.bool, .slice, .slice, .slice, .slice, .slice, .ptr, .ptr, .ptr])), zero := some (Value.agg #[Value.bool false, Value.slice none 0 0, Value.slice none 0 0, Value.slice none 0 0, Value.slice none 0 0, Value.slice none 0 0, Value.pointer none, Value.pointer none, Value.pointer none]), offs := some [(0, 5, true), (6, 0, false), (7, 0, false), (8, 0, false)], conc := true }
theorem ti192_ok : TIok Tryz.prog 192 ti192 where
 size := some_all (9) rfl (by kernel_rfl)
 agg := some_all (true) rfl (by kernel_rfl)
 zero := some_all (Value.agg #[Value.bool false, Value.slice none 0 0, Value.slice none 0 0, Value.slice none 0 0, Value.slice none 0 0, Value.slice none 0 0, Value.pointer none, Value.pointer none, Value.pointer none]) rfl (by kernel_rfl)
 offs := some_all [(0, 5, true), (6, 0, false), (7, 0, false), (8, 0, false)] rfl ⟨structOf (Tryz.prog.underlying 192), by kernel_rfl, by kernel_rfl⟩
 conc := yes_all ⟨descOf (Tryz.prog.underlying 192), by kernel_rfl, concrete (by kernel_rfl)⟩
def ti194 : TI := { size := some 4, agg := some true, rs := some (.one (.agg [.int .u32, .int .i32, .int .u32, .slice])), zero := some (Value.agg #[Value.int .u32 0, Value.int .i32 0, Value.int .u32 0, Value.slice none 0 0]), offs := some [(0, 2, true), (3, 0, false)], conc := true }
theorem ti194_ok : TIok Tryz.prog 194 ti194 where
 size := some_all (4) rfl (by kernel_rfl)
 agg := some_all (true) rfl (by kernel_rfl)
 zero := some_all (Value.agg #[Value.int .u32 0, Value.int .i32 0, Value.int .u32 0, Value.slice none 0 0]) rfl (by kernel_rfl)
 offs := some_all [(0, 2, true), (3, 0, false)] rfl ⟨structOf (Tryz.prog.underlying 194), by kernel_rfl, by kernel_rfl⟩
 conc := yes_all ⟨descOf (Tryz.prog.underlying 194), by kernel_rfl, concrete (by kernel_rfl)⟩
def ti199 : TI := { size := some 14, agg := some true, rs := some (.one (.agg [.bool, .slice, .slice, .slice, .slice, .slice, .ptr, .ptr, .ptr, .int .u32, .int .i32, .int .u32, .slice, .int .i64])), zero := some (Value.agg #[Value.bool false, Value.slice none 0 0, Value.slice none 0 0, Value.slice none 0 0, Value.slice none 0 0, Value.slice none 0 0, Value.pointer none, Value.pointer none, Value.pointer none, Value.int .u32 0, Value.int .i32 0, Value.int .u32 0, Value.slice none 0 0, Value.int .i64 0]), offs := some [(0, 8, true), (9, 3, true), (13, 0, true)], conc := true }
theorem ti199_ok : TIok Tryz.prog 199 ti199 where
 size := some_all (14) rfl (by kernel_rfl)
 agg := some_all (true) rfl (by kernel_rfl)
 zero := some_all (Value.agg #[Value.bool false, Value.slice none 0 0, Value.slice none 0 0, Value.slice none 0 0, Value.slice none 0 0, Value.slice none 0 0, Value.pointer none, Value.pointer none, Value.pointer none, Value.int .u32 0, Value.int .i32 0, Value.int .u32 0, Value.slice none 0 0, Value.int .i64 0]) rfl (by kernel_rfl)
 offs := some_all [(0, 8, true), (9, 3, true), (13, 0, true)] rfl ⟨structOf (Tryz.prog.underlying 199), by kernel_rfl, by kernel_rfl⟩
 conc := yes_all ⟨descOf (Tryz.prog.underlying 199), by kernel_rfl, concrete (by kernel_rfl)⟩
def ti200 : TI := { size := some 1, agg := some false, rs := some (.one (.leaf (.slice))), zero := some (Value.slice none 0 0), slc := some (307, 3), conc := true, isSlc := true }
theorem ti200_ok : TIok Tryz.prog 200 ti200 where
 zero := some_all (Value.slice none 0 0) rfl (by kernel_rfl)
 slc := some_all2 307 3 rfl ⟨by kernel_rfl, by kernel_rfl⟩
 conc := yes_all ⟨descOf (Tryz.prog.underlying 200), by kernel_rfl, concrete (by kernel_rfl)⟩
 isSlc := yes_all ⟨307, by kernel_rfl⟩
def ti201 : TI := { size := some 1, agg := some false, rs := some (.one (.leaf (.map))), zero := some (Value.map none), elemSh := some (.leaf (.int .i64)), conc := true, isMap := true }
theorem ti201_ok : TIok Tryz.prog 201 ti201 where
 zero := some_all (Value.map none) rfl (by kernel_rfl)
 conc := yes_all ⟨descOf (Tryz.prog.underlying 201), by kernel_rfl, concrete (by kernel_rfl)⟩
 isMap := yes_all ⟨98, 3, by kernel_rfl⟩
def ti203 : TI := { size := some 4, agg := some true, rs := some (.one (.agg [.slice, .map, .map, .int .i64])), zero := some (Value.agg #[Value.slice none 0 0, Value.map none, Value.map none, Value.int .i64 0]), offs := some [(0, 0, false), (1, 0, false), (2, 0, false), (3, 0, false)], conc := true }
theorem ti203_ok : TIok Tryz.prog 203 ti203 where
 size := some_all (4) rfl (by kernel_rfl)
 agg := some_all (true) rfl (by kernel_rfl)
 zero := some_all (Value.agg #[Value.slice none 0 0, Value.map none, Value.map none, Value.int .i64 0]) rfl (by kernel_rfl)
 offs := some_all [(0, 0, false), (1, 0, false), (2, 0, false), (3, 0, false)] rfl ⟨structOf (Tryz.prog.underlying 203), by kernel_rfl, by kernel_rfl⟩
 conc := yes_all ⟨descOf (Tryz.prog.underlying 203), by kernel_rfl, concrete (by kernel_rfl)⟩
def ti207 : TI := { size := some 1, agg := some false, rs := some (.one (.leaf (.any))), zero := some (Value.nilFunc), conc := true }
theorem ti207_ok : TIok Tryz.prog 207 ti207 where
 zero := some_all (Value.nilFunc) rfl (by kernel_rfl)
 conc := yes_all ⟨descOf (Tryz.prog.underlying 207), by kernel_rfl, concrete (by kernel_rfl)⟩
def ti209 : TI := { size := some 1, agg := some false, rs := some (.one (.leaf (.any))), zero := some (Value.nilFunc), conc := true }
theorem ti209_ok : TIok Tryz.prog 209 ti209 where
 zero := some_all (Value.nilFunc) rfl (by kernel_rfl)
 conc := yes_all ⟨descOf (Tryz.prog.underlying 209), by kernel_rfl, concrete (by kernel_rfl)⟩
def ti211 : TI := { size := some 1, agg := some false, rs := some (.one (.leaf (.any))), zero := some (Value.nilFunc), conc := true }
theorem ti211_ok : TIok Tryz.prog 211 ti211 where
 zero := some_all (Value.nilFunc) rfl (by kernel_rfl)
 conc := yes_all ⟨descOf (Tryz.prog.underlying 211), by kernel_rfl, concrete (by kernel_rfl)⟩
def ti213 : TI := { size := some 1, agg := some false, rs := some (.one (.leaf (.any))), zero := some (Value.nilFunc), conc := true }
theorem ti213_ok : TIok Tryz.prog 213 ti213 where
 zero := some_all (Value.nilFunc) rfl (by kernel_rfl)
 conc := yes_all ⟨descOf (Tryz.prog.underlying 213), by kernel_rfl, concrete (by kernel_rfl)⟩
def ti215 : TI := { size := some 1, agg := some false, rs := some (.one (.leaf (.any))), zero := some (Value.nilFunc), conc := true }
theorem ti215_ok : TIok Tryz.prog 215 ti215 where
 zero := some_all (Value.nilFunc) rfl (by kernel_rfl)
 conc := yes_all ⟨descOf (Tryz.prog.underlying 215), by kernel_rfl, concrete (by kernel_rfl)⟩
def ti216 : TI := { rs := some (.tup [.leaf (.ptr), .leaf (.int .i64), .leaf (.int .i64)]) }
theorem ti216_ok : TIok Tryz.prog 216 ti216 where
def ti218 : TI := { rs := some (.tup [.leaf (.ptr), .leaf (.int .i64), .leaf (.int .i64)]) }
theorem ti218_ok : TIok Tryz.prog 218 ti218 where
def ti221 : TI := { rs := some (.tup [.leaf (.ptr), .leaf (.int .i64)]) }
theorem ti221_ok : TIok Tryz.prog 221 ti221 where
def ti225 : TI := { size := some 1, agg := some false, rs := some (.one (.leaf (.int .u16))), zero := some (Value.int .u16 0), intk := some .u16, conc := true }
theorem ti225_ok : TIok Tryz.prog 225 ti225 where
 zero := some_all (Value.int .u16 0) rfl (by kernel_rfl)
 intk := some_all (IntKind.u16) rfl (by kernel_rfl)
 conc := yes_all ⟨descOf (Tryz.prog.underlying 225), by kernel_rfl, concrete (by kernel_rfl)⟩
def ti226 : TI := { rs := some (.tup [.agg [.slice, .slice], .leaf (.int .i64)]) }
theorem ti226_ok : TIok Tryz.prog 226 ti226 where
def ti228 : TI := { rs := some (.tup [.agg [.slice, .slice], .leaf (.int .i64), .leaf (.int .i64)]) }
theorem ti228_ok : TIok Tryz.prog 228 ti228 where
def ti233 : TI := { rs := some (.tup [.leaf (.slice), .leaf (.int .i64)]) }
theorem ti233_ok : TIok Tryz.prog 233 ti233 where
def ti239 : TI := { rs := some (.tup [.leaf (.int .u64), .leaf (.int .u64)]) }
theorem ti239_ok : TIok Tryz.prog 239 ti239 where
def ti242 : TI := { size := some 1, agg := some false, rs := some (.one (.leaf (.int .i64))), zero := some (Value.int .i64 0), intk := some .i64, conc := true }
theorem ti242_ok : TIok Tryz.prog 242 ti242 where
 zero := some_all (Value.int .i64 0) rfl (by kernel_rfl)
 intk := some_all (IntKind.i64) rfl (by kernel_rfl)
 conc := yes_all ⟨descOf (Tryz.prog.underlying 242), by kernel_rfl, concrete (by kernel_rfl)⟩
def ti243 : TI := { rs := some (.tup [.leaf (.int .i64), .leaf (.int .i64)]) }
theorem ti243_ok : TIok Tryz.prog 243 ti243 where
def ti254 : TI := { rs := some (.tup [.leaf (.str), .leaf (.bool)]) }
theorem ti254_ok : TIok Tryz.prog 254 ti254 where
def ti258 : TI := { size := some 256, agg := some true, zero := some (Value.agg (List.toArray (List.replicate 256 (Value.bool false)))), arr := some (256, 1), conc := true }
theorem ti258_ok : TIok Tryz.prog 258 ti258 where
 size := some_all (256) rfl (by kernel_rfl)
 agg := some_all (true) rfl (by kernel_rfl)
 zero := some_all (Value.agg (List.toArray (List.replicate 256 (Value.bool false)))) rfl (by kernel_rfl)
 arr := some_all2 256 1 rfl ⟨4, by kernel_rfl, by kernel_rfl⟩
 conc := yes_all ⟨descOf (Tryz.prog.underlying 258), by kernel_rfl, concrete (by kernel_rfl)⟩
def ti260 : TI := { size := some 260, agg := some true, zero := some (Value.agg (List.toArray ([Value.slice none 0 0, Value.map none, Value.map none] ++ List.replicate 256 (Value.bool false) ++ [Value.int .i64 0]))), offs := some [(0, 0, false), (1, 0, false), (2, 0, false), (3, 255, true), (259, 0, false)], conc := true }
theorem ti260_ok : TIok Tryz.prog 260 ti260 where
 size := some_all (260) rfl (by kernel_rfl)
 agg := some_all (true) rfl (by kernel_rfl)
 zero := some_all (Value.agg (List.toArray ([Value.slice none 0 0, Value.map none, Value.map none] ++ List.replicate 256 (Value.bool false) ++ [Value.int .i64 0]))) rfl (by kernel_rfl)
 offs := some_all [(0, 0, false), (1, 0, false), (2, 0, false), (3, 255, true), (259, 0, false)] rfl ⟨structOf (Tryz.prog.underlying 260), by kernel_rfl, by kernel_rfl⟩
 conc := yes_all ⟨descOf (Tryz.prog.underlying 260), by kernel_rfl, concrete (by kernel_rfl)⟩
def ti282 : TI := { size := some 256, agg := some true, zero := some (Value.agg (List.toArray (List.replicate 256 (Value.int .i64 0)))), arr := some (256, 1), conc := true }
theorem ti282_ok : TIok Tryz.prog 282 ti282 where
 size := some_all (256) rfl (by kernel_rfl)
 agg := some_all (true) rfl (by kernel_rfl)
 zero := some_all (Value.agg (List.toArray (List.replicate 256 (Value.int .i64 0)))) rfl (by kernel_rfl)
 arr := some_all2 256 1 rfl ⟨3, by kernel_rfl, by kernel_rfl⟩
 conc := yes_all ⟨descOf (Tryz.prog.underlying 282), by kernel_rfl, concrete (by kernel_rfl)⟩
def ti283 : TI := { size := some 16, agg := some true, rs := some (.one (.agg [.bool, .bool, .bool, .bool, .bool, .bool, .bool, .bool, .bool, .bool, .bool, .bool, .bool, .bool, .bool, .bool])), zero := some (Value.agg #[Value.bool false, Value.bool false, Value.bool false, Value.bool false, Value.bool false, Value.bool false, Value.bool false, Value.bool false, Value.bool false, Value.bool false, Value.bool false, Value.bool false, Value.bool false, Value.bool false, Value.bool false, Value.bool false]), arr := some (16, 1), conc := true }
theorem ti283_ok : TIok Tryz.prog 283 ti283 where
 size := some_all (16) rfl (by kernel_rfl)
 agg := some_all (true) rfl (by kernel_rfl)
 zero := some_all (Value.agg #[Value.bool false, Value.bool false, Value.bool false, Value.bool false, Value.bool false, Value.bool false, Value.bool false, Value.bool false, Value.bool false, Value.bool false, Value.bool false, Value.bool false, Value.bool false, Value.bool false, Value.bool false, Value.bool false]) rfl (by kernel_rfl)
 arr := some_all2 16 1 rfl ⟨4, by kernel_rfl, by kernel_rfl⟩
 conc := yes_all ⟨descOf (Tryz.prog.underlying 283), by kernel_rfl, concrete (by kernel_rfl)⟩
def ti284 : TI := { size := some 256, agg := some true, zero := some (Value.agg (List.toArray (List.replicate 256 (Value.bool false)))), arr := some (16, 16), conc := true }
theorem ti284_ok : TIok Tryz.prog 284 ti284 where
 size := some_all (256) rfl (by kernel_rfl)
 agg := some_all (true) rfl (by kernel_rfl)
 zero := some_all (Value.agg (List.toArray (List.replicate 256 (Value.bool false)))) rfl (by kernel_rfl)
 arr := some_all2 16 16 rfl ⟨283, by kernel_rfl, by kernel_rfl⟩
 conc := yes_all ⟨descOf (Tryz.prog.underlying 284), by kernel_rfl, concrete (by kernel_rfl)⟩
def ti286 : TI := { size := some 512, agg := some true, zero := some (Value.agg (List.toArray (List.replicate 256 (Value.int .i64 0) ++ List.replicate 256 (Value.bool false)))), offs := some [(0, 255, true), (256, 255, true)], conc := true }
theorem ti286_ok : TIok Tryz.prog 286 ti286 where
 size := some_all (512) rfl (by kernel_rfl)
 agg := some_all (true) rfl (by kernel_rfl)
 zero := some_all (Value.agg (List.toArray (List.replicate 256 (Value.int .i64 0) ++ List.replicate 256 (Value.bool false)))) rfl (by kernel_rfl)
 offs := some_all [(0, 255, true), (256, 255, true)] rfl ⟨structOf (Tryz.prog.underlying 286), by kernel_rfl, by kernel_rfl⟩
 conc := yes_all ⟨descOf (Tryz.prog.underlying 286), by kernel_rfl, concrete (by kernel_rfl)⟩
def ti299 : TI := { size := some 1, agg := some false, rs := some (.one (.leaf (.map))), zero := some (Value.map none), elemSh := some (.leaf (.int .i64)), conc := true, isMap := true }
theorem ti299_ok : TIok Tryz.prog 299 ti299 where
 zero := some_all (Value.map none) rfl (by kernel_rfl)
 conc := yes_all ⟨descOf (Tryz.prog.underlying 299), by kernel_rfl, concrete (by kernel_rfl)⟩
 isMap := yes_all ⟨4, 3, by kernel_rfl⟩
def ti304 : TI := { size := some 1, agg := some false, rs := some (.one (.leaf (.ptr))), zero := some (Value.pointer none), conc := true, isPtr := true }
theorem ti304_ok : TIok Tryz.prog 304 ti304 where
 zero := some_all (Value.pointer none) rfl (by kernel_rfl)
 conc := yes_all ⟨descOf (Tryz.prog.underlying 304), by kernel_rfl, concrete (by kernel_rfl)⟩
 isPtr := yes_all ⟨3, by kernel_rfl⟩
def ti307 : TI := { size := some 3, agg := some true, rs := some (.one (.agg [.str, .int .i64, .int .i64])), zero := some (Value.agg #[Value.string ⟨#[]⟩, Value.int .i64 0, Value.int .i64 0]), offs := some [(0, 0, false), (1, 1, true)], conc := true }
theorem ti307_ok : TIok Tryz.prog 307 ti307 where
 size := some_all (3) rfl (by kernel_rfl)
 agg := some_all (true) rfl (by kernel_rfl)
 zero := some_all (Value.agg #[Value.string ⟨#[]⟩, Value.int .i64 0, Value.int .i64 0]) rfl (by kernel_rfl)
 offs := some_all [(0, 0, false), (1, 1, true)] rfl ⟨structOf (Tryz.prog.underlying 307), by kernel_rfl, by kernel_rfl⟩
 conc := yes_all ⟨descOf (Tryz.prog.underlying 307), by kernel_rfl, concrete (by kernel_rfl)⟩
def ti312 : TI := { size := some 1, agg := some false, rs := some (.one (.leaf (.ptr))), zero := some (Value.pointer none), conc := true, isPtr := true }
theorem ti312_ok : TIok Tryz.prog 312 ti312 where
 zero := some_all (Value.pointer none) rfl (by kernel_rfl)
 conc := yes_all ⟨descOf (Tryz.prog.underlying 312), by kernel_rfl, concrete (by kernel_rfl)⟩
 isPtr := yes_all ⟨332, by kernel_rfl⟩
def ti318 : TI := { rs := some (.tup [.agg [.int .i64, .int .i64], .leaf (.bool)]) }
theorem ti318_ok : TIok Tryz.prog 318 ti318 where
def ti327 : TI := { size := some 1, agg := some false, rs := some (.one (.leaf (.ptr))), zero := some (Value.pointer none), conc := true, isPtr := true }
theorem ti327_ok : TIok Tryz.prog 327 ti327 where
 zero := some_all (Value.pointer none) rfl (by kernel_rfl)
 conc := yes_all ⟨descOf (Tryz.prog.underlying 327), by kernel_rfl, concrete (by kernel_rfl)⟩
 isPtr := yes_all ⟨346, by kernel_rfl⟩
def ti330 : TI := { size := some 2, agg := some true, rs := some (.one (.agg [.int .i64, .int .i64])), zero := some (Value.agg #[Value.int .i64 0, Value.int .i64 0]), offs := some [(0, 1, true)], conc := true }
theorem ti330_ok : TIok Tryz.prog 330 ti330 where
 size := some_all (2) rfl (by kernel_rfl)
 agg := some_all (true) rfl (by kernel_rfl)
 zero := some_all (Value.agg #[Value.int .i64 0, Value.int .i64 0]) rfl (by kernel_rfl)
 offs := some_all [(0, 1, true)] rfl ⟨structOf (Tryz.prog.underlying 330), by kernel_rfl, by kernel_rfl⟩
 conc := yes_all ⟨descOf (Tryz.prog.underlying 330), by kernel_rfl, concrete (by kernel_rfl)⟩
def ti332 : TI := { size := some 5, agg := some true, rs := some (.one (.agg [.int .i64, .int .i64, .ptr, .int .i64, .int .i64])), zero := some (Value.agg #[Value.int .i64 0, Value.int .i64 0, Value.pointer none, Value.int .i64 0, Value.int .i64 0]), offs := some [(0, 1, true), (2, 0, false), (3, 0, false), (4, 0, false)], conc := true }
theorem ti332_ok : TIok Tryz.prog 332 ti332 where
 size := some_all (5) rfl (by kernel_rfl)
 agg := some_all (true) rfl (by kernel_rfl)
 zero := some_all (Value.agg #[Value.int .i64 0, Value.int .i64 0, Value.pointer none, Value.int .i64 0, Value.int .i64 0]) rfl (by kernel_rfl)
 offs := some_all [(0, 1, true), (2, 0, false), (3, 0, false), (4, 0, false)] rfl ⟨structOf (Tryz.prog.underlying 332), by kernel_rfl, by kernel_rfl⟩
 conc := yes_all ⟨descOf (Tryz.prog.underlying 332), by kernel_rfl, concrete (by kernel_rfl)⟩
def ti340 : TI := { size := some 1, agg := some false, rs := some (.one (.leaf (.ptr))), zero := some (Value.pointer none), conc := true, isPtr := true }
theorem ti340_ok : TIok Tryz.prog 340 ti340 where
 zero := some_all (Value.pointer none) rfl (by kernel_rfl)
 conc := yes_all ⟨descOf (Tryz.prog.underlying 340), by kernel_rfl, concrete (by kernel_rfl)⟩
 isPtr := yes_all ⟨358, by kernel_rfl⟩
def ti343 : TI := { size := some 3, agg := some true, rs := some (.one (.agg [.int .i64, .int .i64, .int .i64])), zero := some (Value.agg #[Value.int .i64 0, Value.int .i64 0, Value.int .i64 0]), offs := some [(0, 0, false), (1, 1, true)], conc := true }
theorem ti343_ok : TIok Tryz.prog 343 ti343 where
 size := some_all (3) rfl (by kernel_rfl)
 agg := some_all (true) rfl (by kernel_rfl)
 zero := some_all (Value.agg #[Value.int .i64 0, Value.int .i64 0, Value.int .i64 0]) rfl (by kernel_rfl)
 offs := some_all [(0, 0, false), (1, 1, true)] rfl ⟨structOf (Tryz.prog.underlying 343), by kernel_rfl, by kernel_rfl⟩
 conc := yes_all ⟨descOf (Tryz.prog.underlying 343), by kernel_rfl, concrete (by kernel_rfl)⟩
def ti344 : TI := { size := some 1, agg := some false, rs := some (.one (.leaf (.slice))), zero := some (Value.slice none 0 0), slc := some (348, 3), conc := true, isSlc := true }
theorem ti344_ok : TIok Tryz.prog 344 ti344 where
 zero := some_all (Value.slice none 0 0) rfl (by kernel_rfl)
 slc := some_all2 348 3 rfl ⟨by kernel_rfl, by kernel_rfl⟩
 conc := yes_all ⟨descOf (Tryz.prog.underlying 344), by kernel_rfl, concrete (by kernel_rfl)⟩
 isSlc := yes_all ⟨348, by kernel_rfl⟩
def ti346 : TI := { size := some 5, agg := some true, rs := some (.one (.agg [.ptr, .slice, .ptr, .int .i64, .int .i64])), zero := some (Value.agg #[Value.pointer none, Value.slice none 0 0, Value.pointer none, Value.int .i64 0, Value.int .i64 0]), offs := some [(0, 0, false), (1, 0, false), (2, 0, false), (3, 0, false), (4, 0, false)], conc := true }
theorem ti346_ok : TIok Tryz.prog 346 ti346 where
 size := some_all (5) rfl (by kernel_rfl)
 agg := some_all (true) rfl (by kernel_rfl)
 zero := some_all (Value.agg #[Value.pointer none, Value.slice none 0 0, Value.pointer none, Value.int .i64 0, Value.int .i64 0]) rfl (by kernel_rfl)
 offs := some_all [(0, 0, false), (1, 0, false), (2, 0, false), (3, 0, false), (4, 0, false)] rfl ⟨structOf (Tryz.prog.underlying 346), by kernel_rfl, by kernel_rfl⟩
 conc := yes_all ⟨descOf (Tryz.prog.underlying 346), by kernel_rfl, concrete (by kernel_rfl)⟩
def ti348 : TI := { size := some 3, agg := some true, rs := some (.one (.agg [.int .i64, .int .i64, .int .i64])), zero := some (Value.agg #[Value.int .i64 0, Value.int .i64 0, Value.int .i64 0]), offs := some [(0, 0, false), (1, 0, false), (2, 0, false)], eqs := some [.i, .i, .i], conc := true }
theorem ti348_ok : TIok Tryz.prog 348 ti348 where
 size := some_all (3) rfl (by kernel_rfl)
 agg := some_all (true) rfl (by kernel_rfl)
 zero := some_all (Value.agg #[Value.int .i64 0, Value.int .i64 0, Value.int .i64 0]) rfl (by kernel_rfl)
 offs := some_all [(0, 0, false), (1, 0, false), (2, 0, false)] rfl ⟨structOf (Tryz.prog.underlying 348), by kernel_rfl, by kernel_rfl⟩
 conc := yes_all ⟨descOf (Tryz.prog.underlying 348), by kernel_rfl, concrete (by kernel_rfl)⟩
 eqs := some_all [.i, .i, .i] rfl (by kernel_rfl)
def ti349 : TI := { rs := some (.tup [.agg [.int .i64, .int .i64, .int .i64], .leaf (.int .i64), .leaf (.int .i64), .leaf (.bool)]) }
theorem ti349_ok : TIok Tryz.prog 349 ti349 where
def ti356 : TI := { size := some 1, agg := some false, rs := some (.one (.leaf (.slice))), zero := some (Value.slice none 0 0), slc := some (364, 6), conc := true, isSlc := true }
theorem ti356_ok : TIok Tryz.prog 356 ti356 where
 zero := some_all (Value.slice none 0 0) rfl (by kernel_rfl)
 slc := some_all2 364 6 rfl ⟨by kernel_rfl, by kernel_rfl⟩
 conc := yes_all ⟨descOf (Tryz.prog.underlying 356), by kernel_rfl, concrete (by kernel_rfl)⟩
 isSlc := yes_all ⟨364, by kernel_rfl⟩
def ti358 : TI := { size := some 2, agg := some true, rs := some (.one (.agg [.slice, .int .i64])), zero := some (Value.agg #[Value.slice none 0 0, Value.int .i64 0]), offs := some [(0, 0, false), (1, 0, false)], conc := true }
theorem ti358_ok : TIok Tryz.prog 358 ti358 where
 size := some_all (2) rfl (by kernel_rfl)
 agg := some_all (true) rfl (by kernel_rfl)
 zero := some_all (Value.agg #[Value.slice none 0 0, Value.int .i64 0]) rfl (by kernel_rfl)
 offs := some_all [(0, 0, false), (1, 0, false)] rfl ⟨structOf (Tryz.prog.underlying 358), by kernel_rfl, by kernel_rfl⟩
 conc := yes_all ⟨descOf (Tryz.prog.underlying 358), by kernel_rfl, concrete (by kernel_rfl)⟩
def ti362 : TI := { size := some 3, agg := some true, rs := some (.one (.agg [.int .i64, .int .i64, .int .i64])), zero := some (Value.agg #[Value.int .i64 0, Value.int .i64 0, Value.int .i64 0]), offs := some [(0, 0, false), (1, 0, false), (2, 0, false)], eqs := some [.i, .i, .i], conc := true }
theorem ti362_ok : TIok Tryz.prog 362 ti362 where
 size := some_all (3) rfl (by kernel_rfl)
 agg := some_all (true) rfl (by kernel_rfl)
 zero := some_all (Value.agg #[Value.int .i64 0, Value.int .i64 0, Value.int .i64 0]) rfl (by kernel_rfl)
 offs := some_all [(0, 0, false), (1, 0, false), (2, 0, false)] rfl ⟨structOf (Tryz.prog.underlying 362), by kernel_rfl, by kernel_rfl⟩
 conc := yes_all ⟨descOf (Tryz.prog.underlying 362), by kernel_rfl, concrete (by kernel_rfl)⟩
 eqs := some_all [.i, .i, .i] rfl (by kernel_rfl)
def ti364 : TI := { size := some 6, agg := some true, rs := some (.one (.agg [.int .i64, .int .i64, .int .i64, .int .i64, .int .i64, .int .i64])), zero := some (Value.agg #[Value.int .i64 0, Value.int .i64 0, Value.int .i64 0, Value.int .i64 0, Value.int .i64 0, Value.int .i64 0]), offs := some [(0, 2, true), (3, 2, true)], conc := true }
theorem ti364_ok : TIok Tryz.prog 364 ti364 where
 size := some_all (6) rfl (by kernel_rfl)
 agg := some_all (true) rfl (by kernel_rfl)
 zero := some_all (Value.agg #[Value.int .i64 0, Value.int .i64 0, Value.int .i64 0, Value.int .i64 0, Value.int .i64 0, Value.int .i64 0]) rfl (by kernel_rfl)
 offs := some_all [(0, 2, true), (3, 2, true)] rfl ⟨structOf (Tryz.prog.underlying 364), by kernel_rfl, by kernel_rfl⟩
 conc := yes_all ⟨descOf (Tryz.prog.underlying 364), by kernel_rfl, concrete (by kernel_rfl)⟩
def ti365 : TI := { size := some 2, agg := some true, rs := some (.one (.agg [.int .i64, .int .i64])), zero := some (Value.agg #[Value.int .i64 0, Value.int .i64 0]), arr := some (2, 1), conc := true }
theorem ti365_ok : TIok Tryz.prog 365 ti365 where
 size := some_all (2) rfl (by kernel_rfl)
 agg := some_all (true) rfl (by kernel_rfl)
 zero := some_all (Value.agg #[Value.int .i64 0, Value.int .i64 0]) rfl (by kernel_rfl)
 arr := some_all2 2 1 rfl ⟨3, by kernel_rfl, by kernel_rfl⟩
 conc := yes_all ⟨descOf (Tryz.prog.underlying 365), by kernel_rfl, concrete (by kernel_rfl)⟩
def ti393 : TI := { rs := some (.tup [.agg [.int .i64, .str], .leaf (.bool)]) }
theorem ti393_ok : TIok Tryz.prog 393 ti393 where
def tab0 : List (Nat × TI) := [(0, ti0), (2, ti2), (3, ti3), (4, ti4), (5, ti5), (9, ti9), (22, ti22), (23, ti23), (24, ti24), (25, ti25), (27, ti27), (28, ti28), (31, ti31), (32, ti32), (33, ti33), (35, ti35), (37, ti37), (39, ti39), (40, ti40), (42, ti42), (43, ti43), (48, ti48), (49, ti49), (50, ti50), (53, ti53)]
theorem tab0_ok : ∀ p ∈ tab0, TIok Tryz.prog p.1 p.2 :=
 tabCons ti0_ok <| tabCons ti2_ok <| tabCons ti3_ok <| tabCons ti4_ok <| tabCons ti5_ok <| tabCons ti9_ok <| tabCons ti22_ok <| tabCons ti23_ok <| tabCons ti24_ok <| tabCons ti25_ok <| tabCons ti27_ok <| tabCons ti28_ok <| tabCons ti31_ok <| tabCons ti32_ok <| tabCons ti33_ok <| tabCons ti35_ok <| tabCons ti37_ok <| tabCons ti39_ok <| tabCons ti40_ok <| tabCons ti42_ok <| tabCons ti43_ok <| tabCons ti48_ok <| tabCons ti49_ok <| tabCons ti50_ok <| tabCons ti53_ok <| tabNil
def tab1 : List (Nat × TI) := [(55, ti55), (57, ti57), (58, ti58), (62, ti62), (63, ti63), (66, ti66), (71, ti71), (72, ti72), (86, ti86), (91, ti91), (95, ti95), (98, ti98), (100, ti100), (104, ti104), (105, ti105), (107, ti107), (108, ti108), (109, ti109), (111, ti111), (113, ti113), (115, ti115), (119, ti119), (120, ti120), (134, ti134), (136, ti136)]
theorem tab1_ok : ∀ p ∈ tab1, TIok Tryz.prog p.1 p.2 :=
 tabCons ti55_ok <| tabCons ti57_ok <| tabCons ti58_ok <| tabCons ti62_ok <| tabCons ti63_ok <| tabCons ti66_ok <| tabCons ti71_ok <| tabCons ti72_ok <| tabCons ti86_ok <| tabCons ti91_ok <| tabCons ti95_ok <| tabCons ti98_ok <| tabCons ti100_ok <| tabCons ti104_ok <| tabCons ti105_ok <| tabCons ti107_ok <| tabCons ti108_ok <| tabCons ti109_ok <| tabCons ti111_ok <| tabCons ti113_ok <| tabCons ti115_ok <| tabCons ti119_ok <| tabCons ti120_ok <| tabCons ti134_ok <| tabCons ti136_ok <| tabNil
def tab2 : List (Nat × TI) := [(137, ti137), (140, ti140), (151, ti151), (157, ti157), (163, ti163), (168, ti168), (169, ti169), (171, ti171), (172, ti172), (174, ti174), (177, ti177), (178, ti178), (180, ti180), (187, ti187), (190, ti190), (192, ti192), (194, ti194), (199, ti199), (200, ti200), (201, ti201), (203, ti203), (207, ti207), (209, ti209), (211, ti211), (213, ti213)]
theorem tab2_ok : ∀ p ∈ tab2, TIok Tryz.prog p.1 p.2 :=
 tabCons ti137_ok <| tabCons ti140_ok <| tabCons ti151_ok <| tabCons ti157_ok <| tabCons ti163_ok <| tabCons ti168_ok <| tabCons ti169_ok <| tabCons ti171_ok <| tabCons ti172_ok <| tabCons ti174_ok <| tabCons ti177_ok <| tabCons ti178_ok <| tabCons ti180_ok <| tabCons ti187_ok <| tabCons ti190_ok <| tabCons ti192_ok <| tabCons ti194_ok <| tabCons ti199_ok <| tabCons ti200_ok <| tabCons ti201_ok <| tabCons ti203_ok <| tabCons ti207_ok <| tabCons ti209_ok <| tabCons ti211_ok <| tabCons ti213_ok <| tabNil
def tab3 : List (Nat × TI) := [(215, ti215), (216, ti216), (218, ti218), (221, ti221), (225, ti225), (226, ti226), (228, ti228), (233, ti233), (239, ti239), (242, ti242), (243, ti243), (254, ti254), (258, ti258), (260, ti260), (282, ti282), (283, ti283), (284, ti284), (286, ti286), (299, ti299), (304, ti304), (307, ti307), (312, ti312), (318, ti318), (327, ti327), (330, ti330)]
theorem tab3_ok : ∀ p ∈ tab3, TIok Tryz.prog p.1 p.2 :=
 tabCons ti215_ok <| tabCons ti216_ok <| tabCons ti218_ok <| tabCons ti221_ok <| tabCons ti225_ok <| tabCons ti226_ok <| tabCons ti228_ok <| tabCons ti233_ok <| tabCons ti239_ok <| tabCons ti242_ok <| tabCons ti243_ok <| tabCons ti254_ok <| tabCons ti258_ok <| tabCons ti260_ok <| tabCons ti282_ok <| tabCons ti283_ok <| tabCons ti284_ok <| tabCons ti286_ok <| tabCons ti299_ok <| tabCons ti304_ok <| tabCons ti307_ok <| tabCons ti312_ok <| tabCons ti318_ok <| tabCons ti327_ok <| tabCons ti330_ok <| tabNil
def tab4 : List (Nat × TI) := [(332, ti332), (340, ti340), (343, ti343), (344, ti344), (346, ti346), (348, ti348), (349, ti349), (356, ti356), (358, ti358), (362, ti362), (364, ti364), (365, ti365), (393, ti393)]
theorem tab4_ok : ∀ p ∈ tab4, TIok Tryz.prog p.1 p.2 :=
 tabCons ti332_ok <| tabCons ti340_ok <| tabCons ti343_ok <| tabCons ti344_ok <| tabCons ti346_ok <| tabCons ti348_ok <| tabCons ti349_ok <| tabCons ti356_ok <| tabCons ti358_ok <| tabCons ti362_ok <| tabCons ti364_ok <| tabCons ti365_ok <| tabCons ti393_ok <| tabNil
def tab : List (Nat × TI) := tab0 ++ tab1 ++ tab2 ++ tab3 ++ tab4
set_option maxRecDepth 100000 in
theorem tab_ok : ∀ p ∈ tab, TIok Tryz.prog p.1 p.2 :=
 tabApp (tabApp (tabApp (tabApp (tab0_ok) tab1_ok) tab2_ok) tab3_ok) tab4_ok
theorem mixed_ok : Tryz.prog.follows .mixedOrders = true := by kernel_rfl
noncomputable def ctx : Ctx := mkCtx Tryz.prog tab
theorem ctxOk : ctx.Ok := mkCtx_ok Tryz.prog tab tab_ok mixed_ok
theorem cden {f : FuncId} {fn : Func} {args : List Value} {w : World} {R : RW} {p : Prop} (hf : Tryz.prog.funcs[f]? = some fn) (hb : fn.body = some (bodyOf fn)) (hn : Nat.ble args.length fn.ntmps = true) (hw : wf ctx fn.ntmps (bodyOf fn) = true) (h : p = denFun ctx (bodyOf fn) fn.results.toList args w R) (hh : p) : Calls Tryz.prog f args.toArray w fun e w' => ∃ v, e = .returned v ∧ R v w' :=
 calls_of_den ctxOk hf hb hn hw (Eq.mp h hh)
end Go.Proofs.YtboemnagahmlkaaGreat.Eng
