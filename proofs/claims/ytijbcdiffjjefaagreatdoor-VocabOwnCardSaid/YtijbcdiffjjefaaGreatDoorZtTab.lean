/- The types that this claim's functions name, as the loaded program has them. -/
import Derived.Test.YtijbcdiffjjefaaGreatDoorZtEng
import Derived.Test.YtijbcdiffjjefaaGreatDoorProg
import Derived.KernelRfl
set_option linter.unusedVariables false
namespace Go.Proofs.YtijbcdiffjjefaaGreatDoor.Eng
open Go
abbrev OA:=Option Addr
abbrev KW:=List Value→World→Prop
abbrev RW:=Value→World→Prop
abbrev CP:=Calls Tryz.prog
abbrev CR (k:Nat) (a:Array Value) (w:World) (R:RW):Prop:=CP k a w fun e w'=>∃v,e= .returned v∧R v w'
def LO:TI:={rs:=some (.tup [])}
theorem H8:aI Tryz.prog 0 LO where
def LR:TI:={size:=some 1,agg:=some false,rs:=some (.one (.leaf (.int .i64))),zero:=some (Value.int .i64 0),intk:=some .i64,conc:=true}
theorem H1:aI Tryz.prog 2 LR where
 zero:=ac (Value.int .i64 0) rfl (by kernel_rfl)
 intk:=ac (IntKind.i64) rfl (by kernel_rfl)
 conc:=ak ⟨aB (Tryz.prog.underlying 2),by kernel_rfl,ap (by kernel_rfl)⟩
def LM:TI:={size:=some 1,agg:=some false,rs:=some (.one (.leaf (.int .i64))),zero:=some (Value.int .i64 0),intk:=some .i64,conc:=true}
theorem HV:aI Tryz.prog 3 LM where
 zero:=ac (Value.int .i64 0) rfl (by kernel_rfl)
 intk:=ac (IntKind.i64) rfl (by kernel_rfl)
 conc:=ak ⟨aB (Tryz.prog.underlying 3),by kernel_rfl,ap (by kernel_rfl)⟩
def LP:TI:={size:=some 1,agg:=some false,rs:=some (.one (.leaf (.bool))),zero:=some (Value.bool false),conc:=true,isBool:=true}
theorem H3:aI Tryz.prog 4 LP where
 zero:=ac (Value.bool false) rfl (by kernel_rfl)
 conc:=ak ⟨aB (Tryz.prog.underlying 4),by kernel_rfl,ap (by kernel_rfl)⟩
 isBool:=ak (by kernel_rfl)
def LN:TI:={size:=some 1,agg:=some false,rs:=some (.one (.leaf (.int .u8))),zero:=some (Value.int .u8 0),intk:=some .u8,conc:=true}
theorem HY:aI Tryz.prog 5 LN where
 zero:=ac (Value.int .u8 0) rfl (by kernel_rfl)
 intk:=ac (IntKind.u8) rfl (by kernel_rfl)
 conc:=ak ⟨aB (Tryz.prog.underlying 5),by kernel_rfl,ap (by kernel_rfl)⟩
def LQ:TI:={size:=some 1,agg:=some false,rs:=some (.one (.leaf (.str))),zero:=some (Value.string ⟨#[]⟩),isStr:=true,conc:=true}
theorem H2:aI Tryz.prog 9 LQ where
 zero:=ac (Value.string ⟨#[]⟩) rfl (by kernel_rfl)
 isStr:=ak (by kernel_rfl)
 conc:=ak ⟨aB (Tryz.prog.underlying 9),by kernel_rfl,ap (by kernel_rfl)⟩
def Kp:TI:={size:=some 1,agg:=some false,rs:=some (.one (.leaf (.slice))),zero:=some (Value.slice none 0 0),slc:=some (242,1),conc:=true,isSlc:=true}
theorem Fz:aI Tryz.prog 22 Kp where
 zero:=ac (Value.slice none 0 0) rfl (by kernel_rfl)
 slc:=br 242 1 rfl ⟨by kernel_rfl,by kernel_rfl⟩
 conc:=ak ⟨aB (Tryz.prog.underlying 22),by kernel_rfl,ap (by kernel_rfl)⟩
 isSlc:=ak ⟨242,by kernel_rfl⟩
def Iv:TI:={size:=some 1,agg:=some false,rs:=some (.one (.leaf (.slice))),zero:=some (Value.slice none 0 0),slc:=some (89,3),conc:=true,isSlc:=true}
theorem Fn:aI Tryz.prog 23 Iv where
 zero:=ac (Value.slice none 0 0) rfl (by kernel_rfl)
 slc:=br 89 3 rfl ⟨by kernel_rfl,by kernel_rfl⟩
 conc:=ak ⟨aB (Tryz.prog.underlying 23),by kernel_rfl,ap (by kernel_rfl)⟩
 isSlc:=ak ⟨89,by kernel_rfl⟩
def KD:TI:={size:=some 1,agg:=some false,rs:=some (.one (.leaf (.slice))),zero:=some (Value.slice none 0 0),slc:=some (170,2),conc:=true,isSlc:=true}
theorem FA:aI Tryz.prog 24 KD where
 zero:=ac (Value.slice none 0 0) rfl (by kernel_rfl)
 slc:=br 170 2 rfl ⟨by kernel_rfl,by kernel_rfl⟩
 conc:=ak ⟨aB (Tryz.prog.underlying 24),by kernel_rfl,ap (by kernel_rfl)⟩
 isSlc:=ak ⟨170,by kernel_rfl⟩
def IF:TI:={size:=some 1,agg:=some false,rs:=some (.one (.leaf (.slice))),zero:=some (Value.slice none 0 0),slc:=some (87,2),conc:=true,isSlc:=true}
theorem FP:aI Tryz.prog 25 IF where
 zero:=ac (Value.slice none 0 0) rfl (by kernel_rfl)
 slc:=br 87 2 rfl ⟨by kernel_rfl,by kernel_rfl⟩
 conc:=ak ⟨aB (Tryz.prog.underlying 25),by kernel_rfl,ap (by kernel_rfl)⟩
 isSlc:=ak ⟨87,by kernel_rfl⟩
def Js:TI:={size:=some 4,agg:=some true,rs:=some (.one (.agg [.slice,.slice,.slice,.slice])),zero:=some (Value.agg #[Value.slice none 0 0,Value.slice none 0 0,Value.slice none 0 0,Value.slice none 0 0]),offs:=some [(0,0,false),(1,0,false),(2,0,false),(3,0,false)],conc:=true}
theorem Fv:aI Tryz.prog 27 Js where
 size:=ac (4) rfl (by kernel_rfl)
 agg:=ac (true) rfl (by kernel_rfl)
 zero:=ac (Value.agg #[Value.slice none 0 0,Value.slice none 0 0,Value.slice none 0 0,Value.slice none 0 0]) rfl (by kernel_rfl)
 offs:=ac [(0,0,false),(1,0,false),(2,0,false),(3,0,false)] rfl ⟨bc (Tryz.prog.underlying 27),by kernel_rfl,by kernel_rfl⟩
 conc:=ak ⟨aB (Tryz.prog.underlying 27),by kernel_rfl,ap (by kernel_rfl)⟩
def It:TI:={size:=some 1,agg:=some false,rs:=some (.one (.leaf (.slice))),zero:=some (Value.slice none 0 0),slc:=some (3,1),conc:=true,isSlc:=true}
theorem FB:aI Tryz.prog 28 It where
 zero:=ac (Value.slice none 0 0) rfl (by kernel_rfl)
 slc:=br 3 1 rfl ⟨by kernel_rfl,by kernel_rfl⟩
 conc:=ak ⟨aB (Tryz.prog.underlying 28),by kernel_rfl,ap (by kernel_rfl)⟩
 isSlc:=ak ⟨3,by kernel_rfl⟩
def I':TI:={size:=some 1,agg:=some false,rs:=some (.one (.leaf (.ptr))),zero:=some (Value.pointer none),conc:=true,isPtr:=true}
theorem Fl:aI Tryz.prog 31 I' where
 zero:=ac (Value.pointer none) rfl (by kernel_rfl)
 conc:=ak ⟨aB (Tryz.prog.underlying 31),by kernel_rfl,ap (by kernel_rfl)⟩
 isPtr:=ak ⟨186,by kernel_rfl⟩
def Ji:TI:={size:=some 1,agg:=some false,rs:=some (.one (.leaf (.slice))),zero:=some (Value.slice none 0 0),slc:=some (9,1),conc:=true,isSlc:=true}
theorem FG:aI Tryz.prog 32 Ji where
 zero:=ac (Value.slice none 0 0) rfl (by kernel_rfl)
 slc:=br 9 1 rfl ⟨by kernel_rfl,by kernel_rfl⟩
 conc:=ak ⟨aB (Tryz.prog.underlying 32),by kernel_rfl,ap (by kernel_rfl)⟩
 isSlc:=ak ⟨9,by kernel_rfl⟩
def KT:TI:={size:=some 1,agg:=some false,rs:=some (.one (.leaf (.slice))),zero:=some (Value.slice none 0 0),slc:=some (85,2),conc:=true,isSlc:=true}
theorem Gc:aI Tryz.prog 33 KT where
 zero:=ac (Value.slice none 0 0) rfl (by kernel_rfl)
 slc:=br 85 2 rfl ⟨by kernel_rfl,by kernel_rfl⟩
 conc:=ak ⟨aB (Tryz.prog.underlying 33),by kernel_rfl,ap (by kernel_rfl)⟩
 isSlc:=ak ⟨85,by kernel_rfl⟩
def Jx:TI:={size:=some 2,agg:=some true,rs:=some (.one (.agg [.slice,.slice])),zero:=some (Value.agg #[Value.slice none 0 0,Value.slice none 0 0]),offs:=some [(0,0,false),(1,0,false)],conc:=true}
theorem FT:aI Tryz.prog 35 Jx where
 size:=ac (2) rfl (by kernel_rfl)
 agg:=ac (true) rfl (by kernel_rfl)
 zero:=ac (Value.agg #[Value.slice none 0 0,Value.slice none 0 0]) rfl (by kernel_rfl)
 offs:=ac [(0,0,false),(1,0,false)] rfl ⟨bc (Tryz.prog.underlying 35),by kernel_rfl,by kernel_rfl⟩
 conc:=ak ⟨aB (Tryz.prog.underlying 35),by kernel_rfl,ap (by kernel_rfl)⟩
def IM:TI:={size:=some 2,agg:=some true,rs:=some (.one (.agg [.slice,.slice])),zero:=some (Value.agg #[Value.slice none 0 0,Value.slice none 0 0]),offs:=some [(0,0,false),(1,0,false)],conc:=true}
theorem FY:aI Tryz.prog 37 IM where
 size:=ac (2) rfl (by kernel_rfl)
 agg:=ac (true) rfl (by kernel_rfl)
 zero:=ac (Value.agg #[Value.slice none 0 0,Value.slice none 0 0]) rfl (by kernel_rfl)
 offs:=ac [(0,0,false),(1,0,false)] rfl ⟨bc (Tryz.prog.underlying 37),by kernel_rfl,by kernel_rfl⟩
 conc:=ak ⟨aB (Tryz.prog.underlying 37),by kernel_rfl,ap (by kernel_rfl)⟩
def Ko:TI:={size:=some 5,agg:=some true,rs:=some (.one (.agg [.slice,.slice,.slice,.slice,.slice])),zero:=some (Value.agg #[Value.slice none 0 0,Value.slice none 0 0,Value.slice none 0 0,Value.slice none 0 0,Value.slice none 0 0]),offs:=some [(0,1,true),(2,1,true),(4,0,false)],conc:=true}
theorem F9:aI Tryz.prog 39 Ko where
 size:=ac (5) rfl (by kernel_rfl)
 agg:=ac (true) rfl (by kernel_rfl)
 zero:=ac (Value.agg #[Value.slice none 0 0,Value.slice none 0 0,Value.slice none 0 0,Value.slice none 0 0,Value.slice none 0 0]) rfl (by kernel_rfl)
 offs:=ac [(0,1,true),(2,1,true),(4,0,false)] rfl ⟨bc (Tryz.prog.underlying 39),by kernel_rfl,by kernel_rfl⟩
 conc:=ak ⟨aB (Tryz.prog.underlying 39),by kernel_rfl,ap (by kernel_rfl)⟩
def J4:TI:={size:=some 1,agg:=some false,rs:=some (.one (.leaf (.ptr))),zero:=some (Value.pointer none),conc:=true,isPtr:=true}
theorem F3:aI Tryz.prog 42 J4 where
 zero:=ac (Value.pointer none) rfl (by kernel_rfl)
 conc:=ak ⟨aB (Tryz.prog.underlying 42),by kernel_rfl,ap (by kernel_rfl)⟩
 isPtr:=ak ⟨113,by kernel_rfl⟩
def JE:TI:={size:=some 1,agg:=some false,rs:=some (.one (.leaf (.int .i64))),zero:=some (Value.int .i64 0),intk:=some .i64,conc:=true}
theorem Fd:aI Tryz.prog 43 JE where
 zero:=ac (Value.int .i64 0) rfl (by kernel_rfl)
 intk:=ac (IntKind.i64) rfl (by kernel_rfl)
 conc:=ak ⟨aB (Tryz.prog.underlying 43),by kernel_rfl,ap (by kernel_rfl)⟩
def Kb:TI:={size:=some 1,agg:=some false,rs:=some (.one (.leaf (.ptr))),zero:=some (Value.pointer none),conc:=true,isPtr:=true}
theorem Fy:aI Tryz.prog 46 Kb where
 zero:=ac (Value.pointer none) rfl (by kernel_rfl)
 conc:=ak ⟨aB (Tryz.prog.underlying 46),by kernel_rfl,ap (by kernel_rfl)⟩
 isPtr:=ak ⟨133,by kernel_rfl⟩
def Jk:TI:={rs:=some (.tup [.leaf (.int .i64),.leaf (.bool)])}
theorem F5:aI Tryz.prog 51 Jk where
def KE:TI:={size:=some 1,agg:=some false,rs:=some (.one (.leaf (.any))),zero:=some (Value.nilFunc),conc:=true}
theorem Fx:aI Tryz.prog 54 KE where
 zero:=ac (Value.nilFunc) rfl (by kernel_rfl)
 conc:=ak ⟨aB (Tryz.prog.underlying 54),by kernel_rfl,ap (by kernel_rfl)⟩
def Ka:TI:={size:=some 1,agg:=some false,rs:=some (.one (.leaf (.slice))),zero:=some (Value.slice none 0 0),slc:=some (5,1),conc:=true,isSlc:=true}
theorem FR:aI Tryz.prog 57 Ka where
 zero:=ac (Value.slice none 0 0) rfl (by kernel_rfl)
 slc:=br 5 1 rfl ⟨by kernel_rfl,by kernel_rfl⟩
 conc:=ak ⟨aB (Tryz.prog.underlying 57),by kernel_rfl,ap (by kernel_rfl)⟩
 isSlc:=ak ⟨5,by kernel_rfl⟩
def IS:TI:={rs:=some (.tup [.leaf (.int .i64),.leaf (.int .i64)])}
theorem Ft:aI Tryz.prog 58 IS where
def JO:TI:={size:=some 1,agg:=some false,rs:=some (.one (.leaf (.ptr))),zero:=some (Value.pointer none),conc:=true,isPtr:=true}
theorem FF:aI Tryz.prog 61 JO where
 zero:=ac (Value.pointer none) rfl (by kernel_rfl)
 conc:=ak ⟨aB (Tryz.prog.underlying 61),by kernel_rfl,ap (by kernel_rfl)⟩
 isPtr:=ak ⟨154,by kernel_rfl⟩
def JU:TI:={size:=some 1,agg:=some false,rs:=some (.one (.leaf (.ptr))),zero:=some (Value.pointer none),conc:=true,isPtr:=true}
theorem Fo:aI Tryz.prog 63 JU where
 zero:=ac (Value.pointer none) rfl (by kernel_rfl)
 conc:=ak ⟨aB (Tryz.prog.underlying 63),by kernel_rfl,ap (by kernel_rfl)⟩
 isPtr:=ak ⟨159,by kernel_rfl⟩
def IV:TI:={rs:=some (.tup [.leaf (.ptr),.leaf (.int .i64),.leaf (.int .i64)])}
theorem Fs:aI Tryz.prog 68 IV where
def JK:TI:={size:=some 6,agg:=some true,rs:=some (.one (.agg [.bool,.slice,.slice,.slice,.slice,.slice])),zero:=some (Value.agg #[Value.bool false,Value.slice none 0 0,Value.slice none 0 0,Value.slice none 0 0,Value.slice none 0 0,Value.slice none 0 0]),offs:=some [(0,0,false),(1,0,false),(2,0,false),(3,0,false),(4,0,false),(5,0,false)],conc:=true}
theorem Gb:aI Tryz.prog 71 JK where
 size:=ac (6) rfl (by kernel_rfl)
 agg:=ac (true) rfl (by kernel_rfl)
 zero:=ac (Value.agg #[Value.bool false,Value.slice none 0 0,Value.slice none 0 0,Value.slice none 0 0,Value.slice none 0 0,Value.slice none 0 0]) rfl (by kernel_rfl)
 offs:=ac [(0,0,false),(1,0,false),(2,0,false),(3,0,false),(4,0,false),(5,0,false)] rfl ⟨bc (Tryz.prog.underlying 71),by kernel_rfl,by kernel_rfl⟩
 conc:=ak ⟨aB (Tryz.prog.underlying 71),by kernel_rfl,ap (by kernel_rfl)⟩
def J':TI:={rs:=some (.tup [.agg [.bool,.slice,.slice,.slice,.slice,.slice],.leaf (.int .i64)])}
theorem Fw:aI Tryz.prog 72 J' where
def Kf:TI:={rs:=some (.tup [.agg [.slice,.slice,.slice,.slice,.slice],.leaf (.int .i64),.leaf (.int .i64),.leaf (.int .i64)])}
theorem FH:aI Tryz.prog 74 Kf where
def Kx:TI:={size:=some 1,agg:=some false,rs:=some (.one (.leaf (.any))),zero:=some (Value.nilFunc),conc:=true}
theorem Fk:aI Tryz.prog 78 Kx where
 zero:=ac (Value.nilFunc) rfl (by kernel_rfl)
 conc:=ak ⟨aB (Tryz.prog.underlying 78),by kernel_rfl,ap (by kernel_rfl)⟩
def IH:TI:={size:=some 2,agg:=some true,rs:=some (.one (.agg [.int .i64,.int .i64])),zero:=some (Value.agg #[Value.int .i64 0,Value.int .i64 0]),offs:=some [(0,0,false),(1,0,false)],eqs:=some [.i,.i],conc:=true}
theorem FC:aI Tryz.prog 85 IH where
 size:=ac (2) rfl (by kernel_rfl)
 agg:=ac (true) rfl (by kernel_rfl)
 zero:=ac (Value.agg #[Value.int .i64 0,Value.int .i64 0]) rfl (by kernel_rfl)
 offs:=ac [(0,0,false),(1,0,false)] rfl ⟨bc (Tryz.prog.underlying 85),by kernel_rfl,by kernel_rfl⟩
 conc:=ak ⟨aB (Tryz.prog.underlying 85),by kernel_rfl,ap (by kernel_rfl)⟩
 eqs:=ac [.i,.i] rfl (by kernel_rfl)
def IY:TI:={size:=some 2,agg:=some true,rs:=some (.one (.agg [.int .i64,.str])),zero:=some (Value.agg #[Value.int .i64 0,Value.string ⟨#[]⟩]),offs:=some [(0,0,false),(1,0,false)],eqs:=some [.i,.s],conc:=true}
theorem FI:aI Tryz.prog 87 IY where
 size:=ac (2) rfl (by kernel_rfl)
 agg:=ac (true) rfl (by kernel_rfl)
 zero:=ac (Value.agg #[Value.int .i64 0,Value.string ⟨#[]⟩]) rfl (by kernel_rfl)
 offs:=ac [(0,0,false),(1,0,false)] rfl ⟨bc (Tryz.prog.underlying 87),by kernel_rfl,by kernel_rfl⟩
 conc:=ak ⟨aB (Tryz.prog.underlying 87),by kernel_rfl,ap (by kernel_rfl)⟩
 eqs:=ac [.i,.s] rfl (by kernel_rfl)
def If:TI:={size:=some 3,agg:=some true,rs:=some (.one (.agg [.int .i64,.int .i64,.int .i64])),zero:=some (Value.agg #[Value.int .i64 0,Value.int .i64 0,Value.int .i64 0]),offs:=some [(0,0,false),(1,0,false),(2,0,false)],eqs:=some [.i,.i,.i],conc:=true}
theorem Fj:aI Tryz.prog 89 If where
 size:=ac (3) rfl (by kernel_rfl)
 agg:=ac (true) rfl (by kernel_rfl)
 zero:=ac (Value.agg #[Value.int .i64 0,Value.int .i64 0,Value.int .i64 0]) rfl (by kernel_rfl)
 offs:=ac [(0,0,false),(1,0,false),(2,0,false)] rfl ⟨bc (Tryz.prog.underlying 89),by kernel_rfl,by kernel_rfl⟩
 conc:=ak ⟨aB (Tryz.prog.underlying 89),by kernel_rfl,ap (by kernel_rfl)⟩
 eqs:=ac [.i,.i,.i] rfl (by kernel_rfl)
def Kt:TI:={rs:=some (.tup [.leaf (.slice),.leaf (.int .i64),.leaf (.int .i64)])}
theorem F6:aI Tryz.prog 94 Kt where
def Hu:TI:={size:=some 1,agg:=some false,rs:=some (.one (.leaf (.ptr))),zero:=some (Value.pointer none),conc:=true,isPtr:=true}
theorem Do:aI Tryz.prog 100 Hu where
 zero:=ac (Value.pointer none) rfl (by kernel_rfl)
 conc:=ak ⟨aB (Tryz.prog.underlying 100),by kernel_rfl,ap (by kernel_rfl)⟩
 isPtr:=ak ⟨261,by kernel_rfl⟩
def Hy:TI:={size:=some 1,agg:=some false,rs:=some (.one (.leaf (.ptr))),zero:=some (Value.pointer none),conc:=true,isPtr:=true}
theorem Ek:aI Tryz.prog 102 Hy where
 zero:=ac (Value.pointer none) rfl (by kernel_rfl)
 conc:=ak ⟨aB (Tryz.prog.underlying 102),by kernel_rfl,ap (by kernel_rfl)⟩
 isPtr:=ak ⟨288,by kernel_rfl⟩
def Gj:TI:={size:=some 1,agg:=some false,rs:=some (.one (.leaf (.ptr))),zero:=some (Value.pointer none),conc:=true,isPtr:=true}
theorem CM:aI Tryz.prog 104 Gj where
 zero:=ac (Value.pointer none) rfl (by kernel_rfl)
 conc:=ak ⟨aB (Tryz.prog.underlying 104),by kernel_rfl,ap (by kernel_rfl)⟩
 isPtr:=ak ⟨250,by kernel_rfl⟩
def GD:TI:={rs:=some (.tup [.leaf (.slice),.leaf (.int .i64)])}
theorem DW:aI Tryz.prog 106 GD where
def GU:TI:={size:=some 1,agg:=some false,rs:=some (.one (.leaf (.map))),zero:=some (Value.map none),elemSh:=some (.leaf (.int .i64)),conc:=true,isMap:=true}
theorem Dk:aI Tryz.prog 108 GU where
 zero:=ac (Value.map none) rfl (by kernel_rfl)
 conc:=ak ⟨aB (Tryz.prog.underlying 108),by kernel_rfl,ap (by kernel_rfl)⟩
 isMap:=ak ⟨3,3,by kernel_rfl⟩
def Gm:TI:={size:=some 1,agg:=some false,rs:=some (.one (.leaf (.slice))),zero:=some (Value.slice none 0 0),slc:=some (111,1),conc:=true,isSlc:=true}
theorem C6:aI Tryz.prog 109 Gm where
 zero:=ac (Value.slice none 0 0) rfl (by kernel_rfl)
 slc:=br 111 1 rfl ⟨by kernel_rfl,by kernel_rfl⟩
 conc:=ak ⟨aB (Tryz.prog.underlying 109),by kernel_rfl,ap (by kernel_rfl)⟩
 isSlc:=ak ⟨111,by kernel_rfl⟩
def GO:TI:={size:=some 1,agg:=some false,rs:=some (.one (.leaf (.slice))),zero:=some (Value.slice none 0 0),slc:=some (138,1),conc:=true,isSlc:=true}
theorem Co:aI Tryz.prog 110 GO where
 zero:=ac (Value.slice none 0 0) rfl (by kernel_rfl)
 slc:=br 138 1 rfl ⟨by kernel_rfl,by kernel_rfl⟩
 conc:=ak ⟨aB (Tryz.prog.underlying 110),by kernel_rfl,ap (by kernel_rfl)⟩
 isSlc:=ak ⟨138,by kernel_rfl⟩
def G4:TI:={size:=some 1,agg:=some false,rs:=some (.one (.leaf (.slice))),zero:=some (Value.slice none 0 0),slc:=some (138,1),conc:=true,isSlc:=true}
theorem EB:aI Tryz.prog 111 G4 where
 zero:=ac (Value.slice none 0 0) rfl (by kernel_rfl)
 slc:=br 138 1 rfl ⟨by kernel_rfl,by kernel_rfl⟩
 conc:=ak ⟨aB (Tryz.prog.underlying 111),by kernel_rfl,ap (by kernel_rfl)⟩
 isSlc:=ak ⟨138,by kernel_rfl⟩
def Hq:TI:={size:=some 4,agg:=some true,rs:=some (.one (.agg [.slice,.map,.slice,.slice])),zero:=some (Value.agg #[Value.slice none 0 0,Value.map none,Value.slice none 0 0,Value.slice none 0 0]),offs:=some [(0,0,false),(1,0,false),(2,0,false),(3,0,false)],conc:=true}
theorem Ck:aI Tryz.prog 113 Hq where
 size:=ac (4) rfl (by kernel_rfl)
 agg:=ac (true) rfl (by kernel_rfl)
 zero:=ac (Value.agg #[Value.slice none 0 0,Value.map none,Value.slice none 0 0,Value.slice none 0 0]) rfl (by kernel_rfl)
 offs:=ac [(0,0,false),(1,0,false),(2,0,false),(3,0,false)] rfl ⟨bc (Tryz.prog.underlying 113),by kernel_rfl,by kernel_rfl⟩
 conc:=ak ⟨aB (Tryz.prog.underlying 113),by kernel_rfl,ap (by kernel_rfl)⟩
def GI:TI:={size:=some 1,agg:=some false,rs:=some (.one (.leaf (.slice))),zero:=some (Value.slice none 0 0),slc:=some (28,1),conc:=true,isSlc:=true}
theorem DD:aI Tryz.prog 116 GI where
 zero:=ac (Value.slice none 0 0) rfl (by kernel_rfl)
 slc:=br 28 1 rfl ⟨by kernel_rfl,by kernel_rfl⟩
 conc:=ak ⟨aB (Tryz.prog.underlying 116),by kernel_rfl,ap (by kernel_rfl)⟩
 isSlc:=ak ⟨28,by kernel_rfl⟩
def Hg:TI:={size:=some 1,agg:=some false,rs:=some (.one (.leaf (.slice))),zero:=some (Value.slice none 0 0),slc:=some (4,1),conc:=true,isSlc:=true}
theorem DI:aI Tryz.prog 117 Hg where
 zero:=ac (Value.slice none 0 0) rfl (by kernel_rfl)
 slc:=br 4 1 rfl ⟨by kernel_rfl,by kernel_rfl⟩
 conc:=ak ⟨aB (Tryz.prog.underlying 117),by kernel_rfl,ap (by kernel_rfl)⟩
 isSlc:=ak ⟨4,by kernel_rfl⟩
def Gl:TI:={size:=some 4,agg:=some true,rs:=some (.one (.agg [.int .u32,.int .i32,.int .u32,.slice])),zero:=some (Value.agg #[Value.int .u32 0,Value.int .i32 0,Value.int .u32 0,Value.slice none 0 0]),offs:=some [(0,2,true),(3,0,false)],conc:=true}
theorem CJ:aI Tryz.prog 131 Gl where
 size:=ac (4) rfl (by kernel_rfl)
 agg:=ac (true) rfl (by kernel_rfl)
 zero:=ac (Value.agg #[Value.int .u32 0,Value.int .i32 0,Value.int .u32 0,Value.slice none 0 0]) rfl (by kernel_rfl)
 offs:=ac [(0,2,true),(3,0,false)] rfl ⟨bc (Tryz.prog.underlying 131),by kernel_rfl,by kernel_rfl⟩
 conc:=ak ⟨aB (Tryz.prog.underlying 131),by kernel_rfl,ap (by kernel_rfl)⟩
def Gi:TI:={size:=some 7,agg:=some true,rs:=some (.one (.agg [.ptr,.slice,.slice,.int .u32,.int .i32,.int .u32,.slice])),zero:=some (Value.agg #[Value.pointer none,Value.slice none 0 0,Value.slice none 0 0,Value.int .u32 0,Value.int .i32 0,Value.int .u32 0,Value.slice none 0 0]),offs:=some [(0,0,false),(1,0,false),(2,0,false),(3,3,true)],conc:=true}
theorem De:aI Tryz.prog 133 Gi where
 size:=ac (7) rfl (by kernel_rfl)
 agg:=ac (true) rfl (by kernel_rfl)
 zero:=ac (Value.agg #[Value.pointer none,Value.slice none 0 0,Value.slice none 0 0,Value.int .u32 0,Value.int .i32 0,Value.int .u32 0,Value.slice none 0 0]) rfl (by kernel_rfl)
 offs:=ac [(0,0,false),(1,0,false),(2,0,false),(3,3,true)] rfl ⟨bc (Tryz.prog.underlying 133),by kernel_rfl,by kernel_rfl⟩
 conc:=ak ⟨aB (Tryz.prog.underlying 133),by kernel_rfl,ap (by kernel_rfl)⟩
def Ha:TI:={size:=some 1,agg:=some false,rs:=some (.one (.leaf (.any))),zero:=some (Value.nilFunc),conc:=true}
theorem DG:aI Tryz.prog 135 Ha where
 zero:=ac (Value.nilFunc) rfl (by kernel_rfl)
 conc:=ak ⟨aB (Tryz.prog.underlying 135),by kernel_rfl,ap (by kernel_rfl)⟩
def GK:TI:={size:=some 1,agg:=some false,rs:=some (.one (.leaf (.int .u64))),zero:=some (Value.int .u64 0),intk:=some .u64,conc:=true}
theorem EM:aI Tryz.prog 138 GK where
 zero:=ac (Value.int .u64 0) rfl (by kernel_rfl)
 intk:=ac (IntKind.u64) rfl (by kernel_rfl)
 conc:=ak ⟨aB (Tryz.prog.underlying 138),by kernel_rfl,ap (by kernel_rfl)⟩
def GC:TI:={rs:=some (.tup [.leaf (.slice),.leaf (.map)])}
theorem DO:aI Tryz.prog 140 GC where
def Hz:TI:={size:=some 1,agg:=some true,rs:=some (.one (.agg [.ptr])),zero:=some (Value.agg #[Value.pointer none]),offs:=some [(0,0,false)],conc:=true}
theorem CD:aI Tryz.prog 144 Hz where
 agg:=ac (true) rfl (by kernel_rfl)
 zero:=ac (Value.agg #[Value.pointer none]) rfl (by kernel_rfl)
 offs:=ac [(0,0,false)] rfl ⟨bc (Tryz.prog.underlying 144),by kernel_rfl,by kernel_rfl⟩
 conc:=ak ⟨aB (Tryz.prog.underlying 144),by kernel_rfl,ap (by kernel_rfl)⟩
def Hi:TI:={size:=some 1,agg:=some true,rs:=some (.one (.agg [.ptr])),zero:=some (Value.agg #[Value.pointer none]),offs:=some [(0,0,false)],conc:=true}
theorem Ea:aI Tryz.prog 145 Hi where
 agg:=ac (true) rfl (by kernel_rfl)
 zero:=ac (Value.agg #[Value.pointer none]) rfl (by kernel_rfl)
 offs:=ac [(0,0,false)] rfl ⟨bc (Tryz.prog.underlying 145),by kernel_rfl,by kernel_rfl⟩
 conc:=ak ⟨aB (Tryz.prog.underlying 145),by kernel_rfl,ap (by kernel_rfl)⟩
def HJ:TI:={size:=some 1,agg:=some false,rs:=some (.one (.leaf (.any))),zero:=some (Value.nilIface)}
theorem Ey:aI Tryz.prog 147 HJ where
 zero:=ac (Value.nilIface) rfl (by kernel_rfl)
def Gn:TI:={size:=some 2,agg:=some true,rs:=some (.one (.agg [.slice,.slice])),zero:=some (Value.agg #[Value.slice none 0 0,Value.slice none 0 0]),offs:=some [(0,0,false),(1,0,false)],conc:=true}
theorem DY:aI Tryz.prog 151 Gn where
 size:=ac (2) rfl (by kernel_rfl)
 agg:=ac (true) rfl (by kernel_rfl)
 zero:=ac (Value.agg #[Value.slice none 0 0,Value.slice none 0 0]) rfl (by kernel_rfl)
 offs:=ac [(0,0,false),(1,0,false)] rfl ⟨bc (Tryz.prog.underlying 151),by kernel_rfl,by kernel_rfl⟩
 conc:=ak ⟨aB (Tryz.prog.underlying 151),by kernel_rfl,ap (by kernel_rfl)⟩
def He:TI:={size:=some 1,agg:=some false,rs:=some (.one (.leaf (.slice))),zero:=some (Value.slice none 0 0),slc:=some (117,1),conc:=true,isSlc:=true}
theorem EA:aI Tryz.prog 152 He where
 zero:=ac (Value.slice none 0 0) rfl (by kernel_rfl)
 slc:=br 117 1 rfl ⟨by kernel_rfl,by kernel_rfl⟩
 conc:=ak ⟨aB (Tryz.prog.underlying 152),by kernel_rfl,ap (by kernel_rfl)⟩
 isSlc:=ak ⟨117,by kernel_rfl⟩
def Hw:TI:={size:=some 7,agg:=some true,rs:=some (.one (.agg [.ptr,.slice,.slice,.slice,.slice,.slice,.slice])),zero:=some (Value.agg #[Value.pointer none,Value.slice none 0 0,Value.slice none 0 0,Value.slice none 0 0,Value.slice none 0 0,Value.slice none 0 0,Value.slice none 0 0]),offs:=some [(0,0,false),(1,1,true),(3,1,true),(5,0,false),(6,0,false)],conc:=true}
theorem Df:aI Tryz.prog 154 Hw where
 size:=ac (7) rfl (by kernel_rfl)
 agg:=ac (true) rfl (by kernel_rfl)
 zero:=ac (Value.agg #[Value.pointer none,Value.slice none 0 0,Value.slice none 0 0,Value.slice none 0 0,Value.slice none 0 0,Value.slice none 0 0,Value.slice none 0 0]) rfl (by kernel_rfl)
 offs:=ac [(0,0,false),(1,1,true),(3,1,true),(5,0,false),(6,0,false)] rfl ⟨bc (Tryz.prog.underlying 154),by kernel_rfl,by kernel_rfl⟩
 conc:=ak ⟨aB (Tryz.prog.underlying 154),by kernel_rfl,ap (by kernel_rfl)⟩
def Hf:TI:={size:=some 1,agg:=some false,rs:=some (.one (.leaf (.any))),zero:=some (Value.nilFunc),conc:=true}
theorem CE:aI Tryz.prog 157 Hf where
 zero:=ac (Value.nilFunc) rfl (by kernel_rfl)
 conc:=ak ⟨aB (Tryz.prog.underlying 157),by kernel_rfl,ap (by kernel_rfl)⟩
def Gx:TI:={size:=some 4,agg:=some true,rs:=some (.one (.agg [.ptr,.slice,.int .i64,.int .i64])),zero:=some (Value.agg #[Value.pointer none,Value.slice none 0 0,Value.int .i64 0,Value.int .i64 0]),offs:=some [(0,0,false),(1,0,false),(2,0,false),(3,0,false)],conc:=true}
theorem E_:aI Tryz.prog 159 Gx where
 size:=ac (4) rfl (by kernel_rfl)
 agg:=ac (true) rfl (by kernel_rfl)
 zero:=ac (Value.agg #[Value.pointer none,Value.slice none 0 0,Value.int .i64 0,Value.int .i64 0]) rfl (by kernel_rfl)
 offs:=ac [(0,0,false),(1,0,false),(2,0,false),(3,0,false)] rfl ⟨bc (Tryz.prog.underlying 159),by kernel_rfl,by kernel_rfl⟩
 conc:=ak ⟨aB (Tryz.prog.underlying 159),by kernel_rfl,ap (by kernel_rfl)⟩
def G2:TI:={rs:=some (.tup [.agg [.bool,.slice,.slice,.slice,.slice,.slice],.leaf (.int .i64),.leaf (.int .i64)])}
theorem C5:aI Tryz.prog 162 G2 where
def Gf:TI:={size:=some 1,agg:=some false,rs:=some (.one (.leaf (.int .i64))),zero:=some (Value.int .i64 0),intk:=some .i64,conc:=true}
theorem Cp:aI Tryz.prog 164 Gf where
 zero:=ac (Value.int .i64 0) rfl (by kernel_rfl)
 intk:=ac (IntKind.i64) rfl (by kernel_rfl)
 conc:=ak ⟨aB (Tryz.prog.underlying 164),by kernel_rfl,ap (by kernel_rfl)⟩
def GQ:TI:={rs:=some (.tup [.leaf (.ptr),.leaf (.int .i64),.leaf (.int .i64),.leaf (.int .i64)])}
theorem Dx:aI Tryz.prog 165 GQ where
def GP:TI:={size:=some 2,agg:=some true,rs:=some (.one (.agg [.int .i64,.int .i64])),zero:=some (Value.agg #[Value.int .i64 0,Value.int .i64 0]),offs:=some [(0,0,false),(1,0,false)],eqs:=some [.i,.i],conc:=true}
theorem Ed:aI Tryz.prog 170 GP where
 size:=ac (2) rfl (by kernel_rfl)
 agg:=ac (true) rfl (by kernel_rfl)
 zero:=ac (Value.agg #[Value.int .i64 0,Value.int .i64 0]) rfl (by kernel_rfl)
 offs:=ac [(0,0,false),(1,0,false)] rfl ⟨bc (Tryz.prog.underlying 170),by kernel_rfl,by kernel_rfl⟩
 conc:=ak ⟨aB (Tryz.prog.underlying 170),by kernel_rfl,ap (by kernel_rfl)⟩
 eqs:=ac [.i,.i] rfl (by kernel_rfl)
def GA:TI:={rs:=some (.tup [.agg [.slice,.slice],.leaf (.int .i64),.leaf (.int .i64)])}
theorem DE:aI Tryz.prog 172 GA where
def Hn:TI:={rs:=some (.tup [.leaf (.int .i64),.leaf (.int .i64)])}
theorem DV:aI Tryz.prog 174 Hn where
def HN:TI:={size:=some 9,agg:=some true,rs:=some (.one (.agg [.bool,.slice,.slice,.slice,.slice,.slice,.ptr,.ptr,.ptr])),zero:=some (Value.agg #[Value.bool false,Value.slice none 0 0,Value.slice none 0 0,Value.slice none 0 0,Value.slice none 0 0,Value.slice none 0 0,Value.pointer none,Value.pointer none,Value.pointer none]),offs:=some [(0,5,true),(6,0,false),(7,0,false),(8,0,false)],conc:=true}
theorem Cw:aI Tryz.prog 179 HN where
 size:=ac (9) rfl (by kernel_rfl)
 agg:=ac (true) rfl (by kernel_rfl)
 zero:=ac (Value.agg #[Value.bool false,Value.slice none 0 0,Value.slice none 0 0,Value.slice none 0 0,Value.slice none 0 0,Value.slice none 0 0,Value.pointer none,Value.pointer none,Value.pointer none]) rfl (by kernel_rfl)
 offs:=ac [(0,5,true),(6,0,false),(7,0,false),(8,0,false)] rfl ⟨bc (Tryz.prog.underlying 179),by kernel_rfl,by kernel_rfl⟩
 conc:=ak ⟨aB (Tryz.prog.underlying 179),by kernel_rfl,ap (by kernel_rfl)⟩
def Hh:TI:={size:=some 4,agg:=some true,rs:=some (.one (.agg [.int .u32,.int .i32,.int .u32,.slice])),zero:=some (Value.agg #[Value.int .u32 0,Value.int .i32 0,Value.int .u32 0,Value.slice none 0 0]),offs:=some [(0,2,true),(3,0,false)],conc:=true}
theorem CO:aI Tryz.prog 181 Hh where
 size:=ac (4) rfl (by kernel_rfl)
 agg:=ac (true) rfl (by kernel_rfl)
 zero:=ac (Value.agg #[Value.int .u32 0,Value.int .i32 0,Value.int .u32 0,Value.slice none 0 0]) rfl (by kernel_rfl)
 offs:=ac [(0,2,true),(3,0,false)] rfl ⟨bc (Tryz.prog.underlying 181),by kernel_rfl,by kernel_rfl⟩
 conc:=ak ⟨aB (Tryz.prog.underlying 181),by kernel_rfl,ap (by kernel_rfl)⟩
def Hk:TI:={size:=some 14,agg:=some true,rs:=some (.one (.agg [.bool,.slice,.slice,.slice,.slice,.slice,.ptr,.ptr,.ptr,.int .u32,.int .i32,.int .u32,.slice,.int .i64])),zero:=some (Value.agg #[Value.bool false,Value.slice none 0 0,Value.slice none 0 0,Value.slice none 0 0,Value.slice none 0 0,Value.slice none 0 0,Value.pointer none,Value.pointer none,Value.pointer none,Value.int .u32 0,Value.int .i32 0,Value.int .u32 0,Value.slice none 0 0,Value.int .i64 0]),offs:=some [(0,8,true),(9,3,true),(13,0,true)],conc:=true}
theorem Cu:aI Tryz.prog 186 Hk where
 size:=ac (14) rfl (by kernel_rfl)
 agg:=ac (true) rfl (by kernel_rfl)
 zero:=ac (Value.agg #[Value.bool false,Value.slice none 0 0,Value.slice none 0 0,Value.slice none 0 0,Value.slice none 0 0,Value.slice none 0 0,Value.pointer none,Value.pointer none,Value.pointer none,Value.int .u32 0,Value.int .i32 0,Value.int .u32 0,Value.slice none 0 0,Value.int .i64 0]) rfl (by kernel_rfl)
 offs:=ac [(0,8,true),(9,3,true),(13,0,true)] rfl ⟨bc (Tryz.prog.underlying 186),by kernel_rfl,by kernel_rfl⟩
 conc:=ak ⟨aB (Tryz.prog.underlying 186),by kernel_rfl,ap (by kernel_rfl)⟩
def Gq:TI:={rs:=some (.tup [.leaf (.slice),.leaf (.bool)])}
theorem CZ:aI Tryz.prog 194 Gq where
def GX:TI:={size:=some 1,agg:=some false,rs:=some (.one (.leaf (.int .u64))),zero:=some (Value.int .u64 0),intk:=some .u64,conc:=true}
theorem DQ:aI Tryz.prog 202 GX where
 zero:=ac (Value.int .u64 0) rfl (by kernel_rfl)
 intk:=ac (IntKind.u64) rfl (by kernel_rfl)
 conc:=ak ⟨aB (Tryz.prog.underlying 202),by kernel_rfl,ap (by kernel_rfl)⟩
def HH:TI:={rs:=some (.tup [.leaf (.int .u64),.leaf (.int .u64)])}
theorem D9:aI Tryz.prog 203 HH where
def Hj:TI:={size:=some 1,agg:=some false,rs:=some (.one (.leaf (.map))),zero:=some (Value.map none),elemSh:=some (.leaf (.int .i64)),conc:=true,isMap:=true}
theorem EK:aI Tryz.prog 205 Hj where
 zero:=ac (Value.map none) rfl (by kernel_rfl)
 conc:=ak ⟨aB (Tryz.prog.underlying 205),by kernel_rfl,ap (by kernel_rfl)⟩
 isMap:=ak ⟨9,3,by kernel_rfl⟩
def G6:TI:={rs:=some (.tup [.leaf (.slice),.leaf (.bool)])}
theorem CW:aI Tryz.prog 207 G6 where
def HC:TI:={size:=some 1,agg:=some false,rs:=some (.one (.leaf (.ptr))),zero:=some (Value.pointer none),conc:=true,isPtr:=true}
theorem Cn:aI Tryz.prog 209 HC where
 zero:=ac (Value.pointer none) rfl (by kernel_rfl)
 conc:=ak ⟨aB (Tryz.prog.underlying 209),by kernel_rfl,ap (by kernel_rfl)⟩
 isPtr:=ak ⟨211,by kernel_rfl⟩
def Hd:TI:={size:=some 7,agg:=some true,rs:=some (.one (.agg [.bool,.slice,.slice,.slice,.slice,.slice,.int .i64])),zero:=some (Value.agg #[Value.bool false,Value.slice none 0 0,Value.slice none 0 0,Value.slice none 0 0,Value.slice none 0 0,Value.slice none 0 0,Value.int .i64 0]),offs:=some [(0,5,true),(6,0,false)],conc:=true}
theorem E6:aI Tryz.prog 211 Hd where
 size:=ac (7) rfl (by kernel_rfl)
 agg:=ac (true) rfl (by kernel_rfl)
 zero:=ac (Value.agg #[Value.bool false,Value.slice none 0 0,Value.slice none 0 0,Value.slice none 0 0,Value.slice none 0 0,Value.slice none 0 0,Value.int .i64 0]) rfl (by kernel_rfl)
 offs:=ac [(0,5,true),(6,0,false)] rfl ⟨bc (Tryz.prog.underlying 211),by kernel_rfl,by kernel_rfl⟩
 conc:=ak ⟨aB (Tryz.prog.underlying 211),by kernel_rfl,ap (by kernel_rfl)⟩
def HM:TI:={rs:=some (.tup [.leaf (.ptr),.leaf (.int .i64),.leaf (.int .i64)])}
theorem DB:aI Tryz.prog 213 HM where
def HB:TI:={rs:=some (.tup [.leaf (.ptr),.leaf (.int .i64),.leaf (.int .i64)])}
theorem Dv:aI Tryz.prog 215 HB where
def Gv:TI:={size:=some 1,agg:=some false,rs:=some (.one (.leaf (.any))),zero:=some (Value.nilFunc),conc:=true}
theorem EC:aI Tryz.prog 218 Gv where
 zero:=ac (Value.nilFunc) rfl (by kernel_rfl)
 conc:=ak ⟨aB (Tryz.prog.underlying 218),by kernel_rfl,ap (by kernel_rfl)⟩
def HK:TI:={rs:=some (.tup [.leaf (.ptr),.leaf (.int .i64)])}
theorem Ct:aI Tryz.prog 219 HK where
def Gu:TI:={rs:=some (.tup [.leaf (.str),.leaf (.bool)])}
theorem Cy:aI Tryz.prog 222 Gu where
def Hb:TI:={size:=some 1,agg:=some false,rs:=some (.one (.leaf (.any))),zero:=some (Value.nilFunc),conc:=true}
theorem DF:aI Tryz.prog 234 Hb where
 zero:=ac (Value.nilFunc) rfl (by kernel_rfl)
 conc:=ak ⟨aB (Tryz.prog.underlying 234),by kernel_rfl,ap (by kernel_rfl)⟩
def Gs:TI:={size:=some 1,agg:=some false,rs:=some (.one (.leaf (.any))),zero:=some (Value.nilFunc),conc:=true}
theorem Dm:aI Tryz.prog 238 Gs where
 zero:=ac (Value.nilFunc) rfl (by kernel_rfl)
 conc:=ak ⟨aB (Tryz.prog.underlying 238),by kernel_rfl,ap (by kernel_rfl)⟩
def HQ:TI:={size:=some 1,agg:=some false,rs:=some (.one (.leaf (.any))),zero:=some (Value.nilFunc),conc:=true}
theorem Da:aI Tryz.prog 240 HQ where
 zero:=ac (Value.nilFunc) rfl (by kernel_rfl)
 conc:=ak ⟨aB (Tryz.prog.underlying 240),by kernel_rfl,ap (by kernel_rfl)⟩
def GL:TI:={size:=some 1,agg:=some false,rs:=some (.one (.leaf (.int .u16))),zero:=some (Value.int .u16 0),intk:=some .u16,conc:=true}
theorem Db:aI Tryz.prog 242 GL where
 zero:=ac (Value.int .u16 0) rfl (by kernel_rfl)
 intk:=ac (IntKind.u16) rfl (by kernel_rfl)
 conc:=ak ⟨aB (Tryz.prog.underlying 242),by kernel_rfl,ap (by kernel_rfl)⟩
def HF:TI:={rs:=some (.tup [.agg [.slice,.slice],.leaf (.int .i64)])}
theorem CK:aI Tryz.prog 243 HF where
def Hs:TI:={size:=some 256,agg:=some true,zero:=some (Value.agg (List.toArray (List.replicate 256 (Value.bool false)))),arr:=some (256,1),conc:=true}
theorem Cs:aI Tryz.prog 248 Hs where
 size:=ac (256) rfl (by kernel_rfl)
 agg:=ac (true) rfl (by kernel_rfl)
 zero:=ac (Value.agg (List.toArray (List.replicate 256 (Value.bool false)))) rfl (by kernel_rfl)
 arr:=br 256 1 rfl ⟨4,by kernel_rfl,by kernel_rfl⟩
 conc:=ak ⟨aB (Tryz.prog.underlying 248),by kernel_rfl,ap (by kernel_rfl)⟩
def G9:TI:={size:=some 260,agg:=some true,zero:=some (Value.agg (List.toArray ([Value.slice none 0 0,Value.map none,Value.map none]++List.replicate 256 (Value.bool false)++ [Value.int .i64 0]))),offs:=some [(0,0,false),(1,0,false),(2,0,false),(3,255,true),(259,0,false)],conc:=true}
theorem ER:aI Tryz.prog 250 G9 where
 size:=ac (260) rfl (by kernel_rfl)
 agg:=ac (true) rfl (by kernel_rfl)
 zero:=ac (Value.agg (List.toArray ([Value.slice none 0 0,Value.map none,Value.map none]++List.replicate 256 (Value.bool false)++ [Value.int .i64 0]))) rfl (by kernel_rfl)
 offs:=ac [(0,0,false),(1,0,false),(2,0,false),(3,255,true),(259,0,false)] rfl ⟨bc (Tryz.prog.underlying 250),by kernel_rfl,by kernel_rfl⟩
 conc:=ak ⟨aB (Tryz.prog.underlying 250),by kernel_rfl,ap (by kernel_rfl)⟩
def HA:TI:={size:=some 1,agg:=some false,rs:=some (.one (.leaf (.slice))),zero:=some (Value.slice none 0 0),slc:=some (300,3),conc:=true,isSlc:=true}
theorem En:aI Tryz.prog 258 HA where
 zero:=ac (Value.slice none 0 0) rfl (by kernel_rfl)
 slc:=br 300 3 rfl ⟨by kernel_rfl,by kernel_rfl⟩
 conc:=ak ⟨aB (Tryz.prog.underlying 258),by kernel_rfl,ap (by kernel_rfl)⟩
 isSlc:=ak ⟨300,by kernel_rfl⟩
def GY:TI:={size:=some 1,agg:=some false,rs:=some (.one (.leaf (.map))),zero:=some (Value.map none),elemSh:=some (.leaf (.int .i64)),conc:=true,isMap:=true}
theorem ED:aI Tryz.prog 259 GY where
 zero:=ac (Value.map none) rfl (by kernel_rfl)
 conc:=ak ⟨aB (Tryz.prog.underlying 259),by kernel_rfl,ap (by kernel_rfl)⟩
 isMap:=ak ⟨85,3,by kernel_rfl⟩
def GN:TI:={size:=some 4,agg:=some true,rs:=some (.one (.agg [.slice,.map,.map,.int .i64])),zero:=some (Value.agg #[Value.slice none 0 0,Value.map none,Value.map none,Value.int .i64 0]),offs:=some [(0,0,false),(1,0,false),(2,0,false),(3,0,false)],conc:=true}
theorem DZ:aI Tryz.prog 261 GN where
 size:=ac (4) rfl (by kernel_rfl)
 agg:=ac (true) rfl (by kernel_rfl)
 zero:=ac (Value.agg #[Value.slice none 0 0,Value.map none,Value.map none,Value.int .i64 0]) rfl (by kernel_rfl)
 offs:=ac [(0,0,false),(1,0,false),(2,0,false),(3,0,false)] rfl ⟨bc (Tryz.prog.underlying 261),by kernel_rfl,by kernel_rfl⟩
 conc:=ak ⟨aB (Tryz.prog.underlying 261),by kernel_rfl,ap (by kernel_rfl)⟩
def Hx:TI:={rs:=some (.tup [.agg [.int .i64,.str],.leaf (.bool)])}
theorem E0:aI Tryz.prog 265 Hx where
def Hr:TI:={rs:=some (.tup [.leaf (.int .u64),.leaf (.int .u64)])}
theorem D0:aI Tryz.prog 272 Hr where
def Hm:TI:={rs:=some (.tup [.leaf (.slice),.leaf (.int .i64)])}
theorem CN:aI Tryz.prog 274 Hm where
def G7:TI:={rs:=some (.tup [.leaf (.str),.leaf (.str),.leaf (.bool)])}
theorem ES:aI Tryz.prog 278 G7 where
def Gp:TI:={size:=some 256,agg:=some true,zero:=some (Value.agg (List.toArray (List.replicate 256 (Value.int .i64 0)))),arr:=some (256,1),conc:=true}
theorem Cm:aI Tryz.prog 284 Gp where
 size:=ac (256) rfl (by kernel_rfl)
 agg:=ac (true) rfl (by kernel_rfl)
 zero:=ac (Value.agg (List.toArray (List.replicate 256 (Value.int .i64 0)))) rfl (by kernel_rfl)
 arr:=br 256 1 rfl ⟨3,by kernel_rfl,by kernel_rfl⟩
 conc:=ak ⟨aB (Tryz.prog.underlying 284),by kernel_rfl,ap (by kernel_rfl)⟩
def Gy:TI:={size:=some 16,agg:=some true,rs:=some (.one (.agg [.bool,.bool,.bool,.bool,.bool,.bool,.bool,.bool,.bool,.bool,.bool,.bool,.bool,.bool,.bool,.bool])),zero:=some (Value.agg #[Value.bool false,Value.bool false,Value.bool false,Value.bool false,Value.bool false,Value.bool false,Value.bool false,Value.bool false,Value.bool false,Value.bool false,Value.bool false,Value.bool false,Value.bool false,Value.bool false,Value.bool false,Value.bool false]),arr:=some (16,1),conc:=true}
theorem CF:aI Tryz.prog 285 Gy where
 size:=ac (16) rfl (by kernel_rfl)
 agg:=ac (true) rfl (by kernel_rfl)
 zero:=ac (Value.agg #[Value.bool false,Value.bool false,Value.bool false,Value.bool false,Value.bool false,Value.bool false,Value.bool false,Value.bool false,Value.bool false,Value.bool false,Value.bool false,Value.bool false,Value.bool false,Value.bool false,Value.bool false,Value.bool false]) rfl (by kernel_rfl)
 arr:=br 16 1 rfl ⟨4,by kernel_rfl,by kernel_rfl⟩
 conc:=ak ⟨aB (Tryz.prog.underlying 285),by kernel_rfl,ap (by kernel_rfl)⟩
def G_:TI:={size:=some 256,agg:=some true,zero:=some (Value.agg (List.toArray (List.replicate 256 (Value.bool false)))),arr:=some (16,16),conc:=true}
theorem El:aI Tryz.prog 286 G_ where
 size:=ac (256) rfl (by kernel_rfl)
 agg:=ac (true) rfl (by kernel_rfl)
 zero:=ac (Value.agg (List.toArray (List.replicate 256 (Value.bool false)))) rfl (by kernel_rfl)
 arr:=br 16 16 rfl ⟨285,by kernel_rfl,by kernel_rfl⟩
 conc:=ak ⟨aB (Tryz.prog.underlying 286),by kernel_rfl,ap (by kernel_rfl)⟩
def Gg:TI:={size:=some 512,agg:=some true,zero:=some (Value.agg (List.toArray (List.replicate 256 (Value.int .i64 0)++List.replicate 256 (Value.bool false)))),offs:=some [(0,255,true),(256,255,true)],conc:=true}
theorem Eh:aI Tryz.prog 288 Gg where
 size:=ac (512) rfl (by kernel_rfl)
 agg:=ac (true) rfl (by kernel_rfl)
 zero:=ac (Value.agg (List.toArray (List.replicate 256 (Value.int .i64 0)++List.replicate 256 (Value.bool false)))) rfl (by kernel_rfl)
 offs:=ac [(0,255,true),(256,255,true)] rfl ⟨bc (Tryz.prog.underlying 288),by kernel_rfl,by kernel_rfl⟩
 conc:=ak ⟨aB (Tryz.prog.underlying 288),by kernel_rfl,ap (by kernel_rfl)⟩
def GM:TI:={size:=some 3,agg:=some true,rs:=some (.one (.agg [.str,.int .i64,.int .i64])),zero:=some (Value.agg #[Value.string ⟨#[]⟩,Value.int .i64 0,Value.int .i64 0]),offs:=some [(0,0,false),(1,1,true)],conc:=true}
theorem E8:aI Tryz.prog 300 GM where
 size:=ac (3) rfl (by kernel_rfl)
 agg:=ac (true) rfl (by kernel_rfl)
 zero:=ac (Value.agg #[Value.string ⟨#[]⟩,Value.int .i64 0,Value.int .i64 0]) rfl (by kernel_rfl)
 offs:=ac [(0,0,false),(1,1,true)] rfl ⟨bc (Tryz.prog.underlying 300),by kernel_rfl,by kernel_rfl⟩
 conc:=ak ⟨aB (Tryz.prog.underlying 300),by kernel_rfl,ap (by kernel_rfl)⟩
def Gw:TI:={size:=some 1,agg:=some false,rs:=some (.one (.leaf (.int .i64))),zero:=some (Value.int .i64 0),intk:=some .i64,conc:=true}
theorem Dz:aI Tryz.prog 303 Gw where
 zero:=ac (Value.int .i64 0) rfl (by kernel_rfl)
 intk:=ac (IntKind.i64) rfl (by kernel_rfl)
 conc:=ak ⟨aB (Tryz.prog.underlying 303),by kernel_rfl,ap (by kernel_rfl)⟩
def GS:TI:={rs:=some (.tup [.leaf (.int .i64),.leaf (.int .i64)])}
theorem EH:aI Tryz.prog 304 GS where
def GR:TI:={size:=some 1,agg:=some false,rs:=some (.one (.leaf (.ptr))),zero:=some (Value.pointer none),conc:=true,isPtr:=true}
theorem DK:aI Tryz.prog 315 GR where
 zero:=ac (Value.pointer none) rfl (by kernel_rfl)
 conc:=ak ⟨aB (Tryz.prog.underlying 315),by kernel_rfl,ap (by kernel_rfl)⟩
 isPtr:=ak ⟨343,by kernel_rfl⟩
def HO:TI:={size:=some 1,agg:=some false,rs:=some (.one (.leaf (.map))),zero:=some (Value.map none),elemSh:=some (.leaf (.int .i64)),conc:=true,isMap:=true}
theorem CS:aI Tryz.prog 317 HO where
 zero:=ac (Value.map none) rfl (by kernel_rfl)
 conc:=ak ⟨aB (Tryz.prog.underlying 317),by kernel_rfl,ap (by kernel_rfl)⟩
 isMap:=ak ⟨4,3,by kernel_rfl⟩
def G0:TI:={rs:=some (.tup [.agg [.int .i64,.int .i64],.leaf (.bool)])}
theorem D8:aI Tryz.prog 320 G0 where
def HL:TI:={size:=some 1,agg:=some false,rs:=some (.one (.leaf (.ptr))),zero:=some (Value.pointer none),conc:=true,isPtr:=true}
theorem Ei:aI Tryz.prog 330 HL where
 zero:=ac (Value.pointer none) rfl (by kernel_rfl)
 conc:=ak ⟨aB (Tryz.prog.underlying 330),by kernel_rfl,ap (by kernel_rfl)⟩
 isPtr:=ak ⟨360,by kernel_rfl⟩
def GW:TI:={size:=some 1,agg:=some false,rs:=some (.one (.leaf (.ptr))),zero:=some (Value.pointer none),conc:=true,isPtr:=true}
theorem EY:aI Tryz.prog 336 GW where
 zero:=ac (Value.pointer none) rfl (by kernel_rfl)
 conc:=ak ⟨aB (Tryz.prog.underlying 336),by kernel_rfl,ap (by kernel_rfl)⟩
 isPtr:=ak ⟨3,by kernel_rfl⟩
def Ho:TI:={size:=some 2,agg:=some true,rs:=some (.one (.agg [.int .i64,.int .i64])),zero:=some (Value.agg #[Value.int .i64 0,Value.int .i64 0]),offs:=some [(0,1,true)],conc:=true}
theorem D6:aI Tryz.prog 341 Ho where
 size:=ac (2) rfl (by kernel_rfl)
 agg:=ac (true) rfl (by kernel_rfl)
 zero:=ac (Value.agg #[Value.int .i64 0,Value.int .i64 0]) rfl (by kernel_rfl)
 offs:=ac [(0,1,true)] rfl ⟨bc (Tryz.prog.underlying 341),by kernel_rfl,by kernel_rfl⟩
 conc:=ak ⟨aB (Tryz.prog.underlying 341),by kernel_rfl,ap (by kernel_rfl)⟩
def GE:TI:={size:=some 5,agg:=some true,rs:=some (.one (.agg [.int .i64,.int .i64,.ptr,.int .i64,.int .i64])),zero:=some (Value.agg #[Value.int .i64 0,Value.int .i64 0,Value.pointer none,Value.int .i64 0,Value.int .i64 0]),offs:=some [(0,1,true),(2,0,false),(3,0,false),(4,0,false)],conc:=true}
theorem EG:aI Tryz.prog 343 GE where
 size:=ac (5) rfl (by kernel_rfl)
 agg:=ac (true) rfl (by kernel_rfl)
 zero:=ac (Value.agg #[Value.int .i64 0,Value.int .i64 0,Value.pointer none,Value.int .i64 0,Value.int .i64 0]) rfl (by kernel_rfl)
 offs:=ac [(0,1,true),(2,0,false),(3,0,false),(4,0,false)] rfl ⟨bc (Tryz.prog.underlying 343),by kernel_rfl,by kernel_rfl⟩
 conc:=ak ⟨aB (Tryz.prog.underlying 343),by kernel_rfl,ap (by kernel_rfl)⟩
def Hc:TI:={size:=some 1,agg:=some false,rs:=some (.one (.leaf (.ptr))),zero:=some (Value.pointer none),conc:=true,isPtr:=true}
theorem EO:aI Tryz.prog 354 Hc where
 zero:=ac (Value.pointer none) rfl (by kernel_rfl)
 conc:=ak ⟨aB (Tryz.prog.underlying 354),by kernel_rfl,ap (by kernel_rfl)⟩
 isPtr:=ak ⟨379,by kernel_rfl⟩
def GB:TI:={size:=some 3,agg:=some true,rs:=some (.one (.agg [.int .i64,.int .i64,.int .i64])),zero:=some (Value.agg #[Value.int .i64 0,Value.int .i64 0,Value.int .i64 0]),offs:=some [(0,0,false),(1,1,true)],conc:=true}
theorem D_:aI Tryz.prog 357 GB where
 size:=ac (3) rfl (by kernel_rfl)
 agg:=ac (true) rfl (by kernel_rfl)
 zero:=ac (Value.agg #[Value.int .i64 0,Value.int .i64 0,Value.int .i64 0]) rfl (by kernel_rfl)
 offs:=ac [(0,0,false),(1,1,true)] rfl ⟨bc (Tryz.prog.underlying 357),by kernel_rfl,by kernel_rfl⟩
 conc:=ak ⟨aB (Tryz.prog.underlying 357),by kernel_rfl,ap (by kernel_rfl)⟩
def G1:TI:={size:=some 1,agg:=some false,rs:=some (.one (.leaf (.slice))),zero:=some (Value.slice none 0 0),slc:=some (362,3),conc:=true,isSlc:=true}
theorem Eb:aI Tryz.prog 358 G1 where
 zero:=ac (Value.slice none 0 0) rfl (by kernel_rfl)
 slc:=br 362 3 rfl ⟨by kernel_rfl,by kernel_rfl⟩
 conc:=ak ⟨aB (Tryz.prog.underlying 358),by kernel_rfl,ap (by kernel_rfl)⟩
 isSlc:=ak ⟨362,by kernel_rfl⟩
def GH:TI:={size:=some 5,agg:=some true,rs:=some (.one (.agg [.ptr,.slice,.ptr,.int .i64,.int .i64])),zero:=some (Value.agg #[Value.pointer none,Value.slice none 0 0,Value.pointer none,Value.int .i64 0,Value.int .i64 0]),offs:=some [(0,0,false),(1,0,false),(2,0,false),(3,0,false),(4,0,false)],conc:=true}
theorem Dp:aI Tryz.prog 360 GH where
 size:=ac (5) rfl (by kernel_rfl)
 agg:=ac (true) rfl (by kernel_rfl)
 zero:=ac (Value.agg #[Value.pointer none,Value.slice none 0 0,Value.pointer none,Value.int .i64 0,Value.int .i64 0]) rfl (by kernel_rfl)
 offs:=ac [(0,0,false),(1,0,false),(2,0,false),(3,0,false),(4,0,false)] rfl ⟨bc (Tryz.prog.underlying 360),by kernel_rfl,by kernel_rfl⟩
 conc:=ak ⟨aB (Tryz.prog.underlying 360),by kernel_rfl,ap (by kernel_rfl)⟩
def G8:TI:={size:=some 3,agg:=some true,rs:=some (.one (.agg [.int .i64,.int .i64,.int .i64])),zero:=some (Value.agg #[Value.int .i64 0,Value.int .i64 0,Value.int .i64 0]),offs:=some [(0,0,false),(1,0,false),(2,0,false)],eqs:=some [.i,.i,.i],conc:=true}
theorem DH:aI Tryz.prog 362 G8 where
 size:=ac (3) rfl (by kernel_rfl)
 agg:=ac (true) rfl (by kernel_rfl)
 zero:=ac (Value.agg #[Value.int .i64 0,Value.int .i64 0,Value.int .i64 0]) rfl (by kernel_rfl)
 offs:=ac [(0,0,false),(1,0,false),(2,0,false)] rfl ⟨bc (Tryz.prog.underlying 362),by kernel_rfl,by kernel_rfl⟩
 conc:=ak ⟨aB (Tryz.prog.underlying 362),by kernel_rfl,ap (by kernel_rfl)⟩
 eqs:=ac [.i,.i,.i] rfl (by kernel_rfl)
def GT:TI:={rs:=some (.tup [.agg [.int .i64,.int .i64,.int .i64],.leaf (.int .i64),.leaf (.int .i64),.leaf (.bool)])}
theorem Er:aI Tryz.prog 363 GT where
def Gt:TI:={size:=some 1,agg:=some false,rs:=some (.one (.leaf (.any))),zero:=some (Value.nilIface)}
theorem Cr:aI Tryz.prog 372 Gt where
 zero:=ac (Value.nilIface) rfl (by kernel_rfl)
def Hl:TI:={rs:=some (.tup [.leaf (.int .i64),.leaf (.any)])}
theorem EZ:aI Tryz.prog 373 Hl where
def Gk:TI:={size:=some 1,agg:=some false,rs:=some (.one (.leaf (.slice))),zero:=some (Value.slice none 0 0),slc:=some (389,6),conc:=true,isSlc:=true}
theorem Dg:aI Tryz.prog 377 Gk where
 zero:=ac (Value.slice none 0 0) rfl (by kernel_rfl)
 slc:=br 389 6 rfl ⟨by kernel_rfl,by kernel_rfl⟩
 conc:=ak ⟨aB (Tryz.prog.underlying 377),by kernel_rfl,ap (by kernel_rfl)⟩
 isSlc:=ak ⟨389,by kernel_rfl⟩
def GZ:TI:={size:=some 2,agg:=some true,rs:=some (.one (.agg [.slice,.int .i64])),zero:=some (Value.agg #[Value.slice none 0 0,Value.int .i64 0]),offs:=some [(0,0,false),(1,0,false)],conc:=true}
theorem CQ:aI Tryz.prog 379 GZ where
 size:=ac (2) rfl (by kernel_rfl)
 agg:=ac (true) rfl (by kernel_rfl)
 zero:=ac (Value.agg #[Value.slice none 0 0,Value.int .i64 0]) rfl (by kernel_rfl)
 offs:=ac [(0,0,false),(1,0,false)] rfl ⟨bc (Tryz.prog.underlying 379),by kernel_rfl,by kernel_rfl⟩
 conc:=ak ⟨aB (Tryz.prog.underlying 379),by kernel_rfl,ap (by kernel_rfl)⟩
def Gh:TI:={size:=some 3,agg:=some true,rs:=some (.one (.agg [.int .i64,.int .i64,.int .i64])),zero:=some (Value.agg #[Value.int .i64 0,Value.int .i64 0,Value.int .i64 0]),offs:=some [(0,0,false),(1,0,false),(2,0,false)],eqs:=some [.i,.i,.i],conc:=true}
theorem CU:aI Tryz.prog 387 Gh where
 size:=ac (3) rfl (by kernel_rfl)
 agg:=ac (true) rfl (by kernel_rfl)
 zero:=ac (Value.agg #[Value.int .i64 0,Value.int .i64 0,Value.int .i64 0]) rfl (by kernel_rfl)
 offs:=ac [(0,0,false),(1,0,false),(2,0,false)] rfl ⟨bc (Tryz.prog.underlying 387),by kernel_rfl,by kernel_rfl⟩
 conc:=ak ⟨aB (Tryz.prog.underlying 387),by kernel_rfl,ap (by kernel_rfl)⟩
 eqs:=ac [.i,.i,.i] rfl (by kernel_rfl)
def GJ:TI:={size:=some 6,agg:=some true,rs:=some (.one (.agg [.int .i64,.int .i64,.int .i64,.int .i64,.int .i64,.int .i64])),zero:=some (Value.agg #[Value.int .i64 0,Value.int .i64 0,Value.int .i64 0,Value.int .i64 0,Value.int .i64 0,Value.int .i64 0]),offs:=some [(0,2,true),(3,2,true)],conc:=true}
theorem CH:aI Tryz.prog 389 GJ where
 size:=ac (6) rfl (by kernel_rfl)
 agg:=ac (true) rfl (by kernel_rfl)
 zero:=ac (Value.agg #[Value.int .i64 0,Value.int .i64 0,Value.int .i64 0,Value.int .i64 0,Value.int .i64 0,Value.int .i64 0]) rfl (by kernel_rfl)
 offs:=ac [(0,2,true),(3,2,true)] rfl ⟨bc (Tryz.prog.underlying 389),by kernel_rfl,by kernel_rfl⟩
 conc:=ak ⟨aB (Tryz.prog.underlying 389),by kernel_rfl,ap (by kernel_rfl)⟩
def GV:TI:={size:=some 2,agg:=some true,rs:=some (.one (.agg [.int .i64,.int .i64])),zero:=some (Value.agg #[Value.int .i64 0,Value.int .i64 0]),arr:=some (2,1),conc:=true}
theorem DS:aI Tryz.prog 390 GV where
 size:=ac (2) rfl (by kernel_rfl)
 agg:=ac (true) rfl (by kernel_rfl)
 zero:=ac (Value.agg #[Value.int .i64 0,Value.int .i64 0]) rfl (by kernel_rfl)
 arr:=br 2 1 rfl ⟨3,by kernel_rfl,by kernel_rfl⟩
 conc:=ak ⟨aB (Tryz.prog.underlying 390),by kernel_rfl,ap (by kernel_rfl)⟩
def tab0:List (Nat×TI):=[(0,LO),(2,LR),(3,LM),(4,LP),(5,LN),(9,LQ),(22,Kp),(23,Iv),(24,KD),(25,IF),(27,Js),(28,It),(31,I'),(32,Ji),(33,KT),(35,Jx),(37,IM),(39,Ko),(42,J4),(43,JE),(46,Kb),(51,Jk),(54,KE),(57,Ka),(58,IS)]
theorem Fr:∀p∈tab0,aI Tryz.prog p.1 p.2:=
 am H8<|am H1<|am HV<|am H3<|am HY<|am H2<|am Fz<|am Fn<|am FA<|am FP<|am Fv<|am FB<|am Fl<|am FG<|am Gc<|am FT<|am FY<|am F9<|am F3<|am Fd<|am Fy<|am F5<|am Fx<|am FR<|am Ft<|qe
def Jv:List (Nat×TI):=[(61,JO),(63,JU),(68,IV),(71,JK),(72,J'),(74,Kf),(78,Kx),(85,IH),(87,IY),(89,If),(94,Kt),(100,Hu),(102,Hy),(104,Gj),(106,GD),(108,GU),(109,Gm),(110,GO),(111,G4),(113,Hq),(116,GI),(117,Hg),(131,Gl),(133,Gi),(135,Ha)]
theorem FZ:∀p∈Jv,aI Tryz.prog p.1 p.2:=
 am FF<|am Fo<|am Fs<|am Gb<|am Fw<|am FH<|am Fk<|am FC<|am FI<|am Fj<|am F6<|am Do<|am Ek<|am CM<|am DW<|am Dk<|am C6<|am Co<|am EB<|am Ck<|am DD<|am DI<|am CJ<|am De<|am DG<|qe
def IU:List (Nat×TI):=[(138,GK),(140,GC),(144,Hz),(145,Hi),(147,HJ),(151,Gn),(152,He),(154,Hw),(157,Hf),(159,Gx),(162,G2),(164,Gf),(165,GQ),(170,GP),(172,GA),(174,Hn),(179,HN),(181,Hh),(186,Hk),(194,Gq),(202,GX),(203,HH),(205,Hj),(207,G6),(209,HC)]
theorem FK:∀p∈IU,aI Tryz.prog p.1 p.2:=
 am EM<|am DO<|am CD<|am Ea<|am Ey<|am DY<|am EA<|am Df<|am CE<|am E_<|am C5<|am Cp<|am Dx<|am Ed<|am DE<|am DV<|am Cw<|am CO<|am Cu<|am CZ<|am DQ<|am D9<|am EK<|am CW<|am Cn<|qe
def IA:List (Nat×TI):=[(211,Hd),(213,HM),(215,HB),(218,Gv),(219,HK),(222,Gu),(234,Hb),(238,Gs),(240,HQ),(242,GL),(243,HF),(248,Hs),(250,G9),(258,HA),(259,GY),(261,GN),(265,Hx),(272,Hr),(274,Hm),(278,G7),(284,Gp),(285,Gy),(286,G_),(288,Gg),(300,GM)]
theorem F0:∀p∈IA,aI Tryz.prog p.1 p.2:=
 am E6<|am DB<|am Dv<|am EC<|am Ct<|am Cy<|am DF<|am Dm<|am Da<|am Db<|am CK<|am Cs<|am ER<|am En<|am ED<|am DZ<|am E0<|am D0<|am CN<|am ES<|am Cm<|am CF<|am El<|am Eh<|am E8<|qe
def JC:List (Nat×TI):=[(303,Gw),(304,GS),(315,GR),(317,HO),(320,G0),(330,HL),(336,GW),(341,Ho),(343,GE),(354,Hc),(357,GB),(358,G1),(360,GH),(362,G8),(363,GT),(372,Gt),(373,Hl),(377,Gk),(379,GZ),(387,Gh),(389,GJ),(390,GV)]
theorem F':∀p∈JC,aI Tryz.prog p.1 p.2:=
 am Dz<|am EH<|am DK<|am CS<|am D8<|am Ei<|am EY<|am D6<|am EG<|am EO<|am D_<|am Eb<|am Dp<|am DH<|am Er<|am Cr<|am EZ<|am Dg<|am CQ<|am CU<|am CH<|am DS<|qe
def tab:List (Nat×TI):=tab0++Jv++IU++IA++JC
set_option maxRecDepth 100000 in
theorem H7:∀p∈tab,aI Tryz.prog p.1 p.2:=
 ui (ui (ui (ui (Fr) FZ) FK) F0) F'
theorem EE:Tryz.prog.follows .mixedOrders=true:=by kernel_rfl
noncomputable def mf:gj:=CI Tryz.prog tab
theorem hY:mf.Ok:=D1 Tryz.prog tab H7 EE
set_option maxRecDepth 100000
open Go Go.Value
def LW (a:ByteArray) (w:World) (R:RW):Prop:=
 aa (decide (((a.size:Int):Int)>3000))
 (Calls Tryz.prog 30 #[] w (fun b c=>
 ∃d,b= .returned (bool d)∧
 R (bool d) c))
 (Calls Tryz.prog 31 #[string a] w (fun f g=>
 ∃h i j,f= .returned (tuple #[pointer h,int .i64 i,int .i64 j])∧
 Calls Tryz.prog 32 #[string a] g (fun k l=>
 ∃m n o p q r s t u x y z a1 b1 c1 d1 e1,k= .returned (tuple #[agg #[bool m,slice n o p,slice q r s,slice t u x,slice y z a1,slice b1 c1 d1],int .i64 e1])∧
 ∀f1,f1=l.alloc (.cells #[bool false,slice none 0 0,slice none 0 0,slice none 0 0,slice none 0 0,slice none 0 0] 71)→
 ar f1 (nb l) (fun g1=>
 aa (decide (e1>0))
 (aa (Option.isNone h)
 (aa (i==e1)
 (aa (j==2)
 (Calls Tryz.prog 30 #[] g1 (fun h1 i1=>
 ∃j1,h1= .returned (bool j1)∧
 R (bool j1) i1))
 (R (bool false) g1))
 (R (bool false) g1))
 (R (bool false) g1))
 (∃k1 l1 m1 n1 o1 p1 q1 r1 s1 t1 u1 v1 x1 y1 z1 a2,(g1.cell? (nb l)=some (bool k1)∧g1.cell? ((nb l).add 1)=some (slice l1 m1 n1)∧g1.cell? ((nb l).add 2)=some (slice o1 p1 q1)∧g1.cell? ((nb l).add 3)=some (slice r1 s1 t1)∧g1.cell? ((nb l).add 4)=some (slice u1 v1 x1)∧g1.cell? ((nb l).add 5)=some (slice y1 z1 a2)∧True)∧
 Calls Tryz.prog 33 #[agg #[bool k1,slice l1 m1 n1,slice o1 p1 q1,slice r1 s1 t1,slice u1 v1 x1,slice y1 z1 a2]] g1 (fun b2 c2=>
 ∃d2 e2 f2 g2 h2 i2 j2 k2 l2 m2 n2 o2 p2 q2 r2 s2 t2 u2,b2= .returned (tuple #[agg #[slice d2 e2 f2,slice g2 h2 i2,slice j2 k2 l2,slice m2 n2 o2,slice p2 q2 r2],int .i64 s2,int .i64 t2,int .i64 u2])∧
 ∀v2,v2=c2.alloc (.cells #[slice none 0 0,slice none 0 0,slice none 0 0,slice none 0 0,slice none 0 0] 39)→
 ar v2 (nb c2) (fun x2=>
 aa (s2==0)
 (∀y2,y2=x2.drew→
 aa (!(Option.isNone h))
 (aa (i==0)
 (aa (j==0)
 (∃z2 a3 b3 c3 d3 e3 f3 g3 h3 i3 j3 k3 l3 m3 n3 o3,(y2.cell? (nb l)=some (bool z2)∧y2.cell? ((nb l).add 1)=some (slice a3 b3 c3)∧y2.cell? ((nb l).add 2)=some (slice d3 e3 f3)∧y2.cell? ((nb l).add 3)=some (slice g3 h3 i3)∧y2.cell? ((nb l).add 4)=some (slice j3 k3 l3)∧y2.cell? ((nb l).add 5)=some (slice m3 n3 o3)∧True)∧
 Calls Tryz.prog 35 #[pointer h] y2 (fun p3 q3=>
 ∃r3 s3 t3 u3 v3 x3 y3 z3 a4 b4 c4 d4 e4 f4 g4 h4,p3= .returned (agg #[bool r3,slice s3 t3 u3,slice v3 x3 y3,slice z3 a4 b4,slice c4 d4 e4,slice f4 g4 h4])∧
 (q3.cell? (nb l)=some (bool z2)∧q3.cell? ((nb l).add 1)=some (slice a3 b3 c3)∧q3.cell? ((nb l).add 2)=some (slice d3 e3 f3)∧q3.cell? ((nb l).add 3)=some (slice g3 h3 i3)∧q3.cell? ((nb l).add 4)=some (slice j3 k3 l3)∧q3.cell? ((nb l).add 5)=some (slice m3 n3 o3)∧True)∧
 Calls Tryz.prog 34 #[agg #[bool r3,slice s3 t3 u3,slice v3 x3 y3,slice z3 a4 b4,slice c4 d4 e4,slice f4 g4 h4],agg #[bool z2,slice a3 b3 c3,slice d3 e3 f3,slice g3 h3 i3,slice j3 k3 l3,slice m3 n3 o3]] q3 (fun i4 j4=>
 ∃k4,i4= .returned (bool k4)∧
 aa k4
 (Calls Tryz.prog 30 #[] j4 (fun l4 m4=>
 ∃n4,l4= .returned (bool n4)∧
 R (bool n4) m4))
 (R (bool false) j4))))
 (R (bool false) y2))
 (R (bool false) y2))
 (R (bool false) y2))
 (Ar .i64 ((2:Int)+t2) (fun o4=>
 ∀p4:KW,(∀(q4:Int) (r4:World),(aa (Option.isNone h)
 (aa (i==q4)
 (aa (j==u2)
 (Calls Tryz.prog 30 #[] r4 (fun s4 t4=>
 ∃u4,s4= .returned (bool u4)∧
 R (bool u4) t4))
 (R (bool false) r4))
 (R (bool false) r4))
 (R (bool false) r4))→p4 [int .i64 q4] r4)→
 aa (s2==2)
 (∃v4 x4 y4,x2.cell? ((nb l).add 1)=some (slice v4 x4 y4)∧
 Ar .i64 (o4+(x4:Int)) (fun z4=>
 ∃a5 b5 c5,x2.cell? ((nb l).add 2)=some (slice a5 b5 c5)∧
 Ar .i64 (z4+(b5:Int)) (fun d5=>
 p4 [int .i64 d5] x2)))
 (p4 [int .i64 o4] x2)))) [slice d2 e2 f2,slice g2 h2 i2,slice j2 k2 l2,slice m2 n2 o2,slice p2 q2 r2] 0))) [bool m,slice n o p,slice q r s,slice t u x,slice y z a1,slice b1 c1 d1] 0)))
theorem Bo (a:ByteArray) (w:World) (R:RW) (hh:LW a w R):Calls Tryz.prog 5 #[string a] w fun e w'=>∃v,e= .returned v∧R v w':=
 bz hY (fn:=Tryz.f5) (by kernel_rfl) (body:=eu Tryz.f5) (by kernel_rfl) (by kernel_rfl) (by kernel_rfl) (Eq.mp (by kernel_rfl) hh)
def LT (a:Bool) (b:OA) (c d:Nat) (f:OA) (g h:Nat) (i:OA) (j k:Nat) (l:OA) (m n:Nat) (o:OA) (p q:Nat) (w:World) (R:RW):Prop:=
 ∀r,r=w.alloc (.cells #[bool a,slice b c d,slice f g h,slice i j k,slice l m n,slice o p q] 71)→
 ∃s t u x y z a1 b1 c1 d1 e1 f1 g1 h1 i1 j1,(r.cell? (nb w)=some (bool s)∧r.cell? ((nb w).add 1)=some (slice t u x)∧r.cell? ((nb w).add 2)=some (slice y z a1)∧r.cell? ((nb w).add 3)=some (slice b1 c1 d1)∧r.cell? ((nb w).add 4)=some (slice e1 f1 g1)∧r.cell? ((nb w).add 5)=some (slice h1 i1 j1)∧True)∧
 Calls Tryz.prog 36 #[agg #[bool s,slice t u x,slice y z a1,slice b1 c1 d1,slice e1 f1 g1,slice h1 i1 j1]] r (fun k1 l1=>
 ∃m1,k1= .returned (bool m1)∧
 aa m1
 (Calls Tryz.prog 30 #[] l1 (fun n1 o1=>
 ∃p1,n1= .returned (bool p1)∧
 R (bool p1) o1))
 (∃q1 r1 s1,l1.cell? ((nb w).add 1)=some (slice q1 r1 s1)∧
 aa (decide ((r1:Int)>60))
 (Calls Tryz.prog 30 #[] l1 (fun t1 u1=>
 ∃v1,t1= .returned (bool v1)∧
 R (bool v1) u1))
 (∃x1 y1 z1 a2 b2 c2 d2 e2 f2 g2 h2 i2 j2 k2 l2 m2,(l1.cell? (nb w)=some (bool x1)∧l1.cell? ((nb w).add 1)=some (slice y1 z1 a2)∧l1.cell? ((nb w).add 2)=some (slice b2 c2 d2)∧l1.cell? ((nb w).add 3)=some (slice e2 f2 g2)∧l1.cell? ((nb w).add 4)=some (slice h2 i2 j2)∧l1.cell? ((nb w).add 5)=some (slice k2 l2 m2)∧True)∧
 Calls Tryz.prog 37 #[agg #[bool x1,slice y1 z1 a2,slice b2 c2 d2,slice e2 f2 g2,slice h2 i2 j2,slice k2 l2 m2]] l1 (fun n2 o2=>
 ∃p2 q2 r2,n2= .returned (tuple #[pointer p2,int .i64 q2,int .i64 r2])∧
 ∃s2 t2 u2 v2 x2 y2 z2 a3 b3 c3 d3 e3 f3 g3 h3 i3,(o2.cell? (nb w)=some (bool s2)∧o2.cell? ((nb w).add 1)=some (slice t2 u2 v2)∧o2.cell? ((nb w).add 2)=some (slice x2 y2 z2)∧o2.cell? ((nb w).add 3)=some (slice a3 b3 c3)∧o2.cell? ((nb w).add 4)=some (slice d3 e3 f3)∧o2.cell? ((nb w).add 5)=some (slice g3 h3 i3)∧True)∧
 Calls Tryz.prog 38 #[agg #[bool s2,slice t2 u2 v2,slice x2 y2 z2,slice a3 b3 c3,slice d3 e3 f3,slice g3 h3 i3]] o2 (fun j3 k3=>
 ∃l3,j3= .returned (bool l3)∧
 aa (!l3)
 (aa (Option.isNone p2)
 (aa (q2==0)
 (aa (r2==1)
 (Calls Tryz.prog 30 #[] k3 (fun m3 n3=>
 ∃o3,m3= .returned (bool o3)∧
 R (bool o3) n3))
 (R (bool false) k3))
 (R (bool false) k3))
 (R (bool false) k3))
 (∃p3 q3 r3 s3 t3 u3 v3 x3 y3 z3 a4 b4 c4 d4 e4 f4,(k3.cell? (nb w)=some (bool p3)∧k3.cell? ((nb w).add 1)=some (slice q3 r3 s3)∧k3.cell? ((nb w).add 2)=some (slice t3 u3 v3)∧k3.cell? ((nb w).add 3)=some (slice x3 y3 z3)∧k3.cell? ((nb w).add 4)=some (slice a4 b4 c4)∧k3.cell? ((nb w).add 5)=some (slice d4 e4 f4)∧True)∧
 Calls Tryz.prog 33 #[agg #[bool p3,slice q3 r3 s3,slice t3 u3 v3,slice x3 y3 z3,slice a4 b4 c4,slice d4 e4 f4]] k3 (fun g4 h4=>
 ∃i4 j4 k4 l4 m4 n4 o4 p4 q4 r4 s4 t4 u4 v4 x4 y4 z4 a5,g4= .returned (tuple #[agg #[slice i4 j4 k4,slice l4 m4 n4,slice o4 p4 q4,slice r4 s4 t4,slice u4 v4 x4],int .i64 y4,int .i64 z4,int .i64 a5])∧
 ∀b5,b5=h4.alloc (.cells #[slice none 0 0,slice none 0 0,slice none 0 0,slice none 0 0,slice none 0 0] 39)→
 ar b5 (nb h4) (fun c5=>
 ∃d5 e5 f5 g5 h5 i5 j5 k5 l5 m5 n5 o5 p5 q5 r5 s5,(c5.cell? (nb w)=some (bool d5)∧c5.cell? ((nb w).add 1)=some (slice e5 f5 g5)∧c5.cell? ((nb w).add 2)=some (slice h5 i5 j5)∧c5.cell? ((nb w).add 3)=some (slice k5 l5 m5)∧c5.cell? ((nb w).add 4)=some (slice n5 o5 p5)∧c5.cell? ((nb w).add 5)=some (slice q5 r5 s5)∧True)∧
 Calls Tryz.prog 39 #[agg #[bool d5,slice e5 f5 g5,slice h5 i5 j5,slice k5 l5 m5,slice n5 o5 p5,slice q5 r5 s5]] c5 (fun t5 u5=>
 ∃v5,t5= .returned (string v5)∧
 Calls Tryz.prog 31 #[string v5] u5 (fun x5 y5=>
 ∃z5 a6 b6,x5= .returned (tuple #[pointer z5,int .i64 a6,int .i64 b6])∧
 ∀c6:KW,(∀(d6:Int) (e6:World),(∀f6:KW,(∀(g6:Int) (h6:World),(aa (q2 != z4)
 (R (bool false) h6)
 (aa (r2 != a5)
 (R (bool false) h6)
 (aa (a6 != g6)
 (R (bool false) h6)
 (aa (b6 != a5)
 (R (bool false) h6)
 (aa (!((!(Option.isNone p2))==(a5==0)))
 (R (bool false) h6)
 (aa (!((!(Option.isNone z5))==(a5==0)))
 (R (bool false) h6)
 (∀i6,i6=h6.drew→
 aa (Option.isNone p2)
 (Calls Tryz.prog 30 #[] i6 (fun j6 k6=>
 ∃l6,j6= .returned (bool l6)∧
 R (bool l6) k6))
 (∃m6 n6 o6 p6 q6 r6 s6 t6 u6 v6 x6 y6 z6 a7 b7 c7,(i6.cell? (nb w)=some (bool m6)∧i6.cell? ((nb w).add 1)=some (slice n6 o6 p6)∧i6.cell? ((nb w).add 2)=some (slice q6 r6 s6)∧i6.cell? ((nb w).add 3)=some (slice t6 u6 v6)∧i6.cell? ((nb w).add 4)=some (slice x6 y6 z6)∧i6.cell? ((nb w).add 5)=some (slice a7 b7 c7)∧True)∧
 Calls Tryz.prog 35 #[pointer p2] i6 (fun d7 e7=>
 ∃f7 g7 h7 i7 j7 k7 l7 m7 n7 o7 p7 q7 r7 s7 t7 u7,d7= .returned (agg #[bool f7,slice g7 h7 i7,slice j7 k7 l7,slice m7 n7 o7,slice p7 q7 r7,slice s7 t7 u7])∧
 (e7.cell? (nb w)=some (bool m6)∧e7.cell? ((nb w).add 1)=some (slice n6 o6 p6)∧e7.cell? ((nb w).add 2)=some (slice q6 r6 s6)∧e7.cell? ((nb w).add 3)=some (slice t6 u6 v6)∧e7.cell? ((nb w).add 4)=some (slice x6 y6 z6)∧e7.cell? ((nb w).add 5)=some (slice a7 b7 c7)∧True)∧
 Calls Tryz.prog 34 #[agg #[bool f7,slice g7 h7 i7,slice j7 k7 l7,slice m7 n7 o7,slice p7 q7 r7,slice s7 t7 u7],agg #[bool m6,slice n6 o6 p6,slice q6 r6 s6,slice t6 u6 v6,slice x6 y6 z6,slice a7 b7 c7]] e7 (fun v7 x7=>
 ∃y7,v7= .returned (bool y7)∧
 aa y7
 (∃z7 a8 b8 c8 d8 e8 f8 g8 h8 i8 j8 k8 l8 m8 n8 o8,(x7.cell? (nb w)=some (bool z7)∧x7.cell? ((nb w).add 1)=some (slice a8 b8 c8)∧x7.cell? ((nb w).add 2)=some (slice d8 e8 f8)∧x7.cell? ((nb w).add 3)=some (slice g8 h8 i8)∧x7.cell? ((nb w).add 4)=some (slice j8 k8 l8)∧x7.cell? ((nb w).add 5)=some (slice m8 n8 o8)∧True)∧
 Calls Tryz.prog 35 #[pointer z5] x7 (fun p8 q8=>
 ∃r8 s8 t8 u8 v8 x8 y8 z8 a9 b9 c9 d9 e9 f9 g9 h9,p8= .returned (agg #[bool r8,slice s8 t8 u8,slice v8 x8 y8,slice z8 a9 b9,slice c9 d9 e9,slice f9 g9 h9])∧
 (q8.cell? (nb w)=some (bool z7)∧q8.cell? ((nb w).add 1)=some (slice a8 b8 c8)∧q8.cell? ((nb w).add 2)=some (slice d8 e8 f8)∧q8.cell? ((nb w).add 3)=some (slice g8 h8 i8)∧q8.cell? ((nb w).add 4)=some (slice j8 k8 l8)∧q8.cell? ((nb w).add 5)=some (slice m8 n8 o8)∧True)∧
 Calls Tryz.prog 34 #[agg #[bool r8,slice s8 t8 u8,slice v8 x8 y8,slice z8 a9 b9,slice c9 d9 e9,slice f9 g9 h9],agg #[bool z7,slice a8 b8 c8,slice d8 e8 f8,slice g8 h8 i8,slice j8 k8 l8,slice m8 n8 o8]] q8 (fun i9 j9=>
 ∃k9,i9= .returned (bool k9)∧
 aa k9
 (Calls Tryz.prog 30 #[] j9 (fun l9 m9=>
 ∃n9,l9= .returned (bool n9)∧
 R (bool n9) m9))
 (R (bool false) j9))))
 (R (bool false) x7)))))))))))→f6 [int .i64 g6] h6)→
 aa (y4==2)
 (∃o9 p9 q9,e6.cell? ((nb w).add 1)=some (slice o9 p9 q9)∧
 Ar .i64 ((2:Int)+(p9:Int)) (fun r9=>
 ∃s9 t9 u9,e6.cell? ((nb w).add 2)=some (slice s9 t9 u9)∧
 Ar .i64 (r9+(t9:Int)) (fun v9=>
 Ar .i64 (v9+z4) (fun x9=>
 f6 [int .i64 x9] e6))))
 (f6 [int .i64 d6] e6))→c6 [int .i64 d6] e6)→
 aa (y4==1)
 (Ar .i64 ((2:Int)+z4) (fun y9=>
 c6 [int .i64 y9] y5))
 (c6 [int .i64 0] y5)))) [slice i4 j4 k4,slice l4 m4 n4,slice o4 p4 q4,slice r4 s4 t4,slice u4 v4 x4] 0)))))))
theorem B5 (a:Bool) (b:OA) (c d:Nat) (f:OA) (g h:Nat) (i:OA) (j k:Nat) (l:OA) (m n:Nat) (o:OA) (p q:Nat) (w:World) (R:RW) (hh:LT a b c d f g h i j k l m n o p q w R):Calls Tryz.prog 6 #[agg #[bool a,slice b c d,slice f g h,slice i j k,slice l m n,slice o p q]] w fun e w'=>∃v,e= .returned v∧R v w':=
 bz hY (fn:=Tryz.f6) (by kernel_rfl) (body:=eu Tryz.f6) (by kernel_rfl) (by kernel_rfl) (by kernel_rfl) (Eq.mp (by kernel_rfl) hh)
def LU (a:OA) (b c:Nat) (d:OA) (f g:Nat) (h:OA) (i j:Nat) (k:OA) (l m:Nat) (w:World) (R:RW):Prop:=
 Calls Tryz.prog 40 #[slice a b c,slice d f g,slice h i j,slice k l m] w (fun n o=>
 ∃p,n= .returned (bool p)∧
 aa p
 (Calls Tryz.prog 30 #[] o (fun q r=>
 ∃s,q= .returned (bool s)∧
 R (bool s) r))
 (Calls Tryz.prog 30 #[] o (fun t x=>
 ∃y,t= .returned (bool y)∧
 aa (!y)
 (Calls Tryz.prog 30 #[] x (fun z a1=>
 ∃b1,z= .returned (bool b1)∧
 R (bool b1) a1))
 (Calls Tryz.prog 41 #[slice a b c,slice d f g,slice h i j,slice k l m] x (fun c1 d1=>
 ∃e1 f1 g1 h1 i1 j1 k1 l1 m1 n1 o1 p1 q1 r1 s1 t1,c1= .returned (agg #[bool e1,slice f1 g1 h1,slice i1 j1 k1,slice l1 m1 n1,slice o1 p1 q1,slice r1 s1 t1])∧
 ∀u1,u1=d1.alloc (.cells #[bool false,slice none 0 0,slice none 0 0,slice none 0 0,slice none 0 0,slice none 0 0] 71)→
 ar u1 (nb d1) (fun v1=>
 ∃x1 y1 z1 a2 b2 c2 d2 e2 f2 g2 h2 i2 j2 k2 l2 m2,(v1.cell? (nb d1)=some (bool x1)∧v1.cell? ((nb d1).add 1)=some (slice y1 z1 a2)∧v1.cell? ((nb d1).add 2)=some (slice b2 c2 d2)∧v1.cell? ((nb d1).add 3)=some (slice e2 f2 g2)∧v1.cell? ((nb d1).add 4)=some (slice h2 i2 j2)∧v1.cell? ((nb d1).add 5)=some (slice k2 l2 m2)∧True)∧
 Calls Tryz.prog 37 #[agg #[bool x1,slice y1 z1 a2,slice b2 c2 d2,slice e2 f2 g2,slice h2 i2 j2,slice k2 l2 m2]] v1 (fun n2 o2=>
 ∃p2 q2 r2,n2= .returned (tuple #[pointer p2,int .i64 q2,int .i64 r2])∧
 aa (r2 != 0)
 (R (bool false) o2)
 (Calls Tryz.prog 35 #[pointer p2] o2 (fun s2 t2=>
 ∃u2 v2 x2 y2 z2 a3 b3 c3 d3 e3 f3 g3 h3 i3 j3 k3,s2= .returned (agg #[bool u2,slice v2 x2 y2,slice z2 a3 b3,slice c3 d3 e3,slice f3 g3 h3,slice i3 j3 k3])∧
 Calls Tryz.prog 39 #[agg #[bool u2,slice v2 x2 y2,slice z2 a3 b3,slice c3 d3 e3,slice f3 g3 h3,slice i3 j3 k3]] t2 (fun l3 m3=>
 ∃n3,l3= .returned (string n3)∧
 Calls Tryz.prog 35 #[pointer p2] m3 (fun o3 p3=>
 ∃q3 r3 s3 t3 u3 v3 x3 y3 z3 a4 b4 c4 d4 e4 f4 g4,o3= .returned (agg #[bool q3,slice r3 s3 t3,slice u3 v3 x3,slice y3 z3 a4,slice b4 c4 d4,slice e4 f4 g4])∧
 ∀h4,h4=p3.alloc (.cells #[bool false,slice none 0 0,slice none 0 0,slice none 0 0,slice none 0 0,slice none 0 0] 71)→
 ar h4 (nb p3) (fun i4=>
 ∀j4:KW,(∀(k4:Int) (l4:World),(∃m4 n4 o4,l4.cell? ((nb p3).add 1)=some (slice m4 n4 o4)∧
 aa (decide (k4< (n4:Int)))
 (∃p4 q4 r4,l4.cell? ((nb p3).add 1)=some (slice p4 q4 r4)∧
 ae p4 (fun s4=>
 (0:Int)≤k4∧k4< (q4:Int)∧
 (int .i64 0).oneCell'=true∧(∃u,l4.cell? ((s4.add (k4.toNat*2)).add 0)=some u)∧l4.frozen? ((s4.add (k4.toNat*2)).add 0)=false∧
 ∀t4,t4=(l4.setCell ((s4.add (k4.toNat*2)).add 0) (int .i64 0))→
 Ar .i64 (k4+1) (fun u4=>
 j4 [int .i64 u4] t4)))
 (∀v4:KW,(∀(x4:Int) (y4:World),(∃z4 a5 b5,y4.cell? ((nb p3).add 3)=some (slice z4 a5 b5)∧
 aa (decide (x4< (a5:Int)))
 (∃c5 d5 e5,y4.cell? ((nb p3).add 3)=some (slice c5 d5 e5)∧
 ae c5 (fun f5=>
 (0:Int)≤x4∧x4< (d5:Int)∧
 (int .i64 0).oneCell'=true∧(∃u,y4.cell? ((f5.add (x4.toNat*2)).add 0)=some u)∧y4.frozen? ((f5.add (x4.toNat*2)).add 0)=false∧
 ∀g5,g5=(y4.setCell ((f5.add (x4.toNat*2)).add 0) (int .i64 0))→
 Ar .i64 (x4+1) (fun h5=>
 v4 [int .i64 h5] g5)))
 (∀i5:KW,(∀(j5:Int) (k5:World),(∃l5 m5 n5,k5.cell? ((nb d1).add 4)=some (slice l5 m5 n5)∧
 aa (decide (j5< (m5:Int)))
 (∃o5 p5 q5,k5.cell? ((nb d1).add 4)=some (slice o5 p5 q5)∧
 ae o5 (fun r5=>
 (0:Int)≤j5∧j5< (p5:Int)∧
 (int .i64 15).oneCell'=true∧(∃u,k5.cell? ((r5.add (j5.toNat*3)).add 2)=some u)∧k5.frozen? ((r5.add (j5.toNat*3)).add 2)=false∧
 ∀s5,s5=(k5.setCell ((r5.add (j5.toNat*3)).add 2) (int .i64 15))→
 Ar .i64 (j5+1) (fun t5=>
 i5 [int .i64 t5] s5)))
 (∀u5:KW,(∀(v5:Int) (x5:World),(∃y5 z5 a6,x5.cell? ((nb d1).add 1)=some (slice y5 z5 a6)∧
 aa (decide (v5< (z5:Int)))
 (∃b6 c6 d6,x5.cell? ((nb d1).add 1)=some (slice b6 c6 d6)∧
 ae b6 (fun e6=>
 (0:Int)≤v5∧v5< (c6:Int)∧
 (int .i64 0).oneCell'=true∧(∃u,x5.cell? ((e6.add (v5.toNat*2)).add 1)=some u)∧x5.frozen? ((e6.add (v5.toNat*2)).add 1)=false∧
 ∀f6,f6=(x5.setCell ((e6.add (v5.toNat*2)).add 1) (int .i64 0))→
 Ar .i64 (v5+1) (fun g6=>
 u5 [int .i64 g6] f6)))
 (Calls Tryz.prog 35 #[pointer p2] x5 (fun h6 i6=>
 ∃j6 k6 l6 m6 n6 o6 p6 q6 r6 s6 t6 u6 v6 x6 y6 z6,h6= .returned (agg #[bool j6,slice k6 l6 m6,slice n6 o6 p6,slice q6 r6 s6,slice t6 u6 v6,slice x6 y6 z6])∧
 Calls Tryz.prog 39 #[agg #[bool j6,slice k6 l6 m6,slice n6 o6 p6,slice q6 r6 s6,slice t6 u6 v6,slice x6 y6 z6]] i6 (fun a7 b7=>
 ∃c7,a7= .returned (string c7)∧
 R (bool (c7.toList==n3.toList)) b7))))→u5 [int .i64 v5] x5)→
 u5 [int .i64 0] k5))→i5 [int .i64 j5] k5)→
 i5 [int .i64 0] y4))→v4 [int .i64 x4] y4)→
 v4 [int .i64 0] l4))→j4 [int .i64 k4] l4)→
 j4 [int .i64 0] i4) [bool q3,slice r3 s3 t3,slice u3 v3 x3,slice y3 z3 a4,slice b4 c4 d4,slice e4 f4 g4] 0)))))) [bool e1,slice f1 g1 h1,slice i1 j1 k1,slice l1 m1 n1,slice o1 p1 q1,slice r1 s1 t1] 0)))))
theorem Cd (a:OA) (b c:Nat) (d:OA) (f g:Nat) (h:OA) (i j:Nat) (k:OA) (l m:Nat) (w:World) (R:RW) (hh:LU a b c d f g h i j k l m w R):Calls Tryz.prog 7 #[slice a b c,slice d f g,slice h i j,slice k l m] w fun e w'=>∃v,e= .returned v∧R v w':=
 bz hY (fn:=Tryz.f7) (by kernel_rfl) (body:=eu Tryz.f7) (by kernel_rfl) (by kernel_rfl) (by kernel_rfl) (Eq.mp (by kernel_rfl) hh)
def LX (a:OA) (b c:Nat) (d:OA) (f g:Nat) (h:OA) (i j:Nat) (k:OA) (l m:Nat) (n:Int) (w:World) (R:RW):Prop:=
 Calls Tryz.prog 40 #[slice a b c,slice d f g,slice h i j,slice k l m] w (fun o p=>
 ∃q,o= .returned (bool q)∧
 aa q
 (Calls Tryz.prog 30 #[] p (fun r s=>
 ∃t,r= .returned (bool t)∧
 R (bool t) s))
 (Calls Tryz.prog 30 #[] p (fun u x=>
 ∃y,u= .returned (bool y)∧
 aa (!y)
 (Calls Tryz.prog 30 #[] x (fun z a1=>
 ∃b1,z= .returned (bool b1)∧
 R (bool b1) a1))
 (Calls Tryz.prog 41 #[slice a b c,slice d f g,slice h i j,slice k l m] x (fun c1 d1=>
 ∃e1 f1 g1 h1 i1 j1 k1 l1 m1 n1 o1 p1 q1 r1 s1 t1,c1= .returned (agg #[bool e1,slice f1 g1 h1,slice i1 j1 k1,slice l1 m1 n1,slice o1 p1 q1,slice r1 s1 t1])∧
 ∀u1,u1=d1.alloc (.cells #[bool false,slice none 0 0,slice none 0 0,slice none 0 0,slice none 0 0,slice none 0 0] 71)→
 ar u1 (nb d1) (fun v1=>
 ∃x1 y1 z1 a2 b2 c2 d2 e2 f2 g2 h2 i2 j2 k2 l2 m2,(v1.cell? (nb d1)=some (bool x1)∧v1.cell? ((nb d1).add 1)=some (slice y1 z1 a2)∧v1.cell? ((nb d1).add 2)=some (slice b2 c2 d2)∧v1.cell? ((nb d1).add 3)=some (slice e2 f2 g2)∧v1.cell? ((nb d1).add 4)=some (slice h2 i2 j2)∧v1.cell? ((nb d1).add 5)=some (slice k2 l2 m2)∧True)∧
 Calls Tryz.prog 37 #[agg #[bool x1,slice y1 z1 a2,slice b2 c2 d2,slice e2 f2 g2,slice h2 i2 j2,slice k2 l2 m2]] v1 (fun n2 o2=>
 ∃p2 q2 r2,n2= .returned (tuple #[pointer p2,int .i64 q2,int .i64 r2])∧
 aa (r2 != 0)
 (R (bool false) o2)
 (∃s2 t2 u2 v2 x2 y2 z2 a3 b3 c3 d3 e3 f3 g3 h3 i3,(o2.cell? (nb d1)=some (bool s2)∧o2.cell? ((nb d1).add 1)=some (slice t2 u2 v2)∧o2.cell? ((nb d1).add 2)=some (slice x2 y2 z2)∧o2.cell? ((nb d1).add 3)=some (slice a3 b3 c3)∧o2.cell? ((nb d1).add 4)=some (slice d3 e3 f3)∧o2.cell? ((nb d1).add 5)=some (slice g3 h3 i3)∧True)∧
 Calls Tryz.prog 42 #[agg #[bool s2,slice t2 u2 v2,slice x2 y2 z2,slice a3 b3 c3,slice d3 e3 f3,slice g3 h3 i3]] o2 (fun j3 k3=>
 ∃l3 m3 n3 o3 p3 q3 r3 s3 t3 u3 v3 x3 y3 z3 a4,j3= .returned (agg #[slice l3 m3 n3,slice o3 p3 q3,slice r3 s3 t3,slice u3 v3 x3,slice y3 z3 a4])∧
 ∀b4,b4=k3.alloc (.cells #[slice none 0 0,slice none 0 0,slice none 0 0,slice none 0 0,slice none 0 0] 39)→
 ar b4 (nb k3) (fun c4=>
 ∀d4:KW,(∀(e4:Int) (f4:Bool) (g4:World),(∃h4 i4 j4,g4.cell? (((nb k3).add 0).add 0)=some (slice h4 i4 j4)∧
 aa (decide (e4< (i4:Int)))
 (∀k4:KW,(∀(l4:Bool) (m4:World),(Ar .i64 (e4+1) (fun n4=>
 d4 [int .i64 n4,bool l4] m4))→k4 [bool l4] m4)→
 aa (decide (e4>99))
 (aa (decide (e4<256))
 (k4 [bool f4] g4)
 (∀o4,o4=g4.drew→
 ∃p4 q4 r4 s4 t4 u4,(o4.cell? ((nb k3).add 0)=some (slice p4 q4 r4)∧o4.cell? (((nb k3).add 0).add 1)=some (slice s4 t4 u4)∧True)∧
 Calls Tryz.prog 43 #[pointer p2,int .i64 e4] o4 (fun v4 x4=>
 ∃y4,v4= .returned (bool y4)∧
 (x4.cell? ((nb k3).add 0)=some (slice p4 q4 r4)∧x4.cell? (((nb k3).add 0).add 1)=some (slice s4 t4 u4)∧True)∧
 Calls Tryz.prog 44 #[agg #[slice p4 q4 r4,slice s4 t4 u4],int .i64 e4] x4 (fun z4 a5=>
 ∃b5,z4= .returned (bool b5)∧
 aa b5
 (∃c5 d5 e5 f5 g5 h5,(a5.cell? ((nb k3).add 2)=some (slice c5 d5 e5)∧a5.cell? (((nb k3).add 2).add 1)=some (slice f5 g5 h5)∧True)∧
 ∃i5 j5 k5,a5.cell? (((nb k3).add 0).add 0)=some (slice i5 j5 k5)∧
 ae i5 (fun l5=>
 (0:Int)≤e4∧e4< (j5:Int)∧
 ∃m5,a5.cell? (l5.add (e4.toNat*1))=some (string m5)∧
 Calls Tryz.prog 45 #[agg #[slice c5 d5 e5,slice f5 g5 h5],string m5] a5 (fun n5 o5=>
 ∃p5 q5 r5,n5= .returned (slice p5 q5 r5)∧
 aa (!(y4==((q5:Int)==1)))
 (R (bool false) o5)
 (k4 [bool f4] o5))))
 (aa (!(y4==false))
 (R (bool false) a5)
 (k4 [bool f4] a5))))))
 (∀s5,s5=g4.drew→
 ∃t5 u5 v5 x5 y5 z5,(s5.cell? ((nb k3).add 0)=some (slice t5 u5 v5)∧s5.cell? (((nb k3).add 0).add 1)=some (slice x5 y5 z5)∧True)∧
 Calls Tryz.prog 43 #[pointer p2,int .i64 e4] s5 (fun a6 b6=>
 ∃c6,a6= .returned (bool c6)∧
 (b6.cell? ((nb k3).add 0)=some (slice t5 u5 v5)∧b6.cell? (((nb k3).add 0).add 1)=some (slice x5 y5 z5)∧True)∧
 Calls Tryz.prog 44 #[agg #[slice t5 u5 v5,slice x5 y5 z5],int .i64 e4] b6 (fun d6 e6=>
 ∃f6,d6= .returned (bool f6)∧
 aa f6
 (∃g6 h6 i6 j6 k6 l6,(e6.cell? ((nb k3).add 2)=some (slice g6 h6 i6)∧e6.cell? (((nb k3).add 2).add 1)=some (slice j6 k6 l6)∧True)∧
 ∃m6 n6 o6,e6.cell? (((nb k3).add 0).add 0)=some (slice m6 n6 o6)∧
 ae m6 (fun p6=>
 (0:Int)≤e4∧e4< (n6:Int)∧
 ∃q6,e6.cell? (p6.add (e4.toNat*1))=some (string q6)∧
 Calls Tryz.prog 45 #[agg #[slice g6 h6 i6,slice j6 k6 l6],string q6] e6 (fun r6 s6=>
 ∃t6 u6 v6,r6= .returned (slice t6 u6 v6)∧
 aa (!(c6==((u6:Int)==1)))
 (R (bool false) s6)
 (k4 [bool f4] s6))))
 (aa (!(c6==false))
 (R (bool false) e6)
 (k4 [bool f4] e6))))))
 (∀x6:KW,(∀(y6:Int) (z6:Bool) (a7:World),(∃b7 c7 d7,a7.cell? ((nb k3).add 4)=some (slice b7 c7 d7)∧
 aa (decide (y6< (c7:Int)))
 (∃e7 f7 g7,a7.cell? ((nb k3).add 4)=some (slice e7 f7 g7)∧
 ae e7 (fun h7=>
 (0:Int)≤y6∧y6< (f7:Int)∧
 ∃i7,a7.cell? ((h7.add (y6.toNat*2)).add 0)=some (int .i64 i7)∧
 Calls Tryz.prog 43 #[pointer p2,int .i64 i7] a7 (fun j7 k7=>
 ∃l7,j7= .returned (bool l7)∧
 aa (!l7)
 (R (bool false) k7)
 (Ar .i64 (y6+1) (fun m7=>
 x6 [int .i64 m7,bool z6] k7)))))
 (∃n7 o7 p7 q7 r7 s7 t7 u7 v7 x7 y7 z7 a8 b8 c8,(a7.cell? (nb k3)=some (slice n7 o7 p7)∧a7.cell? ((nb k3).add 1)=some (slice q7 r7 s7)∧a7.cell? ((nb k3).add 2)=some (slice t7 u7 v7)∧a7.cell? ((nb k3).add 3)=some (slice x7 y7 z7)∧a7.cell? ((nb k3).add 4)=some (slice a8 b8 c8)∧True)∧
 Calls Tryz.prog 46 #[agg #[slice n7 o7 p7,slice q7 r7 s7,slice t7 u7 v7,slice x7 y7 z7,slice a8 b8 c8],int .i64 n] a7 (fun d8 e8=>
 ∃f8,d8= .returned (bool f8)∧
 aa f8
 (R (bool true) e8)
 (Calls Tryz.prog 43 #[pointer p2,int .i64 n] e8 (fun g8 h8=>
 ∃i8,g8= .returned (bool i8)∧
 R (bool (!i8)) h8)))))→x6 [int .i64 y6,bool z6] a7)→
 x6 [int .i64 0,bool f4] g4))→d4 [int .i64 e4,bool f4] g4)→
 d4 [int .i64 97,bool false] c4) [slice l3 m3 n3,slice o3 p3 q3,slice r3 s3 t3,slice u3 v3 x3,slice y3 z3 a4] 0)))) [bool e1,slice f1 g1 h1,slice i1 j1 k1,slice l1 m1 n1,slice o1 p1 q1,slice r1 s1 t1] 0)))))
theorem BI (a:OA) (b c:Nat) (d:OA) (f g:Nat) (h:OA) (i j:Nat) (k:OA) (l m:Nat) (n:Int) (w:World) (R:RW) (hh:LX a b c d f g h i j k l m n w R):Calls Tryz.prog 8 #[slice a b c,slice d f g,slice h i j,slice k l m,int .i64 n] w fun e w'=>∃v,e= .returned v∧R v w':=
 bz hY (fn:=Tryz.f8) (by kernel_rfl) (body:=eu Tryz.f8) (by kernel_rfl) (by kernel_rfl) (by kernel_rfl) (Eq.mp (by kernel_rfl) hh)
def LV (a:OA) (b c:Nat) (d:OA) (f g:Nat) (h:OA) (i j:Nat) (k:OA) (l m:Nat) (n:OA) (o p:Nat) (q:Int) (w:World) (R:RW):Prop:=
 Calls Tryz.prog 40 #[slice a b c,slice d f g,slice h i j,slice k l m] w (fun r s=>
 ∃t,r= .returned (bool t)∧
 aa t
 (Calls Tryz.prog 30 #[] s (fun u x=>
 ∃y,u= .returned (bool y)∧
 R (bool y) x))
 (aa (decide ((o:Int)>200))
 (Calls Tryz.prog 30 #[] s (fun z a1=>
 ∃b1,z= .returned (bool b1)∧
 R (bool b1) a1))
 (Calls Tryz.prog 30 #[] s (fun c1 d1=>
 ∃e1,c1= .returned (bool e1)∧
 aa (!e1)
 (Calls Tryz.prog 30 #[] d1 (fun f1 g1=>
 ∃h1,f1= .returned (bool h1)∧
 R (bool h1) g1))
 (Calls Tryz.prog 41 #[slice a b c,slice d f g,slice h i j,slice k l m] d1 (fun i1 j1=>
 ∃k1 l1 m1 n1 o1 p1 q1 r1 s1 t1 u1 v1 x1 y1 z1 a2,i1= .returned (agg #[bool k1,slice l1 m1 n1,slice o1 p1 q1,slice r1 s1 t1,slice u1 v1 x1,slice y1 z1 a2])∧
 ∀b2,b2=j1.alloc (.cells #[bool false,slice none 0 0,slice none 0 0,slice none 0 0,slice none 0 0,slice none 0 0] 71)→
 ar b2 (nb j1) (fun c2=>
 ∃d2 e2 f2 g2 h2 i2 j2 k2 l2 m2 n2 o2 p2 q2 r2 s2,(c2.cell? (nb j1)=some (bool d2)∧c2.cell? ((nb j1).add 1)=some (slice e2 f2 g2)∧c2.cell? ((nb j1).add 2)=some (slice h2 i2 j2)∧c2.cell? ((nb j1).add 3)=some (slice k2 l2 m2)∧c2.cell? ((nb j1).add 4)=some (slice n2 o2 p2)∧c2.cell? ((nb j1).add 5)=some (slice q2 r2 s2)∧True)∧
 Calls Tryz.prog 37 #[agg #[bool d2,slice e2 f2 g2,slice h2 i2 j2,slice k2 l2 m2,slice n2 o2 p2,slice q2 r2 s2]] c2 (fun t2 u2=>
 ∃v2 x2 y2,t2= .returned (tuple #[pointer v2,int .i64 x2,int .i64 y2])∧
 aa (y2 != 0)
 (R (bool false) u2)
 (∃z2 a3 b3 c3 d3 e3 f3 g3 h3 i3 j3 k3 l3 m3 n3 o3,(u2.cell? (nb j1)=some (bool z2)∧u2.cell? ((nb j1).add 1)=some (slice a3 b3 c3)∧u2.cell? ((nb j1).add 2)=some (slice d3 e3 f3)∧u2.cell? ((nb j1).add 3)=some (slice g3 h3 i3)∧u2.cell? ((nb j1).add 4)=some (slice j3 k3 l3)∧u2.cell? ((nb j1).add 5)=some (slice m3 n3 o3)∧True)∧
 Calls Tryz.prog 42 #[agg #[bool z2,slice a3 b3 c3,slice d3 e3 f3,slice g3 h3 i3,slice j3 k3 l3,slice m3 n3 o3]] u2 (fun p3 q3=>
 ∃r3 s3 t3 u3 v3 x3 y3 z3 a4 b4 c4 d4 e4 f4 g4,p3= .returned (agg #[slice r3 s3 t3,slice u3 v3 x3,slice y3 z3 a4,slice b4 c4 d4,slice e4 f4 g4])∧
 ∀h4,h4=q3.alloc (.cells #[slice none 0 0,slice none 0 0,slice none 0 0,slice none 0 0,slice none 0 0] 39)→
 ar h4 (nb q3) (fun i4=>
 Calls Tryz.prog 47 #[pointer v2,slice n o p] i4 (fun j4 k4=>
 ∃l4 m4 n4 o4 p4,j4= .returned (tuple #[slice l4 m4 n4,int .i64 o4,int .i64 p4])∧
 ∃q4 r4 s4 t4 u4 v4 x4 y4 z4 a5 b5 c5 d5 e5 f5,(k4.cell? (nb q3)=some (slice q4 r4 s4)∧k4.cell? ((nb q3).add 1)=some (slice t4 u4 v4)∧k4.cell? ((nb q3).add 2)=some (slice x4 y4 z4)∧k4.cell? ((nb q3).add 3)=some (slice a5 b5 c5)∧k4.cell? ((nb q3).add 4)=some (slice d5 e5 f5)∧True)∧
 Calls Tryz.prog 17 #[agg #[slice q4 r4 s4,slice t4 u4 v4,slice x4 y4 z4,slice a5 b5 c5,slice d5 e5 f5],slice n o p] k4 (fun g5 h5=>
 ∃i5,g5= .returned (int .i64 i5)∧
 Calls Tryz.prog 48 #[pointer v2] h5 (fun j5 k5=>
 ∃l5 m5 n5,j5= .returned (slice l5 m5 n5)∧
 ∀o5,o5=k5.drew→
 ∃p5 q5 r5 s5 t5 u5 v5 x5 y5 z5 a6 b6 c6 d6 e6,(o5.cell? (nb q3)=some (slice p5 q5 r5)∧o5.cell? ((nb q3).add 1)=some (slice s5 t5 u5)∧o5.cell? ((nb q3).add 2)=some (slice v5 x5 y5)∧o5.cell? ((nb q3).add 3)=some (slice z5 a6 b6)∧o5.cell? ((nb q3).add 4)=some (slice c6 d6 e6)∧True)∧
 Calls Tryz.prog 49 #[pointer v2,int .i64 q] o5 (fun f6 g6=>
 ∃h6,f6= .returned (bool h6)∧
 (g6.cell? (nb q3)=some (slice p5 q5 r5)∧g6.cell? ((nb q3).add 1)=some (slice s5 t5 u5)∧g6.cell? ((nb q3).add 2)=some (slice v5 x5 y5)∧g6.cell? ((nb q3).add 3)=some (slice z5 a6 b6)∧g6.cell? ((nb q3).add 4)=some (slice c6 d6 e6)∧True)∧
 Calls Tryz.prog 46 #[agg #[slice p5 q5 r5,slice s5 t5 u5,slice v5 x5 y5,slice z5 a6 b6,slice c6 d6 e6],int .i64 q] g6 (fun i6 j6=>
 ∃k6,i6= .returned (bool k6)∧
 aa (!(h6==k6))
 (R (bool false) j6)
 (∃l6 m6 n6,j6.cell? (((nb q3).add 0).add 0)=some (slice l6 m6 n6)∧
 Calls Tryz.prog 50 #[pointer v2] j6 (fun o6 p6=>
 ∃q6,o6= .returned (int .i64 q6)∧
 (p6.cell? (((nb q3).add 0).add 0)=some (slice l6 m6 n6)∧True)∧
 aa (q6 != (m6:Int))
 (R (bool false) p6)
 (∃r6 s6 t6,p6.cell? (((nb q3).add 0).add 0)=some (slice r6 s6 t6)∧
 ∃u6 v6 x6,p6.cell? ((nb q3).add 4)=some (slice u6 v6 x6)∧
 Ar .i64 ((s6:Int)+(v6:Int)) (fun y6=>
 aa ((m5:Int) != y6)
 (R (bool false) p6)
 (Calls Tryz.prog 51 #[pointer v2] p6 (fun z6 a7=>
 ∃b7,z6= .returned (int .i64 b7)∧
 aa (b7 != 1)
 (R (bool false) a7)
 (∀c7:KW,(∀(d7:Int) (e7:Bool) (f7:World),(aa (decide (d7< (m5:Int)))
 (∀g7,g7=f7.drew→
 ∃h7 i7 j7 k7 l7 m7 n7 o7 p7 q7 r7 s7 t7 u7 v7,(g7.cell? (nb q3)=some (slice h7 i7 j7)∧g7.cell? ((nb q3).add 1)=some (slice k7 l7 m7)∧g7.cell? ((nb q3).add 2)=some (slice n7 o7 p7)∧g7.cell? ((nb q3).add 3)=some (slice q7 r7 s7)∧g7.cell? ((nb q3).add 4)=some (slice t7 u7 v7)∧True)∧
 ae l5 (fun x7=>
 (0:Int)≤d7∧d7< (m5:Int)∧
 ∃y7,g7.cell? (x7.add (d7.toNat*1))=some (int .i64 y7)∧
 Calls Tryz.prog 46 #[agg #[slice h7 i7 j7,slice k7 l7 m7,slice n7 o7 p7,slice q7 r7 s7,slice t7 u7 v7],int .i64 y7] g7 (fun z7 a8=>
 ∃b8,z7= .returned (bool b8)∧
 aa (!b8)
 (R (bool false) a8)
 (aa (decide (d7>0))
 (ae l5 (fun c8=>
 (0:Int)≤d7∧d7< (m5:Int)∧
 ∃d8,a8.cell? (c8.add (d7.toNat*1))=some (int .i64 d8)∧
 Ar .i64 (d7-1) (fun e8=>
 ae l5 (fun f8=>
 (0:Int)≤e8∧e8< (m5:Int)∧
 ∃g8,a8.cell? (f8.add (e8.toNat*1))=some (int .i64 g8)∧
 aa (decide (d8≤g8))
 (R (bool false) a8)
 (Ar .i64 (d7+1) (fun h8=>
 c7 [int .i64 h8,bool e7] a8))))))
 (Ar .i64 (d7+1) (fun i8=>
 c7 [int .i64 i8,bool e7] a8))))))
 (aa (decide (i5≥0))
 (aa ((m4:Int)==0)
 (aa (o4==i5)
 (R (bool (p4==4)) f7)
 (R (bool false) f7))
 (R (bool false) f7))
 (∃j8 k8 l8 m8 n8 o8 p8 q8 r8 s8 t8 u8 v8 x8 y8,(f7.cell? (nb q3)=some (slice j8 k8 l8)∧f7.cell? ((nb q3).add 1)=some (slice m8 n8 o8)∧f7.cell? ((nb q3).add 2)=some (slice p8 q8 r8)∧f7.cell? ((nb q3).add 3)=some (slice s8 t8 u8)∧f7.cell? ((nb q3).add 4)=some (slice v8 x8 y8)∧True)∧
 Calls Tryz.prog 53 #[agg #[slice j8 k8 l8,slice m8 n8 o8,slice p8 q8 r8,slice s8 t8 u8,slice v8 x8 y8],slice n o p] f7 (fun z8 a9=>
 ∃b9 c9 d9,z8= .returned (slice b9 c9 d9)∧
 Calls Tryz.prog 52 #[slice l4 m4 n4,slice b9 c9 d9] a9 (fun e9 f9=>
 ∃g9,e9= .returned (bool g9)∧
 aa g9
 (aa (o4==(o:Int))
 (R (bool (p4==0)) f9)
 (R (bool false) f9))
 (R (bool false) f9))))))→c7 [int .i64 d7,bool e7] f7)→
 c7 [int .i64 0,bool false] a7))))))))))))) [slice r3 s3 t3,slice u3 v3 x3,slice y3 z3 a4,slice b4 c4 d4,slice e4 f4 g4] 0)))) [bool k1,slice l1 m1 n1,slice o1 p1 q1,slice r1 s1 t1,slice u1 v1 x1,slice y1 z1 a2] 0))))))
theorem Cb (a:OA) (b c:Nat) (d:OA) (f g:Nat) (h:OA) (i j:Nat) (k:OA) (l m:Nat) (n:OA) (o p:Nat) (q:Int) (w:World) (R:RW) (hh:LV a b c d f g h i j k l m n o p q w R):Calls Tryz.prog 9 #[slice a b c,slice d f g,slice h i j,slice k l m,slice n o p,int .i64 q] w fun e w'=>∃v,e= .returned v∧R v w':=
 bz hY (fn:=Tryz.f9) (by kernel_rfl) (body:=eu Tryz.f9) (by kernel_rfl) (by kernel_rfl) (by kernel_rfl) (Eq.mp (by kernel_rfl) hh)
def K8 (a:Int) (w:World) (R:RW):Prop:=
 ∀b,b=w.alloc (.cells #[int .i64 a] 3)→
 Calls Tryz.prog 47 #[pointer none,slice (some (nb w)) 1 1] b (fun c d=>
 ∃f g h i j,c= .returned (tuple #[slice f g h,int .i64 i,int .i64 j])∧
 aa ((g:Int)==0)
 (aa (i==0)
 (aa (j==1)
 (Calls Tryz.prog 43 #[pointer none,int .i64 a] d (fun k l=>
 ∃m,k= .returned (bool m)∧
 aa (!m)
 (Calls Tryz.prog 49 #[pointer none,int .i64 a] l (fun n o=>
 ∃p,n= .returned (bool p)∧
 aa (!p)
 (Calls Tryz.prog 50 #[pointer none] o (fun q r=>
 ∃s,q= .returned (int .i64 s)∧
 aa (s==0)
 (Calls Tryz.prog 48 #[pointer none] r (fun t u=>
 ∃x y z,t= .returned (slice x y z)∧
 aa ((y:Int)==0)
 (Calls Tryz.prog 51 #[pointer none] u (fun a1 b1=>
 ∃c1,a1= .returned (int .i64 c1)∧
 aa (c1==0)
 (Calls Tryz.prog 54 #[pointer none] b1 (fun d1 e1=>
 ∃f1,d1= .returned (pointer f1)∧
 aa (Option.isNone f1)
 (Calls Tryz.prog 55 #[pointer none] e1 (fun g1 h1=>
 ∃i1,g1= .returned (pointer i1)∧
 aa (Option.isNone i1)
 (Calls Tryz.prog 56 #[pointer none] h1 (fun j1 k1=>
 ∃l1,j1= .returned (pointer l1)∧
 aa (Option.isNone l1)
 (Calls Tryz.prog 35 #[pointer none] k1 (fun m1 n1=>
 ∃o1 p1 q1 r1 s1 t1 u1 v1 x1 y1 z1 a2 b2 c2 d2 e2,m1= .returned (agg #[bool o1,slice p1 q1 r1,slice s1 t1 u1,slice v1 x1 y1,slice z1 a2 b2,slice c2 d2 e2])∧
 Calls Tryz.prog 34 #[agg #[bool o1,slice p1 q1 r1,slice s1 t1 u1,slice v1 x1 y1,slice z1 a2 b2,slice c2 d2 e2],agg #[bool false,slice none 0 0,slice none 0 0,slice none 0 0,slice none 0 0,slice none 0 0]] n1 (fun f2 g2=>
 ∃h2,f2= .returned (bool h2)∧
 aa h2
 (Calls Tryz.prog 30 #[] g2 (fun i2 j2=>
 ∃k2,i2= .returned (bool k2)∧
 R (bool k2) j2))
 (R (bool false) g2))))
 (R (bool false) k1)))
 (R (bool false) h1)))
 (R (bool false) e1)))
 (R (bool false) b1)))
 (R (bool false) u)))
 (R (bool false) r)))
 (R (bool false) o)))
 (R (bool false) l)))
 (R (bool false) d))
 (R (bool false) d))
 (R (bool false) d))
theorem AB (a:Int) (w:World) (R:RW) (hh:K8 a w R):Calls Tryz.prog 10 #[int .i64 a] w fun e w'=>∃v,e= .returned v∧R v w':=
 bz hY (fn:=Tryz.f10) (by kernel_rfl) (body:=eu Tryz.f10) (by kernel_rfl) (by kernel_rfl) (by kernel_rfl) (Eq.mp (by kernel_rfl) hh)
def K7 (w:World) (R:RW):Prop:=
 Calls Tryz.prog 31 #[string ⟨#[118,111,99,97,98,32,109,101,114,103,101,115,10,109,101,114,103,101,32,57,55,32,57,56,10,115,112,101,99,105,97,108,32,50,53,55,32,51,99,10]⟩] w (fun a b=>
 ∃c d f,a= .returned (tuple #[pointer c,int .i64 d,int .i64 f])∧
 Calls Tryz.prog 31 #[string ⟨#[118,111,99,97,98,32,109,101,114,103,101,115,10,109,101,114,103,101,32,57,55,32,57,56,10,115,112,101,99,105,97,108,32,50,53,54,32,51,99,10]⟩] b (fun g h=>
 ∃i j k,g= .returned (tuple #[pointer i,int .i64 j,int .i64 k])∧
 aa (!(Option.isNone c))
 (aa (d==0)
 (aa (f==0)
 (Calls Tryz.prog 50 #[pointer c] h (fun l m=>
 ∃n,l= .returned (int .i64 n)∧
 aa (n==257)
 (Calls Tryz.prog 49 #[pointer c,int .i64 257] m (fun o p=>
 ∃q,o= .returned (bool q)∧
 aa q
 (Calls Tryz.prog 49 #[pointer c,int .i64 258] p (fun r s=>
 ∃t,r= .returned (bool t)∧
 aa (!t)
 (aa (j==3)
 (R (bool (k==4)) s)
 (R (bool false) s))
 (R (bool false) s)))
 (R (bool false) p)))
 (R (bool false) m)))
 (R (bool false) h))
 (R (bool false) h))
 (R (bool false) h)))
theorem zu (w:World) (R:RW) (hh:K7 w R):Calls Tryz.prog 30 #[] w fun e w'=>∃v,e= .returned v∧R v w':=
 bz hY (fn:=Tryz.f30) (by kernel_rfl) (body:=eu Tryz.f30) (by kernel_rfl) (by kernel_rfl) (by kernel_rfl) (Eq.mp (by kernel_rfl) hh)
def LG (a:ByteArray) (w:World) (R:RW):Prop:=
 Calls Tryz.prog 90 #[string a] w (fun b c=>
 ∃d f g h i j k l m n o p q r s t u x,b= .returned (tuple #[agg #[bool d,slice f g h,slice i j k,slice l m n,slice o p q,slice r s t],int .i64 u,int .i64 x])∧
 ∀y,y=c.alloc (.cells #[bool false,slice none 0 0,slice none 0 0,slice none 0 0,slice none 0 0,slice none 0 0] 71)→
 ar y (nb c) (fun z=>
 aa (x != 0)
 (R (tuple #[pointer none,int .i64 u,int .i64 x]) z)
 (∃a1 b1 c1 d1 e1 f1 g1 h1 i1 j1 k1 l1 m1 n1 o1 p1,(z.cell? (nb c)=some (bool a1)∧z.cell? ((nb c).add 1)=some (slice b1 c1 d1)∧z.cell? ((nb c).add 2)=some (slice e1 f1 g1)∧z.cell? ((nb c).add 3)=some (slice h1 i1 j1)∧z.cell? ((nb c).add 4)=some (slice k1 l1 m1)∧z.cell? ((nb c).add 5)=some (slice n1 o1 p1)∧True)∧
 Calls Tryz.prog 91 #[agg #[bool a1,slice b1 c1 d1,slice e1 f1 g1,slice h1 i1 j1,slice k1 l1 m1,slice n1 o1 p1]] z (fun q1 r1=>
 ∃s1 t1 u1 v1,q1= .returned (tuple #[pointer s1,int .i64 t1,int .i64 u1,int .i64 v1])∧
 ∀x1:KW,(∀(y1:Int) (z1:World),(R (tuple #[pointer s1,int .i64 y1,int .i64 v1]) z1)→x1 [int .i64 y1] z1)→
 aa (t1==1)
 (Ar .i64 (u1+2) (fun a2=>
 x1 [int .i64 a2] r1))
 (aa (t1==2)
 (∃b2 c2 d2,r1.cell? ((nb c).add 1)=some (slice b2 c2 d2)∧
 Ar .i64 ((2:Int)+(c2:Int)) (fun e2=>
 ∃f2 g2 h2,r1.cell? ((nb c).add 2)=some (slice f2 g2 h2)∧
 Ar .i64 (e2+(g2:Int)) (fun i2=>
 Ar .i64 (u1+i2) (fun j2=>
 x1 [int .i64 j2] r1))))
 (x1 [int .i64 u1] r1))))) [bool d,slice f g h,slice i j k,slice l m n,slice o p q,slice r s t] 0)
theorem zJ (a:ByteArray) (w:World) (R:RW) (hh:LG a w R):Calls Tryz.prog 31 #[string a] w fun e w'=>∃v,e= .returned v∧R v w':=
 bz hY (fn:=Tryz.f31) (by kernel_rfl) (body:=eu Tryz.f31) (by kernel_rfl) (by kernel_rfl) (by kernel_rfl) (Eq.mp (by kernel_rfl) hh)
def Li (a:OA) (w:World) (R:RW):Prop:=
 ∀b,b=w.alloc (.cells #[bool false,slice none 0 0,slice none 0 0,slice none 0 0,slice none 0 0,slice none 0 0] 71)→
 aa (Option.isNone a)
 (ar b (nb w) (fun c=>
 ∃d f g h i j k l m n o p q r s t,(c.cell? (nb w)=some (bool d)∧c.cell? ((nb w).add 1)=some (slice f g h)∧c.cell? ((nb w).add 2)=some (slice i j k)∧c.cell? ((nb w).add 3)=some (slice l m n)∧c.cell? ((nb w).add 4)=some (slice o p q)∧c.cell? ((nb w).add 5)=some (slice r s t)∧True)∧
 R (agg #[bool d,slice f g h,slice i j k,slice l m n,slice o p q,slice r s t]) c) [bool false,slice none 0 0,slice none 0 0,slice none 0 0,slice none 0 0,slice none 0 0] 0)
 (ae a (fun u=>
 ∃x y z a1 b1 c1 d1 e1 f1 g1 h1 i1 j1 k1 l1 m1,(b.cell? ((u.add 0).add 0)=some (bool x)∧b.cell? (((u.add 0).add 0).add 1)=some (slice y z a1)∧b.cell? (((u.add 0).add 0).add 2)=some (slice b1 c1 d1)∧b.cell? (((u.add 0).add 0).add 3)=some (slice e1 f1 g1)∧b.cell? (((u.add 0).add 0).add 4)=some (slice h1 i1 j1)∧b.cell? (((u.add 0).add 0).add 5)=some (slice k1 l1 m1)∧True)∧
 Calls Tryz.prog 100 #[agg #[bool x,slice y z a1,slice b1 c1 d1,slice e1 f1 g1,slice h1 i1 j1,slice k1 l1 m1]] b (fun n1 o1=>
 ∃p1 q1 r1 s1 t1 u1 v1 x1 y1 z1 a2 b2 c2 d2 e2 f2,n1= .returned (agg #[bool p1,slice q1 r1 s1,slice t1 u1 v1,slice x1 y1 z1,slice a2 b2 c2,slice d2 e2 f2])∧
 ar o1 (nb w) (fun g2=>
 ∃h2 i2 j2 k2 l2 m2 n2 o2 p2 q2 r2 s2 t2 u2 v2 x2,(g2.cell? (nb w)=some (bool h2)∧g2.cell? ((nb w).add 1)=some (slice i2 j2 k2)∧g2.cell? ((nb w).add 2)=some (slice l2 m2 n2)∧g2.cell? ((nb w).add 3)=some (slice o2 p2 q2)∧g2.cell? ((nb w).add 4)=some (slice r2 s2 t2)∧g2.cell? ((nb w).add 5)=some (slice u2 v2 x2)∧True)∧
 R (agg #[bool h2,slice i2 j2 k2,slice l2 m2 n2,slice o2 p2 q2,slice r2 s2 t2,slice u2 v2 x2]) g2) [bool p1,slice q1 r1 s1,slice t1 u1 v1,slice x1 y1 z1,slice a2 b2 c2,slice d2 e2 f2] 0)))
theorem pA (a:OA) (w:World) (R:RW) (hh:Li a w R):Calls Tryz.prog 35 #[pointer a] w fun e w'=>∃v,e= .returned v∧R v w':=
 bz hY (fn:=Tryz.f35) (by kernel_rfl) (body:=eu Tryz.f35) (by kernel_rfl) (by kernel_rfl) (by kernel_rfl) (Eq.mp (by kernel_rfl) hh)
def K9 (a:Bool) (b:OA) (c d:Nat) (f:OA) (g h:Nat) (i:OA) (j k:Nat) (l:OA) (m n:Nat) (o:OA) (p q:Nat) (w:World) (R:RW):Prop:=
 ∀r,r=w.alloc (.cells #[bool a,slice b c d,slice f g h,slice i j k,slice l m n,slice o p q] 71)→
 ∃s t u x y z a1 b1 c1 d1 e1 f1 g1 h1 i1 j1,(r.cell? (nb w)=some (bool s)∧r.cell? ((nb w).add 1)=some (slice t u x)∧r.cell? ((nb w).add 2)=some (slice y z a1)∧r.cell? ((nb w).add 3)=some (slice b1 c1 d1)∧r.cell? ((nb w).add 4)=some (slice e1 f1 g1)∧r.cell? ((nb w).add 5)=some (slice h1 i1 j1)∧True)∧
 Calls Tryz.prog 96 #[agg #[bool s,slice t u x,slice y z a1,slice b1 c1 d1,slice e1 f1 g1,slice h1 i1 j1]] r (fun k1 l1=>
 ∃m1,k1= .returned (bool m1)∧
 R (bool m1) l1)
theorem zB (a:Bool) (b:OA) (c d:Nat) (f:OA) (g h:Nat) (i:OA) (j k:Nat) (l:OA) (m n:Nat) (o:OA) (p q:Nat) (w:World) (R:RW) (hh:K9 a b c d f g h i j k l m n o p q w R):Calls Tryz.prog 38 #[agg #[bool a,slice b c d,slice f g h,slice i j k,slice l m n,slice o p q]] w fun e w'=>∃v,e= .returned v∧R v w':=
 bz hY (fn:=Tryz.f38) (by kernel_rfl) (body:=eu Tryz.f38) (by kernel_rfl) (by kernel_rfl) (by kernel_rfl) (Eq.mp (by kernel_rfl) hh)
def La (a:OA) (b c:Nat) (d:OA) (f g:Nat) (h:Int) (w:World) (R:RW):Prop:=
 ∀i,i=w.alloc (.cells #[slice a b c,slice d f g] 35)→
 ∀j,j=i.drew→
 ∃k l m n o p,(j.cell? (nb w)=some (slice k l m)∧j.cell? ((nb w).add 1)=some (slice n o p)∧True)∧
 ∃q r s,j.cell? ((nb w).add 0)=some (slice q r s)∧
 ae q (fun t=>
 (0:Int)≤h∧h< (r:Int)∧
 ∃u,j.cell? (t.add (h.toNat*1))=some (string u)∧
 Calls Tryz.prog 109 #[agg #[slice k l m,slice n o p],string u] j (fun x y=>
 ∃z a1 b1,x= .returned (slice z a1 b1)∧
 aa ((a1:Int)==1)
 (ae z (fun c1=>
 (0:Int)≤0∧0< (a1:Int)∧
 ∃d1,y.cell? (c1.add ((0:Int).toNat*1))=some (int .i64 d1)∧
 R (bool (d1==h)) y))
 (R (bool false) y)))
theorem zT (a:OA) (b c:Nat) (d:OA) (f g:Nat) (h:Int) (w:World) (R:RW) (hh:La a b c d f g h w R):Calls Tryz.prog 44 #[agg #[slice a b c,slice d f g],int .i64 h] w fun e w'=>∃v,e= .returned v∧R v w':=
 bz hY (fn:=Tryz.f44) (by kernel_rfl) (body:=eu Tryz.f44) (by kernel_rfl) (by kernel_rfl) (by kernel_rfl) (Eq.mp (by kernel_rfl) hh)
def LH (a:OA) (w:World) (R:RW):Prop:=
 aa (Option.isNone a)
 (R (int .i64 0) w)
 (ae a (fun b=>
 Calls Tryz.prog 117 #[pointer (some (b.add 13))] w (fun c d=>
 ∃f,c= .returned (int .i64 f)∧
 R (int .i64 f) d)))
theorem qh (a:OA) (w:World) (R:RW) (hh:LH a w R):Calls Tryz.prog 51 #[pointer a] w fun e w'=>∃v,e= .returned v∧R v w':=
 bz hY (fn:=Tryz.f51) (by kernel_rfl) (body:=eu Tryz.f51) (by kernel_rfl) (by kernel_rfl) (by kernel_rfl) (Eq.mp (by kernel_rfl) hh)
def KL (a:OA) (b c:Nat) (w:World) (R:RW):Prop:=
 ∀d,d=w.alloc (.cells #[slice none 0 0,slice none 0 0] 35)→
 Calls Tryz.prog 157 #[] d (fun f g=>
 ∃h i j k l m,f= .returned (agg #[slice h i j,slice k l m])∧
 ∀n,n=g.alloc (.cells #[slice none 0 0,slice none 0 0] 35)→
 ar n (nb g) (fun o=>
 ∀p:KW,(∀(q r s:Int) (t:World),(aa (decide (q< (b:Int)))
 (∀u,u=t.drew→
 ∃x y z a1 b1 c1,(u.cell? (nb g)=some (slice x y z)∧u.cell? ((nb g).add 1)=some (slice a1 b1 c1)∧True)∧
 ae a (fun d1=>
 (0:Int)≤q∧q< (b:Int)∧
 ∃e1,u.cell? (d1.add (q.toNat*1))=some (string e1)∧
 Calls Tryz.prog 109 #[agg #[slice x y z,slice a1 b1 c1],string e1] u (fun f1 g1=>
 ∃h1 i1 j1,f1= .returned (slice h1 i1 j1)∧
 aa ((i1:Int) != 2)
 (∃k1 l1 m1 n1 o1 p1,(g1.cell? (nb g)=some (slice k1 l1 m1)∧g1.cell? ((nb g).add 1)=some (slice n1 o1 p1)∧True)∧
 ar g1 (nb w) (fun q1=>
 ∃r1 s1 t1 u1 v1 x1,(q1.cell? (nb w)=some (slice r1 s1 t1)∧q1.cell? ((nb w).add 1)=some (slice u1 v1 x1)∧True)∧
 R (tuple #[agg #[slice r1 s1 t1,slice u1 v1 x1],int .i64 q,int .i64 2]) q1) [slice k1 l1 m1,slice n1 o1 p1] 0)
 (∀y1,y1=g1.drew→
 ∃z1 a2 b2 c2 d2 e2,(y1.cell? (nb g)=some (slice z1 a2 b2)∧y1.cell? ((nb g).add 1)=some (slice c2 d2 e2)∧True)∧
 ae h1 (fun f2=>
 (0:Int)≤0∧0< (i1:Int)∧
 ∃g2,y1.cell? (f2.add ((0:Int).toNat*1))=some (int .i64 g2)∧
 ae h1 (fun h2=>
 (0:Int)≤1∧1< (i1:Int)∧
 ∃i2,y1.cell? (h2.add ((1:Int).toNat*1))=some (int .i64 i2)∧
 (Calls Tryz.prog 158 #[agg #[slice z1 a2 b2,slice c2 d2 e2],agg #[int .i64 g2,int .i64 i2]] y1 (fun j2 k2=>
 ∃l2 m2 n2 o2 p2 q2 r2,j2= .returned (tuple #[agg #[slice l2 m2 n2,slice o2 p2 q2],int .i64 r2])∧
 ∀s2,s2=k2.alloc (.cells #[slice none 0 0,slice none 0 0] 35)→
 ar s2 (nb k2) (fun t2=>
 aa (r2 != 0)
 (∃u2 v2 x2 y2 z2 a3,(t2.cell? (nb g)=some (slice u2 v2 x2)∧t2.cell? ((nb g).add 1)=some (slice y2 z2 a3)∧True)∧
 ar t2 (nb w) (fun b3=>
 ∃c3 d3 e3 f3 g3 h3,(b3.cell? (nb w)=some (slice c3 d3 e3)∧b3.cell? ((nb w).add 1)=some (slice f3 g3 h3)∧True)∧
 R (tuple #[agg #[slice c3 d3 e3,slice f3 g3 h3],int .i64 q,int .i64 r2]) b3) [slice u2 v2 x2,slice y2 z2 a3] 0)
 (∃i3 j3 k3 l3 m3 n3,(t2.cell? (nb k2)=some (slice i3 j3 k3)∧t2.cell? ((nb k2).add 1)=some (slice l3 m3 n3)∧True)∧
 ar t2 (nb g) (fun o3=>
 Ar .i64 (q+1) (fun p3=>
 p [int .i64 p3,int .i64 r,int .i64 s] o3)) [slice i3 j3 k3,slice l3 m3 n3] 0)) [slice l2 m2 n2,slice o2 p2 q2] 0))∧
 (∀q3,q3=y1.alloc (.cells #[slice none 0 0,slice none 0 0] 35)→
 (q3.cell? (h2.add ((1:Int).toNat*1))=some (int .i64 i2)∧True)∧
 (q3.cell? (f2.add ((0:Int).toNat*1))=some (int .i64 g2)∧True)∧
 (q3.cell? (nb g)=some (slice z1 a2 b2)∧q3.cell? ((nb g).add 1)=some (slice c2 d2 e2)∧True)∧
 Calls Tryz.prog 158 #[agg #[slice z1 a2 b2,slice c2 d2 e2],agg #[int .i64 g2,int .i64 i2]] q3 (fun r3 s3=>
 ∃t3 u3 v3 x3 y3 z3 a4,r3= .returned (tuple #[agg #[slice t3 u3 v3,slice x3 y3 z3],int .i64 a4])∧
 ar s3 (nb y1) (fun b4=>
 aa (a4 != 0)
 (∃c4 d4 e4 f4 g4 h4,(b4.cell? (nb g)=some (slice c4 d4 e4)∧b4.cell? ((nb g).add 1)=some (slice f4 g4 h4)∧True)∧
 ar b4 (nb w) (fun i4=>
 ∃j4 k4 l4 m4 n4 o4,(i4.cell? (nb w)=some (slice j4 k4 l4)∧i4.cell? ((nb w).add 1)=some (slice m4 n4 o4)∧True)∧
 R (tuple #[agg #[slice j4 k4 l4,slice m4 n4 o4],int .i64 q,int .i64 a4]) i4) [slice c4 d4 e4,slice f4 g4 h4] 0)
 (∃p4 q4 r4 s4 t4 u4,(b4.cell? (nb y1)=some (slice p4 q4 r4)∧b4.cell? ((nb y1).add 1)=some (slice s4 t4 u4)∧True)∧
 ar b4 (nb g) (fun v4=>
 Ar .i64 (q+1) (fun x4=>
 p [int .i64 x4,int .i64 r,int .i64 s] v4)) [slice p4 q4 r4,slice s4 t4 u4] 0)) [slice t3 u3 v3,slice x3 y3 z3] 0))))))))
 (∃y4 z4 a5 b5 c5 d5,(t.cell? (nb g)=some (slice y4 z4 a5)∧t.cell? ((nb g).add 1)=some (slice b5 c5 d5)∧True)∧
 ar t (nb w) (fun e5=>
 ∃f5 g5 h5 i5 j5 k5,(e5.cell? (nb w)=some (slice f5 g5 h5)∧e5.cell? ((nb w).add 1)=some (slice i5 j5 k5)∧True)∧
 R (tuple #[agg #[slice f5 g5 h5,slice i5 j5 k5],int .i64 (b:Int),int .i64 0]) e5) [slice y4 z4 a5,slice b5 c5 d5] 0))→p [int .i64 q,int .i64 r,int .i64 s] t)→
 p [int .i64 0,int .i64 0,int .i64 0] o) [slice h i j,slice k l m] 0)
theorem vX (a:OA) (b c:Nat) (w:World) (R:RW) (hh:KL a b c w R):Calls Tryz.prog 140 #[slice a b c] w fun e w'=>∃v,e= .returned v∧R v w':=
 bz hY (fn:=Tryz.f140) (by kernel_rfl) (body:=eu Tryz.f140) (by kernel_rfl) (by kernel_rfl) (by kernel_rfl) (Eq.mp (by kernel_rfl) hh)
theorem aF {f:FuncId} {fn:Func} {args:List Value} {w:World} {R:RW} {p:Prop} (hf:Tryz.prog.funcs[f]? =some fn) (hb:fn.body=some (eu fn)) (hn:Nat.ble args.length fn.ntmps=true) (hw:wf mf fn.ntmps (eu fn)=true) (h:p=Dh mf (eu fn) fn.results.toList args w R) (hh:p):Calls Tryz.prog f args.toArray w fun e w'=>∃v,e= .returned v∧R v w':=
 bz hY hf hb hn hw (Eq.mp h hh)
end Go.Proofs.YtijbcdiffjjefaaGreatDoor.Eng
