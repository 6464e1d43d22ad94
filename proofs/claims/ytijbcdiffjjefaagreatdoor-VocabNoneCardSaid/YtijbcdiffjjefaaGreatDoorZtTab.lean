/- The types that this claim's functions name, as the loaded program has them. -/
import Derived.Test.YtijbcdiffjjefaaGreatDoorZtEng
import Derived.Test.YtijbcdiffjjefaaGreatDoorProg
import Derived.KernelRfl
set_option linter.unusedVariables false
namespace Go.Proofs.YtijbcdiffjjefaaGreatDoor.Eng
open Go
abbrev OA:=Option Addr
abbrev KW:=List Value→World→Prop
abbrev RW:=Value→World→Prop
abbrev CP:=Calls Tryz.prog
abbrev CR (k:Nat) (a:Array Value) (w:World) (R:RW):Prop:=CP k a w fun e w'=>∃v,e= .returned v∧R v w'
def Di:TI:={rs:=some (.tup [])}
theorem Am:aq Tryz.prog 0 Di where
def Dh:TI:={size:=some 1,agg:=some false,rs:=some (.one (.leaf (.int .i64))),zero:=some (Value.int .i64 0),intk:=some .i64,conc:=true}
theorem AC:aq Tryz.prog 2 Dh where
 zero:=ab (Value.int .i64 0) rfl (by kernel_rfl)
 intk:=ab (IntKind.i64) rfl (by kernel_rfl)
 conc:=ag ⟨am (Tryz.prog.underlying 2),by kernel_rfl,ai (by kernel_rfl)⟩
def Dm:TI:={size:=some 1,agg:=some false,rs:=some (.one (.leaf (.int .i64))),zero:=some (Value.int .i64 0),intk:=some .i64,conc:=true}
theorem Ag:aq Tryz.prog 3 Dm where
 zero:=ab (Value.int .i64 0) rfl (by kernel_rfl)
 intk:=ab (IntKind.i64) rfl (by kernel_rfl)
 conc:=ag ⟨am (Tryz.prog.underlying 3),by kernel_rfl,ai (by kernel_rfl)⟩
def Dj:TI:={size:=some 1,agg:=some false,rs:=some (.one (.leaf (.bool))),zero:=some (Value.bool false),conc:=true,isBool:=true}
theorem Af:aq Tryz.prog 4 Dj where
 zero:=ab (Value.bool false) rfl (by kernel_rfl)
 conc:=ag ⟨am (Tryz.prog.underlying 4),by kernel_rfl,ai (by kernel_rfl)⟩
 isBool:=ag (by kernel_rfl)
def Dl:TI:={size:=some 1,agg:=some false,rs:=some (.one (.leaf (.int .u8))),zero:=some (Value.int .u8 0),intk:=some .u8,conc:=true}
theorem Aq:aq Tryz.prog 5 Dl where
 zero:=ab (Value.int .u8 0) rfl (by kernel_rfl)
 intk:=ab (IntKind.u8) rfl (by kernel_rfl)
 conc:=ag ⟨am (Tryz.prog.underlying 5),by kernel_rfl,ai (by kernel_rfl)⟩
def Dk:TI:={size:=some 1,agg:=some false,rs:=some (.one (.leaf (.str))),zero:=some (Value.string ⟨#[]⟩),isStr:=true,conc:=true}
theorem Al:aq Tryz.prog 9 Dk where
 zero:=ab (Value.string ⟨#[]⟩) rfl (by kernel_rfl)
 isStr:=ag (by kernel_rfl)
 conc:=ag ⟨am (Tryz.prog.underlying 9),by kernel_rfl,ai (by kernel_rfl)⟩
def B2:TI:={size:=some 1,agg:=some false,rs:=some (.one (.leaf (.slice))),zero:=some (Value.slice none 0 0),slc:=some (242,1),conc:=true,isSlc:=true}
theorem xy:aq Tryz.prog 22 B2 where
 zero:=ab (Value.slice none 0 0) rfl (by kernel_rfl)
 slc:=aJ 242 1 rfl ⟨by kernel_rfl,by kernel_rfl⟩
 conc:=ag ⟨am (Tryz.prog.underlying 22),by kernel_rfl,ai (by kernel_rfl)⟩
 isSlc:=ag ⟨242,by kernel_rfl⟩
def AW:TI:={size:=some 1,agg:=some false,rs:=some (.one (.leaf (.slice))),zero:=some (Value.slice none 0 0),slc:=some (89,3),conc:=true,isSlc:=true}
theorem yd:aq Tryz.prog 23 AW where
 zero:=ab (Value.slice none 0 0) rfl (by kernel_rfl)
 slc:=aJ 89 3 rfl ⟨by kernel_rfl,by kernel_rfl⟩
 conc:=ag ⟨am (Tryz.prog.underlying 23),by kernel_rfl,ai (by kernel_rfl)⟩
 isSlc:=ag ⟨89,by kernel_rfl⟩
def Cd:TI:={size:=some 1,agg:=some false,rs:=some (.one (.leaf (.slice))),zero:=some (Value.slice none 0 0),slc:=some (170,2),conc:=true,isSlc:=true}
theorem xf:aq Tryz.prog 24 Cd where
 zero:=ab (Value.slice none 0 0) rfl (by kernel_rfl)
 slc:=aJ 170 2 rfl ⟨by kernel_rfl,by kernel_rfl⟩
 conc:=ag ⟨am (Tryz.prog.underlying 24),by kernel_rfl,ai (by kernel_rfl)⟩
 isSlc:=ag ⟨170,by kernel_rfl⟩
def CE:TI:={size:=some 1,agg:=some false,rs:=some (.one (.leaf (.slice))),zero:=some (Value.slice none 0 0),slc:=some (87,2),conc:=true,isSlc:=true}
theorem xV:aq Tryz.prog 25 CE where
 zero:=ab (Value.slice none 0 0) rfl (by kernel_rfl)
 slc:=aJ 87 2 rfl ⟨by kernel_rfl,by kernel_rfl⟩
 conc:=ag ⟨am (Tryz.prog.underlying 25),by kernel_rfl,ai (by kernel_rfl)⟩
 isSlc:=ag ⟨87,by kernel_rfl⟩
def CC:TI:={size:=some 4,agg:=some true,rs:=some (.one (.agg [.slice,.slice,.slice,.slice])),zero:=some (Value.agg #[Value.slice none 0 0,Value.slice none 0 0,Value.slice none 0 0,Value.slice none 0 0]),offs:=some [(0,0,false),(1,0,false),(2,0,false),(3,0,false)],conc:=true}
theorem xE:aq Tryz.prog 27 CC where
 size:=ab (4) rfl (by kernel_rfl)
 agg:=ab (true) rfl (by kernel_rfl)
 zero:=ab (Value.agg #[Value.slice none 0 0,Value.slice none 0 0,Value.slice none 0 0,Value.slice none 0 0]) rfl (by kernel_rfl)
 offs:=ab [(0,0,false),(1,0,false),(2,0,false),(3,0,false)] rfl ⟨aA (Tryz.prog.underlying 27),by kernel_rfl,by kernel_rfl⟩
 conc:=ag ⟨am (Tryz.prog.underlying 27),by kernel_rfl,ai (by kernel_rfl)⟩
def AU:TI:={size:=some 1,agg:=some false,rs:=some (.one (.leaf (.slice))),zero:=some (Value.slice none 0 0),slc:=some (3,1),conc:=true,isSlc:=true}
theorem x6:aq Tryz.prog 28 AU where
 zero:=ab (Value.slice none 0 0) rfl (by kernel_rfl)
 slc:=aJ 3 1 rfl ⟨by kernel_rfl,by kernel_rfl⟩
 conc:=ag ⟨am (Tryz.prog.underlying 28),by kernel_rfl,ai (by kernel_rfl)⟩
 isSlc:=ag ⟨3,by kernel_rfl⟩
def BH:TI:={size:=some 1,agg:=some false,rs:=some (.one (.leaf (.ptr))),zero:=some (Value.pointer none),conc:=true,isPtr:=true}
theorem xP:aq Tryz.prog 31 BH where
 zero:=ab (Value.pointer none) rfl (by kernel_rfl)
 conc:=ag ⟨am (Tryz.prog.underlying 31),by kernel_rfl,ai (by kernel_rfl)⟩
 isPtr:=ag ⟨186,by kernel_rfl⟩
def Ce:TI:={size:=some 1,agg:=some false,rs:=some (.one (.leaf (.slice))),zero:=some (Value.slice none 0 0),slc:=some (9,1),conc:=true,isSlc:=true}
theorem ym:aq Tryz.prog 32 Ce where
 zero:=ab (Value.slice none 0 0) rfl (by kernel_rfl)
 slc:=aJ 9 1 rfl ⟨by kernel_rfl,by kernel_rfl⟩
 conc:=ag ⟨am (Tryz.prog.underlying 32),by kernel_rfl,ai (by kernel_rfl)⟩
 isSlc:=ag ⟨9,by kernel_rfl⟩
def Bq:TI:={size:=some 1,agg:=some false,rs:=some (.one (.leaf (.slice))),zero:=some (Value.slice none 0 0),slc:=some (85,2),conc:=true,isSlc:=true}
theorem xD:aq Tryz.prog 33 Bq where
 zero:=ab (Value.slice none 0 0) rfl (by kernel_rfl)
 slc:=aJ 85 2 rfl ⟨by kernel_rfl,by kernel_rfl⟩
 conc:=ag ⟨am (Tryz.prog.underlying 33),by kernel_rfl,ai (by kernel_rfl)⟩
 isSlc:=ag ⟨85,by kernel_rfl⟩
def Bf:TI:={size:=some 2,agg:=some true,rs:=some (.one (.agg [.slice,.slice])),zero:=some (Value.agg #[Value.slice none 0 0,Value.slice none 0 0]),offs:=some [(0,0,false),(1,0,false)],conc:=true}
theorem xl:aq Tryz.prog 35 Bf where
 size:=ab (2) rfl (by kernel_rfl)
 agg:=ab (true) rfl (by kernel_rfl)
 zero:=ab (Value.agg #[Value.slice none 0 0,Value.slice none 0 0]) rfl (by kernel_rfl)
 offs:=ab [(0,0,false),(1,0,false)] rfl ⟨aA (Tryz.prog.underlying 35),by kernel_rfl,by kernel_rfl⟩
 conc:=ag ⟨am (Tryz.prog.underlying 35),by kernel_rfl,ai (by kernel_rfl)⟩
def BO:TI:={size:=some 2,agg:=some true,rs:=some (.one (.agg [.slice,.slice])),zero:=some (Value.agg #[Value.slice none 0 0,Value.slice none 0 0]),offs:=some [(0,0,false),(1,0,false)],conc:=true}
theorem xA:aq Tryz.prog 37 BO where
 size:=ab (2) rfl (by kernel_rfl)
 agg:=ab (true) rfl (by kernel_rfl)
 zero:=ab (Value.agg #[Value.slice none 0 0,Value.slice none 0 0]) rfl (by kernel_rfl)
 offs:=ab [(0,0,false),(1,0,false)] rfl ⟨aA (Tryz.prog.underlying 37),by kernel_rfl,by kernel_rfl⟩
 conc:=ag ⟨am (Tryz.prog.underlying 37),by kernel_rfl,ai (by kernel_rfl)⟩
def A3:TI:={size:=some 5,agg:=some true,rs:=some (.one (.agg [.slice,.slice,.slice,.slice,.slice])),zero:=some (Value.agg #[Value.slice none 0 0,Value.slice none 0 0,Value.slice none 0 0,Value.slice none 0 0,Value.slice none 0 0]),offs:=some [(0,1,true),(2,1,true),(4,0,false)],conc:=true}
theorem yj:aq Tryz.prog 39 A3 where
 size:=ab (5) rfl (by kernel_rfl)
 agg:=ab (true) rfl (by kernel_rfl)
 zero:=ab (Value.agg #[Value.slice none 0 0,Value.slice none 0 0,Value.slice none 0 0,Value.slice none 0 0,Value.slice none 0 0]) rfl (by kernel_rfl)
 offs:=ab [(0,1,true),(2,1,true),(4,0,false)] rfl ⟨aA (Tryz.prog.underlying 39),by kernel_rfl,by kernel_rfl⟩
 conc:=ag ⟨am (Tryz.prog.underlying 39),by kernel_rfl,ai (by kernel_rfl)⟩
def Bb:TI:={size:=some 1,agg:=some false,rs:=some (.one (.leaf (.ptr))),zero:=some (Value.pointer none),conc:=true,isPtr:=true}
theorem xS:aq Tryz.prog 42 Bb where
 zero:=ab (Value.pointer none) rfl (by kernel_rfl)
 conc:=ag ⟨am (Tryz.prog.underlying 42),by kernel_rfl,ai (by kernel_rfl)⟩
 isPtr:=ag ⟨113,by kernel_rfl⟩
def Bz:TI:={size:=some 1,agg:=some false,rs:=some (.one (.leaf (.int .i64))),zero:=some (Value.int .i64 0),intk:=some .i64,conc:=true}
theorem yf:aq Tryz.prog 43 Bz where
 zero:=ab (Value.int .i64 0) rfl (by kernel_rfl)
 intk:=ab (IntKind.i64) rfl (by kernel_rfl)
 conc:=ag ⟨am (Tryz.prog.underlying 43),by kernel_rfl,ai (by kernel_rfl)⟩
def CA:TI:={size:=some 1,agg:=some false,rs:=some (.one (.leaf (.ptr))),zero:=some (Value.pointer none),conc:=true,isPtr:=true}
theorem yi:aq Tryz.prog 46 CA where
 zero:=ab (Value.pointer none) rfl (by kernel_rfl)
 conc:=ag ⟨am (Tryz.prog.underlying 46),by kernel_rfl,ai (by kernel_rfl)⟩
 isPtr:=ag ⟨133,by kernel_rfl⟩
def Cu:TI:={rs:=some (.tup [.leaf (.int .i64),.leaf (.bool)])}
theorem xv:aq Tryz.prog 51 Cu where
def AJ:TI:={size:=some 1,agg:=some false,rs:=some (.one (.leaf (.any))),zero:=some (Value.nilFunc),conc:=true}
theorem xj:aq Tryz.prog 54 AJ where
 zero:=ab (Value.nilFunc) rfl (by kernel_rfl)
 conc:=ag ⟨am (Tryz.prog.underlying 54),by kernel_rfl,ai (by kernel_rfl)⟩
def Cn:TI:={size:=some 1,agg:=some false,rs:=some (.one (.leaf (.slice))),zero:=some (Value.slice none 0 0),slc:=some (5,1),conc:=true,isSlc:=true}
theorem xz:aq Tryz.prog 57 Cn where
 zero:=ab (Value.slice none 0 0) rfl (by kernel_rfl)
 slc:=aJ 5 1 rfl ⟨by kernel_rfl,by kernel_rfl⟩
 conc:=ag ⟨am (Tryz.prog.underlying 57),by kernel_rfl,ai (by kernel_rfl)⟩
 isSlc:=ag ⟨5,by kernel_rfl⟩
def A0:TI:={rs:=some (.tup [.leaf (.int .i64),.leaf (.int .i64)])}
theorem xw:aq Tryz.prog 58 A0 where
def B4:TI:={size:=some 1,agg:=some false,rs:=some (.one (.leaf (.ptr))),zero:=some (Value.pointer none),conc:=true,isPtr:=true}
theorem xn:aq Tryz.prog 61 B4 where
 zero:=ab (Value.pointer none) rfl (by kernel_rfl)
 conc:=ag ⟨am (Tryz.prog.underlying 61),by kernel_rfl,ai (by kernel_rfl)⟩
 isPtr:=ag ⟨154,by kernel_rfl⟩
def BM:TI:={size:=some 1,agg:=some false,rs:=some (.one (.leaf (.ptr))),zero:=some (Value.pointer none),conc:=true,isPtr:=true}
theorem xk:aq Tryz.prog 63 BM where
 zero:=ab (Value.pointer none) rfl (by kernel_rfl)
 conc:=ag ⟨am (Tryz.prog.underlying 63),by kernel_rfl,ai (by kernel_rfl)⟩
 isPtr:=ag ⟨159,by kernel_rfl⟩
def Cz:TI:={rs:=some (.tup [.leaf (.ptr),.leaf (.int .i64),.leaf (.int .i64)])}
theorem xC:aq Tryz.prog 68 Cz where
def Bw:TI:={size:=some 6,agg:=some true,rs:=some (.one (.agg [.bool,.slice,.slice,.slice,.slice,.slice])),zero:=some (Value.agg #[Value.bool false,Value.slice none 0 0,Value.slice none 0 0,Value.slice none 0 0,Value.slice none 0 0,Value.slice none 0 0]),offs:=some [(0,0,false),(1,0,false),(2,0,false),(3,0,false),(4,0,false),(5,0,false)],conc:=true}
theorem x8:aq Tryz.prog 71 Bw where
 size:=ab (6) rfl (by kernel_rfl)
 agg:=ab (true) rfl (by kernel_rfl)
 zero:=ab (Value.agg #[Value.bool false,Value.slice none 0 0,Value.slice none 0 0,Value.slice none 0 0,Value.slice none 0 0,Value.slice none 0 0]) rfl (by kernel_rfl)
 offs:=ab [(0,0,false),(1,0,false),(2,0,false),(3,0,false),(4,0,false),(5,0,false)] rfl ⟨aA (Tryz.prog.underlying 71),by kernel_rfl,by kernel_rfl⟩
 conc:=ag ⟨am (Tryz.prog.underlying 71),by kernel_rfl,ai (by kernel_rfl)⟩
def BX:TI:={rs:=some (.tup [.agg [.bool,.slice,.slice,.slice,.slice,.slice],.leaf (.int .i64)])}
theorem xQ:aq Tryz.prog 72 BX where
def Cs:TI:={rs:=some (.tup [.agg [.slice,.slice,.slice,.slice,.slice],.leaf (.int .i64),.leaf (.int .i64),.leaf (.int .i64)])}
theorem xo:aq Tryz.prog 74 Cs where
def BC:TI:={size:=some 1,agg:=some false,rs:=some (.one (.leaf (.any))),zero:=some (Value.nilFunc),conc:=true}
theorem yb:aq Tryz.prog 78 BC where
 zero:=ab (Value.nilFunc) rfl (by kernel_rfl)
 conc:=ag ⟨am (Tryz.prog.underlying 78),by kernel_rfl,ai (by kernel_rfl)⟩
def B7:TI:={size:=some 2,agg:=some true,rs:=some (.one (.agg [.int .i64,.int .i64])),zero:=some (Value.agg #[Value.int .i64 0,Value.int .i64 0]),offs:=some [(0,0,false),(1,0,false)],eqs:=some [.i,.i],conc:=true}
theorem yg:aq Tryz.prog 85 B7 where
 size:=ab (2) rfl (by kernel_rfl)
 agg:=ab (true) rfl (by kernel_rfl)
 zero:=ab (Value.agg #[Value.int .i64 0,Value.int .i64 0]) rfl (by kernel_rfl)
 offs:=ab [(0,0,false),(1,0,false)] rfl ⟨aA (Tryz.prog.underlying 85),by kernel_rfl,by kernel_rfl⟩
 conc:=ag ⟨am (Tryz.prog.underlying 85),by kernel_rfl,ai (by kernel_rfl)⟩
 eqs:=ab [.i,.i] rfl (by kernel_rfl)
def A9:TI:={size:=some 2,agg:=some true,rs:=some (.one (.agg [.int .i64,.str])),zero:=some (Value.agg #[Value.int .i64 0,Value.string ⟨#[]⟩]),offs:=some [(0,0,false),(1,0,false)],eqs:=some [.i,.s],conc:=true}
theorem ya:aq Tryz.prog 87 A9 where
 size:=ab (2) rfl (by kernel_rfl)
 agg:=ab (true) rfl (by kernel_rfl)
 zero:=ab (Value.agg #[Value.int .i64 0,Value.string ⟨#[]⟩]) rfl (by kernel_rfl)
 offs:=ab [(0,0,false),(1,0,false)] rfl ⟨aA (Tryz.prog.underlying 87),by kernel_rfl,by kernel_rfl⟩
 conc:=ag ⟨am (Tryz.prog.underlying 87),by kernel_rfl,ai (by kernel_rfl)⟩
 eqs:=ab [.i,.s] rfl (by kernel_rfl)
def BT:TI:={size:=some 3,agg:=some true,rs:=some (.one (.agg [.int .i64,.int .i64,.int .i64])),zero:=some (Value.agg #[Value.int .i64 0,Value.int .i64 0,Value.int .i64 0]),offs:=some [(0,0,false),(1,0,false),(2,0,false)],eqs:=some [.i,.i,.i],conc:=true}
theorem xY:aq Tryz.prog 89 BT where
 size:=ab (3) rfl (by kernel_rfl)
 agg:=ab (true) rfl (by kernel_rfl)
 zero:=ab (Value.agg #[Value.int .i64 0,Value.int .i64 0,Value.int .i64 0]) rfl (by kernel_rfl)
 offs:=ab [(0,0,false),(1,0,false),(2,0,false)] rfl ⟨aA (Tryz.prog.underlying 89),by kernel_rfl,by kernel_rfl⟩
 conc:=ag ⟨am (Tryz.prog.underlying 89),by kernel_rfl,ai (by kernel_rfl)⟩
 eqs:=ab [.i,.i,.i] rfl (by kernel_rfl)
def Br:TI:={rs:=some (.tup [.leaf (.slice),.leaf (.int .i64),.leaf (.int .i64)])}
theorem xg:aq Tryz.prog 94 Br where
def yw:TI:={size:=some 1,agg:=some false,rs:=some (.one (.leaf (.ptr))),zero:=some (Value.pointer none),conc:=true,isPtr:=true}
theorem up:aq Tryz.prog 100 yw where
 zero:=ab (Value.pointer none) rfl (by kernel_rfl)
 conc:=ag ⟨am (Tryz.prog.underlying 100),by kernel_rfl,ai (by kernel_rfl)⟩
 isPtr:=ag ⟨261,by kernel_rfl⟩
def yV:TI:={size:=some 1,agg:=some false,rs:=some (.one (.leaf (.ptr))),zero:=some (Value.pointer none),conc:=true,isPtr:=true}
theorem v6:aq Tryz.prog 102 yV where
 zero:=ab (Value.pointer none) rfl (by kernel_rfl)
 conc:=ag ⟨am (Tryz.prog.underlying 102),by kernel_rfl,ai (by kernel_rfl)⟩
 isPtr:=ag ⟨288,by kernel_rfl⟩
def zH:TI:={size:=some 1,agg:=some false,rs:=some (.one (.leaf (.ptr))),zero:=some (Value.pointer none),conc:=true,isPtr:=true}
theorem vu:aq Tryz.prog 104 zH where
 zero:=ab (Value.pointer none) rfl (by kernel_rfl)
 conc:=ag ⟨am (Tryz.prog.underlying 104),by kernel_rfl,ai (by kernel_rfl)⟩
 isPtr:=ag ⟨250,by kernel_rfl⟩
def yn:TI:={rs:=some (.tup [.leaf (.slice),.leaf (.int .i64)])}
theorem v_:aq Tryz.prog 106 yn where
def zh:TI:={size:=some 1,agg:=some false,rs:=some (.one (.leaf (.map))),zero:=some (Value.map none),elemSh:=some (.leaf (.int .i64)),conc:=true,isMap:=true}
theorem uW:aq Tryz.prog 108 zh where
 zero:=ab (Value.map none) rfl (by kernel_rfl)
 conc:=ag ⟨am (Tryz.prog.underlying 108),by kernel_rfl,ai (by kernel_rfl)⟩
 isMap:=ag ⟨3,3,by kernel_rfl⟩
def zp:TI:={size:=some 1,agg:=some false,rs:=some (.one (.leaf (.slice))),zero:=some (Value.slice none 0 0),slc:=some (111,1),conc:=true,isSlc:=true}
theorem vZ:aq Tryz.prog 109 zp where
 zero:=ab (Value.slice none 0 0) rfl (by kernel_rfl)
 slc:=aJ 111 1 rfl ⟨by kernel_rfl,by kernel_rfl⟩
 conc:=ag ⟨am (Tryz.prog.underlying 109),by kernel_rfl,ai (by kernel_rfl)⟩
 isSlc:=ag ⟨111,by kernel_rfl⟩
def yy:TI:={size:=some 1,agg:=some false,rs:=some (.one (.leaf (.slice))),zero:=some (Value.slice none 0 0),slc:=some (138,1),conc:=true,isSlc:=true}
theorem wn:aq Tryz.prog 110 yy where
 zero:=ab (Value.slice none 0 0) rfl (by kernel_rfl)
 slc:=aJ 138 1 rfl ⟨by kernel_rfl,by kernel_rfl⟩
 conc:=ag ⟨am (Tryz.prog.underlying 110),by kernel_rfl,ai (by kernel_rfl)⟩
 isSlc:=ag ⟨138,by kernel_rfl⟩
def zB:TI:={size:=some 1,agg:=some false,rs:=some (.one (.leaf (.slice))),zero:=some (Value.slice none 0 0),slc:=some (138,1),conc:=true,isSlc:=true}
theorem uD:aq Tryz.prog 111 zB where
 zero:=ab (Value.slice none 0 0) rfl (by kernel_rfl)
 slc:=aJ 138 1 rfl ⟨by kernel_rfl,by kernel_rfl⟩
 conc:=ag ⟨am (Tryz.prog.underlying 111),by kernel_rfl,ai (by kernel_rfl)⟩
 isSlc:=ag ⟨138,by kernel_rfl⟩
def yz:TI:={size:=some 4,agg:=some true,rs:=some (.one (.agg [.slice,.map,.slice,.slice])),zero:=some (Value.agg #[Value.slice none 0 0,Value.map none,Value.slice none 0 0,Value.slice none 0 0]),offs:=some [(0,0,false),(1,0,false),(2,0,false),(3,0,false)],conc:=true}
theorem wN:aq Tryz.prog 113 yz where
 size:=ab (4) rfl (by kernel_rfl)
 agg:=ab (true) rfl (by kernel_rfl)
 zero:=ab (Value.agg #[Value.slice none 0 0,Value.map none,Value.slice none 0 0,Value.slice none 0 0]) rfl (by kernel_rfl)
 offs:=ab [(0,0,false),(1,0,false),(2,0,false),(3,0,false)] rfl ⟨aA (Tryz.prog.underlying 113),by kernel_rfl,by kernel_rfl⟩
 conc:=ag ⟨am (Tryz.prog.underlying 113),by kernel_rfl,ai (by kernel_rfl)⟩
def zr:TI:={size:=some 1,agg:=some false,rs:=some (.one (.leaf (.slice))),zero:=some (Value.slice none 0 0),slc:=some (28,1),conc:=true,isSlc:=true}
theorem uJ:aq Tryz.prog 116 zr where
 zero:=ab (Value.slice none 0 0) rfl (by kernel_rfl)
 slc:=aJ 28 1 rfl ⟨by kernel_rfl,by kernel_rfl⟩
 conc:=ag ⟨am (Tryz.prog.underlying 116),by kernel_rfl,ai (by kernel_rfl)⟩
 isSlc:=ag ⟨28,by kernel_rfl⟩
def yq:TI:={size:=some 1,agg:=some false,rs:=some (.one (.leaf (.slice))),zero:=some (Value.slice none 0 0),slc:=some (4,1),conc:=true,isSlc:=true}
theorem ud:aq Tryz.prog 117 yq where
 zero:=ab (Value.slice none 0 0) rfl (by kernel_rfl)
 slc:=aJ 4 1 rfl ⟨by kernel_rfl,by kernel_rfl⟩
 conc:=ag ⟨am (Tryz.prog.underlying 117),by kernel_rfl,ai (by kernel_rfl)⟩
 isSlc:=ag ⟨4,by kernel_rfl⟩
def zX:TI:={size:=some 4,agg:=some true,rs:=some (.one (.agg [.int .u32,.int .i32,.int .u32,.slice])),zero:=some (Value.agg #[Value.int .u32 0,Value.int .i32 0,Value.int .u32 0,Value.slice none 0 0]),offs:=some [(0,2,true),(3,0,false)],conc:=true}
theorem uB:aq Tryz.prog 131 zX where
 size:=ab (4) rfl (by kernel_rfl)
 agg:=ab (true) rfl (by kernel_rfl)
 zero:=ab (Value.agg #[Value.int .u32 0,Value.int .i32 0,Value.int .u32 0,Value.slice none 0 0]) rfl (by kernel_rfl)
 offs:=ab [(0,2,true),(3,0,false)] rfl ⟨aA (Tryz.prog.underlying 131),by kernel_rfl,by kernel_rfl⟩
 conc:=ag ⟨am (Tryz.prog.underlying 131),by kernel_rfl,ai (by kernel_rfl)⟩
def y9:TI:={size:=some 7,agg:=some true,rs:=some (.one (.agg [.ptr,.slice,.slice,.int .u32,.int .i32,.int .u32,.slice])),zero:=some (Value.agg #[Value.pointer none,Value.slice none 0 0,Value.slice none 0 0,Value.int .u32 0,Value.int .i32 0,Value.int .u32 0,Value.slice none 0 0]),offs:=some [(0,0,false),(1,0,false),(2,0,false),(3,3,true)],conc:=true}
theorem w_:aq Tryz.prog 133 y9 where
 size:=ab (7) rfl (by kernel_rfl)
 agg:=ab (true) rfl (by kernel_rfl)
 zero:=ab (Value.agg #[Value.pointer none,Value.slice none 0 0,Value.slice none 0 0,Value.int .u32 0,Value.int .i32 0,Value.int .u32 0,Value.slice none 0 0]) rfl (by kernel_rfl)
 offs:=ab [(0,0,false),(1,0,false),(2,0,false),(3,3,true)] rfl ⟨aA (Tryz.prog.underlying 133),by kernel_rfl,by kernel_rfl⟩
 conc:=ag ⟨am (Tryz.prog.underlying 133),by kernel_rfl,ai (by kernel_rfl)⟩
def zj:TI:={size:=some 1,agg:=some false,rs:=some (.one (.leaf (.any))),zero:=some (Value.nilFunc),conc:=true}
theorem wO:aq Tryz.prog 135 zj where
 zero:=ab (Value.nilFunc) rfl (by kernel_rfl)
 conc:=ag ⟨am (Tryz.prog.underlying 135),by kernel_rfl,ai (by kernel_rfl)⟩
def zS:TI:={size:=some 1,agg:=some false,rs:=some (.one (.leaf (.int .u64))),zero:=some (Value.int .u64 0),intk:=some .u64,conc:=true}
theorem wd:aq Tryz.prog 138 zS where
 zero:=ab (Value.int .u64 0) rfl (by kernel_rfl)
 intk:=ab (IntKind.u64) rfl (by kernel_rfl)
 conc:=ag ⟨am (Tryz.prog.underlying 138),by kernel_rfl,ai (by kernel_rfl)⟩
def zP:TI:={rs:=some (.tup [.leaf (.slice),.leaf (.map)])}
theorem vh:aq Tryz.prog 140 zP where
def yQ:TI:={size:=some 1,agg:=some true,rs:=some (.one (.agg [.ptr])),zero:=some (Value.agg #[Value.pointer none]),offs:=some [(0,0,false)],conc:=true}
theorem wF:aq Tryz.prog 144 yQ where
 agg:=ab (true) rfl (by kernel_rfl)
 zero:=ab (Value.agg #[Value.pointer none]) rfl (by kernel_rfl)
 offs:=ab [(0,0,false)] rfl ⟨aA (Tryz.prog.underlying 144),by kernel_rfl,by kernel_rfl⟩
 conc:=ag ⟨am (Tryz.prog.underlying 144),by kernel_rfl,ai (by kernel_rfl)⟩
def yP:TI:={size:=some 1,agg:=some true,rs:=some (.one (.agg [.ptr])),zero:=some (Value.agg #[Value.pointer none]),offs:=some [(0,0,false)],conc:=true}
theorem uh:aq Tryz.prog 145 yP where
 agg:=ab (true) rfl (by kernel_rfl)
 zero:=ab (Value.agg #[Value.pointer none]) rfl (by kernel_rfl)
 offs:=ab [(0,0,false)] rfl ⟨aA (Tryz.prog.underlying 145),by kernel_rfl,by kernel_rfl⟩
 conc:=ag ⟨am (Tryz.prog.underlying 145),by kernel_rfl,ai (by kernel_rfl)⟩
def zd:TI:={size:=some 1,agg:=some false,rs:=some (.one (.leaf (.any))),zero:=some (Value.nilIface)}
theorem wy:aq Tryz.prog 147 zd where
 zero:=ab (Value.nilIface) rfl (by kernel_rfl)
def zm:TI:={size:=some 2,agg:=some true,rs:=some (.one (.agg [.slice,.slice])),zero:=some (Value.agg #[Value.slice none 0 0,Value.slice none 0 0]),offs:=some [(0,0,false),(1,0,false)],conc:=true}
theorem wb:aq Tryz.prog 151 zm where
 size:=ab (2) rfl (by kernel_rfl)
 agg:=ab (true) rfl (by kernel_rfl)
 zero:=ab (Value.agg #[Value.slice none 0 0,Value.slice none 0 0]) rfl (by kernel_rfl)
 offs:=ab [(0,0,false),(1,0,false)] rfl ⟨aA (Tryz.prog.underlying 151),by kernel_rfl,by kernel_rfl⟩
 conc:=ag ⟨am (Tryz.prog.underlying 151),by kernel_rfl,ai (by kernel_rfl)⟩
def y8:TI:={size:=some 1,agg:=some false,rs:=some (.one (.leaf (.slice))),zero:=some (Value.slice none 0 0),slc:=some (117,1),conc:=true,isSlc:=true}
theorem vX:aq Tryz.prog 152 y8 where
 zero:=ab (Value.slice none 0 0) rfl (by kernel_rfl)
 slc:=aJ 117 1 rfl ⟨by kernel_rfl,by kernel_rfl⟩
 conc:=ag ⟨am (Tryz.prog.underlying 152),by kernel_rfl,ai (by kernel_rfl)⟩
 isSlc:=ag ⟨117,by kernel_rfl⟩
def y_:TI:={size:=some 7,agg:=some true,rs:=some (.one (.agg [.ptr,.slice,.slice,.slice,.slice,.slice,.slice])),zero:=some (Value.agg #[Value.pointer none,Value.slice none 0 0,Value.slice none 0 0,Value.slice none 0 0,Value.slice none 0 0,Value.slice none 0 0,Value.slice none 0 0]),offs:=some [(0,0,false),(1,1,true),(3,1,true),(5,0,false),(6,0,false)],conc:=true}
theorem vD:aq Tryz.prog 154 y_ where
 size:=ab (7) rfl (by kernel_rfl)
 agg:=ab (true) rfl (by kernel_rfl)
 zero:=ab (Value.agg #[Value.pointer none,Value.slice none 0 0,Value.slice none 0 0,Value.slice none 0 0,Value.slice none 0 0,Value.slice none 0 0,Value.slice none 0 0]) rfl (by kernel_rfl)
 offs:=ab [(0,0,false),(1,1,true),(3,1,true),(5,0,false),(6,0,false)] rfl ⟨aA (Tryz.prog.underlying 154),by kernel_rfl,by kernel_rfl⟩
 conc:=ag ⟨am (Tryz.prog.underlying 154),by kernel_rfl,ai (by kernel_rfl)⟩
def yH:TI:={size:=some 1,agg:=some false,rs:=some (.one (.leaf (.any))),zero:=some (Value.nilFunc),conc:=true}
theorem vw:aq Tryz.prog 157 yH where
 zero:=ab (Value.nilFunc) rfl (by kernel_rfl)
 conc:=ag ⟨am (Tryz.prog.underlying 157),by kernel_rfl,ai (by kernel_rfl)⟩
def z8:TI:={size:=some 4,agg:=some true,rs:=some (.one (.agg [.ptr,.slice,.int .i64,.int .i64])),zero:=some (Value.agg #[Value.pointer none,Value.slice none 0 0,Value.int .i64 0,Value.int .i64 0]),offs:=some [(0,0,false),(1,0,false),(2,0,false),(3,0,false)],conc:=true}
theorem uV:aq Tryz.prog 159 z8 where
 size:=ab (4) rfl (by kernel_rfl)
 agg:=ab (true) rfl (by kernel_rfl)
 zero:=ab (Value.agg #[Value.pointer none,Value.slice none 0 0,Value.int .i64 0,Value.int .i64 0]) rfl (by kernel_rfl)
 offs:=ab [(0,0,false),(1,0,false),(2,0,false),(3,0,false)] rfl ⟨aA (Tryz.prog.underlying 159),by kernel_rfl,by kernel_rfl⟩
 conc:=ag ⟨am (Tryz.prog.underlying 159),by kernel_rfl,ai (by kernel_rfl)⟩
def Ab:TI:={rs:=some (.tup [.agg [.bool,.slice,.slice,.slice,.slice,.slice],.leaf (.int .i64),.leaf (.int .i64)])}
theorem uk:aq Tryz.prog 162 Ab where
def zR:TI:={size:=some 1,agg:=some false,rs:=some (.one (.leaf (.int .i64))),zero:=some (Value.int .i64 0),intk:=some .i64,conc:=true}
theorem vR:aq Tryz.prog 164 zR where
 zero:=ab (Value.int .i64 0) rfl (by kernel_rfl)
 intk:=ab (IntKind.i64) rfl (by kernel_rfl)
 conc:=ag ⟨am (Tryz.prog.underlying 164),by kernel_rfl,ai (by kernel_rfl)⟩
def zW:TI:={rs:=some (.tup [.leaf (.ptr),.leaf (.int .i64),.leaf (.int .i64),.leaf (.int .i64)])}
theorem uM:aq Tryz.prog 165 zW where
def zx:TI:={size:=some 2,agg:=some true,rs:=some (.one (.agg [.int .i64,.int .i64])),zero:=some (Value.agg #[Value.int .i64 0,Value.int .i64 0]),offs:=some [(0,0,false),(1,0,false)],eqs:=some [.i,.i],conc:=true}
theorem vN:aq Tryz.prog 170 zx where
 size:=ab (2) rfl (by kernel_rfl)
 agg:=ab (true) rfl (by kernel_rfl)
 zero:=ab (Value.agg #[Value.int .i64 0,Value.int .i64 0]) rfl (by kernel_rfl)
 offs:=ab [(0,0,false),(1,0,false)] rfl ⟨aA (Tryz.prog.underlying 170),by kernel_rfl,by kernel_rfl⟩
 conc:=ag ⟨am (Tryz.prog.underlying 170),by kernel_rfl,ai (by kernel_rfl)⟩
 eqs:=ab [.i,.i] rfl (by kernel_rfl)
def zJ:TI:={rs:=some (.tup [.agg [.slice,.slice],.leaf (.int .i64),.leaf (.int .i64)])}
theorem vU:aq Tryz.prog 172 zJ where
def zL:TI:={rs:=some (.tup [.leaf (.int .i64),.leaf (.int .i64)])}
theorem uS:aq Tryz.prog 174 zL where
def zs:TI:={size:=some 9,agg:=some true,rs:=some (.one (.agg [.bool,.slice,.slice,.slice,.slice,.slice,.ptr,.ptr,.ptr])),zero:=some (Value.agg #[Value.bool false,Value.slice none 0 0,Value.slice none 0 0,Value.slice none 0 0,Value.slice none 0 0,Value.slice none 0 0,Value.pointer none,Value.pointer none,Value.pointer none]),offs:=some [(0,5,true),(6,0,false),(7,0,false),(8,0,false)],conc:=true}
theorem wC:aq Tryz.prog 179 zs where
 size:=ab (9) rfl (by kernel_rfl)
 agg:=ab (true) rfl (by kernel_rfl)
 zero:=ab (Value.agg #[Value.bool false,Value.slice none 0 0,Value.slice none 0 0,Value.slice none 0 0,Value.slice none 0 0,Value.slice none 0 0,Value.pointer none,Value.pointer none,Value.pointer none]) rfl (by kernel_rfl)
 offs:=ab [(0,5,true),(6,0,false),(7,0,false),(8,0,false)] rfl ⟨aA (Tryz.prog.underlying 179),by kernel_rfl,by kernel_rfl⟩
 conc:=ag ⟨am (Tryz.prog.underlying 179),by kernel_rfl,ai (by kernel_rfl)⟩
def zi:TI:={size:=some 4,agg:=some true,rs:=some (.one (.agg [.int .u32,.int .i32,.int .u32,.slice])),zero:=some (Value.agg #[Value.int .u32 0,Value.int .i32 0,Value.int .u32 0,Value.slice none 0 0]),offs:=some [(0,2,true),(3,0,false)],conc:=true}
theorem wE:aq Tryz.prog 181 zi where
 size:=ab (4) rfl (by kernel_rfl)
 agg:=ab (true) rfl (by kernel_rfl)
 zero:=ab (Value.agg #[Value.int .u32 0,Value.int .i32 0,Value.int .u32 0,Value.slice none 0 0]) rfl (by kernel_rfl)
 offs:=ab [(0,2,true),(3,0,false)] rfl ⟨aA (Tryz.prog.underlying 181),by kernel_rfl,by kernel_rfl⟩
 conc:=ag ⟨am (Tryz.prog.underlying 181),by kernel_rfl,ai (by kernel_rfl)⟩
def z':TI:={size:=some 14,agg:=some true,rs:=some (.one (.agg [.bool,.slice,.slice,.slice,.slice,.slice,.ptr,.ptr,.ptr,.int .u32,.int .i32,.int .u32,.slice,.int .i64])),zero:=some (Value.agg #[Value.bool false,Value.slice none 0 0,Value.slice none 0 0,Value.slice none 0 0,Value.slice none 0 0,Value.slice none 0 0,Value.pointer none,Value.pointer none,Value.pointer none,Value.int .u32 0,Value.int .i32 0,Value.int .u32 0,Value.slice none 0 0,Value.int .i64 0]),offs:=some [(0,8,true),(9,3,true),(13,0,true)],conc:=true}
theorem ur:aq Tryz.prog 186 z' where
 size:=ab (14) rfl (by kernel_rfl)
 agg:=ab (true) rfl (by kernel_rfl)
 zero:=ab (Value.agg #[Value.bool false,Value.slice none 0 0,Value.slice none 0 0,Value.slice none 0 0,Value.slice none 0 0,Value.slice none 0 0,Value.pointer none,Value.pointer none,Value.pointer none,Value.int .u32 0,Value.int .i32 0,Value.int .u32 0,Value.slice none 0 0,Value.int .i64 0]) rfl (by kernel_rfl)
 offs:=ab [(0,8,true),(9,3,true),(13,0,true)] rfl ⟨aA (Tryz.prog.underlying 186),by kernel_rfl,by kernel_rfl⟩
 conc:=ag ⟨am (Tryz.prog.underlying 186),by kernel_rfl,ai (by kernel_rfl)⟩
def zV:TI:={rs:=some (.tup [.leaf (.slice),.leaf (.bool)])}
theorem vq:aq Tryz.prog 194 zV where
def yM:TI:={size:=some 1,agg:=some false,rs:=some (.one (.leaf (.int .u64))),zero:=some (Value.int .u64 0),intk:=some .u64,conc:=true}
theorem ux:aq Tryz.prog 202 yM where
 zero:=ab (Value.int .u64 0) rfl (by kernel_rfl)
 intk:=ab (IntKind.u64) rfl (by kernel_rfl)
 conc:=ag ⟨am (Tryz.prog.underlying 202),by kernel_rfl,ai (by kernel_rfl)⟩
def zc:TI:={rs:=some (.tup [.leaf (.int .u64),.leaf (.int .u64)])}
theorem um:aq Tryz.prog 203 zc where
def zk:TI:={size:=some 1,agg:=some false,rs:=some (.one (.leaf (.map))),zero:=some (Value.map none),elemSh:=some (.leaf (.int .i64)),conc:=true,isMap:=true}
theorem vy:aq Tryz.prog 205 zk where
 zero:=ab (Value.map none) rfl (by kernel_rfl)
 conc:=ag ⟨am (Tryz.prog.underlying 205),by kernel_rfl,ai (by kernel_rfl)⟩
 isMap:=ag ⟨9,3,by kernel_rfl⟩
def zZ:TI:={rs:=some (.tup [.leaf (.slice),.leaf (.bool)])}
theorem vv:aq Tryz.prog 207 zZ where
def zw:TI:={size:=some 1,agg:=some false,rs:=some (.one (.leaf (.ptr))),zero:=some (Value.pointer none),conc:=true,isPtr:=true}
theorem vO:aq Tryz.prog 209 zw where
 zero:=ab (Value.pointer none) rfl (by kernel_rfl)
 conc:=ag ⟨am (Tryz.prog.underlying 209),by kernel_rfl,ai (by kernel_rfl)⟩
 isPtr:=ag ⟨211,by kernel_rfl⟩
def zu:TI:={size:=some 7,agg:=some true,rs:=some (.one (.agg [.bool,.slice,.slice,.slice,.slice,.slice,.int .i64])),zero:=some (Value.agg #[Value.bool false,Value.slice none 0 0,Value.slice none 0 0,Value.slice none 0 0,Value.slice none 0 0,Value.slice none 0 0,Value.int .i64 0]),offs:=some [(0,5,true),(6,0,false)],conc:=true}
theorem vP:aq Tryz.prog 211 zu where
 size:=ab (7) rfl (by kernel_rfl)
 agg:=ab (true) rfl (by kernel_rfl)
 zero:=ab (Value.agg #[Value.bool false,Value.slice none 0 0,Value.slice none 0 0,Value.slice none 0 0,Value.slice none 0 0,Value.slice none 0 0,Value.int .i64 0]) rfl (by kernel_rfl)
 offs:=ab [(0,5,true),(6,0,false)] rfl ⟨aA (Tryz.prog.underlying 211),by kernel_rfl,by kernel_rfl⟩
 conc:=ag ⟨am (Tryz.prog.underlying 211),by kernel_rfl,ai (by kernel_rfl)⟩
def yu:TI:={rs:=some (.tup [.leaf (.ptr),.leaf (.int .i64),.leaf (.int .i64)])}
theorem ve:aq Tryz.prog 213 yu where
def zz:TI:={rs:=some (.tup [.leaf (.ptr),.leaf (.int .i64),.leaf (.int .i64)])}
theorem ul:aq Tryz.prog 215 zz where
def zA:TI:={size:=some 1,agg:=some false,rs:=some (.one (.leaf (.any))),zero:=some (Value.nilFunc),conc:=true}
theorem vI:aq Tryz.prog 218 zA where
 zero:=ab (Value.nilFunc) rfl (by kernel_rfl)
 conc:=ag ⟨am (Tryz.prog.underlying 218),by kernel_rfl,ai (by kernel_rfl)⟩
def zQ:TI:={rs:=some (.tup [.leaf (.ptr),.leaf (.int .i64)])}
theorem ww:aq Tryz.prog 219 zQ where
def zq:TI:={rs:=some (.tup [.leaf (.str),.leaf (.bool)])}
theorem un:aq Tryz.prog 222 zq where
def zI:TI:={size:=some 1,agg:=some false,rs:=some (.one (.leaf (.any))),zero:=some (Value.nilFunc),conc:=true}
theorem wS:aq Tryz.prog 234 zI where
 zero:=ab (Value.nilFunc) rfl (by kernel_rfl)
 conc:=ag ⟨am (Tryz.prog.underlying 234),by kernel_rfl,ai (by kernel_rfl)⟩
def zn:TI:={size:=some 1,agg:=some false,rs:=some (.one (.leaf (.any))),zero:=some (Value.nilFunc),conc:=true}
theorem vE:aq Tryz.prog 238 zn where
 zero:=ab (Value.nilFunc) rfl (by kernel_rfl)
 conc:=ag ⟨am (Tryz.prog.underlying 238),by kernel_rfl,ai (by kernel_rfl)⟩
def Aa:TI:={size:=some 1,agg:=some false,rs:=some (.one (.leaf (.any))),zero:=some (Value.nilFunc),conc:=true}
theorem vJ:aq Tryz.prog 240 Aa where
 zero:=ab (Value.nilFunc) rfl (by kernel_rfl)
 conc:=ag ⟨am (Tryz.prog.underlying 240),by kernel_rfl,ai (by kernel_rfl)⟩
def yK:TI:={size:=some 1,agg:=some false,rs:=some (.one (.leaf (.int .u16))),zero:=some (Value.int .u16 0),intk:=some .u16,conc:=true}
theorem wt:aq Tryz.prog 242 yK where
 zero:=ab (Value.int .u16 0) rfl (by kernel_rfl)
 intk:=ab (IntKind.u16) rfl (by kernel_rfl)
 conc:=ag ⟨am (Tryz.prog.underlying 242),by kernel_rfl,ai (by kernel_rfl)⟩
def yD:TI:={rs:=some (.tup [.agg [.slice,.slice],.leaf (.int .i64)])}
theorem ue:aq Tryz.prog 243 yD where
def zf:TI:={size:=some 256,agg:=some true,zero:=some (Value.agg (List.toArray (List.replicate 256 (Value.bool false)))),arr:=some (256,1),conc:=true}
theorem wU:aq Tryz.prog 248 zf where
 size:=ab (256) rfl (by kernel_rfl)
 agg:=ab (true) rfl (by kernel_rfl)
 zero:=ab (Value.agg (List.toArray (List.replicate 256 (Value.bool false)))) rfl (by kernel_rfl)
 arr:=aJ 256 1 rfl ⟨4,by kernel_rfl,by kernel_rfl⟩
 conc:=ag ⟨am (Tryz.prog.underlying 248),by kernel_rfl,ai (by kernel_rfl)⟩
def zN:TI:={size:=some 260,agg:=some true,zero:=some (Value.agg (List.toArray ([Value.slice none 0 0,Value.map none,Value.map none]++List.replicate 256 (Value.bool false)++ [Value.int .i64 0]))),offs:=some [(0,0,false),(1,0,false),(2,0,false),(3,255,true),(259,0,false)],conc:=true}
theorem uy:aq Tryz.prog 250 zN where
 size:=ab (260) rfl (by kernel_rfl)
 agg:=ab (true) rfl (by kernel_rfl)
 zero:=ab (Value.agg (List.toArray ([Value.slice none 0 0,Value.map none,Value.map none]++List.replicate 256 (Value.bool false)++ [Value.int .i64 0]))) rfl (by kernel_rfl)
 offs:=ab [(0,0,false),(1,0,false),(2,0,false),(3,255,true),(259,0,false)] rfl ⟨aA (Tryz.prog.underlying 250),by kernel_rfl,by kernel_rfl⟩
 conc:=ag ⟨am (Tryz.prog.underlying 250),by kernel_rfl,ai (by kernel_rfl)⟩
def yO:TI:={size:=some 1,agg:=some false,rs:=some (.one (.leaf (.slice))),zero:=some (Value.slice none 0 0),slc:=some (300,3),conc:=true,isSlc:=true}
theorem wi:aq Tryz.prog 258 yO where
 zero:=ab (Value.slice none 0 0) rfl (by kernel_rfl)
 slc:=aJ 300 3 rfl ⟨by kernel_rfl,by kernel_rfl⟩
 conc:=ag ⟨am (Tryz.prog.underlying 258),by kernel_rfl,ai (by kernel_rfl)⟩
 isSlc:=ag ⟨300,by kernel_rfl⟩
def zt:TI:={size:=some 1,agg:=some false,rs:=some (.one (.leaf (.map))),zero:=some (Value.map none),elemSh:=some (.leaf (.int .i64)),conc:=true,isMap:=true}
theorem vQ:aq Tryz.prog 259 zt where
 zero:=ab (Value.map none) rfl (by kernel_rfl)
 conc:=ag ⟨am (Tryz.prog.underlying 259),by kernel_rfl,ai (by kernel_rfl)⟩
 isMap:=ag ⟨85,3,by kernel_rfl⟩
def yS:TI:={size:=some 4,agg:=some true,rs:=some (.one (.agg [.slice,.map,.map,.int .i64])),zero:=some (Value.agg #[Value.slice none 0 0,Value.map none,Value.map none,Value.int .i64 0]),offs:=some [(0,0,false),(1,0,false),(2,0,false),(3,0,false)],conc:=true}
theorem vb:aq Tryz.prog 261 yS where
 size:=ab (4) rfl (by kernel_rfl)
 agg:=ab (true) rfl (by kernel_rfl)
 zero:=ab (Value.agg #[Value.slice none 0 0,Value.map none,Value.map none,Value.int .i64 0]) rfl (by kernel_rfl)
 offs:=ab [(0,0,false),(1,0,false),(2,0,false),(3,0,false)] rfl ⟨aA (Tryz.prog.underlying 261),by kernel_rfl,by kernel_rfl⟩
 conc:=ag ⟨am (Tryz.prog.underlying 261),by kernel_rfl,ai (by kernel_rfl)⟩
def yB:TI:={rs:=some (.tup [.agg [.int .i64,.str],.leaf (.bool)])}
theorem vW:aq Tryz.prog 265 yB where
def zv:TI:={rs:=some (.tup [.leaf (.int .u64),.leaf (.int .u64)])}
theorem uR:aq Tryz.prog 272 zv where
def zy:TI:={rs:=some (.tup [.leaf (.slice),.leaf (.int .i64)])}
theorem uZ:aq Tryz.prog 274 zy where
def zM:TI:={rs:=some (.tup [.leaf (.str),.leaf (.str),.leaf (.bool)])}
theorem wY:aq Tryz.prog 278 zM where
def zK:TI:={size:=some 256,agg:=some true,zero:=some (Value.agg (List.toArray (List.replicate 256 (Value.int .i64 0)))),arr:=some (256,1),conc:=true}
theorem wM:aq Tryz.prog 284 zK where
 size:=ab (256) rfl (by kernel_rfl)
 agg:=ab (true) rfl (by kernel_rfl)
 zero:=ab (Value.agg (List.toArray (List.replicate 256 (Value.int .i64 0)))) rfl (by kernel_rfl)
 arr:=aJ 256 1 rfl ⟨3,by kernel_rfl,by kernel_rfl⟩
 conc:=ag ⟨am (Tryz.prog.underlying 284),by kernel_rfl,ai (by kernel_rfl)⟩
def yo:TI:={size:=some 16,agg:=some true,rs:=some (.one (.agg [.bool,.bool,.bool,.bool,.bool,.bool,.bool,.bool,.bool,.bool,.bool,.bool,.bool,.bool,.bool,.bool])),zero:=some (Value.agg #[Value.bool false,Value.bool false,Value.bool false,Value.bool false,Value.bool false,Value.bool false,Value.bool false,Value.bool false,Value.bool false,Value.bool false,Value.bool false,Value.bool false,Value.bool false,Value.bool false,Value.bool false,Value.bool false]),arr:=some (16,1),conc:=true}
theorem wr:aq Tryz.prog 285 yo where
 size:=ab (16) rfl (by kernel_rfl)
 agg:=ab (true) rfl (by kernel_rfl)
 zero:=ab (Value.agg #[Value.bool false,Value.bool false,Value.bool false,Value.bool false,Value.bool false,Value.bool false,Value.bool false,Value.bool false,Value.bool false,Value.bool false,Value.bool false,Value.bool false,Value.bool false,Value.bool false,Value.bool false,Value.bool false]) rfl (by kernel_rfl)
 arr:=aJ 16 1 rfl ⟨4,by kernel_rfl,by kernel_rfl⟩
 conc:=ag ⟨am (Tryz.prog.underlying 285),by kernel_rfl,ai (by kernel_rfl)⟩
def Ac:TI:={size:=some 256,agg:=some true,zero:=some (Value.agg (List.toArray (List.replicate 256 (Value.bool false)))),arr:=some (16,16),conc:=true}
theorem wZ:aq Tryz.prog 286 Ac where
 size:=ab (256) rfl (by kernel_rfl)
 agg:=ab (true) rfl (by kernel_rfl)
 zero:=ab (Value.agg (List.toArray (List.replicate 256 (Value.bool false)))) rfl (by kernel_rfl)
 arr:=aJ 16 16 rfl ⟨285,by kernel_rfl,by kernel_rfl⟩
 conc:=ag ⟨am (Tryz.prog.underlying 286),by kernel_rfl,ai (by kernel_rfl)⟩
def zg:TI:={size:=some 512,agg:=some true,zero:=some (Value.agg (List.toArray (List.replicate 256 (Value.int .i64 0)++List.replicate 256 (Value.bool false)))),offs:=some [(0,255,true),(256,255,true)],conc:=true}
theorem wJ:aq Tryz.prog 288 zg where
 size:=ab (512) rfl (by kernel_rfl)
 agg:=ab (true) rfl (by kernel_rfl)
 zero:=ab (Value.agg (List.toArray (List.replicate 256 (Value.int .i64 0)++List.replicate 256 (Value.bool false)))) rfl (by kernel_rfl)
 offs:=ab [(0,255,true),(256,255,true)] rfl ⟨aA (Tryz.prog.underlying 288),by kernel_rfl,by kernel_rfl⟩
 conc:=ag ⟨am (Tryz.prog.underlying 288),by kernel_rfl,ai (by kernel_rfl)⟩
def y7:TI:={size:=some 3,agg:=some true,rs:=some (.one (.agg [.str,.int .i64,.int .i64])),zero:=some (Value.agg #[Value.string ⟨#[]⟩,Value.int .i64 0,Value.int .i64 0]),offs:=some [(0,0,false),(1,1,true)],conc:=true}
theorem vg:aq Tryz.prog 300 y7 where
 size:=ab (3) rfl (by kernel_rfl)
 agg:=ab (true) rfl (by kernel_rfl)
 zero:=ab (Value.agg #[Value.string ⟨#[]⟩,Value.int .i64 0,Value.int .i64 0]) rfl (by kernel_rfl)
 offs:=ab [(0,0,false),(1,1,true)] rfl ⟨aA (Tryz.prog.underlying 300),by kernel_rfl,by kernel_rfl⟩
 conc:=ag ⟨am (Tryz.prog.underlying 300),by kernel_rfl,ai (by kernel_rfl)⟩
def z_:TI:={size:=some 1,agg:=some false,rs:=some (.one (.leaf (.int .i64))),zero:=some (Value.int .i64 0),intk:=some .i64,conc:=true}
theorem uQ:aq Tryz.prog 303 z_ where
 zero:=ab (Value.int .i64 0) rfl (by kernel_rfl)
 intk:=ab (IntKind.i64) rfl (by kernel_rfl)
 conc:=ag ⟨am (Tryz.prog.underlying 303),by kernel_rfl,ai (by kernel_rfl)⟩
def Ad:TI:={rs:=some (.tup [.leaf (.int .i64),.leaf (.int .i64)])}
theorem u0:aq Tryz.prog 304 Ad where
def yI:TI:={size:=some 1,agg:=some false,rs:=some (.one (.leaf (.ptr))),zero:=some (Value.pointer none),conc:=true,isPtr:=true}
theorem wX:aq Tryz.prog 315 yI where
 zero:=ab (Value.pointer none) rfl (by kernel_rfl)
 conc:=ag ⟨am (Tryz.prog.underlying 315),by kernel_rfl,ai (by kernel_rfl)⟩
 isPtr:=ag ⟨343,by kernel_rfl⟩
def yp:TI:={size:=some 1,agg:=some false,rs:=some (.one (.leaf (.map))),zero:=some (Value.map none),elemSh:=some (.leaf (.int .i64)),conc:=true,isMap:=true}
theorem wa:aq Tryz.prog 317 yp where
 zero:=ab (Value.map none) rfl (by kernel_rfl)
 conc:=ag ⟨am (Tryz.prog.underlying 317),by kernel_rfl,ai (by kernel_rfl)⟩
 isMap:=ag ⟨4,3,by kernel_rfl⟩
def zo:TI:={rs:=some (.tup [.agg [.int .i64,.int .i64],.leaf (.bool)])}
theorem vf:aq Tryz.prog 320 zo where
def yW:TI:={size:=some 1,agg:=some false,rs:=some (.one (.leaf (.ptr))),zero:=some (Value.pointer none),conc:=true,isPtr:=true}
theorem uj:aq Tryz.prog 330 yW where
 zero:=ab (Value.pointer none) rfl (by kernel_rfl)
 conc:=ag ⟨am (Tryz.prog.underlying 330),by kernel_rfl,ai (by kernel_rfl)⟩
 isPtr:=ag ⟨360,by kernel_rfl⟩
def ze:TI:={size:=some 1,agg:=some false,rs:=some (.one (.leaf (.ptr))),zero:=some (Value.pointer none),conc:=true,isPtr:=true}
theorem vo:aq Tryz.prog 336 ze where
 zero:=ab (Value.pointer none) rfl (by kernel_rfl)
 conc:=ag ⟨am (Tryz.prog.underlying 336),by kernel_rfl,ai (by kernel_rfl)⟩
 isPtr:=ag ⟨3,by kernel_rfl⟩
def zF:TI:={size:=some 2,agg:=some true,rs:=some (.one (.agg [.int .i64,.int .i64])),zero:=some (Value.agg #[Value.int .i64 0,Value.int .i64 0]),offs:=some [(0,1,true)],conc:=true}
theorem vi:aq Tryz.prog 341 zF where
 size:=ab (2) rfl (by kernel_rfl)
 agg:=ab (true) rfl (by kernel_rfl)
 zero:=ab (Value.agg #[Value.int .i64 0,Value.int .i64 0]) rfl (by kernel_rfl)
 offs:=ab [(0,1,true)] rfl ⟨aA (Tryz.prog.underlying 341),by kernel_rfl,by kernel_rfl⟩
 conc:=ag ⟨am (Tryz.prog.underlying 341),by kernel_rfl,ai (by kernel_rfl)⟩
def zD:TI:={size:=some 5,agg:=some true,rs:=some (.one (.agg [.int .i64,.int .i64,.ptr,.int .i64,.int .i64])),zero:=some (Value.agg #[Value.int .i64 0,Value.int .i64 0,Value.pointer none,Value.int .i64 0,Value.int .i64 0]),offs:=some [(0,1,true),(2,0,false),(3,0,false),(4,0,false)],conc:=true}
theorem xa:aq Tryz.prog 343 zD where
 size:=ab (5) rfl (by kernel_rfl)
 agg:=ab (true) rfl (by kernel_rfl)
 zero:=ab (Value.agg #[Value.int .i64 0,Value.int .i64 0,Value.pointer none,Value.int .i64 0,Value.int .i64 0]) rfl (by kernel_rfl)
 offs:=ab [(0,1,true),(2,0,false),(3,0,false),(4,0,false)] rfl ⟨aA (Tryz.prog.underlying 343),by kernel_rfl,by kernel_rfl⟩
 conc:=ag ⟨am (Tryz.prog.underlying 343),by kernel_rfl,ai (by kernel_rfl)⟩
def zT:TI:={size:=some 1,agg:=some false,rs:=some (.one (.leaf (.ptr))),zero:=some (Value.pointer none),conc:=true,isPtr:=true}
theorem wc:aq Tryz.prog 354 zT where
 zero:=ab (Value.pointer none) rfl (by kernel_rfl)
 conc:=ag ⟨am (Tryz.prog.underlying 354),by kernel_rfl,ai (by kernel_rfl)⟩
 isPtr:=ag ⟨379,by kernel_rfl⟩
def yG:TI:={size:=some 3,agg:=some true,rs:=some (.one (.agg [.int .i64,.int .i64,.int .i64])),zero:=some (Value.agg #[Value.int .i64 0,Value.int .i64 0,Value.int .i64 0]),offs:=some [(0,0,false),(1,1,true)],conc:=true}
theorem uu:aq Tryz.prog 357 yG where
 size:=ab (3) rfl (by kernel_rfl)
 agg:=ab (true) rfl (by kernel_rfl)
 zero:=ab (Value.agg #[Value.int .i64 0,Value.int .i64 0,Value.int .i64 0]) rfl (by kernel_rfl)
 offs:=ab [(0,0,false),(1,1,true)] rfl ⟨aA (Tryz.prog.underlying 357),by kernel_rfl,by kernel_rfl⟩
 conc:=ag ⟨am (Tryz.prog.underlying 357),by kernel_rfl,ai (by kernel_rfl)⟩
def zG:TI:={size:=some 1,agg:=some false,rs:=some (.one (.leaf (.slice))),zero:=some (Value.slice none 0 0),slc:=some (362,3),conc:=true,isSlc:=true}
theorem wL:aq Tryz.prog 358 zG where
 zero:=ab (Value.slice none 0 0) rfl (by kernel_rfl)
 slc:=aJ 362 3 rfl ⟨by kernel_rfl,by kernel_rfl⟩
 conc:=ag ⟨am (Tryz.prog.underlying 358),by kernel_rfl,ai (by kernel_rfl)⟩
 isSlc:=ag ⟨362,by kernel_rfl⟩
def yR:TI:={size:=some 5,agg:=some true,rs:=some (.one (.agg [.ptr,.slice,.ptr,.int .i64,.int .i64])),zero:=some (Value.agg #[Value.pointer none,Value.slice none 0 0,Value.pointer none,Value.int .i64 0,Value.int .i64 0]),offs:=some [(0,0,false),(1,0,false),(2,0,false),(3,0,false),(4,0,false)],conc:=true}
theorem xb:aq Tryz.prog 360 yR where
 size:=ab (5) rfl (by kernel_rfl)
 agg:=ab (true) rfl (by kernel_rfl)
 zero:=ab (Value.agg #[Value.pointer none,Value.slice none 0 0,Value.pointer none,Value.int .i64 0,Value.int .i64 0]) rfl (by kernel_rfl)
 offs:=ab [(0,0,false),(1,0,false),(2,0,false),(3,0,false),(4,0,false)] rfl ⟨aA (Tryz.prog.underlying 360),by kernel_rfl,by kernel_rfl⟩
 conc:=ag ⟨am (Tryz.prog.underlying 360),by kernel_rfl,ai (by kernel_rfl)⟩
def zl:TI:={size:=some 3,agg:=some true,rs:=some (.one (.agg [.int .i64,.int .i64,.int .i64])),zero:=some (Value.agg #[Value.int .i64 0,Value.int .i64 0,Value.int .i64 0]),offs:=some [(0,0,false),(1,0,false),(2,0,false)],eqs:=some [.i,.i,.i],conc:=true}
theorem wo:aq Tryz.prog 362 zl where
 size:=ab (3) rfl (by kernel_rfl)
 agg:=ab (true) rfl (by kernel_rfl)
 zero:=ab (Value.agg #[Value.int .i64 0,Value.int .i64 0,Value.int .i64 0]) rfl (by kernel_rfl)
 offs:=ab [(0,0,false),(1,0,false),(2,0,false)] rfl ⟨aA (Tryz.prog.underlying 362),by kernel_rfl,by kernel_rfl⟩
 conc:=ag ⟨am (Tryz.prog.underlying 362),by kernel_rfl,ai (by kernel_rfl)⟩
 eqs:=ab [.i,.i,.i] rfl (by kernel_rfl)
def zO:TI:={rs:=some (.tup [.agg [.int .i64,.int .i64,.int .i64],.leaf (.int .i64),.leaf (.int .i64),.leaf (.bool)])}
theorem uK:aq Tryz.prog 363 zO where
def yU:TI:={size:=some 1,agg:=some false,rs:=some (.one (.leaf (.any))),zero:=some (Value.nilIface)}
theorem wG:aq Tryz.prog 372 yU where
 zero:=ab (Value.nilIface) rfl (by kernel_rfl)
def yZ:TI:={rs:=some (.tup [.leaf (.int .i64),.leaf (.any)])}
theorem uU:aq Tryz.prog 373 yZ where
def yx:TI:={size:=some 1,agg:=some false,rs:=some (.one (.leaf (.slice))),zero:=some (Value.slice none 0 0),slc:=some (389,6),conc:=true,isSlc:=true}
theorem uH:aq Tryz.prog 377 yx where
 zero:=ab (Value.slice none 0 0) rfl (by kernel_rfl)
 slc:=aJ 389 6 rfl ⟨by kernel_rfl,by kernel_rfl⟩
 conc:=ag ⟨am (Tryz.prog.underlying 377),by kernel_rfl,ai (by kernel_rfl)⟩
 isSlc:=ag ⟨389,by kernel_rfl⟩
def zY:TI:={size:=some 2,agg:=some true,rs:=some (.one (.agg [.slice,.int .i64])),zero:=some (Value.agg #[Value.slice none 0 0,Value.int .i64 0]),offs:=some [(0,0,false),(1,0,false)],conc:=true}
theorem wK:aq Tryz.prog 379 zY where
 size:=ab (2) rfl (by kernel_rfl)
 agg:=ab (true) rfl (by kernel_rfl)
 zero:=ab (Value.agg #[Value.slice none 0 0,Value.int .i64 0]) rfl (by kernel_rfl)
 offs:=ab [(0,0,false),(1,0,false)] rfl ⟨aA (Tryz.prog.underlying 379),by kernel_rfl,by kernel_rfl⟩
 conc:=ag ⟨am (Tryz.prog.underlying 379),by kernel_rfl,ai (by kernel_rfl)⟩
def yJ:TI:={size:=some 3,agg:=some true,rs:=some (.one (.agg [.int .i64,.int .i64,.int .i64])),zero:=some (Value.agg #[Value.int .i64 0,Value.int .i64 0,Value.int .i64 0]),offs:=some [(0,0,false),(1,0,false),(2,0,false)],eqs:=some [.i,.i,.i],conc:=true}
theorem wg:aq Tryz.prog 387 yJ where
 size:=ab (3) rfl (by kernel_rfl)
 agg:=ab (true) rfl (by kernel_rfl)
 zero:=ab (Value.agg #[Value.int .i64 0,Value.int .i64 0,Value.int .i64 0]) rfl (by kernel_rfl)
 offs:=ab [(0,0,false),(1,0,false),(2,0,false)] rfl ⟨aA (Tryz.prog.underlying 387),by kernel_rfl,by kernel_rfl⟩
 conc:=ag ⟨am (Tryz.prog.underlying 387),by kernel_rfl,ai (by kernel_rfl)⟩
 eqs:=ab [.i,.i,.i] rfl (by kernel_rfl)
def yY:TI:={size:=some 6,agg:=some true,rs:=some (.one (.agg [.int .i64,.int .i64,.int .i64,.int .i64,.int .i64,.int .i64])),zero:=some (Value.agg #[Value.int .i64 0,Value.int .i64 0,Value.int .i64 0,Value.int .i64 0,Value.int .i64 0,Value.int .i64 0]),offs:=some [(0,2,true),(3,2,true)],conc:=true}
theorem wT:aq Tryz.prog 389 yY where
 size:=ab (6) rfl (by kernel_rfl)
 agg:=ab (true) rfl (by kernel_rfl)
 zero:=ab (Value.agg #[Value.int .i64 0,Value.int .i64 0,Value.int .i64 0,Value.int .i64 0,Value.int .i64 0,Value.int .i64 0]) rfl (by kernel_rfl)
 offs:=ab [(0,2,true),(3,2,true)] rfl ⟨aA (Tryz.prog.underlying 389),by kernel_rfl,by kernel_rfl⟩
 conc:=ag ⟨am (Tryz.prog.underlying 389),by kernel_rfl,ai (by kernel_rfl)⟩
def zE:TI:={size:=some 2,agg:=some true,rs:=some (.one (.agg [.int .i64,.int .i64])),zero:=some (Value.agg #[Value.int .i64 0,Value.int .i64 0]),arr:=some (2,1),conc:=true}
theorem xc:aq Tryz.prog 390 zE where
 size:=ab (2) rfl (by kernel_rfl)
 agg:=ab (true) rfl (by kernel_rfl)
 zero:=ab (Value.agg #[Value.int .i64 0,Value.int .i64 0]) rfl (by kernel_rfl)
 arr:=aJ 2 1 rfl ⟨3,by kernel_rfl,by kernel_rfl⟩
 conc:=ag ⟨am (Tryz.prog.underlying 390),by kernel_rfl,ai (by kernel_rfl)⟩
def tab0:List (Nat×TI):=[(0,Di),(2,Dh),(3,Dm),(4,Dj),(5,Dl),(9,Dk),(22,B2),(23,AW),(24,Cd),(25,CE),(27,CC),(28,AU),(31,BH),(32,Ce),(33,Bq),(35,Bf),(37,BO),(39,A3),(42,Bb),(43,Bz),(46,CA),(51,Cu),(54,AJ),(57,Cn),(58,A0)]
theorem xB:∀p∈tab0,aq Tryz.prog p.1 p.2:=
 ah Am<|ah AC<|ah Ag<|ah Af<|ah Aq<|ah Al<|ah xy<|ah yd<|ah xf<|ah xV<|ah xE<|ah x6<|ah xP<|ah ym<|ah xD<|ah xl<|ah xA<|ah yj<|ah xS<|ah yf<|ah yi<|ah xv<|ah xj<|ah xz<|ah xw<|jV
def Cp:List (Nat×TI):=[(61,B4),(63,BM),(68,Cz),(71,Bw),(72,BX),(74,Cs),(78,BC),(85,B7),(87,A9),(89,BT),(94,Br),(100,yw),(102,yV),(104,zH),(106,yn),(108,zh),(109,zp),(110,yy),(111,zB),(113,yz),(116,zr),(117,yq),(131,zX),(133,y9),(135,zj)]
theorem xi:∀p∈Cp,aq Tryz.prog p.1 p.2:=
 ah xn<|ah xk<|ah xC<|ah x8<|ah xQ<|ah xo<|ah yb<|ah yg<|ah ya<|ah xY<|ah xg<|ah up<|ah v6<|ah vu<|ah v_<|ah uW<|ah vZ<|ah wn<|ah uD<|ah wN<|ah uJ<|ah ud<|ah uB<|ah w_<|ah wO<|jV
def Bh:List (Nat×TI):=[(138,zS),(140,zP),(144,yQ),(145,yP),(147,zd),(151,zm),(152,y8),(154,y_),(157,yH),(159,z8),(162,Ab),(164,zR),(165,zW),(170,zx),(172,zJ),(174,zL),(179,zs),(181,zi),(186,z'),(194,zV),(202,yM),(203,zc),(205,zk),(207,zZ),(209,zw)]
theorem xG:∀p∈Bh,aq Tryz.prog p.1 p.2:=
 ah wd<|ah vh<|ah wF<|ah uh<|ah wy<|ah wb<|ah vX<|ah vD<|ah vw<|ah uV<|ah uk<|ah vR<|ah uM<|ah vN<|ah vU<|ah uS<|ah wC<|ah wE<|ah ur<|ah vq<|ah ux<|ah um<|ah vy<|ah vv<|ah vO<|jV
def Bn:List (Nat×TI):=[(211,zu),(213,yu),(215,zz),(218,zA),(219,zQ),(222,zq),(234,zI),(238,zn),(240,Aa),(242,yK),(243,yD),(248,zf),(250,zN),(258,yO),(259,zt),(261,yS),(265,yB),(272,zv),(274,zy),(278,zM),(284,zK),(285,yo),(286,Ac),(288,zg),(300,y7)]
theorem xF:∀p∈Bn,aq Tryz.prog p.1 p.2:=
 ah vP<|ah ve<|ah ul<|ah vI<|ah ww<|ah un<|ah wS<|ah vE<|ah vJ<|ah wt<|ah ue<|ah wU<|ah uy<|ah wi<|ah vQ<|ah vb<|ah vW<|ah uR<|ah uZ<|ah wY<|ah wM<|ah wr<|ah wZ<|ah wJ<|ah vg<|jV
def AH:List (Nat×TI):=[(303,z_),(304,Ad),(315,yI),(317,yp),(320,zo),(330,yW),(336,ze),(341,zF),(343,zD),(354,zT),(357,yG),(358,zG),(360,yR),(362,zl),(363,zO),(372,yU),(373,yZ),(377,yx),(379,zY),(387,yJ),(389,yY),(390,zE)]
theorem x7:∀p∈AH,aq Tryz.prog p.1 p.2:=
 ah uQ<|ah u0<|ah wX<|ah wa<|ah vf<|ah uj<|ah vo<|ah vi<|ah xa<|ah wc<|ah uu<|ah wL<|ah xb<|ah wo<|ah uK<|ah wG<|ah uU<|ah uH<|ah wK<|ah wg<|ah wT<|ah xc<|jV
def tab:List (Nat×TI):=tab0++Cp++Bh++Bn++AH
set_option maxRecDepth 100000 in
theorem Ae:∀p∈tab,aq Tryz.prog p.1 p.2:=
 ng (ng (ng (ng (xB) xi) xG) xF) x7
theorem wH:Tryz.prog.follows .mixedOrders=true:=by kernel_rfl
noncomputable def hO:dL:=wB Tryz.prog tab
theorem mu:hO.Ok:=wP Tryz.prog tab Ae wH
set_option maxRecDepth 100000
open Go Go.Value
def Db (a:Int) (w:World) (R:RW):Prop:=
 ∀b,b=w.alloc (.cells #[int .i64 a] 3)→
 Calls Tryz.prog 47 #[pointer none,slice (some (nb w)) 1 1] b (fun c d=>
 ∃f g h i j,c= .returned (tuple #[slice f g h,int .i64 i,int .i64 j])∧
 aa ((g:Int)==0)
 (aa (i==0)
 (aa (j==1)
 (Calls Tryz.prog 43 #[pointer none,int .i64 a] d (fun k l=>
 ∃m,k= .returned (bool m)∧
 aa (!m)
 (Calls Tryz.prog 49 #[pointer none,int .i64 a] l (fun n o=>
 ∃p,n= .returned (bool p)∧
 aa (!p)
 (Calls Tryz.prog 50 #[pointer none] o (fun q r=>
 ∃s,q= .returned (int .i64 s)∧
 aa (s==0)
 (Calls Tryz.prog 48 #[pointer none] r (fun t u=>
 ∃x y z,t= .returned (slice x y z)∧
 aa ((y:Int)==0)
 (Calls Tryz.prog 51 #[pointer none] u (fun a1 b1=>
 ∃c1,a1= .returned (int .i64 c1)∧
 aa (c1==0)
 (Calls Tryz.prog 54 #[pointer none] b1 (fun d1 e1=>
 ∃f1,d1= .returned (pointer f1)∧
 aa (Option.isNone f1)
 (Calls Tryz.prog 55 #[pointer none] e1 (fun g1 h1=>
 ∃i1,g1= .returned (pointer i1)∧
 aa (Option.isNone i1)
 (Calls Tryz.prog 56 #[pointer none] h1 (fun j1 k1=>
 ∃l1,j1= .returned (pointer l1)∧
 aa (Option.isNone l1)
 (Calls Tryz.prog 35 #[pointer none] k1 (fun m1 n1=>
 ∃o1 p1 q1 r1 s1 t1 u1 v1 x1 y1 z1 a2 b2 c2 d2 e2,m1= .returned (agg #[bool o1,slice p1 q1 r1,slice s1 t1 u1,slice v1 x1 y1,slice z1 a2 b2,slice c2 d2 e2])∧
 Calls Tryz.prog 34 #[agg #[bool o1,slice p1 q1 r1,slice s1 t1 u1,slice v1 x1 y1,slice z1 a2 b2,slice c2 d2 e2],agg #[bool false,slice none 0 0,slice none 0 0,slice none 0 0,slice none 0 0,slice none 0 0]] n1 (fun f2 g2=>
 ∃h2,f2= .returned (bool h2)∧
 aa h2
 (Calls Tryz.prog 30 #[] g2 (fun i2 j2=>
 ∃k2,i2= .returned (bool k2)∧
 R (bool k2) j2))
 (R (bool false) g2))))
 (R (bool false) k1)))
 (R (bool false) h1)))
 (R (bool false) e1)))
 (R (bool false) b1)))
 (R (bool false) u)))
 (R (bool false) r)))
 (R (bool false) o)))
 (R (bool false) l)))
 (R (bool false) d))
 (R (bool false) d))
 (R (bool false) d))
theorem rQ (a:Int) (w:World) (R:RW) (hh:Db a w R):Calls Tryz.prog 10 #[int .i64 a] w fun e w'=>∃v,e= .returned v∧R v w':=
 cD mu (fn:=Tryz.f10) (by kernel_rfl) (body:=fW Tryz.f10) (by kernel_rfl) (by kernel_rfl) (by kernel_rfl) (Eq.mp (by kernel_rfl) hh)
def C0 (w:World) (R:RW):Prop:=
 Calls Tryz.prog 31 #[string ⟨#[118,111,99,97,98,32,109,101,114,103,101,115,10,109,101,114,103,101,32,57,55,32,57,56,10,115,112,101,99,105,97,108,32,50,53,55,32,51,99,10]⟩] w (fun a b=>
 ∃c d f,a= .returned (tuple #[pointer c,int .i64 d,int .i64 f])∧
 Calls Tryz.prog 31 #[string ⟨#[118,111,99,97,98,32,109,101,114,103,101,115,10,109,101,114,103,101,32,57,55,32,57,56,10,115,112,101,99,105,97,108,32,50,53,54,32,51,99,10]⟩] b (fun g h=>
 ∃i j k,g= .returned (tuple #[pointer i,int .i64 j,int .i64 k])∧
 aa (!(Option.isNone c))
 (aa (d==0)
 (aa (f==0)
 (Calls Tryz.prog 50 #[pointer c] h (fun l m=>
 ∃n,l= .returned (int .i64 n)∧
 aa (n==257)
 (Calls Tryz.prog 49 #[pointer c,int .i64 257] m (fun o p=>
 ∃q,o= .returned (bool q)∧
 aa q
 (Calls Tryz.prog 49 #[pointer c,int .i64 258] p (fun r s=>
 ∃t,r= .returned (bool t)∧
 aa (!t)
 (aa (j==3)
 (R (bool (k==4)) s)
 (R (bool false) s))
 (R (bool false) s)))
 (R (bool false) p)))
 (R (bool false) m)))
 (R (bool false) h))
 (R (bool false) h))
 (R (bool false) h)))
theorem r8 (w:World) (R:RW) (hh:C0 w R):Calls Tryz.prog 30 #[] w fun e w'=>∃v,e= .returned v∧R v w':=
 cD mu (fn:=Tryz.f30) (by kernel_rfl) (body:=fW Tryz.f30) (by kernel_rfl) (by kernel_rfl) (by kernel_rfl) (Eq.mp (by kernel_rfl) hh)
def CX (a:ByteArray) (w:World) (R:RW):Prop:=
 Calls Tryz.prog 90 #[string a] w (fun b c=>
 ∃d f g h i j k l m n o p q r s t u x,b= .returned (tuple #[agg #[bool d,slice f g h,slice i j k,slice l m n,slice o p q,slice r s t],int .i64 u,int .i64 x])∧
 ∀y,y=c.alloc (.cells #[bool false,slice none 0 0,slice none 0 0,slice none 0 0,slice none 0 0,slice none 0 0] 71)→
 aG y (nb c) (fun z=>
 aa (x != 0)
 (R (tuple #[pointer none,int .i64 u,int .i64 x]) z)
 (∃a1 b1 c1 d1 e1 f1 g1 h1 i1 j1 k1 l1 m1 n1 o1 p1,(z.cell? (nb c)=some (bool a1)∧z.cell? ((nb c).add 1)=some (slice b1 c1 d1)∧z.cell? ((nb c).add 2)=some (slice e1 f1 g1)∧z.cell? ((nb c).add 3)=some (slice h1 i1 j1)∧z.cell? ((nb c).add 4)=some (slice k1 l1 m1)∧z.cell? ((nb c).add 5)=some (slice n1 o1 p1)∧True)∧
 Calls Tryz.prog 91 #[agg #[bool a1,slice b1 c1 d1,slice e1 f1 g1,slice h1 i1 j1,slice k1 l1 m1,slice n1 o1 p1]] z (fun q1 r1=>
 ∃s1 t1 u1 v1,q1= .returned (tuple #[pointer s1,int .i64 t1,int .i64 u1,int .i64 v1])∧
 ∀x1:KW,(∀(y1:Int) (z1:World),(R (tuple #[pointer s1,int .i64 y1,int .i64 v1]) z1)→x1 [int .i64 y1] z1)→
 aa (t1==1)
 (Ar .i64 (u1+2) (fun a2=>
 x1 [int .i64 a2] r1))
 (aa (t1==2)
 (∃b2 c2 d2,r1.cell? ((nb c).add 1)=some (slice b2 c2 d2)∧
 Ar .i64 ((2:Int)+(c2:Int)) (fun e2=>
 ∃f2 g2 h2,r1.cell? ((nb c).add 2)=some (slice f2 g2 h2)∧
 Ar .i64 (e2+(g2:Int)) (fun i2=>
 Ar .i64 (u1+i2) (fun j2=>
 x1 [int .i64 j2] r1))))
 (x1 [int .i64 u1] r1))))) [bool d,slice f g h,slice i j k,slice l m n,slice o p q,slice r s t] 0)
theorem sG (a:ByteArray) (w:World) (R:RW) (hh:CX a w R):Calls Tryz.prog 31 #[string a] w fun e w'=>∃v,e= .returned v∧R v w':=
 cD mu (fn:=Tryz.f31) (by kernel_rfl) (body:=fW Tryz.f31) (by kernel_rfl) (by kernel_rfl) (by kernel_rfl) (Eq.mp (by kernel_rfl) hh)
def Df (a:OA) (w:World) (R:RW):Prop:=
 ∀b,b=w.alloc (.cells #[bool false,slice none 0 0,slice none 0 0,slice none 0 0,slice none 0 0,slice none 0 0] 71)→
 aa (Option.isNone a)
 (aG b (nb w) (fun c=>
 ∃d f g h i j k l m n o p q r s t,(c.cell? (nb w)=some (bool d)∧c.cell? ((nb w).add 1)=some (slice f g h)∧c.cell? ((nb w).add 2)=some (slice i j k)∧c.cell? ((nb w).add 3)=some (slice l m n)∧c.cell? ((nb w).add 4)=some (slice o p q)∧c.cell? ((nb w).add 5)=some (slice r s t)∧True)∧
 R (agg #[bool d,slice f g h,slice i j k,slice l m n,slice o p q,slice r s t]) c) [bool false,slice none 0 0,slice none 0 0,slice none 0 0,slice none 0 0,slice none 0 0] 0)
 (ac a (fun u=>
 ∃x y z a1 b1 c1 d1 e1 f1 g1 h1 i1 j1 k1 l1 m1,(b.cell? ((u.add 0).add 0)=some (bool x)∧b.cell? (((u.add 0).add 0).add 1)=some (slice y z a1)∧b.cell? (((u.add 0).add 0).add 2)=some (slice b1 c1 d1)∧b.cell? (((u.add 0).add 0).add 3)=some (slice e1 f1 g1)∧b.cell? (((u.add 0).add 0).add 4)=some (slice h1 i1 j1)∧b.cell? (((u.add 0).add 0).add 5)=some (slice k1 l1 m1)∧True)∧
 Calls Tryz.prog 100 #[agg #[bool x,slice y z a1,slice b1 c1 d1,slice e1 f1 g1,slice h1 i1 j1,slice k1 l1 m1]] b (fun n1 o1=>
 ∃p1 q1 r1 s1 t1 u1 v1 x1 y1 z1 a2 b2 c2 d2 e2 f2,n1= .returned (agg #[bool p1,slice q1 r1 s1,slice t1 u1 v1,slice x1 y1 z1,slice a2 b2 c2,slice d2 e2 f2])∧
 aG o1 (nb w) (fun g2=>
 ∃h2 i2 j2 k2 l2 m2 n2 o2 p2 q2 r2 s2 t2 u2 v2 x2,(g2.cell? (nb w)=some (bool h2)∧g2.cell? ((nb w).add 1)=some (slice i2 j2 k2)∧g2.cell? ((nb w).add 2)=some (slice l2 m2 n2)∧g2.cell? ((nb w).add 3)=some (slice o2 p2 q2)∧g2.cell? ((nb w).add 4)=some (slice r2 s2 t2)∧g2.cell? ((nb w).add 5)=some (slice u2 v2 x2)∧True)∧
 R (agg #[bool h2,slice i2 j2 k2,slice l2 m2 n2,slice o2 p2 q2,slice r2 s2 t2,slice u2 v2 x2]) g2) [bool p1,slice q1 r1 s1,slice t1 u1 v1,slice x1 y1 z1,slice a2 b2 c2,slice d2 e2 f2] 0)))
theorem rF (a:OA) (w:World) (R:RW) (hh:Df a w R):Calls Tryz.prog 35 #[pointer a] w fun e w'=>∃v,e= .returned v∧R v w':=
 cD mu (fn:=Tryz.f35) (by kernel_rfl) (body:=fW Tryz.f35) (by kernel_rfl) (by kernel_rfl) (by kernel_rfl) (Eq.mp (by kernel_rfl) hh)
def CW (a:OA) (w:World) (R:RW):Prop:=
 aa (Option.isNone a)
 (R (int .i64 0) w)
 (ac a (fun b=>
 Calls Tryz.prog 117 #[pointer (some (b.add 13))] w (fun c d=>
 ∃f,c= .returned (int .i64 f)∧
 R (int .i64 f) d)))
theorem sC (a:OA) (w:World) (R:RW) (hh:CW a w R):Calls Tryz.prog 51 #[pointer a] w fun e w'=>∃v,e= .returned v∧R v w':=
 cD mu (fn:=Tryz.f51) (by kernel_rfl) (body:=fW Tryz.f51) (by kernel_rfl) (by kernel_rfl) (by kernel_rfl) (Eq.mp (by kernel_rfl) hh)
theorem aB {f:FuncId} {fn:Func} {args:List Value} {w:World} {R:RW} {p:Prop} (hf:Tryz.prog.funcs[f]? =some fn) (hb:fn.body=some (fW fn)) (hn:Nat.ble args.length fn.ntmps=true) (hw:wf hO fn.ntmps (fW fn)=true) (h:p=wq hO (fW fn) fn.results.toList args w R) (hh:p):Calls Tryz.prog f args.toArray w fun e w'=>∃v,e= .returned v∧R v w':=
 cD mu hf hb hn hw (Eq.mp h hh)
end Go.Proofs.YtijbcdiffjjefaaGreatDoor.Eng
