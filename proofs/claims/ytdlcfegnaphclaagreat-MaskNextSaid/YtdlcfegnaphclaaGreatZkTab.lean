/- The types that this claim's functions name, as the loaded program has them. -/
import Derived.Test.YtdlcfegnaphclaaGreatZkEng
import Derived.Test.YtdlcfegnaphclaaGreatProg
import Derived.KernelRfl
set_option linter.unusedVariables false
namespace Go.Proofs.YtdlcfegnaphclaaGreat.Eng
open Go
abbrev OA:=Option Addr
abbrev KW:=List Value→World→Prop
abbrev RW:=Value→World→Prop
abbrev CP:=Calls Tryz.prog
abbrev CR (k:Nat) (a:Array Value) (w:World) (R:RW):Prop:=CP k a w fun e w'=>∃v,e= .returned v∧R v w'
def Ku:TI:={rs:=some (.tup [])}
theorem Gn:aL Tryz.prog 0 Ku where
def Kr:TI:={size:=some 1,agg:=some false,rs:=some (.one (.leaf (.int .i64))),zero:=some (Value.int .i64 0),intk:=some .i64,conc:=true}
theorem Gw:aL Tryz.prog 2 Kr where
 zero:=ah (Value.int .i64 0) rfl (by kernel_rfl)
 intk:=ah (IntKind.i64) rfl (by kernel_rfl)
 conc:=an ⟨aB (Tryz.prog.underlying 2),by kernel_rfl,ap (by kernel_rfl)⟩
def Ks:TI:={size:=some 1,agg:=some false,rs:=some (.one (.leaf (.int .i64))),zero:=some (Value.int .i64 0),intk:=some .i64,conc:=true}
theorem Gs:aL Tryz.prog 3 Ks where
 zero:=ah (Value.int .i64 0) rfl (by kernel_rfl)
 intk:=ah (IntKind.i64) rfl (by kernel_rfl)
 conc:=an ⟨aB (Tryz.prog.underlying 3),by kernel_rfl,ap (by kernel_rfl)⟩
def Kp:TI:={size:=some 1,agg:=some false,rs:=some (.one (.leaf (.bool))),zero:=some (Value.bool false),conc:=true,isBool:=true}
theorem Gp:aL Tryz.prog 4 Kp where
 zero:=ah (Value.bool false) rfl (by kernel_rfl)
 conc:=an ⟨aB (Tryz.prog.underlying 4),by kernel_rfl,ap (by kernel_rfl)⟩
 isBool:=an (by kernel_rfl)
def Kq:TI:={size:=some 1,agg:=some false,rs:=some (.one (.leaf (.int .u8))),zero:=some (Value.int .u8 0),intk:=some .u8,conc:=true}
theorem Gi:aL Tryz.prog 5 Kq where
 zero:=ah (Value.int .u8 0) rfl (by kernel_rfl)
 intk:=ah (IntKind.u8) rfl (by kernel_rfl)
 conc:=an ⟨aB (Tryz.prog.underlying 5),by kernel_rfl,ap (by kernel_rfl)⟩
def Kt:TI:={size:=some 1,agg:=some false,rs:=some (.one (.leaf (.str))),zero:=some (Value.string ⟨#[]⟩),isStr:=true,conc:=true}
theorem Gx:aL Tryz.prog 9 Kt where
 zero:=ah (Value.string ⟨#[]⟩) rfl (by kernel_rfl)
 isStr:=an (by kernel_rfl)
 conc:=an ⟨aB (Tryz.prog.underlying 9),by kernel_rfl,ap (by kernel_rfl)⟩
def HA:TI:={size:=some 1,agg:=some false,rs:=some (.one (.leaf (.slice))),zero:=some (Value.slice none 0 0),slc:=some (321,1),conc:=true,isSlc:=true}
theorem DT:aL Tryz.prog 22 HA where
 zero:=ah (Value.slice none 0 0) rfl (by kernel_rfl)
 slc:=bA 321 1 rfl ⟨by kernel_rfl,by kernel_rfl⟩
 conc:=an ⟨aB (Tryz.prog.underlying 22),by kernel_rfl,ap (by kernel_rfl)⟩
 isSlc:=an ⟨321,by kernel_rfl⟩
def HL:TI:={size:=some 1,agg:=some false,rs:=some (.one (.leaf (.slice))),zero:=some (Value.slice none 0 0),slc:=some (215,3),conc:=true,isSlc:=true}
theorem EK:aL Tryz.prog 23 HL where
 zero:=ah (Value.slice none 0 0) rfl (by kernel_rfl)
 slc:=bA 215 3 rfl ⟨by kernel_rfl,by kernel_rfl⟩
 conc:=an ⟨aB (Tryz.prog.underlying 23),by kernel_rfl,ap (by kernel_rfl)⟩
 isSlc:=an ⟨215,by kernel_rfl⟩
def He:TI:={size:=some 1,agg:=some false,rs:=some (.one (.leaf (.slice))),zero:=some (Value.slice none 0 0),slc:=some (218,2),conc:=true,isSlc:=true}
theorem EE:aL Tryz.prog 24 He where
 zero:=ah (Value.slice none 0 0) rfl (by kernel_rfl)
 slc:=bA 218 2 rfl ⟨by kernel_rfl,by kernel_rfl⟩
 conc:=an ⟨aB (Tryz.prog.underlying 24),by kernel_rfl,ap (by kernel_rfl)⟩
 isSlc:=an ⟨218,by kernel_rfl⟩
def Js:TI:={size:=some 1,agg:=some false,rs:=some (.one (.leaf (.slice))),zero:=some (Value.slice none 0 0),slc:=some (75,2),conc:=true,isSlc:=true}
theorem Em:aL Tryz.prog 25 Js where
 zero:=ah (Value.slice none 0 0) rfl (by kernel_rfl)
 slc:=bA 75 2 rfl ⟨by kernel_rfl,by kernel_rfl⟩
 conc:=an ⟨aB (Tryz.prog.underlying 25),by kernel_rfl,ap (by kernel_rfl)⟩
 isSlc:=an ⟨75,by kernel_rfl⟩
def IC:TI:={size:=some 4,agg:=some true,rs:=some (.one (.agg [.slice,.slice,.slice,.slice])),zero:=some (Value.agg #[Value.slice none 0 0,Value.slice none 0 0,Value.slice none 0 0,Value.slice none 0 0]),offs:=some [(0,0,false),(1,0,false),(2,0,false),(3,0,false)],conc:=true}
theorem Ec:aL Tryz.prog 27 IC where
 size:=ah (4) rfl (by kernel_rfl)
 agg:=ah (true) rfl (by kernel_rfl)
 zero:=ah (Value.agg #[Value.slice none 0 0,Value.slice none 0 0,Value.slice none 0 0,Value.slice none 0 0]) rfl (by kernel_rfl)
 offs:=ah [(0,0,false),(1,0,false),(2,0,false),(3,0,false)] rfl ⟨bg (Tryz.prog.underlying 27),by kernel_rfl,by kernel_rfl⟩
 conc:=an ⟨aB (Tryz.prog.underlying 27),by kernel_rfl,ap (by kernel_rfl)⟩
def HU:TI:={size:=some 1,agg:=some false,rs:=some (.one (.leaf (.slice))),zero:=some (Value.slice none 0 0),slc:=some (3,1),conc:=true,isSlc:=true}
theorem Ee:aL Tryz.prog 28 HU where
 zero:=ah (Value.slice none 0 0) rfl (by kernel_rfl)
 slc:=bA 3 1 rfl ⟨by kernel_rfl,by kernel_rfl⟩
 conc:=an ⟨aB (Tryz.prog.underlying 28),by kernel_rfl,ap (by kernel_rfl)⟩
 isSlc:=an ⟨3,by kernel_rfl⟩
def H7:TI:={size:=some 1,agg:=some false,rs:=some (.one (.leaf (.ptr))),zero:=some (Value.pointer none),conc:=true,isPtr:=true}
theorem DR:aL Tryz.prog 31 H7 where
 zero:=ah (Value.pointer none) rfl (by kernel_rfl)
 conc:=an ⟨aB (Tryz.prog.underlying 31),by kernel_rfl,ap (by kernel_rfl)⟩
 isPtr:=an ⟨126,by kernel_rfl⟩
def I8:TI:={size:=some 1,agg:=some false,rs:=some (.one (.leaf (.ptr))),zero:=some (Value.pointer none),conc:=true,isPtr:=true}
theorem EG:aL Tryz.prog 32 I8 where
 zero:=ah (Value.pointer none) rfl (by kernel_rfl)
 conc:=an ⟨aB (Tryz.prog.underlying 32),by kernel_rfl,ap (by kernel_rfl)⟩
 isPtr:=an ⟨132,by kernel_rfl⟩
def Hg:TI:={size:=some 1,agg:=some false,rs:=some (.one (.leaf (.slice))),zero:=some (Value.slice none 0 0),slc:=some (9,1),conc:=true,isSlc:=true}
theorem DZ:aL Tryz.prog 33 Hg where
 zero:=ah (Value.slice none 0 0) rfl (by kernel_rfl)
 slc:=bA 9 1 rfl ⟨by kernel_rfl,by kernel_rfl⟩
 conc:=an ⟨aB (Tryz.prog.underlying 33),by kernel_rfl,ap (by kernel_rfl)⟩
 isSlc:=an ⟨9,by kernel_rfl⟩
def Jg:TI:={size:=some 1,agg:=some false,rs:=some (.one (.leaf (.slice))),zero:=some (Value.slice none 0 0),slc:=some (118,2),conc:=true,isSlc:=true}
theorem D4:aL Tryz.prog 34 Jg where
 zero:=ah (Value.slice none 0 0) rfl (by kernel_rfl)
 slc:=bA 118 2 rfl ⟨by kernel_rfl,by kernel_rfl⟩
 conc:=an ⟨aB (Tryz.prog.underlying 34),by kernel_rfl,ap (by kernel_rfl)⟩
 isSlc:=an ⟨118,by kernel_rfl⟩
def G3:TI:={size:=some 2,agg:=some true,rs:=some (.one (.agg [.slice,.slice])),zero:=some (Value.agg #[Value.slice none 0 0,Value.slice none 0 0]),offs:=some [(0,0,false),(1,0,false)],conc:=true}
theorem Ei:aL Tryz.prog 36 G3 where
 size:=ah (2) rfl (by kernel_rfl)
 agg:=ah (true) rfl (by kernel_rfl)
 zero:=ah (Value.agg #[Value.slice none 0 0,Value.slice none 0 0]) rfl (by kernel_rfl)
 offs:=ah [(0,0,false),(1,0,false)] rfl ⟨bg (Tryz.prog.underlying 36),by kernel_rfl,by kernel_rfl⟩
 conc:=an ⟨aB (Tryz.prog.underlying 36),by kernel_rfl,ap (by kernel_rfl)⟩
def HJ:TI:={size:=some 2,agg:=some true,rs:=some (.one (.agg [.slice,.slice])),zero:=some (Value.agg #[Value.slice none 0 0,Value.slice none 0 0]),offs:=some [(0,0,false),(1,0,false)],conc:=true}
theorem EQ:aL Tryz.prog 38 HJ where
 size:=ah (2) rfl (by kernel_rfl)
 agg:=ah (true) rfl (by kernel_rfl)
 zero:=ah (Value.agg #[Value.slice none 0 0,Value.slice none 0 0]) rfl (by kernel_rfl)
 offs:=ah [(0,0,false),(1,0,false)] rfl ⟨bg (Tryz.prog.underlying 38),by kernel_rfl,by kernel_rfl⟩
 conc:=an ⟨aB (Tryz.prog.underlying 38),by kernel_rfl,ap (by kernel_rfl)⟩
def H4:TI:={size:=some 5,agg:=some true,rs:=some (.one (.agg [.slice,.slice,.slice,.slice,.slice])),zero:=some (Value.agg #[Value.slice none 0 0,Value.slice none 0 0,Value.slice none 0 0,Value.slice none 0 0,Value.slice none 0 0]),offs:=some [(0,1,true),(2,1,true),(4,0,false)],conc:=true}
theorem Eh:aL Tryz.prog 40 H4 where
 size:=ah (5) rfl (by kernel_rfl)
 agg:=ah (true) rfl (by kernel_rfl)
 zero:=ah (Value.agg #[Value.slice none 0 0,Value.slice none 0 0,Value.slice none 0 0,Value.slice none 0 0,Value.slice none 0 0]) rfl (by kernel_rfl)
 offs:=ah [(0,1,true),(2,1,true),(4,0,false)] rfl ⟨bg (Tryz.prog.underlying 40),by kernel_rfl,by kernel_rfl⟩
 conc:=an ⟨aB (Tryz.prog.underlying 40),by kernel_rfl,ap (by kernel_rfl)⟩
def ID:TI:={rs:=some (.tup [.leaf (.ptr),.leaf (.ptr),.agg [.slice,.slice,.slice,.slice,.slice]])}
theorem Ek:aL Tryz.prog 41 ID where
def IS:TI:={size:=some 1,agg:=some false,rs:=some (.one (.leaf (.int .i64))),zero:=some (Value.int .i64 0),intk:=some .i64,conc:=true}
theorem Eb:aL Tryz.prog 43 IS where
 zero:=ah (Value.int .i64 0) rfl (by kernel_rfl)
 intk:=ah (IntKind.i64) rfl (by kernel_rfl)
 conc:=an ⟨aB (Tryz.prog.underlying 43),by kernel_rfl,ap (by kernel_rfl)⟩
def GT:TI:={rs:=some (.tup [.leaf (.slice),.leaf (.int .i64),.leaf (.int .i64)])}
theorem DY:aL Tryz.prog 44 GT where
def Hd:TI:={size:=some 1,agg:=some false,rs:=some (.one (.leaf (.slice))),zero:=some (Value.slice none 0 0),slc:=some (59,1),conc:=true,isSlc:=true}
theorem D0:aL Tryz.prog 47 Hd where
 zero:=ah (Value.slice none 0 0) rfl (by kernel_rfl)
 slc:=bA 59 1 rfl ⟨by kernel_rfl,by kernel_rfl⟩
 conc:=an ⟨aB (Tryz.prog.underlying 47),by kernel_rfl,ap (by kernel_rfl)⟩
 isSlc:=an ⟨59,by kernel_rfl⟩
def H0:TI:={rs:=some (.tup [.leaf (.slice),.leaf (.int .i64),.leaf (.int .i64)])}
theorem EM:aL Tryz.prog 48 H0 where
def Ja:TI:={rs:=some (.tup [.leaf (.int .i64),.leaf (.bool)])}
theorem Ez:aL Tryz.prog 53 Ja where
def H6:TI:={size:=some 1,agg:=some false,rs:=some (.one (.leaf (.any))),zero:=some (Value.nilFunc),conc:=true}
theorem EH:aL Tryz.prog 55 H6 where
 zero:=ah (Value.nilFunc) rfl (by kernel_rfl)
 conc:=an ⟨aB (Tryz.prog.underlying 55),by kernel_rfl,ap (by kernel_rfl)⟩
def IK:TI:={size:=some 1,agg:=some false,rs:=some (.one (.leaf (.int .u64))),zero:=some (Value.int .u64 0),intk:=some .u64,conc:=true}
theorem D3:aL Tryz.prog 59 IK where
 zero:=ah (Value.int .u64 0) rfl (by kernel_rfl)
 intk:=ah (IntKind.u64) rfl (by kernel_rfl)
 conc:=an ⟨aB (Tryz.prog.underlying 59),by kernel_rfl,ap (by kernel_rfl)⟩
def HK:TI:={size:=some 1,agg:=some false,rs:=some (.one (.leaf (.int .u64))),zero:=some (Value.int .u64 0),intk:=some .u64,conc:=true}
theorem EI:aL Tryz.prog 60 HK where
 zero:=ah (Value.int .u64 0) rfl (by kernel_rfl)
 intk:=ah (IntKind.u64) rfl (by kernel_rfl)
 conc:=an ⟨aB (Tryz.prog.underlying 60),by kernel_rfl,ap (by kernel_rfl)⟩
def IW:TI:={rs:=some (.tup [.leaf (.slice),.leaf (.str),.leaf (.int .i64)])}
theorem Eg:aL Tryz.prog 62 IW where
def GF:TI:={size:=some 1,agg:=some false,rs:=some (.one (.leaf (.ptr))),zero:=some (Value.pointer none),conc:=true,isPtr:=true}
theorem Ep:aL Tryz.prog 69 GF where
 zero:=ah (Value.pointer none) rfl (by kernel_rfl)
 conc:=an ⟨aB (Tryz.prog.underlying 69),by kernel_rfl,ap (by kernel_rfl)⟩
 isPtr:=an ⟨237,by kernel_rfl⟩
def I_:TI:={rs:=some (.tup [.leaf (.ptr),.leaf (.int .i64),.leaf (.int .i64)])}
theorem DS:aL Tryz.prog 70 I_ where
def GH:TI:={size:=some 6,agg:=some true,rs:=some (.one (.agg [.bool,.slice,.slice,.slice,.slice,.slice])),zero:=some (Value.agg #[Value.bool false,Value.slice none 0 0,Value.slice none 0 0,Value.slice none 0 0,Value.slice none 0 0,Value.slice none 0 0]),offs:=some [(0,0,false),(1,0,false),(2,0,false),(3,0,false),(4,0,false),(5,0,false)],conc:=true}
theorem EJ:aL Tryz.prog 73 GH where
 size:=ah (6) rfl (by kernel_rfl)
 agg:=ah (true) rfl (by kernel_rfl)
 zero:=ah (Value.agg #[Value.bool false,Value.slice none 0 0,Value.slice none 0 0,Value.slice none 0 0,Value.slice none 0 0,Value.slice none 0 0]) rfl (by kernel_rfl)
 offs:=ah [(0,0,false),(1,0,false),(2,0,false),(3,0,false),(4,0,false),(5,0,false)] rfl ⟨bg (Tryz.prog.underlying 73),by kernel_rfl,by kernel_rfl⟩
 conc:=an ⟨aB (Tryz.prog.underlying 73),by kernel_rfl,ap (by kernel_rfl)⟩
def G_:TI:={size:=some 2,agg:=some true,rs:=some (.one (.agg [.int .i64,.str])),zero:=some (Value.agg #[Value.int .i64 0,Value.string ⟨#[]⟩]),offs:=some [(0,0,false),(1,0,false)],eqs:=some [.i,.s],conc:=true}
theorem EP:aL Tryz.prog 75 G_ where
 size:=ah (2) rfl (by kernel_rfl)
 agg:=ah (true) rfl (by kernel_rfl)
 zero:=ah (Value.agg #[Value.int .i64 0,Value.string ⟨#[]⟩]) rfl (by kernel_rfl)
 offs:=ah [(0,0,false),(1,0,false)] rfl ⟨bg (Tryz.prog.underlying 75),by kernel_rfl,by kernel_rfl⟩
 conc:=an ⟨aB (Tryz.prog.underlying 75),by kernel_rfl,ap (by kernel_rfl)⟩
 eqs:=ah [.i,.s] rfl (by kernel_rfl)
def Jn:TI:={rs:=some (.tup [.leaf (.ptr),.leaf (.int .i64)])}
theorem DU:aL Tryz.prog 76 Jn where
def HT:TI:={rs:=some (.tup [.leaf (.ptr),.leaf (.int .i64)])}
theorem EL:aL Tryz.prog 78 HT where
def GP:TI:={size:=some 1,agg:=some false,rs:=some (.one (.leaf (.ptr))),zero:=some (Value.pointer none),conc:=true,isPtr:=true}
theorem DW:aL Tryz.prog 83 GP where
 zero:=ah (Value.pointer none) rfl (by kernel_rfl)
 conc:=an ⟨aB (Tryz.prog.underlying 83),by kernel_rfl,ap (by kernel_rfl)⟩
 isPtr:=an ⟨165,by kernel_rfl⟩
def Ie:TI:={size:=some 1,agg:=some false,rs:=some (.one (.leaf (.slice))),zero:=some (Value.slice none 0 0),slc:=some (5,1),conc:=true,isSlc:=true}
theorem El:aL Tryz.prog 97 Ie where
 zero:=ah (Value.slice none 0 0) rfl (by kernel_rfl)
 slc:=bA 5 1 rfl ⟨by kernel_rfl,by kernel_rfl⟩
 conc:=an ⟨aB (Tryz.prog.underlying 97),by kernel_rfl,ap (by kernel_rfl)⟩
 isSlc:=an ⟨5,by kernel_rfl⟩
def FX:TI:={size:=some 2,agg:=some true,rs:=some (.one (.agg [.int .i64,.int .i64])),zero:=some (Value.agg #[Value.int .i64 0,Value.int .i64 0]),offs:=some [(0,0,false),(1,0,false)],eqs:=some [.i,.i],conc:=true}
theorem Cp:aL Tryz.prog 118 FX where
 size:=ah (2) rfl (by kernel_rfl)
 agg:=ah (true) rfl (by kernel_rfl)
 zero:=ah (Value.agg #[Value.int .i64 0,Value.int .i64 0]) rfl (by kernel_rfl)
 offs:=ah [(0,0,false),(1,0,false)] rfl ⟨bg (Tryz.prog.underlying 118),by kernel_rfl,by kernel_rfl⟩
 conc:=an ⟨aB (Tryz.prog.underlying 118),by kernel_rfl,ap (by kernel_rfl)⟩
 eqs:=ah [.i,.i] rfl (by kernel_rfl)
def Fa:TI:={rs:=some (.tup [.leaf (.ptr),.agg [.slice,.slice,.slice,.slice,.slice]])}
theorem CY:aL Tryz.prog 119 Fa where
def FM:TI:={rs:=some (.tup [.leaf (.int .i64),.leaf (.int .i64)])}
theorem DK:aL Tryz.prog 121 FM where
def Fn:TI:={size:=some 1,agg:=some false,rs:=some (.one (.leaf (.ptr))),zero:=some (Value.pointer none),conc:=true,isPtr:=true}
theorem Dc:aL Tryz.prog 124 Fn where
 zero:=ah (Value.pointer none) rfl (by kernel_rfl)
 conc:=an ⟨aB (Tryz.prog.underlying 124),by kernel_rfl,ap (by kernel_rfl)⟩
 isPtr:=an ⟨242,by kernel_rfl⟩
def Fp:TI:={size:=some 3,agg:=some true,rs:=some (.one (.agg [.ptr,.ptr,.ptr])),zero:=some (Value.agg #[Value.pointer none,Value.pointer none,Value.pointer none]),offs:=some [(0,0,false),(1,0,false),(2,0,false)],conc:=true}
theorem BW:aL Tryz.prog 126 Fp where
 size:=ah (3) rfl (by kernel_rfl)
 agg:=ah (true) rfl (by kernel_rfl)
 zero:=ah (Value.agg #[Value.pointer none,Value.pointer none,Value.pointer none]) rfl (by kernel_rfl)
 offs:=ah [(0,0,false),(1,0,false),(2,0,false)] rfl ⟨bg (Tryz.prog.underlying 126),by kernel_rfl,by kernel_rfl⟩
 conc:=an ⟨aB (Tryz.prog.underlying 126),by kernel_rfl,ap (by kernel_rfl)⟩
def F2:TI:={size:=some 1,agg:=some false,rs:=some (.one (.leaf (.map))),zero:=some (Value.map none),elemSh:=some (.leaf (.int .i64)),conc:=true,isMap:=true}
theorem B7:aL Tryz.prog 128 F2 where
 zero:=ah (Value.map none) rfl (by kernel_rfl)
 conc:=an ⟨aB (Tryz.prog.underlying 128),by kernel_rfl,ap (by kernel_rfl)⟩
 isMap:=an ⟨3,3,by kernel_rfl⟩
def Fv:TI:={size:=some 1,agg:=some false,rs:=some (.one (.leaf (.slice))),zero:=some (Value.slice none 0 0),slc:=some (130,1),conc:=true,isSlc:=true}
theorem BX:aL Tryz.prog 129 Fv where
 zero:=ah (Value.slice none 0 0) rfl (by kernel_rfl)
 slc:=bA 130 1 rfl ⟨by kernel_rfl,by kernel_rfl⟩
 conc:=an ⟨aB (Tryz.prog.underlying 129),by kernel_rfl,ap (by kernel_rfl)⟩
 isSlc:=an ⟨130,by kernel_rfl⟩
def FZ:TI:={size:=some 1,agg:=some false,rs:=some (.one (.leaf (.slice))),zero:=some (Value.slice none 0 0),slc:=some (59,1),conc:=true,isSlc:=true}
theorem BM:aL Tryz.prog 130 FZ where
 zero:=ah (Value.slice none 0 0) rfl (by kernel_rfl)
 slc:=bA 59 1 rfl ⟨by kernel_rfl,by kernel_rfl⟩
 conc:=an ⟨aB (Tryz.prog.underlying 130),by kernel_rfl,ap (by kernel_rfl)⟩
 isSlc:=an ⟨59,by kernel_rfl⟩
def Gc:TI:={size:=some 4,agg:=some true,rs:=some (.one (.agg [.slice,.map,.slice,.slice])),zero:=some (Value.agg #[Value.slice none 0 0,Value.map none,Value.slice none 0 0,Value.slice none 0 0]),offs:=some [(0,0,false),(1,0,false),(2,0,false),(3,0,false)],conc:=true}
theorem DM:aL Tryz.prog 132 Gc where
 size:=ah (4) rfl (by kernel_rfl)
 agg:=ah (true) rfl (by kernel_rfl)
 zero:=ah (Value.agg #[Value.slice none 0 0,Value.map none,Value.slice none 0 0,Value.slice none 0 0]) rfl (by kernel_rfl)
 offs:=ah [(0,0,false),(1,0,false),(2,0,false),(3,0,false)] rfl ⟨bg (Tryz.prog.underlying 132),by kernel_rfl,by kernel_rfl⟩
 conc:=an ⟨aB (Tryz.prog.underlying 132),by kernel_rfl,ap (by kernel_rfl)⟩
def Fu:TI:={size:=some 1,agg:=some false,rs:=some (.one (.leaf (.any))),zero:=some (Value.nilFunc),conc:=true}
theorem Dn:aL Tryz.prog 133 Fu where
 zero:=ah (Value.nilFunc) rfl (by kernel_rfl)
 conc:=an ⟨aB (Tryz.prog.underlying 133),by kernel_rfl,ap (by kernel_rfl)⟩
def FS:TI:={rs:=some (.tup [.leaf (.int .i64),.leaf (.str),.leaf (.bool)])}
theorem Dd:aL Tryz.prog 134 FS where
def Gb:TI:={rs:=some (.tup [.leaf (.ptr),.leaf (.int .i64),.leaf (.int .i64),.leaf (.int .i64)])}
theorem DB:aL Tryz.prog 140 Gb where
def FA:TI:={size:=some 1,agg:=some false,rs:=some (.one (.leaf (.ptr))),zero:=some (Value.pointer none),conc:=true,isPtr:=true}
theorem Df:aL Tryz.prog 145 FA where
 zero:=ah (Value.pointer none) rfl (by kernel_rfl)
 conc:=an ⟨aB (Tryz.prog.underlying 145),by kernel_rfl,ap (by kernel_rfl)⟩
 isPtr:=an ⟨249,by kernel_rfl⟩
def F4:TI:={size:=some 1,agg:=some false,rs:=some (.one (.leaf (.slice))),zero:=some (Value.slice none 0 0),slc:=some (28,1),conc:=true,isSlc:=true}
theorem Cs:aL Tryz.prog 148 F4 where
 zero:=ah (Value.slice none 0 0) rfl (by kernel_rfl)
 slc:=bA 28 1 rfl ⟨by kernel_rfl,by kernel_rfl⟩
 conc:=an ⟨aB (Tryz.prog.underlying 148),by kernel_rfl,ap (by kernel_rfl)⟩
 isSlc:=an ⟨28,by kernel_rfl⟩
def FK:TI:={size:=some 1,agg:=some false,rs:=some (.one (.leaf (.slice))),zero:=some (Value.slice none 0 0),slc:=some (4,1),conc:=true,isSlc:=true}
theorem CF:aL Tryz.prog 149 FK where
 zero:=ah (Value.slice none 0 0) rfl (by kernel_rfl)
 slc:=bA 4 1 rfl ⟨by kernel_rfl,by kernel_rfl⟩
 conc:=an ⟨aB (Tryz.prog.underlying 149),by kernel_rfl,ap (by kernel_rfl)⟩
 isSlc:=an ⟨4,by kernel_rfl⟩
def ET:TI:={size:=some 4,agg:=some true,rs:=some (.one (.agg [.int .u32,.int .i32,.int .u32,.slice])),zero:=some (Value.agg #[Value.int .u32 0,Value.int .i32 0,Value.int .u32 0,Value.slice none 0 0]),offs:=some [(0,2,true),(3,0,false)],conc:=true}
theorem BR:aL Tryz.prog 163 ET where
 size:=ah (4) rfl (by kernel_rfl)
 agg:=ah (true) rfl (by kernel_rfl)
 zero:=ah (Value.agg #[Value.int .u32 0,Value.int .i32 0,Value.int .u32 0,Value.slice none 0 0]) rfl (by kernel_rfl)
 offs:=ah [(0,2,true),(3,0,false)] rfl ⟨bg (Tryz.prog.underlying 163),by kernel_rfl,by kernel_rfl⟩
 conc:=an ⟨aB (Tryz.prog.underlying 163),by kernel_rfl,ap (by kernel_rfl)⟩
def Gd:TI:={size:=some 7,agg:=some true,rs:=some (.one (.agg [.ptr,.slice,.slice,.int .u32,.int .i32,.int .u32,.slice])),zero:=some (Value.agg #[Value.pointer none,Value.slice none 0 0,Value.slice none 0 0,Value.int .u32 0,Value.int .i32 0,Value.int .u32 0,Value.slice none 0 0]),offs:=some [(0,0,false),(1,0,false),(2,0,false),(3,3,true)],conc:=true}
theorem DG:aL Tryz.prog 165 Gd where
 size:=ah (7) rfl (by kernel_rfl)
 agg:=ah (true) rfl (by kernel_rfl)
 zero:=ah (Value.agg #[Value.pointer none,Value.slice none 0 0,Value.slice none 0 0,Value.int .u32 0,Value.int .i32 0,Value.int .u32 0,Value.slice none 0 0]) rfl (by kernel_rfl)
 offs:=ah [(0,0,false),(1,0,false),(2,0,false),(3,3,true)] rfl ⟨bg (Tryz.prog.underlying 165),by kernel_rfl,by kernel_rfl⟩
 conc:=an ⟨aB (Tryz.prog.underlying 165),by kernel_rfl,ap (by kernel_rfl)⟩
def Fg:TI:={rs:=some (.tup [.leaf (.slice),.leaf (.map)])}
theorem Cm:aL Tryz.prog 192 Fg where
def Ff:TI:={size:=some 1,agg:=some false,rs:=some (.one (.leaf (.ptr))),zero:=some (Value.pointer none),conc:=true,isPtr:=true}
theorem BD:aL Tryz.prog 199 Ff where
 zero:=ah (Value.pointer none) rfl (by kernel_rfl)
 conc:=an ⟨aB (Tryz.prog.underlying 199),by kernel_rfl,ap (by kernel_rfl)⟩
 isPtr:=an ⟨270,by kernel_rfl⟩
def F1:TI:={rs:=some (.tup [.leaf (.str),.leaf (.bool)])}
theorem Dm:aL Tryz.prog 203 F1 where
def ER:TI:={size:=some 1,agg:=some false,rs:=some (.one (.leaf (.any))),zero:=some (Value.nilFunc),conc:=true}
theorem B9:aL Tryz.prog 208 ER where
 zero:=ah (Value.nilFunc) rfl (by kernel_rfl)
 conc:=an ⟨aB (Tryz.prog.underlying 208),by kernel_rfl,ap (by kernel_rfl)⟩
def FD:TI:={size:=some 1,agg:=some false,rs:=some (.one (.leaf (.any))),zero:=some (Value.nilFunc),conc:=true}
theorem Cb:aL Tryz.prog 210 FD where
 zero:=ah (Value.nilFunc) rfl (by kernel_rfl)
 conc:=an ⟨aB (Tryz.prog.underlying 210),by kernel_rfl,ap (by kernel_rfl)⟩
def EY:TI:={size:=some 1,agg:=some false,rs:=some (.one (.leaf (.any))),zero:=some (Value.nilFunc),conc:=true}
theorem Di:aL Tryz.prog 212 EY where
 zero:=ah (Value.nilFunc) rfl (by kernel_rfl)
 conc:=an ⟨aB (Tryz.prog.underlying 212),by kernel_rfl,ap (by kernel_rfl)⟩
def Fd:TI:={size:=some 3,agg:=some true,rs:=some (.one (.agg [.int .i64,.int .i64,.int .i64])),zero:=some (Value.agg #[Value.int .i64 0,Value.int .i64 0,Value.int .i64 0]),offs:=some [(0,0,false),(1,0,false),(2,0,false)],eqs:=some [.i,.i,.i],conc:=true}
theorem DH:aL Tryz.prog 215 Fd where
 size:=ah (3) rfl (by kernel_rfl)
 agg:=ah (true) rfl (by kernel_rfl)
 zero:=ah (Value.agg #[Value.int .i64 0,Value.int .i64 0,Value.int .i64 0]) rfl (by kernel_rfl)
 offs:=ah [(0,0,false),(1,0,false),(2,0,false)] rfl ⟨bg (Tryz.prog.underlying 215),by kernel_rfl,by kernel_rfl⟩
 conc:=an ⟨aB (Tryz.prog.underlying 215),by kernel_rfl,ap (by kernel_rfl)⟩
 eqs:=ah [.i,.i,.i] rfl (by kernel_rfl)
def EW:TI:={size:=some 1,agg:=some false,rs:=some (.one (.leaf (.any))),zero:=some (Value.nilFunc),conc:=true}
theorem Dq:aL Tryz.prog 216 EW where
 zero:=ah (Value.nilFunc) rfl (by kernel_rfl)
 conc:=an ⟨aB (Tryz.prog.underlying 216),by kernel_rfl,ap (by kernel_rfl)⟩
def FC:TI:={size:=some 2,agg:=some true,rs:=some (.one (.agg [.int .i64,.int .i64])),zero:=some (Value.agg #[Value.int .i64 0,Value.int .i64 0]),offs:=some [(0,0,false),(1,0,false)],eqs:=some [.i,.i],conc:=true}
theorem BO:aL Tryz.prog 218 FC where
 size:=ah (2) rfl (by kernel_rfl)
 agg:=ah (true) rfl (by kernel_rfl)
 zero:=ah (Value.agg #[Value.int .i64 0,Value.int .i64 0]) rfl (by kernel_rfl)
 offs:=ah [(0,0,false),(1,0,false)] rfl ⟨bg (Tryz.prog.underlying 218),by kernel_rfl,by kernel_rfl⟩
 conc:=an ⟨aB (Tryz.prog.underlying 218),by kernel_rfl,ap (by kernel_rfl)⟩
 eqs:=ah [.i,.i] rfl (by kernel_rfl)
def FP:TI:={size:=some 1,agg:=some false,rs:=some (.one (.leaf (.any))),zero:=some (Value.nilFunc),conc:=true}
theorem Cc:aL Tryz.prog 219 FP where
 zero:=ah (Value.nilFunc) rfl (by kernel_rfl)
 conc:=an ⟨aB (Tryz.prog.underlying 219),by kernel_rfl,ap (by kernel_rfl)⟩
def FB:TI:={rs:=some (.tup [.leaf (.ptr),.leaf (.int .i64),.leaf (.int .i64)])}
theorem DI:aL Tryz.prog 220 FB where
def Ga:TI:={rs:=some (.tup [.leaf (.ptr),.leaf (.int .i64),.leaf (.int .i64)])}
theorem Cj:aL Tryz.prog 222 Ga where
def Ge:TI:={size:=some 1,agg:=some false,rs:=some (.one (.leaf (.ptr))),zero:=some (Value.pointer none),conc:=true,isPtr:=true}
theorem Bm:aL Tryz.prog 225 Ge where
 zero:=ah (Value.pointer none) rfl (by kernel_rfl)
 conc:=an ⟨aB (Tryz.prog.underlying 225),by kernel_rfl,ap (by kernel_rfl)⟩
 isPtr:=an ⟨293,by kernel_rfl⟩
def F5:TI:={rs:=some (.tup [.leaf (.ptr),.leaf (.int .i64)])}
theorem Dg:aL Tryz.prog 226 F5 where
def FE:TI:={size:=some 9,agg:=some true,rs:=some (.one (.agg [.bool,.slice,.slice,.slice,.slice,.slice,.ptr,.ptr,.ptr])),zero:=some (Value.agg #[Value.bool false,Value.slice none 0 0,Value.slice none 0 0,Value.slice none 0 0,Value.slice none 0 0,Value.slice none 0 0,Value.pointer none,Value.pointer none,Value.pointer none]),offs:=some [(0,5,true),(6,0,false),(7,0,false),(8,0,false)],conc:=true}
theorem Dv:aL Tryz.prog 230 FE where
 size:=ah (9) rfl (by kernel_rfl)
 agg:=ah (true) rfl (by kernel_rfl)
 zero:=ah (Value.agg #[Value.bool false,Value.slice none 0 0,Value.slice none 0 0,Value.slice none 0 0,Value.slice none 0 0,Value.slice none 0 0,Value.pointer none,Value.pointer none,Value.pointer none]) rfl (by kernel_rfl)
 offs:=ah [(0,5,true),(6,0,false),(7,0,false),(8,0,false)] rfl ⟨bg (Tryz.prog.underlying 230),by kernel_rfl,by kernel_rfl⟩
 conc:=an ⟨aB (Tryz.prog.underlying 230),by kernel_rfl,ap (by kernel_rfl)⟩
def Fi:TI:={size:=some 4,agg:=some true,rs:=some (.one (.agg [.int .u32,.int .i32,.int .u32,.slice])),zero:=some (Value.agg #[Value.int .u32 0,Value.int .i32 0,Value.int .u32 0,Value.slice none 0 0]),offs:=some [(0,2,true),(3,0,false)],conc:=true}
theorem CD:aL Tryz.prog 232 Fi where
 size:=ah (4) rfl (by kernel_rfl)
 agg:=ah (true) rfl (by kernel_rfl)
 zero:=ah (Value.agg #[Value.int .u32 0,Value.int .i32 0,Value.int .u32 0,Value.slice none 0 0]) rfl (by kernel_rfl)
 offs:=ah [(0,2,true),(3,0,false)] rfl ⟨bg (Tryz.prog.underlying 232),by kernel_rfl,by kernel_rfl⟩
 conc:=an ⟨aB (Tryz.prog.underlying 232),by kernel_rfl,ap (by kernel_rfl)⟩
def E6:TI:={size:=some 14,agg:=some true,rs:=some (.one (.agg [.bool,.slice,.slice,.slice,.slice,.slice,.ptr,.ptr,.ptr,.int .u32,.int .i32,.int .u32,.slice,.int .i64])),zero:=some (Value.agg #[Value.bool false,Value.slice none 0 0,Value.slice none 0 0,Value.slice none 0 0,Value.slice none 0 0,Value.slice none 0 0,Value.pointer none,Value.pointer none,Value.pointer none,Value.int .u32 0,Value.int .i32 0,Value.int .u32 0,Value.slice none 0 0,Value.int .i64 0]),offs:=some [(0,8,true),(9,3,true),(13,0,true)],conc:=true}
theorem CU:aL Tryz.prog 237 E6 where
 size:=ah (14) rfl (by kernel_rfl)
 agg:=ah (true) rfl (by kernel_rfl)
 zero:=ah (Value.agg #[Value.bool false,Value.slice none 0 0,Value.slice none 0 0,Value.slice none 0 0,Value.slice none 0 0,Value.slice none 0 0,Value.pointer none,Value.pointer none,Value.pointer none,Value.int .u32 0,Value.int .i32 0,Value.int .u32 0,Value.slice none 0 0,Value.int .i64 0]) rfl (by kernel_rfl)
 offs:=ah [(0,8,true),(9,3,true),(13,0,true)] rfl ⟨bg (Tryz.prog.underlying 237),by kernel_rfl,by kernel_rfl⟩
 conc:=an ⟨aB (Tryz.prog.underlying 237),by kernel_rfl,ap (by kernel_rfl)⟩
def Fw:TI:={size:=some 1,agg:=some false,rs:=some (.one (.leaf (.ptr))),zero:=some (Value.pointer none),conc:=true,isPtr:=true}
theorem Ci:aL Tryz.prog 240 Fw where
 zero:=ah (Value.pointer none) rfl (by kernel_rfl)
 conc:=an ⟨aB (Tryz.prog.underlying 240),by kernel_rfl,ap (by kernel_rfl)⟩
 isPtr:=an ⟨275,by kernel_rfl⟩
def FU:TI:={size:=some 2,agg:=some true,rs:=some (.one (.agg [.ptr,.int .i64])),zero:=some (Value.agg #[Value.pointer none,Value.int .i64 0]),offs:=some [(0,0,false),(1,0,false)],conc:=true}
theorem Bv:aL Tryz.prog 242 FU where
 size:=ah (2) rfl (by kernel_rfl)
 agg:=ah (true) rfl (by kernel_rfl)
 zero:=ah (Value.agg #[Value.pointer none,Value.int .i64 0]) rfl (by kernel_rfl)
 offs:=ah [(0,0,false),(1,0,false)] rfl ⟨bg (Tryz.prog.underlying 242),by kernel_rfl,by kernel_rfl⟩
 conc:=an ⟨aB (Tryz.prog.underlying 242),by kernel_rfl,ap (by kernel_rfl)⟩
def Fk:TI:={size:=some 1,agg:=some false,rs:=some (.one (.leaf (.slice))),zero:=some (Value.slice none 0 0),slc:=some (278,3),conc:=true,isSlc:=true}
theorem Cu:aL Tryz.prog 245 Fk where
 zero:=ah (Value.slice none 0 0) rfl (by kernel_rfl)
 slc:=bA 278 3 rfl ⟨by kernel_rfl,by kernel_rfl⟩
 conc:=an ⟨aB (Tryz.prog.underlying 245),by kernel_rfl,ap (by kernel_rfl)⟩
 isSlc:=an ⟨278,by kernel_rfl⟩
def E9:TI:={size:=some 1,agg:=some false,rs:=some (.one (.leaf (.map))),zero:=some (Value.map none),elemSh:=some (.leaf (.int .i64)),conc:=true,isMap:=true}
theorem Do:aL Tryz.prog 246 E9 where
 zero:=ah (Value.map none) rfl (by kernel_rfl)
 conc:=an ⟨aB (Tryz.prog.underlying 246),by kernel_rfl,ap (by kernel_rfl)⟩
 isMap:=an ⟨9,3,by kernel_rfl⟩
def Fc:TI:={size:=some 1,agg:=some false,rs:=some (.one (.leaf (.map))),zero:=some (Value.map none),elemSh:=some (.leaf (.int .i64)),conc:=true,isMap:=true}
theorem C8:aL Tryz.prog 247 Fc where
 zero:=ah (Value.map none) rfl (by kernel_rfl)
 conc:=an ⟨aB (Tryz.prog.underlying 247),by kernel_rfl,ap (by kernel_rfl)⟩
 isMap:=an ⟨118,3,by kernel_rfl⟩
def Fy:TI:={size:=some 4,agg:=some true,rs:=some (.one (.agg [.slice,.map,.map,.int .i64])),zero:=some (Value.agg #[Value.slice none 0 0,Value.map none,Value.map none,Value.int .i64 0]),offs:=some [(0,0,false),(1,0,false),(2,0,false),(3,0,false)],conc:=true}
theorem BJ:aL Tryz.prog 249 Fy where
 size:=ah (4) rfl (by kernel_rfl)
 agg:=ah (true) rfl (by kernel_rfl)
 zero:=ah (Value.agg #[Value.slice none 0 0,Value.map none,Value.map none,Value.int .i64 0]) rfl (by kernel_rfl)
 offs:=ah [(0,0,false),(1,0,false),(2,0,false),(3,0,false)] rfl ⟨bg (Tryz.prog.underlying 249),by kernel_rfl,by kernel_rfl⟩
 conc:=an ⟨aB (Tryz.prog.underlying 249),by kernel_rfl,ap (by kernel_rfl)⟩
def FI:TI:={rs:=some (.tup [.leaf (.int .u64),.leaf (.int .u64)])}
theorem Dh:aL Tryz.prog 259 FI where
def FV:TI:={rs:=some (.tup [.leaf (.int .i64),.leaf (.int .i64)])}
theorem BT:aL Tryz.prog 263 FV where
def FJ:TI:={rs:=some (.tup [.agg [.slice,.slice,.slice,.slice,.slice],.leaf (.int .i64),.leaf (.int .i64),.leaf (.int .i64)])}
theorem CK:aL Tryz.prog 265 FJ where
def F3:TI:={size:=some 256,agg:=some true,zero:=some (Value.agg (List.toArray (List.replicate 256 (Value.bool false)))),arr:=some (256,1),conc:=true}
theorem BQ:aL Tryz.prog 268 F3 where
 size:=ah (256) rfl (by kernel_rfl)
 agg:=ah (true) rfl (by kernel_rfl)
 zero:=ah (Value.agg (List.toArray (List.replicate 256 (Value.bool false)))) rfl (by kernel_rfl)
 arr:=bA 256 1 rfl ⟨4,by kernel_rfl,by kernel_rfl⟩
 conc:=an ⟨aB (Tryz.prog.underlying 268),by kernel_rfl,ap (by kernel_rfl)⟩
def Gg:TI:={size:=some 260,agg:=some true,zero:=some (Value.agg (List.toArray ([Value.slice none 0 0,Value.map none,Value.map none]++List.replicate 256 (Value.bool false)++ [Value.int .i64 0]))),offs:=some [(0,0,false),(1,0,false),(2,0,false),(3,255,true),(259,0,false)],conc:=true}
theorem C7:aL Tryz.prog 270 Gg where
 size:=ah (260) rfl (by kernel_rfl)
 agg:=ah (true) rfl (by kernel_rfl)
 zero:=ah (Value.agg (List.toArray ([Value.slice none 0 0,Value.map none,Value.map none]++List.replicate 256 (Value.bool false)++ [Value.int .i64 0]))) rfl (by kernel_rfl)
 offs:=ah [(0,0,false),(1,0,false),(2,0,false),(3,255,true),(259,0,false)] rfl ⟨bg (Tryz.prog.underlying 270),by kernel_rfl,by kernel_rfl⟩
 conc:=an ⟨aB (Tryz.prog.underlying 270),by kernel_rfl,ap (by kernel_rfl)⟩
def E':TI:={size:=some 1,agg:=some false,rs:=some (.one (.leaf (.map))),zero:=some (Value.map none),elemSh:=some (.leaf (.ptr)),conc:=true,isMap:=true}
theorem BC:aL Tryz.prog 273 E' where
 zero:=ah (Value.map none) rfl (by kernel_rfl)
 conc:=an ⟨aB (Tryz.prog.underlying 273),by kernel_rfl,ap (by kernel_rfl)⟩
 isMap:=an ⟨5,240,by kernel_rfl⟩
def F7:TI:={size:=some 2,agg:=some true,rs:=some (.one (.agg [.map,.int .i64])),zero:=some (Value.agg #[Value.map none,Value.int .i64 0]),offs:=some [(0,0,false),(1,0,false)],conc:=true}
theorem BB:aL Tryz.prog 275 F7 where
 size:=ah (2) rfl (by kernel_rfl)
 agg:=ah (true) rfl (by kernel_rfl)
 zero:=ah (Value.agg #[Value.map none,Value.int .i64 0]) rfl (by kernel_rfl)
 offs:=ah [(0,0,false),(1,0,false)] rfl ⟨bg (Tryz.prog.underlying 275),by kernel_rfl,by kernel_rfl⟩
 conc:=an ⟨aB (Tryz.prog.underlying 275),by kernel_rfl,ap (by kernel_rfl)⟩
def Fh:TI:={size:=some 3,agg:=some true,rs:=some (.one (.agg [.str,.int .i64,.int .i64])),zero:=some (Value.agg #[Value.string ⟨#[]⟩,Value.int .i64 0,Value.int .i64 0]),offs:=some [(0,0,false),(1,1,true)],conc:=true}
theorem BL:aL Tryz.prog 278 Fh where
 size:=ah (3) rfl (by kernel_rfl)
 agg:=ah (true) rfl (by kernel_rfl)
 zero:=ah (Value.agg #[Value.string ⟨#[]⟩,Value.int .i64 0,Value.int .i64 0]) rfl (by kernel_rfl)
 offs:=ah [(0,0,false),(1,1,true)] rfl ⟨bg (Tryz.prog.underlying 278),by kernel_rfl,by kernel_rfl⟩
 conc:=an ⟨aB (Tryz.prog.underlying 278),by kernel_rfl,ap (by kernel_rfl)⟩
def E2:TI:={size:=some 256,agg:=some true,zero:=some (Value.agg (List.toArray (List.replicate 256 (Value.int .i64 0)))),arr:=some (256,1),conc:=true}
theorem CW:aL Tryz.prog 289 E2 where
 size:=ah (256) rfl (by kernel_rfl)
 agg:=ah (true) rfl (by kernel_rfl)
 zero:=ah (Value.agg (List.toArray (List.replicate 256 (Value.int .i64 0)))) rfl (by kernel_rfl)
 arr:=bA 256 1 rfl ⟨3,by kernel_rfl,by kernel_rfl⟩
 conc:=an ⟨aB (Tryz.prog.underlying 289),by kernel_rfl,ap (by kernel_rfl)⟩
def E3:TI:={size:=some 16,agg:=some true,rs:=some (.one (.agg [.bool,.bool,.bool,.bool,.bool,.bool,.bool,.bool,.bool,.bool,.bool,.bool,.bool,.bool,.bool,.bool])),zero:=some (Value.agg #[Value.bool false,Value.bool false,Value.bool false,Value.bool false,Value.bool false,Value.bool false,Value.bool false,Value.bool false,Value.bool false,Value.bool false,Value.bool false,Value.bool false,Value.bool false,Value.bool false,Value.bool false,Value.bool false]),arr:=some (16,1),conc:=true}
theorem Db:aL Tryz.prog 290 E3 where
 size:=ah (16) rfl (by kernel_rfl)
 agg:=ah (true) rfl (by kernel_rfl)
 zero:=ah (Value.agg #[Value.bool false,Value.bool false,Value.bool false,Value.bool false,Value.bool false,Value.bool false,Value.bool false,Value.bool false,Value.bool false,Value.bool false,Value.bool false,Value.bool false,Value.bool false,Value.bool false,Value.bool false,Value.bool false]) rfl (by kernel_rfl)
 arr:=bA 16 1 rfl ⟨4,by kernel_rfl,by kernel_rfl⟩
 conc:=an ⟨aB (Tryz.prog.underlying 290),by kernel_rfl,ap (by kernel_rfl)⟩
def FQ:TI:={size:=some 256,agg:=some true,zero:=some (Value.agg (List.toArray (List.replicate 256 (Value.bool false)))),arr:=some (16,16),conc:=true}
theorem DN:aL Tryz.prog 291 FQ where
 size:=ah (256) rfl (by kernel_rfl)
 agg:=ah (true) rfl (by kernel_rfl)
 zero:=ah (Value.agg (List.toArray (List.replicate 256 (Value.bool false)))) rfl (by kernel_rfl)
 arr:=bA 16 16 rfl ⟨290,by kernel_rfl,by kernel_rfl⟩
 conc:=an ⟨aB (Tryz.prog.underlying 291),by kernel_rfl,ap (by kernel_rfl)⟩
def E0:TI:={size:=some 512,agg:=some true,zero:=some (Value.agg (List.toArray (List.replicate 256 (Value.int .i64 0)++List.replicate 256 (Value.bool false)))),offs:=some [(0,255,true),(256,255,true)],conc:=true}
theorem C6:aL Tryz.prog 293 E0 where
 size:=ah (512) rfl (by kernel_rfl)
 agg:=ah (true) rfl (by kernel_rfl)
 zero:=ah (Value.agg (List.toArray (List.replicate 256 (Value.int .i64 0)++List.replicate 256 (Value.bool false)))) rfl (by kernel_rfl)
 offs:=ah [(0,255,true),(256,255,true)] rfl ⟨bg (Tryz.prog.underlying 293),by kernel_rfl,by kernel_rfl⟩
 conc:=an ⟨aB (Tryz.prog.underlying 293),by kernel_rfl,ap (by kernel_rfl)⟩
def Fq:TI:={rs:=some (.tup [.leaf (.ptr),.leaf (.bool)])}
theorem BA:aL Tryz.prog 306 Fq where
def E_:TI:={rs:=some (.tup [.leaf (.int .u64),.leaf (.int .u64)])}
theorem Cx:aL Tryz.prog 313 E_ where
def Fx:TI:={rs:=some (.tup [.leaf (.slice),.leaf (.int .i64)])}
theorem Co:aL Tryz.prog 315 Fx where
def Gf:TI:={size:=some 1,agg:=some false,rs:=some (.one (.leaf (.any))),zero:=some (Value.nilFunc),conc:=true}
theorem Dl:aL Tryz.prog 319 Gf where
 zero:=ah (Value.nilFunc) rfl (by kernel_rfl)
 conc:=an ⟨aB (Tryz.prog.underlying 319),by kernel_rfl,ap (by kernel_rfl)⟩
def E5:TI:={size:=some 1,agg:=some false,rs:=some (.one (.leaf (.int .u16))),zero:=some (Value.int .u16 0),intk:=some .u16,conc:=true}
theorem Dj:aL Tryz.prog 321 E5 where
 zero:=ah (Value.int .u16 0) rfl (by kernel_rfl)
 intk:=ah (IntKind.u16) rfl (by kernel_rfl)
 conc:=an ⟨aB (Tryz.prog.underlying 321),by kernel_rfl,ap (by kernel_rfl)⟩
def FT:TI:={rs:=some (.tup [.agg [.slice,.slice],.leaf (.int .i64)])}
theorem Dw:aL Tryz.prog 322 FT where
def FO:TI:={rs:=some (.tup [.agg [.slice,.slice],.leaf (.int .i64),.leaf (.int .i64)])}
theorem B1:aL Tryz.prog 324 FO where
def F_:TI:={size:=some 1,agg:=some false,rs:=some (.one (.leaf (.int .i64))),zero:=some (Value.int .i64 0),intk:=some .i64,conc:=true}
theorem CI:aL Tryz.prog 327 F_ where
 zero:=ah (Value.int .i64 0) rfl (by kernel_rfl)
 intk:=ah (IntKind.i64) rfl (by kernel_rfl)
 conc:=an ⟨aB (Tryz.prog.underlying 327),by kernel_rfl,ap (by kernel_rfl)⟩
def FN:TI:={rs:=some (.tup [.leaf (.int .i64),.leaf (.int .i64)])}
theorem C_:aL Tryz.prog 328 FN where
def F0:TI:={size:=some 1,agg:=some false,rs:=some (.one (.leaf (.any))),zero:=some (Value.nilFunc),conc:=true}
theorem CS:aL Tryz.prog 335 F0 where
 zero:=ah (Value.nilFunc) rfl (by kernel_rfl)
 conc:=an ⟨aB (Tryz.prog.underlying 335),by kernel_rfl,ap (by kernel_rfl)⟩
def FG:TI:={rs:=some (.tup [.agg [.int .i64,.int .i64],.leaf (.bool)])}
theorem Br:aL Tryz.prog 340 FG where
def Fr:TI:={size:=some 1,agg:=some false,rs:=some (.one (.leaf (.ptr))),zero:=some (Value.pointer none),conc:=true,isPtr:=true}
theorem By:aL Tryz.prog 345 Fr where
 zero:=ah (Value.pointer none) rfl (by kernel_rfl)
 conc:=an ⟨aB (Tryz.prog.underlying 345),by kernel_rfl,ap (by kernel_rfl)⟩
 isPtr:=an ⟨365,by kernel_rfl⟩
def FL:TI:={size:=some 1,agg:=some false,rs:=some (.one (.leaf (.map))),zero:=some (Value.map none),elemSh:=some (.leaf (.int .i64)),conc:=true,isMap:=true}
theorem CL:aL Tryz.prog 350 FL where
 zero:=ah (Value.map none) rfl (by kernel_rfl)
 conc:=an ⟨aB (Tryz.prog.underlying 350),by kernel_rfl,ap (by kernel_rfl)⟩
 isMap:=an ⟨4,3,by kernel_rfl⟩
def Gh:TI:={size:=some 1,agg:=some false,rs:=some (.one (.leaf (.ptr))),zero:=some (Value.pointer none),conc:=true,isPtr:=true}
theorem BZ:aL Tryz.prog 358 Gh where
 zero:=ah (Value.pointer none) rfl (by kernel_rfl)
 conc:=an ⟨aB (Tryz.prog.underlying 358),by kernel_rfl,ap (by kernel_rfl)⟩
 isPtr:=an ⟨3,by kernel_rfl⟩
def ES:TI:={size:=some 1,agg:=some false,rs:=some (.one (.leaf (.ptr))),zero:=some (Value.pointer none),conc:=true,isPtr:=true}
theorem CA:aL Tryz.prog 360 ES where
 zero:=ah (Value.pointer none) rfl (by kernel_rfl)
 conc:=an ⟨aB (Tryz.prog.underlying 360),by kernel_rfl,ap (by kernel_rfl)⟩
 isPtr:=an ⟨381,by kernel_rfl⟩
def Fe:TI:={size:=some 2,agg:=some true,rs:=some (.one (.agg [.int .i64,.int .i64])),zero:=some (Value.agg #[Value.int .i64 0,Value.int .i64 0]),offs:=some [(0,1,true)],conc:=true}
theorem C5:aL Tryz.prog 363 Fe where
 size:=ah (2) rfl (by kernel_rfl)
 agg:=ah (true) rfl (by kernel_rfl)
 zero:=ah (Value.agg #[Value.int .i64 0,Value.int .i64 0]) rfl (by kernel_rfl)
 offs:=ah [(0,1,true)] rfl ⟨bg (Tryz.prog.underlying 363),by kernel_rfl,by kernel_rfl⟩
 conc:=an ⟨aB (Tryz.prog.underlying 363),by kernel_rfl,ap (by kernel_rfl)⟩
def F8:TI:={size:=some 5,agg:=some true,rs:=some (.one (.agg [.int .i64,.int .i64,.ptr,.int .i64,.int .i64])),zero:=some (Value.agg #[Value.int .i64 0,Value.int .i64 0,Value.pointer none,Value.int .i64 0,Value.int .i64 0]),offs:=some [(0,1,true),(2,0,false),(3,0,false),(4,0,false)],conc:=true}
theorem Bw:aL Tryz.prog 365 F8 where
 size:=ah (5) rfl (by kernel_rfl)
 agg:=ah (true) rfl (by kernel_rfl)
 zero:=ah (Value.agg #[Value.int .i64 0,Value.int .i64 0,Value.pointer none,Value.int .i64 0,Value.int .i64 0]) rfl (by kernel_rfl)
 offs:=ah [(0,1,true),(2,0,false),(3,0,false),(4,0,false)] rfl ⟨bg (Tryz.prog.underlying 365),by kernel_rfl,by kernel_rfl⟩
 conc:=an ⟨aB (Tryz.prog.underlying 365),by kernel_rfl,ap (by kernel_rfl)⟩
def E7:TI:={size:=some 1,agg:=some false,rs:=some (.one (.leaf (.ptr))),zero:=some (Value.pointer none),conc:=true,isPtr:=true}
theorem Dx:aL Tryz.prog 375 E7 where
 zero:=ah (Value.pointer none) rfl (by kernel_rfl)
 conc:=an ⟨aB (Tryz.prog.underlying 375),by kernel_rfl,ap (by kernel_rfl)⟩
 isPtr:=an ⟨393,by kernel_rfl⟩
def FF:TI:={size:=some 3,agg:=some true,rs:=some (.one (.agg [.int .i64,.int .i64,.int .i64])),zero:=some (Value.agg #[Value.int .i64 0,Value.int .i64 0,Value.int .i64 0]),offs:=some [(0,0,false),(1,1,true)],conc:=true}
theorem Cq:aL Tryz.prog 378 FF where
 size:=ah (3) rfl (by kernel_rfl)
 agg:=ah (true) rfl (by kernel_rfl)
 zero:=ah (Value.agg #[Value.int .i64 0,Value.int .i64 0,Value.int .i64 0]) rfl (by kernel_rfl)
 offs:=ah [(0,0,false),(1,1,true)] rfl ⟨bg (Tryz.prog.underlying 378),by kernel_rfl,by kernel_rfl⟩
 conc:=an ⟨aB (Tryz.prog.underlying 378),by kernel_rfl,ap (by kernel_rfl)⟩
def Fj:TI:={size:=some 1,agg:=some false,rs:=some (.one (.leaf (.slice))),zero:=some (Value.slice none 0 0),slc:=some (383,3),conc:=true,isSlc:=true}
theorem BI:aL Tryz.prog 379 Fj where
 zero:=ah (Value.slice none 0 0) rfl (by kernel_rfl)
 slc:=bA 383 3 rfl ⟨by kernel_rfl,by kernel_rfl⟩
 conc:=an ⟨aB (Tryz.prog.underlying 379),by kernel_rfl,ap (by kernel_rfl)⟩
 isSlc:=an ⟨383,by kernel_rfl⟩
def F9:TI:={size:=some 5,agg:=some true,rs:=some (.one (.agg [.ptr,.slice,.ptr,.int .i64,.int .i64])),zero:=some (Value.agg #[Value.pointer none,Value.slice none 0 0,Value.pointer none,Value.int .i64 0,Value.int .i64 0]),offs:=some [(0,0,false),(1,0,false),(2,0,false),(3,0,false),(4,0,false)],conc:=true}
theorem DE:aL Tryz.prog 381 F9 where
 size:=ah (5) rfl (by kernel_rfl)
 agg:=ah (true) rfl (by kernel_rfl)
 zero:=ah (Value.agg #[Value.pointer none,Value.slice none 0 0,Value.pointer none,Value.int .i64 0,Value.int .i64 0]) rfl (by kernel_rfl)
 offs:=ah [(0,0,false),(1,0,false),(2,0,false),(3,0,false),(4,0,false)] rfl ⟨bg (Tryz.prog.underlying 381),by kernel_rfl,by kernel_rfl⟩
 conc:=an ⟨aB (Tryz.prog.underlying 381),by kernel_rfl,ap (by kernel_rfl)⟩
def FW:TI:={size:=some 3,agg:=some true,rs:=some (.one (.agg [.int .i64,.int .i64,.int .i64])),zero:=some (Value.agg #[Value.int .i64 0,Value.int .i64 0,Value.int .i64 0]),offs:=some [(0,0,false),(1,0,false),(2,0,false)],eqs:=some [.i,.i,.i],conc:=true}
theorem Ds:aL Tryz.prog 383 FW where
 size:=ah (3) rfl (by kernel_rfl)
 agg:=ah (true) rfl (by kernel_rfl)
 zero:=ah (Value.agg #[Value.int .i64 0,Value.int .i64 0,Value.int .i64 0]) rfl (by kernel_rfl)
 offs:=ah [(0,0,false),(1,0,false),(2,0,false)] rfl ⟨bg (Tryz.prog.underlying 383),by kernel_rfl,by kernel_rfl⟩
 conc:=an ⟨aB (Tryz.prog.underlying 383),by kernel_rfl,ap (by kernel_rfl)⟩
 eqs:=ah [.i,.i,.i] rfl (by kernel_rfl)
def EU:TI:={rs:=some (.tup [.agg [.int .i64,.int .i64,.int .i64],.leaf (.int .i64),.leaf (.int .i64),.leaf (.bool)])}
theorem De:aL Tryz.prog 384 EU where
def Fs:TI:={size:=some 1,agg:=some false,rs:=some (.one (.leaf (.slice))),zero:=some (Value.slice none 0 0),slc:=some (399,6),conc:=true,isSlc:=true}
theorem DA:aL Tryz.prog 391 Fs where
 zero:=ah (Value.slice none 0 0) rfl (by kernel_rfl)
 slc:=bA 399 6 rfl ⟨by kernel_rfl,by kernel_rfl⟩
 conc:=an ⟨aB (Tryz.prog.underlying 391),by kernel_rfl,ap (by kernel_rfl)⟩
 isSlc:=an ⟨399,by kernel_rfl⟩
def Fo:TI:={size:=some 2,agg:=some true,rs:=some (.one (.agg [.slice,.int .i64])),zero:=some (Value.agg #[Value.slice none 0 0,Value.int .i64 0]),offs:=some [(0,0,false),(1,0,false)],conc:=true}
theorem Cl:aL Tryz.prog 393 Fo where
 size:=ah (2) rfl (by kernel_rfl)
 agg:=ah (true) rfl (by kernel_rfl)
 zero:=ah (Value.agg #[Value.slice none 0 0,Value.int .i64 0]) rfl (by kernel_rfl)
 offs:=ah [(0,0,false),(1,0,false)] rfl ⟨bg (Tryz.prog.underlying 393),by kernel_rfl,by kernel_rfl⟩
 conc:=an ⟨aB (Tryz.prog.underlying 393),by kernel_rfl,ap (by kernel_rfl)⟩
def Fm:TI:={size:=some 3,agg:=some true,rs:=some (.one (.agg [.int .i64,.int .i64,.int .i64])),zero:=some (Value.agg #[Value.int .i64 0,Value.int .i64 0,Value.int .i64 0]),offs:=some [(0,0,false),(1,0,false),(2,0,false)],eqs:=some [.i,.i,.i],conc:=true}
theorem Cf:aL Tryz.prog 397 Fm where
 size:=ah (3) rfl (by kernel_rfl)
 agg:=ah (true) rfl (by kernel_rfl)
 zero:=ah (Value.agg #[Value.int .i64 0,Value.int .i64 0,Value.int .i64 0]) rfl (by kernel_rfl)
 offs:=ah [(0,0,false),(1,0,false),(2,0,false)] rfl ⟨bg (Tryz.prog.underlying 397),by kernel_rfl,by kernel_rfl⟩
 conc:=an ⟨aB (Tryz.prog.underlying 397),by kernel_rfl,ap (by kernel_rfl)⟩
 eqs:=ah [.i,.i,.i] rfl (by kernel_rfl)
def Ft:TI:={size:=some 6,agg:=some true,rs:=some (.one (.agg [.int .i64,.int .i64,.int .i64,.int .i64,.int .i64,.int .i64])),zero:=some (Value.agg #[Value.int .i64 0,Value.int .i64 0,Value.int .i64 0,Value.int .i64 0,Value.int .i64 0,Value.int .i64 0]),offs:=some [(0,2,true),(3,2,true)],conc:=true}
theorem B6:aL Tryz.prog 399 Ft where
 size:=ah (6) rfl (by kernel_rfl)
 agg:=ah (true) rfl (by kernel_rfl)
 zero:=ah (Value.agg #[Value.int .i64 0,Value.int .i64 0,Value.int .i64 0,Value.int .i64 0,Value.int .i64 0,Value.int .i64 0]) rfl (by kernel_rfl)
 offs:=ah [(0,2,true),(3,2,true)] rfl ⟨bg (Tryz.prog.underlying 399),by kernel_rfl,by kernel_rfl⟩
 conc:=an ⟨aB (Tryz.prog.underlying 399),by kernel_rfl,ap (by kernel_rfl)⟩
def FH:TI:={size:=some 2,agg:=some true,rs:=some (.one (.agg [.int .i64,.int .i64])),zero:=some (Value.agg #[Value.int .i64 0,Value.int .i64 0]),arr:=some (2,1),conc:=true}
theorem BN:aL Tryz.prog 400 FH where
 size:=ah (2) rfl (by kernel_rfl)
 agg:=ah (true) rfl (by kernel_rfl)
 zero:=ah (Value.agg #[Value.int .i64 0,Value.int .i64 0]) rfl (by kernel_rfl)
 arr:=bA 2 1 rfl ⟨3,by kernel_rfl,by kernel_rfl⟩
 conc:=an ⟨aB (Tryz.prog.underlying 400),by kernel_rfl,ap (by kernel_rfl)⟩
def H1:List (Nat×TI):=[(0,Ku),(2,Kr),(3,Ks),(4,Kp),(5,Kq),(9,Kt),(22,HA),(23,HL),(24,He),(25,Js),(27,IC),(28,HU),(31,H7),(32,I8),(33,Hg),(34,Jg),(36,G3),(38,HJ),(40,H4),(41,ID),(43,IS),(44,GT),(47,Hd),(48,H0),(53,Ja)]
theorem En:∀p∈H1,aL Tryz.prog p.1 p.2:=
 ao Gn<|ao Gw<|ao Gs<|ao Gp<|ao Gi<|ao Gx<|ao DT<|ao EK<|ao EE<|ao Em<|ao Ec<|ao Ee<|ao DR<|ao EG<|ao DZ<|ao D4<|ao Ei<|ao EQ<|ao Eh<|ao Ek<|ao Eb<|ao DY<|ao D0<|ao EM<|ao Ez<|pe
def H':List (Nat×TI):=[(55,H6),(59,IK),(60,HK),(62,IW),(69,GF),(70,I_),(73,GH),(75,G_),(76,Jn),(78,HT),(83,GP),(97,Ie),(118,FX),(119,Fa),(121,FM),(124,Fn),(126,Fp),(128,F2),(129,Fv),(130,FZ),(132,Gc),(133,Fu),(134,FS),(140,Gb),(145,FA)]
theorem Es:∀p∈H',aL Tryz.prog p.1 p.2:=
 ao EH<|ao D3<|ao EI<|ao Eg<|ao Ep<|ao DS<|ao EJ<|ao EP<|ao DU<|ao EL<|ao DW<|ao El<|ao Cp<|ao CY<|ao DK<|ao Dc<|ao BW<|ao B7<|ao BX<|ao BM<|ao DM<|ao Dn<|ao Dd<|ao DB<|ao Df<|pe
def Iz:List (Nat×TI):=[(148,F4),(149,FK),(163,ET),(165,Gd),(192,Fg),(199,Ff),(203,F1),(208,ER),(210,FD),(212,EY),(215,Fd),(216,EW),(218,FC),(219,FP),(220,FB),(222,Ga),(225,Ge),(226,F5),(230,FE),(232,Fi),(237,E6),(240,Fw),(242,FU),(245,Fk),(246,E9)]
theorem D_:∀p∈Iz,aL Tryz.prog p.1 p.2:=
 ao Cs<|ao CF<|ao BR<|ao DG<|ao Cm<|ao BD<|ao Dm<|ao B9<|ao Cb<|ao Di<|ao DH<|ao Dq<|ao BO<|ao Cc<|ao DI<|ao Cj<|ao Bm<|ao Dg<|ao Dv<|ao CD<|ao CU<|ao Ci<|ao Bv<|ao Cu<|ao Do<|pe
def Ij:List (Nat×TI):=[(247,Fc),(249,Fy),(259,FI),(263,FV),(265,FJ),(268,F3),(270,Gg),(273,E'),(275,F7),(278,Fh),(289,E2),(290,E3),(291,FQ),(293,E0),(306,Fq),(313,E_),(315,Fx),(319,Gf),(321,E5),(322,FT),(324,FO),(327,F_),(328,FN),(335,F0),(340,FG)]
theorem Ed:∀p∈Ij,aL Tryz.prog p.1 p.2:=
 ao C8<|ao BJ<|ao Dh<|ao BT<|ao CK<|ao BQ<|ao C7<|ao BC<|ao BB<|ao BL<|ao CW<|ao Db<|ao DN<|ao C6<|ao BA<|ao Cx<|ao Co<|ao Dl<|ao Dj<|ao Dw<|ao B1<|ao CI<|ao C_<|ao CS<|ao Br<|pe
def If:List (Nat×TI):=[(345,Fr),(350,FL),(358,Gh),(360,ES),(363,Fe),(365,F8),(375,E7),(378,FF),(379,Fj),(381,F9),(383,FW),(384,EU),(391,Fs),(393,Fo),(397,Fm),(399,Ft),(400,FH)]
theorem Eu:∀p∈If,aL Tryz.prog p.1 p.2:=
 ao By<|ao CL<|ao BZ<|ao CA<|ao C5<|ao Bw<|ao Dx<|ao Cq<|ao BI<|ao DE<|ao Ds<|ao De<|ao DA<|ao Cl<|ao Cf<|ao B6<|ao BN<|pe
def tab:List (Nat×TI):=H1++H'++Iz++Ij++If
set_option maxRecDepth 100000 in
theorem GA:∀p∈tab,aL Tryz.prog p.1 p.2:=
 sQ (sQ (sQ (sQ (En) Es) D_) Ed) Eu
theorem Ca:Tryz.prog.follows .mixedOrders=true:=by kernel_rfl
noncomputable def g_:fy:=B2 Tryz.prog tab
theorem Id:g_.Ok:=DC Tryz.prog tab GA Ca
theorem aD {f:FuncId} {fn:Func} {args:List Value} {w:World} {R:RW} {p:Prop} (hf:Tryz.prog.funcs[f]? =some fn) (hb:fn.body=some (yT fn)) (hn:Nat.ble args.length fn.ntmps=true) (hw:wf g_ fn.ntmps (yT fn)=true) (h:p=B3 g_ (yT fn) fn.results.toList args w R) (hh:p):Calls Tryz.prog f args.toArray w fun e w'=>∃v,e= .returned v∧R v w':=
 sl Id hf hb hn hw (Eq.mp h hh)
end Go.Proofs.YtdlcfegnaphclaaGreat.Eng
