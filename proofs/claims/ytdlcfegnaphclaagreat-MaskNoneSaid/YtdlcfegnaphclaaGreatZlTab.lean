/- The types that this claim's functions name, as the loaded program has them. -/
import Derived.Test.YtdlcfegnaphclaaGreatZlEng
import Derived.Test.YtdlcfegnaphclaaGreatProg
import Derived.KernelRfl
set_option linter.unusedVariables false
namespace Go.Proofs.YtdlcfegnaphclaaGreat.Eng
open Go
abbrev OA:=Option Addr
abbrev KW:=List Value→World→Prop
abbrev RW:=Value→World→Prop
abbrev CP:=Calls Tryz.prog
abbrev CR (k:Nat) (a:Array Value) (w:World) (R:RW):Prop:=CP k a w fun e w'=>∃v,e= .returned v∧R v w'
def KK:TI:={rs:=some (.tup [])}
theorem GF:aM Tryz.prog 0 KK where
def KO:TI:={size:=some 1,agg:=some false,rs:=some (.one (.leaf (.int .i64))),zero:=some (Value.int .i64 0),intk:=some .i64,conc:=true}
theorem GZ:aM Tryz.prog 2 KO where
 zero:=ah (Value.int .i64 0) rfl (by kernel_rfl)
 intk:=ah (IntKind.i64) rfl (by kernel_rfl)
 conc:=an ⟨aD (Tryz.prog.underlying 2),by kernel_rfl,ap (by kernel_rfl)⟩
def KL:TI:={size:=some 1,agg:=some false,rs:=some (.one (.leaf (.int .i64))),zero:=some (Value.int .i64 0),intk:=some .i64,conc:=true}
theorem GR:aM Tryz.prog 3 KL where
 zero:=ah (Value.int .i64 0) rfl (by kernel_rfl)
 intk:=ah (IntKind.i64) rfl (by kernel_rfl)
 conc:=an ⟨aD (Tryz.prog.underlying 3),by kernel_rfl,ap (by kernel_rfl)⟩
def KP:TI:={size:=some 1,agg:=some false,rs:=some (.one (.leaf (.bool))),zero:=some (Value.bool false),conc:=true,isBool:=true}
theorem GM:aM Tryz.prog 4 KP where
 zero:=ah (Value.bool false) rfl (by kernel_rfl)
 conc:=an ⟨aD (Tryz.prog.underlying 4),by kernel_rfl,ap (by kernel_rfl)⟩
 isBool:=an (by kernel_rfl)
def KM:TI:={size:=some 1,agg:=some false,rs:=some (.one (.leaf (.int .u8))),zero:=some (Value.int .u8 0),intk:=some .u8,conc:=true}
theorem GO:aM Tryz.prog 5 KM where
 zero:=ah (Value.int .u8 0) rfl (by kernel_rfl)
 intk:=ah (IntKind.u8) rfl (by kernel_rfl)
 conc:=an ⟨aD (Tryz.prog.underlying 5),by kernel_rfl,ap (by kernel_rfl)⟩
def KN:TI:={size:=some 1,agg:=some false,rs:=some (.one (.leaf (.str))),zero:=some (Value.string ⟨#[]⟩),isStr:=true,conc:=true}
theorem GH:aM Tryz.prog 9 KN where
 zero:=ah (Value.string ⟨#[]⟩) rfl (by kernel_rfl)
 isStr:=an (by kernel_rfl)
 conc:=an ⟨aD (Tryz.prog.underlying 9),by kernel_rfl,ap (by kernel_rfl)⟩
def Is:TI:={size:=some 1,agg:=some false,rs:=some (.one (.leaf (.slice))),zero:=some (Value.slice none 0 0),slc:=some (321,1),conc:=true,isSlc:=true}
theorem D6:aM Tryz.prog 22 Is where
 zero:=ah (Value.slice none 0 0) rfl (by kernel_rfl)
 slc:=bx 321 1 rfl ⟨by kernel_rfl,by kernel_rfl⟩
 conc:=an ⟨aD (Tryz.prog.underlying 22),by kernel_rfl,ap (by kernel_rfl)⟩
 isSlc:=an ⟨321,by kernel_rfl⟩
def Iy:TI:={size:=some 1,agg:=some false,rs:=some (.one (.leaf (.slice))),zero:=some (Value.slice none 0 0),slc:=some (215,3),conc:=true,isSlc:=true}
theorem Eu:aM Tryz.prog 23 Iy where
 zero:=ah (Value.slice none 0 0) rfl (by kernel_rfl)
 slc:=bx 215 3 rfl ⟨by kernel_rfl,by kernel_rfl⟩
 conc:=an ⟨aD (Tryz.prog.underlying 23),by kernel_rfl,ap (by kernel_rfl)⟩
 isSlc:=an ⟨215,by kernel_rfl⟩
def Hg:TI:={size:=some 1,agg:=some false,rs:=some (.one (.leaf (.slice))),zero:=some (Value.slice none 0 0),slc:=some (218,2),conc:=true,isSlc:=true}
theorem Ew:aM Tryz.prog 24 Hg where
 zero:=ah (Value.slice none 0 0) rfl (by kernel_rfl)
 slc:=bx 218 2 rfl ⟨by kernel_rfl,by kernel_rfl⟩
 conc:=an ⟨aD (Tryz.prog.underlying 24),by kernel_rfl,ap (by kernel_rfl)⟩
 isSlc:=an ⟨218,by kernel_rfl⟩
def Ij:TI:={size:=some 1,agg:=some false,rs:=some (.one (.leaf (.slice))),zero:=some (Value.slice none 0 0),slc:=some (75,2),conc:=true,isSlc:=true}
theorem E2:aM Tryz.prog 25 Ij where
 zero:=ah (Value.slice none 0 0) rfl (by kernel_rfl)
 slc:=bx 75 2 rfl ⟨by kernel_rfl,by kernel_rfl⟩
 conc:=an ⟨aD (Tryz.prog.underlying 25),by kernel_rfl,ap (by kernel_rfl)⟩
 isSlc:=an ⟨75,by kernel_rfl⟩
def Jh:TI:={size:=some 4,agg:=some true,rs:=some (.one (.agg [.slice,.slice,.slice,.slice])),zero:=some (Value.agg #[Value.slice none 0 0,Value.slice none 0 0,Value.slice none 0 0,Value.slice none 0 0]),offs:=some [(0,0,false),(1,0,false),(2,0,false),(3,0,false)],conc:=true}
theorem EH:aM Tryz.prog 27 Jh where
 size:=ah (4) rfl (by kernel_rfl)
 agg:=ah (true) rfl (by kernel_rfl)
 zero:=ah (Value.agg #[Value.slice none 0 0,Value.slice none 0 0,Value.slice none 0 0,Value.slice none 0 0]) rfl (by kernel_rfl)
 offs:=ah [(0,0,false),(1,0,false),(2,0,false),(3,0,false)] rfl ⟨be (Tryz.prog.underlying 27),by kernel_rfl,by kernel_rfl⟩
 conc:=an ⟨aD (Tryz.prog.underlying 27),by kernel_rfl,ap (by kernel_rfl)⟩
def G3:TI:={size:=some 1,agg:=some false,rs:=some (.one (.leaf (.slice))),zero:=some (Value.slice none 0 0),slc:=some (3,1),conc:=true,isSlc:=true}
theorem E0:aM Tryz.prog 28 G3 where
 zero:=ah (Value.slice none 0 0) rfl (by kernel_rfl)
 slc:=bx 3 1 rfl ⟨by kernel_rfl,by kernel_rfl⟩
 conc:=an ⟨aD (Tryz.prog.underlying 28),by kernel_rfl,ap (by kernel_rfl)⟩
 isSlc:=an ⟨3,by kernel_rfl⟩
def Jm:TI:={size:=some 1,agg:=some false,rs:=some (.one (.leaf (.ptr))),zero:=some (Value.pointer none),conc:=true,isPtr:=true}
theorem Eh:aM Tryz.prog 31 Jm where
 zero:=ah (Value.pointer none) rfl (by kernel_rfl)
 conc:=an ⟨aD (Tryz.prog.underlying 31),by kernel_rfl,ap (by kernel_rfl)⟩
 isPtr:=an ⟨126,by kernel_rfl⟩
def Ie:TI:={size:=some 1,agg:=some false,rs:=some (.one (.leaf (.ptr))),zero:=some (Value.pointer none),conc:=true,isPtr:=true}
theorem EQ:aM Tryz.prog 32 Ie where
 zero:=ah (Value.pointer none) rfl (by kernel_rfl)
 conc:=an ⟨aD (Tryz.prog.underlying 32),by kernel_rfl,ap (by kernel_rfl)⟩
 isPtr:=an ⟨132,by kernel_rfl⟩
def H8:TI:={size:=some 1,agg:=some false,rs:=some (.one (.leaf (.slice))),zero:=some (Value.slice none 0 0),slc:=some (9,1),conc:=true,isSlc:=true}
theorem Ee:aM Tryz.prog 33 H8 where
 zero:=ah (Value.slice none 0 0) rfl (by kernel_rfl)
 slc:=bx 9 1 rfl ⟨by kernel_rfl,by kernel_rfl⟩
 conc:=an ⟨aD (Tryz.prog.underlying 33),by kernel_rfl,ap (by kernel_rfl)⟩
 isSlc:=an ⟨9,by kernel_rfl⟩
def IW:TI:={size:=some 1,agg:=some false,rs:=some (.one (.leaf (.slice))),zero:=some (Value.slice none 0 0),slc:=some (118,2),conc:=true,isSlc:=true}
theorem Ec:aM Tryz.prog 34 IW where
 zero:=ah (Value.slice none 0 0) rfl (by kernel_rfl)
 slc:=bx 118 2 rfl ⟨by kernel_rfl,by kernel_rfl⟩
 conc:=an ⟨aD (Tryz.prog.underlying 34),by kernel_rfl,ap (by kernel_rfl)⟩
 isSlc:=an ⟨118,by kernel_rfl⟩
def Hu:TI:={size:=some 2,agg:=some true,rs:=some (.one (.agg [.slice,.slice])),zero:=some (Value.agg #[Value.slice none 0 0,Value.slice none 0 0]),offs:=some [(0,0,false),(1,0,false)],conc:=true}
theorem EX:aM Tryz.prog 36 Hu where
 size:=ah (2) rfl (by kernel_rfl)
 agg:=ah (true) rfl (by kernel_rfl)
 zero:=ah (Value.agg #[Value.slice none 0 0,Value.slice none 0 0]) rfl (by kernel_rfl)
 offs:=ah [(0,0,false),(1,0,false)] rfl ⟨be (Tryz.prog.underlying 36),by kernel_rfl,by kernel_rfl⟩
 conc:=an ⟨aD (Tryz.prog.underlying 36),by kernel_rfl,ap (by kernel_rfl)⟩
def IH:TI:={size:=some 2,agg:=some true,rs:=some (.one (.agg [.slice,.slice])),zero:=some (Value.agg #[Value.slice none 0 0,Value.slice none 0 0]),offs:=some [(0,0,false),(1,0,false)],conc:=true}
theorem Ej:aM Tryz.prog 38 IH where
 size:=ah (2) rfl (by kernel_rfl)
 agg:=ah (true) rfl (by kernel_rfl)
 zero:=ah (Value.agg #[Value.slice none 0 0,Value.slice none 0 0]) rfl (by kernel_rfl)
 offs:=ah [(0,0,false),(1,0,false)] rfl ⟨be (Tryz.prog.underlying 38),by kernel_rfl,by kernel_rfl⟩
 conc:=an ⟨aD (Tryz.prog.underlying 38),by kernel_rfl,ap (by kernel_rfl)⟩
def HV:TI:={size:=some 5,agg:=some true,rs:=some (.one (.agg [.slice,.slice,.slice,.slice,.slice])),zero:=some (Value.agg #[Value.slice none 0 0,Value.slice none 0 0,Value.slice none 0 0,Value.slice none 0 0,Value.slice none 0 0]),offs:=some [(0,1,true),(2,1,true),(4,0,false)],conc:=true}
theorem En:aM Tryz.prog 40 HV where
 size:=ah (5) rfl (by kernel_rfl)
 agg:=ah (true) rfl (by kernel_rfl)
 zero:=ah (Value.agg #[Value.slice none 0 0,Value.slice none 0 0,Value.slice none 0 0,Value.slice none 0 0,Value.slice none 0 0]) rfl (by kernel_rfl)
 offs:=ah [(0,1,true),(2,1,true),(4,0,false)] rfl ⟨be (Tryz.prog.underlying 40),by kernel_rfl,by kernel_rfl⟩
 conc:=an ⟨aD (Tryz.prog.underlying 40),by kernel_rfl,ap (by kernel_rfl)⟩
def Jz:TI:={rs:=some (.tup [.leaf (.ptr),.leaf (.ptr),.agg [.slice,.slice,.slice,.slice,.slice]])}
theorem E7:aM Tryz.prog 41 Jz where
def Ib:TI:={size:=some 1,agg:=some false,rs:=some (.one (.leaf (.int .i64))),zero:=some (Value.int .i64 0),intk:=some .i64,conc:=true}
theorem E9:aM Tryz.prog 43 Ib where
 zero:=ah (Value.int .i64 0) rfl (by kernel_rfl)
 intk:=ah (IntKind.i64) rfl (by kernel_rfl)
 conc:=an ⟨aD (Tryz.prog.underlying 43),by kernel_rfl,ap (by kernel_rfl)⟩
def HC:TI:={rs:=some (.tup [.leaf (.slice),.leaf (.int .i64),.leaf (.int .i64)])}
theorem EA:aM Tryz.prog 44 HC where
def Jp:TI:={size:=some 1,agg:=some false,rs:=some (.one (.leaf (.slice))),zero:=some (Value.slice none 0 0),slc:=some (59,1),conc:=true,isSlc:=true}
theorem Ei:aM Tryz.prog 47 Jp where
 zero:=ah (Value.slice none 0 0) rfl (by kernel_rfl)
 slc:=bx 59 1 rfl ⟨by kernel_rfl,by kernel_rfl⟩
 conc:=an ⟨aD (Tryz.prog.underlying 47),by kernel_rfl,ap (by kernel_rfl)⟩
 isSlc:=an ⟨59,by kernel_rfl⟩
def IM:TI:={rs:=some (.tup [.leaf (.slice),.leaf (.int .i64),.leaf (.int .i64)])}
theorem Ef:aM Tryz.prog 48 IM where
def H0:TI:={rs:=some (.tup [.leaf (.int .i64),.leaf (.bool)])}
theorem El:aM Tryz.prog 53 H0 where
def Ir:TI:={size:=some 1,agg:=some false,rs:=some (.one (.leaf (.any))),zero:=some (Value.nilFunc),conc:=true}
theorem D8:aM Tryz.prog 55 Ir where
 zero:=ah (Value.nilFunc) rfl (by kernel_rfl)
 conc:=an ⟨aD (Tryz.prog.underlying 55),by kernel_rfl,ap (by kernel_rfl)⟩
def Ht:TI:={size:=some 1,agg:=some false,rs:=some (.one (.leaf (.int .u64))),zero:=some (Value.int .u64 0),intk:=some .u64,conc:=true}
theorem D4:aM Tryz.prog 59 Ht where
 zero:=ah (Value.int .u64 0) rfl (by kernel_rfl)
 intk:=ah (IntKind.u64) rfl (by kernel_rfl)
 conc:=an ⟨aD (Tryz.prog.underlying 59),by kernel_rfl,ap (by kernel_rfl)⟩
def IC:TI:={size:=some 1,agg:=some false,rs:=some (.one (.leaf (.int .u64))),zero:=some (Value.int .u64 0),intk:=some .u64,conc:=true}
theorem ES:aM Tryz.prog 60 IC where
 zero:=ah (Value.int .u64 0) rfl (by kernel_rfl)
 intk:=ah (IntKind.u64) rfl (by kernel_rfl)
 conc:=an ⟨aD (Tryz.prog.underlying 60),by kernel_rfl,ap (by kernel_rfl)⟩
def JE:TI:={rs:=some (.tup [.leaf (.slice),.leaf (.str),.leaf (.int .i64)])}
theorem EM:aM Tryz.prog 62 JE where
def Hj:TI:={size:=some 1,agg:=some false,rs:=some (.one (.leaf (.ptr))),zero:=some (Value.pointer none),conc:=true,isPtr:=true}
theorem EF:aM Tryz.prog 69 Hj where
 zero:=ah (Value.pointer none) rfl (by kernel_rfl)
 conc:=an ⟨aD (Tryz.prog.underlying 69),by kernel_rfl,ap (by kernel_rfl)⟩
 isPtr:=an ⟨237,by kernel_rfl⟩
def Jc:TI:={rs:=some (.tup [.leaf (.ptr),.leaf (.int .i64),.leaf (.int .i64)])}
theorem EC:aM Tryz.prog 70 Jc where
def Ip:TI:={size:=some 6,agg:=some true,rs:=some (.one (.agg [.bool,.slice,.slice,.slice,.slice,.slice])),zero:=some (Value.agg #[Value.bool false,Value.slice none 0 0,Value.slice none 0 0,Value.slice none 0 0,Value.slice none 0 0,Value.slice none 0 0]),offs:=some [(0,0,false),(1,0,false),(2,0,false),(3,0,false),(4,0,false),(5,0,false)],conc:=true}
theorem Ep:aM Tryz.prog 73 Ip where
 size:=ah (6) rfl (by kernel_rfl)
 agg:=ah (true) rfl (by kernel_rfl)
 zero:=ah (Value.agg #[Value.bool false,Value.slice none 0 0,Value.slice none 0 0,Value.slice none 0 0,Value.slice none 0 0,Value.slice none 0 0]) rfl (by kernel_rfl)
 offs:=ah [(0,0,false),(1,0,false),(2,0,false),(3,0,false),(4,0,false),(5,0,false)] rfl ⟨be (Tryz.prog.underlying 73),by kernel_rfl,by kernel_rfl⟩
 conc:=an ⟨aD (Tryz.prog.underlying 73),by kernel_rfl,ap (by kernel_rfl)⟩
def I9:TI:={size:=some 2,agg:=some true,rs:=some (.one (.agg [.int .i64,.str])),zero:=some (Value.agg #[Value.int .i64 0,Value.string ⟨#[]⟩]),offs:=some [(0,0,false),(1,0,false)],eqs:=some [.i,.s],conc:=true}
theorem EL:aM Tryz.prog 75 I9 where
 size:=ah (2) rfl (by kernel_rfl)
 agg:=ah (true) rfl (by kernel_rfl)
 zero:=ah (Value.agg #[Value.int .i64 0,Value.string ⟨#[]⟩]) rfl (by kernel_rfl)
 offs:=ah [(0,0,false),(1,0,false)] rfl ⟨be (Tryz.prog.underlying 75),by kernel_rfl,by kernel_rfl⟩
 conc:=an ⟨aD (Tryz.prog.underlying 75),by kernel_rfl,ap (by kernel_rfl)⟩
 eqs:=ah [.i,.s] rfl (by kernel_rfl)
def HM:TI:={rs:=some (.tup [.leaf (.ptr),.leaf (.int .i64)])}
theorem E4:aM Tryz.prog 76 HM where
def Hf:TI:={rs:=some (.tup [.leaf (.ptr),.leaf (.int .i64)])}
theorem Er:aM Tryz.prog 78 Hf where
def HN:TI:={size:=some 1,agg:=some false,rs:=some (.one (.leaf (.ptr))),zero:=some (Value.pointer none),conc:=true,isPtr:=true}
theorem EG:aM Tryz.prog 83 HN where
 zero:=ah (Value.pointer none) rfl (by kernel_rfl)
 conc:=an ⟨aD (Tryz.prog.underlying 83),by kernel_rfl,ap (by kernel_rfl)⟩
 isPtr:=an ⟨165,by kernel_rfl⟩
def Jg:TI:={size:=some 1,agg:=some false,rs:=some (.one (.leaf (.slice))),zero:=some (Value.slice none 0 0),slc:=some (5,1),conc:=true,isSlc:=true}
theorem E5:aM Tryz.prog 97 Jg where
 zero:=ah (Value.slice none 0 0) rfl (by kernel_rfl)
 slc:=bx 5 1 rfl ⟨by kernel_rfl,by kernel_rfl⟩
 conc:=an ⟨aD (Tryz.prog.underlying 97),by kernel_rfl,ap (by kernel_rfl)⟩
 isSlc:=an ⟨5,by kernel_rfl⟩
def F3:TI:={size:=some 2,agg:=some true,rs:=some (.one (.agg [.int .i64,.int .i64])),zero:=some (Value.agg #[Value.int .i64 0,Value.int .i64 0]),offs:=some [(0,0,false),(1,0,false)],eqs:=some [.i,.i],conc:=true}
theorem Dz:aM Tryz.prog 118 F3 where
 size:=ah (2) rfl (by kernel_rfl)
 agg:=ah (true) rfl (by kernel_rfl)
 zero:=ah (Value.agg #[Value.int .i64 0,Value.int .i64 0]) rfl (by kernel_rfl)
 offs:=ah [(0,0,false),(1,0,false)] rfl ⟨be (Tryz.prog.underlying 118),by kernel_rfl,by kernel_rfl⟩
 conc:=an ⟨aD (Tryz.prog.underlying 118),by kernel_rfl,ap (by kernel_rfl)⟩
 eqs:=ah [.i,.i] rfl (by kernel_rfl)
def FX:TI:={rs:=some (.tup [.leaf (.ptr),.agg [.slice,.slice,.slice,.slice,.slice]])}
theorem Da:aM Tryz.prog 119 FX where
def FA:TI:={rs:=some (.tup [.leaf (.int .i64),.leaf (.int .i64)])}
theorem B9:aM Tryz.prog 121 FA where
def Gv:TI:={size:=some 1,agg:=some false,rs:=some (.one (.leaf (.ptr))),zero:=some (Value.pointer none),conc:=true,isPtr:=true}
theorem CG:aM Tryz.prog 124 Gv where
 zero:=ah (Value.pointer none) rfl (by kernel_rfl)
 conc:=an ⟨aD (Tryz.prog.underlying 124),by kernel_rfl,ap (by kernel_rfl)⟩
 isPtr:=an ⟨242,by kernel_rfl⟩
def FN:TI:={size:=some 3,agg:=some true,rs:=some (.one (.agg [.ptr,.ptr,.ptr])),zero:=some (Value.agg #[Value.pointer none,Value.pointer none,Value.pointer none]),offs:=some [(0,0,false),(1,0,false),(2,0,false)],conc:=true}
theorem Co:aM Tryz.prog 126 FN where
 size:=ah (3) rfl (by kernel_rfl)
 agg:=ah (true) rfl (by kernel_rfl)
 zero:=ah (Value.agg #[Value.pointer none,Value.pointer none,Value.pointer none]) rfl (by kernel_rfl)
 offs:=ah [(0,0,false),(1,0,false),(2,0,false)] rfl ⟨be (Tryz.prog.underlying 126),by kernel_rfl,by kernel_rfl⟩
 conc:=an ⟨aD (Tryz.prog.underlying 126),by kernel_rfl,ap (by kernel_rfl)⟩
def Fp:TI:={size:=some 1,agg:=some false,rs:=some (.one (.leaf (.map))),zero:=some (Value.map none),elemSh:=some (.leaf (.int .i64)),conc:=true,isMap:=true}
theorem B4:aM Tryz.prog 128 Fp where
 zero:=ah (Value.map none) rfl (by kernel_rfl)
 conc:=an ⟨aD (Tryz.prog.underlying 128),by kernel_rfl,ap (by kernel_rfl)⟩
 isMap:=an ⟨3,3,by kernel_rfl⟩
def FW:TI:={size:=some 1,agg:=some false,rs:=some (.one (.leaf (.slice))),zero:=some (Value.slice none 0 0),slc:=some (130,1),conc:=true,isSlc:=true}
theorem BL:aM Tryz.prog 129 FW where
 zero:=ah (Value.slice none 0 0) rfl (by kernel_rfl)
 slc:=bx 130 1 rfl ⟨by kernel_rfl,by kernel_rfl⟩
 conc:=an ⟨aD (Tryz.prog.underlying 129),by kernel_rfl,ap (by kernel_rfl)⟩
 isSlc:=an ⟨130,by kernel_rfl⟩
def Fs:TI:={size:=some 1,agg:=some false,rs:=some (.one (.leaf (.slice))),zero:=some (Value.slice none 0 0),slc:=some (59,1),conc:=true,isSlc:=true}
theorem CN:aM Tryz.prog 130 Fs where
 zero:=ah (Value.slice none 0 0) rfl (by kernel_rfl)
 slc:=bx 59 1 rfl ⟨by kernel_rfl,by kernel_rfl⟩
 conc:=an ⟨aD (Tryz.prog.underlying 130),by kernel_rfl,ap (by kernel_rfl)⟩
 isSlc:=an ⟨59,by kernel_rfl⟩
def F6:TI:={size:=some 4,agg:=some true,rs:=some (.one (.agg [.slice,.map,.slice,.slice])),zero:=some (Value.agg #[Value.slice none 0 0,Value.map none,Value.slice none 0 0,Value.slice none 0 0]),offs:=some [(0,0,false),(1,0,false),(2,0,false),(3,0,false)],conc:=true}
theorem Ck:aM Tryz.prog 132 F6 where
 size:=ah (4) rfl (by kernel_rfl)
 agg:=ah (true) rfl (by kernel_rfl)
 zero:=ah (Value.agg #[Value.slice none 0 0,Value.map none,Value.slice none 0 0,Value.slice none 0 0]) rfl (by kernel_rfl)
 offs:=ah [(0,0,false),(1,0,false),(2,0,false),(3,0,false)] rfl ⟨be (Tryz.prog.underlying 132),by kernel_rfl,by kernel_rfl⟩
 conc:=an ⟨aD (Tryz.prog.underlying 132),by kernel_rfl,ap (by kernel_rfl)⟩
def Ge:TI:={size:=some 1,agg:=some false,rs:=some (.one (.leaf (.any))),zero:=some (Value.nilFunc),conc:=true}
theorem C8:aM Tryz.prog 133 Ge where
 zero:=ah (Value.nilFunc) rfl (by kernel_rfl)
 conc:=an ⟨aD (Tryz.prog.underlying 133),by kernel_rfl,ap (by kernel_rfl)⟩
def FD:TI:={rs:=some (.tup [.leaf (.int .i64),.leaf (.str),.leaf (.bool)])}
theorem BR:aM Tryz.prog 134 FD where
def Gj:TI:={rs:=some (.tup [.leaf (.ptr),.leaf (.int .i64),.leaf (.int .i64),.leaf (.int .i64)])}
theorem Cs:aM Tryz.prog 140 Gj where
def GC:TI:={size:=some 1,agg:=some false,rs:=some (.one (.leaf (.ptr))),zero:=some (Value.pointer none),conc:=true,isPtr:=true}
theorem CM:aM Tryz.prog 145 GC where
 zero:=ah (Value.pointer none) rfl (by kernel_rfl)
 conc:=an ⟨aD (Tryz.prog.underlying 145),by kernel_rfl,ap (by kernel_rfl)⟩
 isPtr:=an ⟨249,by kernel_rfl⟩
def Fn:TI:={size:=some 1,agg:=some false,rs:=some (.one (.leaf (.slice))),zero:=some (Value.slice none 0 0),slc:=some (28,1),conc:=true,isSlc:=true}
theorem CD:aM Tryz.prog 148 Fn where
 zero:=ah (Value.slice none 0 0) rfl (by kernel_rfl)
 slc:=bx 28 1 rfl ⟨by kernel_rfl,by kernel_rfl⟩
 conc:=an ⟨aD (Tryz.prog.underlying 148),by kernel_rfl,ap (by kernel_rfl)⟩
 isSlc:=an ⟨28,by kernel_rfl⟩
def Gz:TI:={size:=some 1,agg:=some false,rs:=some (.one (.leaf (.slice))),zero:=some (Value.slice none 0 0),slc:=some (4,1),conc:=true,isSlc:=true}
theorem BB:aM Tryz.prog 149 Gz where
 zero:=ah (Value.slice none 0 0) rfl (by kernel_rfl)
 slc:=bx 4 1 rfl ⟨by kernel_rfl,by kernel_rfl⟩
 conc:=an ⟨aD (Tryz.prog.underlying 149),by kernel_rfl,ap (by kernel_rfl)⟩
 isSlc:=an ⟨4,by kernel_rfl⟩
def Ff:TI:={size:=some 4,agg:=some true,rs:=some (.one (.agg [.int .u32,.int .i32,.int .u32,.slice])),zero:=some (Value.agg #[Value.int .u32 0,Value.int .i32 0,Value.int .u32 0,Value.slice none 0 0]),offs:=some [(0,2,true),(3,0,false)],conc:=true}
theorem Cd:aM Tryz.prog 163 Ff where
 size:=ah (4) rfl (by kernel_rfl)
 agg:=ah (true) rfl (by kernel_rfl)
 zero:=ah (Value.agg #[Value.int .u32 0,Value.int .i32 0,Value.int .u32 0,Value.slice none 0 0]) rfl (by kernel_rfl)
 offs:=ah [(0,2,true),(3,0,false)] rfl ⟨be (Tryz.prog.underlying 163),by kernel_rfl,by kernel_rfl⟩
 conc:=an ⟨aD (Tryz.prog.underlying 163),by kernel_rfl,ap (by kernel_rfl)⟩
def FG:TI:={size:=some 7,agg:=some true,rs:=some (.one (.agg [.ptr,.slice,.slice,.int .u32,.int .i32,.int .u32,.slice])),zero:=some (Value.agg #[Value.pointer none,Value.slice none 0 0,Value.slice none 0 0,Value.int .u32 0,Value.int .i32 0,Value.int .u32 0,Value.slice none 0 0]),offs:=some [(0,0,false),(1,0,false),(2,0,false),(3,3,true)],conc:=true}
theorem DK:aM Tryz.prog 165 FG where
 size:=ah (7) rfl (by kernel_rfl)
 agg:=ah (true) rfl (by kernel_rfl)
 zero:=ah (Value.agg #[Value.pointer none,Value.slice none 0 0,Value.slice none 0 0,Value.int .u32 0,Value.int .i32 0,Value.int .u32 0,Value.slice none 0 0]) rfl (by kernel_rfl)
 offs:=ah [(0,0,false),(1,0,false),(2,0,false),(3,3,true)] rfl ⟨be (Tryz.prog.underlying 165),by kernel_rfl,by kernel_rfl⟩
 conc:=an ⟨aD (Tryz.prog.underlying 165),by kernel_rfl,ap (by kernel_rfl)⟩
def Fm:TI:={rs:=some (.tup [.leaf (.slice),.leaf (.map)])}
theorem CZ:aM Tryz.prog 192 Fm where
def F7:TI:={size:=some 1,agg:=some false,rs:=some (.one (.leaf (.ptr))),zero:=some (Value.pointer none),conc:=true,isPtr:=true}
theorem DC:aM Tryz.prog 199 F7 where
 zero:=ah (Value.pointer none) rfl (by kernel_rfl)
 conc:=an ⟨aD (Tryz.prog.underlying 199),by kernel_rfl,ap (by kernel_rfl)⟩
 isPtr:=an ⟨270,by kernel_rfl⟩
def Fv:TI:={rs:=some (.tup [.leaf (.str),.leaf (.bool)])}
theorem Bz:aM Tryz.prog 203 Fv where
def Fe:TI:={size:=some 1,agg:=some false,rs:=some (.one (.leaf (.any))),zero:=some (Value.nilFunc),conc:=true}
theorem BP:aM Tryz.prog 208 Fe where
 zero:=ah (Value.nilFunc) rfl (by kernel_rfl)
 conc:=an ⟨aD (Tryz.prog.underlying 208),by kernel_rfl,ap (by kernel_rfl)⟩
def Fu:TI:={size:=some 1,agg:=some false,rs:=some (.one (.leaf (.any))),zero:=some (Value.nilFunc),conc:=true}
theorem B_:aM Tryz.prog 210 Fu where
 zero:=ah (Value.nilFunc) rfl (by kernel_rfl)
 conc:=an ⟨aD (Tryz.prog.underlying 210),by kernel_rfl,ap (by kernel_rfl)⟩
def Gy:TI:={size:=some 1,agg:=some false,rs:=some (.one (.leaf (.any))),zero:=some (Value.nilFunc),conc:=true}
theorem CV:aM Tryz.prog 212 Gy where
 zero:=ah (Value.nilFunc) rfl (by kernel_rfl)
 conc:=an ⟨aD (Tryz.prog.underlying 212),by kernel_rfl,ap (by kernel_rfl)⟩
def FM:TI:={size:=some 3,agg:=some true,rs:=some (.one (.agg [.int .i64,.int .i64,.int .i64])),zero:=some (Value.agg #[Value.int .i64 0,Value.int .i64 0,Value.int .i64 0]),offs:=some [(0,0,false),(1,0,false),(2,0,false)],eqs:=some [.i,.i,.i],conc:=true}
theorem Cu:aM Tryz.prog 215 FM where
 size:=ah (3) rfl (by kernel_rfl)
 agg:=ah (true) rfl (by kernel_rfl)
 zero:=ah (Value.agg #[Value.int .i64 0,Value.int .i64 0,Value.int .i64 0]) rfl (by kernel_rfl)
 offs:=ah [(0,0,false),(1,0,false),(2,0,false)] rfl ⟨be (Tryz.prog.underlying 215),by kernel_rfl,by kernel_rfl⟩
 conc:=an ⟨aD (Tryz.prog.underlying 215),by kernel_rfl,ap (by kernel_rfl)⟩
 eqs:=ah [.i,.i,.i] rfl (by kernel_rfl)
def Gq:TI:={size:=some 1,agg:=some false,rs:=some (.one (.leaf (.any))),zero:=some (Value.nilFunc),conc:=true}
theorem C9:aM Tryz.prog 216 Gq where
 zero:=ah (Value.nilFunc) rfl (by kernel_rfl)
 conc:=an ⟨aD (Tryz.prog.underlying 216),by kernel_rfl,ap (by kernel_rfl)⟩
def Gf:TI:={size:=some 2,agg:=some true,rs:=some (.one (.agg [.int .i64,.int .i64])),zero:=some (Value.agg #[Value.int .i64 0,Value.int .i64 0]),offs:=some [(0,0,false),(1,0,false)],eqs:=some [.i,.i],conc:=true}
theorem DZ:aM Tryz.prog 218 Gf where
 size:=ah (2) rfl (by kernel_rfl)
 agg:=ah (true) rfl (by kernel_rfl)
 zero:=ah (Value.agg #[Value.int .i64 0,Value.int .i64 0]) rfl (by kernel_rfl)
 offs:=ah [(0,0,false),(1,0,false)] rfl ⟨be (Tryz.prog.underlying 218),by kernel_rfl,by kernel_rfl⟩
 conc:=an ⟨aD (Tryz.prog.underlying 218),by kernel_rfl,ap (by kernel_rfl)⟩
 eqs:=ah [.i,.i] rfl (by kernel_rfl)
def Fw:TI:={size:=some 1,agg:=some false,rs:=some (.one (.leaf (.any))),zero:=some (Value.nilFunc),conc:=true}
theorem Dj:aM Tryz.prog 219 Fw where
 zero:=ah (Value.nilFunc) rfl (by kernel_rfl)
 conc:=an ⟨aD (Tryz.prog.underlying 219),by kernel_rfl,ap (by kernel_rfl)⟩
def F0:TI:={rs:=some (.tup [.leaf (.ptr),.leaf (.int .i64),.leaf (.int .i64)])}
theorem CA:aM Tryz.prog 220 F0 where
def Gc:TI:={rs:=some (.tup [.leaf (.ptr),.leaf (.int .i64),.leaf (.int .i64)])}
theorem BU:aM Tryz.prog 222 Gc where
def Fo:TI:={size:=some 1,agg:=some false,rs:=some (.one (.leaf (.ptr))),zero:=some (Value.pointer none),conc:=true,isPtr:=true}
theorem BW:aM Tryz.prog 225 Fo where
 zero:=ah (Value.pointer none) rfl (by kernel_rfl)
 conc:=an ⟨aD (Tryz.prog.underlying 225),by kernel_rfl,ap (by kernel_rfl)⟩
 isPtr:=an ⟨293,by kernel_rfl⟩
def FR:TI:={rs:=some (.tup [.leaf (.ptr),.leaf (.int .i64)])}
theorem Bx:aM Tryz.prog 226 FR where
def Gb:TI:={size:=some 9,agg:=some true,rs:=some (.one (.agg [.bool,.slice,.slice,.slice,.slice,.slice,.ptr,.ptr,.ptr])),zero:=some (Value.agg #[Value.bool false,Value.slice none 0 0,Value.slice none 0 0,Value.slice none 0 0,Value.slice none 0 0,Value.slice none 0 0,Value.pointer none,Value.pointer none,Value.pointer none]),offs:=some [(0,5,true),(6,0,false),(7,0,false),(8,0,false)],conc:=true}
theorem CH:aM Tryz.prog 230 Gb where
 size:=ah (9) rfl (by kernel_rfl)
 agg:=ah (true) rfl (by kernel_rfl)
 zero:=ah (Value.agg #[Value.bool false,Value.slice none 0 0,Value.slice none 0 0,Value.slice none 0 0,Value.slice none 0 0,Value.slice none 0 0,Value.pointer none,Value.pointer none,Value.pointer none]) rfl (by kernel_rfl)
 offs:=ah [(0,5,true),(6,0,false),(7,0,false),(8,0,false)] rfl ⟨be (Tryz.prog.underlying 230),by kernel_rfl,by kernel_rfl⟩
 conc:=an ⟨aD (Tryz.prog.underlying 230),by kernel_rfl,ap (by kernel_rfl)⟩
def Fc:TI:={size:=some 4,agg:=some true,rs:=some (.one (.agg [.int .u32,.int .i32,.int .u32,.slice])),zero:=some (Value.agg #[Value.int .u32 0,Value.int .i32 0,Value.int .u32 0,Value.slice none 0 0]),offs:=some [(0,2,true),(3,0,false)],conc:=true}
theorem Ds:aM Tryz.prog 232 Fc where
 size:=ah (4) rfl (by kernel_rfl)
 agg:=ah (true) rfl (by kernel_rfl)
 zero:=ah (Value.agg #[Value.int .u32 0,Value.int .i32 0,Value.int .u32 0,Value.slice none 0 0]) rfl (by kernel_rfl)
 offs:=ah [(0,2,true),(3,0,false)] rfl ⟨be (Tryz.prog.underlying 232),by kernel_rfl,by kernel_rfl⟩
 conc:=an ⟨aD (Tryz.prog.underlying 232),by kernel_rfl,ap (by kernel_rfl)⟩
def Gh:TI:={size:=some 14,agg:=some true,rs:=some (.one (.agg [.bool,.slice,.slice,.slice,.slice,.slice,.ptr,.ptr,.ptr,.int .u32,.int .i32,.int .u32,.slice,.int .i64])),zero:=some (Value.agg #[Value.bool false,Value.slice none 0 0,Value.slice none 0 0,Value.slice none 0 0,Value.slice none 0 0,Value.slice none 0 0,Value.pointer none,Value.pointer none,Value.pointer none,Value.int .u32 0,Value.int .i32 0,Value.int .u32 0,Value.slice none 0 0,Value.int .i64 0]),offs:=some [(0,8,true),(9,3,true),(13,0,true)],conc:=true}
theorem CI:aM Tryz.prog 237 Gh where
 size:=ah (14) rfl (by kernel_rfl)
 agg:=ah (true) rfl (by kernel_rfl)
 zero:=ah (Value.agg #[Value.bool false,Value.slice none 0 0,Value.slice none 0 0,Value.slice none 0 0,Value.slice none 0 0,Value.slice none 0 0,Value.pointer none,Value.pointer none,Value.pointer none,Value.int .u32 0,Value.int .i32 0,Value.int .u32 0,Value.slice none 0 0,Value.int .i64 0]) rfl (by kernel_rfl)
 offs:=ah [(0,8,true),(9,3,true),(13,0,true)] rfl ⟨be (Tryz.prog.underlying 237),by kernel_rfl,by kernel_rfl⟩
 conc:=an ⟨aD (Tryz.prog.underlying 237),by kernel_rfl,ap (by kernel_rfl)⟩
def FV:TI:={size:=some 1,agg:=some false,rs:=some (.one (.leaf (.ptr))),zero:=some (Value.pointer none),conc:=true,isPtr:=true}
theorem CK:aM Tryz.prog 240 FV where
 zero:=ah (Value.pointer none) rfl (by kernel_rfl)
 conc:=an ⟨aD (Tryz.prog.underlying 240),by kernel_rfl,ap (by kernel_rfl)⟩
 isPtr:=an ⟨275,by kernel_rfl⟩
def Fi:TI:={size:=some 2,agg:=some true,rs:=some (.one (.agg [.ptr,.int .i64])),zero:=some (Value.agg #[Value.pointer none,Value.int .i64 0]),offs:=some [(0,0,false),(1,0,false)],conc:=true}
theorem Cw:aM Tryz.prog 242 Fi where
 size:=ah (2) rfl (by kernel_rfl)
 agg:=ah (true) rfl (by kernel_rfl)
 zero:=ah (Value.agg #[Value.pointer none,Value.int .i64 0]) rfl (by kernel_rfl)
 offs:=ah [(0,0,false),(1,0,false)] rfl ⟨be (Tryz.prog.underlying 242),by kernel_rfl,by kernel_rfl⟩
 conc:=an ⟨aD (Tryz.prog.underlying 242),by kernel_rfl,ap (by kernel_rfl)⟩
def Gd:TI:={size:=some 1,agg:=some false,rs:=some (.one (.leaf (.slice))),zero:=some (Value.slice none 0 0),slc:=some (278,3),conc:=true,isSlc:=true}
theorem CJ:aM Tryz.prog 245 Gd where
 zero:=ah (Value.slice none 0 0) rfl (by kernel_rfl)
 slc:=bx 278 3 rfl ⟨by kernel_rfl,by kernel_rfl⟩
 conc:=an ⟨aD (Tryz.prog.underlying 245),by kernel_rfl,ap (by kernel_rfl)⟩
 isSlc:=an ⟨278,by kernel_rfl⟩
def FH:TI:={size:=some 1,agg:=some false,rs:=some (.one (.leaf (.map))),zero:=some (Value.map none),elemSh:=some (.leaf (.int .i64)),conc:=true,isMap:=true}
theorem Ct:aM Tryz.prog 246 FH where
 zero:=ah (Value.map none) rfl (by kernel_rfl)
 conc:=an ⟨aD (Tryz.prog.underlying 246),by kernel_rfl,ap (by kernel_rfl)⟩
 isMap:=an ⟨9,3,by kernel_rfl⟩
def FC:TI:={size:=some 1,agg:=some false,rs:=some (.one (.leaf (.map))),zero:=some (Value.map none),elemSh:=some (.leaf (.int .i64)),conc:=true,isMap:=true}
theorem CQ:aM Tryz.prog 247 FC where
 zero:=ah (Value.map none) rfl (by kernel_rfl)
 conc:=an ⟨aD (Tryz.prog.underlying 247),by kernel_rfl,ap (by kernel_rfl)⟩
 isMap:=an ⟨118,3,by kernel_rfl⟩
def F1:TI:={size:=some 4,agg:=some true,rs:=some (.one (.agg [.slice,.map,.map,.int .i64])),zero:=some (Value.agg #[Value.slice none 0 0,Value.map none,Value.map none,Value.int .i64 0]),offs:=some [(0,0,false),(1,0,false),(2,0,false),(3,0,false)],conc:=true}
theorem Cg:aM Tryz.prog 249 F1 where
 size:=ah (4) rfl (by kernel_rfl)
 agg:=ah (true) rfl (by kernel_rfl)
 zero:=ah (Value.agg #[Value.slice none 0 0,Value.map none,Value.map none,Value.int .i64 0]) rfl (by kernel_rfl)
 offs:=ah [(0,0,false),(1,0,false),(2,0,false),(3,0,false)] rfl ⟨be (Tryz.prog.underlying 249),by kernel_rfl,by kernel_rfl⟩
 conc:=an ⟨aD (Tryz.prog.underlying 249),by kernel_rfl,ap (by kernel_rfl)⟩
def F8:TI:={rs:=some (.tup [.leaf (.int .u64),.leaf (.int .u64)])}
theorem DI:aM Tryz.prog 259 F8 where
def E_:TI:={rs:=some (.tup [.leaf (.int .i64),.leaf (.int .i64)])}
theorem BT:aM Tryz.prog 263 E_ where
def GE:TI:={rs:=some (.tup [.agg [.slice,.slice,.slice,.slice,.slice],.leaf (.int .i64),.leaf (.int .i64),.leaf (.int .i64)])}
theorem Cx:aM Tryz.prog 265 GE where
def Gn:TI:={size:=some 256,agg:=some true,zero:=some (Value.agg (List.toArray (List.replicate 256 (Value.bool false)))),arr:=some (256,1),conc:=true}
theorem De:aM Tryz.prog 268 Gn where
 size:=ah (256) rfl (by kernel_rfl)
 agg:=ah (true) rfl (by kernel_rfl)
 zero:=ah (Value.agg (List.toArray (List.replicate 256 (Value.bool false)))) rfl (by kernel_rfl)
 arr:=bx 256 1 rfl ⟨4,by kernel_rfl,by kernel_rfl⟩
 conc:=an ⟨aD (Tryz.prog.underlying 268),by kernel_rfl,ap (by kernel_rfl)⟩
def Gt:TI:={size:=some 260,agg:=some true,zero:=some (Value.agg (List.toArray ([Value.slice none 0 0,Value.map none,Value.map none]++List.replicate 256 (Value.bool false)++ [Value.int .i64 0]))),offs:=some [(0,0,false),(1,0,false),(2,0,false),(3,255,true),(259,0,false)],conc:=true}
theorem DQ:aM Tryz.prog 270 Gt where
 size:=ah (260) rfl (by kernel_rfl)
 agg:=ah (true) rfl (by kernel_rfl)
 zero:=ah (Value.agg (List.toArray ([Value.slice none 0 0,Value.map none,Value.map none]++List.replicate 256 (Value.bool false)++ [Value.int .i64 0]))) rfl (by kernel_rfl)
 offs:=ah [(0,0,false),(1,0,false),(2,0,false),(3,255,true),(259,0,false)] rfl ⟨be (Tryz.prog.underlying 270),by kernel_rfl,by kernel_rfl⟩
 conc:=an ⟨aD (Tryz.prog.underlying 270),by kernel_rfl,ap (by kernel_rfl)⟩
def Fz:TI:={size:=some 1,agg:=some false,rs:=some (.one (.leaf (.map))),zero:=some (Value.map none),elemSh:=some (.leaf (.ptr)),conc:=true,isMap:=true}
theorem B6:aM Tryz.prog 273 Fz where
 zero:=ah (Value.map none) rfl (by kernel_rfl)
 conc:=an ⟨aD (Tryz.prog.underlying 273),by kernel_rfl,ap (by kernel_rfl)⟩
 isMap:=an ⟨5,240,by kernel_rfl⟩
def Gk:TI:={size:=some 2,agg:=some true,rs:=some (.one (.agg [.map,.int .i64])),zero:=some (Value.agg #[Value.map none,Value.int .i64 0]),offs:=some [(0,0,false),(1,0,false)],conc:=true}
theorem C_:aM Tryz.prog 275 Gk where
 size:=ah (2) rfl (by kernel_rfl)
 agg:=ah (true) rfl (by kernel_rfl)
 zero:=ah (Value.agg #[Value.map none,Value.int .i64 0]) rfl (by kernel_rfl)
 offs:=ah [(0,0,false),(1,0,false)] rfl ⟨be (Tryz.prog.underlying 275),by kernel_rfl,by kernel_rfl⟩
 conc:=an ⟨aD (Tryz.prog.underlying 275),by kernel_rfl,ap (by kernel_rfl)⟩
def F5:TI:={size:=some 3,agg:=some true,rs:=some (.one (.agg [.str,.int .i64,.int .i64])),zero:=some (Value.agg #[Value.string ⟨#[]⟩,Value.int .i64 0,Value.int .i64 0]),offs:=some [(0,0,false),(1,1,true)],conc:=true}
theorem B2:aM Tryz.prog 278 F5 where
 size:=ah (3) rfl (by kernel_rfl)
 agg:=ah (true) rfl (by kernel_rfl)
 zero:=ah (Value.agg #[Value.string ⟨#[]⟩,Value.int .i64 0,Value.int .i64 0]) rfl (by kernel_rfl)
 offs:=ah [(0,0,false),(1,1,true)] rfl ⟨be (Tryz.prog.underlying 278),by kernel_rfl,by kernel_rfl⟩
 conc:=an ⟨aD (Tryz.prog.underlying 278),by kernel_rfl,ap (by kernel_rfl)⟩
def Fd:TI:={size:=some 256,agg:=some true,zero:=some (Value.agg (List.toArray (List.replicate 256 (Value.int .i64 0)))),arr:=some (256,1),conc:=true}
theorem C6:aM Tryz.prog 289 Fd where
 size:=ah (256) rfl (by kernel_rfl)
 agg:=ah (true) rfl (by kernel_rfl)
 zero:=ah (Value.agg (List.toArray (List.replicate 256 (Value.int .i64 0)))) rfl (by kernel_rfl)
 arr:=bx 256 1 rfl ⟨3,by kernel_rfl,by kernel_rfl⟩
 conc:=an ⟨aD (Tryz.prog.underlying 289),by kernel_rfl,ap (by kernel_rfl)⟩
def FS:TI:={size:=some 16,agg:=some true,rs:=some (.one (.agg [.bool,.bool,.bool,.bool,.bool,.bool,.bool,.bool,.bool,.bool,.bool,.bool,.bool,.bool,.bool,.bool])),zero:=some (Value.agg #[Value.bool false,Value.bool false,Value.bool false,Value.bool false,Value.bool false,Value.bool false,Value.bool false,Value.bool false,Value.bool false,Value.bool false,Value.bool false,Value.bool false,Value.bool false,Value.bool false,Value.bool false,Value.bool false]),arr:=some (16,1),conc:=true}
theorem Cv:aM Tryz.prog 290 FS where
 size:=ah (16) rfl (by kernel_rfl)
 agg:=ah (true) rfl (by kernel_rfl)
 zero:=ah (Value.agg #[Value.bool false,Value.bool false,Value.bool false,Value.bool false,Value.bool false,Value.bool false,Value.bool false,Value.bool false,Value.bool false,Value.bool false,Value.bool false,Value.bool false,Value.bool false,Value.bool false,Value.bool false,Value.bool false]) rfl (by kernel_rfl)
 arr:=bx 16 1 rfl ⟨4,by kernel_rfl,by kernel_rfl⟩
 conc:=an ⟨aD (Tryz.prog.underlying 290),by kernel_rfl,ap (by kernel_rfl)⟩
def GD:TI:={size:=some 256,agg:=some true,zero:=some (Value.agg (List.toArray (List.replicate 256 (Value.bool false)))),arr:=some (16,16),conc:=true}
theorem Bt:aM Tryz.prog 291 GD where
 size:=ah (256) rfl (by kernel_rfl)
 agg:=ah (true) rfl (by kernel_rfl)
 zero:=ah (Value.agg (List.toArray (List.replicate 256 (Value.bool false)))) rfl (by kernel_rfl)
 arr:=bx 16 16 rfl ⟨290,by kernel_rfl,by kernel_rfl⟩
 conc:=an ⟨aD (Tryz.prog.underlying 291),by kernel_rfl,ap (by kernel_rfl)⟩
def Gi:TI:={size:=some 512,agg:=some true,zero:=some (Value.agg (List.toArray (List.replicate 256 (Value.int .i64 0)++List.replicate 256 (Value.bool false)))),offs:=some [(0,255,true),(256,255,true)],conc:=true}
theorem Dv:aM Tryz.prog 293 Gi where
 size:=ah (512) rfl (by kernel_rfl)
 agg:=ah (true) rfl (by kernel_rfl)
 zero:=ah (Value.agg (List.toArray (List.replicate 256 (Value.int .i64 0)++List.replicate 256 (Value.bool false)))) rfl (by kernel_rfl)
 offs:=ah [(0,255,true),(256,255,true)] rfl ⟨be (Tryz.prog.underlying 293),by kernel_rfl,by kernel_rfl⟩
 conc:=an ⟨aD (Tryz.prog.underlying 293),by kernel_rfl,ap (by kernel_rfl)⟩
def F':TI:={rs:=some (.tup [.leaf (.ptr),.leaf (.bool)])}
theorem DL:aM Tryz.prog 306 F' where
def Fh:TI:={rs:=some (.tup [.leaf (.int .u64),.leaf (.int .u64)])}
theorem BE:aM Tryz.prog 313 Fh where
def F4:TI:={rs:=some (.tup [.leaf (.slice),.leaf (.int .i64)])}
theorem Dg:aM Tryz.prog 315 F4 where
def Gw:TI:={size:=some 1,agg:=some false,rs:=some (.one (.leaf (.any))),zero:=some (Value.nilFunc),conc:=true}
theorem Bu:aM Tryz.prog 319 Gw where
 zero:=ah (Value.nilFunc) rfl (by kernel_rfl)
 conc:=an ⟨aD (Tryz.prog.underlying 319),by kernel_rfl,ap (by kernel_rfl)⟩
def GA:TI:={size:=some 1,agg:=some false,rs:=some (.one (.leaf (.int .u16))),zero:=some (Value.int .u16 0),intk:=some .u16,conc:=true}
theorem DP:aM Tryz.prog 321 GA where
 zero:=ah (Value.int .u16 0) rfl (by kernel_rfl)
 intk:=ah (IntKind.u16) rfl (by kernel_rfl)
 conc:=an ⟨aD (Tryz.prog.underlying 321),by kernel_rfl,ap (by kernel_rfl)⟩
def Fy:TI:={rs:=some (.tup [.agg [.slice,.slice],.leaf (.int .i64)])}
theorem DS:aM Tryz.prog 322 Fy where
def Fk:TI:={rs:=some (.tup [.agg [.slice,.slice],.leaf (.int .i64),.leaf (.int .i64)])}
theorem BA:aM Tryz.prog 324 Fk where
def FO:TI:={size:=some 1,agg:=some false,rs:=some (.one (.leaf (.int .i64))),zero:=some (Value.int .i64 0),intk:=some .i64,conc:=true}
theorem Dm:aM Tryz.prog 327 FO where
 zero:=ah (Value.int .i64 0) rfl (by kernel_rfl)
 intk:=ah (IntKind.i64) rfl (by kernel_rfl)
 conc:=an ⟨aD (Tryz.prog.underlying 327),by kernel_rfl,ap (by kernel_rfl)⟩
def Gm:TI:={rs:=some (.tup [.leaf (.int .i64),.leaf (.int .i64)])}
theorem BH:aM Tryz.prog 328 Gm where
def Ft:TI:={size:=some 1,agg:=some false,rs:=some (.one (.leaf (.any))),zero:=some (Value.nilFunc),conc:=true}
theorem BN:aM Tryz.prog 335 Ft where
 zero:=ah (Value.nilFunc) rfl (by kernel_rfl)
 conc:=an ⟨aD (Tryz.prog.underlying 335),by kernel_rfl,ap (by kernel_rfl)⟩
def FK:TI:={rs:=some (.tup [.agg [.int .i64,.int .i64],.leaf (.bool)])}
theorem DA:aM Tryz.prog 340 FK where
def F_:TI:={size:=some 1,agg:=some false,rs:=some (.one (.leaf (.ptr))),zero:=some (Value.pointer none),conc:=true,isPtr:=true}
theorem Cq:aM Tryz.prog 345 F_ where
 zero:=ah (Value.pointer none) rfl (by kernel_rfl)
 conc:=an ⟨aD (Tryz.prog.underlying 345),by kernel_rfl,ap (by kernel_rfl)⟩
 isPtr:=an ⟨365,by kernel_rfl⟩
def FY:TI:={size:=some 1,agg:=some false,rs:=some (.one (.leaf (.map))),zero:=some (Value.map none),elemSh:=some (.leaf (.int .i64)),conc:=true,isMap:=true}
theorem DV:aM Tryz.prog 350 FY where
 zero:=ah (Value.map none) rfl (by kernel_rfl)
 conc:=an ⟨aD (Tryz.prog.underlying 350),by kernel_rfl,ap (by kernel_rfl)⟩
 isMap:=an ⟨4,3,by kernel_rfl⟩
def Gs:TI:={size:=some 1,agg:=some false,rs:=some (.one (.leaf (.ptr))),zero:=some (Value.pointer none),conc:=true,isPtr:=true}
theorem Df:aM Tryz.prog 358 Gs where
 zero:=ah (Value.pointer none) rfl (by kernel_rfl)
 conc:=an ⟨aD (Tryz.prog.underlying 358),by kernel_rfl,ap (by kernel_rfl)⟩
 isPtr:=an ⟨3,by kernel_rfl⟩
def GB:TI:={size:=some 1,agg:=some false,rs:=some (.one (.leaf (.ptr))),zero:=some (Value.pointer none),conc:=true,isPtr:=true}
theorem Bw:aM Tryz.prog 360 GB where
 zero:=ah (Value.pointer none) rfl (by kernel_rfl)
 conc:=an ⟨aD (Tryz.prog.underlying 360),by kernel_rfl,ap (by kernel_rfl)⟩
 isPtr:=an ⟨381,by kernel_rfl⟩
def FL:TI:={size:=some 2,agg:=some true,rs:=some (.one (.agg [.int .i64,.int .i64])),zero:=some (Value.agg #[Value.int .i64 0,Value.int .i64 0]),offs:=some [(0,1,true)],conc:=true}
theorem BY:aM Tryz.prog 363 FL where
 size:=ah (2) rfl (by kernel_rfl)
 agg:=ah (true) rfl (by kernel_rfl)
 zero:=ah (Value.agg #[Value.int .i64 0,Value.int .i64 0]) rfl (by kernel_rfl)
 offs:=ah [(0,1,true)] rfl ⟨be (Tryz.prog.underlying 363),by kernel_rfl,by kernel_rfl⟩
 conc:=an ⟨aD (Tryz.prog.underlying 363),by kernel_rfl,ap (by kernel_rfl)⟩
def Fa:TI:={size:=some 5,agg:=some true,rs:=some (.one (.agg [.int .i64,.int .i64,.ptr,.int .i64,.int .i64])),zero:=some (Value.agg #[Value.int .i64 0,Value.int .i64 0,Value.pointer none,Value.int .i64 0,Value.int .i64 0]),offs:=some [(0,1,true),(2,0,false),(3,0,false),(4,0,false)],conc:=true}
theorem D0:aM Tryz.prog 365 Fa where
 size:=ah (5) rfl (by kernel_rfl)
 agg:=ah (true) rfl (by kernel_rfl)
 zero:=ah (Value.agg #[Value.int .i64 0,Value.int .i64 0,Value.pointer none,Value.int .i64 0,Value.int .i64 0]) rfl (by kernel_rfl)
 offs:=ah [(0,1,true),(2,0,false),(3,0,false),(4,0,false)] rfl ⟨be (Tryz.prog.underlying 365),by kernel_rfl,by kernel_rfl⟩
 conc:=an ⟨aD (Tryz.prog.underlying 365),by kernel_rfl,ap (by kernel_rfl)⟩
def Fr:TI:={size:=some 1,agg:=some false,rs:=some (.one (.leaf (.ptr))),zero:=some (Value.pointer none),conc:=true,isPtr:=true}
theorem BV:aM Tryz.prog 375 Fr where
 zero:=ah (Value.pointer none) rfl (by kernel_rfl)
 conc:=an ⟨aD (Tryz.prog.underlying 375),by kernel_rfl,ap (by kernel_rfl)⟩
 isPtr:=an ⟨393,by kernel_rfl⟩
def FZ:TI:={size:=some 3,agg:=some true,rs:=some (.one (.agg [.int .i64,.int .i64,.int .i64])),zero:=some (Value.agg #[Value.int .i64 0,Value.int .i64 0,Value.int .i64 0]),offs:=some [(0,0,false),(1,1,true)],conc:=true}
theorem CL:aM Tryz.prog 378 FZ where
 size:=ah (3) rfl (by kernel_rfl)
 agg:=ah (true) rfl (by kernel_rfl)
 zero:=ah (Value.agg #[Value.int .i64 0,Value.int .i64 0,Value.int .i64 0]) rfl (by kernel_rfl)
 offs:=ah [(0,0,false),(1,1,true)] rfl ⟨be (Tryz.prog.underlying 378),by kernel_rfl,by kernel_rfl⟩
 conc:=an ⟨aD (Tryz.prog.underlying 378),by kernel_rfl,ap (by kernel_rfl)⟩
def E':TI:={size:=some 1,agg:=some false,rs:=some (.one (.leaf (.slice))),zero:=some (Value.slice none 0 0),slc:=some (383,3),conc:=true,isSlc:=true}
theorem CE:aM Tryz.prog 379 E' where
 zero:=ah (Value.slice none 0 0) rfl (by kernel_rfl)
 slc:=bx 383 3 rfl ⟨by kernel_rfl,by kernel_rfl⟩
 conc:=an ⟨aD (Tryz.prog.underlying 379),by kernel_rfl,ap (by kernel_rfl)⟩
 isSlc:=an ⟨383,by kernel_rfl⟩
def FJ:TI:={size:=some 5,agg:=some true,rs:=some (.one (.agg [.ptr,.slice,.ptr,.int .i64,.int .i64])),zero:=some (Value.agg #[Value.pointer none,Value.slice none 0 0,Value.pointer none,Value.int .i64 0,Value.int .i64 0]),offs:=some [(0,0,false),(1,0,false),(2,0,false),(3,0,false),(4,0,false)],conc:=true}
theorem Ca:aM Tryz.prog 381 FJ where
 size:=ah (5) rfl (by kernel_rfl)
 agg:=ah (true) rfl (by kernel_rfl)
 zero:=ah (Value.agg #[Value.pointer none,Value.slice none 0 0,Value.pointer none,Value.int .i64 0,Value.int .i64 0]) rfl (by kernel_rfl)
 offs:=ah [(0,0,false),(1,0,false),(2,0,false),(3,0,false),(4,0,false)] rfl ⟨be (Tryz.prog.underlying 381),by kernel_rfl,by kernel_rfl⟩
 conc:=an ⟨aD (Tryz.prog.underlying 381),by kernel_rfl,ap (by kernel_rfl)⟩
def FT:TI:={size:=some 3,agg:=some true,rs:=some (.one (.agg [.int .i64,.int .i64,.int .i64])),zero:=some (Value.agg #[Value.int .i64 0,Value.int .i64 0,Value.int .i64 0]),offs:=some [(0,0,false),(1,0,false),(2,0,false)],eqs:=some [.i,.i,.i],conc:=true}
theorem Dy:aM Tryz.prog 383 FT where
 size:=ah (3) rfl (by kernel_rfl)
 agg:=ah (true) rfl (by kernel_rfl)
 zero:=ah (Value.agg #[Value.int .i64 0,Value.int .i64 0,Value.int .i64 0]) rfl (by kernel_rfl)
 offs:=ah [(0,0,false),(1,0,false),(2,0,false)] rfl ⟨be (Tryz.prog.underlying 383),by kernel_rfl,by kernel_rfl⟩
 conc:=an ⟨aD (Tryz.prog.underlying 383),by kernel_rfl,ap (by kernel_rfl)⟩
 eqs:=ah [.i,.i,.i] rfl (by kernel_rfl)
def Fj:TI:={rs:=some (.tup [.agg [.int .i64,.int .i64,.int .i64],.leaf (.int .i64),.leaf (.int .i64),.leaf (.bool)])}
theorem Du:aM Tryz.prog 384 Fj where
def Ga:TI:={size:=some 1,agg:=some false,rs:=some (.one (.leaf (.slice))),zero:=some (Value.slice none 0 0),slc:=some (399,6),conc:=true,isSlc:=true}
theorem Cb:aM Tryz.prog 391 Ga where
 zero:=ah (Value.slice none 0 0) rfl (by kernel_rfl)
 slc:=bx 399 6 rfl ⟨by kernel_rfl,by kernel_rfl⟩
 conc:=an ⟨aD (Tryz.prog.underlying 391),by kernel_rfl,ap (by kernel_rfl)⟩
 isSlc:=an ⟨399,by kernel_rfl⟩
def Gx:TI:={size:=some 2,agg:=some true,rs:=some (.one (.agg [.slice,.int .i64])),zero:=some (Value.agg #[Value.slice none 0 0,Value.int .i64 0]),offs:=some [(0,0,false),(1,0,false)],conc:=true}
theorem DB:aM Tryz.prog 393 Gx where
 size:=ah (2) rfl (by kernel_rfl)
 agg:=ah (true) rfl (by kernel_rfl)
 zero:=ah (Value.agg #[Value.slice none 0 0,Value.int .i64 0]) rfl (by kernel_rfl)
 offs:=ah [(0,0,false),(1,0,false)] rfl ⟨be (Tryz.prog.underlying 393),by kernel_rfl,by kernel_rfl⟩
 conc:=an ⟨aD (Tryz.prog.underlying 393),by kernel_rfl,ap (by kernel_rfl)⟩
def Gg:TI:={size:=some 3,agg:=some true,rs:=some (.one (.agg [.int .i64,.int .i64,.int .i64])),zero:=some (Value.agg #[Value.int .i64 0,Value.int .i64 0,Value.int .i64 0]),offs:=some [(0,0,false),(1,0,false),(2,0,false)],eqs:=some [.i,.i,.i],conc:=true}
theorem Do:aM Tryz.prog 397 Gg where
 size:=ah (3) rfl (by kernel_rfl)
 agg:=ah (true) rfl (by kernel_rfl)
 zero:=ah (Value.agg #[Value.int .i64 0,Value.int .i64 0,Value.int .i64 0]) rfl (by kernel_rfl)
 offs:=ah [(0,0,false),(1,0,false),(2,0,false)] rfl ⟨be (Tryz.prog.underlying 397),by kernel_rfl,by kernel_rfl⟩
 conc:=an ⟨aD (Tryz.prog.underlying 397),by kernel_rfl,ap (by kernel_rfl)⟩
 eqs:=ah [.i,.i,.i] rfl (by kernel_rfl)
def Gr:TI:={size:=some 6,agg:=some true,rs:=some (.one (.agg [.int .i64,.int .i64,.int .i64,.int .i64,.int .i64,.int .i64])),zero:=some (Value.agg #[Value.int .i64 0,Value.int .i64 0,Value.int .i64 0,Value.int .i64 0,Value.int .i64 0,Value.int .i64 0]),offs:=some [(0,2,true),(3,2,true)],conc:=true}
theorem DR:aM Tryz.prog 399 Gr where
 size:=ah (6) rfl (by kernel_rfl)
 agg:=ah (true) rfl (by kernel_rfl)
 zero:=ah (Value.agg #[Value.int .i64 0,Value.int .i64 0,Value.int .i64 0,Value.int .i64 0,Value.int .i64 0,Value.int .i64 0]) rfl (by kernel_rfl)
 offs:=ah [(0,2,true),(3,2,true)] rfl ⟨be (Tryz.prog.underlying 399),by kernel_rfl,by kernel_rfl⟩
 conc:=an ⟨aD (Tryz.prog.underlying 399),by kernel_rfl,ap (by kernel_rfl)⟩
def Fl:TI:={size:=some 2,agg:=some true,rs:=some (.one (.agg [.int .i64,.int .i64])),zero:=some (Value.agg #[Value.int .i64 0,Value.int .i64 0]),arr:=some (2,1),conc:=true}
theorem Cy:aM Tryz.prog 400 Fl where
 size:=ah (2) rfl (by kernel_rfl)
 agg:=ah (true) rfl (by kernel_rfl)
 zero:=ah (Value.agg #[Value.int .i64 0,Value.int .i64 0]) rfl (by kernel_rfl)
 arr:=bx 2 1 rfl ⟨3,by kernel_rfl,by kernel_rfl⟩
 conc:=an ⟨aD (Tryz.prog.underlying 400),by kernel_rfl,ap (by kernel_rfl)⟩
def JM:List (Nat×TI):=[(0,KK),(2,KO),(3,KL),(4,KP),(5,KM),(9,KN),(22,Is),(23,Iy),(24,Hg),(25,Ij),(27,Jh),(28,G3),(31,Jm),(32,Ie),(33,H8),(34,IW),(36,Hu),(38,IH),(40,HV),(41,Jz),(43,Ib),(44,HC),(47,Jp),(48,IM),(53,H0)]
theorem E8:∀p∈JM,aM Tryz.prog p.1 p.2:=
 ao GF<|ao GZ<|ao GR<|ao GM<|ao GO<|ao GH<|ao D6<|ao Eu<|ao Ew<|ao E2<|ao EH<|ao E0<|ao Eh<|ao EQ<|ao Ee<|ao Ec<|ao EX<|ao Ej<|ao En<|ao E7<|ao E9<|ao EA<|ao Ei<|ao Ef<|ao El<|oQ
def IT:List (Nat×TI):=[(55,Ir),(59,Ht),(60,IC),(62,JE),(69,Hj),(70,Jc),(73,Ip),(75,I9),(76,HM),(78,Hf),(83,HN),(97,Jg),(118,F3),(119,FX),(121,FA),(124,Gv),(126,FN),(128,Fp),(129,FW),(130,Fs),(132,F6),(133,Ge),(134,FD),(140,Gj),(145,GC)]
theorem D_:∀p∈IT,aM Tryz.prog p.1 p.2:=
 ao D8<|ao D4<|ao ES<|ao EM<|ao EF<|ao EC<|ao Ep<|ao EL<|ao E4<|ao Er<|ao EG<|ao E5<|ao Dz<|ao Da<|ao B9<|ao CG<|ao Co<|ao B4<|ao BL<|ao CN<|ao Ck<|ao C8<|ao BR<|ao Cs<|ao CM<|oQ
def JL:List (Nat×TI):=[(148,Fn),(149,Gz),(163,Ff),(165,FG),(192,Fm),(199,F7),(203,Fv),(208,Fe),(210,Fu),(212,Gy),(215,FM),(216,Gq),(218,Gf),(219,Fw),(220,F0),(222,Gc),(225,Fo),(226,FR),(230,Gb),(232,Fc),(237,Gh),(240,FV),(242,Fi),(245,Gd),(246,FH)]
theorem Eb:∀p∈JL,aM Tryz.prog p.1 p.2:=
 ao CD<|ao BB<|ao Cd<|ao DK<|ao CZ<|ao DC<|ao Bz<|ao BP<|ao B_<|ao CV<|ao Cu<|ao C9<|ao DZ<|ao Dj<|ao CA<|ao BU<|ao BW<|ao Bx<|ao CH<|ao Ds<|ao CI<|ao CK<|ao Cw<|ao CJ<|ao Ct<|oQ
def Iu:List (Nat×TI):=[(247,FC),(249,F1),(259,F8),(263,E_),(265,GE),(268,Gn),(270,Gt),(273,Fz),(275,Gk),(278,F5),(289,Fd),(290,FS),(291,GD),(293,Gi),(306,F'),(313,Fh),(315,F4),(319,Gw),(321,GA),(322,Fy),(324,Fk),(327,FO),(328,Gm),(335,Ft),(340,FK)]
theorem EP:∀p∈Iu,aM Tryz.prog p.1 p.2:=
 ao CQ<|ao Cg<|ao DI<|ao BT<|ao Cx<|ao De<|ao DQ<|ao B6<|ao C_<|ao B2<|ao C6<|ao Cv<|ao Bt<|ao Dv<|ao DL<|ao BE<|ao Dg<|ao Bu<|ao DP<|ao DS<|ao BA<|ao Dm<|ao BH<|ao BN<|ao DA<|oQ
def Iq:List (Nat×TI):=[(345,F_),(350,FY),(358,Gs),(360,GB),(363,FL),(365,Fa),(375,Fr),(378,FZ),(379,E'),(381,FJ),(383,FT),(384,Fj),(391,Ga),(393,Gx),(397,Gg),(399,Gr),(400,Fl)]
theorem Em:∀p∈Iq,aM Tryz.prog p.1 p.2:=
 ao Cq<|ao DV<|ao Df<|ao Bw<|ao BY<|ao D0<|ao BV<|ao CL<|ao CE<|ao Ca<|ao Dy<|ao Du<|ao Cb<|ao DB<|ao Do<|ao DR<|ao Cy<|oQ
def tab:List (Nat×TI):=JM++IT++JL++Iu++Iq
set_option maxRecDepth 100000 in
theorem GV:∀p∈tab,aM Tryz.prog p.1 p.2:=
 rC (rC (rC (rC (E8) D_) Eb) EP) Em
theorem BG:Tryz.prog.follows .mixedOrders=true:=by kernel_rfl
noncomputable def gW:fy:=Cn Tryz.prog tab
theorem Hb:gW.Ok:=Ci Tryz.prog tab GV BG
theorem aF {f:FuncId} {fn:Func} {args:List Value} {w:World} {R:RW} {p:Prop} (hf:Tryz.prog.funcs[f]? =some fn) (hb:fn.body=some (y_ fn)) (hn:Nat.ble args.length fn.ntmps=true) (hw:wf gW fn.ntmps (y_ fn)=true) (h:p=BC gW (y_ fn) fn.results.toList args w R) (hh:p):Calls Tryz.prog f args.toArray w fun e w'=>∃v,e= .returned v∧R v w':=
 rU Hb hf hb hn hw (Eq.mp h hh)
end Go.Proofs.YtdlcfegnaphclaaGreat.Eng
