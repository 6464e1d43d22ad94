/- The types that this claim's functions name, as the loaded program has them. -/
import Derived.Test.YtdlcfegnaphclaaGreatZpEng
import Derived.Test.YtdlcfegnaphclaaGreatProg
import Derived.KernelRfl
set_option linter.unusedVariables false
namespace Go.Proofs.YtdlcfegnaphclaaGreat.Eng
open Go
abbrev OA:=Option Addr
abbrev KW:=List Value→World→Prop
abbrev RW:=Value→World→Prop
abbrev CP:=Calls Tryz.prog
abbrev CR (k:Nat) (a:Array Value) (w:World) (R:RW):Prop:=CP k a w fun e w'=>∃v,e= .returned v∧R v w'
def QH:TI:={rs:=some (.tup [])}
theorem LV:aN Tryz.prog 0 QH where
def QF:TI:={size:=some 1,agg:=some false,rs:=some (.one (.leaf (.int .i64))),zero:=some (Value.int .i64 0),intk:=some .i64,conc:=true}
theorem LY:aN Tryz.prog 2 QF where
 zero:=ai (Value.int .i64 0) rfl (by kernel_rfl)
 intk:=ai (IntKind.i64) rfl (by kernel_rfl)
 conc:=am ⟨aD (Tryz.prog.underlying 2),by kernel_rfl,aq (by kernel_rfl)⟩
def QJ:TI:={size:=some 1,agg:=some false,rs:=some (.one (.leaf (.int .i64))),zero:=some (Value.int .i64 0),intk:=some .i64,conc:=true}
theorem LW:aN Tryz.prog 3 QJ where
 zero:=ai (Value.int .i64 0) rfl (by kernel_rfl)
 intk:=ai (IntKind.i64) rfl (by kernel_rfl)
 conc:=am ⟨aD (Tryz.prog.underlying 3),by kernel_rfl,aq (by kernel_rfl)⟩
def QI:TI:={size:=some 1,agg:=some false,rs:=some (.one (.leaf (.bool))),zero:=some (Value.bool false),conc:=true,isBool:=true}
theorem L0:aN Tryz.prog 4 QI where
 zero:=ai (Value.bool false) rfl (by kernel_rfl)
 conc:=am ⟨aD (Tryz.prog.underlying 4),by kernel_rfl,aq (by kernel_rfl)⟩
 isBool:=am (by kernel_rfl)
def QG:TI:={size:=some 1,agg:=some false,rs:=some (.one (.leaf (.int .u8))),zero:=some (Value.int .u8 0),intk:=some .u8,conc:=true}
theorem LP:aN Tryz.prog 5 QG where
 zero:=ai (Value.int .u8 0) rfl (by kernel_rfl)
 intk:=ai (IntKind.u8) rfl (by kernel_rfl)
 conc:=am ⟨aD (Tryz.prog.underlying 5),by kernel_rfl,aq (by kernel_rfl)⟩
def QE:TI:={size:=some 1,agg:=some false,rs:=some (.one (.leaf (.str))),zero:=some (Value.string ⟨#[]⟩),isStr:=true,conc:=true}
theorem LJ:aN Tryz.prog 9 QE where
 zero:=ai (Value.string ⟨#[]⟩) rfl (by kernel_rfl)
 isStr:=am (by kernel_rfl)
 conc:=am ⟨aD (Tryz.prog.underlying 9),by kernel_rfl,aq (by kernel_rfl)⟩
def L4:TI:={size:=some 1,agg:=some false,rs:=some (.one (.leaf (.slice))),zero:=some (Value.slice none 0 0),slc:=some (321,1),conc:=true,isSlc:=true}
theorem IT:aN Tryz.prog 22 L4 where
 zero:=ai (Value.slice none 0 0) rfl (by kernel_rfl)
 slc:=bn 321 1 rfl ⟨by kernel_rfl,by kernel_rfl⟩
 conc:=am ⟨aD (Tryz.prog.underlying 22),by kernel_rfl,aq (by kernel_rfl)⟩
 isSlc:=am ⟨321,by kernel_rfl⟩
def N6:TI:={size:=some 1,agg:=some false,rs:=some (.one (.leaf (.slice))),zero:=some (Value.slice none 0 0),slc:=some (215,3),conc:=true,isSlc:=true}
theorem Iz:aN Tryz.prog 23 N6 where
 zero:=ai (Value.slice none 0 0) rfl (by kernel_rfl)
 slc:=bn 215 3 rfl ⟨by kernel_rfl,by kernel_rfl⟩
 conc:=am ⟨aD (Tryz.prog.underlying 23),by kernel_rfl,aq (by kernel_rfl)⟩
 isSlc:=am ⟨215,by kernel_rfl⟩
def O6:TI:={size:=some 1,agg:=some false,rs:=some (.one (.leaf (.slice))),zero:=some (Value.slice none 0 0),slc:=some (218,2),conc:=true,isSlc:=true}
theorem Iu:aN Tryz.prog 24 O6 where
 zero:=ai (Value.slice none 0 0) rfl (by kernel_rfl)
 slc:=bn 218 2 rfl ⟨by kernel_rfl,by kernel_rfl⟩
 conc:=am ⟨aD (Tryz.prog.underlying 24),by kernel_rfl,aq (by kernel_rfl)⟩
 isSlc:=am ⟨218,by kernel_rfl⟩
def NY:TI:={size:=some 1,agg:=some false,rs:=some (.one (.leaf (.slice))),zero:=some (Value.slice none 0 0),slc:=some (75,2),conc:=true,isSlc:=true}
theorem IS:aN Tryz.prog 25 NY where
 zero:=ai (Value.slice none 0 0) rfl (by kernel_rfl)
 slc:=bn 75 2 rfl ⟨by kernel_rfl,by kernel_rfl⟩
 conc:=am ⟨aD (Tryz.prog.underlying 25),by kernel_rfl,aq (by kernel_rfl)⟩
 isSlc:=am ⟨75,by kernel_rfl⟩
def Ma:TI:={size:=some 4,agg:=some true,rs:=some (.one (.agg [.slice,.slice,.slice,.slice])),zero:=some (Value.agg #[Value.slice none 0 0,Value.slice none 0 0,Value.slice none 0 0,Value.slice none 0 0]),offs:=some [(0,0,false),(1,0,false),(2,0,false),(3,0,false)],conc:=true}
theorem IK:aN Tryz.prog 27 Ma where
 size:=ai (4) rfl (by kernel_rfl)
 agg:=ai (true) rfl (by kernel_rfl)
 zero:=ai (Value.agg #[Value.slice none 0 0,Value.slice none 0 0,Value.slice none 0 0,Value.slice none 0 0]) rfl (by kernel_rfl)
 offs:=ai [(0,0,false),(1,0,false),(2,0,false),(3,0,false)] rfl ⟨bh (Tryz.prog.underlying 27),by kernel_rfl,by kernel_rfl⟩
 conc:=am ⟨aD (Tryz.prog.underlying 27),by kernel_rfl,aq (by kernel_rfl)⟩
def ML:TI:={size:=some 1,agg:=some false,rs:=some (.one (.leaf (.slice))),zero:=some (Value.slice none 0 0),slc:=some (3,1),conc:=true,isSlc:=true}
theorem IX:aN Tryz.prog 28 ML where
 zero:=ai (Value.slice none 0 0) rfl (by kernel_rfl)
 slc:=bn 3 1 rfl ⟨by kernel_rfl,by kernel_rfl⟩
 conc:=am ⟨aD (Tryz.prog.underlying 28),by kernel_rfl,aq (by kernel_rfl)⟩
 isSlc:=am ⟨3,by kernel_rfl⟩
def Nf:TI:={size:=some 1,agg:=some false,rs:=some (.one (.leaf (.ptr))),zero:=some (Value.pointer none),conc:=true,isPtr:=true}
theorem Ip:aN Tryz.prog 31 Nf where
 zero:=ai (Value.pointer none) rfl (by kernel_rfl)
 conc:=am ⟨aD (Tryz.prog.underlying 31),by kernel_rfl,aq (by kernel_rfl)⟩
 isPtr:=am ⟨126,by kernel_rfl⟩
def NU:TI:={size:=some 1,agg:=some false,rs:=some (.one (.leaf (.ptr))),zero:=some (Value.pointer none),conc:=true,isPtr:=true}
theorem II:aN Tryz.prog 32 NU where
 zero:=ai (Value.pointer none) rfl (by kernel_rfl)
 conc:=am ⟨aD (Tryz.prog.underlying 32),by kernel_rfl,aq (by kernel_rfl)⟩
 isPtr:=am ⟨132,by kernel_rfl⟩
def Nk:TI:={size:=some 1,agg:=some false,rs:=some (.one (.leaf (.slice))),zero:=some (Value.slice none 0 0),slc:=some (9,1),conc:=true,isSlc:=true}
theorem Jp:aN Tryz.prog 33 Nk where
 zero:=ai (Value.slice none 0 0) rfl (by kernel_rfl)
 slc:=bn 9 1 rfl ⟨by kernel_rfl,by kernel_rfl⟩
 conc:=am ⟨aD (Tryz.prog.underlying 33),by kernel_rfl,aq (by kernel_rfl)⟩
 isSlc:=am ⟨9,by kernel_rfl⟩
def Pj:TI:={size:=some 1,agg:=some false,rs:=some (.one (.leaf (.slice))),zero:=some (Value.slice none 0 0),slc:=some (118,2),conc:=true,isSlc:=true}
theorem I0:aN Tryz.prog 34 Pj where
 zero:=ai (Value.slice none 0 0) rfl (by kernel_rfl)
 slc:=bn 118 2 rfl ⟨by kernel_rfl,by kernel_rfl⟩
 conc:=am ⟨aD (Tryz.prog.underlying 34),by kernel_rfl,aq (by kernel_rfl)⟩
 isSlc:=am ⟨118,by kernel_rfl⟩
def MD:TI:={size:=some 2,agg:=some true,rs:=some (.one (.agg [.slice,.slice])),zero:=some (Value.agg #[Value.slice none 0 0,Value.slice none 0 0]),offs:=some [(0,0,false),(1,0,false)],conc:=true}
theorem IM:aN Tryz.prog 36 MD where
 size:=ai (2) rfl (by kernel_rfl)
 agg:=ai (true) rfl (by kernel_rfl)
 zero:=ai (Value.agg #[Value.slice none 0 0,Value.slice none 0 0]) rfl (by kernel_rfl)
 offs:=ai [(0,0,false),(1,0,false)] rfl ⟨bh (Tryz.prog.underlying 36),by kernel_rfl,by kernel_rfl⟩
 conc:=am ⟨aD (Tryz.prog.underlying 36),by kernel_rfl,aq (by kernel_rfl)⟩
def OJ:TI:={size:=some 2,agg:=some true,rs:=some (.one (.agg [.slice,.slice])),zero:=some (Value.agg #[Value.slice none 0 0,Value.slice none 0 0]),offs:=some [(0,0,false),(1,0,false)],conc:=true}
theorem Iw:aN Tryz.prog 38 OJ where
 size:=ai (2) rfl (by kernel_rfl)
 agg:=ai (true) rfl (by kernel_rfl)
 zero:=ai (Value.agg #[Value.slice none 0 0,Value.slice none 0 0]) rfl (by kernel_rfl)
 offs:=ai [(0,0,false),(1,0,false)] rfl ⟨bh (Tryz.prog.underlying 38),by kernel_rfl,by kernel_rfl⟩
 conc:=am ⟨aD (Tryz.prog.underlying 38),by kernel_rfl,aq (by kernel_rfl)⟩
def Mw:TI:={size:=some 5,agg:=some true,rs:=some (.one (.agg [.slice,.slice,.slice,.slice,.slice])),zero:=some (Value.agg #[Value.slice none 0 0,Value.slice none 0 0,Value.slice none 0 0,Value.slice none 0 0,Value.slice none 0 0]),offs:=some [(0,1,true),(2,1,true),(4,0,false)],conc:=true}
theorem IF:aN Tryz.prog 40 Mw where
 size:=ai (5) rfl (by kernel_rfl)
 agg:=ai (true) rfl (by kernel_rfl)
 zero:=ai (Value.agg #[Value.slice none 0 0,Value.slice none 0 0,Value.slice none 0 0,Value.slice none 0 0,Value.slice none 0 0]) rfl (by kernel_rfl)
 offs:=ai [(0,1,true),(2,1,true),(4,0,false)] rfl ⟨bh (Tryz.prog.underlying 40),by kernel_rfl,by kernel_rfl⟩
 conc:=am ⟨aD (Tryz.prog.underlying 40),by kernel_rfl,aq (by kernel_rfl)⟩
def Me:TI:={rs:=some (.tup [.leaf (.ptr),.leaf (.ptr),.agg [.slice,.slice,.slice,.slice,.slice]])}
theorem Ia:aN Tryz.prog 41 Me where
def Mm:TI:={size:=some 1,agg:=some false,rs:=some (.one (.leaf (.int .i64))),zero:=some (Value.int .i64 0),intk:=some .i64,conc:=true}
theorem Jd:aN Tryz.prog 43 Mm where
 zero:=ai (Value.int .i64 0) rfl (by kernel_rfl)
 intk:=ai (IntKind.i64) rfl (by kernel_rfl)
 conc:=am ⟨aD (Tryz.prog.underlying 43),by kernel_rfl,aq (by kernel_rfl)⟩
def N8:TI:={rs:=some (.tup [.leaf (.slice),.leaf (.int .i64),.leaf (.int .i64)])}
theorem Jh:aN Tryz.prog 44 N8 where
def M2:TI:={size:=some 1,agg:=some false,rs:=some (.one (.leaf (.slice))),zero:=some (Value.slice none 0 0),slc:=some (59,1),conc:=true,isSlc:=true}
theorem IB:aN Tryz.prog 47 M2 where
 zero:=ai (Value.slice none 0 0) rfl (by kernel_rfl)
 slc:=bn 59 1 rfl ⟨by kernel_rfl,by kernel_rfl⟩
 conc:=am ⟨aD (Tryz.prog.underlying 47),by kernel_rfl,aq (by kernel_rfl)⟩
 isSlc:=am ⟨59,by kernel_rfl⟩
def OK:TI:={rs:=some (.tup [.leaf (.slice),.leaf (.int .i64),.leaf (.int .i64)])}
theorem Is:aN Tryz.prog 48 OK where
def NW:TI:={rs:=some (.tup [.leaf (.int .i64),.leaf (.bool)])}
theorem Ic:aN Tryz.prog 53 NW where
def M4:TI:={size:=some 1,agg:=some false,rs:=some (.one (.leaf (.any))),zero:=some (Value.nilFunc),conc:=true}
theorem Jq:aN Tryz.prog 55 M4 where
 zero:=ai (Value.nilFunc) rfl (by kernel_rfl)
 conc:=am ⟨aD (Tryz.prog.underlying 55),by kernel_rfl,aq (by kernel_rfl)⟩
def Of:TI:={size:=some 1,agg:=some false,rs:=some (.one (.leaf (.int .u64))),zero:=some (Value.int .u64 0),intk:=some .u64,conc:=true}
theorem Jm:aN Tryz.prog 59 Of where
 zero:=ai (Value.int .u64 0) rfl (by kernel_rfl)
 intk:=ai (IntKind.u64) rfl (by kernel_rfl)
 conc:=am ⟨aD (Tryz.prog.underlying 59),by kernel_rfl,aq (by kernel_rfl)⟩
def Nz:TI:={size:=some 1,agg:=some false,rs:=some (.one (.leaf (.int .u64))),zero:=some (Value.int .u64 0),intk:=some .u64,conc:=true}
theorem Ij:aN Tryz.prog 60 Nz where
 zero:=ai (Value.int .u64 0) rfl (by kernel_rfl)
 intk:=ai (IntKind.u64) rfl (by kernel_rfl)
 conc:=am ⟨aD (Tryz.prog.underlying 60),by kernel_rfl,aq (by kernel_rfl)⟩
def Mn:TI:={rs:=some (.tup [.leaf (.slice),.leaf (.str),.leaf (.int .i64)])}
theorem Jk:aN Tryz.prog 62 Mn where
def OY:TI:={size:=some 1,agg:=some false,rs:=some (.one (.leaf (.ptr))),zero:=some (Value.pointer none),conc:=true,isPtr:=true}
theorem Jb:aN Tryz.prog 69 OY where
 zero:=ai (Value.pointer none) rfl (by kernel_rfl)
 conc:=am ⟨aD (Tryz.prog.underlying 69),by kernel_rfl,aq (by kernel_rfl)⟩
 isPtr:=am ⟨237,by kernel_rfl⟩
def NJ:TI:={rs:=some (.tup [.leaf (.ptr),.leaf (.int .i64),.leaf (.int .i64)])}
theorem IR:aN Tryz.prog 70 NJ where
def Od:TI:={size:=some 6,agg:=some true,rs:=some (.one (.agg [.bool,.slice,.slice,.slice,.slice,.slice])),zero:=some (Value.agg #[Value.bool false,Value.slice none 0 0,Value.slice none 0 0,Value.slice none 0 0,Value.slice none 0 0,Value.slice none 0 0]),offs:=some [(0,0,false),(1,0,false),(2,0,false),(3,0,false),(4,0,false),(5,0,false)],conc:=true}
theorem I':aN Tryz.prog 73 Od where
 size:=ai (6) rfl (by kernel_rfl)
 agg:=ai (true) rfl (by kernel_rfl)
 zero:=ai (Value.agg #[Value.bool false,Value.slice none 0 0,Value.slice none 0 0,Value.slice none 0 0,Value.slice none 0 0,Value.slice none 0 0]) rfl (by kernel_rfl)
 offs:=ai [(0,0,false),(1,0,false),(2,0,false),(3,0,false),(4,0,false),(5,0,false)] rfl ⟨bh (Tryz.prog.underlying 73),by kernel_rfl,by kernel_rfl⟩
 conc:=am ⟨aD (Tryz.prog.underlying 73),by kernel_rfl,aq (by kernel_rfl)⟩
def Nl:TI:={size:=some 2,agg:=some true,rs:=some (.one (.agg [.int .i64,.str])),zero:=some (Value.agg #[Value.int .i64 0,Value.string ⟨#[]⟩]),offs:=some [(0,0,false),(1,0,false)],eqs:=some [.i,.s],conc:=true}
theorem Jn:aN Tryz.prog 75 Nl where
 size:=ai (2) rfl (by kernel_rfl)
 agg:=ai (true) rfl (by kernel_rfl)
 zero:=ai (Value.agg #[Value.int .i64 0,Value.string ⟨#[]⟩]) rfl (by kernel_rfl)
 offs:=ai [(0,0,false),(1,0,false)] rfl ⟨bh (Tryz.prog.underlying 75),by kernel_rfl,by kernel_rfl⟩
 conc:=am ⟨aD (Tryz.prog.underlying 75),by kernel_rfl,aq (by kernel_rfl)⟩
 eqs:=ai [.i,.s] rfl (by kernel_rfl)
def L8:TI:={rs:=some (.tup [.leaf (.ptr),.leaf (.int .i64)])}
theorem Il:aN Tryz.prog 76 L8 where
def NP:TI:={rs:=some (.tup [.leaf (.ptr),.leaf (.int .i64)])}
theorem Ik:aN Tryz.prog 78 NP where
def Oc:TI:={size:=some 1,agg:=some false,rs:=some (.one (.leaf (.ptr))),zero:=some (Value.pointer none),conc:=true,isPtr:=true}
theorem IL:aN Tryz.prog 82 Oc where
 zero:=ai (Value.pointer none) rfl (by kernel_rfl)
 conc:=am ⟨aD (Tryz.prog.underlying 82),by kernel_rfl,aq (by kernel_rfl)⟩
 isPtr:=am ⟨172,by kernel_rfl⟩
def Pn:TI:={size:=some 1,agg:=some false,rs:=some (.one (.leaf (.ptr))),zero:=some (Value.pointer none),conc:=true,isPtr:=true}
theorem I_:aN Tryz.prog 83 Pn where
 zero:=ai (Value.pointer none) rfl (by kernel_rfl)
 conc:=am ⟨aD (Tryz.prog.underlying 83),by kernel_rfl,aq (by kernel_rfl)⟩
 isPtr:=am ⟨165,by kernel_rfl⟩
def Nc:TI:={rs:=some (.tup [.leaf (.ptr),.leaf (.ptr),.leaf (.ptr),.agg [.slice,.slice,.slice,.slice,.slice]])}
theorem Iv:aN Tryz.prog 84 Nc where
def Nq:TI:={size:=some 1,agg:=some false,rs:=some (.one (.leaf (.slice))),zero:=some (Value.slice none 0 0),slc:=some (153,1),conc:=true,isSlc:=true}
theorem IP:aN Tryz.prog 86 Nq where
 zero:=ai (Value.slice none 0 0) rfl (by kernel_rfl)
 slc:=bn 153 1 rfl ⟨by kernel_rfl,by kernel_rfl⟩
 conc:=am ⟨aD (Tryz.prog.underlying 86),by kernel_rfl,aq (by kernel_rfl)⟩
 isSlc:=am ⟨153,by kernel_rfl⟩
def L_:TI:={size:=some 1,agg:=some true,rs:=some (.one (.agg [.slice])),zero:=some (Value.agg #[Value.slice none 0 0]),offs:=some [(0,0,false)],conc:=true}
theorem Id:aN Tryz.prog 88 L_ where
 agg:=ai (true) rfl (by kernel_rfl)
 zero:=ai (Value.agg #[Value.slice none 0 0]) rfl (by kernel_rfl)
 offs:=ai [(0,0,false)] rfl ⟨bh (Tryz.prog.underlying 88),by kernel_rfl,by kernel_rfl⟩
 conc:=am ⟨aD (Tryz.prog.underlying 88),by kernel_rfl,aq (by kernel_rfl)⟩
def Ng:TI:={size:=some 1,agg:=some false,rs:=some (.one (.leaf (.slice))),zero:=some (Value.slice none 0 0),slc:=some (5,1),conc:=true,isSlc:=true}
theorem Iq:aN Tryz.prog 97 Ng where
 zero:=ai (Value.slice none 0 0) rfl (by kernel_rfl)
 slc:=bn 5 1 rfl ⟨by kernel_rfl,by kernel_rfl⟩
 conc:=am ⟨aD (Tryz.prog.underlying 97),by kernel_rfl,aq (by kernel_rfl)⟩
 isSlc:=am ⟨5,by kernel_rfl⟩
def Pb:TI:={size:=some 1,agg:=some false,rs:=some (.one (.leaf (.slice))),zero:=some (Value.slice none 0 0),slc:=some (5,1),conc:=true,isSlc:=true}
theorem Je:aN Tryz.prog 98 Pb where
 zero:=ai (Value.slice none 0 0) rfl (by kernel_rfl)
 slc:=bn 5 1 rfl ⟨by kernel_rfl,by kernel_rfl⟩
 conc:=am ⟨aD (Tryz.prog.underlying 98),by kernel_rfl,aq (by kernel_rfl)⟩
 isSlc:=am ⟨5,by kernel_rfl⟩
def Kk:TI:={rs:=some (.tup [.leaf (.slice),.leaf (.int .i64)])}
theorem F4:aN Tryz.prog 102 Kk where
def K_:TI:={rs:=some (.tup [.agg [.slice],.leaf (.int .i64)])}
theorem FQ:aN Tryz.prog 104 K_ where
def JU:TI:={rs:=some (.tup [.leaf (.ptr),.leaf (.int .i64)])}
theorem HL:aN Tryz.prog 110 JU where
def Jz:TI:={rs:=some (.tup [.leaf (.ptr),.leaf (.int .i64)])}
theorem Gy:aN Tryz.prog 112 Jz where
def J':TI:={size:=some 2,agg:=some true,rs:=some (.one (.agg [.int .i64,.int .i64])),zero:=some (Value.agg #[Value.int .i64 0,Value.int .i64 0]),offs:=some [(0,0,false),(1,0,false)],eqs:=some [.i,.i],conc:=true}
theorem FG:aN Tryz.prog 118 J' where
 size:=ai (2) rfl (by kernel_rfl)
 agg:=ai (true) rfl (by kernel_rfl)
 zero:=ai (Value.agg #[Value.int .i64 0,Value.int .i64 0]) rfl (by kernel_rfl)
 offs:=ai [(0,0,false),(1,0,false)] rfl ⟨bh (Tryz.prog.underlying 118),by kernel_rfl,by kernel_rfl⟩
 conc:=am ⟨aD (Tryz.prog.underlying 118),by kernel_rfl,aq (by kernel_rfl)⟩
 eqs:=ai [.i,.i] rfl (by kernel_rfl)
def JM:TI:={rs:=some (.tup [.leaf (.ptr),.agg [.slice,.slice,.slice,.slice,.slice]])}
theorem GU:aN Tryz.prog 119 JM where
def Kf:TI:={rs:=some (.tup [.leaf (.int .i64),.leaf (.int .i64)])}
theorem Ha:aN Tryz.prog 121 Kf where
def K7:TI:={size:=some 1,agg:=some false,rs:=some (.one (.leaf (.ptr))),zero:=some (Value.pointer none),conc:=true,isPtr:=true}
theorem G1:aN Tryz.prog 124 K7 where
 zero:=ai (Value.pointer none) rfl (by kernel_rfl)
 conc:=am ⟨aD (Tryz.prog.underlying 124),by kernel_rfl,aq (by kernel_rfl)⟩
 isPtr:=am ⟨242,by kernel_rfl⟩
def Kt:TI:={size:=some 3,agg:=some true,rs:=some (.one (.agg [.ptr,.ptr,.ptr])),zero:=some (Value.agg #[Value.pointer none,Value.pointer none,Value.pointer none]),offs:=some [(0,0,false),(1,0,false),(2,0,false)],conc:=true}
theorem FK:aN Tryz.prog 126 Kt where
 size:=ai (3) rfl (by kernel_rfl)
 agg:=ai (true) rfl (by kernel_rfl)
 zero:=ai (Value.agg #[Value.pointer none,Value.pointer none,Value.pointer none]) rfl (by kernel_rfl)
 offs:=ai [(0,0,false),(1,0,false),(2,0,false)] rfl ⟨bh (Tryz.prog.underlying 126),by kernel_rfl,by kernel_rfl⟩
 conc:=am ⟨aD (Tryz.prog.underlying 126),by kernel_rfl,aq (by kernel_rfl)⟩
def Kr:TI:={size:=some 1,agg:=some false,rs:=some (.one (.leaf (.map))),zero:=some (Value.map none),elemSh:=some (.leaf (.int .i64)),conc:=true,isMap:=true}
theorem Hw:aN Tryz.prog 128 Kr where
 zero:=ai (Value.map none) rfl (by kernel_rfl)
 conc:=am ⟨aD (Tryz.prog.underlying 128),by kernel_rfl,aq (by kernel_rfl)⟩
 isMap:=am ⟨3,3,by kernel_rfl⟩
def Kn:TI:={size:=some 1,agg:=some false,rs:=some (.one (.leaf (.slice))),zero:=some (Value.slice none 0 0),slc:=some (130,1),conc:=true,isSlc:=true}
theorem FU:aN Tryz.prog 129 Kn where
 zero:=ai (Value.slice none 0 0) rfl (by kernel_rfl)
 slc:=bn 130 1 rfl ⟨by kernel_rfl,by kernel_rfl⟩
 conc:=am ⟨aD (Tryz.prog.underlying 129),by kernel_rfl,aq (by kernel_rfl)⟩
 isSlc:=am ⟨130,by kernel_rfl⟩
def KM:TI:={size:=some 1,agg:=some false,rs:=some (.one (.leaf (.slice))),zero:=some (Value.slice none 0 0),slc:=some (59,1),conc:=true,isSlc:=true}
theorem HJ:aN Tryz.prog 130 KM where
 zero:=ai (Value.slice none 0 0) rfl (by kernel_rfl)
 slc:=bn 59 1 rfl ⟨by kernel_rfl,by kernel_rfl⟩
 conc:=am ⟨aD (Tryz.prog.underlying 130),by kernel_rfl,aq (by kernel_rfl)⟩
 isSlc:=am ⟨59,by kernel_rfl⟩
def Kw:TI:={size:=some 4,agg:=some true,rs:=some (.one (.agg [.slice,.map,.slice,.slice])),zero:=some (Value.agg #[Value.slice none 0 0,Value.map none,Value.slice none 0 0,Value.slice none 0 0]),offs:=some [(0,0,false),(1,0,false),(2,0,false),(3,0,false)],conc:=true}
theorem Gu:aN Tryz.prog 132 Kw where
 size:=ai (4) rfl (by kernel_rfl)
 agg:=ai (true) rfl (by kernel_rfl)
 zero:=ai (Value.agg #[Value.slice none 0 0,Value.map none,Value.slice none 0 0,Value.slice none 0 0]) rfl (by kernel_rfl)
 offs:=ai [(0,0,false),(1,0,false),(2,0,false),(3,0,false)] rfl ⟨bh (Tryz.prog.underlying 132),by kernel_rfl,by kernel_rfl⟩
 conc:=am ⟨aD (Tryz.prog.underlying 132),by kernel_rfl,aq (by kernel_rfl)⟩
def K6:TI:={size:=some 1,agg:=some false,rs:=some (.one (.leaf (.any))),zero:=some (Value.nilFunc),conc:=true}
theorem Fs:aN Tryz.prog 133 K6 where
 zero:=ai (Value.nilFunc) rfl (by kernel_rfl)
 conc:=am ⟨aD (Tryz.prog.underlying 133),by kernel_rfl,aq (by kernel_rfl)⟩
def Kh:TI:={rs:=some (.tup [.leaf (.int .i64),.leaf (.str),.leaf (.bool)])}
theorem Gv:aN Tryz.prog 134 Kh where
def JV:TI:={rs:=some (.tup [.leaf (.ptr),.leaf (.int .i64),.leaf (.int .i64),.leaf (.int .i64)])}
theorem FO:aN Tryz.prog 140 JV where
def Ky:TI:={size:=some 1,agg:=some false,rs:=some (.one (.leaf (.ptr))),zero:=some (Value.pointer none),conc:=true,isPtr:=true}
theorem Hp:aN Tryz.prog 145 Ky where
 zero:=ai (Value.pointer none) rfl (by kernel_rfl)
 conc:=am ⟨aD (Tryz.prog.underlying 145),by kernel_rfl,aq (by kernel_rfl)⟩
 isPtr:=am ⟨249,by kernel_rfl⟩
def KE:TI:={size:=some 1,agg:=some false,rs:=some (.one (.leaf (.slice))),zero:=some (Value.slice none 0 0),slc:=some (28,1),conc:=true,isSlc:=true}
theorem FS:aN Tryz.prog 148 KE where
 zero:=ai (Value.slice none 0 0) rfl (by kernel_rfl)
 slc:=bn 28 1 rfl ⟨by kernel_rfl,by kernel_rfl⟩
 conc:=am ⟨aD (Tryz.prog.underlying 148),by kernel_rfl,aq (by kernel_rfl)⟩
 isSlc:=am ⟨28,by kernel_rfl⟩
def JB:TI:={size:=some 1,agg:=some false,rs:=some (.one (.leaf (.slice))),zero:=some (Value.slice none 0 0),slc:=some (4,1),conc:=true,isSlc:=true}
theorem GD:aN Tryz.prog 149 JB where
 zero:=ai (Value.slice none 0 0) rfl (by kernel_rfl)
 slc:=bn 4 1 rfl ⟨by kernel_rfl,by kernel_rfl⟩
 conc:=am ⟨aD (Tryz.prog.underlying 149),by kernel_rfl,aq (by kernel_rfl)⟩
 isSlc:=am ⟨4,by kernel_rfl⟩
def Lr:TI:={size:=some 1,agg:=some false,rs:=some (.one (.leaf (.int .u32))),zero:=some (Value.int .u32 0),intk:=some .u32,conc:=true}
theorem Ho:aN Tryz.prog 153 Lr where
 zero:=ai (Value.int .u32 0) rfl (by kernel_rfl)
 intk:=ai (IntKind.u32) rfl (by kernel_rfl)
 conc:=am ⟨aD (Tryz.prog.underlying 153),by kernel_rfl,aq (by kernel_rfl)⟩
def KC:TI:={size:=some 4,agg:=some true,rs:=some (.one (.agg [.int .u32,.int .i32,.int .u32,.slice])),zero:=some (Value.agg #[Value.int .u32 0,Value.int .i32 0,Value.int .u32 0,Value.slice none 0 0]),offs:=some [(0,2,true),(3,0,false)],conc:=true}
theorem G8:aN Tryz.prog 163 KC where
 size:=ai (4) rfl (by kernel_rfl)
 agg:=ai (true) rfl (by kernel_rfl)
 zero:=ai (Value.agg #[Value.int .u32 0,Value.int .i32 0,Value.int .u32 0,Value.slice none 0 0]) rfl (by kernel_rfl)
 offs:=ai [(0,2,true),(3,0,false)] rfl ⟨bh (Tryz.prog.underlying 163),by kernel_rfl,by kernel_rfl⟩
 conc:=am ⟨aD (Tryz.prog.underlying 163),by kernel_rfl,aq (by kernel_rfl)⟩
def Lq:TI:={size:=some 7,agg:=some true,rs:=some (.one (.agg [.ptr,.slice,.slice,.int .u32,.int .i32,.int .u32,.slice])),zero:=some (Value.agg #[Value.pointer none,Value.slice none 0 0,Value.slice none 0 0,Value.int .u32 0,Value.int .i32 0,Value.int .u32 0,Value.slice none 0 0]),offs:=some [(0,0,false),(1,0,false),(2,0,false),(3,3,true)],conc:=true}
theorem Gb:aN Tryz.prog 165 Lq where
 size:=ai (7) rfl (by kernel_rfl)
 agg:=ai (true) rfl (by kernel_rfl)
 zero:=ai (Value.agg #[Value.pointer none,Value.slice none 0 0,Value.slice none 0 0,Value.int .u32 0,Value.int .i32 0,Value.int .u32 0,Value.slice none 0 0]) rfl (by kernel_rfl)
 offs:=ai [(0,0,false),(1,0,false),(2,0,false),(3,3,true)] rfl ⟨bh (Tryz.prog.underlying 165),by kernel_rfl,by kernel_rfl⟩
 conc:=am ⟨aD (Tryz.prog.underlying 165),by kernel_rfl,aq (by kernel_rfl)⟩
def Lb:TI:={size:=some 1,agg:=some false,rs:=some (.one (.leaf (.slice))),zero:=some (Value.slice none 0 0),slc:=some (88,1),conc:=true,isSlc:=true}
theorem G6:aN Tryz.prog 166 Lb where
 zero:=ai (Value.slice none 0 0) rfl (by kernel_rfl)
 slc:=bn 88 1 rfl ⟨by kernel_rfl,by kernel_rfl⟩
 conc:=am ⟨aD (Tryz.prog.underlying 166),by kernel_rfl,aq (by kernel_rfl)⟩
 isSlc:=am ⟨88,by kernel_rfl⟩
def Jx:TI:={size:=some 1,agg:=some false,rs:=some (.one (.leaf (.slice))),zero:=some (Value.slice none 0 0),slc:=some (166,1),conc:=true,isSlc:=true}
theorem Gi:aN Tryz.prog 168 Jx where
 zero:=ai (Value.slice none 0 0) rfl (by kernel_rfl)
 slc:=bn 166 1 rfl ⟨by kernel_rfl,by kernel_rfl⟩
 conc:=am ⟨aD (Tryz.prog.underlying 168),by kernel_rfl,aq (by kernel_rfl)⟩
 isSlc:=am ⟨166,by kernel_rfl⟩
def JT:TI:={size:=some 4,agg:=some true,rs:=some (.one (.agg [.int .u32,.int .i32,.int .u32,.slice])),zero:=some (Value.agg #[Value.int .u32 0,Value.int .i32 0,Value.int .u32 0,Value.slice none 0 0]),offs:=some [(0,2,true),(3,0,false)],conc:=true}
theorem Fy:aN Tryz.prog 170 JT where
 size:=ai (4) rfl (by kernel_rfl)
 agg:=ai (true) rfl (by kernel_rfl)
 zero:=ai (Value.agg #[Value.int .u32 0,Value.int .i32 0,Value.int .u32 0,Value.slice none 0 0]) rfl (by kernel_rfl)
 offs:=ai [(0,2,true),(3,0,false)] rfl ⟨bh (Tryz.prog.underlying 170),by kernel_rfl,by kernel_rfl⟩
 conc:=am ⟨aD (Tryz.prog.underlying 170),by kernel_rfl,aq (by kernel_rfl)⟩
def J_:TI:={size:=some 7,agg:=some true,rs:=some (.one (.agg [.ptr,.ptr,.int .i64,.int .u32,.int .i32,.int .u32,.slice])),zero:=some (Value.agg #[Value.pointer none,Value.pointer none,Value.int .i64 0,Value.int .u32 0,Value.int .i32 0,Value.int .u32 0,Value.slice none 0 0]),offs:=some [(0,0,false),(1,0,false),(2,0,false),(3,3,true)],conc:=true}
theorem FA:aN Tryz.prog 172 J_ where
 size:=ai (7) rfl (by kernel_rfl)
 agg:=ai (true) rfl (by kernel_rfl)
 zero:=ai (Value.agg #[Value.pointer none,Value.pointer none,Value.int .i64 0,Value.int .u32 0,Value.int .i32 0,Value.int .u32 0,Value.slice none 0 0]) rfl (by kernel_rfl)
 offs:=ai [(0,0,false),(1,0,false),(2,0,false),(3,3,true)] rfl ⟨bh (Tryz.prog.underlying 172),by kernel_rfl,by kernel_rfl⟩
 conc:=am ⟨aD (Tryz.prog.underlying 172),by kernel_rfl,aq (by kernel_rfl)⟩
def Kx:TI:={rs:=some (.tup [.agg [.slice],.leaf (.int .u32)])}
theorem GL:aN Tryz.prog 176 Kx where
def Lh:TI:={size:=some 1,agg:=some false,rs:=some (.one (.leaf (.slice))),zero:=some (Value.slice none 0 0),slc:=some (98,1),conc:=true,isSlc:=true}
theorem F9:aN Tryz.prog 180 Lh where
 zero:=ai (Value.slice none 0 0) rfl (by kernel_rfl)
 slc:=bn 98 1 rfl ⟨by kernel_rfl,by kernel_rfl⟩
 conc:=am ⟨aD (Tryz.prog.underlying 180),by kernel_rfl,aq (by kernel_rfl)⟩
 isSlc:=am ⟨98,by kernel_rfl⟩
def Lk:TI:={rs:=some (.tup [.agg [.slice],.leaf (.bool)])}
theorem Gg:aN Tryz.prog 185 Lk where
def Li:TI:={size:=some 1,agg:=some false,rs:=some (.one (.leaf (.any))),zero:=some (Value.nilFunc),conc:=true}
theorem Gs:aN Tryz.prog 187 Li where
 zero:=ai (Value.nilFunc) rfl (by kernel_rfl)
 conc:=am ⟨aD (Tryz.prog.underlying 187),by kernel_rfl,aq (by kernel_rfl)⟩
def JW:TI:={rs:=some (.tup [.leaf (.slice),.leaf (.map)])}
theorem HK:aN Tryz.prog 192 JW where
def Kz:TI:={size:=some 1,agg:=some false,rs:=some (.one (.leaf (.ptr))),zero:=some (Value.pointer none),conc:=true,isPtr:=true}
theorem Gd:aN Tryz.prog 199 Kz where
 zero:=ai (Value.pointer none) rfl (by kernel_rfl)
 conc:=am ⟨aD (Tryz.prog.underlying 199),by kernel_rfl,aq (by kernel_rfl)⟩
 isPtr:=am ⟨270,by kernel_rfl⟩
def JN:TI:={rs:=some (.tup [.leaf (.str),.leaf (.bool)])}
theorem Gf:aN Tryz.prog 203 JN where
def KV:TI:={size:=some 1,agg:=some false,rs:=some (.one (.leaf (.any))),zero:=some (Value.nilFunc),conc:=true}
theorem GK:aN Tryz.prog 208 KV where
 zero:=ai (Value.nilFunc) rfl (by kernel_rfl)
 conc:=am ⟨aD (Tryz.prog.underlying 208),by kernel_rfl,aq (by kernel_rfl)⟩
def KT:TI:={size:=some 1,agg:=some false,rs:=some (.one (.leaf (.any))),zero:=some (Value.nilFunc),conc:=true}
theorem GZ:aN Tryz.prog 210 KT where
 zero:=ai (Value.nilFunc) rfl (by kernel_rfl)
 conc:=am ⟨aD (Tryz.prog.underlying 210),by kernel_rfl,aq (by kernel_rfl)⟩
def Ko:TI:={size:=some 1,agg:=some false,rs:=some (.one (.leaf (.any))),zero:=some (Value.nilFunc),conc:=true}
theorem GT:aN Tryz.prog 212 Ko where
 zero:=ai (Value.nilFunc) rfl (by kernel_rfl)
 conc:=am ⟨aD (Tryz.prog.underlying 212),by kernel_rfl,aq (by kernel_rfl)⟩
def KX:TI:={size:=some 3,agg:=some true,rs:=some (.one (.agg [.int .i64,.int .i64,.int .i64])),zero:=some (Value.agg #[Value.int .i64 0,Value.int .i64 0,Value.int .i64 0]),offs:=some [(0,0,false),(1,0,false),(2,0,false)],eqs:=some [.i,.i,.i],conc:=true}
theorem F8:aN Tryz.prog 215 KX where
 size:=ai (3) rfl (by kernel_rfl)
 agg:=ai (true) rfl (by kernel_rfl)
 zero:=ai (Value.agg #[Value.int .i64 0,Value.int .i64 0,Value.int .i64 0]) rfl (by kernel_rfl)
 offs:=ai [(0,0,false),(1,0,false),(2,0,false)] rfl ⟨bh (Tryz.prog.underlying 215),by kernel_rfl,by kernel_rfl⟩
 conc:=am ⟨aD (Tryz.prog.underlying 215),by kernel_rfl,aq (by kernel_rfl)⟩
 eqs:=ai [.i,.i,.i] rfl (by kernel_rfl)
def J0:TI:={size:=some 1,agg:=some false,rs:=some (.one (.leaf (.any))),zero:=some (Value.nilFunc),conc:=true}
theorem FP:aN Tryz.prog 216 J0 where
 zero:=ai (Value.nilFunc) rfl (by kernel_rfl)
 conc:=am ⟨aD (Tryz.prog.underlying 216),by kernel_rfl,aq (by kernel_rfl)⟩
def KS:TI:={size:=some 2,agg:=some true,rs:=some (.one (.agg [.int .i64,.int .i64])),zero:=some (Value.agg #[Value.int .i64 0,Value.int .i64 0]),offs:=some [(0,0,false),(1,0,false)],eqs:=some [.i,.i],conc:=true}
theorem FF:aN Tryz.prog 218 KS where
 size:=ai (2) rfl (by kernel_rfl)
 agg:=ai (true) rfl (by kernel_rfl)
 zero:=ai (Value.agg #[Value.int .i64 0,Value.int .i64 0]) rfl (by kernel_rfl)
 offs:=ai [(0,0,false),(1,0,false)] rfl ⟨bh (Tryz.prog.underlying 218),by kernel_rfl,by kernel_rfl⟩
 conc:=am ⟨aD (Tryz.prog.underlying 218),by kernel_rfl,aq (by kernel_rfl)⟩
 eqs:=ai [.i,.i] rfl (by kernel_rfl)
def Ls:TI:={size:=some 1,agg:=some false,rs:=some (.one (.leaf (.any))),zero:=some (Value.nilFunc),conc:=true}
theorem F':aN Tryz.prog 219 Ls where
 zero:=ai (Value.nilFunc) rfl (by kernel_rfl)
 conc:=am ⟨aD (Tryz.prog.underlying 219),by kernel_rfl,aq (by kernel_rfl)⟩
def JA:TI:={rs:=some (.tup [.leaf (.ptr),.leaf (.int .i64),.leaf (.int .i64)])}
theorem Gw:aN Tryz.prog 220 JA where
def Le:TI:={rs:=some (.tup [.leaf (.ptr),.leaf (.int .i64),.leaf (.int .i64)])}
theorem GC:aN Tryz.prog 222 Le where
def Lc:TI:={size:=some 1,agg:=some false,rs:=some (.one (.leaf (.ptr))),zero:=some (Value.pointer none),conc:=true,isPtr:=true}
theorem Fv:aN Tryz.prog 225 Lc where
 zero:=ai (Value.pointer none) rfl (by kernel_rfl)
 conc:=am ⟨aD (Tryz.prog.underlying 225),by kernel_rfl,aq (by kernel_rfl)⟩
 isPtr:=am ⟨293,by kernel_rfl⟩
def JQ:TI:={rs:=some (.tup [.leaf (.ptr),.leaf (.int .i64)])}
theorem GR:aN Tryz.prog 226 JQ where
def JC:TI:={size:=some 9,agg:=some true,rs:=some (.one (.agg [.bool,.slice,.slice,.slice,.slice,.slice,.ptr,.ptr,.ptr])),zero:=some (Value.agg #[Value.bool false,Value.slice none 0 0,Value.slice none 0 0,Value.slice none 0 0,Value.slice none 0 0,Value.slice none 0 0,Value.pointer none,Value.pointer none,Value.pointer none]),offs:=some [(0,5,true),(6,0,false),(7,0,false),(8,0,false)],conc:=true}
theorem Gt:aN Tryz.prog 230 JC where
 size:=ai (9) rfl (by kernel_rfl)
 agg:=ai (true) rfl (by kernel_rfl)
 zero:=ai (Value.agg #[Value.bool false,Value.slice none 0 0,Value.slice none 0 0,Value.slice none 0 0,Value.slice none 0 0,Value.slice none 0 0,Value.pointer none,Value.pointer none,Value.pointer none]) rfl (by kernel_rfl)
 offs:=ai [(0,5,true),(6,0,false),(7,0,false),(8,0,false)] rfl ⟨bh (Tryz.prog.underlying 230),by kernel_rfl,by kernel_rfl⟩
 conc:=am ⟨aD (Tryz.prog.underlying 230),by kernel_rfl,aq (by kernel_rfl)⟩
def KN:TI:={size:=some 4,agg:=some true,rs:=some (.one (.agg [.int .u32,.int .i32,.int .u32,.slice])),zero:=some (Value.agg #[Value.int .u32 0,Value.int .i32 0,Value.int .u32 0,Value.slice none 0 0]),offs:=some [(0,2,true),(3,0,false)],conc:=true}
theorem FC:aN Tryz.prog 232 KN where
 size:=ai (4) rfl (by kernel_rfl)
 agg:=ai (true) rfl (by kernel_rfl)
 zero:=ai (Value.agg #[Value.int .u32 0,Value.int .i32 0,Value.int .u32 0,Value.slice none 0 0]) rfl (by kernel_rfl)
 offs:=ai [(0,2,true),(3,0,false)] rfl ⟨bh (Tryz.prog.underlying 232),by kernel_rfl,by kernel_rfl⟩
 conc:=am ⟨aD (Tryz.prog.underlying 232),by kernel_rfl,aq (by kernel_rfl)⟩
def Kj:TI:={size:=some 14,agg:=some true,rs:=some (.one (.agg [.bool,.slice,.slice,.slice,.slice,.slice,.ptr,.ptr,.ptr,.int .u32,.int .i32,.int .u32,.slice,.int .i64])),zero:=some (Value.agg #[Value.bool false,Value.slice none 0 0,Value.slice none 0 0,Value.slice none 0 0,Value.slice none 0 0,Value.slice none 0 0,Value.pointer none,Value.pointer none,Value.pointer none,Value.int .u32 0,Value.int .i32 0,Value.int .u32 0,Value.slice none 0 0,Value.int .i64 0]),offs:=some [(0,8,true),(9,3,true),(13,0,true)],conc:=true}
theorem Hf:aN Tryz.prog 237 Kj where
 size:=ai (14) rfl (by kernel_rfl)
 agg:=ai (true) rfl (by kernel_rfl)
 zero:=ai (Value.agg #[Value.bool false,Value.slice none 0 0,Value.slice none 0 0,Value.slice none 0 0,Value.slice none 0 0,Value.slice none 0 0,Value.pointer none,Value.pointer none,Value.pointer none,Value.int .u32 0,Value.int .i32 0,Value.int .u32 0,Value.slice none 0 0,Value.int .i64 0]) rfl (by kernel_rfl)
 offs:=ai [(0,8,true),(9,3,true),(13,0,true)] rfl ⟨bh (Tryz.prog.underlying 237),by kernel_rfl,by kernel_rfl⟩
 conc:=am ⟨aD (Tryz.prog.underlying 237),by kernel_rfl,aq (by kernel_rfl)⟩
def J8:TI:={size:=some 1,agg:=some false,rs:=some (.one (.leaf (.ptr))),zero:=some (Value.pointer none),conc:=true,isPtr:=true}
theorem Hi:aN Tryz.prog 240 J8 where
 zero:=ai (Value.pointer none) rfl (by kernel_rfl)
 conc:=am ⟨aD (Tryz.prog.underlying 240),by kernel_rfl,aq (by kernel_rfl)⟩
 isPtr:=am ⟨275,by kernel_rfl⟩
def JX:TI:={size:=some 2,agg:=some true,rs:=some (.one (.agg [.ptr,.int .i64])),zero:=some (Value.agg #[Value.pointer none,Value.int .i64 0]),offs:=some [(0,0,false),(1,0,false)],conc:=true}
theorem Hq:aN Tryz.prog 242 JX where
 size:=ai (2) rfl (by kernel_rfl)
 agg:=ai (true) rfl (by kernel_rfl)
 zero:=ai (Value.agg #[Value.pointer none,Value.int .i64 0]) rfl (by kernel_rfl)
 offs:=ai [(0,0,false),(1,0,false)] rfl ⟨bh (Tryz.prog.underlying 242),by kernel_rfl,by kernel_rfl⟩
 conc:=am ⟨aD (Tryz.prog.underlying 242),by kernel_rfl,aq (by kernel_rfl)⟩
def JR:TI:={size:=some 1,agg:=some false,rs:=some (.one (.leaf (.slice))),zero:=some (Value.slice none 0 0),slc:=some (278,3),conc:=true,isSlc:=true}
theorem F5:aN Tryz.prog 245 JR where
 zero:=ai (Value.slice none 0 0) rfl (by kernel_rfl)
 slc:=bn 278 3 rfl ⟨by kernel_rfl,by kernel_rfl⟩
 conc:=am ⟨aD (Tryz.prog.underlying 245),by kernel_rfl,aq (by kernel_rfl)⟩
 isSlc:=am ⟨278,by kernel_rfl⟩
def K5:TI:={size:=some 1,agg:=some false,rs:=some (.one (.leaf (.map))),zero:=some (Value.map none),elemSh:=some (.leaf (.int .i64)),conc:=true,isMap:=true}
theorem FE:aN Tryz.prog 246 K5 where
 zero:=ai (Value.map none) rfl (by kernel_rfl)
 conc:=am ⟨aD (Tryz.prog.underlying 246),by kernel_rfl,aq (by kernel_rfl)⟩
 isMap:=am ⟨9,3,by kernel_rfl⟩
def KF:TI:={size:=some 1,agg:=some false,rs:=some (.one (.leaf (.map))),zero:=some (Value.map none),elemSh:=some (.leaf (.int .i64)),conc:=true,isMap:=true}
theorem HW:aN Tryz.prog 247 KF where
 zero:=ai (Value.map none) rfl (by kernel_rfl)
 conc:=am ⟨aD (Tryz.prog.underlying 247),by kernel_rfl,aq (by kernel_rfl)⟩
 isMap:=am ⟨118,3,by kernel_rfl⟩
def J4:TI:={size:=some 4,agg:=some true,rs:=some (.one (.agg [.slice,.map,.map,.int .i64])),zero:=some (Value.agg #[Value.slice none 0 0,Value.map none,Value.map none,Value.int .i64 0]),offs:=some [(0,0,false),(1,0,false),(2,0,false),(3,0,false)],conc:=true}
theorem HN:aN Tryz.prog 249 J4 where
 size:=ai (4) rfl (by kernel_rfl)
 agg:=ai (true) rfl (by kernel_rfl)
 zero:=ai (Value.agg #[Value.slice none 0 0,Value.map none,Value.map none,Value.int .i64 0]) rfl (by kernel_rfl)
 offs:=ai [(0,0,false),(1,0,false),(2,0,false),(3,0,false)] rfl ⟨bh (Tryz.prog.underlying 249),by kernel_rfl,by kernel_rfl⟩
 conc:=am ⟨aD (Tryz.prog.underlying 249),by kernel_rfl,aq (by kernel_rfl)⟩
def JH:TI:={size:=some 1,agg:=some false,rs:=some (.one (.leaf (.slice))),zero:=some (Value.slice none 0 0),slc:=some (253,1),conc:=true,isSlc:=true}
theorem FZ:aN Tryz.prog 252 JH where
 zero:=ai (Value.slice none 0 0) rfl (by kernel_rfl)
 slc:=bn 253 1 rfl ⟨by kernel_rfl,by kernel_rfl⟩
 conc:=am ⟨aD (Tryz.prog.underlying 252),by kernel_rfl,aq (by kernel_rfl)⟩
 isSlc:=am ⟨253,by kernel_rfl⟩
def Ks:TI:={size:=some 1,agg:=some false,rs:=some (.one (.leaf (.map))),zero:=some (Value.map none),elemSh:=some (.leaf (.int .u32)),conc:=true,isMap:=true}
theorem F_:aN Tryz.prog 253 Ks where
 zero:=ai (Value.map none) rfl (by kernel_rfl)
 conc:=am ⟨aD (Tryz.prog.underlying 253),by kernel_rfl,aq (by kernel_rfl)⟩
 isMap:=am ⟨3,153,by kernel_rfl⟩
def Kv:TI:={rs:=some (.tup [.leaf (.int .u64),.leaf (.int .u64)])}
theorem HX:aN Tryz.prog 259 Kv where
def K1:TI:={rs:=some (.tup [.leaf (.int .i64),.leaf (.int .i64)])}
theorem Hk:aN Tryz.prog 263 K1 where
def KR:TI:={rs:=some (.tup [.agg [.slice,.slice,.slice,.slice,.slice],.leaf (.int .i64),.leaf (.int .i64),.leaf (.int .i64)])}
theorem GX:aN Tryz.prog 265 KR where
def Ll:TI:={size:=some 256,agg:=some true,zero:=some (Value.agg (List.toArray (List.replicate 256 (Value.bool false)))),arr:=some (256,1),conc:=true}
theorem G3:aN Tryz.prog 268 Ll where
 size:=ai (256) rfl (by kernel_rfl)
 agg:=ai (true) rfl (by kernel_rfl)
 zero:=ai (Value.agg (List.toArray (List.replicate 256 (Value.bool false)))) rfl (by kernel_rfl)
 arr:=bn 256 1 rfl ⟨4,by kernel_rfl,by kernel_rfl⟩
 conc:=am ⟨aD (Tryz.prog.underlying 268),by kernel_rfl,aq (by kernel_rfl)⟩
def Lg:TI:={size:=some 260,agg:=some true,zero:=some (Value.agg (List.toArray ([Value.slice none 0 0,Value.map none,Value.map none]++List.replicate 256 (Value.bool false)++ [Value.int .i64 0]))),offs:=some [(0,0,false),(1,0,false),(2,0,false),(3,255,true),(259,0,false)],conc:=true}
theorem HY:aN Tryz.prog 270 Lg where
 size:=ai (260) rfl (by kernel_rfl)
 agg:=ai (true) rfl (by kernel_rfl)
 zero:=ai (Value.agg (List.toArray ([Value.slice none 0 0,Value.map none,Value.map none]++List.replicate 256 (Value.bool false)++ [Value.int .i64 0]))) rfl (by kernel_rfl)
 offs:=ai [(0,0,false),(1,0,false),(2,0,false),(3,255,true),(259,0,false)] rfl ⟨bh (Tryz.prog.underlying 270),by kernel_rfl,by kernel_rfl⟩
 conc:=am ⟨aD (Tryz.prog.underlying 270),by kernel_rfl,aq (by kernel_rfl)⟩
def KY:TI:={size:=some 1,agg:=some false,rs:=some (.one (.leaf (.map))),zero:=some (Value.map none),elemSh:=some (.leaf (.ptr)),conc:=true,isMap:=true}
theorem G_:aN Tryz.prog 273 KY where
 zero:=ai (Value.map none) rfl (by kernel_rfl)
 conc:=am ⟨aD (Tryz.prog.underlying 273),by kernel_rfl,aq (by kernel_rfl)⟩
 isMap:=am ⟨5,240,by kernel_rfl⟩
def Ka:TI:={size:=some 2,agg:=some true,rs:=some (.one (.agg [.map,.int .i64])),zero:=some (Value.agg #[Value.map none,Value.int .i64 0]),offs:=some [(0,0,false),(1,0,false)],conc:=true}
theorem Hx:aN Tryz.prog 275 Ka where
 size:=ai (2) rfl (by kernel_rfl)
 agg:=ai (true) rfl (by kernel_rfl)
 zero:=ai (Value.agg #[Value.map none,Value.int .i64 0]) rfl (by kernel_rfl)
 offs:=ai [(0,0,false),(1,0,false)] rfl ⟨bh (Tryz.prog.underlying 275),by kernel_rfl,by kernel_rfl⟩
 conc:=am ⟨aD (Tryz.prog.underlying 275),by kernel_rfl,aq (by kernel_rfl)⟩
def KD:TI:={size:=some 3,agg:=some true,rs:=some (.one (.agg [.str,.int .i64,.int .i64])),zero:=some (Value.agg #[Value.string ⟨#[]⟩,Value.int .i64 0,Value.int .i64 0]),offs:=some [(0,0,false),(1,1,true)],conc:=true}
theorem Ge:aN Tryz.prog 278 KD where
 size:=ai (3) rfl (by kernel_rfl)
 agg:=ai (true) rfl (by kernel_rfl)
 zero:=ai (Value.agg #[Value.string ⟨#[]⟩,Value.int .i64 0,Value.int .i64 0]) rfl (by kernel_rfl)
 offs:=ai [(0,0,false),(1,1,true)] rfl ⟨bh (Tryz.prog.underlying 278),by kernel_rfl,by kernel_rfl⟩
 conc:=am ⟨aD (Tryz.prog.underlying 278),by kernel_rfl,aq (by kernel_rfl)⟩
def Lo:TI:={size:=some 256,agg:=some true,zero:=some (Value.agg (List.toArray (List.replicate 256 (Value.int .i64 0)))),arr:=some (256,1),conc:=true}
theorem H5:aN Tryz.prog 289 Lo where
 size:=ai (256) rfl (by kernel_rfl)
 agg:=ai (true) rfl (by kernel_rfl)
 zero:=ai (Value.agg (List.toArray (List.replicate 256 (Value.int .i64 0)))) rfl (by kernel_rfl)
 arr:=bn 256 1 rfl ⟨3,by kernel_rfl,by kernel_rfl⟩
 conc:=am ⟨aD (Tryz.prog.underlying 289),by kernel_rfl,aq (by kernel_rfl)⟩
def Kl:TI:={size:=some 16,agg:=some true,rs:=some (.one (.agg [.bool,.bool,.bool,.bool,.bool,.bool,.bool,.bool,.bool,.bool,.bool,.bool,.bool,.bool,.bool,.bool])),zero:=some (Value.agg #[Value.bool false,Value.bool false,Value.bool false,Value.bool false,Value.bool false,Value.bool false,Value.bool false,Value.bool false,Value.bool false,Value.bool false,Value.bool false,Value.bool false,Value.bool false,Value.bool false,Value.bool false,Value.bool false]),arr:=some (16,1),conc:=true}
theorem GV:aN Tryz.prog 290 Kl where
 size:=ai (16) rfl (by kernel_rfl)
 agg:=ai (true) rfl (by kernel_rfl)
 zero:=ai (Value.agg #[Value.bool false,Value.bool false,Value.bool false,Value.bool false,Value.bool false,Value.bool false,Value.bool false,Value.bool false,Value.bool false,Value.bool false,Value.bool false,Value.bool false,Value.bool false,Value.bool false,Value.bool false,Value.bool false]) rfl (by kernel_rfl)
 arr:=bn 16 1 rfl ⟨4,by kernel_rfl,by kernel_rfl⟩
 conc:=am ⟨aD (Tryz.prog.underlying 290),by kernel_rfl,aq (by kernel_rfl)⟩
def K4:TI:={size:=some 256,agg:=some true,zero:=some (Value.agg (List.toArray (List.replicate 256 (Value.bool false)))),arr:=some (16,16),conc:=true}
theorem FB:aN Tryz.prog 291 K4 where
 size:=ai (256) rfl (by kernel_rfl)
 agg:=ai (true) rfl (by kernel_rfl)
 zero:=ai (Value.agg (List.toArray (List.replicate 256 (Value.bool false)))) rfl (by kernel_rfl)
 arr:=bn 16 16 rfl ⟨290,by kernel_rfl,by kernel_rfl⟩
 conc:=am ⟨aD (Tryz.prog.underlying 291),by kernel_rfl,aq (by kernel_rfl)⟩
def JG:TI:={size:=some 512,agg:=some true,zero:=some (Value.agg (List.toArray (List.replicate 256 (Value.int .i64 0)++List.replicate 256 (Value.bool false)))),offs:=some [(0,255,true),(256,255,true)],conc:=true}
theorem H0:aN Tryz.prog 293 JG where
 size:=ai (512) rfl (by kernel_rfl)
 agg:=ai (true) rfl (by kernel_rfl)
 zero:=ai (Value.agg (List.toArray (List.replicate 256 (Value.int .i64 0)++List.replicate 256 (Value.bool false)))) rfl (by kernel_rfl)
 offs:=ai [(0,255,true),(256,255,true)] rfl ⟨bh (Tryz.prog.underlying 293),by kernel_rfl,by kernel_rfl⟩
 conc:=am ⟨aD (Tryz.prog.underlying 293),by kernel_rfl,aq (by kernel_rfl)⟩
def KG:TI:={rs:=some (.tup [.leaf (.ptr),.leaf (.bool)])}
theorem Hd:aN Tryz.prog 306 KG where
def K0:TI:={rs:=some (.tup [.leaf (.int .u64),.leaf (.int .u64)])}
theorem Gk:aN Tryz.prog 313 K0 where
def JD:TI:={rs:=some (.tup [.leaf (.slice),.leaf (.int .i64)])}
theorem GE:aN Tryz.prog 315 JD where
def KA:TI:={size:=some 1,agg:=some false,rs:=some (.one (.leaf (.any))),zero:=some (Value.nilFunc),conc:=true}
theorem Hy:aN Tryz.prog 319 KA where
 zero:=ai (Value.nilFunc) rfl (by kernel_rfl)
 conc:=am ⟨aD (Tryz.prog.underlying 319),by kernel_rfl,aq (by kernel_rfl)⟩
def Ln:TI:={size:=some 1,agg:=some false,rs:=some (.one (.leaf (.int .u16))),zero:=some (Value.int .u16 0),intk:=some .u16,conc:=true}
theorem Gm:aN Tryz.prog 321 Ln where
 zero:=ai (Value.int .u16 0) rfl (by kernel_rfl)
 intk:=ai (IntKind.u16) rfl (by kernel_rfl)
 conc:=am ⟨aD (Tryz.prog.underlying 321),by kernel_rfl,aq (by kernel_rfl)⟩
def Lj:TI:={rs:=some (.tup [.agg [.slice,.slice],.leaf (.int .i64)])}
theorem Hl:aN Tryz.prog 322 Lj where
def Kq:TI:={rs:=some (.tup [.agg [.slice,.slice],.leaf (.int .i64),.leaf (.int .i64)])}
theorem GM:aN Tryz.prog 324 Kq where
def K9:TI:={size:=some 1,agg:=some false,rs:=some (.one (.leaf (.int .i64))),zero:=some (Value.int .i64 0),intk:=some .i64,conc:=true}
theorem H2:aN Tryz.prog 327 K9 where
 zero:=ai (Value.int .i64 0) rfl (by kernel_rfl)
 intk:=ai (IntKind.i64) rfl (by kernel_rfl)
 conc:=am ⟨aD (Tryz.prog.underlying 327),by kernel_rfl,aq (by kernel_rfl)⟩
def Ke:TI:={rs:=some (.tup [.leaf (.int .i64),.leaf (.int .i64)])}
theorem F7:aN Tryz.prog 328 Ke where
def Kc:TI:={size:=some 1,agg:=some false,rs:=some (.one (.leaf (.any))),zero:=some (Value.nilFunc),conc:=true}
theorem Fz:aN Tryz.prog 335 Kc where
 zero:=ai (Value.nilFunc) rfl (by kernel_rfl)
 conc:=am ⟨aD (Tryz.prog.underlying 335),by kernel_rfl,aq (by kernel_rfl)⟩
def JK:TI:={rs:=some (.tup [.agg [.int .i64,.int .i64],.leaf (.bool)])}
theorem HB:aN Tryz.prog 340 JK where
def Lm:TI:={size:=some 1,agg:=some false,rs:=some (.one (.leaf (.ptr))),zero:=some (Value.pointer none),conc:=true,isPtr:=true}
theorem HH:aN Tryz.prog 345 Lm where
 zero:=ai (Value.pointer none) rfl (by kernel_rfl)
 conc:=am ⟨aD (Tryz.prog.underlying 345),by kernel_rfl,aq (by kernel_rfl)⟩
 isPtr:=am ⟨365,by kernel_rfl⟩
def JI:TI:={size:=some 1,agg:=some false,rs:=some (.one (.leaf (.map))),zero:=some (Value.map none),elemSh:=some (.leaf (.int .i64)),conc:=true,isMap:=true}
theorem HS:aN Tryz.prog 350 JI where
 zero:=ai (Value.map none) rfl (by kernel_rfl)
 conc:=am ⟨aD (Tryz.prog.underlying 350),by kernel_rfl,aq (by kernel_rfl)⟩
 isMap:=am ⟨4,3,by kernel_rfl⟩
def K3:TI:={size:=some 1,agg:=some false,rs:=some (.one (.leaf (.ptr))),zero:=some (Value.pointer none),conc:=true,isPtr:=true}
theorem HO:aN Tryz.prog 358 K3 where
 zero:=ai (Value.pointer none) rfl (by kernel_rfl)
 conc:=am ⟨aD (Tryz.prog.underlying 358),by kernel_rfl,aq (by kernel_rfl)⟩
 isPtr:=am ⟨3,by kernel_rfl⟩
def KP:TI:={size:=some 1,agg:=some false,rs:=some (.one (.leaf (.ptr))),zero:=some (Value.pointer none),conc:=true,isPtr:=true}
theorem Gq:aN Tryz.prog 360 KP where
 zero:=ai (Value.pointer none) rfl (by kernel_rfl)
 conc:=am ⟨aD (Tryz.prog.underlying 360),by kernel_rfl,aq (by kernel_rfl)⟩
 isPtr:=am ⟨381,by kernel_rfl⟩
def KH:TI:={size:=some 2,agg:=some true,rs:=some (.one (.agg [.int .i64,.int .i64])),zero:=some (Value.agg #[Value.int .i64 0,Value.int .i64 0]),offs:=some [(0,1,true)],conc:=true}
theorem HV:aN Tryz.prog 363 KH where
 size:=ai (2) rfl (by kernel_rfl)
 agg:=ai (true) rfl (by kernel_rfl)
 zero:=ai (Value.agg #[Value.int .i64 0,Value.int .i64 0]) rfl (by kernel_rfl)
 offs:=ai [(0,1,true)] rfl ⟨bh (Tryz.prog.underlying 363),by kernel_rfl,by kernel_rfl⟩
 conc:=am ⟨aD (Tryz.prog.underlying 363),by kernel_rfl,aq (by kernel_rfl)⟩
def KO:TI:={size:=some 5,agg:=some true,rs:=some (.one (.agg [.int .i64,.int .i64,.ptr,.int .i64,.int .i64])),zero:=some (Value.agg #[Value.int .i64 0,Value.int .i64 0,Value.pointer none,Value.int .i64 0,Value.int .i64 0]),offs:=some [(0,1,true),(2,0,false),(3,0,false),(4,0,false)],conc:=true}
theorem FM:aN Tryz.prog 365 KO where
 size:=ai (5) rfl (by kernel_rfl)
 agg:=ai (true) rfl (by kernel_rfl)
 zero:=ai (Value.agg #[Value.int .i64 0,Value.int .i64 0,Value.pointer none,Value.int .i64 0,Value.int .i64 0]) rfl (by kernel_rfl)
 offs:=ai [(0,1,true),(2,0,false),(3,0,false),(4,0,false)] rfl ⟨bh (Tryz.prog.underlying 365),by kernel_rfl,by kernel_rfl⟩
 conc:=am ⟨aD (Tryz.prog.underlying 365),by kernel_rfl,aq (by kernel_rfl)⟩
def JJ:TI:={size:=some 1,agg:=some false,rs:=some (.one (.leaf (.ptr))),zero:=some (Value.pointer none),conc:=true,isPtr:=true}
theorem HF:aN Tryz.prog 375 JJ where
 zero:=ai (Value.pointer none) rfl (by kernel_rfl)
 conc:=am ⟨aD (Tryz.prog.underlying 375),by kernel_rfl,aq (by kernel_rfl)⟩
 isPtr:=am ⟨393,by kernel_rfl⟩
def JY:TI:={size:=some 3,agg:=some true,rs:=some (.one (.agg [.int .i64,.int .i64,.int .i64])),zero:=some (Value.agg #[Value.int .i64 0,Value.int .i64 0,Value.int .i64 0]),offs:=some [(0,0,false),(1,1,true)],conc:=true}
theorem HT:aN Tryz.prog 378 JY where
 size:=ai (3) rfl (by kernel_rfl)
 agg:=ai (true) rfl (by kernel_rfl)
 zero:=ai (Value.agg #[Value.int .i64 0,Value.int .i64 0,Value.int .i64 0]) rfl (by kernel_rfl)
 offs:=ai [(0,0,false),(1,1,true)] rfl ⟨bh (Tryz.prog.underlying 378),by kernel_rfl,by kernel_rfl⟩
 conc:=am ⟨aD (Tryz.prog.underlying 378),by kernel_rfl,aq (by kernel_rfl)⟩
def K8:TI:={size:=some 1,agg:=some false,rs:=some (.one (.leaf (.slice))),zero:=some (Value.slice none 0 0),slc:=some (383,3),conc:=true,isSlc:=true}
theorem HQ:aN Tryz.prog 379 K8 where
 zero:=ai (Value.slice none 0 0) rfl (by kernel_rfl)
 slc:=bn 383 3 rfl ⟨by kernel_rfl,by kernel_rfl⟩
 conc:=am ⟨aD (Tryz.prog.underlying 379),by kernel_rfl,aq (by kernel_rfl)⟩
 isSlc:=am ⟨383,by kernel_rfl⟩
def K2:TI:={size:=some 5,agg:=some true,rs:=some (.one (.agg [.ptr,.slice,.ptr,.int .i64,.int .i64])),zero:=some (Value.agg #[Value.pointer none,Value.slice none 0 0,Value.pointer none,Value.int .i64 0,Value.int .i64 0]),offs:=some [(0,0,false),(1,0,false),(2,0,false),(3,0,false),(4,0,false)],conc:=true}
theorem Fq:aN Tryz.prog 381 K2 where
 size:=ai (5) rfl (by kernel_rfl)
 agg:=ai (true) rfl (by kernel_rfl)
 zero:=ai (Value.agg #[Value.pointer none,Value.slice none 0 0,Value.pointer none,Value.int .i64 0,Value.int .i64 0]) rfl (by kernel_rfl)
 offs:=ai [(0,0,false),(1,0,false),(2,0,false),(3,0,false),(4,0,false)] rfl ⟨bh (Tryz.prog.underlying 381),by kernel_rfl,by kernel_rfl⟩
 conc:=am ⟨aD (Tryz.prog.underlying 381),by kernel_rfl,aq (by kernel_rfl)⟩
def Ld:TI:={size:=some 3,agg:=some true,rs:=some (.one (.agg [.int .i64,.int .i64,.int .i64])),zero:=some (Value.agg #[Value.int .i64 0,Value.int .i64 0,Value.int .i64 0]),offs:=some [(0,0,false),(1,0,false),(2,0,false)],eqs:=some [.i,.i,.i],conc:=true}
theorem GW:aN Tryz.prog 383 Ld where
 size:=ai (3) rfl (by kernel_rfl)
 agg:=ai (true) rfl (by kernel_rfl)
 zero:=ai (Value.agg #[Value.int .i64 0,Value.int .i64 0,Value.int .i64 0]) rfl (by kernel_rfl)
 offs:=ai [(0,0,false),(1,0,false),(2,0,false)] rfl ⟨bh (Tryz.prog.underlying 383),by kernel_rfl,by kernel_rfl⟩
 conc:=am ⟨aD (Tryz.prog.underlying 383),by kernel_rfl,aq (by kernel_rfl)⟩
 eqs:=ai [.i,.i,.i] rfl (by kernel_rfl)
def Lf:TI:={rs:=some (.tup [.agg [.int .i64,.int .i64,.int .i64],.leaf (.int .i64),.leaf (.int .i64),.leaf (.bool)])}
theorem G2:aN Tryz.prog 384 Lf where
def Kg:TI:={size:=some 1,agg:=some false,rs:=some (.one (.leaf (.slice))),zero:=some (Value.slice none 0 0),slc:=some (399,6),conc:=true,isSlc:=true}
theorem GG:aN Tryz.prog 391 Kg where
 zero:=ai (Value.slice none 0 0) rfl (by kernel_rfl)
 slc:=bn 399 6 rfl ⟨by kernel_rfl,by kernel_rfl⟩
 conc:=am ⟨aD (Tryz.prog.underlying 391),by kernel_rfl,aq (by kernel_rfl)⟩
 isSlc:=am ⟨399,by kernel_rfl⟩
def KU:TI:={size:=some 2,agg:=some true,rs:=some (.one (.agg [.slice,.int .i64])),zero:=some (Value.agg #[Value.slice none 0 0,Value.int .i64 0]),offs:=some [(0,0,false),(1,0,false)],conc:=true}
theorem F0:aN Tryz.prog 393 KU where
 size:=ai (2) rfl (by kernel_rfl)
 agg:=ai (true) rfl (by kernel_rfl)
 zero:=ai (Value.agg #[Value.slice none 0 0,Value.int .i64 0]) rfl (by kernel_rfl)
 offs:=ai [(0,0,false),(1,0,false)] rfl ⟨bh (Tryz.prog.underlying 393),by kernel_rfl,by kernel_rfl⟩
 conc:=am ⟨aD (Tryz.prog.underlying 393),by kernel_rfl,aq (by kernel_rfl)⟩
def La:TI:={size:=some 3,agg:=some true,rs:=some (.one (.agg [.int .i64,.int .i64,.int .i64])),zero:=some (Value.agg #[Value.int .i64 0,Value.int .i64 0,Value.int .i64 0]),offs:=some [(0,0,false),(1,0,false),(2,0,false)],eqs:=some [.i,.i,.i],conc:=true}
theorem G0:aN Tryz.prog 397 La where
 size:=ai (3) rfl (by kernel_rfl)
 agg:=ai (true) rfl (by kernel_rfl)
 zero:=ai (Value.agg #[Value.int .i64 0,Value.int .i64 0,Value.int .i64 0]) rfl (by kernel_rfl)
 offs:=ai [(0,0,false),(1,0,false),(2,0,false)] rfl ⟨bh (Tryz.prog.underlying 397),by kernel_rfl,by kernel_rfl⟩
 conc:=am ⟨aD (Tryz.prog.underlying 397),by kernel_rfl,aq (by kernel_rfl)⟩
 eqs:=ai [.i,.i,.i] rfl (by kernel_rfl)
def Ki:TI:={size:=some 6,agg:=some true,rs:=some (.one (.agg [.int .i64,.int .i64,.int .i64,.int .i64,.int .i64,.int .i64])),zero:=some (Value.agg #[Value.int .i64 0,Value.int .i64 0,Value.int .i64 0,Value.int .i64 0,Value.int .i64 0,Value.int .i64 0]),offs:=some [(0,2,true),(3,2,true)],conc:=true}
theorem Gl:aN Tryz.prog 399 Ki where
 size:=ai (6) rfl (by kernel_rfl)
 agg:=ai (true) rfl (by kernel_rfl)
 zero:=ai (Value.agg #[Value.int .i64 0,Value.int .i64 0,Value.int .i64 0,Value.int .i64 0,Value.int .i64 0,Value.int .i64 0]) rfl (by kernel_rfl)
 offs:=ai [(0,2,true),(3,2,true)] rfl ⟨bh (Tryz.prog.underlying 399),by kernel_rfl,by kernel_rfl⟩
 conc:=am ⟨aD (Tryz.prog.underlying 399),by kernel_rfl,aq (by kernel_rfl)⟩
def JL:TI:={size:=some 2,agg:=some true,rs:=some (.one (.agg [.int .i64,.int .i64])),zero:=some (Value.agg #[Value.int .i64 0,Value.int .i64 0]),arr:=some (2,1),conc:=true}
theorem FX:aN Tryz.prog 400 JL where
 size:=ai (2) rfl (by kernel_rfl)
 agg:=ai (true) rfl (by kernel_rfl)
 zero:=ai (Value.agg #[Value.int .i64 0,Value.int .i64 0]) rfl (by kernel_rfl)
 arr:=bn 2 1 rfl ⟨3,by kernel_rfl,by kernel_rfl⟩
 conc:=am ⟨aD (Tryz.prog.underlying 400),by kernel_rfl,aq (by kernel_rfl)⟩
def O3:List (Nat×TI):=[(0,QH),(2,QF),(3,QJ),(4,QI),(5,QG),(9,QE),(22,L4),(23,N6),(24,O6),(25,NY),(27,Ma),(28,ML),(31,Nf),(32,NU),(33,Nk),(34,Pj),(36,MD),(38,OJ),(40,Mw),(41,Me),(43,Mm),(44,N8),(47,M2),(48,OK),(53,NW)]
theorem Ja:∀p∈O3,aN Tryz.prog p.1 p.2:=
 an LV<|an LY<|an LW<|an L0<|an LP<|an LJ<|an IT<|an Iz<|an Iu<|an IS<|an IK<|an IX<|an Ip<|an II<|an Jp<|an I0<|an IM<|an Iw<|an IF<|an Ia<|an Jd<|an Jh<|an IB<|an Is<|an Ic<|pj
def NV:List (Nat×TI):=[(55,M4),(59,Of),(60,Nz),(62,Mn),(69,OY),(70,NJ),(73,Od),(75,Nl),(76,L8),(78,NP),(82,Oc),(83,Pn),(84,Nc),(86,Nq),(88,L_),(97,Ng),(98,Pb),(102,Kk),(104,K_),(110,JU),(112,Jz),(118,J'),(119,JM),(121,Kf),(124,K7)]
theorem Jc:∀p∈NV,aN Tryz.prog p.1 p.2:=
 an Jq<|an Jm<|an Ij<|an Jk<|an Jb<|an IR<|an I'<|an Jn<|an Il<|an Ik<|an IL<|an I_<|an Iv<|an IP<|an Id<|an Iq<|an Je<|an F4<|an FQ<|an HL<|an Gy<|an FG<|an GU<|an Ha<|an G1<|pj
def Po:List (Nat×TI):=[(126,Kt),(128,Kr),(129,Kn),(130,KM),(132,Kw),(133,K6),(134,Kh),(140,JV),(145,Ky),(148,KE),(149,JB),(153,Lr),(163,KC),(165,Lq),(166,Lb),(168,Jx),(170,JT),(172,J_),(176,Kx),(180,Lh),(185,Lk),(187,Li),(192,JW),(199,Kz),(203,JN)]
theorem Jv:∀p∈Po,aN Tryz.prog p.1 p.2:=
 an FK<|an Hw<|an FU<|an HJ<|an Gu<|an Fs<|an Gv<|an FO<|an Hp<|an FS<|an GD<|an Ho<|an G8<|an Gb<|an G6<|an Gi<|an Fy<|an FA<|an GL<|an F9<|an Gg<|an Gs<|an HK<|an Gd<|an Gf<|pj
def O2:List (Nat×TI):=[(208,KV),(210,KT),(212,Ko),(215,KX),(216,J0),(218,KS),(219,Ls),(220,JA),(222,Le),(225,Lc),(226,JQ),(230,JC),(232,KN),(237,Kj),(240,J8),(242,JX),(245,JR),(246,K5),(247,KF),(249,J4),(252,JH),(253,Ks),(259,Kv),(263,K1),(265,KR)]
theorem IG:∀p∈O2,aN Tryz.prog p.1 p.2:=
 an GK<|an GZ<|an GT<|an F8<|an FP<|an FF<|an F'<|an Gw<|an GC<|an Fv<|an GR<|an Gt<|an FC<|an Hf<|an Hi<|an Hq<|an F5<|an FE<|an HW<|an HN<|an FZ<|an F_<|an HX<|an Hk<|an GX<|pj
def M9:List (Nat×TI):=[(268,Ll),(270,Lg),(273,KY),(275,Ka),(278,KD),(289,Lo),(290,Kl),(291,K4),(293,JG),(306,KG),(313,K0),(315,JD),(319,KA),(321,Ln),(322,Lj),(324,Kq),(327,K9),(328,Ke),(335,Kc),(340,JK),(345,Lm),(350,JI),(358,K3),(360,KP),(363,KH)]
theorem It:∀p∈M9,aN Tryz.prog p.1 p.2:=
 an G3<|an HY<|an G_<|an Hx<|an Ge<|an H5<|an GV<|an FB<|an H0<|an Hd<|an Gk<|an GE<|an Hy<|an Gm<|an Hl<|an GM<|an H2<|an F7<|an Fz<|an HB<|an HH<|an HS<|an HO<|an Gq<|an HV<|pj
def NS:List (Nat×TI):=[(365,KO),(375,JJ),(378,JY),(379,K8),(381,K2),(383,Ld),(384,Lf),(391,Kg),(393,KU),(397,La),(399,Ki),(400,JL)]
theorem IY:∀p∈NS,aN Tryz.prog p.1 p.2:=
 an FM<|an HF<|an HT<|an HQ<|an Fq<|an GW<|an G2<|an GG<|an F0<|an G0<|an Gl<|an FX<|pj
def tab:List (Nat×TI):=O3++NV++Po++O2++M9++NS
set_option maxRecDepth 100000 in
theorem Lv:∀p∈tab,aN Tryz.prog p.1 p.2:=
 ro (ro (ro (ro (ro (Ja) Jc) Jv) IG) It) IY
theorem FJ:Tryz.prog.follows .mixedOrders=true:=by kernel_rfl
noncomputable def gE:gz:=Gh Tryz.prog tab
theorem Kp:gE.Ok:=GI Tryz.prog tab Lv FJ
noncomputable def PQ:gz:={gE with re:=true}
theorem LT:PQ.Ok:=Kp.retype
theorem aF {f:FuncId} {fn:Func} {args:List Value} {w:World} {R:RW} {p:Prop} (hf:Tryz.prog.funcs[f]? =some fn) (hb:fn.body=some (vL fn)) (hn:Nat.ble args.length fn.ntmps=true) (hw:wf gE fn.ntmps (vL fn)=true) (h:p=Gc gE (vL fn) fn.results.toList args w R) (hh:p):Calls Tryz.prog f args.toArray w fun e w'=>∃v,e= .returned v∧R v w':=
 oa Kp hf hb hn hw (Eq.mp h hh)
end Go.Proofs.YtdlcfegnaphclaaGreat.Eng
