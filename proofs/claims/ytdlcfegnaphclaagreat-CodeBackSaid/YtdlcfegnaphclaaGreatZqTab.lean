/- The types that this claim's functions name, as the loaded program has them. -/
import Derived.Test.YtdlcfegnaphclaaGreatZqEng
import Derived.Test.YtdlcfegnaphclaaGreatProg
import Derived.KernelRfl
set_option linter.unusedVariables false
namespace Go.Proofs.YtdlcfegnaphclaaGreat.Eng
open Go
abbrev OA:=Option Addr
abbrev KW:=List Value→World→Prop
abbrev RW:=Value→World→Prop
abbrev CP:=Calls Tryz.prog
abbrev CR (k:Nat) (a:Array Value) (w:World) (R:RW):Prop:=CP k a w fun e w'=>∃v,e= .returned v∧R v w'
def Qw:TI:={rs:=some (.tup [])}
theorem LK:aM Tryz.prog 0 Qw where
def Qx:TI:={size:=some 1,agg:=some false,rs:=some (.one (.leaf (.int .i64))),zero:=some (Value.int .i64 0),intk:=some .i64,conc:=true}
theorem LP:aM Tryz.prog 2 Qx where
 zero:=ai (Value.int .i64 0) rfl (by kernel_rfl)
 intk:=ai (IntKind.i64) rfl (by kernel_rfl)
 conc:=am ⟨aB (Tryz.prog.underlying 2),by kernel_rfl,ap (by kernel_rfl)⟩
def Qz:TI:={size:=some 1,agg:=some false,rs:=some (.one (.leaf (.int .i64))),zero:=some (Value.int .i64 0),intk:=some .i64,conc:=true}
theorem LE:aM Tryz.prog 3 Qz where
 zero:=ai (Value.int .i64 0) rfl (by kernel_rfl)
 intk:=ai (IntKind.i64) rfl (by kernel_rfl)
 conc:=am ⟨aB (Tryz.prog.underlying 3),by kernel_rfl,ap (by kernel_rfl)⟩
def Qy:TI:={size:=some 1,agg:=some false,rs:=some (.one (.leaf (.bool))),zero:=some (Value.bool false),conc:=true,isBool:=true}
theorem LX:aM Tryz.prog 4 Qy where
 zero:=ai (Value.bool false) rfl (by kernel_rfl)
 conc:=am ⟨aB (Tryz.prog.underlying 4),by kernel_rfl,ap (by kernel_rfl)⟩
 isBool:=am (by kernel_rfl)
def QB:TI:={size:=some 1,agg:=some false,rs:=some (.one (.leaf (.int .u8))),zero:=some (Value.int .u8 0),intk:=some .u8,conc:=true}
theorem LV:aM Tryz.prog 5 QB where
 zero:=ai (Value.int .u8 0) rfl (by kernel_rfl)
 intk:=ai (IntKind.u8) rfl (by kernel_rfl)
 conc:=am ⟨aB (Tryz.prog.underlying 5),by kernel_rfl,ap (by kernel_rfl)⟩
def QA:TI:={size:=some 1,agg:=some false,rs:=some (.one (.leaf (.str))),zero:=some (Value.string ⟨#[]⟩),isStr:=true,conc:=true}
theorem LJ:aM Tryz.prog 9 QA where
 zero:=ai (Value.string ⟨#[]⟩) rfl (by kernel_rfl)
 isStr:=am (by kernel_rfl)
 conc:=am ⟨aB (Tryz.prog.underlying 9),by kernel_rfl,ap (by kernel_rfl)⟩
def N8:TI:={size:=some 1,agg:=some false,rs:=some (.one (.leaf (.slice))),zero:=some (Value.slice none 0 0),slc:=some (321,1),conc:=true,isSlc:=true}
theorem Jg:aM Tryz.prog 22 N8 where
 zero:=ai (Value.slice none 0 0) rfl (by kernel_rfl)
 slc:=bo 321 1 rfl ⟨by kernel_rfl,by kernel_rfl⟩
 conc:=am ⟨aB (Tryz.prog.underlying 22),by kernel_rfl,ap (by kernel_rfl)⟩
 isSlc:=am ⟨321,by kernel_rfl⟩
def Ou:TI:={size:=some 1,agg:=some false,rs:=some (.one (.leaf (.slice))),zero:=some (Value.slice none 0 0),slc:=some (215,3),conc:=true,isSlc:=true}
theorem I':aM Tryz.prog 23 Ou where
 zero:=ai (Value.slice none 0 0) rfl (by kernel_rfl)
 slc:=bo 215 3 rfl ⟨by kernel_rfl,by kernel_rfl⟩
 conc:=am ⟨aB (Tryz.prog.underlying 23),by kernel_rfl,ap (by kernel_rfl)⟩
 isSlc:=am ⟨215,by kernel_rfl⟩
def Nq:TI:={size:=some 1,agg:=some false,rs:=some (.one (.leaf (.slice))),zero:=some (Value.slice none 0 0),slc:=some (218,2),conc:=true,isSlc:=true}
theorem Ig:aM Tryz.prog 24 Nq where
 zero:=ai (Value.slice none 0 0) rfl (by kernel_rfl)
 slc:=bo 218 2 rfl ⟨by kernel_rfl,by kernel_rfl⟩
 conc:=am ⟨aB (Tryz.prog.underlying 24),by kernel_rfl,ap (by kernel_rfl)⟩
 isSlc:=am ⟨218,by kernel_rfl⟩
def OY:TI:={size:=some 1,agg:=some false,rs:=some (.one (.leaf (.slice))),zero:=some (Value.slice none 0 0),slc:=some (75,2),conc:=true,isSlc:=true}
theorem IE:aM Tryz.prog 25 OY where
 zero:=ai (Value.slice none 0 0) rfl (by kernel_rfl)
 slc:=bo 75 2 rfl ⟨by kernel_rfl,by kernel_rfl⟩
 conc:=am ⟨aB (Tryz.prog.underlying 25),by kernel_rfl,ap (by kernel_rfl)⟩
 isSlc:=am ⟨75,by kernel_rfl⟩
def ME:TI:={size:=some 4,agg:=some true,rs:=some (.one (.agg [.slice,.slice,.slice,.slice])),zero:=some (Value.agg #[Value.slice none 0 0,Value.slice none 0 0,Value.slice none 0 0,Value.slice none 0 0]),offs:=some [(0,0,false),(1,0,false),(2,0,false),(3,0,false)],conc:=true}
theorem Ie:aM Tryz.prog 27 ME where
 size:=ai (4) rfl (by kernel_rfl)
 agg:=ai (true) rfl (by kernel_rfl)
 zero:=ai (Value.agg #[Value.slice none 0 0,Value.slice none 0 0,Value.slice none 0 0,Value.slice none 0 0]) rfl (by kernel_rfl)
 offs:=ai [(0,0,false),(1,0,false),(2,0,false),(3,0,false)] rfl ⟨bh (Tryz.prog.underlying 27),by kernel_rfl,by kernel_rfl⟩
 conc:=am ⟨aB (Tryz.prog.underlying 27),by kernel_rfl,ap (by kernel_rfl)⟩
def OZ:TI:={size:=some 1,agg:=some false,rs:=some (.one (.leaf (.slice))),zero:=some (Value.slice none 0 0),slc:=some (3,1),conc:=true,isSlc:=true}
theorem Jp:aM Tryz.prog 28 OZ where
 zero:=ai (Value.slice none 0 0) rfl (by kernel_rfl)
 slc:=bo 3 1 rfl ⟨by kernel_rfl,by kernel_rfl⟩
 conc:=am ⟨aB (Tryz.prog.underlying 28),by kernel_rfl,ap (by kernel_rfl)⟩
 isSlc:=am ⟨3,by kernel_rfl⟩
def NN:TI:={size:=some 1,agg:=some false,rs:=some (.one (.leaf (.ptr))),zero:=some (Value.pointer none),conc:=true,isPtr:=true}
theorem H8:aM Tryz.prog 31 NN where
 zero:=ai (Value.pointer none) rfl (by kernel_rfl)
 conc:=am ⟨aB (Tryz.prog.underlying 31),by kernel_rfl,ap (by kernel_rfl)⟩
 isPtr:=am ⟨126,by kernel_rfl⟩
def MT:TI:={size:=some 1,agg:=some false,rs:=some (.one (.leaf (.ptr))),zero:=some (Value.pointer none),conc:=true,isPtr:=true}
theorem IN:aM Tryz.prog 32 MT where
 zero:=ai (Value.pointer none) rfl (by kernel_rfl)
 conc:=am ⟨aB (Tryz.prog.underlying 32),by kernel_rfl,ap (by kernel_rfl)⟩
 isPtr:=am ⟨132,by kernel_rfl⟩
def NX:TI:={size:=some 1,agg:=some false,rs:=some (.one (.leaf (.slice))),zero:=some (Value.slice none 0 0),slc:=some (9,1),conc:=true,isSlc:=true}
theorem Ji:aM Tryz.prog 33 NX where
 zero:=ai (Value.slice none 0 0) rfl (by kernel_rfl)
 slc:=bo 9 1 rfl ⟨by kernel_rfl,by kernel_rfl⟩
 conc:=am ⟨aB (Tryz.prog.underlying 33),by kernel_rfl,ap (by kernel_rfl)⟩
 isSlc:=am ⟨9,by kernel_rfl⟩
def Mg:TI:={size:=some 1,agg:=some false,rs:=some (.one (.leaf (.slice))),zero:=some (Value.slice none 0 0),slc:=some (118,2),conc:=true,isSlc:=true}
theorem Ip:aM Tryz.prog 34 Mg where
 zero:=ai (Value.slice none 0 0) rfl (by kernel_rfl)
 slc:=bo 118 2 rfl ⟨by kernel_rfl,by kernel_rfl⟩
 conc:=am ⟨aB (Tryz.prog.underlying 34),by kernel_rfl,ap (by kernel_rfl)⟩
 isSlc:=am ⟨118,by kernel_rfl⟩
def NH:TI:={size:=some 2,agg:=some true,rs:=some (.one (.agg [.slice,.slice])),zero:=some (Value.agg #[Value.slice none 0 0,Value.slice none 0 0]),offs:=some [(0,0,false),(1,0,false)],conc:=true}
theorem IF:aM Tryz.prog 36 NH where
 size:=ai (2) rfl (by kernel_rfl)
 agg:=ai (true) rfl (by kernel_rfl)
 zero:=ai (Value.agg #[Value.slice none 0 0,Value.slice none 0 0]) rfl (by kernel_rfl)
 offs:=ai [(0,0,false),(1,0,false)] rfl ⟨bh (Tryz.prog.underlying 36),by kernel_rfl,by kernel_rfl⟩
 conc:=am ⟨aB (Tryz.prog.underlying 36),by kernel_rfl,ap (by kernel_rfl)⟩
def Og:TI:={size:=some 2,agg:=some true,rs:=some (.one (.agg [.slice,.slice])),zero:=some (Value.agg #[Value.slice none 0 0,Value.slice none 0 0]),offs:=some [(0,0,false),(1,0,false)],conc:=true}
theorem Ix:aM Tryz.prog 38 Og where
 size:=ai (2) rfl (by kernel_rfl)
 agg:=ai (true) rfl (by kernel_rfl)
 zero:=ai (Value.agg #[Value.slice none 0 0,Value.slice none 0 0]) rfl (by kernel_rfl)
 offs:=ai [(0,0,false),(1,0,false)] rfl ⟨bh (Tryz.prog.underlying 38),by kernel_rfl,by kernel_rfl⟩
 conc:=am ⟨aB (Tryz.prog.underlying 38),by kernel_rfl,ap (by kernel_rfl)⟩
def OS:TI:={size:=some 5,agg:=some true,rs:=some (.one (.agg [.slice,.slice,.slice,.slice,.slice])),zero:=some (Value.agg #[Value.slice none 0 0,Value.slice none 0 0,Value.slice none 0 0,Value.slice none 0 0,Value.slice none 0 0]),offs:=some [(0,1,true),(2,1,true),(4,0,false)],conc:=true}
theorem Ik:aM Tryz.prog 40 OS where
 size:=ai (5) rfl (by kernel_rfl)
 agg:=ai (true) rfl (by kernel_rfl)
 zero:=ai (Value.agg #[Value.slice none 0 0,Value.slice none 0 0,Value.slice none 0 0,Value.slice none 0 0,Value.slice none 0 0]) rfl (by kernel_rfl)
 offs:=ai [(0,1,true),(2,1,true),(4,0,false)] rfl ⟨bh (Tryz.prog.underlying 40),by kernel_rfl,by kernel_rfl⟩
 conc:=am ⟨aB (Tryz.prog.underlying 40),by kernel_rfl,ap (by kernel_rfl)⟩
def NU:TI:={rs:=some (.tup [.leaf (.ptr),.leaf (.ptr),.agg [.slice,.slice,.slice,.slice,.slice]])}
theorem IL:aM Tryz.prog 41 NU where
def MC:TI:={size:=some 1,agg:=some false,rs:=some (.one (.leaf (.int .i64))),zero:=some (Value.int .i64 0),intk:=some .i64,conc:=true}
theorem Is:aM Tryz.prog 43 MC where
 zero:=ai (Value.int .i64 0) rfl (by kernel_rfl)
 intk:=ai (IntKind.i64) rfl (by kernel_rfl)
 conc:=am ⟨aB (Tryz.prog.underlying 43),by kernel_rfl,ap (by kernel_rfl)⟩
def L6:TI:={rs:=some (.tup [.leaf (.slice),.leaf (.int .i64),.leaf (.int .i64)])}
theorem IM:aM Tryz.prog 44 L6 where
def Nl:TI:={size:=some 1,agg:=some false,rs:=some (.one (.leaf (.slice))),zero:=some (Value.slice none 0 0),slc:=some (59,1),conc:=true,isSlc:=true}
theorem I9:aM Tryz.prog 47 Nl where
 zero:=ai (Value.slice none 0 0) rfl (by kernel_rfl)
 slc:=bo 59 1 rfl ⟨by kernel_rfl,by kernel_rfl⟩
 conc:=am ⟨aB (Tryz.prog.underlying 47),by kernel_rfl,ap (by kernel_rfl)⟩
 isSlc:=am ⟨59,by kernel_rfl⟩
def Oz:TI:={rs:=some (.tup [.leaf (.slice),.leaf (.int .i64),.leaf (.int .i64)])}
theorem IW:aM Tryz.prog 48 Oz where
def NS:TI:={rs:=some (.tup [.leaf (.int .i64),.leaf (.bool)])}
theorem Jc:aM Tryz.prog 53 NS where
def NY:TI:={size:=some 1,agg:=some false,rs:=some (.one (.leaf (.any))),zero:=some (Value.nilFunc),conc:=true}
theorem IB:aM Tryz.prog 55 NY where
 zero:=ai (Value.nilFunc) rfl (by kernel_rfl)
 conc:=am ⟨aB (Tryz.prog.underlying 55),by kernel_rfl,ap (by kernel_rfl)⟩
def Nb:TI:={size:=some 1,agg:=some false,rs:=some (.one (.leaf (.int .u64))),zero:=some (Value.int .u64 0),intk:=some .u64,conc:=true}
theorem IU:aM Tryz.prog 59 Nb where
 zero:=ai (Value.int .u64 0) rfl (by kernel_rfl)
 intk:=ai (IntKind.u64) rfl (by kernel_rfl)
 conc:=am ⟨aB (Tryz.prog.underlying 59),by kernel_rfl,ap (by kernel_rfl)⟩
def Pa:TI:={size:=some 1,agg:=some false,rs:=some (.one (.leaf (.int .u64))),zero:=some (Value.int .u64 0),intk:=some .u64,conc:=true}
theorem Id:aM Tryz.prog 60 Pa where
 zero:=ai (Value.int .u64 0) rfl (by kernel_rfl)
 intk:=ai (IntKind.u64) rfl (by kernel_rfl)
 conc:=am ⟨aB (Tryz.prog.underlying 60),by kernel_rfl,ap (by kernel_rfl)⟩
def OO:TI:={rs:=some (.tup [.leaf (.slice),.leaf (.str),.leaf (.int .i64)])}
theorem IV:aM Tryz.prog 62 OO where
def Pb:TI:={size:=some 1,agg:=some false,rs:=some (.one (.leaf (.ptr))),zero:=some (Value.pointer none),conc:=true,isPtr:=true}
theorem Je:aM Tryz.prog 69 Pb where
 zero:=ai (Value.pointer none) rfl (by kernel_rfl)
 conc:=am ⟨aB (Tryz.prog.underlying 69),by kernel_rfl,ap (by kernel_rfl)⟩
 isPtr:=am ⟨237,by kernel_rfl⟩
def O3:TI:={rs:=some (.tup [.leaf (.ptr),.leaf (.int .i64),.leaf (.int .i64)])}
theorem Iu:aM Tryz.prog 70 O3 where
def OM:TI:={size:=some 6,agg:=some true,rs:=some (.one (.agg [.bool,.slice,.slice,.slice,.slice,.slice])),zero:=some (Value.agg #[Value.bool false,Value.slice none 0 0,Value.slice none 0 0,Value.slice none 0 0,Value.slice none 0 0,Value.slice none 0 0]),offs:=some [(0,0,false),(1,0,false),(2,0,false),(3,0,false),(4,0,false),(5,0,false)],conc:=true}
theorem IG:aM Tryz.prog 73 OM where
 size:=ai (6) rfl (by kernel_rfl)
 agg:=ai (true) rfl (by kernel_rfl)
 zero:=ai (Value.agg #[Value.bool false,Value.slice none 0 0,Value.slice none 0 0,Value.slice none 0 0,Value.slice none 0 0,Value.slice none 0 0]) rfl (by kernel_rfl)
 offs:=ai [(0,0,false),(1,0,false),(2,0,false),(3,0,false),(4,0,false),(5,0,false)] rfl ⟨bh (Tryz.prog.underlying 73),by kernel_rfl,by kernel_rfl⟩
 conc:=am ⟨aB (Tryz.prog.underlying 73),by kernel_rfl,ap (by kernel_rfl)⟩
def Ni:TI:={size:=some 2,agg:=some true,rs:=some (.one (.agg [.int .i64,.str])),zero:=some (Value.agg #[Value.int .i64 0,Value.string ⟨#[]⟩]),offs:=some [(0,0,false),(1,0,false)],eqs:=some [.i,.s],conc:=true}
theorem Jq:aM Tryz.prog 75 Ni where
 size:=ai (2) rfl (by kernel_rfl)
 agg:=ai (true) rfl (by kernel_rfl)
 zero:=ai (Value.agg #[Value.int .i64 0,Value.string ⟨#[]⟩]) rfl (by kernel_rfl)
 offs:=ai [(0,0,false),(1,0,false)] rfl ⟨bh (Tryz.prog.underlying 75),by kernel_rfl,by kernel_rfl⟩
 conc:=am ⟨aB (Tryz.prog.underlying 75),by kernel_rfl,ap (by kernel_rfl)⟩
 eqs:=ai [.i,.s] rfl (by kernel_rfl)
def Mm:TI:={rs:=some (.tup [.leaf (.ptr),.leaf (.int .i64)])}
theorem Iv:aM Tryz.prog 76 Mm where
def OE:TI:={rs:=some (.tup [.leaf (.ptr),.leaf (.int .i64)])}
theorem H9:aM Tryz.prog 78 OE where
def Mp:TI:={size:=some 1,agg:=some false,rs:=some (.one (.leaf (.ptr))),zero:=some (Value.pointer none),conc:=true,isPtr:=true}
theorem Im:aM Tryz.prog 82 Mp where
 zero:=ai (Value.pointer none) rfl (by kernel_rfl)
 conc:=am ⟨aB (Tryz.prog.underlying 82),by kernel_rfl,ap (by kernel_rfl)⟩
 isPtr:=am ⟨172,by kernel_rfl⟩
def Oj:TI:={size:=some 1,agg:=some false,rs:=some (.one (.leaf (.ptr))),zero:=some (Value.pointer none),conc:=true,isPtr:=true}
theorem IQ:aM Tryz.prog 83 Oj where
 zero:=ai (Value.pointer none) rfl (by kernel_rfl)
 conc:=am ⟨aB (Tryz.prog.underlying 83),by kernel_rfl,ap (by kernel_rfl)⟩
 isPtr:=am ⟨165,by kernel_rfl⟩
def NP:TI:={rs:=some (.tup [.leaf (.ptr),.leaf (.ptr),.leaf (.ptr),.agg [.slice,.slice,.slice,.slice,.slice]])}
theorem Jk:aM Tryz.prog 84 NP where
def L2:TI:={size:=some 1,agg:=some false,rs:=some (.one (.leaf (.slice))),zero:=some (Value.slice none 0 0),slc:=some (153,1),conc:=true,isSlc:=true}
theorem Jt:aM Tryz.prog 86 L2 where
 zero:=ai (Value.slice none 0 0) rfl (by kernel_rfl)
 slc:=bo 153 1 rfl ⟨by kernel_rfl,by kernel_rfl⟩
 conc:=am ⟨aB (Tryz.prog.underlying 86),by kernel_rfl,ap (by kernel_rfl)⟩
 isSlc:=am ⟨153,by kernel_rfl⟩
def Oh:TI:={size:=some 1,agg:=some true,rs:=some (.one (.agg [.slice])),zero:=some (Value.agg #[Value.slice none 0 0]),offs:=some [(0,0,false)],conc:=true}
theorem Ja:aM Tryz.prog 88 Oh where
 agg:=ai (true) rfl (by kernel_rfl)
 zero:=ai (Value.agg #[Value.slice none 0 0]) rfl (by kernel_rfl)
 offs:=ai [(0,0,false)] rfl ⟨bh (Tryz.prog.underlying 88),by kernel_rfl,by kernel_rfl⟩
 conc:=am ⟨aB (Tryz.prog.underlying 88),by kernel_rfl,ap (by kernel_rfl)⟩
def M7:TI:={size:=some 1,agg:=some false,rs:=some (.one (.leaf (.slice))),zero:=some (Value.slice none 0 0),slc:=some (5,1),conc:=true,isSlc:=true}
theorem Il:aM Tryz.prog 97 M7 where
 zero:=ai (Value.slice none 0 0) rfl (by kernel_rfl)
 slc:=bo 5 1 rfl ⟨by kernel_rfl,by kernel_rfl⟩
 conc:=am ⟨aB (Tryz.prog.underlying 97),by kernel_rfl,ap (by kernel_rfl)⟩
 isSlc:=am ⟨5,by kernel_rfl⟩
def OK:TI:={size:=some 1,agg:=some false,rs:=some (.one (.leaf (.slice))),zero:=some (Value.slice none 0 0),slc:=some (5,1),conc:=true,isSlc:=true}
theorem IA:aM Tryz.prog 98 OK where
 zero:=ai (Value.slice none 0 0) rfl (by kernel_rfl)
 slc:=bo 5 1 rfl ⟨by kernel_rfl,by kernel_rfl⟩
 conc:=am ⟨aB (Tryz.prog.underlying 98),by kernel_rfl,ap (by kernel_rfl)⟩
 isSlc:=am ⟨5,by kernel_rfl⟩
def KE:TI:={rs:=some (.tup [.leaf (.slice),.leaf (.int .i64)])}
theorem GS:aM Tryz.prog 102 KE where
def Ll:TI:={rs:=some (.tup [.agg [.slice],.leaf (.int .i64)])}
theorem GX:aM Tryz.prog 104 Ll where
def Lm:TI:={rs:=some (.tup [.leaf (.ptr),.leaf (.int .i64)])}
theorem HY:aM Tryz.prog 110 Lm where
def Kj:TI:={rs:=some (.tup [.leaf (.ptr),.leaf (.int .i64)])}
theorem FF:aM Tryz.prog 112 Kj where
def KT:TI:={size:=some 2,agg:=some true,rs:=some (.one (.agg [.int .i64,.int .i64])),zero:=some (Value.agg #[Value.int .i64 0,Value.int .i64 0]),offs:=some [(0,0,false),(1,0,false)],eqs:=some [.i,.i],conc:=true}
theorem Gf:aM Tryz.prog 118 KT where
 size:=ai (2) rfl (by kernel_rfl)
 agg:=ai (true) rfl (by kernel_rfl)
 zero:=ai (Value.agg #[Value.int .i64 0,Value.int .i64 0]) rfl (by kernel_rfl)
 offs:=ai [(0,0,false),(1,0,false)] rfl ⟨bh (Tryz.prog.underlying 118),by kernel_rfl,by kernel_rfl⟩
 conc:=am ⟨aB (Tryz.prog.underlying 118),by kernel_rfl,ap (by kernel_rfl)⟩
 eqs:=ai [.i,.i] rfl (by kernel_rfl)
def Le:TI:={rs:=some (.tup [.leaf (.ptr),.agg [.slice,.slice,.slice,.slice,.slice]])}
theorem Ft:aM Tryz.prog 119 Le where
def Kz:TI:={rs:=some (.tup [.leaf (.int .i64),.leaf (.int .i64)])}
theorem HF:aM Tryz.prog 121 Kz where
def KM:TI:={size:=some 1,agg:=some false,rs:=some (.one (.leaf (.ptr))),zero:=some (Value.pointer none),conc:=true,isPtr:=true}
theorem Gl:aM Tryz.prog 124 KM where
 zero:=ai (Value.pointer none) rfl (by kernel_rfl)
 conc:=am ⟨aB (Tryz.prog.underlying 124),by kernel_rfl,ap (by kernel_rfl)⟩
 isPtr:=am ⟨242,by kernel_rfl⟩
def Kc:TI:={size:=some 3,agg:=some true,rs:=some (.one (.agg [.ptr,.ptr,.ptr])),zero:=some (Value.agg #[Value.pointer none,Value.pointer none,Value.pointer none]),offs:=some [(0,0,false),(1,0,false),(2,0,false)],conc:=true}
theorem Hk:aM Tryz.prog 126 Kc where
 size:=ai (3) rfl (by kernel_rfl)
 agg:=ai (true) rfl (by kernel_rfl)
 zero:=ai (Value.agg #[Value.pointer none,Value.pointer none,Value.pointer none]) rfl (by kernel_rfl)
 offs:=ai [(0,0,false),(1,0,false),(2,0,false)] rfl ⟨bh (Tryz.prog.underlying 126),by kernel_rfl,by kernel_rfl⟩
 conc:=am ⟨aB (Tryz.prog.underlying 126),by kernel_rfl,ap (by kernel_rfl)⟩
def Kd:TI:={size:=some 1,agg:=some false,rs:=some (.one (.leaf (.map))),zero:=some (Value.map none),elemSh:=some (.leaf (.int .i64)),conc:=true,isMap:=true}
theorem Gm:aM Tryz.prog 128 Kd where
 zero:=ai (Value.map none) rfl (by kernel_rfl)
 conc:=am ⟨aB (Tryz.prog.underlying 128),by kernel_rfl,ap (by kernel_rfl)⟩
 isMap:=am ⟨3,3,by kernel_rfl⟩
def Ju:TI:={size:=some 1,agg:=some false,rs:=some (.one (.leaf (.slice))),zero:=some (Value.slice none 0 0),slc:=some (130,1),conc:=true,isSlc:=true}
theorem G5:aM Tryz.prog 129 Ju where
 zero:=ai (Value.slice none 0 0) rfl (by kernel_rfl)
 slc:=bo 130 1 rfl ⟨by kernel_rfl,by kernel_rfl⟩
 conc:=am ⟨aB (Tryz.prog.underlying 129),by kernel_rfl,ap (by kernel_rfl)⟩
 isSlc:=am ⟨130,by kernel_rfl⟩
def Lj:TI:={size:=some 1,agg:=some false,rs:=some (.one (.leaf (.slice))),zero:=some (Value.slice none 0 0),slc:=some (59,1),conc:=true,isSlc:=true}
theorem Hn:aM Tryz.prog 130 Lj where
 zero:=ai (Value.slice none 0 0) rfl (by kernel_rfl)
 slc:=bo 59 1 rfl ⟨by kernel_rfl,by kernel_rfl⟩
 conc:=am ⟨aB (Tryz.prog.underlying 130),by kernel_rfl,ap (by kernel_rfl)⟩
 isSlc:=am ⟨59,by kernel_rfl⟩
def KS:TI:={size:=some 4,agg:=some true,rs:=some (.one (.agg [.slice,.map,.slice,.slice])),zero:=some (Value.agg #[Value.slice none 0 0,Value.map none,Value.slice none 0 0,Value.slice none 0 0]),offs:=some [(0,0,false),(1,0,false),(2,0,false),(3,0,false)],conc:=true}
theorem Gc:aM Tryz.prog 132 KS where
 size:=ai (4) rfl (by kernel_rfl)
 agg:=ai (true) rfl (by kernel_rfl)
 zero:=ai (Value.agg #[Value.slice none 0 0,Value.map none,Value.slice none 0 0,Value.slice none 0 0]) rfl (by kernel_rfl)
 offs:=ai [(0,0,false),(1,0,false),(2,0,false),(3,0,false)] rfl ⟨bh (Tryz.prog.underlying 132),by kernel_rfl,by kernel_rfl⟩
 conc:=am ⟨aB (Tryz.prog.underlying 132),by kernel_rfl,ap (by kernel_rfl)⟩
def Lk:TI:={size:=some 1,agg:=some false,rs:=some (.one (.leaf (.any))),zero:=some (Value.nilFunc),conc:=true}
theorem F0:aM Tryz.prog 133 Lk where
 zero:=ai (Value.nilFunc) rfl (by kernel_rfl)
 conc:=am ⟨aB (Tryz.prog.underlying 133),by kernel_rfl,ap (by kernel_rfl)⟩
def KK:TI:={rs:=some (.tup [.leaf (.int .i64),.leaf (.str),.leaf (.bool)])}
theorem FK:aM Tryz.prog 134 KK where
def Ks:TI:={rs:=some (.tup [.leaf (.ptr),.leaf (.int .i64),.leaf (.int .i64),.leaf (.int .i64)])}
theorem F9:aM Tryz.prog 140 Ks where
def Jw:TI:={size:=some 1,agg:=some false,rs:=some (.one (.leaf (.ptr))),zero:=some (Value.pointer none),conc:=true,isPtr:=true}
theorem Gv:aM Tryz.prog 145 Jw where
 zero:=ai (Value.pointer none) rfl (by kernel_rfl)
 conc:=am ⟨aB (Tryz.prog.underlying 145),by kernel_rfl,ap (by kernel_rfl)⟩
 isPtr:=am ⟨249,by kernel_rfl⟩
def JP:TI:={size:=some 1,agg:=some false,rs:=some (.one (.leaf (.slice))),zero:=some (Value.slice none 0 0),slc:=some (28,1),conc:=true,isSlc:=true}
theorem FP:aM Tryz.prog 148 JP where
 zero:=ai (Value.slice none 0 0) rfl (by kernel_rfl)
 slc:=bo 28 1 rfl ⟨by kernel_rfl,by kernel_rfl⟩
 conc:=am ⟨aB (Tryz.prog.underlying 148),by kernel_rfl,ap (by kernel_rfl)⟩
 isSlc:=am ⟨28,by kernel_rfl⟩
def Li:TI:={size:=some 1,agg:=some false,rs:=some (.one (.leaf (.slice))),zero:=some (Value.slice none 0 0),slc:=some (4,1),conc:=true,isSlc:=true}
theorem FI:aM Tryz.prog 149 Li where
 zero:=ai (Value.slice none 0 0) rfl (by kernel_rfl)
 slc:=bo 4 1 rfl ⟨by kernel_rfl,by kernel_rfl⟩
 conc:=am ⟨aB (Tryz.prog.underlying 149),by kernel_rfl,ap (by kernel_rfl)⟩
 isSlc:=am ⟨4,by kernel_rfl⟩
def KO:TI:={size:=some 1,agg:=some false,rs:=some (.one (.leaf (.int .u32))),zero:=some (Value.int .u32 0),intk:=some .u32,conc:=true}
theorem H4:aM Tryz.prog 153 KO where
 zero:=ai (Value.int .u32 0) rfl (by kernel_rfl)
 intk:=ai (IntKind.u32) rfl (by kernel_rfl)
 conc:=am ⟨aB (Tryz.prog.underlying 153),by kernel_rfl,ap (by kernel_rfl)⟩
def Kr:TI:={size:=some 4,agg:=some true,rs:=some (.one (.agg [.int .u32,.int .i32,.int .u32,.slice])),zero:=some (Value.agg #[Value.int .u32 0,Value.int .i32 0,Value.int .u32 0,Value.slice none 0 0]),offs:=some [(0,2,true),(3,0,false)],conc:=true}
theorem Fq:aM Tryz.prog 163 Kr where
 size:=ai (4) rfl (by kernel_rfl)
 agg:=ai (true) rfl (by kernel_rfl)
 zero:=ai (Value.agg #[Value.int .u32 0,Value.int .i32 0,Value.int .u32 0,Value.slice none 0 0]) rfl (by kernel_rfl)
 offs:=ai [(0,2,true),(3,0,false)] rfl ⟨bh (Tryz.prog.underlying 163),by kernel_rfl,by kernel_rfl⟩
 conc:=am ⟨aB (Tryz.prog.underlying 163),by kernel_rfl,ap (by kernel_rfl)⟩
def JG:TI:={size:=some 7,agg:=some true,rs:=some (.one (.agg [.ptr,.slice,.slice,.int .u32,.int .i32,.int .u32,.slice])),zero:=some (Value.agg #[Value.pointer none,Value.slice none 0 0,Value.slice none 0 0,Value.int .u32 0,Value.int .i32 0,Value.int .u32 0,Value.slice none 0 0]),offs:=some [(0,0,false),(1,0,false),(2,0,false),(3,3,true)],conc:=true}
theorem FC:aM Tryz.prog 165 JG where
 size:=ai (7) rfl (by kernel_rfl)
 agg:=ai (true) rfl (by kernel_rfl)
 zero:=ai (Value.agg #[Value.pointer none,Value.slice none 0 0,Value.slice none 0 0,Value.int .u32 0,Value.int .i32 0,Value.int .u32 0,Value.slice none 0 0]) rfl (by kernel_rfl)
 offs:=ai [(0,0,false),(1,0,false),(2,0,false),(3,3,true)] rfl ⟨bh (Tryz.prog.underlying 165),by kernel_rfl,by kernel_rfl⟩
 conc:=am ⟨aB (Tryz.prog.underlying 165),by kernel_rfl,ap (by kernel_rfl)⟩
def Ln:TI:={size:=some 1,agg:=some false,rs:=some (.one (.leaf (.slice))),zero:=some (Value.slice none 0 0),slc:=some (88,1),conc:=true,isSlc:=true}
theorem G3:aM Tryz.prog 166 Ln where
 zero:=ai (Value.slice none 0 0) rfl (by kernel_rfl)
 slc:=bo 88 1 rfl ⟨by kernel_rfl,by kernel_rfl⟩
 conc:=am ⟨aB (Tryz.prog.underlying 166),by kernel_rfl,ap (by kernel_rfl)⟩
 isSlc:=am ⟨88,by kernel_rfl⟩
def Kh:TI:={size:=some 1,agg:=some false,rs:=some (.one (.leaf (.slice))),zero:=some (Value.slice none 0 0),slc:=some (166,1),conc:=true,isSlc:=true}
theorem FM:aM Tryz.prog 168 Kh where
 zero:=ai (Value.slice none 0 0) rfl (by kernel_rfl)
 slc:=bo 166 1 rfl ⟨by kernel_rfl,by kernel_rfl⟩
 conc:=am ⟨aB (Tryz.prog.underlying 168),by kernel_rfl,ap (by kernel_rfl)⟩
 isSlc:=am ⟨166,by kernel_rfl⟩
def Ka:TI:={size:=some 4,agg:=some true,rs:=some (.one (.agg [.int .u32,.int .i32,.int .u32,.slice])),zero:=some (Value.agg #[Value.int .u32 0,Value.int .i32 0,Value.int .u32 0,Value.slice none 0 0]),offs:=some [(0,2,true),(3,0,false)],conc:=true}
theorem GK:aM Tryz.prog 170 Ka where
 size:=ai (4) rfl (by kernel_rfl)
 agg:=ai (true) rfl (by kernel_rfl)
 zero:=ai (Value.agg #[Value.int .u32 0,Value.int .i32 0,Value.int .u32 0,Value.slice none 0 0]) rfl (by kernel_rfl)
 offs:=ai [(0,2,true),(3,0,false)] rfl ⟨bh (Tryz.prog.underlying 170),by kernel_rfl,by kernel_rfl⟩
 conc:=am ⟨aB (Tryz.prog.underlying 170),by kernel_rfl,ap (by kernel_rfl)⟩
def KB:TI:={size:=some 7,agg:=some true,rs:=some (.one (.agg [.ptr,.ptr,.int .i64,.int .u32,.int .i32,.int .u32,.slice])),zero:=some (Value.agg #[Value.pointer none,Value.pointer none,Value.int .i64 0,Value.int .u32 0,Value.int .i32 0,Value.int .u32 0,Value.slice none 0 0]),offs:=some [(0,0,false),(1,0,false),(2,0,false),(3,3,true)],conc:=true}
theorem H0:aM Tryz.prog 172 KB where
 size:=ai (7) rfl (by kernel_rfl)
 agg:=ai (true) rfl (by kernel_rfl)
 zero:=ai (Value.agg #[Value.pointer none,Value.pointer none,Value.int .i64 0,Value.int .u32 0,Value.int .i32 0,Value.int .u32 0,Value.slice none 0 0]) rfl (by kernel_rfl)
 offs:=ai [(0,0,false),(1,0,false),(2,0,false),(3,3,true)] rfl ⟨bh (Tryz.prog.underlying 172),by kernel_rfl,by kernel_rfl⟩
 conc:=am ⟨aB (Tryz.prog.underlying 172),by kernel_rfl,ap (by kernel_rfl)⟩
def Kf:TI:={rs:=some (.tup [.agg [.slice],.leaf (.int .u32)])}
theorem Fy:aM Tryz.prog 176 Kf where
def K0:TI:={size:=some 1,agg:=some false,rs:=some (.one (.leaf (.slice))),zero:=some (Value.slice none 0 0),slc:=some (98,1),conc:=true,isSlc:=true}
theorem GG:aM Tryz.prog 180 K0 where
 zero:=ai (Value.slice none 0 0) rfl (by kernel_rfl)
 slc:=bo 98 1 rfl ⟨by kernel_rfl,by kernel_rfl⟩
 conc:=am ⟨aB (Tryz.prog.underlying 180),by kernel_rfl,ap (by kernel_rfl)⟩
 isSlc:=am ⟨98,by kernel_rfl⟩
def Ld:TI:={rs:=some (.tup [.agg [.slice],.leaf (.bool)])}
theorem FB:aM Tryz.prog 185 Ld where
def JM:TI:={size:=some 1,agg:=some false,rs:=some (.one (.leaf (.any))),zero:=some (Value.nilFunc),conc:=true}
theorem FE:aM Tryz.prog 187 JM where
 zero:=ai (Value.nilFunc) rfl (by kernel_rfl)
 conc:=am ⟨aB (Tryz.prog.underlying 187),by kernel_rfl,ap (by kernel_rfl)⟩
def KY:TI:={rs:=some (.tup [.leaf (.slice),.leaf (.map)])}
theorem Hc:aM Tryz.prog 192 KY where
def Ko:TI:={size:=some 1,agg:=some false,rs:=some (.one (.leaf (.ptr))),zero:=some (Value.pointer none),conc:=true,isPtr:=true}
theorem GQ:aM Tryz.prog 199 Ko where
 zero:=ai (Value.pointer none) rfl (by kernel_rfl)
 conc:=am ⟨aB (Tryz.prog.underlying 199),by kernel_rfl,ap (by kernel_rfl)⟩
 isPtr:=am ⟨270,by kernel_rfl⟩
def J4:TI:={rs:=some (.tup [.leaf (.str),.leaf (.bool)])}
theorem HH:aM Tryz.prog 203 J4 where
def Ku:TI:={size:=some 1,agg:=some false,rs:=some (.one (.leaf (.any))),zero:=some (Value.nilFunc),conc:=true}
theorem Fw:aM Tryz.prog 208 Ku where
 zero:=ai (Value.nilFunc) rfl (by kernel_rfl)
 conc:=am ⟨aB (Tryz.prog.underlying 208),by kernel_rfl,ap (by kernel_rfl)⟩
def KN:TI:={size:=some 1,agg:=some false,rs:=some (.one (.leaf (.any))),zero:=some (Value.nilFunc),conc:=true}
theorem HA:aM Tryz.prog 210 KN where
 zero:=ai (Value.nilFunc) rfl (by kernel_rfl)
 conc:=am ⟨aB (Tryz.prog.underlying 210),by kernel_rfl,ap (by kernel_rfl)⟩
def JE:TI:={size:=some 1,agg:=some false,rs:=some (.one (.leaf (.any))),zero:=some (Value.nilFunc),conc:=true}
theorem H2:aM Tryz.prog 212 JE where
 zero:=ai (Value.nilFunc) rfl (by kernel_rfl)
 conc:=am ⟨aB (Tryz.prog.underlying 212),by kernel_rfl,ap (by kernel_rfl)⟩
def JR:TI:={size:=some 3,agg:=some true,rs:=some (.one (.agg [.int .i64,.int .i64,.int .i64])),zero:=some (Value.agg #[Value.int .i64 0,Value.int .i64 0,Value.int .i64 0]),offs:=some [(0,0,false),(1,0,false),(2,0,false)],eqs:=some [.i,.i,.i],conc:=true}
theorem GU:aM Tryz.prog 215 JR where
 size:=ai (3) rfl (by kernel_rfl)
 agg:=ai (true) rfl (by kernel_rfl)
 zero:=ai (Value.agg #[Value.int .i64 0,Value.int .i64 0,Value.int .i64 0]) rfl (by kernel_rfl)
 offs:=ai [(0,0,false),(1,0,false),(2,0,false)] rfl ⟨bh (Tryz.prog.underlying 215),by kernel_rfl,by kernel_rfl⟩
 conc:=am ⟨aB (Tryz.prog.underlying 215),by kernel_rfl,ap (by kernel_rfl)⟩
 eqs:=ai [.i,.i,.i] rfl (by kernel_rfl)
def Kx:TI:={size:=some 1,agg:=some false,rs:=some (.one (.leaf (.any))),zero:=some (Value.nilFunc),conc:=true}
theorem Hm:aM Tryz.prog 216 Kx where
 zero:=ai (Value.nilFunc) rfl (by kernel_rfl)
 conc:=am ⟨aB (Tryz.prog.underlying 216),by kernel_rfl,ap (by kernel_rfl)⟩
def JC:TI:={size:=some 2,agg:=some true,rs:=some (.one (.agg [.int .i64,.int .i64])),zero:=some (Value.agg #[Value.int .i64 0,Value.int .i64 0]),offs:=some [(0,0,false),(1,0,false)],eqs:=some [.i,.i],conc:=true}
theorem Gd:aM Tryz.prog 218 JC where
 size:=ai (2) rfl (by kernel_rfl)
 agg:=ai (true) rfl (by kernel_rfl)
 zero:=ai (Value.agg #[Value.int .i64 0,Value.int .i64 0]) rfl (by kernel_rfl)
 offs:=ai [(0,0,false),(1,0,false)] rfl ⟨bh (Tryz.prog.underlying 218),by kernel_rfl,by kernel_rfl⟩
 conc:=am ⟨aB (Tryz.prog.underlying 218),by kernel_rfl,ap (by kernel_rfl)⟩
 eqs:=ai [.i,.i] rfl (by kernel_rfl)
def JI:TI:={size:=some 1,agg:=some false,rs:=some (.one (.leaf (.any))),zero:=some (Value.nilFunc),conc:=true}
theorem Hp:aM Tryz.prog 219 JI where
 zero:=ai (Value.nilFunc) rfl (by kernel_rfl)
 conc:=am ⟨aB (Tryz.prog.underlying 219),by kernel_rfl,ap (by kernel_rfl)⟩
def JJ:TI:={rs:=some (.tup [.leaf (.ptr),.leaf (.int .i64),.leaf (.int .i64)])}
theorem Gj:aM Tryz.prog 220 JJ where
def Jz:TI:={rs:=some (.tup [.leaf (.ptr),.leaf (.int .i64),.leaf (.int .i64)])}
theorem Hf:aM Tryz.prog 222 Jz where
def Kg:TI:={size:=some 1,agg:=some false,rs:=some (.one (.leaf (.ptr))),zero:=some (Value.pointer none),conc:=true,isPtr:=true}
theorem GL:aM Tryz.prog 225 Kg where
 zero:=ai (Value.pointer none) rfl (by kernel_rfl)
 conc:=am ⟨aB (Tryz.prog.underlying 225),by kernel_rfl,ap (by kernel_rfl)⟩
 isPtr:=am ⟨293,by kernel_rfl⟩
def JU:TI:={rs:=some (.tup [.leaf (.ptr),.leaf (.int .i64)])}
theorem Hw:aM Tryz.prog 226 JU where
def Kt:TI:={size:=some 9,agg:=some true,rs:=some (.one (.agg [.bool,.slice,.slice,.slice,.slice,.slice,.ptr,.ptr,.ptr])),zero:=some (Value.agg #[Value.bool false,Value.slice none 0 0,Value.slice none 0 0,Value.slice none 0 0,Value.slice none 0 0,Value.slice none 0 0,Value.pointer none,Value.pointer none,Value.pointer none]),offs:=some [(0,5,true),(6,0,false),(7,0,false),(8,0,false)],conc:=true}
theorem FO:aM Tryz.prog 230 Kt where
 size:=ai (9) rfl (by kernel_rfl)
 agg:=ai (true) rfl (by kernel_rfl)
 zero:=ai (Value.agg #[Value.bool false,Value.slice none 0 0,Value.slice none 0 0,Value.slice none 0 0,Value.slice none 0 0,Value.slice none 0 0,Value.pointer none,Value.pointer none,Value.pointer none]) rfl (by kernel_rfl)
 offs:=ai [(0,5,true),(6,0,false),(7,0,false),(8,0,false)] rfl ⟨bh (Tryz.prog.underlying 230),by kernel_rfl,by kernel_rfl⟩
 conc:=am ⟨aB (Tryz.prog.underlying 230),by kernel_rfl,ap (by kernel_rfl)⟩
def Kk:TI:={size:=some 4,agg:=some true,rs:=some (.one (.agg [.int .u32,.int .i32,.int .u32,.slice])),zero:=some (Value.agg #[Value.int .u32 0,Value.int .i32 0,Value.int .u32 0,Value.slice none 0 0]),offs:=some [(0,2,true),(3,0,false)],conc:=true}
theorem Hh:aM Tryz.prog 232 Kk where
 size:=ai (4) rfl (by kernel_rfl)
 agg:=ai (true) rfl (by kernel_rfl)
 zero:=ai (Value.agg #[Value.int .u32 0,Value.int .i32 0,Value.int .u32 0,Value.slice none 0 0]) rfl (by kernel_rfl)
 offs:=ai [(0,2,true),(3,0,false)] rfl ⟨bh (Tryz.prog.underlying 232),by kernel_rfl,by kernel_rfl⟩
 conc:=am ⟨aB (Tryz.prog.underlying 232),by kernel_rfl,ap (by kernel_rfl)⟩
def J0:TI:={size:=some 14,agg:=some true,rs:=some (.one (.agg [.bool,.slice,.slice,.slice,.slice,.slice,.ptr,.ptr,.ptr,.int .u32,.int .i32,.int .u32,.slice,.int .i64])),zero:=some (Value.agg #[Value.bool false,Value.slice none 0 0,Value.slice none 0 0,Value.slice none 0 0,Value.slice none 0 0,Value.slice none 0 0,Value.pointer none,Value.pointer none,Value.pointer none,Value.int .u32 0,Value.int .i32 0,Value.int .u32 0,Value.slice none 0 0,Value.int .i64 0]),offs:=some [(0,8,true),(9,3,true),(13,0,true)],conc:=true}
theorem FA:aM Tryz.prog 237 J0 where
 size:=ai (14) rfl (by kernel_rfl)
 agg:=ai (true) rfl (by kernel_rfl)
 zero:=ai (Value.agg #[Value.bool false,Value.slice none 0 0,Value.slice none 0 0,Value.slice none 0 0,Value.slice none 0 0,Value.slice none 0 0,Value.pointer none,Value.pointer none,Value.pointer none,Value.int .u32 0,Value.int .i32 0,Value.int .u32 0,Value.slice none 0 0,Value.int .i64 0]) rfl (by kernel_rfl)
 offs:=ai [(0,8,true),(9,3,true),(13,0,true)] rfl ⟨bh (Tryz.prog.underlying 237),by kernel_rfl,by kernel_rfl⟩
 conc:=am ⟨aB (Tryz.prog.underlying 237),by kernel_rfl,ap (by kernel_rfl)⟩
def KX:TI:={size:=some 1,agg:=some false,rs:=some (.one (.leaf (.ptr))),zero:=some (Value.pointer none),conc:=true,isPtr:=true}
theorem Hq:aM Tryz.prog 240 KX where
 zero:=ai (Value.pointer none) rfl (by kernel_rfl)
 conc:=am ⟨aB (Tryz.prog.underlying 240),by kernel_rfl,ap (by kernel_rfl)⟩
 isPtr:=am ⟨275,by kernel_rfl⟩
def JW:TI:={size:=some 2,agg:=some true,rs:=some (.one (.agg [.ptr,.int .i64])),zero:=some (Value.agg #[Value.pointer none,Value.int .i64 0]),offs:=some [(0,0,false),(1,0,false)],conc:=true}
theorem GR:aM Tryz.prog 242 JW where
 size:=ai (2) rfl (by kernel_rfl)
 agg:=ai (true) rfl (by kernel_rfl)
 zero:=ai (Value.agg #[Value.pointer none,Value.int .i64 0]) rfl (by kernel_rfl)
 offs:=ai [(0,0,false),(1,0,false)] rfl ⟨bh (Tryz.prog.underlying 242),by kernel_rfl,by kernel_rfl⟩
 conc:=am ⟨aB (Tryz.prog.underlying 242),by kernel_rfl,ap (by kernel_rfl)⟩
def K1:TI:={size:=some 1,agg:=some false,rs:=some (.one (.leaf (.slice))),zero:=some (Value.slice none 0 0),slc:=some (278,3),conc:=true,isSlc:=true}
theorem F2:aM Tryz.prog 245 K1 where
 zero:=ai (Value.slice none 0 0) rfl (by kernel_rfl)
 slc:=bo 278 3 rfl ⟨by kernel_rfl,by kernel_rfl⟩
 conc:=am ⟨aB (Tryz.prog.underlying 245),by kernel_rfl,ap (by kernel_rfl)⟩
 isSlc:=am ⟨278,by kernel_rfl⟩
def KL:TI:={size:=some 1,agg:=some false,rs:=some (.one (.leaf (.map))),zero:=some (Value.map none),elemSh:=some (.leaf (.int .i64)),conc:=true,isMap:=true}
theorem FQ:aM Tryz.prog 246 KL where
 zero:=ai (Value.map none) rfl (by kernel_rfl)
 conc:=am ⟨aB (Tryz.prog.underlying 246),by kernel_rfl,ap (by kernel_rfl)⟩
 isMap:=am ⟨9,3,by kernel_rfl⟩
def J_:TI:={size:=some 1,agg:=some false,rs:=some (.one (.leaf (.map))),zero:=some (Value.map none),elemSh:=some (.leaf (.int .i64)),conc:=true,isMap:=true}
theorem F3:aM Tryz.prog 247 J_ where
 zero:=ai (Value.map none) rfl (by kernel_rfl)
 conc:=am ⟨aB (Tryz.prog.underlying 247),by kernel_rfl,ap (by kernel_rfl)⟩
 isMap:=am ⟨118,3,by kernel_rfl⟩
def Ky:TI:={size:=some 4,agg:=some true,rs:=some (.one (.agg [.slice,.map,.map,.int .i64])),zero:=some (Value.agg #[Value.slice none 0 0,Value.map none,Value.map none,Value.int .i64 0]),offs:=some [(0,0,false),(1,0,false),(2,0,false),(3,0,false)],conc:=true}
theorem GN:aM Tryz.prog 249 Ky where
 size:=ai (4) rfl (by kernel_rfl)
 agg:=ai (true) rfl (by kernel_rfl)
 zero:=ai (Value.agg #[Value.slice none 0 0,Value.map none,Value.map none,Value.int .i64 0]) rfl (by kernel_rfl)
 offs:=ai [(0,0,false),(1,0,false),(2,0,false),(3,0,false)] rfl ⟨bh (Tryz.prog.underlying 249),by kernel_rfl,by kernel_rfl⟩
 conc:=am ⟨aB (Tryz.prog.underlying 249),by kernel_rfl,ap (by kernel_rfl)⟩
def Lo:TI:={size:=some 1,agg:=some false,rs:=some (.one (.leaf (.slice))),zero:=some (Value.slice none 0 0),slc:=some (253,1),conc:=true,isSlc:=true}
theorem Gp:aM Tryz.prog 252 Lo where
 zero:=ai (Value.slice none 0 0) rfl (by kernel_rfl)
 slc:=bo 253 1 rfl ⟨by kernel_rfl,by kernel_rfl⟩
 conc:=am ⟨aB (Tryz.prog.underlying 252),by kernel_rfl,ap (by kernel_rfl)⟩
 isSlc:=am ⟨253,by kernel_rfl⟩
def KI:TI:={size:=some 1,agg:=some false,rs:=some (.one (.leaf (.map))),zero:=some (Value.map none),elemSh:=some (.leaf (.int .u32)),conc:=true,isMap:=true}
theorem Gx:aM Tryz.prog 253 KI where
 zero:=ai (Value.map none) rfl (by kernel_rfl)
 conc:=am ⟨aB (Tryz.prog.underlying 253),by kernel_rfl,ap (by kernel_rfl)⟩
 isMap:=am ⟨3,153,by kernel_rfl⟩
def JN:TI:={rs:=some (.tup [.leaf (.int .u64),.leaf (.int .u64)])}
theorem HQ:aM Tryz.prog 259 JN where
def KZ:TI:={rs:=some (.tup [.leaf (.int .i64),.leaf (.int .i64)])}
theorem Hg:aM Tryz.prog 263 KZ where
def K2:TI:={rs:=some (.tup [.agg [.slice,.slice,.slice,.slice,.slice],.leaf (.int .i64),.leaf (.int .i64),.leaf (.int .i64)])}
theorem H3:aM Tryz.prog 265 K2 where
def KQ:TI:={size:=some 256,agg:=some true,zero:=some (Value.agg (List.toArray (List.replicate 256 (Value.bool false)))),arr:=some (256,1),conc:=true}
theorem G_:aM Tryz.prog 268 KQ where
 size:=ai (256) rfl (by kernel_rfl)
 agg:=ai (true) rfl (by kernel_rfl)
 zero:=ai (Value.agg (List.toArray (List.replicate 256 (Value.bool false)))) rfl (by kernel_rfl)
 arr:=bo 256 1 rfl ⟨4,by kernel_rfl,by kernel_rfl⟩
 conc:=am ⟨aB (Tryz.prog.underlying 268),by kernel_rfl,ap (by kernel_rfl)⟩
def K9:TI:={size:=some 260,agg:=some true,zero:=some (Value.agg (List.toArray ([Value.slice none 0 0,Value.map none,Value.map none]++List.replicate 256 (Value.bool false)++ [Value.int .i64 0]))),offs:=some [(0,0,false),(1,0,false),(2,0,false),(3,255,true),(259,0,false)],conc:=true}
theorem HM:aM Tryz.prog 270 K9 where
 size:=ai (260) rfl (by kernel_rfl)
 agg:=ai (true) rfl (by kernel_rfl)
 zero:=ai (Value.agg (List.toArray ([Value.slice none 0 0,Value.map none,Value.map none]++List.replicate 256 (Value.bool false)++ [Value.int .i64 0]))) rfl (by kernel_rfl)
 offs:=ai [(0,0,false),(1,0,false),(2,0,false),(3,255,true),(259,0,false)] rfl ⟨bh (Tryz.prog.underlying 270),by kernel_rfl,by kernel_rfl⟩
 conc:=am ⟨aB (Tryz.prog.underlying 270),by kernel_rfl,ap (by kernel_rfl)⟩
def Kl:TI:={size:=some 1,agg:=some false,rs:=some (.one (.leaf (.map))),zero:=some (Value.map none),elemSh:=some (.leaf (.ptr)),conc:=true,isMap:=true}
theorem H6:aM Tryz.prog 273 Kl where
 zero:=ai (Value.map none) rfl (by kernel_rfl)
 conc:=am ⟨aB (Tryz.prog.underlying 273),by kernel_rfl,ap (by kernel_rfl)⟩
 isMap:=am ⟨5,240,by kernel_rfl⟩
def K_:TI:={size:=some 2,agg:=some true,rs:=some (.one (.agg [.map,.int .i64])),zero:=some (Value.agg #[Value.map none,Value.int .i64 0]),offs:=some [(0,0,false),(1,0,false)],conc:=true}
theorem Fl:aM Tryz.prog 275 K_ where
 size:=ai (2) rfl (by kernel_rfl)
 agg:=ai (true) rfl (by kernel_rfl)
 zero:=ai (Value.agg #[Value.map none,Value.int .i64 0]) rfl (by kernel_rfl)
 offs:=ai [(0,0,false),(1,0,false)] rfl ⟨bh (Tryz.prog.underlying 275),by kernel_rfl,by kernel_rfl⟩
 conc:=am ⟨aB (Tryz.prog.underlying 275),by kernel_rfl,ap (by kernel_rfl)⟩
def JX:TI:={size:=some 3,agg:=some true,rs:=some (.one (.agg [.str,.int .i64,.int .i64])),zero:=some (Value.agg #[Value.string ⟨#[]⟩,Value.int .i64 0,Value.int .i64 0]),offs:=some [(0,0,false),(1,1,true)],conc:=true}
theorem FV:aM Tryz.prog 278 JX where
 size:=ai (3) rfl (by kernel_rfl)
 agg:=ai (true) rfl (by kernel_rfl)
 zero:=ai (Value.agg #[Value.string ⟨#[]⟩,Value.int .i64 0,Value.int .i64 0]) rfl (by kernel_rfl)
 offs:=ai [(0,0,false),(1,1,true)] rfl ⟨bh (Tryz.prog.underlying 278),by kernel_rfl,by kernel_rfl⟩
 conc:=am ⟨aB (Tryz.prog.underlying 278),by kernel_rfl,ap (by kernel_rfl)⟩
def Jy:TI:={size:=some 256,agg:=some true,zero:=some (Value.agg (List.toArray (List.replicate 256 (Value.int .i64 0)))),arr:=some (256,1),conc:=true}
theorem FD:aM Tryz.prog 289 Jy where
 size:=ai (256) rfl (by kernel_rfl)
 agg:=ai (true) rfl (by kernel_rfl)
 zero:=ai (Value.agg (List.toArray (List.replicate 256 (Value.int .i64 0)))) rfl (by kernel_rfl)
 arr:=bo 256 1 rfl ⟨3,by kernel_rfl,by kernel_rfl⟩
 conc:=am ⟨aB (Tryz.prog.underlying 289),by kernel_rfl,ap (by kernel_rfl)⟩
def JO:TI:={size:=some 16,agg:=some true,rs:=some (.one (.agg [.bool,.bool,.bool,.bool,.bool,.bool,.bool,.bool,.bool,.bool,.bool,.bool,.bool,.bool,.bool,.bool])),zero:=some (Value.agg #[Value.bool false,Value.bool false,Value.bool false,Value.bool false,Value.bool false,Value.bool false,Value.bool false,Value.bool false,Value.bool false,Value.bool false,Value.bool false,Value.bool false,Value.bool false,Value.bool false,Value.bool false,Value.bool false]),arr:=some (16,1),conc:=true}
theorem G9:aM Tryz.prog 290 JO where
 size:=ai (16) rfl (by kernel_rfl)
 agg:=ai (true) rfl (by kernel_rfl)
 zero:=ai (Value.agg #[Value.bool false,Value.bool false,Value.bool false,Value.bool false,Value.bool false,Value.bool false,Value.bool false,Value.bool false,Value.bool false,Value.bool false,Value.bool false,Value.bool false,Value.bool false,Value.bool false,Value.bool false,Value.bool false]) rfl (by kernel_rfl)
 arr:=bo 16 1 rfl ⟨4,by kernel_rfl,by kernel_rfl⟩
 conc:=am ⟨aB (Tryz.prog.underlying 290),by kernel_rfl,ap (by kernel_rfl)⟩
def KU:TI:={size:=some 256,agg:=some true,zero:=some (Value.agg (List.toArray (List.replicate 256 (Value.bool false)))),arr:=some (16,16),conc:=true}
theorem GD:aM Tryz.prog 291 KU where
 size:=ai (256) rfl (by kernel_rfl)
 agg:=ai (true) rfl (by kernel_rfl)
 zero:=ai (Value.agg (List.toArray (List.replicate 256 (Value.bool false)))) rfl (by kernel_rfl)
 arr:=bo 16 16 rfl ⟨290,by kernel_rfl,by kernel_rfl⟩
 conc:=am ⟨aB (Tryz.prog.underlying 291),by kernel_rfl,ap (by kernel_rfl)⟩
def KD:TI:={size:=some 512,agg:=some true,zero:=some (Value.agg (List.toArray (List.replicate 256 (Value.int .i64 0)++List.replicate 256 (Value.bool false)))),offs:=some [(0,255,true),(256,255,true)],conc:=true}
theorem Gb:aM Tryz.prog 293 KD where
 size:=ai (512) rfl (by kernel_rfl)
 agg:=ai (true) rfl (by kernel_rfl)
 zero:=ai (Value.agg (List.toArray (List.replicate 256 (Value.int .i64 0)++List.replicate 256 (Value.bool false)))) rfl (by kernel_rfl)
 offs:=ai [(0,255,true),(256,255,true)] rfl ⟨bh (Tryz.prog.underlying 293),by kernel_rfl,by kernel_rfl⟩
 conc:=am ⟨aB (Tryz.prog.underlying 293),by kernel_rfl,ap (by kernel_rfl)⟩
def JD:TI:={rs:=some (.tup [.leaf (.ptr),.leaf (.bool)])}
theorem Fu:aM Tryz.prog 306 JD where
def JB:TI:={rs:=some (.tup [.leaf (.int .u64),.leaf (.int .u64)])}
theorem FU:aM Tryz.prog 313 JB where
def JV:TI:={rs:=some (.tup [.leaf (.slice),.leaf (.int .i64)])}
theorem Gn:aM Tryz.prog 315 JV where
def Jv:TI:={size:=some 1,agg:=some false,rs:=some (.one (.leaf (.any))),zero:=some (Value.nilFunc),conc:=true}
theorem G2:aM Tryz.prog 319 Jv where
 zero:=ai (Value.nilFunc) rfl (by kernel_rfl)
 conc:=am ⟨aB (Tryz.prog.underlying 319),by kernel_rfl,ap (by kernel_rfl)⟩
def JT:TI:={size:=some 1,agg:=some false,rs:=some (.one (.leaf (.int .u16))),zero:=some (Value.int .u16 0),intk:=some .u16,conc:=true}
theorem Gz:aM Tryz.prog 321 JT where
 zero:=ai (Value.int .u16 0) rfl (by kernel_rfl)
 intk:=ai (IntKind.u16) rfl (by kernel_rfl)
 conc:=am ⟨aB (Tryz.prog.underlying 321),by kernel_rfl,ap (by kernel_rfl)⟩
def Ke:TI:={rs:=some (.tup [.agg [.slice,.slice],.leaf (.int .i64)])}
theorem GM:aM Tryz.prog 322 Ke where
def La:TI:={rs:=some (.tup [.agg [.slice,.slice],.leaf (.int .i64),.leaf (.int .i64)])}
theorem Fs:aM Tryz.prog 324 La where
def Kp:TI:={size:=some 1,agg:=some false,rs:=some (.one (.leaf (.int .i64))),zero:=some (Value.int .i64 0),intk:=some .i64,conc:=true}
theorem Gu:aM Tryz.prog 327 Kp where
 zero:=ai (Value.int .i64 0) rfl (by kernel_rfl)
 intk:=ai (IntKind.i64) rfl (by kernel_rfl)
 conc:=am ⟨aB (Tryz.prog.underlying 327),by kernel_rfl,ap (by kernel_rfl)⟩
def K4:TI:={rs:=some (.tup [.leaf (.int .i64),.leaf (.int .i64)])}
theorem HK:aM Tryz.prog 328 K4 where
def KR:TI:={size:=some 1,agg:=some false,rs:=some (.one (.leaf (.any))),zero:=some (Value.nilFunc),conc:=true}
theorem Hi:aM Tryz.prog 335 KR where
 zero:=ai (Value.nilFunc) rfl (by kernel_rfl)
 conc:=am ⟨aB (Tryz.prog.underlying 335),by kernel_rfl,ap (by kernel_rfl)⟩
def Kn:TI:={rs:=some (.tup [.agg [.int .i64,.int .i64],.leaf (.bool)])}
theorem GJ:aM Tryz.prog 340 Kn where
def Jx:TI:={size:=some 1,agg:=some false,rs:=some (.one (.leaf (.ptr))),zero:=some (Value.pointer none),conc:=true,isPtr:=true}
theorem Fn:aM Tryz.prog 345 Jx where
 zero:=ai (Value.pointer none) rfl (by kernel_rfl)
 conc:=am ⟨aB (Tryz.prog.underlying 345),by kernel_rfl,ap (by kernel_rfl)⟩
 isPtr:=am ⟨365,by kernel_rfl⟩
def KV:TI:={size:=some 1,agg:=some false,rs:=some (.one (.leaf (.map))),zero:=some (Value.map none),elemSh:=some (.leaf (.int .i64)),conc:=true,isMap:=true}
theorem GA:aM Tryz.prog 350 KV where
 zero:=ai (Value.map none) rfl (by kernel_rfl)
 conc:=am ⟨aB (Tryz.prog.underlying 350),by kernel_rfl,ap (by kernel_rfl)⟩
 isMap:=am ⟨4,3,by kernel_rfl⟩
def K6:TI:={size:=some 1,agg:=some false,rs:=some (.one (.leaf (.ptr))),zero:=some (Value.pointer none),conc:=true,isPtr:=true}
theorem Hr:aM Tryz.prog 358 K6 where
 zero:=ai (Value.pointer none) rfl (by kernel_rfl)
 conc:=am ⟨aB (Tryz.prog.underlying 358),by kernel_rfl,ap (by kernel_rfl)⟩
 isPtr:=am ⟨3,by kernel_rfl⟩
def J8:TI:={size:=some 1,agg:=some false,rs:=some (.one (.leaf (.ptr))),zero:=some (Value.pointer none),conc:=true,isPtr:=true}
theorem Gw:aM Tryz.prog 360 J8 where
 zero:=ai (Value.pointer none) rfl (by kernel_rfl)
 conc:=am ⟨aB (Tryz.prog.underlying 360),by kernel_rfl,ap (by kernel_rfl)⟩
 isPtr:=am ⟨381,by kernel_rfl⟩
def KH:TI:={size:=some 2,agg:=some true,rs:=some (.one (.agg [.int .i64,.int .i64])),zero:=some (Value.agg #[Value.int .i64 0,Value.int .i64 0]),offs:=some [(0,1,true)],conc:=true}
theorem Fv:aM Tryz.prog 363 KH where
 size:=ai (2) rfl (by kernel_rfl)
 agg:=ai (true) rfl (by kernel_rfl)
 zero:=ai (Value.agg #[Value.int .i64 0,Value.int .i64 0]) rfl (by kernel_rfl)
 offs:=ai [(0,1,true)] rfl ⟨bh (Tryz.prog.underlying 363),by kernel_rfl,by kernel_rfl⟩
 conc:=am ⟨aB (Tryz.prog.underlying 363),by kernel_rfl,ap (by kernel_rfl)⟩
def Km:TI:={size:=some 5,agg:=some true,rs:=some (.one (.agg [.int .i64,.int .i64,.ptr,.int .i64,.int .i64])),zero:=some (Value.agg #[Value.int .i64 0,Value.int .i64 0,Value.pointer none,Value.int .i64 0,Value.int .i64 0]),offs:=some [(0,1,true),(2,0,false),(3,0,false),(4,0,false)],conc:=true}
theorem FZ:aM Tryz.prog 365 Km where
 size:=ai (5) rfl (by kernel_rfl)
 agg:=ai (true) rfl (by kernel_rfl)
 zero:=ai (Value.agg #[Value.int .i64 0,Value.int .i64 0,Value.pointer none,Value.int .i64 0,Value.int .i64 0]) rfl (by kernel_rfl)
 offs:=ai [(0,1,true),(2,0,false),(3,0,false),(4,0,false)] rfl ⟨bh (Tryz.prog.underlying 365),by kernel_rfl,by kernel_rfl⟩
 conc:=am ⟨aB (Tryz.prog.underlying 365),by kernel_rfl,ap (by kernel_rfl)⟩
def KF:TI:={size:=some 1,agg:=some false,rs:=some (.one (.leaf (.ptr))),zero:=some (Value.pointer none),conc:=true,isPtr:=true}
theorem FS:aM Tryz.prog 375 KF where
 zero:=ai (Value.pointer none) rfl (by kernel_rfl)
 conc:=am ⟨aB (Tryz.prog.underlying 375),by kernel_rfl,ap (by kernel_rfl)⟩
 isPtr:=am ⟨393,by kernel_rfl⟩
def KJ:TI:={size:=some 3,agg:=some true,rs:=some (.one (.agg [.int .i64,.int .i64,.int .i64])),zero:=some (Value.agg #[Value.int .i64 0,Value.int .i64 0,Value.int .i64 0]),offs:=some [(0,0,false),(1,1,true)],conc:=true}
theorem Gh:aM Tryz.prog 378 KJ where
 size:=ai (3) rfl (by kernel_rfl)
 agg:=ai (true) rfl (by kernel_rfl)
 zero:=ai (Value.agg #[Value.int .i64 0,Value.int .i64 0,Value.int .i64 0]) rfl (by kernel_rfl)
 offs:=ai [(0,0,false),(1,1,true)] rfl ⟨bh (Tryz.prog.underlying 378),by kernel_rfl,by kernel_rfl⟩
 conc:=am ⟨aB (Tryz.prog.underlying 378),by kernel_rfl,ap (by kernel_rfl)⟩
def K7:TI:={size:=some 1,agg:=some false,rs:=some (.one (.leaf (.slice))),zero:=some (Value.slice none 0 0),slc:=some (383,3),conc:=true,isSlc:=true}
theorem FN:aM Tryz.prog 379 K7 where
 zero:=ai (Value.slice none 0 0) rfl (by kernel_rfl)
 slc:=bo 383 3 rfl ⟨by kernel_rfl,by kernel_rfl⟩
 conc:=am ⟨aB (Tryz.prog.underlying 379),by kernel_rfl,ap (by kernel_rfl)⟩
 isSlc:=am ⟨383,by kernel_rfl⟩
def K8:TI:={size:=some 5,agg:=some true,rs:=some (.one (.agg [.ptr,.slice,.ptr,.int .i64,.int .i64])),zero:=some (Value.agg #[Value.pointer none,Value.slice none 0 0,Value.pointer none,Value.int .i64 0,Value.int .i64 0]),offs:=some [(0,0,false),(1,0,false),(2,0,false),(3,0,false),(4,0,false)],conc:=true}
theorem HZ:aM Tryz.prog 381 K8 where
 size:=ai (5) rfl (by kernel_rfl)
 agg:=ai (true) rfl (by kernel_rfl)
 zero:=ai (Value.agg #[Value.pointer none,Value.slice none 0 0,Value.pointer none,Value.int .i64 0,Value.int .i64 0]) rfl (by kernel_rfl)
 offs:=ai [(0,0,false),(1,0,false),(2,0,false),(3,0,false),(4,0,false)] rfl ⟨bh (Tryz.prog.underlying 381),by kernel_rfl,by kernel_rfl⟩
 conc:=am ⟨aB (Tryz.prog.underlying 381),by kernel_rfl,ap (by kernel_rfl)⟩
def JZ:TI:={size:=some 3,agg:=some true,rs:=some (.one (.agg [.int .i64,.int .i64,.int .i64])),zero:=some (Value.agg #[Value.int .i64 0,Value.int .i64 0,Value.int .i64 0]),offs:=some [(0,0,false),(1,0,false),(2,0,false)],eqs:=some [.i,.i,.i],conc:=true}
theorem F6:aM Tryz.prog 383 JZ where
 size:=ai (3) rfl (by kernel_rfl)
 agg:=ai (true) rfl (by kernel_rfl)
 zero:=ai (Value.agg #[Value.int .i64 0,Value.int .i64 0,Value.int .i64 0]) rfl (by kernel_rfl)
 offs:=ai [(0,0,false),(1,0,false),(2,0,false)] rfl ⟨bh (Tryz.prog.underlying 383),by kernel_rfl,by kernel_rfl⟩
 conc:=am ⟨aB (Tryz.prog.underlying 383),by kernel_rfl,ap (by kernel_rfl)⟩
 eqs:=ai [.i,.i,.i] rfl (by kernel_rfl)
def JL:TI:={rs:=some (.tup [.agg [.int .i64,.int .i64,.int .i64],.leaf (.int .i64),.leaf (.int .i64),.leaf (.bool)])}
theorem HO:aM Tryz.prog 384 JL where
def JF:TI:={size:=some 1,agg:=some false,rs:=some (.one (.leaf (.slice))),zero:=some (Value.slice none 0 0),slc:=some (399,6),conc:=true,isSlc:=true}
theorem G7:aM Tryz.prog 391 JF where
 zero:=ai (Value.slice none 0 0) rfl (by kernel_rfl)
 slc:=bo 399 6 rfl ⟨by kernel_rfl,by kernel_rfl⟩
 conc:=am ⟨aB (Tryz.prog.underlying 391),by kernel_rfl,ap (by kernel_rfl)⟩
 isSlc:=am ⟨399,by kernel_rfl⟩
def Kv:TI:={size:=some 2,agg:=some true,rs:=some (.one (.agg [.slice,.int .i64])),zero:=some (Value.agg #[Value.slice none 0 0,Value.int .i64 0]),offs:=some [(0,0,false),(1,0,false)],conc:=true}
theorem GV:aM Tryz.prog 393 Kv where
 size:=ai (2) rfl (by kernel_rfl)
 agg:=ai (true) rfl (by kernel_rfl)
 zero:=ai (Value.agg #[Value.slice none 0 0,Value.int .i64 0]) rfl (by kernel_rfl)
 offs:=ai [(0,0,false),(1,0,false)] rfl ⟨bh (Tryz.prog.underlying 393),by kernel_rfl,by kernel_rfl⟩
 conc:=am ⟨aB (Tryz.prog.underlying 393),by kernel_rfl,ap (by kernel_rfl)⟩
def K3:TI:={size:=some 3,agg:=some true,rs:=some (.one (.agg [.int .i64,.int .i64,.int .i64])),zero:=some (Value.agg #[Value.int .i64 0,Value.int .i64 0,Value.int .i64 0]),offs:=some [(0,0,false),(1,0,false),(2,0,false)],eqs:=some [.i,.i,.i],conc:=true}
theorem HL:aM Tryz.prog 397 K3 where
 size:=ai (3) rfl (by kernel_rfl)
 agg:=ai (true) rfl (by kernel_rfl)
 zero:=ai (Value.agg #[Value.int .i64 0,Value.int .i64 0,Value.int .i64 0]) rfl (by kernel_rfl)
 offs:=ai [(0,0,false),(1,0,false),(2,0,false)] rfl ⟨bh (Tryz.prog.underlying 397),by kernel_rfl,by kernel_rfl⟩
 conc:=am ⟨aB (Tryz.prog.underlying 397),by kernel_rfl,ap (by kernel_rfl)⟩
 eqs:=ai [.i,.i,.i] rfl (by kernel_rfl)
def Lg:TI:={size:=some 6,agg:=some true,rs:=some (.one (.agg [.int .i64,.int .i64,.int .i64,.int .i64,.int .i64,.int .i64])),zero:=some (Value.agg #[Value.int .i64 0,Value.int .i64 0,Value.int .i64 0,Value.int .i64 0,Value.int .i64 0,Value.int .i64 0]),offs:=some [(0,2,true),(3,2,true)],conc:=true}
theorem Ho:aM Tryz.prog 399 Lg where
 size:=ai (6) rfl (by kernel_rfl)
 agg:=ai (true) rfl (by kernel_rfl)
 zero:=ai (Value.agg #[Value.int .i64 0,Value.int .i64 0,Value.int .i64 0,Value.int .i64 0,Value.int .i64 0,Value.int .i64 0]) rfl (by kernel_rfl)
 offs:=ai [(0,2,true),(3,2,true)] rfl ⟨bh (Tryz.prog.underlying 399),by kernel_rfl,by kernel_rfl⟩
 conc:=am ⟨aB (Tryz.prog.underlying 399),by kernel_rfl,ap (by kernel_rfl)⟩
def JA:TI:={size:=some 2,agg:=some true,rs:=some (.one (.agg [.int .i64,.int .i64])),zero:=some (Value.agg #[Value.int .i64 0,Value.int .i64 0]),arr:=some (2,1),conc:=true}
theorem G4:aM Tryz.prog 400 JA where
 size:=ai (2) rfl (by kernel_rfl)
 agg:=ai (true) rfl (by kernel_rfl)
 zero:=ai (Value.agg #[Value.int .i64 0,Value.int .i64 0]) rfl (by kernel_rfl)
 arr:=bo 2 1 rfl ⟨3,by kernel_rfl,by kernel_rfl⟩
 conc:=am ⟨aB (Tryz.prog.underlying 400),by kernel_rfl,ap (by kernel_rfl)⟩
def MH:List (Nat×TI):=[(0,Qw),(2,Qx),(3,Qz),(4,Qy),(5,QB),(9,QA),(22,N8),(23,Ou),(24,Nq),(25,OY),(27,ME),(28,OZ),(31,NN),(32,MT),(33,NX),(34,Mg),(36,NH),(38,Og),(40,OS),(41,NU),(43,MC),(44,L6),(47,Nl),(48,Oz),(53,NS)]
theorem H':∀p∈MH,aM Tryz.prog p.1 p.2:=
 an LK<|an LP<|an LE<|an LX<|an LV<|an LJ<|an Jg<|an I'<|an Ig<|an IE<|an Ie<|an Jp<|an H8<|an IN<|an Ji<|an Ip<|an IF<|an Ix<|an Ik<|an IL<|an Is<|an IM<|an I9<|an IW<|an Jc<|pi
def O2:List (Nat×TI):=[(55,NY),(59,Nb),(60,Pa),(62,OO),(69,Pb),(70,O3),(73,OM),(75,Ni),(76,Mm),(78,OE),(82,Mp),(83,Oj),(84,NP),(86,L2),(88,Oh),(97,M7),(98,OK),(102,KE),(104,Ll),(110,Lm),(112,Kj),(118,KT),(119,Le),(121,Kz),(124,KM)]
theorem Iq:∀p∈O2,aM Tryz.prog p.1 p.2:=
 an IB<|an IU<|an Id<|an IV<|an Je<|an Iu<|an IG<|an Jq<|an Iv<|an H9<|an Im<|an IQ<|an Jk<|an Jt<|an Ja<|an Il<|an IA<|an GS<|an GX<|an HY<|an FF<|an Gf<|an Ft<|an HF<|an Gl<|pi
def MF:List (Nat×TI):=[(126,Kc),(128,Kd),(129,Ju),(130,Lj),(132,KS),(133,Lk),(134,KK),(140,Ks),(145,Jw),(148,JP),(149,Li),(153,KO),(163,Kr),(165,JG),(166,Ln),(168,Kh),(170,Ka),(172,KB),(176,Kf),(180,K0),(185,Ld),(187,JM),(192,KY),(199,Ko),(203,J4)]
theorem Jf:∀p∈MF,aM Tryz.prog p.1 p.2:=
 an Hk<|an Gm<|an G5<|an Hn<|an Gc<|an F0<|an FK<|an F9<|an Gv<|an FP<|an FI<|an H4<|an Fq<|an FC<|an G3<|an FM<|an GK<|an H0<|an Fy<|an GG<|an FB<|an FE<|an Hc<|an GQ<|an HH<|pi
def L9:List (Nat×TI):=[(208,Ku),(210,KN),(212,JE),(215,JR),(216,Kx),(218,JC),(219,JI),(220,JJ),(222,Jz),(225,Kg),(226,JU),(230,Kt),(232,Kk),(237,J0),(240,KX),(242,JW),(245,K1),(246,KL),(247,J_),(249,Ky),(252,Lo),(253,KI),(259,JN),(263,KZ),(265,K2)]
theorem Iw:∀p∈L9,aM Tryz.prog p.1 p.2:=
 an Fw<|an HA<|an H2<|an GU<|an Hm<|an Gd<|an Hp<|an Gj<|an Hf<|an GL<|an Hw<|an FO<|an Hh<|an FA<|an Hq<|an GR<|an F2<|an FQ<|an F3<|an GN<|an Gp<|an Gx<|an HQ<|an Hg<|an H3<|pi
def Nv:List (Nat×TI):=[(268,KQ),(270,K9),(273,Kl),(275,K_),(278,JX),(289,Jy),(290,JO),(291,KU),(293,KD),(306,JD),(313,JB),(315,JV),(319,Jv),(321,JT),(322,Ke),(324,La),(327,Kp),(328,K4),(335,KR),(340,Kn),(345,Jx),(350,KV),(358,K6),(360,J8),(363,KH)]
theorem IJ:∀p∈Nv,aM Tryz.prog p.1 p.2:=
 an G_<|an HM<|an H6<|an Fl<|an FV<|an FD<|an G9<|an GD<|an Gb<|an Fu<|an FU<|an Gn<|an G2<|an Gz<|an GM<|an Fs<|an Gu<|an HK<|an Hi<|an GJ<|an Fn<|an GA<|an Hr<|an Gw<|an Fv<|pi
def Np:List (Nat×TI):=[(365,Km),(375,KF),(378,KJ),(379,K7),(381,K8),(383,JZ),(384,JL),(391,JF),(393,Kv),(397,K3),(399,Lg),(400,JA)]
theorem II:∀p∈Np,aM Tryz.prog p.1 p.2:=
 an FZ<|an FS<|an Gh<|an FN<|an HZ<|an F6<|an HO<|an G7<|an GV<|an HL<|an Ho<|an G4<|pi
def tab:List (Nat×TI):=MH++O2++MF++L9++Nv++Np
set_option maxRecDepth 100000 in
theorem Lx:∀p∈tab,aM Tryz.prog p.1 p.2:=
 rU (rU (rU (rU (rU (H') Iq) Jf) Iw) IJ) II
theorem HR:Tryz.prog.follows .mixedOrders=true:=by kernel_rfl
noncomputable def gw:gr:=FG Tryz.prog tab
theorem JH:gw.Ok:=Gy Tryz.prog tab Lx HR
noncomputable def PR:gr:={gw with re:=true}
theorem Lz:PR.Ok:=JH.retype
theorem aD {f:FuncId} {fn:Func} {args:List Value} {w:World} {R:RW} {p:Prop} (hf:Tryz.prog.funcs[f]? =some fn) (hb:fn.body=some (vW fn)) (hn:Nat.ble args.length fn.ntmps=true) (hw:wf gw fn.ntmps (vW fn)=true) (h:p=HV gw (vW fn) fn.results.toList args w R) (hh:p):Calls Tryz.prog f args.toArray w fun e w'=>∃v,e= .returned v∧R v w':=
 mZ JH hf hb hn hw (Eq.mp h hh)
end Go.Proofs.YtdlcfegnaphclaaGreat.Eng
