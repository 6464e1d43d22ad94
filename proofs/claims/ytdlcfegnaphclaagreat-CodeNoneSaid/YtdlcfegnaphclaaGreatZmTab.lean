/- The types that this claim's functions name, as the loaded program has them. -/
import Derived.Test.YtdlcfegnaphclaaGreatZmEng
import Derived.Test.YtdlcfegnaphclaaGreatProg
import Derived.KernelRfl
set_option linter.unusedVariables false
namespace Go.Proofs.YtdlcfegnaphclaaGreat.Eng
open Go
abbrev OA:=Option Addr
abbrev KW:=List Value→World→Prop
abbrev RW:=Value→World→Prop
abbrev CP:=Calls Tryz.prog
abbrev CR (k:Nat) (a:Array Value) (w:World) (R:RW):Prop:=CP k a w fun e w'=>∃v,e= .returned v∧R v w'
def LC:TI:={rs:=some (.tup [])}
theorem G_:aD Tryz.prog 0 LC where
def LD:TI:={size:=some 1,agg:=some false,rs:=some (.one (.leaf (.int .i64))),zero:=some (Value.int .i64 0),intk:=some .i64,conc:=true}
theorem Hh:aD Tryz.prog 2 LD where
 zero:=af (Value.int .i64 0) rfl (by kernel_rfl)
 intk:=af (IntKind.i64) rfl (by kernel_rfl)
 conc:=ak ⟨ax (Tryz.prog.underlying 2),by kernel_rfl,an (by kernel_rfl)⟩
def LA:TI:={size:=some 1,agg:=some false,rs:=some (.one (.leaf (.int .i64))),zero:=some (Value.int .i64 0),intk:=some .i64,conc:=true}
theorem Ha:aD Tryz.prog 3 LA where
 zero:=af (Value.int .i64 0) rfl (by kernel_rfl)
 intk:=af (IntKind.i64) rfl (by kernel_rfl)
 conc:=ak ⟨ax (Tryz.prog.underlying 3),by kernel_rfl,an (by kernel_rfl)⟩
def LB:TI:={size:=some 1,agg:=some false,rs:=some (.one (.leaf (.bool))),zero:=some (Value.bool false),conc:=true,isBool:=true}
theorem Hu:aD Tryz.prog 4 LB where
 zero:=af (Value.bool false) rfl (by kernel_rfl)
 conc:=ak ⟨ax (Tryz.prog.underlying 4),by kernel_rfl,an (by kernel_rfl)⟩
 isBool:=ak (by kernel_rfl)
def LE:TI:={size:=some 1,agg:=some false,rs:=some (.one (.leaf (.int .u8))),zero:=some (Value.int .u8 0),intk:=some .u8,conc:=true}
theorem HB:aD Tryz.prog 5 LE where
 zero:=af (Value.int .u8 0) rfl (by kernel_rfl)
 intk:=af (IntKind.u8) rfl (by kernel_rfl)
 conc:=ak ⟨ax (Tryz.prog.underlying 5),by kernel_rfl,an (by kernel_rfl)⟩
def LF:TI:={size:=some 1,agg:=some false,rs:=some (.one (.leaf (.str))),zero:=some (Value.string ⟨#[]⟩),isStr:=true,conc:=true}
theorem G7:aD Tryz.prog 9 LF where
 zero:=af (Value.string ⟨#[]⟩) rfl (by kernel_rfl)
 isStr:=ak (by kernel_rfl)
 conc:=ak ⟨ax (Tryz.prog.underlying 9),by kernel_rfl,an (by kernel_rfl)⟩
def Kq:TI:={size:=some 1,agg:=some false,rs:=some (.one (.leaf (.slice))),zero:=some (Value.slice none 0 0),slc:=some (321,1),conc:=true,isSlc:=true}
theorem D':aD Tryz.prog 22 Kq where
 zero:=af (Value.slice none 0 0) rfl (by kernel_rfl)
 slc:=aV 321 1 rfl ⟨by kernel_rfl,by kernel_rfl⟩
 conc:=ak ⟨ax (Tryz.prog.underlying 22),by kernel_rfl,an (by kernel_rfl)⟩
 isSlc:=ak ⟨321,by kernel_rfl⟩
def Js:TI:={size:=some 1,agg:=some false,rs:=some (.one (.leaf (.slice))),zero:=some (Value.slice none 0 0),slc:=some (215,3),conc:=true,isSlc:=true}
theorem D8:aD Tryz.prog 23 Js where
 zero:=af (Value.slice none 0 0) rfl (by kernel_rfl)
 slc:=aV 215 3 rfl ⟨by kernel_rfl,by kernel_rfl⟩
 conc:=ak ⟨ax (Tryz.prog.underlying 23),by kernel_rfl,an (by kernel_rfl)⟩
 isSlc:=ak ⟨215,by kernel_rfl⟩
def JH:TI:={size:=some 1,agg:=some false,rs:=some (.one (.leaf (.slice))),zero:=some (Value.slice none 0 0),slc:=some (218,2),conc:=true,isSlc:=true}
theorem EO:aD Tryz.prog 24 JH where
 zero:=af (Value.slice none 0 0) rfl (by kernel_rfl)
 slc:=aV 218 2 rfl ⟨by kernel_rfl,by kernel_rfl⟩
 conc:=ak ⟨ax (Tryz.prog.underlying 24),by kernel_rfl,an (by kernel_rfl)⟩
 isSlc:=ak ⟨218,by kernel_rfl⟩
def Jh:TI:={size:=some 1,agg:=some false,rs:=some (.one (.leaf (.slice))),zero:=some (Value.slice none 0 0),slc:=some (75,2),conc:=true,isSlc:=true}
theorem E8:aD Tryz.prog 25 Jh where
 zero:=af (Value.slice none 0 0) rfl (by kernel_rfl)
 slc:=aV 75 2 rfl ⟨by kernel_rfl,by kernel_rfl⟩
 conc:=ak ⟨ax (Tryz.prog.underlying 25),by kernel_rfl,an (by kernel_rfl)⟩
 isSlc:=ak ⟨75,by kernel_rfl⟩
def Kw:TI:={size:=some 4,agg:=some true,rs:=some (.one (.agg [.slice,.slice,.slice,.slice])),zero:=some (Value.agg #[Value.slice none 0 0,Value.slice none 0 0,Value.slice none 0 0,Value.slice none 0 0]),offs:=some [(0,0,false),(1,0,false),(2,0,false),(3,0,false)],conc:=true}
theorem Ew:aD Tryz.prog 27 Kw where
 size:=af (4) rfl (by kernel_rfl)
 agg:=af (true) rfl (by kernel_rfl)
 zero:=af (Value.agg #[Value.slice none 0 0,Value.slice none 0 0,Value.slice none 0 0,Value.slice none 0 0]) rfl (by kernel_rfl)
 offs:=af [(0,0,false),(1,0,false),(2,0,false),(3,0,false)] rfl ⟨aR (Tryz.prog.underlying 27),by kernel_rfl,by kernel_rfl⟩
 conc:=ak ⟨ax (Tryz.prog.underlying 27),by kernel_rfl,an (by kernel_rfl)⟩
def IE:TI:={size:=some 1,agg:=some false,rs:=some (.one (.leaf (.slice))),zero:=some (Value.slice none 0 0),slc:=some (3,1),conc:=true,isSlc:=true}
theorem Eu:aD Tryz.prog 28 IE where
 zero:=af (Value.slice none 0 0) rfl (by kernel_rfl)
 slc:=aV 3 1 rfl ⟨by kernel_rfl,by kernel_rfl⟩
 conc:=ak ⟨ax (Tryz.prog.underlying 28),by kernel_rfl,an (by kernel_rfl)⟩
 isSlc:=ak ⟨3,by kernel_rfl⟩
def I0:TI:={size:=some 1,agg:=some false,rs:=some (.one (.leaf (.ptr))),zero:=some (Value.pointer none),conc:=true,isPtr:=true}
theorem ED:aD Tryz.prog 31 I0 where
 zero:=af (Value.pointer none) rfl (by kernel_rfl)
 conc:=ak ⟨ax (Tryz.prog.underlying 31),by kernel_rfl,an (by kernel_rfl)⟩
 isPtr:=ak ⟨126,by kernel_rfl⟩
def IB:TI:={size:=some 1,agg:=some false,rs:=some (.one (.leaf (.ptr))),zero:=some (Value.pointer none),conc:=true,isPtr:=true}
theorem Ep:aD Tryz.prog 32 IB where
 zero:=af (Value.pointer none) rfl (by kernel_rfl)
 conc:=ak ⟨ax (Tryz.prog.underlying 32),by kernel_rfl,an (by kernel_rfl)⟩
 isPtr:=ak ⟨132,by kernel_rfl⟩
def Jp:TI:={size:=some 1,agg:=some false,rs:=some (.one (.leaf (.slice))),zero:=some (Value.slice none 0 0),slc:=some (9,1),conc:=true,isSlc:=true}
theorem EZ:aD Tryz.prog 33 Jp where
 zero:=af (Value.slice none 0 0) rfl (by kernel_rfl)
 slc:=aV 9 1 rfl ⟨by kernel_rfl,by kernel_rfl⟩
 conc:=ak ⟨ax (Tryz.prog.underlying 33),by kernel_rfl,an (by kernel_rfl)⟩
 isSlc:=ak ⟨9,by kernel_rfl⟩
def Jy:TI:={size:=some 1,agg:=some false,rs:=some (.one (.leaf (.slice))),zero:=some (Value.slice none 0 0),slc:=some (118,2),conc:=true,isSlc:=true}
theorem EG:aD Tryz.prog 34 Jy where
 zero:=af (Value.slice none 0 0) rfl (by kernel_rfl)
 slc:=aV 118 2 rfl ⟨by kernel_rfl,by kernel_rfl⟩
 conc:=ak ⟨ax (Tryz.prog.underlying 34),by kernel_rfl,an (by kernel_rfl)⟩
 isSlc:=ak ⟨118,by kernel_rfl⟩
def JV:TI:={size:=some 2,agg:=some true,rs:=some (.one (.agg [.slice,.slice])),zero:=some (Value.agg #[Value.slice none 0 0,Value.slice none 0 0]),offs:=some [(0,0,false),(1,0,false)],conc:=true}
theorem El:aD Tryz.prog 36 JV where
 size:=af (2) rfl (by kernel_rfl)
 agg:=af (true) rfl (by kernel_rfl)
 zero:=af (Value.agg #[Value.slice none 0 0,Value.slice none 0 0]) rfl (by kernel_rfl)
 offs:=af [(0,0,false),(1,0,false)] rfl ⟨aR (Tryz.prog.underlying 36),by kernel_rfl,by kernel_rfl⟩
 conc:=ak ⟨ax (Tryz.prog.underlying 36),by kernel_rfl,an (by kernel_rfl)⟩
def IP:TI:={size:=some 2,agg:=some true,rs:=some (.one (.agg [.slice,.slice])),zero:=some (Value.agg #[Value.slice none 0 0,Value.slice none 0 0]),offs:=some [(0,0,false),(1,0,false)],conc:=true}
theorem Es:aD Tryz.prog 38 IP where
 size:=af (2) rfl (by kernel_rfl)
 agg:=af (true) rfl (by kernel_rfl)
 zero:=af (Value.agg #[Value.slice none 0 0,Value.slice none 0 0]) rfl (by kernel_rfl)
 offs:=af [(0,0,false),(1,0,false)] rfl ⟨aR (Tryz.prog.underlying 38),by kernel_rfl,by kernel_rfl⟩
 conc:=ak ⟨ax (Tryz.prog.underlying 38),by kernel_rfl,an (by kernel_rfl)⟩
def IL:TI:={size:=some 5,agg:=some true,rs:=some (.one (.agg [.slice,.slice,.slice,.slice,.slice])),zero:=some (Value.agg #[Value.slice none 0 0,Value.slice none 0 0,Value.slice none 0 0,Value.slice none 0 0,Value.slice none 0 0]),offs:=some [(0,1,true),(2,1,true),(4,0,false)],conc:=true}
theorem D6:aD Tryz.prog 40 IL where
 size:=af (5) rfl (by kernel_rfl)
 agg:=af (true) rfl (by kernel_rfl)
 zero:=af (Value.agg #[Value.slice none 0 0,Value.slice none 0 0,Value.slice none 0 0,Value.slice none 0 0,Value.slice none 0 0]) rfl (by kernel_rfl)
 offs:=af [(0,1,true),(2,1,true),(4,0,false)] rfl ⟨aR (Tryz.prog.underlying 40),by kernel_rfl,by kernel_rfl⟩
 conc:=ak ⟨ax (Tryz.prog.underlying 40),by kernel_rfl,an (by kernel_rfl)⟩
def HI:TI:={rs:=some (.tup [.leaf (.ptr),.leaf (.ptr),.agg [.slice,.slice,.slice,.slice,.slice]])}
theorem EC:aD Tryz.prog 41 HI where
def KF:TI:={size:=some 1,agg:=some false,rs:=some (.one (.leaf (.int .i64))),zero:=some (Value.int .i64 0),intk:=some .i64,conc:=true}
theorem EB:aD Tryz.prog 43 KF where
 zero:=af (Value.int .i64 0) rfl (by kernel_rfl)
 intk:=af (IntKind.i64) rfl (by kernel_rfl)
 conc:=ak ⟨ax (Tryz.prog.underlying 43),by kernel_rfl,an (by kernel_rfl)⟩
def Id:TI:={rs:=some (.tup [.leaf (.slice),.leaf (.int .i64),.leaf (.int .i64)])}
theorem EP:aD Tryz.prog 44 Id where
def Il:TI:={size:=some 1,agg:=some false,rs:=some (.one (.leaf (.slice))),zero:=some (Value.slice none 0 0),slc:=some (59,1),conc:=true,isSlc:=true}
theorem Eh:aD Tryz.prog 47 Il where
 zero:=af (Value.slice none 0 0) rfl (by kernel_rfl)
 slc:=aV 59 1 rfl ⟨by kernel_rfl,by kernel_rfl⟩
 conc:=ak ⟨ax (Tryz.prog.underlying 47),by kernel_rfl,an (by kernel_rfl)⟩
 isSlc:=ak ⟨59,by kernel_rfl⟩
def IF:TI:={rs:=some (.tup [.leaf (.slice),.leaf (.int .i64),.leaf (.int .i64)])}
theorem EU:aD Tryz.prog 48 IF where
def KB:TI:={rs:=some (.tup [.leaf (.int .i64),.leaf (.bool)])}
theorem Ev:aD Tryz.prog 53 KB where
def H8:TI:={size:=some 1,agg:=some false,rs:=some (.one (.leaf (.any))),zero:=some (Value.nilFunc),conc:=true}
theorem Er:aD Tryz.prog 55 H8 where
 zero:=af (Value.nilFunc) rfl (by kernel_rfl)
 conc:=ak ⟨ax (Tryz.prog.underlying 55),by kernel_rfl,an (by kernel_rfl)⟩
def JS:TI:={size:=some 1,agg:=some false,rs:=some (.one (.leaf (.int .u64))),zero:=some (Value.int .u64 0),intk:=some .u64,conc:=true}
theorem Eo:aD Tryz.prog 59 JS where
 zero:=af (Value.int .u64 0) rfl (by kernel_rfl)
 intk:=af (IntKind.u64) rfl (by kernel_rfl)
 conc:=ak ⟨ax (Tryz.prog.underlying 59),by kernel_rfl,an (by kernel_rfl)⟩
def IG:TI:={size:=some 1,agg:=some false,rs:=some (.one (.leaf (.int .u64))),zero:=some (Value.int .u64 0),intk:=some .u64,conc:=true}
theorem Fb:aD Tryz.prog 60 IG where
 zero:=af (Value.int .u64 0) rfl (by kernel_rfl)
 intk:=af (IntKind.u64) rfl (by kernel_rfl)
 conc:=ak ⟨ax (Tryz.prog.underlying 60),by kernel_rfl,an (by kernel_rfl)⟩
def JM:TI:={rs:=some (.tup [.leaf (.slice),.leaf (.str),.leaf (.int .i64)])}
theorem Ey:aD Tryz.prog 62 JM where
def Ih:TI:={size:=some 1,agg:=some false,rs:=some (.one (.leaf (.ptr))),zero:=some (Value.pointer none),conc:=true,isPtr:=true}
theorem Eg:aD Tryz.prog 69 Ih where
 zero:=af (Value.pointer none) rfl (by kernel_rfl)
 conc:=ak ⟨ax (Tryz.prog.underlying 69),by kernel_rfl,an (by kernel_rfl)⟩
 isPtr:=ak ⟨237,by kernel_rfl⟩
def JX:TI:={rs:=some (.tup [.leaf (.ptr),.leaf (.int .i64),.leaf (.int .i64)])}
theorem Fc:aD Tryz.prog 70 JX where
def HV:TI:={size:=some 6,agg:=some true,rs:=some (.one (.agg [.bool,.slice,.slice,.slice,.slice,.slice])),zero:=some (Value.agg #[Value.bool false,Value.slice none 0 0,Value.slice none 0 0,Value.slice none 0 0,Value.slice none 0 0,Value.slice none 0 0]),offs:=some [(0,0,false),(1,0,false),(2,0,false),(3,0,false),(4,0,false),(5,0,false)],conc:=true}
theorem E9:aD Tryz.prog 73 HV where
 size:=af (6) rfl (by kernel_rfl)
 agg:=af (true) rfl (by kernel_rfl)
 zero:=af (Value.agg #[Value.bool false,Value.slice none 0 0,Value.slice none 0 0,Value.slice none 0 0,Value.slice none 0 0,Value.slice none 0 0]) rfl (by kernel_rfl)
 offs:=af [(0,0,false),(1,0,false),(2,0,false),(3,0,false),(4,0,false),(5,0,false)] rfl ⟨aR (Tryz.prog.underlying 73),by kernel_rfl,by kernel_rfl⟩
 conc:=ak ⟨ax (Tryz.prog.underlying 73),by kernel_rfl,an (by kernel_rfl)⟩
def Ip:TI:={size:=some 2,agg:=some true,rs:=some (.one (.agg [.int .i64,.str])),zero:=some (Value.agg #[Value.int .i64 0,Value.string ⟨#[]⟩]),offs:=some [(0,0,false),(1,0,false)],eqs:=some [.i,.s],conc:=true}
theorem E4:aD Tryz.prog 75 Ip where
 size:=af (2) rfl (by kernel_rfl)
 agg:=af (true) rfl (by kernel_rfl)
 zero:=af (Value.agg #[Value.int .i64 0,Value.string ⟨#[]⟩]) rfl (by kernel_rfl)
 offs:=af [(0,0,false),(1,0,false)] rfl ⟨aR (Tryz.prog.underlying 75),by kernel_rfl,by kernel_rfl⟩
 conc:=ak ⟨ax (Tryz.prog.underlying 75),by kernel_rfl,an (by kernel_rfl)⟩
 eqs:=af [.i,.s] rfl (by kernel_rfl)
def Jq:TI:={rs:=some (.tup [.leaf (.ptr),.leaf (.int .i64)])}
theorem EH:aD Tryz.prog 76 Jq where
def Kg:TI:={rs:=some (.tup [.leaf (.ptr),.leaf (.int .i64)])}
theorem E3:aD Tryz.prog 78 Kg where
def KG:TI:={size:=some 1,agg:=some false,rs:=some (.one (.leaf (.ptr))),zero:=some (Value.pointer none),conc:=true,isPtr:=true}
theorem Eb:aD Tryz.prog 82 KG where
 zero:=af (Value.pointer none) rfl (by kernel_rfl)
 conc:=ak ⟨ax (Tryz.prog.underlying 82),by kernel_rfl,an (by kernel_rfl)⟩
 isPtr:=ak ⟨172,by kernel_rfl⟩
def H0:TI:={size:=some 1,agg:=some false,rs:=some (.one (.leaf (.ptr))),zero:=some (Value.pointer none),conc:=true,isPtr:=true}
theorem Ee:aD Tryz.prog 83 H0 where
 zero:=af (Value.pointer none) rfl (by kernel_rfl)
 conc:=ak ⟨ax (Tryz.prog.underlying 83),by kernel_rfl,an (by kernel_rfl)⟩
 isPtr:=ak ⟨165,by kernel_rfl⟩
def Kj:TI:={rs:=some (.tup [.leaf (.ptr),.leaf (.ptr),.leaf (.ptr),.agg [.slice,.slice,.slice,.slice,.slice]])}
theorem E2:aD Tryz.prog 84 Kj where
def Ii:TI:={size:=some 1,agg:=some false,rs:=some (.one (.leaf (.slice))),zero:=some (Value.slice none 0 0),slc:=some (153,1),conc:=true,isSlc:=true}
theorem D7:aD Tryz.prog 86 Ii where
 zero:=af (Value.slice none 0 0) rfl (by kernel_rfl)
 slc:=aV 153 1 rfl ⟨by kernel_rfl,by kernel_rfl⟩
 conc:=ak ⟨ax (Tryz.prog.underlying 86),by kernel_rfl,an (by kernel_rfl)⟩
 isSlc:=ak ⟨153,by kernel_rfl⟩
def IJ:TI:={size:=some 1,agg:=some true,rs:=some (.one (.agg [.slice])),zero:=some (Value.agg #[Value.slice none 0 0]),offs:=some [(0,0,false)],conc:=true}
theorem Ez:aD Tryz.prog 88 IJ where
 agg:=af (true) rfl (by kernel_rfl)
 zero:=af (Value.agg #[Value.slice none 0 0]) rfl (by kernel_rfl)
 offs:=af [(0,0,false)] rfl ⟨aR (Tryz.prog.underlying 88),by kernel_rfl,by kernel_rfl⟩
 conc:=ak ⟨ax (Tryz.prog.underlying 88),by kernel_rfl,an (by kernel_rfl)⟩
def JU:TI:={size:=some 1,agg:=some false,rs:=some (.one (.leaf (.slice))),zero:=some (Value.slice none 0 0),slc:=some (5,1),conc:=true,isSlc:=true}
theorem EI:aD Tryz.prog 97 JU where
 zero:=af (Value.slice none 0 0) rfl (by kernel_rfl)
 slc:=aV 5 1 rfl ⟨by kernel_rfl,by kernel_rfl⟩
 conc:=ak ⟨ax (Tryz.prog.underlying 97),by kernel_rfl,an (by kernel_rfl)⟩
 isSlc:=ak ⟨5,by kernel_rfl⟩
def IZ:TI:={size:=some 1,agg:=some false,rs:=some (.one (.leaf (.slice))),zero:=some (Value.slice none 0 0),slc:=some (5,1),conc:=true,isSlc:=true}
theorem E_:aD Tryz.prog 98 IZ where
 zero:=af (Value.slice none 0 0) rfl (by kernel_rfl)
 slc:=aV 5 1 rfl ⟨by kernel_rfl,by kernel_rfl⟩
 conc:=ak ⟨ax (Tryz.prog.underlying 98),by kernel_rfl,an (by kernel_rfl)⟩
 isSlc:=ak ⟨5,by kernel_rfl⟩
def Fy:TI:={rs:=some (.tup [.leaf (.slice),.leaf (.int .i64)])}
theorem Cc:aD Tryz.prog 102 Fy where
def Fw:TI:={rs:=some (.tup [.agg [.slice],.leaf (.int .i64)])}
theorem Cw:aD Tryz.prog 104 Fw where
def Fh:TI:={rs:=some (.tup [.leaf (.ptr),.leaf (.int .i64)])}
theorem CU:aD Tryz.prog 110 Fh where
def FV:TI:={rs:=some (.tup [.leaf (.ptr),.leaf (.int .i64)])}
theorem Cx:aD Tryz.prog 112 FV where
def G5:TI:={size:=some 2,agg:=some true,rs:=some (.one (.agg [.int .i64,.int .i64])),zero:=some (Value.agg #[Value.int .i64 0,Value.int .i64 0]),offs:=some [(0,0,false),(1,0,false)],eqs:=some [.i,.i],conc:=true}
theorem Dv:aD Tryz.prog 118 G5 where
 size:=af (2) rfl (by kernel_rfl)
 agg:=af (true) rfl (by kernel_rfl)
 zero:=af (Value.agg #[Value.int .i64 0,Value.int .i64 0]) rfl (by kernel_rfl)
 offs:=af [(0,0,false),(1,0,false)] rfl ⟨aR (Tryz.prog.underlying 118),by kernel_rfl,by kernel_rfl⟩
 conc:=ak ⟨ax (Tryz.prog.underlying 118),by kernel_rfl,an (by kernel_rfl)⟩
 eqs:=af [.i,.i] rfl (by kernel_rfl)
def Fj:TI:={rs:=some (.tup [.leaf (.ptr),.agg [.slice,.slice,.slice,.slice,.slice]])}
theorem BI:aD Tryz.prog 119 Fj where
def Gv:TI:={rs:=some (.tup [.leaf (.int .i64),.leaf (.int .i64)])}
theorem DC:aD Tryz.prog 121 Gv where
def FC:TI:={size:=some 1,agg:=some false,rs:=some (.one (.leaf (.ptr))),zero:=some (Value.pointer none),conc:=true,isPtr:=true}
theorem DM:aD Tryz.prog 124 FC where
 zero:=af (Value.pointer none) rfl (by kernel_rfl)
 conc:=ak ⟨ax (Tryz.prog.underlying 124),by kernel_rfl,an (by kernel_rfl)⟩
 isPtr:=ak ⟨242,by kernel_rfl⟩
def Fo:TI:={size:=some 3,agg:=some true,rs:=some (.one (.agg [.ptr,.ptr,.ptr])),zero:=some (Value.agg #[Value.pointer none,Value.pointer none,Value.pointer none]),offs:=some [(0,0,false),(1,0,false),(2,0,false)],conc:=true}
theorem Dy:aD Tryz.prog 126 Fo where
 size:=af (3) rfl (by kernel_rfl)
 agg:=af (true) rfl (by kernel_rfl)
 zero:=af (Value.agg #[Value.pointer none,Value.pointer none,Value.pointer none]) rfl (by kernel_rfl)
 offs:=af [(0,0,false),(1,0,false),(2,0,false)] rfl ⟨aR (Tryz.prog.underlying 126),by kernel_rfl,by kernel_rfl⟩
 conc:=ak ⟨ax (Tryz.prog.underlying 126),by kernel_rfl,an (by kernel_rfl)⟩
def FU:TI:={size:=some 1,agg:=some false,rs:=some (.one (.leaf (.map))),zero:=some (Value.map none),elemSh:=some (.leaf (.int .i64)),conc:=true,isMap:=true}
theorem B4:aD Tryz.prog 128 FU where
 zero:=af (Value.map none) rfl (by kernel_rfl)
 conc:=ak ⟨ax (Tryz.prog.underlying 128),by kernel_rfl,an (by kernel_rfl)⟩
 isMap:=ak ⟨3,3,by kernel_rfl⟩
def FS:TI:={size:=some 1,agg:=some false,rs:=some (.one (.leaf (.slice))),zero:=some (Value.slice none 0 0),slc:=some (130,1),conc:=true,isSlc:=true}
theorem DE:aD Tryz.prog 129 FS where
 zero:=af (Value.slice none 0 0) rfl (by kernel_rfl)
 slc:=aV 130 1 rfl ⟨by kernel_rfl,by kernel_rfl⟩
 conc:=ak ⟨ax (Tryz.prog.underlying 129),by kernel_rfl,an (by kernel_rfl)⟩
 isSlc:=ak ⟨130,by kernel_rfl⟩
def GQ:TI:={size:=some 1,agg:=some false,rs:=some (.one (.leaf (.slice))),zero:=some (Value.slice none 0 0),slc:=some (59,1),conc:=true,isSlc:=true}
theorem D2:aD Tryz.prog 130 GQ where
 zero:=af (Value.slice none 0 0) rfl (by kernel_rfl)
 slc:=aV 59 1 rfl ⟨by kernel_rfl,by kernel_rfl⟩
 conc:=ak ⟨ax (Tryz.prog.underlying 130),by kernel_rfl,an (by kernel_rfl)⟩
 isSlc:=ak ⟨59,by kernel_rfl⟩
def GL:TI:={size:=some 4,agg:=some true,rs:=some (.one (.agg [.slice,.map,.slice,.slice])),zero:=some (Value.agg #[Value.slice none 0 0,Value.map none,Value.slice none 0 0,Value.slice none 0 0]),offs:=some [(0,0,false),(1,0,false),(2,0,false),(3,0,false)],conc:=true}
theorem DR:aD Tryz.prog 132 GL where
 size:=af (4) rfl (by kernel_rfl)
 agg:=af (true) rfl (by kernel_rfl)
 zero:=af (Value.agg #[Value.slice none 0 0,Value.map none,Value.slice none 0 0,Value.slice none 0 0]) rfl (by kernel_rfl)
 offs:=af [(0,0,false),(1,0,false),(2,0,false),(3,0,false)] rfl ⟨aR (Tryz.prog.underlying 132),by kernel_rfl,by kernel_rfl⟩
 conc:=ak ⟨ax (Tryz.prog.underlying 132),by kernel_rfl,an (by kernel_rfl)⟩
def Fu:TI:={size:=some 1,agg:=some false,rs:=some (.one (.leaf (.any))),zero:=some (Value.nilFunc),conc:=true}
theorem CZ:aD Tryz.prog 133 Fu where
 zero:=af (Value.nilFunc) rfl (by kernel_rfl)
 conc:=ak ⟨ax (Tryz.prog.underlying 133),by kernel_rfl,an (by kernel_rfl)⟩
def FT:TI:={rs:=some (.tup [.leaf (.int .i64),.leaf (.str),.leaf (.bool)])}
theorem CK:aD Tryz.prog 134 FT where
def Gg:TI:={rs:=some (.tup [.leaf (.ptr),.leaf (.int .i64),.leaf (.int .i64),.leaf (.int .i64)])}
theorem Cq:aD Tryz.prog 140 Gg where
def Gf:TI:={size:=some 1,agg:=some false,rs:=some (.one (.leaf (.ptr))),zero:=some (Value.pointer none),conc:=true,isPtr:=true}
theorem D0:aD Tryz.prog 145 Gf where
 zero:=af (Value.pointer none) rfl (by kernel_rfl)
 conc:=ak ⟨ax (Tryz.prog.underlying 145),by kernel_rfl,an (by kernel_rfl)⟩
 isPtr:=ak ⟨249,by kernel_rfl⟩
def GU:TI:={size:=some 1,agg:=some false,rs:=some (.one (.leaf (.slice))),zero:=some (Value.slice none 0 0),slc:=some (28,1),conc:=true,isSlc:=true}
theorem DG:aD Tryz.prog 148 GU where
 zero:=af (Value.slice none 0 0) rfl (by kernel_rfl)
 slc:=aV 28 1 rfl ⟨by kernel_rfl,by kernel_rfl⟩
 conc:=ak ⟨ax (Tryz.prog.underlying 148),by kernel_rfl,an (by kernel_rfl)⟩
 isSlc:=ak ⟨28,by kernel_rfl⟩
def Gc:TI:={size:=some 1,agg:=some false,rs:=some (.one (.leaf (.slice))),zero:=some (Value.slice none 0 0),slc:=some (4,1),conc:=true,isSlc:=true}
theorem BR:aD Tryz.prog 149 Gc where
 zero:=af (Value.slice none 0 0) rfl (by kernel_rfl)
 slc:=aV 4 1 rfl ⟨by kernel_rfl,by kernel_rfl⟩
 conc:=ak ⟨ax (Tryz.prog.underlying 149),by kernel_rfl,an (by kernel_rfl)⟩
 isSlc:=ak ⟨4,by kernel_rfl⟩
def F7:TI:={size:=some 1,agg:=some false,rs:=some (.one (.leaf (.int .u32))),zero:=some (Value.int .u32 0),intk:=some .u32,conc:=true}
theorem CM:aD Tryz.prog 153 F7 where
 zero:=af (Value.int .u32 0) rfl (by kernel_rfl)
 intk:=af (IntKind.u32) rfl (by kernel_rfl)
 conc:=ak ⟨ax (Tryz.prog.underlying 153),by kernel_rfl,an (by kernel_rfl)⟩
def F1:TI:={size:=some 4,agg:=some true,rs:=some (.one (.agg [.int .u32,.int .i32,.int .u32,.slice])),zero:=some (Value.agg #[Value.int .u32 0,Value.int .i32 0,Value.int .u32 0,Value.slice none 0 0]),offs:=some [(0,2,true),(3,0,false)],conc:=true}
theorem Df:aD Tryz.prog 163 F1 where
 size:=af (4) rfl (by kernel_rfl)
 agg:=af (true) rfl (by kernel_rfl)
 zero:=af (Value.agg #[Value.int .u32 0,Value.int .i32 0,Value.int .u32 0,Value.slice none 0 0]) rfl (by kernel_rfl)
 offs:=af [(0,2,true),(3,0,false)] rfl ⟨aR (Tryz.prog.underlying 163),by kernel_rfl,by kernel_rfl⟩
 conc:=ak ⟨ax (Tryz.prog.underlying 163),by kernel_rfl,an (by kernel_rfl)⟩
def Gr:TI:={size:=some 7,agg:=some true,rs:=some (.one (.agg [.ptr,.slice,.slice,.int .u32,.int .i32,.int .u32,.slice])),zero:=some (Value.agg #[Value.pointer none,Value.slice none 0 0,Value.slice none 0 0,Value.int .u32 0,Value.int .i32 0,Value.int .u32 0,Value.slice none 0 0]),offs:=some [(0,0,false),(1,0,false),(2,0,false),(3,3,true)],conc:=true}
theorem Cy:aD Tryz.prog 165 Gr where
 size:=af (7) rfl (by kernel_rfl)
 agg:=af (true) rfl (by kernel_rfl)
 zero:=af (Value.agg #[Value.pointer none,Value.slice none 0 0,Value.slice none 0 0,Value.int .u32 0,Value.int .i32 0,Value.int .u32 0,Value.slice none 0 0]) rfl (by kernel_rfl)
 offs:=af [(0,0,false),(1,0,false),(2,0,false),(3,3,true)] rfl ⟨aR (Tryz.prog.underlying 165),by kernel_rfl,by kernel_rfl⟩
 conc:=ak ⟨ax (Tryz.prog.underlying 165),by kernel_rfl,an (by kernel_rfl)⟩
def GD:TI:={size:=some 1,agg:=some false,rs:=some (.one (.leaf (.slice))),zero:=some (Value.slice none 0 0),slc:=some (88,1),conc:=true,isSlc:=true}
theorem CD:aD Tryz.prog 166 GD where
 zero:=af (Value.slice none 0 0) rfl (by kernel_rfl)
 slc:=aV 88 1 rfl ⟨by kernel_rfl,by kernel_rfl⟩
 conc:=ak ⟨ax (Tryz.prog.underlying 166),by kernel_rfl,an (by kernel_rfl)⟩
 isSlc:=ak ⟨88,by kernel_rfl⟩
def GO:TI:={size:=some 1,agg:=some false,rs:=some (.one (.leaf (.slice))),zero:=some (Value.slice none 0 0),slc:=some (166,1),conc:=true,isSlc:=true}
theorem BL:aD Tryz.prog 168 GO where
 zero:=af (Value.slice none 0 0) rfl (by kernel_rfl)
 slc:=aV 166 1 rfl ⟨by kernel_rfl,by kernel_rfl⟩
 conc:=ak ⟨ax (Tryz.prog.underlying 168),by kernel_rfl,an (by kernel_rfl)⟩
 isSlc:=ak ⟨166,by kernel_rfl⟩
def Gz:TI:={size:=some 4,agg:=some true,rs:=some (.one (.agg [.int .u32,.int .i32,.int .u32,.slice])),zero:=some (Value.agg #[Value.int .u32 0,Value.int .i32 0,Value.int .u32 0,Value.slice none 0 0]),offs:=some [(0,2,true),(3,0,false)],conc:=true}
theorem Ck:aD Tryz.prog 170 Gz where
 size:=af (4) rfl (by kernel_rfl)
 agg:=af (true) rfl (by kernel_rfl)
 zero:=af (Value.agg #[Value.int .u32 0,Value.int .i32 0,Value.int .u32 0,Value.slice none 0 0]) rfl (by kernel_rfl)
 offs:=af [(0,2,true),(3,0,false)] rfl ⟨aR (Tryz.prog.underlying 170),by kernel_rfl,by kernel_rfl⟩
 conc:=ak ⟨ax (Tryz.prog.underlying 170),by kernel_rfl,an (by kernel_rfl)⟩
def Gi:TI:={size:=some 7,agg:=some true,rs:=some (.one (.agg [.ptr,.ptr,.int .i64,.int .u32,.int .i32,.int .u32,.slice])),zero:=some (Value.agg #[Value.pointer none,Value.pointer none,Value.int .i64 0,Value.int .u32 0,Value.int .i32 0,Value.int .u32 0,Value.slice none 0 0]),offs:=some [(0,0,false),(1,0,false),(2,0,false),(3,3,true)],conc:=true}
theorem CI:aD Tryz.prog 172 Gi where
 size:=af (7) rfl (by kernel_rfl)
 agg:=af (true) rfl (by kernel_rfl)
 zero:=af (Value.agg #[Value.pointer none,Value.pointer none,Value.int .i64 0,Value.int .u32 0,Value.int .i32 0,Value.int .u32 0,Value.slice none 0 0]) rfl (by kernel_rfl)
 offs:=af [(0,0,false),(1,0,false),(2,0,false),(3,3,true)] rfl ⟨aR (Tryz.prog.underlying 172),by kernel_rfl,by kernel_rfl⟩
 conc:=ak ⟨ax (Tryz.prog.underlying 172),by kernel_rfl,an (by kernel_rfl)⟩
def GF:TI:={rs:=some (.tup [.agg [.slice],.leaf (.int .u32)])}
theorem BF:aD Tryz.prog 176 GF where
def FN:TI:={size:=some 1,agg:=some false,rs:=some (.one (.leaf (.slice))),zero:=some (Value.slice none 0 0),slc:=some (98,1),conc:=true,isSlc:=true}
theorem CW:aD Tryz.prog 180 FN where
 zero:=af (Value.slice none 0 0) rfl (by kernel_rfl)
 slc:=aV 98 1 rfl ⟨by kernel_rfl,by kernel_rfl⟩
 conc:=ak ⟨ax (Tryz.prog.underlying 180),by kernel_rfl,an (by kernel_rfl)⟩
 isSlc:=ak ⟨98,by kernel_rfl⟩
def Ge:TI:={rs:=some (.tup [.agg [.slice],.leaf (.bool)])}
theorem DH:aD Tryz.prog 185 Ge where
def F0:TI:={size:=some 1,agg:=some false,rs:=some (.one (.leaf (.any))),zero:=some (Value.nilFunc),conc:=true}
theorem CF:aD Tryz.prog 187 F0 where
 zero:=af (Value.nilFunc) rfl (by kernel_rfl)
 conc:=ak ⟨ax (Tryz.prog.underlying 187),by kernel_rfl,an (by kernel_rfl)⟩
def FR:TI:={rs:=some (.tup [.leaf (.slice),.leaf (.map)])}
theorem DQ:aD Tryz.prog 192 FR where
def GG:TI:={size:=some 1,agg:=some false,rs:=some (.one (.leaf (.ptr))),zero:=some (Value.pointer none),conc:=true,isPtr:=true}
theorem DP:aD Tryz.prog 199 GG where
 zero:=af (Value.pointer none) rfl (by kernel_rfl)
 conc:=ak ⟨ax (Tryz.prog.underlying 199),by kernel_rfl,an (by kernel_rfl)⟩
 isPtr:=ak ⟨270,by kernel_rfl⟩
def FM:TI:={rs:=some (.tup [.leaf (.str),.leaf (.bool)])}
theorem BV:aD Tryz.prog 203 FM where
def G1:TI:={size:=some 1,agg:=some false,rs:=some (.one (.leaf (.any))),zero:=some (Value.nilFunc),conc:=true}
theorem CB:aD Tryz.prog 208 G1 where
 zero:=af (Value.nilFunc) rfl (by kernel_rfl)
 conc:=ak ⟨ax (Tryz.prog.underlying 208),by kernel_rfl,an (by kernel_rfl)⟩
def Fi:TI:={size:=some 1,agg:=some false,rs:=some (.one (.leaf (.any))),zero:=some (Value.nilFunc),conc:=true}
theorem CL:aD Tryz.prog 210 Fi where
 zero:=af (Value.nilFunc) rfl (by kernel_rfl)
 conc:=ak ⟨ax (Tryz.prog.underlying 210),by kernel_rfl,an (by kernel_rfl)⟩
def F8:TI:={size:=some 1,agg:=some false,rs:=some (.one (.leaf (.any))),zero:=some (Value.nilFunc),conc:=true}
theorem DO:aD Tryz.prog 212 F8 where
 zero:=af (Value.nilFunc) rfl (by kernel_rfl)
 conc:=ak ⟨ax (Tryz.prog.underlying 212),by kernel_rfl,an (by kernel_rfl)⟩
def Fr:TI:={size:=some 3,agg:=some true,rs:=some (.one (.agg [.int .i64,.int .i64,.int .i64])),zero:=some (Value.agg #[Value.int .i64 0,Value.int .i64 0,Value.int .i64 0]),offs:=some [(0,0,false),(1,0,false),(2,0,false)],eqs:=some [.i,.i,.i],conc:=true}
theorem D3:aD Tryz.prog 215 Fr where
 size:=af (3) rfl (by kernel_rfl)
 agg:=af (true) rfl (by kernel_rfl)
 zero:=af (Value.agg #[Value.int .i64 0,Value.int .i64 0,Value.int .i64 0]) rfl (by kernel_rfl)
 offs:=af [(0,0,false),(1,0,false),(2,0,false)] rfl ⟨aR (Tryz.prog.underlying 215),by kernel_rfl,by kernel_rfl⟩
 conc:=ak ⟨ax (Tryz.prog.underlying 215),by kernel_rfl,an (by kernel_rfl)⟩
 eqs:=af [.i,.i,.i] rfl (by kernel_rfl)
def Fv:TI:={size:=some 1,agg:=some false,rs:=some (.one (.leaf (.any))),zero:=some (Value.nilFunc),conc:=true}
theorem Dg:aD Tryz.prog 216 Fv where
 zero:=af (Value.nilFunc) rfl (by kernel_rfl)
 conc:=ak ⟨ax (Tryz.prog.underlying 216),by kernel_rfl,an (by kernel_rfl)⟩
def F4:TI:={size:=some 2,agg:=some true,rs:=some (.one (.agg [.int .i64,.int .i64])),zero:=some (Value.agg #[Value.int .i64 0,Value.int .i64 0]),offs:=some [(0,0,false),(1,0,false)],eqs:=some [.i,.i],conc:=true}
theorem DU:aD Tryz.prog 218 F4 where
 size:=af (2) rfl (by kernel_rfl)
 agg:=af (true) rfl (by kernel_rfl)
 zero:=af (Value.agg #[Value.int .i64 0,Value.int .i64 0]) rfl (by kernel_rfl)
 offs:=af [(0,0,false),(1,0,false)] rfl ⟨aR (Tryz.prog.underlying 218),by kernel_rfl,by kernel_rfl⟩
 conc:=ak ⟨ax (Tryz.prog.underlying 218),by kernel_rfl,an (by kernel_rfl)⟩
 eqs:=af [.i,.i] rfl (by kernel_rfl)
def Fs:TI:={size:=some 1,agg:=some false,rs:=some (.one (.leaf (.any))),zero:=some (Value.nilFunc),conc:=true}
theorem DF:aD Tryz.prog 219 Fs where
 zero:=af (Value.nilFunc) rfl (by kernel_rfl)
 conc:=ak ⟨ax (Tryz.prog.underlying 219),by kernel_rfl,an (by kernel_rfl)⟩
def FY:TI:={rs:=some (.tup [.leaf (.ptr),.leaf (.int .i64),.leaf (.int .i64)])}
theorem Dw:aD Tryz.prog 220 FY where
def Gd:TI:={rs:=some (.tup [.leaf (.ptr),.leaf (.int .i64),.leaf (.int .i64)])}
theorem Bp:aD Tryz.prog 222 Gd where
def GC:TI:={size:=some 1,agg:=some false,rs:=some (.one (.leaf (.ptr))),zero:=some (Value.pointer none),conc:=true,isPtr:=true}
theorem Ds:aD Tryz.prog 225 GC where
 zero:=af (Value.pointer none) rfl (by kernel_rfl)
 conc:=ak ⟨ax (Tryz.prog.underlying 225),by kernel_rfl,an (by kernel_rfl)⟩
 isPtr:=ak ⟨293,by kernel_rfl⟩
def Ft:TI:={rs:=some (.tup [.leaf (.ptr),.leaf (.int .i64)])}
theorem Cr:aD Tryz.prog 226 Ft where
def FO:TI:={size:=some 9,agg:=some true,rs:=some (.one (.agg [.bool,.slice,.slice,.slice,.slice,.slice,.ptr,.ptr,.ptr])),zero:=some (Value.agg #[Value.bool false,Value.slice none 0 0,Value.slice none 0 0,Value.slice none 0 0,Value.slice none 0 0,Value.slice none 0 0,Value.pointer none,Value.pointer none,Value.pointer none]),offs:=some [(0,5,true),(6,0,false),(7,0,false),(8,0,false)],conc:=true}
theorem C5:aD Tryz.prog 230 FO where
 size:=af (9) rfl (by kernel_rfl)
 agg:=af (true) rfl (by kernel_rfl)
 zero:=af (Value.agg #[Value.bool false,Value.slice none 0 0,Value.slice none 0 0,Value.slice none 0 0,Value.slice none 0 0,Value.slice none 0 0,Value.pointer none,Value.pointer none,Value.pointer none]) rfl (by kernel_rfl)
 offs:=af [(0,5,true),(6,0,false),(7,0,false),(8,0,false)] rfl ⟨aR (Tryz.prog.underlying 230),by kernel_rfl,by kernel_rfl⟩
 conc:=ak ⟨ax (Tryz.prog.underlying 230),by kernel_rfl,an (by kernel_rfl)⟩
def FL:TI:={size:=some 4,agg:=some true,rs:=some (.one (.agg [.int .u32,.int .i32,.int .u32,.slice])),zero:=some (Value.agg #[Value.int .u32 0,Value.int .i32 0,Value.int .u32 0,Value.slice none 0 0]),offs:=some [(0,2,true),(3,0,false)],conc:=true}
theorem CG:aD Tryz.prog 232 FL where
 size:=af (4) rfl (by kernel_rfl)
 agg:=af (true) rfl (by kernel_rfl)
 zero:=af (Value.agg #[Value.int .u32 0,Value.int .i32 0,Value.int .u32 0,Value.slice none 0 0]) rfl (by kernel_rfl)
 offs:=af [(0,2,true),(3,0,false)] rfl ⟨aR (Tryz.prog.underlying 232),by kernel_rfl,by kernel_rfl⟩
 conc:=ak ⟨ax (Tryz.prog.underlying 232),by kernel_rfl,an (by kernel_rfl)⟩
def G3:TI:={size:=some 14,agg:=some true,rs:=some (.one (.agg [.bool,.slice,.slice,.slice,.slice,.slice,.ptr,.ptr,.ptr,.int .u32,.int .i32,.int .u32,.slice,.int .i64])),zero:=some (Value.agg #[Value.bool false,Value.slice none 0 0,Value.slice none 0 0,Value.slice none 0 0,Value.slice none 0 0,Value.slice none 0 0,Value.pointer none,Value.pointer none,Value.pointer none,Value.int .u32 0,Value.int .i32 0,Value.int .u32 0,Value.slice none 0 0,Value.int .i64 0]),offs:=some [(0,8,true),(9,3,true),(13,0,true)],conc:=true}
theorem Cv:aD Tryz.prog 237 G3 where
 size:=af (14) rfl (by kernel_rfl)
 agg:=af (true) rfl (by kernel_rfl)
 zero:=af (Value.agg #[Value.bool false,Value.slice none 0 0,Value.slice none 0 0,Value.slice none 0 0,Value.slice none 0 0,Value.slice none 0 0,Value.pointer none,Value.pointer none,Value.pointer none,Value.int .u32 0,Value.int .i32 0,Value.int .u32 0,Value.slice none 0 0,Value.int .i64 0]) rfl (by kernel_rfl)
 offs:=af [(0,8,true),(9,3,true),(13,0,true)] rfl ⟨aR (Tryz.prog.underlying 237),by kernel_rfl,by kernel_rfl⟩
 conc:=ak ⟨ax (Tryz.prog.underlying 237),by kernel_rfl,an (by kernel_rfl)⟩
def GA:TI:={size:=some 1,agg:=some false,rs:=some (.one (.leaf (.ptr))),zero:=some (Value.pointer none),conc:=true,isPtr:=true}
theorem Co:aD Tryz.prog 240 GA where
 zero:=af (Value.pointer none) rfl (by kernel_rfl)
 conc:=ak ⟨ax (Tryz.prog.underlying 240),by kernel_rfl,an (by kernel_rfl)⟩
 isPtr:=ak ⟨275,by kernel_rfl⟩
def Gy:TI:={size:=some 2,agg:=some true,rs:=some (.one (.agg [.ptr,.int .i64])),zero:=some (Value.agg #[Value.pointer none,Value.int .i64 0]),offs:=some [(0,0,false),(1,0,false)],conc:=true}
theorem C3:aD Tryz.prog 242 Gy where
 size:=af (2) rfl (by kernel_rfl)
 agg:=af (true) rfl (by kernel_rfl)
 zero:=af (Value.agg #[Value.pointer none,Value.int .i64 0]) rfl (by kernel_rfl)
 offs:=af [(0,0,false),(1,0,false)] rfl ⟨aR (Tryz.prog.underlying 242),by kernel_rfl,by kernel_rfl⟩
 conc:=ak ⟨ax (Tryz.prog.underlying 242),by kernel_rfl,an (by kernel_rfl)⟩
def Fp:TI:={size:=some 1,agg:=some false,rs:=some (.one (.leaf (.slice))),zero:=some (Value.slice none 0 0),slc:=some (278,3),conc:=true,isSlc:=true}
theorem BP:aD Tryz.prog 245 Fp where
 zero:=af (Value.slice none 0 0) rfl (by kernel_rfl)
 slc:=aV 278 3 rfl ⟨by kernel_rfl,by kernel_rfl⟩
 conc:=ak ⟨ax (Tryz.prog.underlying 245),by kernel_rfl,an (by kernel_rfl)⟩
 isSlc:=ak ⟨278,by kernel_rfl⟩
def GR:TI:={size:=some 1,agg:=some false,rs:=some (.one (.leaf (.map))),zero:=some (Value.map none),elemSh:=some (.leaf (.int .i64)),conc:=true,isMap:=true}
theorem DW:aD Tryz.prog 246 GR where
 zero:=af (Value.map none) rfl (by kernel_rfl)
 conc:=ak ⟨ax (Tryz.prog.underlying 246),by kernel_rfl,an (by kernel_rfl)⟩
 isMap:=ak ⟨9,3,by kernel_rfl⟩
def G4:TI:={size:=some 1,agg:=some false,rs:=some (.one (.leaf (.map))),zero:=some (Value.map none),elemSh:=some (.leaf (.int .i64)),conc:=true,isMap:=true}
theorem B8:aD Tryz.prog 247 G4 where
 zero:=af (Value.map none) rfl (by kernel_rfl)
 conc:=ak ⟨ax (Tryz.prog.underlying 247),by kernel_rfl,an (by kernel_rfl)⟩
 isMap:=ak ⟨118,3,by kernel_rfl⟩
def FI:TI:={size:=some 4,agg:=some true,rs:=some (.one (.agg [.slice,.map,.map,.int .i64])),zero:=some (Value.agg #[Value.slice none 0 0,Value.map none,Value.map none,Value.int .i64 0]),offs:=some [(0,0,false),(1,0,false),(2,0,false),(3,0,false)],conc:=true}
theorem BM:aD Tryz.prog 249 FI where
 size:=af (4) rfl (by kernel_rfl)
 agg:=af (true) rfl (by kernel_rfl)
 zero:=af (Value.agg #[Value.slice none 0 0,Value.map none,Value.map none,Value.int .i64 0]) rfl (by kernel_rfl)
 offs:=af [(0,0,false),(1,0,false),(2,0,false),(3,0,false)] rfl ⟨aR (Tryz.prog.underlying 249),by kernel_rfl,by kernel_rfl⟩
 conc:=ak ⟨ax (Tryz.prog.underlying 249),by kernel_rfl,an (by kernel_rfl)⟩
def Fn:TI:={size:=some 1,agg:=some false,rs:=some (.one (.leaf (.slice))),zero:=some (Value.slice none 0 0),slc:=some (253,1),conc:=true,isSlc:=true}
theorem BD:aD Tryz.prog 252 Fn where
 zero:=af (Value.slice none 0 0) rfl (by kernel_rfl)
 slc:=aV 253 1 rfl ⟨by kernel_rfl,by kernel_rfl⟩
 conc:=ak ⟨ax (Tryz.prog.underlying 252),by kernel_rfl,an (by kernel_rfl)⟩
 isSlc:=ak ⟨253,by kernel_rfl⟩
def Ga:TI:={size:=some 1,agg:=some false,rs:=some (.one (.leaf (.map))),zero:=some (Value.map none),elemSh:=some (.leaf (.int .u32)),conc:=true,isMap:=true}
theorem Bt:aD Tryz.prog 253 Ga where
 zero:=af (Value.map none) rfl (by kernel_rfl)
 conc:=ak ⟨ax (Tryz.prog.underlying 253),by kernel_rfl,an (by kernel_rfl)⟩
 isMap:=ak ⟨3,153,by kernel_rfl⟩
def Gm:TI:={rs:=some (.tup [.leaf (.int .u64),.leaf (.int .u64)])}
theorem CY:aD Tryz.prog 259 Gm where
def Gt:TI:={rs:=some (.tup [.leaf (.int .i64),.leaf (.int .i64)])}
theorem BQ:aD Tryz.prog 263 Gt where
def Gk:TI:={rs:=some (.tup [.agg [.slice,.slice,.slice,.slice,.slice],.leaf (.int .i64),.leaf (.int .i64),.leaf (.int .i64)])}
theorem BU:aD Tryz.prog 265 Gk where
def GW:TI:={size:=some 256,agg:=some true,zero:=some (Value.agg (List.toArray (List.replicate 256 (Value.bool false)))),arr:=some (256,1),conc:=true}
theorem Ce:aD Tryz.prog 268 GW where
 size:=af (256) rfl (by kernel_rfl)
 agg:=af (true) rfl (by kernel_rfl)
 zero:=af (Value.agg (List.toArray (List.replicate 256 (Value.bool false)))) rfl (by kernel_rfl)
 arr:=aV 256 1 rfl ⟨4,by kernel_rfl,by kernel_rfl⟩
 conc:=ak ⟨ax (Tryz.prog.underlying 268),by kernel_rfl,an (by kernel_rfl)⟩
def Gw:TI:={size:=some 260,agg:=some true,zero:=some (Value.agg (List.toArray ([Value.slice none 0 0,Value.map none,Value.map none]++List.replicate 256 (Value.bool false)++ [Value.int .i64 0]))),offs:=some [(0,0,false),(1,0,false),(2,0,false),(3,255,true),(259,0,false)],conc:=true}
theorem DA:aD Tryz.prog 270 Gw where
 size:=af (260) rfl (by kernel_rfl)
 agg:=af (true) rfl (by kernel_rfl)
 zero:=af (Value.agg (List.toArray ([Value.slice none 0 0,Value.map none,Value.map none]++List.replicate 256 (Value.bool false)++ [Value.int .i64 0]))) rfl (by kernel_rfl)
 offs:=af [(0,0,false),(1,0,false),(2,0,false),(3,255,true),(259,0,false)] rfl ⟨aR (Tryz.prog.underlying 270),by kernel_rfl,by kernel_rfl⟩
 conc:=ak ⟨ax (Tryz.prog.underlying 270),by kernel_rfl,an (by kernel_rfl)⟩
def Gb:TI:={size:=some 1,agg:=some false,rs:=some (.one (.leaf (.map))),zero:=some (Value.map none),elemSh:=some (.leaf (.ptr)),conc:=true,isMap:=true}
theorem C6:aD Tryz.prog 273 Gb where
 zero:=af (Value.map none) rfl (by kernel_rfl)
 conc:=ak ⟨ax (Tryz.prog.underlying 273),by kernel_rfl,an (by kernel_rfl)⟩
 isMap:=ak ⟨5,240,by kernel_rfl⟩
def Gq:TI:={size:=some 2,agg:=some true,rs:=some (.one (.agg [.map,.int .i64])),zero:=some (Value.agg #[Value.map none,Value.int .i64 0]),offs:=some [(0,0,false),(1,0,false)],conc:=true}
theorem Cn:aD Tryz.prog 275 Gq where
 size:=af (2) rfl (by kernel_rfl)
 agg:=af (true) rfl (by kernel_rfl)
 zero:=af (Value.agg #[Value.map none,Value.int .i64 0]) rfl (by kernel_rfl)
 offs:=af [(0,0,false),(1,0,false)] rfl ⟨aR (Tryz.prog.underlying 275),by kernel_rfl,by kernel_rfl⟩
 conc:=ak ⟨ax (Tryz.prog.underlying 275),by kernel_rfl,an (by kernel_rfl)⟩
def Fq:TI:={size:=some 3,agg:=some true,rs:=some (.one (.agg [.str,.int .i64,.int .i64])),zero:=some (Value.agg #[Value.string ⟨#[]⟩,Value.int .i64 0,Value.int .i64 0]),offs:=some [(0,0,false),(1,1,true)],conc:=true}
theorem B_:aD Tryz.prog 278 Fq where
 size:=af (3) rfl (by kernel_rfl)
 agg:=af (true) rfl (by kernel_rfl)
 zero:=af (Value.agg #[Value.string ⟨#[]⟩,Value.int .i64 0,Value.int .i64 0]) rfl (by kernel_rfl)
 offs:=af [(0,0,false),(1,1,true)] rfl ⟨aR (Tryz.prog.underlying 278),by kernel_rfl,by kernel_rfl⟩
 conc:=ak ⟨ax (Tryz.prog.underlying 278),by kernel_rfl,an (by kernel_rfl)⟩
def F_:TI:={size:=some 256,agg:=some true,zero:=some (Value.agg (List.toArray (List.replicate 256 (Value.int .i64 0)))),arr:=some (256,1),conc:=true}
theorem De:aD Tryz.prog 289 F_ where
 size:=af (256) rfl (by kernel_rfl)
 agg:=af (true) rfl (by kernel_rfl)
 zero:=af (Value.agg (List.toArray (List.replicate 256 (Value.int .i64 0)))) rfl (by kernel_rfl)
 arr:=aV 256 1 rfl ⟨3,by kernel_rfl,by kernel_rfl⟩
 conc:=ak ⟨ax (Tryz.prog.underlying 289),by kernel_rfl,an (by kernel_rfl)⟩
def G2:TI:={size:=some 16,agg:=some true,rs:=some (.one (.agg [.bool,.bool,.bool,.bool,.bool,.bool,.bool,.bool,.bool,.bool,.bool,.bool,.bool,.bool,.bool,.bool])),zero:=some (Value.agg #[Value.bool false,Value.bool false,Value.bool false,Value.bool false,Value.bool false,Value.bool false,Value.bool false,Value.bool false,Value.bool false,Value.bool false,Value.bool false,Value.bool false,Value.bool false,Value.bool false,Value.bool false,Value.bool false]),arr:=some (16,1),conc:=true}
theorem DT:aD Tryz.prog 290 G2 where
 size:=af (16) rfl (by kernel_rfl)
 agg:=af (true) rfl (by kernel_rfl)
 zero:=af (Value.agg #[Value.bool false,Value.bool false,Value.bool false,Value.bool false,Value.bool false,Value.bool false,Value.bool false,Value.bool false,Value.bool false,Value.bool false,Value.bool false,Value.bool false,Value.bool false,Value.bool false,Value.bool false,Value.bool false]) rfl (by kernel_rfl)
 arr:=aV 16 1 rfl ⟨4,by kernel_rfl,by kernel_rfl⟩
 conc:=ak ⟨ax (Tryz.prog.underlying 290),by kernel_rfl,an (by kernel_rfl)⟩
def GI:TI:={size:=some 256,agg:=some true,zero:=some (Value.agg (List.toArray (List.replicate 256 (Value.bool false)))),arr:=some (16,16),conc:=true}
theorem DI:aD Tryz.prog 291 GI where
 size:=af (256) rfl (by kernel_rfl)
 agg:=af (true) rfl (by kernel_rfl)
 zero:=af (Value.agg (List.toArray (List.replicate 256 (Value.bool false)))) rfl (by kernel_rfl)
 arr:=aV 16 16 rfl ⟨290,by kernel_rfl,by kernel_rfl⟩
 conc:=ak ⟨ax (Tryz.prog.underlying 291),by kernel_rfl,an (by kernel_rfl)⟩
def FK:TI:={size:=some 512,agg:=some true,zero:=some (Value.agg (List.toArray (List.replicate 256 (Value.int .i64 0)++List.replicate 256 (Value.bool false)))),offs:=some [(0,255,true),(256,255,true)],conc:=true}
theorem BS:aD Tryz.prog 293 FK where
 size:=af (512) rfl (by kernel_rfl)
 agg:=af (true) rfl (by kernel_rfl)
 zero:=af (Value.agg (List.toArray (List.replicate 256 (Value.int .i64 0)++List.replicate 256 (Value.bool false)))) rfl (by kernel_rfl)
 offs:=af [(0,255,true),(256,255,true)] rfl ⟨aR (Tryz.prog.underlying 293),by kernel_rfl,by kernel_rfl⟩
 conc:=ak ⟨ax (Tryz.prog.underlying 293),by kernel_rfl,an (by kernel_rfl)⟩
def Fl:TI:={rs:=some (.tup [.leaf (.ptr),.leaf (.bool)])}
theorem Cg:aD Tryz.prog 306 Fl where
def GN:TI:={rs:=some (.tup [.leaf (.int .u64),.leaf (.int .u64)])}
theorem CA:aD Tryz.prog 313 GN where
def GX:TI:={rs:=some (.tup [.leaf (.slice),.leaf (.int .i64)])}
theorem DY:aD Tryz.prog 315 GX where
def F5:TI:={size:=some 1,agg:=some false,rs:=some (.one (.leaf (.any))),zero:=some (Value.nilFunc),conc:=true}
theorem BO:aD Tryz.prog 319 F5 where
 zero:=af (Value.nilFunc) rfl (by kernel_rfl)
 conc:=ak ⟨ax (Tryz.prog.underlying 319),by kernel_rfl,an (by kernel_rfl)⟩
def Fg:TI:={size:=some 1,agg:=some false,rs:=some (.one (.leaf (.int .u16))),zero:=some (Value.int .u16 0),intk:=some .u16,conc:=true}
theorem CH:aD Tryz.prog 321 Fg where
 zero:=af (Value.int .u16 0) rfl (by kernel_rfl)
 intk:=af (IntKind.u16) rfl (by kernel_rfl)
 conc:=ak ⟨ax (Tryz.prog.underlying 321),by kernel_rfl,an (by kernel_rfl)⟩
def GE:TI:={rs:=some (.tup [.agg [.slice,.slice],.leaf (.int .i64)])}
theorem BK:aD Tryz.prog 322 GE where
def Fx:TI:={rs:=some (.tup [.agg [.slice,.slice],.leaf (.int .i64),.leaf (.int .i64)])}
theorem Dc:aD Tryz.prog 324 Fx where
def GK:TI:={size:=some 1,agg:=some false,rs:=some (.one (.leaf (.int .i64))),zero:=some (Value.int .i64 0),intk:=some .i64,conc:=true}
theorem DV:aD Tryz.prog 327 GK where
 zero:=af (Value.int .i64 0) rfl (by kernel_rfl)
 intk:=af (IntKind.i64) rfl (by kernel_rfl)
 conc:=ak ⟨ax (Tryz.prog.underlying 327),by kernel_rfl,an (by kernel_rfl)⟩
def FA:TI:={rs:=some (.tup [.leaf (.int .i64),.leaf (.int .i64)])}
theorem Dh:aD Tryz.prog 328 FA where
def FQ:TI:={size:=some 1,agg:=some false,rs:=some (.one (.leaf (.any))),zero:=some (Value.nilFunc),conc:=true}
theorem Dl:aD Tryz.prog 335 FQ where
 zero:=af (Value.nilFunc) rfl (by kernel_rfl)
 conc:=ak ⟨ax (Tryz.prog.underlying 335),by kernel_rfl,an (by kernel_rfl)⟩
def GZ:TI:={rs:=some (.tup [.agg [.int .i64,.int .i64],.leaf (.bool)])}
theorem Bw:aD Tryz.prog 340 GZ where
def GH:TI:={size:=some 1,agg:=some false,rs:=some (.one (.leaf (.ptr))),zero:=some (Value.pointer none),conc:=true,isPtr:=true}
theorem Ct:aD Tryz.prog 345 GH where
 zero:=af (Value.pointer none) rfl (by kernel_rfl)
 conc:=ak ⟨ax (Tryz.prog.underlying 345),by kernel_rfl,an (by kernel_rfl)⟩
 isPtr:=ak ⟨365,by kernel_rfl⟩
def F':TI:={size:=some 1,agg:=some false,rs:=some (.one (.leaf (.map))),zero:=some (Value.map none),elemSh:=some (.leaf (.int .i64)),conc:=true,isMap:=true}
theorem Cm:aD Tryz.prog 350 F' where
 zero:=af (Value.map none) rfl (by kernel_rfl)
 conc:=ak ⟨ax (Tryz.prog.underlying 350),by kernel_rfl,an (by kernel_rfl)⟩
 isMap:=ak ⟨4,3,by kernel_rfl⟩
def FE:TI:={size:=some 1,agg:=some false,rs:=some (.one (.leaf (.ptr))),zero:=some (Value.pointer none),conc:=true,isPtr:=true}
theorem BW:aD Tryz.prog 358 FE where
 zero:=af (Value.pointer none) rfl (by kernel_rfl)
 conc:=ak ⟨ax (Tryz.prog.underlying 358),by kernel_rfl,an (by kernel_rfl)⟩
 isPtr:=ak ⟨3,by kernel_rfl⟩
def Fk:TI:={size:=some 1,agg:=some false,rs:=some (.one (.leaf (.ptr))),zero:=some (Value.pointer none),conc:=true,isPtr:=true}
theorem BC:aD Tryz.prog 360 Fk where
 zero:=af (Value.pointer none) rfl (by kernel_rfl)
 conc:=ak ⟨ax (Tryz.prog.underlying 360),by kernel_rfl,an (by kernel_rfl)⟩
 isPtr:=ak ⟨381,by kernel_rfl⟩
def GB:TI:={size:=some 2,agg:=some true,rs:=some (.one (.agg [.int .i64,.int .i64])),zero:=some (Value.agg #[Value.int .i64 0,Value.int .i64 0]),offs:=some [(0,1,true)],conc:=true}
theorem BT:aD Tryz.prog 363 GB where
 size:=af (2) rfl (by kernel_rfl)
 agg:=af (true) rfl (by kernel_rfl)
 zero:=af (Value.agg #[Value.int .i64 0,Value.int .i64 0]) rfl (by kernel_rfl)
 offs:=af [(0,1,true)] rfl ⟨aR (Tryz.prog.underlying 363),by kernel_rfl,by kernel_rfl⟩
 conc:=ak ⟨ax (Tryz.prog.underlying 363),by kernel_rfl,an (by kernel_rfl)⟩
def F9:TI:={size:=some 5,agg:=some true,rs:=some (.one (.agg [.int .i64,.int .i64,.ptr,.int .i64,.int .i64])),zero:=some (Value.agg #[Value.int .i64 0,Value.int .i64 0,Value.pointer none,Value.int .i64 0,Value.int .i64 0]),offs:=some [(0,1,true),(2,0,false),(3,0,false),(4,0,false)],conc:=true}
theorem CC:aD Tryz.prog 365 F9 where
 size:=af (5) rfl (by kernel_rfl)
 agg:=af (true) rfl (by kernel_rfl)
 zero:=af (Value.agg #[Value.int .i64 0,Value.int .i64 0,Value.pointer none,Value.int .i64 0,Value.int .i64 0]) rfl (by kernel_rfl)
 offs:=af [(0,1,true),(2,0,false),(3,0,false),(4,0,false)] rfl ⟨aR (Tryz.prog.underlying 365),by kernel_rfl,by kernel_rfl⟩
 conc:=ak ⟨ax (Tryz.prog.underlying 365),by kernel_rfl,an (by kernel_rfl)⟩
def GV:TI:={size:=some 1,agg:=some false,rs:=some (.one (.leaf (.ptr))),zero:=some (Value.pointer none),conc:=true,isPtr:=true}
theorem Dk:aD Tryz.prog 375 GV where
 zero:=af (Value.pointer none) rfl (by kernel_rfl)
 conc:=ak ⟨ax (Tryz.prog.underlying 375),by kernel_rfl,an (by kernel_rfl)⟩
 isPtr:=ak ⟨393,by kernel_rfl⟩
def GY:TI:={size:=some 3,agg:=some true,rs:=some (.one (.agg [.int .i64,.int .i64,.int .i64])),zero:=some (Value.agg #[Value.int .i64 0,Value.int .i64 0,Value.int .i64 0]),offs:=some [(0,0,false),(1,1,true)],conc:=true}
theorem Cz:aD Tryz.prog 378 GY where
 size:=af (3) rfl (by kernel_rfl)
 agg:=af (true) rfl (by kernel_rfl)
 zero:=af (Value.agg #[Value.int .i64 0,Value.int .i64 0,Value.int .i64 0]) rfl (by kernel_rfl)
 offs:=af [(0,0,false),(1,1,true)] rfl ⟨aR (Tryz.prog.underlying 378),by kernel_rfl,by kernel_rfl⟩
 conc:=ak ⟨ax (Tryz.prog.underlying 378),by kernel_rfl,an (by kernel_rfl)⟩
def F2:TI:={size:=some 1,agg:=some false,rs:=some (.one (.leaf (.slice))),zero:=some (Value.slice none 0 0),slc:=some (383,3),conc:=true,isSlc:=true}
theorem Cs:aD Tryz.prog 379 F2 where
 zero:=af (Value.slice none 0 0) rfl (by kernel_rfl)
 slc:=aV 383 3 rfl ⟨by kernel_rfl,by kernel_rfl⟩
 conc:=ak ⟨ax (Tryz.prog.underlying 379),by kernel_rfl,an (by kernel_rfl)⟩
 isSlc:=ak ⟨383,by kernel_rfl⟩
def Gj:TI:={size:=some 5,agg:=some true,rs:=some (.one (.agg [.ptr,.slice,.ptr,.int .i64,.int .i64])),zero:=some (Value.agg #[Value.pointer none,Value.slice none 0 0,Value.pointer none,Value.int .i64 0,Value.int .i64 0]),offs:=some [(0,0,false),(1,0,false),(2,0,false),(3,0,false),(4,0,false)],conc:=true}
theorem C0:aD Tryz.prog 381 Gj where
 size:=af (5) rfl (by kernel_rfl)
 agg:=af (true) rfl (by kernel_rfl)
 zero:=af (Value.agg #[Value.pointer none,Value.slice none 0 0,Value.pointer none,Value.int .i64 0,Value.int .i64 0]) rfl (by kernel_rfl)
 offs:=af [(0,0,false),(1,0,false),(2,0,false),(3,0,false),(4,0,false)] rfl ⟨aR (Tryz.prog.underlying 381),by kernel_rfl,by kernel_rfl⟩
 conc:=ak ⟨ax (Tryz.prog.underlying 381),by kernel_rfl,an (by kernel_rfl)⟩
def GS:TI:={size:=some 3,agg:=some true,rs:=some (.one (.agg [.int .i64,.int .i64,.int .i64])),zero:=some (Value.agg #[Value.int .i64 0,Value.int .i64 0,Value.int .i64 0]),offs:=some [(0,0,false),(1,0,false),(2,0,false)],eqs:=some [.i,.i,.i],conc:=true}
theorem CV:aD Tryz.prog 383 GS where
 size:=af (3) rfl (by kernel_rfl)
 agg:=af (true) rfl (by kernel_rfl)
 zero:=af (Value.agg #[Value.int .i64 0,Value.int .i64 0,Value.int .i64 0]) rfl (by kernel_rfl)
 offs:=af [(0,0,false),(1,0,false),(2,0,false)] rfl ⟨aR (Tryz.prog.underlying 383),by kernel_rfl,by kernel_rfl⟩
 conc:=ak ⟨ax (Tryz.prog.underlying 383),by kernel_rfl,an (by kernel_rfl)⟩
 eqs:=af [.i,.i,.i] rfl (by kernel_rfl)
def GM:TI:={rs:=some (.tup [.agg [.int .i64,.int .i64,.int .i64],.leaf (.int .i64),.leaf (.int .i64),.leaf (.bool)])}
theorem Dd:aD Tryz.prog 384 GM where
def FF:TI:={size:=some 1,agg:=some false,rs:=some (.one (.leaf (.slice))),zero:=some (Value.slice none 0 0),slc:=some (399,6),conc:=true,isSlc:=true}
theorem Dn:aD Tryz.prog 391 FF where
 zero:=af (Value.slice none 0 0) rfl (by kernel_rfl)
 slc:=aV 399 6 rfl ⟨by kernel_rfl,by kernel_rfl⟩
 conc:=ak ⟨ax (Tryz.prog.underlying 391),by kernel_rfl,an (by kernel_rfl)⟩
 isSlc:=ak ⟨399,by kernel_rfl⟩
def G0:TI:={size:=some 2,agg:=some true,rs:=some (.one (.agg [.slice,.int .i64])),zero:=some (Value.agg #[Value.slice none 0 0,Value.int .i64 0]),offs:=some [(0,0,false),(1,0,false)],conc:=true}
theorem C9:aD Tryz.prog 393 G0 where
 size:=af (2) rfl (by kernel_rfl)
 agg:=af (true) rfl (by kernel_rfl)
 zero:=af (Value.agg #[Value.slice none 0 0,Value.int .i64 0]) rfl (by kernel_rfl)
 offs:=af [(0,0,false),(1,0,false)] rfl ⟨aR (Tryz.prog.underlying 393),by kernel_rfl,by kernel_rfl⟩
 conc:=ak ⟨ax (Tryz.prog.underlying 393),by kernel_rfl,an (by kernel_rfl)⟩
def GJ:TI:={size:=some 3,agg:=some true,rs:=some (.one (.agg [.int .i64,.int .i64,.int .i64])),zero:=some (Value.agg #[Value.int .i64 0,Value.int .i64 0,Value.int .i64 0]),offs:=some [(0,0,false),(1,0,false),(2,0,false)],eqs:=some [.i,.i,.i],conc:=true}
theorem C_:aD Tryz.prog 397 GJ where
 size:=af (3) rfl (by kernel_rfl)
 agg:=af (true) rfl (by kernel_rfl)
 zero:=af (Value.agg #[Value.int .i64 0,Value.int .i64 0,Value.int .i64 0]) rfl (by kernel_rfl)
 offs:=af [(0,0,false),(1,0,false),(2,0,false)] rfl ⟨aR (Tryz.prog.underlying 397),by kernel_rfl,by kernel_rfl⟩
 conc:=ak ⟨ax (Tryz.prog.underlying 397),by kernel_rfl,an (by kernel_rfl)⟩
 eqs:=af [.i,.i,.i] rfl (by kernel_rfl)
def FP:TI:={size:=some 6,agg:=some true,rs:=some (.one (.agg [.int .i64,.int .i64,.int .i64,.int .i64,.int .i64,.int .i64])),zero:=some (Value.agg #[Value.int .i64 0,Value.int .i64 0,Value.int .i64 0,Value.int .i64 0,Value.int .i64 0,Value.int .i64 0]),offs:=some [(0,2,true),(3,2,true)],conc:=true}
theorem BX:aD Tryz.prog 399 FP where
 size:=af (6) rfl (by kernel_rfl)
 agg:=af (true) rfl (by kernel_rfl)
 zero:=af (Value.agg #[Value.int .i64 0,Value.int .i64 0,Value.int .i64 0,Value.int .i64 0,Value.int .i64 0,Value.int .i64 0]) rfl (by kernel_rfl)
 offs:=af [(0,2,true),(3,2,true)] rfl ⟨aR (Tryz.prog.underlying 399),by kernel_rfl,by kernel_rfl⟩
 conc:=ak ⟨ax (Tryz.prog.underlying 399),by kernel_rfl,an (by kernel_rfl)⟩
def FB:TI:={size:=some 2,agg:=some true,rs:=some (.one (.agg [.int .i64,.int .i64])),zero:=some (Value.agg #[Value.int .i64 0,Value.int .i64 0]),arr:=some (2,1),conc:=true}
theorem Db:aD Tryz.prog 400 FB where
 size:=af (2) rfl (by kernel_rfl)
 agg:=af (true) rfl (by kernel_rfl)
 zero:=af (Value.agg #[Value.int .i64 0,Value.int .i64 0]) rfl (by kernel_rfl)
 arr:=aV 2 1 rfl ⟨3,by kernel_rfl,by kernel_rfl⟩
 conc:=ak ⟨ax (Tryz.prog.underlying 400),by kernel_rfl,an (by kernel_rfl)⟩
def Kf:List (Nat×TI):=[(0,LC),(2,LD),(3,LA),(4,LB),(5,LE),(9,LF),(22,Kq),(23,Js),(24,JH),(25,Jh),(27,Kw),(28,IE),(31,I0),(32,IB),(33,Jp),(34,Jy),(36,JV),(38,IP),(40,IL),(41,HI),(43,KF),(44,Id),(47,Il),(48,IF),(53,KB)]
theorem Fe:∀p∈Kf,aD Tryz.prog p.1 p.2:=
 am G_<|am Hh<|am Ha<|am Hu<|am HB<|am G7<|am D'<|am D8<|am EO<|am E8<|am Ew<|am Eu<|am ED<|am Ep<|am EZ<|am EG<|am El<|am Es<|am D6<|am EC<|am EB<|am EP<|am Eh<|am EU<|am Ev<|md
def Kh:List (Nat×TI):=[(55,H8),(59,JS),(60,IG),(62,JM),(69,Ih),(70,JX),(73,HV),(75,Ip),(76,Jq),(78,Kg),(82,KG),(83,H0),(84,Kj),(86,Ii),(88,IJ),(97,JU),(98,IZ),(102,Fy),(104,Fw),(110,Fh),(112,FV),(118,G5),(119,Fj),(121,Gv),(124,FC)]
theorem EW:∀p∈Kh,aD Tryz.prog p.1 p.2:=
 am Er<|am Eo<|am Fb<|am Ey<|am Eg<|am Fc<|am E9<|am E4<|am EH<|am E3<|am Eb<|am Ee<|am E2<|am D7<|am Ez<|am EI<|am E_<|am Cc<|am Cw<|am CU<|am Cx<|am Dv<|am BI<|am DC<|am DM<|md
def H6:List (Nat×TI):=[(126,Fo),(128,FU),(129,FS),(130,GQ),(132,GL),(133,Fu),(134,FT),(140,Gg),(145,Gf),(148,GU),(149,Gc),(153,F7),(163,F1),(165,Gr),(166,GD),(168,GO),(170,Gz),(172,Gi),(176,GF),(180,FN),(185,Ge),(187,F0),(192,FR),(199,GG),(203,FM)]
theorem Ec:∀p∈H6,aD Tryz.prog p.1 p.2:=
 am Dy<|am B4<|am DE<|am D2<|am DR<|am CZ<|am CK<|am Cq<|am D0<|am DG<|am BR<|am CM<|am Df<|am Cy<|am CD<|am BL<|am Ck<|am CI<|am BF<|am CW<|am DH<|am CF<|am DQ<|am DP<|am BV<|md
def IV:List (Nat×TI):=[(208,G1),(210,Fi),(212,F8),(215,Fr),(216,Fv),(218,F4),(219,Fs),(220,FY),(222,Gd),(225,GC),(226,Ft),(230,FO),(232,FL),(237,G3),(240,GA),(242,Gy),(245,Fp),(246,GR),(247,G4),(249,FI),(252,Fn),(253,Ga),(259,Gm),(263,Gt),(265,Gk)]
theorem Ed:∀p∈IV,aD Tryz.prog p.1 p.2:=
 am CB<|am CL<|am DO<|am D3<|am Dg<|am DU<|am DF<|am Dw<|am Bp<|am Ds<|am Cr<|am C5<|am CG<|am Cv<|am Co<|am C3<|am BP<|am DW<|am B8<|am BM<|am BD<|am Bt<|am CY<|am BQ<|am BU<|md
def HL:List (Nat×TI):=[(268,GW),(270,Gw),(273,Gb),(275,Gq),(278,Fq),(289,F_),(290,G2),(291,GI),(293,FK),(306,Fl),(313,GN),(315,GX),(319,F5),(321,Fg),(322,GE),(324,Fx),(327,GK),(328,FA),(335,FQ),(340,GZ),(345,GH),(350,F'),(358,FE),(360,Fk),(363,GB)]
theorem Et:∀p∈HL,aD Tryz.prog p.1 p.2:=
 am Ce<|am DA<|am C6<|am Cn<|am B_<|am De<|am DT<|am DI<|am BS<|am Cg<|am CA<|am DY<|am BO<|am CH<|am BK<|am Dc<|am DV<|am Dh<|am Dl<|am Bw<|am Ct<|am Cm<|am BW<|am BC<|am BT<|md
def JE:List (Nat×TI):=[(365,F9),(375,GV),(378,GY),(379,F2),(381,Gj),(383,GS),(384,GM),(391,FF),(393,G0),(397,GJ),(399,FP),(400,FB)]
theorem EJ:∀p∈JE,aD Tryz.prog p.1 p.2:=
 am CC<|am Dk<|am Cz<|am Cs<|am C0<|am CV<|am Dd<|am Dn<|am C9<|am C_<|am BX<|am Db<|md
def tab:List (Nat×TI):=Kf++Kh++H6++IV++HL++JE
set_option maxRecDepth 100000 in
theorem HG:∀p∈tab,aD Tryz.prog p.1 p.2:=
 oy (oy (oy (oy (oy (Fe) EW) Ec) Ed) Et) EJ
theorem BA:Tryz.prog.follows .mixedOrders=true:=by kernel_rfl
noncomputable def fA:fj:=BZ Tryz.prog tab
theorem Fz:fA.Ok:=Da Tryz.prog tab HG BA
noncomputable def La:fj:={fA with re:=true}
theorem Hb:La.Ok:=Fz.retype
theorem aC {f:FuncId} {fn:Func} {args:List Value} {w:World} {R:RW} {p:Prop} (hf:Tryz.prog.funcs[f]? =some fn) (hb:fn.body=some (rQ fn)) (hn:Nat.ble args.length fn.ntmps=true) (hw:wf fA fn.ntmps (rQ fn)=true) (h:p=D1 fA (rQ fn) fn.results.toList args w R) (hh:p):Calls Tryz.prog f args.toArray w fun e w'=>∃v,e= .returned v∧R v w':=
 lR Fz hf hb hn hw (Eq.mp h hh)
end Go.Proofs.YtdlcfegnaphclaaGreat.Eng
