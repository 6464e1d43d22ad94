/- The types that this claim's functions name, as the loaded program has them. -/
import Derived.Test.YtdlcfegnaphclaaGreatZrEng
import Derived.Test.YtdlcfegnaphclaaGreatProg
import Derived.KernelRfl
set_option linter.unusedVariables false
namespace Go.Proofs.YtdlcfegnaphclaaGreat.Eng
open Go
abbrev OA:=Option Addr
abbrev KW:=List Value→World→Prop
abbrev RW:=Value→World→Prop
abbrev CP:=Calls Tryz.prog
abbrev CR (k:Nat) (a:Array Value) (w:World) (R:RW):Prop:=CP k a w fun e w'=>∃v,e= .returned v∧R v w'
def Pr:TI:={rs:=some (.tup [])}
theorem KG:aI Tryz.prog 0 Pr where
def Ps:TI:={size:=some 1,agg:=some false,rs:=some (.one (.leaf (.int .i64))),zero:=some (Value.int .i64 0),intk:=some .i64,conc:=true}
theorem KZ:aI Tryz.prog 2 Ps where
 zero:=ai (Value.int .i64 0) rfl (by kernel_rfl)
 intk:=ai (IntKind.i64) rfl (by kernel_rfl)
 conc:=am ⟨aA (Tryz.prog.underlying 2),by kernel_rfl,ao (by kernel_rfl)⟩
def Po:TI:={size:=some 1,agg:=some false,rs:=some (.one (.leaf (.int .i64))),zero:=some (Value.int .i64 0),intk:=some .i64,conc:=true}
theorem KQ:aI Tryz.prog 3 Po where
 zero:=ai (Value.int .i64 0) rfl (by kernel_rfl)
 intk:=ai (IntKind.i64) rfl (by kernel_rfl)
 conc:=am ⟨aA (Tryz.prog.underlying 3),by kernel_rfl,ao (by kernel_rfl)⟩
def Pt:TI:={size:=some 1,agg:=some false,rs:=some (.one (.leaf (.bool))),zero:=some (Value.bool false),conc:=true,isBool:=true}
theorem K2:aI Tryz.prog 4 Pt where
 zero:=ai (Value.bool false) rfl (by kernel_rfl)
 conc:=am ⟨aA (Tryz.prog.underlying 4),by kernel_rfl,ao (by kernel_rfl)⟩
 isBool:=am (by kernel_rfl)
def Pq:TI:={size:=some 1,agg:=some false,rs:=some (.one (.leaf (.int .u8))),zero:=some (Value.int .u8 0),intk:=some .u8,conc:=true}
theorem KO:aI Tryz.prog 5 Pq where
 zero:=ai (Value.int .u8 0) rfl (by kernel_rfl)
 intk:=ai (IntKind.u8) rfl (by kernel_rfl)
 conc:=am ⟨aA (Tryz.prog.underlying 5),by kernel_rfl,ao (by kernel_rfl)⟩
def Pp:TI:={size:=some 1,agg:=some false,rs:=some (.one (.leaf (.str))),zero:=some (Value.string ⟨#[]⟩),isStr:=true,conc:=true}
theorem KN:aI Tryz.prog 9 Pp where
 zero:=ai (Value.string ⟨#[]⟩) rfl (by kernel_rfl)
 isStr:=am (by kernel_rfl)
 conc:=am ⟨aA (Tryz.prog.underlying 9),by kernel_rfl,ao (by kernel_rfl)⟩
def L9:TI:={size:=some 1,agg:=some false,rs:=some (.one (.leaf (.slice))),zero:=some (Value.slice none 0 0),slc:=some (321,1),conc:=true,isSlc:=true}
theorem H':aI Tryz.prog 22 L9 where
 zero:=ai (Value.slice none 0 0) rfl (by kernel_rfl)
 slc:=bj 321 1 rfl ⟨by kernel_rfl,by kernel_rfl⟩
 conc:=am ⟨aA (Tryz.prog.underlying 22),by kernel_rfl,ao (by kernel_rfl)⟩
 isSlc:=am ⟨321,by kernel_rfl⟩
def Li:TI:={size:=some 1,agg:=some false,rs:=some (.one (.leaf (.slice))),zero:=some (Value.slice none 0 0),slc:=some (215,3),conc:=true,isSlc:=true}
theorem Iq:aI Tryz.prog 23 Li where
 zero:=ai (Value.slice none 0 0) rfl (by kernel_rfl)
 slc:=bj 215 3 rfl ⟨by kernel_rfl,by kernel_rfl⟩
 conc:=am ⟨aA (Tryz.prog.underlying 23),by kernel_rfl,ao (by kernel_rfl)⟩
 isSlc:=am ⟨215,by kernel_rfl⟩
def NS:TI:={size:=some 1,agg:=some false,rs:=some (.one (.leaf (.slice))),zero:=some (Value.slice none 0 0),slc:=some (218,2),conc:=true,isSlc:=true}
theorem HP:aI Tryz.prog 24 NS where
 zero:=ai (Value.slice none 0 0) rfl (by kernel_rfl)
 slc:=bj 218 2 rfl ⟨by kernel_rfl,by kernel_rfl⟩
 conc:=am ⟨aA (Tryz.prog.underlying 24),by kernel_rfl,ao (by kernel_rfl)⟩
 isSlc:=am ⟨218,by kernel_rfl⟩
def LQ:TI:={size:=some 1,agg:=some false,rs:=some (.one (.leaf (.slice))),zero:=some (Value.slice none 0 0),slc:=some (75,2),conc:=true,isSlc:=true}
theorem H0:aI Tryz.prog 25 LQ where
 zero:=ai (Value.slice none 0 0) rfl (by kernel_rfl)
 slc:=bj 75 2 rfl ⟨by kernel_rfl,by kernel_rfl⟩
 conc:=am ⟨aA (Tryz.prog.underlying 25),by kernel_rfl,ao (by kernel_rfl)⟩
 isSlc:=am ⟨75,by kernel_rfl⟩
def Lu:TI:={size:=some 4,agg:=some true,rs:=some (.one (.agg [.slice,.slice,.slice,.slice])),zero:=some (Value.agg #[Value.slice none 0 0,Value.slice none 0 0,Value.slice none 0 0,Value.slice none 0 0]),offs:=some [(0,0,false),(1,0,false),(2,0,false),(3,0,false)],conc:=true}
theorem HU:aI Tryz.prog 27 Lu where
 size:=ai (4) rfl (by kernel_rfl)
 agg:=ai (true) rfl (by kernel_rfl)
 zero:=ai (Value.agg #[Value.slice none 0 0,Value.slice none 0 0,Value.slice none 0 0,Value.slice none 0 0]) rfl (by kernel_rfl)
 offs:=ai [(0,0,false),(1,0,false),(2,0,false),(3,0,false)] rfl ⟨a_ (Tryz.prog.underlying 27),by kernel_rfl,by kernel_rfl⟩
 conc:=am ⟨aA (Tryz.prog.underlying 27),by kernel_rfl,ao (by kernel_rfl)⟩
def NT:TI:={size:=some 1,agg:=some false,rs:=some (.one (.leaf (.slice))),zero:=some (Value.slice none 0 0),slc:=some (3,1),conc:=true,isSlc:=true}
theorem HS:aI Tryz.prog 28 NT where
 zero:=ai (Value.slice none 0 0) rfl (by kernel_rfl)
 slc:=bj 3 1 rfl ⟨by kernel_rfl,by kernel_rfl⟩
 conc:=am ⟨aA (Tryz.prog.underlying 28),by kernel_rfl,ao (by kernel_rfl)⟩
 isSlc:=am ⟨3,by kernel_rfl⟩
def NQ:TI:={size:=some 1,agg:=some false,rs:=some (.one (.leaf (.ptr))),zero:=some (Value.pointer none),conc:=true,isPtr:=true}
theorem Ia:aI Tryz.prog 31 NQ where
 zero:=ai (Value.pointer none) rfl (by kernel_rfl)
 conc:=am ⟨aA (Tryz.prog.underlying 31),by kernel_rfl,ao (by kernel_rfl)⟩
 isPtr:=am ⟨126,by kernel_rfl⟩
def MT:TI:={size:=some 1,agg:=some false,rs:=some (.one (.leaf (.ptr))),zero:=some (Value.pointer none),conc:=true,isPtr:=true}
theorem HG:aI Tryz.prog 32 MT where
 zero:=ai (Value.pointer none) rfl (by kernel_rfl)
 conc:=am ⟨aA (Tryz.prog.underlying 32),by kernel_rfl,ao (by kernel_rfl)⟩
 isPtr:=am ⟨132,by kernel_rfl⟩
def Mo:TI:={size:=some 1,agg:=some false,rs:=some (.one (.leaf (.slice))),zero:=some (Value.slice none 0 0),slc:=some (9,1),conc:=true,isSlc:=true}
theorem HT:aI Tryz.prog 33 Mo where
 zero:=ai (Value.slice none 0 0) rfl (by kernel_rfl)
 slc:=bj 9 1 rfl ⟨by kernel_rfl,by kernel_rfl⟩
 conc:=am ⟨aA (Tryz.prog.underlying 33),by kernel_rfl,ao (by kernel_rfl)⟩
 isSlc:=am ⟨9,by kernel_rfl⟩
def Oa:TI:={size:=some 1,agg:=some false,rs:=some (.one (.leaf (.slice))),zero:=some (Value.slice none 0 0),slc:=some (118,2),conc:=true,isSlc:=true}
theorem HH:aI Tryz.prog 34 Oa where
 zero:=ai (Value.slice none 0 0) rfl (by kernel_rfl)
 slc:=bj 118 2 rfl ⟨by kernel_rfl,by kernel_rfl⟩
 conc:=am ⟨aA (Tryz.prog.underlying 34),by kernel_rfl,ao (by kernel_rfl)⟩
 isSlc:=am ⟨118,by kernel_rfl⟩
def LR:TI:={size:=some 2,agg:=some true,rs:=some (.one (.agg [.slice,.slice])),zero:=some (Value.agg #[Value.slice none 0 0,Value.slice none 0 0]),offs:=some [(0,0,false),(1,0,false)],conc:=true}
theorem Ij:aI Tryz.prog 36 LR where
 size:=ai (2) rfl (by kernel_rfl)
 agg:=ai (true) rfl (by kernel_rfl)
 zero:=ai (Value.agg #[Value.slice none 0 0,Value.slice none 0 0]) rfl (by kernel_rfl)
 offs:=ai [(0,0,false),(1,0,false)] rfl ⟨a_ (Tryz.prog.underlying 36),by kernel_rfl,by kernel_rfl⟩
 conc:=am ⟨aA (Tryz.prog.underlying 36),by kernel_rfl,ao (by kernel_rfl)⟩
def Nr:TI:={size:=some 2,agg:=some true,rs:=some (.one (.agg [.slice,.slice])),zero:=some (Value.agg #[Value.slice none 0 0,Value.slice none 0 0]),offs:=some [(0,0,false),(1,0,false)],conc:=true}
theorem HN:aI Tryz.prog 38 Nr where
 size:=ai (2) rfl (by kernel_rfl)
 agg:=ai (true) rfl (by kernel_rfl)
 zero:=ai (Value.agg #[Value.slice none 0 0,Value.slice none 0 0]) rfl (by kernel_rfl)
 offs:=ai [(0,0,false),(1,0,false)] rfl ⟨a_ (Tryz.prog.underlying 38),by kernel_rfl,by kernel_rfl⟩
 conc:=am ⟨aA (Tryz.prog.underlying 38),by kernel_rfl,ao (by kernel_rfl)⟩
def Mp:TI:={size:=some 5,agg:=some true,rs:=some (.one (.agg [.slice,.slice,.slice,.slice,.slice])),zero:=some (Value.agg #[Value.slice none 0 0,Value.slice none 0 0,Value.slice none 0 0,Value.slice none 0 0,Value.slice none 0 0]),offs:=some [(0,1,true),(2,1,true),(4,0,false)],conc:=true}
theorem Hq:aI Tryz.prog 40 Mp where
 size:=ai (5) rfl (by kernel_rfl)
 agg:=ai (true) rfl (by kernel_rfl)
 zero:=ai (Value.agg #[Value.slice none 0 0,Value.slice none 0 0,Value.slice none 0 0,Value.slice none 0 0,Value.slice none 0 0]) rfl (by kernel_rfl)
 offs:=ai [(0,1,true),(2,1,true),(4,0,false)] rfl ⟨a_ (Tryz.prog.underlying 40),by kernel_rfl,by kernel_rfl⟩
 conc:=am ⟨aA (Tryz.prog.underlying 40),by kernel_rfl,ao (by kernel_rfl)⟩
def LZ:TI:={rs:=some (.tup [.leaf (.ptr),.leaf (.ptr),.agg [.slice,.slice,.slice,.slice,.slice]])}
theorem HZ:aI Tryz.prog 41 LZ where
def Mt:TI:={size:=some 1,agg:=some false,rs:=some (.one (.leaf (.int .i64))),zero:=some (Value.int .i64 0),intk:=some .i64,conc:=true}
theorem HI:aI Tryz.prog 43 Mt where
 zero:=ai (Value.int .i64 0) rfl (by kernel_rfl)
 intk:=ai (IntKind.i64) rfl (by kernel_rfl)
 conc:=am ⟨aA (Tryz.prog.underlying 43),by kernel_rfl,ao (by kernel_rfl)⟩
def LW:TI:={rs:=some (.tup [.leaf (.slice),.leaf (.int .i64),.leaf (.int .i64)])}
theorem HO:aI Tryz.prog 44 LW where
def LB:TI:={size:=some 1,agg:=some false,rs:=some (.one (.leaf (.slice))),zero:=some (Value.slice none 0 0),slc:=some (59,1),conc:=true,isSlc:=true}
theorem HQ:aI Tryz.prog 47 LB where
 zero:=ai (Value.slice none 0 0) rfl (by kernel_rfl)
 slc:=bj 59 1 rfl ⟨by kernel_rfl,by kernel_rfl⟩
 conc:=am ⟨aA (Tryz.prog.underlying 47),by kernel_rfl,ao (by kernel_rfl)⟩
 isSlc:=am ⟨59,by kernel_rfl⟩
def NR:TI:={rs:=some (.tup [.leaf (.slice),.leaf (.int .i64),.leaf (.int .i64)])}
theorem HY:aI Tryz.prog 48 NR where
def Lf:TI:={rs:=some (.tup [.leaf (.int .i64),.leaf (.bool)])}
theorem Hu:aI Tryz.prog 53 Lf where
def NV:TI:={size:=some 1,agg:=some false,rs:=some (.one (.leaf (.any))),zero:=some (Value.nilFunc),conc:=true}
theorem Hg:aI Tryz.prog 55 NV where
 zero:=ai (Value.nilFunc) rfl (by kernel_rfl)
 conc:=am ⟨aA (Tryz.prog.underlying 55),by kernel_rfl,ao (by kernel_rfl)⟩
def Lb:TI:={size:=some 1,agg:=some false,rs:=some (.one (.leaf (.int .u64))),zero:=some (Value.int .u64 0),intk:=some .u64,conc:=true}
theorem Ht:aI Tryz.prog 59 Lb where
 zero:=ai (Value.int .u64 0) rfl (by kernel_rfl)
 intk:=ai (IntKind.u64) rfl (by kernel_rfl)
 conc:=am ⟨aA (Tryz.prog.underlying 59),by kernel_rfl,ao (by kernel_rfl)⟩
def Nm:TI:={size:=some 1,agg:=some false,rs:=some (.one (.leaf (.int .u64))),zero:=some (Value.int .u64 0),intk:=some .u64,conc:=true}
theorem H3:aI Tryz.prog 60 Nm where
 zero:=ai (Value.int .u64 0) rfl (by kernel_rfl)
 intk:=ai (IntKind.u64) rfl (by kernel_rfl)
 conc:=am ⟨aA (Tryz.prog.underlying 60),by kernel_rfl,ao (by kernel_rfl)⟩
def Ld:TI:={rs:=some (.tup [.leaf (.slice),.leaf (.str),.leaf (.int .i64)])}
theorem Hi:aI Tryz.prog 62 Ld where
def K_:TI:={size:=some 1,agg:=some false,rs:=some (.one (.leaf (.ptr))),zero:=some (Value.pointer none),conc:=true,isPtr:=true}
theorem H4:aI Tryz.prog 69 K_ where
 zero:=ai (Value.pointer none) rfl (by kernel_rfl)
 conc:=am ⟨aA (Tryz.prog.underlying 69),by kernel_rfl,ao (by kernel_rfl)⟩
 isPtr:=am ⟨237,by kernel_rfl⟩
def Lm:TI:={rs:=some (.tup [.leaf (.ptr),.leaf (.int .i64),.leaf (.int .i64)])}
theorem H7:aI Tryz.prog 70 Lm where
def M2:TI:={size:=some 6,agg:=some true,rs:=some (.one (.agg [.bool,.slice,.slice,.slice,.slice,.slice])),zero:=some (Value.agg #[Value.bool false,Value.slice none 0 0,Value.slice none 0 0,Value.slice none 0 0,Value.slice none 0 0,Value.slice none 0 0]),offs:=some [(0,0,false),(1,0,false),(2,0,false),(3,0,false),(4,0,false),(5,0,false)],conc:=true}
theorem Hp:aI Tryz.prog 73 M2 where
 size:=ai (6) rfl (by kernel_rfl)
 agg:=ai (true) rfl (by kernel_rfl)
 zero:=ai (Value.agg #[Value.bool false,Value.slice none 0 0,Value.slice none 0 0,Value.slice none 0 0,Value.slice none 0 0,Value.slice none 0 0]) rfl (by kernel_rfl)
 offs:=ai [(0,0,false),(1,0,false),(2,0,false),(3,0,false),(4,0,false),(5,0,false)] rfl ⟨a_ (Tryz.prog.underlying 73),by kernel_rfl,by kernel_rfl⟩
 conc:=am ⟨aA (Tryz.prog.underlying 73),by kernel_rfl,ao (by kernel_rfl)⟩
def M_:TI:={size:=some 2,agg:=some true,rs:=some (.one (.agg [.int .i64,.str])),zero:=some (Value.agg #[Value.int .i64 0,Value.string ⟨#[]⟩]),offs:=some [(0,0,false),(1,0,false)],eqs:=some [.i,.s],conc:=true}
theorem If:aI Tryz.prog 75 M_ where
 size:=ai (2) rfl (by kernel_rfl)
 agg:=ai (true) rfl (by kernel_rfl)
 zero:=ai (Value.agg #[Value.int .i64 0,Value.string ⟨#[]⟩]) rfl (by kernel_rfl)
 offs:=ai [(0,0,false),(1,0,false)] rfl ⟨a_ (Tryz.prog.underlying 75),by kernel_rfl,by kernel_rfl⟩
 conc:=am ⟨aA (Tryz.prog.underlying 75),by kernel_rfl,ao (by kernel_rfl)⟩
 eqs:=ai [.i,.s] rfl (by kernel_rfl)
def Lo:TI:={rs:=some (.tup [.leaf (.ptr),.leaf (.int .i64)])}
theorem Hz:aI Tryz.prog 76 Lo where
def Ni:TI:={rs:=some (.tup [.leaf (.ptr),.leaf (.int .i64)])}
theorem HA:aI Tryz.prog 78 Ni where
def MG:TI:={size:=some 1,agg:=some false,rs:=some (.one (.leaf (.ptr))),zero:=some (Value.pointer none),conc:=true,isPtr:=true}
theorem Ha:aI Tryz.prog 82 MG where
 zero:=ai (Value.pointer none) rfl (by kernel_rfl)
 conc:=am ⟨aA (Tryz.prog.underlying 82),by kernel_rfl,ao (by kernel_rfl)⟩
 isPtr:=am ⟨172,by kernel_rfl⟩
def Of:TI:={size:=some 1,agg:=some false,rs:=some (.one (.leaf (.ptr))),zero:=some (Value.pointer none),conc:=true,isPtr:=true}
theorem HX:aI Tryz.prog 83 Of where
 zero:=ai (Value.pointer none) rfl (by kernel_rfl)
 conc:=am ⟨aA (Tryz.prog.underlying 83),by kernel_rfl,ao (by kernel_rfl)⟩
 isPtr:=am ⟨165,by kernel_rfl⟩
def Ll:TI:={rs:=some (.tup [.leaf (.ptr),.leaf (.ptr),.leaf (.ptr),.agg [.slice,.slice,.slice,.slice,.slice]])}
theorem Hj:aI Tryz.prog 84 Ll where
def Mg:TI:={size:=some 1,agg:=some false,rs:=some (.one (.leaf (.slice))),zero:=some (Value.slice none 0 0),slc:=some (153,1),conc:=true,isSlc:=true}
theorem HL:aI Tryz.prog 86 Mg where
 zero:=ai (Value.slice none 0 0) rfl (by kernel_rfl)
 slc:=bj 153 1 rfl ⟨by kernel_rfl,by kernel_rfl⟩
 conc:=am ⟨aA (Tryz.prog.underlying 86),by kernel_rfl,ao (by kernel_rfl)⟩
 isSlc:=am ⟨153,by kernel_rfl⟩
def Nk:TI:={size:=some 1,agg:=some true,rs:=some (.one (.agg [.slice])),zero:=some (Value.agg #[Value.slice none 0 0]),offs:=some [(0,0,false)],conc:=true}
theorem HB:aI Tryz.prog 88 Nk where
 agg:=ai (true) rfl (by kernel_rfl)
 zero:=ai (Value.agg #[Value.slice none 0 0]) rfl (by kernel_rfl)
 offs:=ai [(0,0,false)] rfl ⟨a_ (Tryz.prog.underlying 88),by kernel_rfl,by kernel_rfl⟩
 conc:=am ⟨aA (Tryz.prog.underlying 88),by kernel_rfl,ao (by kernel_rfl)⟩
def MX:TI:={size:=some 1,agg:=some false,rs:=some (.one (.leaf (.slice))),zero:=some (Value.slice none 0 0),slc:=some (5,1),conc:=true,isSlc:=true}
theorem HV:aI Tryz.prog 97 MX where
 zero:=ai (Value.slice none 0 0) rfl (by kernel_rfl)
 slc:=bj 5 1 rfl ⟨by kernel_rfl,by kernel_rfl⟩
 conc:=am ⟨aA (Tryz.prog.underlying 97),by kernel_rfl,ao (by kernel_rfl)⟩
 isSlc:=am ⟨5,by kernel_rfl⟩
def LH:TI:={size:=some 1,agg:=some false,rs:=some (.one (.leaf (.slice))),zero:=some (Value.slice none 0 0),slc:=some (5,1),conc:=true,isSlc:=true}
theorem Ie:aI Tryz.prog 98 LH where
 zero:=ai (Value.slice none 0 0) rfl (by kernel_rfl)
 slc:=bj 5 1 rfl ⟨by kernel_rfl,by kernel_rfl⟩
 conc:=am ⟨aA (Tryz.prog.underlying 98),by kernel_rfl,ao (by kernel_rfl)⟩
 isSlc:=am ⟨5,by kernel_rfl⟩
def Kw:TI:={rs:=some (.tup [.leaf (.slice),.leaf (.int .i64)])}
theorem G8:aI Tryz.prog 102 Kw where
def Ko:TI:={rs:=some (.tup [.agg [.slice],.leaf (.int .i64)])}
theorem F6:aI Tryz.prog 104 Ko where
def J':TI:={rs:=some (.tup [.leaf (.ptr),.leaf (.int .i64)])}
theorem Fl:aI Tryz.prog 110 J' where
def Kr:TI:={rs:=some (.tup [.leaf (.ptr),.leaf (.int .i64)])}
theorem Fo:aI Tryz.prog 112 Kr where
def IX:TI:={size:=some 2,agg:=some true,rs:=some (.one (.agg [.int .i64,.int .i64])),zero:=some (Value.agg #[Value.int .i64 0,Value.int .i64 0]),offs:=some [(0,0,false),(1,0,false)],eqs:=some [.i,.i],conc:=true}
theorem GW:aI Tryz.prog 118 IX where
 size:=ai (2) rfl (by kernel_rfl)
 agg:=ai (true) rfl (by kernel_rfl)
 zero:=ai (Value.agg #[Value.int .i64 0,Value.int .i64 0]) rfl (by kernel_rfl)
 offs:=ai [(0,0,false),(1,0,false)] rfl ⟨a_ (Tryz.prog.underlying 118),by kernel_rfl,by kernel_rfl⟩
 conc:=am ⟨aA (Tryz.prog.underlying 118),by kernel_rfl,ao (by kernel_rfl)⟩
 eqs:=ai [.i,.i] rfl (by kernel_rfl)
def JY:TI:={rs:=some (.tup [.leaf (.ptr),.agg [.slice,.slice,.slice,.slice,.slice]])}
theorem GE:aI Tryz.prog 119 JY where
def Ki:TI:={rs:=some (.tup [.leaf (.int .i64),.leaf (.int .i64)])}
theorem Gk:aI Tryz.prog 121 Ki where
def Jw:TI:={size:=some 1,agg:=some false,rs:=some (.one (.leaf (.ptr))),zero:=some (Value.pointer none),conc:=true,isPtr:=true}
theorem EK:aI Tryz.prog 124 Jw where
 zero:=ai (Value.pointer none) rfl (by kernel_rfl)
 conc:=am ⟨aA (Tryz.prog.underlying 124),by kernel_rfl,ao (by kernel_rfl)⟩
 isPtr:=am ⟨242,by kernel_rfl⟩
def IW:TI:={size:=some 3,agg:=some true,rs:=some (.one (.agg [.ptr,.ptr,.ptr])),zero:=some (Value.agg #[Value.pointer none,Value.pointer none,Value.pointer none]),offs:=some [(0,0,false),(1,0,false),(2,0,false)],conc:=true}
theorem G2:aI Tryz.prog 126 IW where
 size:=ai (3) rfl (by kernel_rfl)
 agg:=ai (true) rfl (by kernel_rfl)
 zero:=ai (Value.agg #[Value.pointer none,Value.pointer none,Value.pointer none]) rfl (by kernel_rfl)
 offs:=ai [(0,0,false),(1,0,false),(2,0,false)] rfl ⟨a_ (Tryz.prog.underlying 126),by kernel_rfl,by kernel_rfl⟩
 conc:=am ⟨aA (Tryz.prog.underlying 126),by kernel_rfl,ao (by kernel_rfl)⟩
def Jj:TI:={size:=some 1,agg:=some false,rs:=some (.one (.leaf (.map))),zero:=some (Value.map none),elemSh:=some (.leaf (.int .i64)),conc:=true,isMap:=true}
theorem EB:aI Tryz.prog 128 Jj where
 zero:=ai (Value.map none) rfl (by kernel_rfl)
 conc:=am ⟨aA (Tryz.prog.underlying 128),by kernel_rfl,ao (by kernel_rfl)⟩
 isMap:=am ⟨3,3,by kernel_rfl⟩
def Kh:TI:={size:=some 1,agg:=some false,rs:=some (.one (.leaf (.slice))),zero:=some (Value.slice none 0 0),slc:=some (130,1),conc:=true,isSlc:=true}
theorem FL:aI Tryz.prog 129 Kh where
 zero:=ai (Value.slice none 0 0) rfl (by kernel_rfl)
 slc:=bj 130 1 rfl ⟨by kernel_rfl,by kernel_rfl⟩
 conc:=am ⟨aA (Tryz.prog.underlying 129),by kernel_rfl,ao (by kernel_rfl)⟩
 isSlc:=am ⟨130,by kernel_rfl⟩
def IL:TI:={size:=some 1,agg:=some false,rs:=some (.one (.leaf (.slice))),zero:=some (Value.slice none 0 0),slc:=some (59,1),conc:=true,isSlc:=true}
theorem FW:aI Tryz.prog 130 IL where
 zero:=ai (Value.slice none 0 0) rfl (by kernel_rfl)
 slc:=bj 59 1 rfl ⟨by kernel_rfl,by kernel_rfl⟩
 conc:=am ⟨aA (Tryz.prog.underlying 130),by kernel_rfl,ao (by kernel_rfl)⟩
 isSlc:=am ⟨59,by kernel_rfl⟩
def IV:TI:={size:=some 4,agg:=some true,rs:=some (.one (.agg [.slice,.map,.slice,.slice])),zero:=some (Value.agg #[Value.slice none 0 0,Value.map none,Value.slice none 0 0,Value.slice none 0 0]),offs:=some [(0,0,false),(1,0,false),(2,0,false),(3,0,false)],conc:=true}
theorem Gg:aI Tryz.prog 132 IV where
 size:=ai (4) rfl (by kernel_rfl)
 agg:=ai (true) rfl (by kernel_rfl)
 zero:=ai (Value.agg #[Value.slice none 0 0,Value.map none,Value.slice none 0 0,Value.slice none 0 0]) rfl (by kernel_rfl)
 offs:=ai [(0,0,false),(1,0,false),(2,0,false),(3,0,false)] rfl ⟨a_ (Tryz.prog.underlying 132),by kernel_rfl,by kernel_rfl⟩
 conc:=am ⟨aA (Tryz.prog.underlying 132),by kernel_rfl,ao (by kernel_rfl)⟩
def J8:TI:={size:=some 1,agg:=some false,rs:=some (.one (.leaf (.any))),zero:=some (Value.nilFunc),conc:=true}
theorem Fy:aI Tryz.prog 133 J8 where
 zero:=ai (Value.nilFunc) rfl (by kernel_rfl)
 conc:=am ⟨aA (Tryz.prog.underlying 133),by kernel_rfl,ao (by kernel_rfl)⟩
def Kl:TI:={rs:=some (.tup [.leaf (.int .i64),.leaf (.str),.leaf (.bool)])}
theorem Fw:aI Tryz.prog 134 Kl where
def JO:TI:={rs:=some (.tup [.leaf (.ptr),.leaf (.int .i64),.leaf (.int .i64),.leaf (.int .i64)])}
theorem Gd:aI Tryz.prog 140 JO where
def Ku:TI:={size:=some 1,agg:=some false,rs:=some (.one (.leaf (.ptr))),zero:=some (Value.pointer none),conc:=true,isPtr:=true}
theorem F1:aI Tryz.prog 145 Ku where
 zero:=ai (Value.pointer none) rfl (by kernel_rfl)
 conc:=am ⟨aA (Tryz.prog.underlying 145),by kernel_rfl,ao (by kernel_rfl)⟩
 isPtr:=am ⟨249,by kernel_rfl⟩
def Kn:TI:={size:=some 1,agg:=some false,rs:=some (.one (.leaf (.slice))),zero:=some (Value.slice none 0 0),slc:=some (28,1),conc:=true,isSlc:=true}
theorem ES:aI Tryz.prog 148 Kn where
 zero:=ai (Value.slice none 0 0) rfl (by kernel_rfl)
 slc:=bj 28 1 rfl ⟨by kernel_rfl,by kernel_rfl⟩
 conc:=am ⟨aA (Tryz.prog.underlying 148),by kernel_rfl,ao (by kernel_rfl)⟩
 isSlc:=am ⟨28,by kernel_rfl⟩
def JM:TI:={size:=some 1,agg:=some false,rs:=some (.one (.leaf (.slice))),zero:=some (Value.slice none 0 0),slc:=some (4,1),conc:=true,isSlc:=true}
theorem G4:aI Tryz.prog 149 JM where
 zero:=ai (Value.slice none 0 0) rfl (by kernel_rfl)
 slc:=bj 4 1 rfl ⟨by kernel_rfl,by kernel_rfl⟩
 conc:=am ⟨aA (Tryz.prog.underlying 149),by kernel_rfl,ao (by kernel_rfl)⟩
 isSlc:=am ⟨4,by kernel_rfl⟩
def Kk:TI:={size:=some 1,agg:=some false,rs:=some (.one (.leaf (.int .u32))),zero:=some (Value.int .u32 0),intk:=some .u32,conc:=true}
theorem Fr:aI Tryz.prog 153 Kk where
 zero:=ai (Value.int .u32 0) rfl (by kernel_rfl)
 intk:=ai (IntKind.u32) rfl (by kernel_rfl)
 conc:=am ⟨aA (Tryz.prog.underlying 153),by kernel_rfl,ao (by kernel_rfl)⟩
def Jv:TI:={size:=some 4,agg:=some true,rs:=some (.one (.agg [.int .u32,.int .i32,.int .u32,.slice])),zero:=some (Value.agg #[Value.int .u32 0,Value.int .i32 0,Value.int .u32 0,Value.slice none 0 0]),offs:=some [(0,2,true),(3,0,false)],conc:=true}
theorem GL:aI Tryz.prog 163 Jv where
 size:=ai (4) rfl (by kernel_rfl)
 agg:=ai (true) rfl (by kernel_rfl)
 zero:=ai (Value.agg #[Value.int .u32 0,Value.int .i32 0,Value.int .u32 0,Value.slice none 0 0]) rfl (by kernel_rfl)
 offs:=ai [(0,2,true),(3,0,false)] rfl ⟨a_ (Tryz.prog.underlying 163),by kernel_rfl,by kernel_rfl⟩
 conc:=am ⟨aA (Tryz.prog.underlying 163),by kernel_rfl,ao (by kernel_rfl)⟩
def Jr:TI:={size:=some 7,agg:=some true,rs:=some (.one (.agg [.ptr,.slice,.slice,.int .u32,.int .i32,.int .u32,.slice])),zero:=some (Value.agg #[Value.pointer none,Value.slice none 0 0,Value.slice none 0 0,Value.int .u32 0,Value.int .i32 0,Value.int .u32 0,Value.slice none 0 0]),offs:=some [(0,0,false),(1,0,false),(2,0,false),(3,3,true)],conc:=true}
theorem Gt:aI Tryz.prog 165 Jr where
 size:=ai (7) rfl (by kernel_rfl)
 agg:=ai (true) rfl (by kernel_rfl)
 zero:=ai (Value.agg #[Value.pointer none,Value.slice none 0 0,Value.slice none 0 0,Value.int .u32 0,Value.int .i32 0,Value.int .u32 0,Value.slice none 0 0]) rfl (by kernel_rfl)
 offs:=ai [(0,0,false),(1,0,false),(2,0,false),(3,3,true)] rfl ⟨a_ (Tryz.prog.underlying 165),by kernel_rfl,by kernel_rfl⟩
 conc:=am ⟨aA (Tryz.prog.underlying 165),by kernel_rfl,ao (by kernel_rfl)⟩
def IP:TI:={size:=some 1,agg:=some false,rs:=some (.one (.leaf (.slice))),zero:=some (Value.slice none 0 0),slc:=some (88,1),conc:=true,isSlc:=true}
theorem E1:aI Tryz.prog 166 IP where
 zero:=ai (Value.slice none 0 0) rfl (by kernel_rfl)
 slc:=bj 88 1 rfl ⟨by kernel_rfl,by kernel_rfl⟩
 conc:=am ⟨aA (Tryz.prog.underlying 166),by kernel_rfl,ao (by kernel_rfl)⟩
 isSlc:=am ⟨88,by kernel_rfl⟩
def Ju:TI:={size:=some 1,agg:=some false,rs:=some (.one (.leaf (.slice))),zero:=some (Value.slice none 0 0),slc:=some (166,1),conc:=true,isSlc:=true}
theorem EA:aI Tryz.prog 168 Ju where
 zero:=ai (Value.slice none 0 0) rfl (by kernel_rfl)
 slc:=bj 166 1 rfl ⟨by kernel_rfl,by kernel_rfl⟩
 conc:=am ⟨aA (Tryz.prog.underlying 168),by kernel_rfl,ao (by kernel_rfl)⟩
 isSlc:=am ⟨166,by kernel_rfl⟩
def Jo:TI:={size:=some 4,agg:=some true,rs:=some (.one (.agg [.int .u32,.int .i32,.int .u32,.slice])),zero:=some (Value.agg #[Value.int .u32 0,Value.int .i32 0,Value.int .u32 0,Value.slice none 0 0]),offs:=some [(0,2,true),(3,0,false)],conc:=true}
theorem Fe:aI Tryz.prog 170 Jo where
 size:=ai (4) rfl (by kernel_rfl)
 agg:=ai (true) rfl (by kernel_rfl)
 zero:=ai (Value.agg #[Value.int .u32 0,Value.int .i32 0,Value.int .u32 0,Value.slice none 0 0]) rfl (by kernel_rfl)
 offs:=ai [(0,2,true),(3,0,false)] rfl ⟨a_ (Tryz.prog.underlying 170),by kernel_rfl,by kernel_rfl⟩
 conc:=am ⟨aA (Tryz.prog.underlying 170),by kernel_rfl,ao (by kernel_rfl)⟩
def JS:TI:={size:=some 7,agg:=some true,rs:=some (.one (.agg [.ptr,.ptr,.int .i64,.int .u32,.int .i32,.int .u32,.slice])),zero:=some (Value.agg #[Value.pointer none,Value.pointer none,Value.int .i64 0,Value.int .u32 0,Value.int .i32 0,Value.int .u32 0,Value.slice none 0 0]),offs:=some [(0,0,false),(1,0,false),(2,0,false),(3,3,true)],conc:=true}
theorem F3:aI Tryz.prog 172 JS where
 size:=ai (7) rfl (by kernel_rfl)
 agg:=ai (true) rfl (by kernel_rfl)
 zero:=ai (Value.agg #[Value.pointer none,Value.pointer none,Value.int .i64 0,Value.int .u32 0,Value.int .i32 0,Value.int .u32 0,Value.slice none 0 0]) rfl (by kernel_rfl)
 offs:=ai [(0,0,false),(1,0,false),(2,0,false),(3,3,true)] rfl ⟨a_ (Tryz.prog.underlying 172),by kernel_rfl,by kernel_rfl⟩
 conc:=am ⟨aA (Tryz.prog.underlying 172),by kernel_rfl,ao (by kernel_rfl)⟩
def Jq:TI:={rs:=some (.tup [.agg [.slice],.leaf (.int .u32)])}
theorem GU:aI Tryz.prog 176 Jq where
def Kd:TI:={size:=some 1,agg:=some false,rs:=some (.one (.leaf (.slice))),zero:=some (Value.slice none 0 0),slc:=some (98,1),conc:=true,isSlc:=true}
theorem Fn:aI Tryz.prog 180 Kd where
 zero:=ai (Value.slice none 0 0) rfl (by kernel_rfl)
 slc:=bj 98 1 rfl ⟨by kernel_rfl,by kernel_rfl⟩
 conc:=am ⟨aA (Tryz.prog.underlying 180),by kernel_rfl,ao (by kernel_rfl)⟩
 isSlc:=am ⟨98,by kernel_rfl⟩
def Kt:TI:={rs:=some (.tup [.agg [.slice],.leaf (.bool)])}
theorem G5:aI Tryz.prog 185 Kt where
def Kc:TI:={size:=some 1,agg:=some false,rs:=some (.one (.leaf (.any))),zero:=some (Value.nilFunc),conc:=true}
theorem Gq:aI Tryz.prog 187 Kc where
 zero:=ai (Value.nilFunc) rfl (by kernel_rfl)
 conc:=am ⟨aA (Tryz.prog.underlying 187),by kernel_rfl,ao (by kernel_rfl)⟩
def J0:TI:={rs:=some (.tup [.leaf (.slice),.leaf (.map)])}
theorem Fq:aI Tryz.prog 192 J0 where
def JW:TI:={size:=some 1,agg:=some false,rs:=some (.one (.leaf (.ptr))),zero:=some (Value.pointer none),conc:=true,isPtr:=true}
theorem EY:aI Tryz.prog 199 JW where
 zero:=ai (Value.pointer none) rfl (by kernel_rfl)
 conc:=am ⟨aA (Tryz.prog.underlying 199),by kernel_rfl,ao (by kernel_rfl)⟩
 isPtr:=am ⟨270,by kernel_rfl⟩
def I9:TI:={rs:=some (.tup [.leaf (.str),.leaf (.bool)])}
theorem Fg:aI Tryz.prog 203 I9 where
def Jy:TI:={size:=some 1,agg:=some false,rs:=some (.one (.leaf (.any))),zero:=some (Value.nilFunc),conc:=true}
theorem GY:aI Tryz.prog 208 Jy where
 zero:=ai (Value.nilFunc) rfl (by kernel_rfl)
 conc:=am ⟨aA (Tryz.prog.underlying 208),by kernel_rfl,ao (by kernel_rfl)⟩
def JN:TI:={size:=some 1,agg:=some false,rs:=some (.one (.leaf (.any))),zero:=some (Value.nilFunc),conc:=true}
theorem Fp:aI Tryz.prog 210 JN where
 zero:=ai (Value.nilFunc) rfl (by kernel_rfl)
 conc:=am ⟨aA (Tryz.prog.underlying 210),by kernel_rfl,ao (by kernel_rfl)⟩
def IQ:TI:={size:=some 1,agg:=some false,rs:=some (.one (.leaf (.any))),zero:=some (Value.nilFunc),conc:=true}
theorem Ev:aI Tryz.prog 212 IQ where
 zero:=ai (Value.nilFunc) rfl (by kernel_rfl)
 conc:=am ⟨aA (Tryz.prog.underlying 212),by kernel_rfl,ao (by kernel_rfl)⟩
def Iz:TI:={size:=some 3,agg:=some true,rs:=some (.one (.agg [.int .i64,.int .i64,.int .i64])),zero:=some (Value.agg #[Value.int .i64 0,Value.int .i64 0,Value.int .i64 0]),offs:=some [(0,0,false),(1,0,false),(2,0,false)],eqs:=some [.i,.i,.i],conc:=true}
theorem Gz:aI Tryz.prog 215 Iz where
 size:=ai (3) rfl (by kernel_rfl)
 agg:=ai (true) rfl (by kernel_rfl)
 zero:=ai (Value.agg #[Value.int .i64 0,Value.int .i64 0,Value.int .i64 0]) rfl (by kernel_rfl)
 offs:=ai [(0,0,false),(1,0,false),(2,0,false)] rfl ⟨a_ (Tryz.prog.underlying 215),by kernel_rfl,by kernel_rfl⟩
 conc:=am ⟨aA (Tryz.prog.underlying 215),by kernel_rfl,ao (by kernel_rfl)⟩
 eqs:=ai [.i,.i,.i] rfl (by kernel_rfl)
def JH:TI:={size:=some 1,agg:=some false,rs:=some (.one (.leaf (.any))),zero:=some (Value.nilFunc),conc:=true}
theorem FT:aI Tryz.prog 216 JH where
 zero:=ai (Value.nilFunc) rfl (by kernel_rfl)
 conc:=am ⟨aA (Tryz.prog.underlying 216),by kernel_rfl,ao (by kernel_rfl)⟩
def Kj:TI:={size:=some 2,agg:=some true,rs:=some (.one (.agg [.int .i64,.int .i64])),zero:=some (Value.agg #[Value.int .i64 0,Value.int .i64 0]),offs:=some [(0,0,false),(1,0,false)],eqs:=some [.i,.i],conc:=true}
theorem F7:aI Tryz.prog 218 Kj where
 size:=ai (2) rfl (by kernel_rfl)
 agg:=ai (true) rfl (by kernel_rfl)
 zero:=ai (Value.agg #[Value.int .i64 0,Value.int .i64 0]) rfl (by kernel_rfl)
 offs:=ai [(0,0,false),(1,0,false)] rfl ⟨a_ (Tryz.prog.underlying 218),by kernel_rfl,by kernel_rfl⟩
 conc:=am ⟨aA (Tryz.prog.underlying 218),by kernel_rfl,ao (by kernel_rfl)⟩
 eqs:=ai [.i,.i] rfl (by kernel_rfl)
def IC:TI:={size:=some 1,agg:=some false,rs:=some (.one (.leaf (.any))),zero:=some (Value.nilFunc),conc:=true}
theorem EM:aI Tryz.prog 219 IC where
 zero:=ai (Value.nilFunc) rfl (by kernel_rfl)
 conc:=am ⟨aA (Tryz.prog.underlying 219),by kernel_rfl,ao (by kernel_rfl)⟩
def Is:TI:={rs:=some (.tup [.leaf (.ptr),.leaf (.int .i64),.leaf (.int .i64)])}
theorem EF:aI Tryz.prog 220 Is where
def Iv:TI:={rs:=some (.tup [.leaf (.ptr),.leaf (.int .i64),.leaf (.int .i64)])}
theorem Ff:aI Tryz.prog 222 Iv where
def IN:TI:={size:=some 1,agg:=some false,rs:=some (.one (.leaf (.ptr))),zero:=some (Value.pointer none),conc:=true,isPtr:=true}
theorem F8:aI Tryz.prog 225 IN where
 zero:=ai (Value.pointer none) rfl (by kernel_rfl)
 conc:=am ⟨aA (Tryz.prog.underlying 225),by kernel_rfl,ao (by kernel_rfl)⟩
 isPtr:=am ⟨293,by kernel_rfl⟩
def JE:TI:={rs:=some (.tup [.leaf (.ptr),.leaf (.int .i64)])}
theorem FC:aI Tryz.prog 226 JE where
def IF:TI:={size:=some 9,agg:=some true,rs:=some (.one (.agg [.bool,.slice,.slice,.slice,.slice,.slice,.ptr,.ptr,.ptr])),zero:=some (Value.agg #[Value.bool false,Value.slice none 0 0,Value.slice none 0 0,Value.slice none 0 0,Value.slice none 0 0,Value.slice none 0 0,Value.pointer none,Value.pointer none,Value.pointer none]),offs:=some [(0,5,true),(6,0,false),(7,0,false),(8,0,false)],conc:=true}
theorem Gr:aI Tryz.prog 230 IF where
 size:=ai (9) rfl (by kernel_rfl)
 agg:=ai (true) rfl (by kernel_rfl)
 zero:=ai (Value.agg #[Value.bool false,Value.slice none 0 0,Value.slice none 0 0,Value.slice none 0 0,Value.slice none 0 0,Value.slice none 0 0,Value.pointer none,Value.pointer none,Value.pointer none]) rfl (by kernel_rfl)
 offs:=ai [(0,5,true),(6,0,false),(7,0,false),(8,0,false)] rfl ⟨a_ (Tryz.prog.underlying 230),by kernel_rfl,by kernel_rfl⟩
 conc:=am ⟨aA (Tryz.prog.underlying 230),by kernel_rfl,ao (by kernel_rfl)⟩
def Jx:TI:={size:=some 4,agg:=some true,rs:=some (.one (.agg [.int .u32,.int .i32,.int .u32,.slice])),zero:=some (Value.agg #[Value.int .u32 0,Value.int .i32 0,Value.int .u32 0,Value.slice none 0 0]),offs:=some [(0,2,true),(3,0,false)],conc:=true}
theorem E5:aI Tryz.prog 232 Jx where
 size:=ai (4) rfl (by kernel_rfl)
 agg:=ai (true) rfl (by kernel_rfl)
 zero:=ai (Value.agg #[Value.int .u32 0,Value.int .i32 0,Value.int .u32 0,Value.slice none 0 0]) rfl (by kernel_rfl)
 offs:=ai [(0,2,true),(3,0,false)] rfl ⟨a_ (Tryz.prog.underlying 232),by kernel_rfl,by kernel_rfl⟩
 conc:=am ⟨aA (Tryz.prog.underlying 232),by kernel_rfl,ao (by kernel_rfl)⟩
def Kp:TI:={size:=some 14,agg:=some true,rs:=some (.one (.agg [.bool,.slice,.slice,.slice,.slice,.slice,.ptr,.ptr,.ptr,.int .u32,.int .i32,.int .u32,.slice,.int .i64])),zero:=some (Value.agg #[Value.bool false,Value.slice none 0 0,Value.slice none 0 0,Value.slice none 0 0,Value.slice none 0 0,Value.slice none 0 0,Value.pointer none,Value.pointer none,Value.pointer none,Value.int .u32 0,Value.int .i32 0,Value.int .u32 0,Value.slice none 0 0,Value.int .i64 0]),offs:=some [(0,8,true),(9,3,true),(13,0,true)],conc:=true}
theorem E3:aI Tryz.prog 237 Kp where
 size:=ai (14) rfl (by kernel_rfl)
 agg:=ai (true) rfl (by kernel_rfl)
 zero:=ai (Value.agg #[Value.bool false,Value.slice none 0 0,Value.slice none 0 0,Value.slice none 0 0,Value.slice none 0 0,Value.slice none 0 0,Value.pointer none,Value.pointer none,Value.pointer none,Value.int .u32 0,Value.int .i32 0,Value.int .u32 0,Value.slice none 0 0,Value.int .i64 0]) rfl (by kernel_rfl)
 offs:=ai [(0,8,true),(9,3,true),(13,0,true)] rfl ⟨a_ (Tryz.prog.underlying 237),by kernel_rfl,by kernel_rfl⟩
 conc:=am ⟨aA (Tryz.prog.underlying 237),by kernel_rfl,ao (by kernel_rfl)⟩
def Jd:TI:={size:=some 1,agg:=some false,rs:=some (.one (.leaf (.ptr))),zero:=some (Value.pointer none),conc:=true,isPtr:=true}
theorem GC:aI Tryz.prog 240 Jd where
 zero:=ai (Value.pointer none) rfl (by kernel_rfl)
 conc:=am ⟨aA (Tryz.prog.underlying 240),by kernel_rfl,ao (by kernel_rfl)⟩
 isPtr:=am ⟨275,by kernel_rfl⟩
def Kq:TI:={size:=some 2,agg:=some true,rs:=some (.one (.agg [.ptr,.int .i64])),zero:=some (Value.agg #[Value.pointer none,Value.int .i64 0]),offs:=some [(0,0,false),(1,0,false)],conc:=true}
theorem E_:aI Tryz.prog 242 Kq where
 size:=ai (2) rfl (by kernel_rfl)
 agg:=ai (true) rfl (by kernel_rfl)
 zero:=ai (Value.agg #[Value.pointer none,Value.int .i64 0]) rfl (by kernel_rfl)
 offs:=ai [(0,0,false),(1,0,false)] rfl ⟨a_ (Tryz.prog.underlying 242),by kernel_rfl,by kernel_rfl⟩
 conc:=am ⟨aA (Tryz.prog.underlying 242),by kernel_rfl,ao (by kernel_rfl)⟩
def IJ:TI:={size:=some 1,agg:=some false,rs:=some (.one (.leaf (.slice))),zero:=some (Value.slice none 0 0),slc:=some (278,3),conc:=true,isSlc:=true}
theorem Gj:aI Tryz.prog 245 IJ where
 zero:=ai (Value.slice none 0 0) rfl (by kernel_rfl)
 slc:=bj 278 3 rfl ⟨by kernel_rfl,by kernel_rfl⟩
 conc:=am ⟨aA (Tryz.prog.underlying 245),by kernel_rfl,ao (by kernel_rfl)⟩
 isSlc:=am ⟨278,by kernel_rfl⟩
def Jl:TI:={size:=some 1,agg:=some false,rs:=some (.one (.leaf (.map))),zero:=some (Value.map none),elemSh:=some (.leaf (.int .i64)),conc:=true,isMap:=true}
theorem EZ:aI Tryz.prog 246 Jl where
 zero:=ai (Value.map none) rfl (by kernel_rfl)
 conc:=am ⟨aA (Tryz.prog.underlying 246),by kernel_rfl,ao (by kernel_rfl)⟩
 isMap:=am ⟨9,3,by kernel_rfl⟩
def Jz:TI:={size:=some 1,agg:=some false,rs:=some (.one (.leaf (.map))),zero:=some (Value.map none),elemSh:=some (.leaf (.int .i64)),conc:=true,isMap:=true}
theorem Gp:aI Tryz.prog 247 Jz where
 zero:=ai (Value.map none) rfl (by kernel_rfl)
 conc:=am ⟨aA (Tryz.prog.underlying 247),by kernel_rfl,ao (by kernel_rfl)⟩
 isMap:=am ⟨118,3,by kernel_rfl⟩
def Ke:TI:={size:=some 4,agg:=some true,rs:=some (.one (.agg [.slice,.map,.map,.int .i64])),zero:=some (Value.agg #[Value.slice none 0 0,Value.map none,Value.map none,Value.int .i64 0]),offs:=some [(0,0,false),(1,0,false),(2,0,false),(3,0,false)],conc:=true}
theorem ET:aI Tryz.prog 249 Ke where
 size:=ai (4) rfl (by kernel_rfl)
 agg:=ai (true) rfl (by kernel_rfl)
 zero:=ai (Value.agg #[Value.slice none 0 0,Value.map none,Value.map none,Value.int .i64 0]) rfl (by kernel_rfl)
 offs:=ai [(0,0,false),(1,0,false),(2,0,false),(3,0,false)] rfl ⟨a_ (Tryz.prog.underlying 249),by kernel_rfl,by kernel_rfl⟩
 conc:=am ⟨aA (Tryz.prog.underlying 249),by kernel_rfl,ao (by kernel_rfl)⟩
def Ks:TI:={size:=some 1,agg:=some false,rs:=some (.one (.leaf (.slice))),zero:=some (Value.slice none 0 0),slc:=some (253,1),conc:=true,isSlc:=true}
theorem FA:aI Tryz.prog 252 Ks where
 zero:=ai (Value.slice none 0 0) rfl (by kernel_rfl)
 slc:=bj 253 1 rfl ⟨by kernel_rfl,by kernel_rfl⟩
 conc:=am ⟨aA (Tryz.prog.underlying 252),by kernel_rfl,ao (by kernel_rfl)⟩
 isSlc:=am ⟨253,by kernel_rfl⟩
def JZ:TI:={size:=some 1,agg:=some false,rs:=some (.one (.leaf (.map))),zero:=some (Value.map none),elemSh:=some (.leaf (.int .u32)),conc:=true,isMap:=true}
theorem FP:aI Tryz.prog 253 JZ where
 zero:=ai (Value.map none) rfl (by kernel_rfl)
 conc:=am ⟨aA (Tryz.prog.underlying 253),by kernel_rfl,ao (by kernel_rfl)⟩
 isMap:=am ⟨3,153,by kernel_rfl⟩
def IT:TI:={rs:=some (.tup [.leaf (.int .u64),.leaf (.int .u64)])}
theorem Ge:aI Tryz.prog 259 IT where
def Jn:TI:={rs:=some (.tup [.leaf (.int .i64),.leaf (.int .i64)])}
theorem Gl:aI Tryz.prog 263 Jn where
def Ka:TI:={rs:=some (.tup [.agg [.slice,.slice,.slice,.slice,.slice],.leaf (.int .i64),.leaf (.int .i64),.leaf (.int .i64)])}
theorem GR:aI Tryz.prog 265 Ka where
def Jb:TI:={size:=some 256,agg:=some true,zero:=some (Value.agg (List.toArray (List.replicate 256 (Value.bool false)))),arr:=some (256,1),conc:=true}
theorem Gy:aI Tryz.prog 268 Jb where
 size:=ai (256) rfl (by kernel_rfl)
 agg:=ai (true) rfl (by kernel_rfl)
 zero:=ai (Value.agg (List.toArray (List.replicate 256 (Value.bool false)))) rfl (by kernel_rfl)
 arr:=bj 256 1 rfl ⟨4,by kernel_rfl,by kernel_rfl⟩
 conc:=am ⟨aA (Tryz.prog.underlying 268),by kernel_rfl,ao (by kernel_rfl)⟩
def JB:TI:={size:=some 260,agg:=some true,zero:=some (Value.agg (List.toArray ([Value.slice none 0 0,Value.map none,Value.map none]++List.replicate 256 (Value.bool false)++ [Value.int .i64 0]))),offs:=some [(0,0,false),(1,0,false),(2,0,false),(3,255,true),(259,0,false)],conc:=true}
theorem EI:aI Tryz.prog 270 JB where
 size:=ai (260) rfl (by kernel_rfl)
 agg:=ai (true) rfl (by kernel_rfl)
 zero:=ai (Value.agg (List.toArray ([Value.slice none 0 0,Value.map none,Value.map none]++List.replicate 256 (Value.bool false)++ [Value.int .i64 0]))) rfl (by kernel_rfl)
 offs:=ai [(0,0,false),(1,0,false),(2,0,false),(3,255,true),(259,0,false)] rfl ⟨a_ (Tryz.prog.underlying 270),by kernel_rfl,by kernel_rfl⟩
 conc:=am ⟨aA (Tryz.prog.underlying 270),by kernel_rfl,ao (by kernel_rfl)⟩
def It:TI:={size:=some 1,agg:=some false,rs:=some (.one (.leaf (.map))),zero:=some (Value.map none),elemSh:=some (.leaf (.ptr)),conc:=true,isMap:=true}
theorem EO:aI Tryz.prog 273 It where
 zero:=ai (Value.map none) rfl (by kernel_rfl)
 conc:=am ⟨aA (Tryz.prog.underlying 273),by kernel_rfl,ao (by kernel_rfl)⟩
 isMap:=am ⟨5,240,by kernel_rfl⟩
def IM:TI:={size:=some 2,agg:=some true,rs:=some (.one (.agg [.map,.int .i64])),zero:=some (Value.agg #[Value.map none,Value.int .i64 0]),offs:=some [(0,0,false),(1,0,false)],conc:=true}
theorem GQ:aI Tryz.prog 275 IM where
 size:=ai (2) rfl (by kernel_rfl)
 agg:=ai (true) rfl (by kernel_rfl)
 zero:=ai (Value.agg #[Value.map none,Value.int .i64 0]) rfl (by kernel_rfl)
 offs:=ai [(0,0,false),(1,0,false)] rfl ⟨a_ (Tryz.prog.underlying 275),by kernel_rfl,by kernel_rfl⟩
 conc:=am ⟨aA (Tryz.prog.underlying 275),by kernel_rfl,ao (by kernel_rfl)⟩
def Kg:TI:={size:=some 3,agg:=some true,rs:=some (.one (.agg [.str,.int .i64,.int .i64])),zero:=some (Value.agg #[Value.string ⟨#[]⟩,Value.int .i64 0,Value.int .i64 0]),offs:=some [(0,0,false),(1,1,true)],conc:=true}
theorem G9:aI Tryz.prog 278 Kg where
 size:=ai (3) rfl (by kernel_rfl)
 agg:=ai (true) rfl (by kernel_rfl)
 zero:=ai (Value.agg #[Value.string ⟨#[]⟩,Value.int .i64 0,Value.int .i64 0]) rfl (by kernel_rfl)
 offs:=ai [(0,0,false),(1,1,true)] rfl ⟨a_ (Tryz.prog.underlying 278),by kernel_rfl,by kernel_rfl⟩
 conc:=am ⟨aA (Tryz.prog.underlying 278),by kernel_rfl,ao (by kernel_rfl)⟩
def JT:TI:={size:=some 256,agg:=some true,zero:=some (Value.agg (List.toArray (List.replicate 256 (Value.int .i64 0)))),arr:=some (256,1),conc:=true}
theorem Fa:aI Tryz.prog 289 JT where
 size:=ai (256) rfl (by kernel_rfl)
 agg:=ai (true) rfl (by kernel_rfl)
 zero:=ai (Value.agg (List.toArray (List.replicate 256 (Value.int .i64 0)))) rfl (by kernel_rfl)
 arr:=bj 256 1 rfl ⟨3,by kernel_rfl,by kernel_rfl⟩
 conc:=am ⟨aA (Tryz.prog.underlying 289),by kernel_rfl,ao (by kernel_rfl)⟩
def I0:TI:={size:=some 16,agg:=some true,rs:=some (.one (.agg [.bool,.bool,.bool,.bool,.bool,.bool,.bool,.bool,.bool,.bool,.bool,.bool,.bool,.bool,.bool,.bool])),zero:=some (Value.agg #[Value.bool false,Value.bool false,Value.bool false,Value.bool false,Value.bool false,Value.bool false,Value.bool false,Value.bool false,Value.bool false,Value.bool false,Value.bool false,Value.bool false,Value.bool false,Value.bool false,Value.bool false,Value.bool false]),arr:=some (16,1),conc:=true}
theorem GJ:aI Tryz.prog 290 I0 where
 size:=ai (16) rfl (by kernel_rfl)
 agg:=ai (true) rfl (by kernel_rfl)
 zero:=ai (Value.agg #[Value.bool false,Value.bool false,Value.bool false,Value.bool false,Value.bool false,Value.bool false,Value.bool false,Value.bool false,Value.bool false,Value.bool false,Value.bool false,Value.bool false,Value.bool false,Value.bool false,Value.bool false,Value.bool false]) rfl (by kernel_rfl)
 arr:=bj 16 1 rfl ⟨4,by kernel_rfl,by kernel_rfl⟩
 conc:=am ⟨aA (Tryz.prog.underlying 290),by kernel_rfl,ao (by kernel_rfl)⟩
def JR:TI:={size:=some 256,agg:=some true,zero:=some (Value.agg (List.toArray (List.replicate 256 (Value.bool false)))),arr:=some (16,16),conc:=true}
theorem EE:aI Tryz.prog 291 JR where
 size:=ai (256) rfl (by kernel_rfl)
 agg:=ai (true) rfl (by kernel_rfl)
 zero:=ai (Value.agg (List.toArray (List.replicate 256 (Value.bool false)))) rfl (by kernel_rfl)
 arr:=bj 16 16 rfl ⟨290,by kernel_rfl,by kernel_rfl⟩
 conc:=am ⟨aA (Tryz.prog.underlying 291),by kernel_rfl,ao (by kernel_rfl)⟩
def IS:TI:={size:=some 512,agg:=some true,zero:=some (Value.agg (List.toArray (List.replicate 256 (Value.int .i64 0)++List.replicate 256 (Value.bool false)))),offs:=some [(0,255,true),(256,255,true)],conc:=true}
theorem ED:aI Tryz.prog 293 IS where
 size:=ai (512) rfl (by kernel_rfl)
 agg:=ai (true) rfl (by kernel_rfl)
 zero:=ai (Value.agg (List.toArray (List.replicate 256 (Value.int .i64 0)++List.replicate 256 (Value.bool false)))) rfl (by kernel_rfl)
 offs:=ai [(0,255,true),(256,255,true)] rfl ⟨a_ (Tryz.prog.underlying 293),by kernel_rfl,by kernel_rfl⟩
 conc:=am ⟨aA (Tryz.prog.underlying 293),by kernel_rfl,ao (by kernel_rfl)⟩
def Kv:TI:={rs:=some (.tup [.leaf (.ptr),.leaf (.bool)])}
theorem FX:aI Tryz.prog 306 Kv where
def Kf:TI:={rs:=some (.tup [.leaf (.int .u64),.leaf (.int .u64)])}
theorem F':aI Tryz.prog 313 Kf where
def Ja:TI:={rs:=some (.tup [.leaf (.slice),.leaf (.int .i64)])}
theorem Gx:aI Tryz.prog 315 Ja where
def Ji:TI:={size:=some 1,agg:=some false,rs:=some (.one (.leaf (.any))),zero:=some (Value.nilFunc),conc:=true}
theorem FO:aI Tryz.prog 319 Ji where
 zero:=ai (Value.nilFunc) rfl (by kernel_rfl)
 conc:=am ⟨aA (Tryz.prog.underlying 319),by kernel_rfl,ao (by kernel_rfl)⟩
def I':TI:={size:=some 1,agg:=some false,rs:=some (.one (.leaf (.int .u16))),zero:=some (Value.int .u16 0),intk:=some .u16,conc:=true}
theorem EH:aI Tryz.prog 321 I' where
 zero:=ai (Value.int .u16 0) rfl (by kernel_rfl)
 intk:=ai (IntKind.u16) rfl (by kernel_rfl)
 conc:=am ⟨aA (Tryz.prog.underlying 321),by kernel_rfl,ao (by kernel_rfl)⟩
def Iy:TI:={rs:=some (.tup [.agg [.slice,.slice],.leaf (.int .i64)])}
theorem GD:aI Tryz.prog 322 Iy where
def I_:TI:={rs:=some (.tup [.agg [.slice,.slice],.leaf (.int .i64),.leaf (.int .i64)])}
theorem FS:aI Tryz.prog 324 I_ where
def IY:TI:={size:=some 1,agg:=some false,rs:=some (.one (.leaf (.int .i64))),zero:=some (Value.int .i64 0),intk:=some .i64,conc:=true}
theorem FH:aI Tryz.prog 327 IY where
 zero:=ai (Value.int .i64 0) rfl (by kernel_rfl)
 intk:=ai (IntKind.i64) rfl (by kernel_rfl)
 conc:=am ⟨aA (Tryz.prog.underlying 327),by kernel_rfl,ao (by kernel_rfl)⟩
def Jm:TI:={rs:=some (.tup [.leaf (.int .i64),.leaf (.int .i64)])}
theorem Fv:aI Tryz.prog 328 Jm where
def JI:TI:={size:=some 1,agg:=some false,rs:=some (.one (.leaf (.any))),zero:=some (Value.nilFunc),conc:=true}
theorem Gn:aI Tryz.prog 335 JI where
 zero:=ai (Value.nilFunc) rfl (by kernel_rfl)
 conc:=am ⟨aA (Tryz.prog.underlying 335),by kernel_rfl,ao (by kernel_rfl)⟩
def JQ:TI:={rs:=some (.tup [.agg [.int .i64,.int .i64],.leaf (.bool)])}
theorem GT:aI Tryz.prog 340 JQ where
def JA:TI:={size:=some 1,agg:=some false,rs:=some (.one (.leaf (.ptr))),zero:=some (Value.pointer none),conc:=true,isPtr:=true}
theorem E8:aI Tryz.prog 345 JA where
 zero:=ai (Value.pointer none) rfl (by kernel_rfl)
 conc:=am ⟨aA (Tryz.prog.underlying 345),by kernel_rfl,ao (by kernel_rfl)⟩
 isPtr:=am ⟨365,by kernel_rfl⟩
def Js:TI:={size:=some 1,agg:=some false,rs:=some (.one (.leaf (.map))),zero:=some (Value.map none),elemSh:=some (.leaf (.int .i64)),conc:=true,isMap:=true}
theorem Fi:aI Tryz.prog 350 Js where
 zero:=ai (Value.map none) rfl (by kernel_rfl)
 conc:=am ⟨aA (Tryz.prog.underlying 350),by kernel_rfl,ao (by kernel_rfl)⟩
 isMap:=am ⟨4,3,by kernel_rfl⟩
def J_:TI:={size:=some 1,agg:=some false,rs:=some (.one (.leaf (.ptr))),zero:=some (Value.pointer none),conc:=true,isPtr:=true}
theorem EP:aI Tryz.prog 358 J_ where
 zero:=ai (Value.pointer none) rfl (by kernel_rfl)
 conc:=am ⟨aA (Tryz.prog.underlying 358),by kernel_rfl,ao (by kernel_rfl)⟩
 isPtr:=am ⟨3,by kernel_rfl⟩
def IB:TI:={size:=some 1,agg:=some false,rs:=some (.one (.leaf (.ptr))),zero:=some (Value.pointer none),conc:=true,isPtr:=true}
theorem GM:aI Tryz.prog 360 IB where
 zero:=ai (Value.pointer none) rfl (by kernel_rfl)
 conc:=am ⟨aA (Tryz.prog.underlying 360),by kernel_rfl,ao (by kernel_rfl)⟩
 isPtr:=am ⟨381,by kernel_rfl⟩
def Je:TI:={size:=some 2,agg:=some true,rs:=some (.one (.agg [.int .i64,.int .i64])),zero:=some (Value.agg #[Value.int .i64 0,Value.int .i64 0]),offs:=some [(0,1,true)],conc:=true}
theorem ER:aI Tryz.prog 363 Je where
 size:=ai (2) rfl (by kernel_rfl)
 agg:=ai (true) rfl (by kernel_rfl)
 zero:=ai (Value.agg #[Value.int .i64 0,Value.int .i64 0]) rfl (by kernel_rfl)
 offs:=ai [(0,1,true)] rfl ⟨a_ (Tryz.prog.underlying 363),by kernel_rfl,by kernel_rfl⟩
 conc:=am ⟨aA (Tryz.prog.underlying 363),by kernel_rfl,ao (by kernel_rfl)⟩
def Jg:TI:={size:=some 5,agg:=some true,rs:=some (.one (.agg [.int .i64,.int .i64,.ptr,.int .i64,.int .i64])),zero:=some (Value.agg #[Value.int .i64 0,Value.int .i64 0,Value.pointer none,Value.int .i64 0,Value.int .i64 0]),offs:=some [(0,1,true),(2,0,false),(3,0,false),(4,0,false)],conc:=true}
theorem GK:aI Tryz.prog 365 Jg where
 size:=ai (5) rfl (by kernel_rfl)
 agg:=ai (true) rfl (by kernel_rfl)
 zero:=ai (Value.agg #[Value.int .i64 0,Value.int .i64 0,Value.pointer none,Value.int .i64 0,Value.int .i64 0]) rfl (by kernel_rfl)
 offs:=ai [(0,1,true),(2,0,false),(3,0,false),(4,0,false)] rfl ⟨a_ (Tryz.prog.underlying 365),by kernel_rfl,by kernel_rfl⟩
 conc:=am ⟨aA (Tryz.prog.underlying 365),by kernel_rfl,ao (by kernel_rfl)⟩
def IE:TI:={size:=some 1,agg:=some false,rs:=some (.one (.leaf (.ptr))),zero:=some (Value.pointer none),conc:=true,isPtr:=true}
theorem F_:aI Tryz.prog 375 IE where
 zero:=ai (Value.pointer none) rfl (by kernel_rfl)
 conc:=am ⟨aA (Tryz.prog.underlying 375),by kernel_rfl,ao (by kernel_rfl)⟩
 isPtr:=am ⟨393,by kernel_rfl⟩
def IK:TI:={size:=some 3,agg:=some true,rs:=some (.one (.agg [.int .i64,.int .i64,.int .i64])),zero:=some (Value.agg #[Value.int .i64 0,Value.int .i64 0,Value.int .i64 0]),offs:=some [(0,0,false),(1,1,true)],conc:=true}
theorem Gf:aI Tryz.prog 378 IK where
 size:=ai (3) rfl (by kernel_rfl)
 agg:=ai (true) rfl (by kernel_rfl)
 zero:=ai (Value.agg #[Value.int .i64 0,Value.int .i64 0,Value.int .i64 0]) rfl (by kernel_rfl)
 offs:=ai [(0,0,false),(1,1,true)] rfl ⟨a_ (Tryz.prog.underlying 378),by kernel_rfl,by kernel_rfl⟩
 conc:=am ⟨aA (Tryz.prog.underlying 378),by kernel_rfl,ao (by kernel_rfl)⟩
def IZ:TI:={size:=some 1,agg:=some false,rs:=some (.one (.leaf (.slice))),zero:=some (Value.slice none 0 0),slc:=some (383,3),conc:=true,isSlc:=true}
theorem GS:aI Tryz.prog 379 IZ where
 zero:=ai (Value.slice none 0 0) rfl (by kernel_rfl)
 slc:=bj 383 3 rfl ⟨by kernel_rfl,by kernel_rfl⟩
 conc:=am ⟨aA (Tryz.prog.underlying 379),by kernel_rfl,ao (by kernel_rfl)⟩
 isSlc:=am ⟨383,by kernel_rfl⟩
def JX:TI:={size:=some 5,agg:=some true,rs:=some (.one (.agg [.ptr,.slice,.ptr,.int .i64,.int .i64])),zero:=some (Value.agg #[Value.pointer none,Value.slice none 0 0,Value.pointer none,Value.int .i64 0,Value.int .i64 0]),offs:=some [(0,0,false),(1,0,false),(2,0,false),(3,0,false),(4,0,false)],conc:=true}
theorem Ga:aI Tryz.prog 381 JX where
 size:=ai (5) rfl (by kernel_rfl)
 agg:=ai (true) rfl (by kernel_rfl)
 zero:=ai (Value.agg #[Value.pointer none,Value.slice none 0 0,Value.pointer none,Value.int .i64 0,Value.int .i64 0]) rfl (by kernel_rfl)
 offs:=ai [(0,0,false),(1,0,false),(2,0,false),(3,0,false),(4,0,false)] rfl ⟨a_ (Tryz.prog.underlying 381),by kernel_rfl,by kernel_rfl⟩
 conc:=am ⟨aA (Tryz.prog.underlying 381),by kernel_rfl,ao (by kernel_rfl)⟩
def Ix:TI:={size:=some 3,agg:=some true,rs:=some (.one (.agg [.int .i64,.int .i64,.int .i64])),zero:=some (Value.agg #[Value.int .i64 0,Value.int .i64 0,Value.int .i64 0]),offs:=some [(0,0,false),(1,0,false),(2,0,false)],eqs:=some [.i,.i,.i],conc:=true}
theorem GX:aI Tryz.prog 383 Ix where
 size:=ai (3) rfl (by kernel_rfl)
 agg:=ai (true) rfl (by kernel_rfl)
 zero:=ai (Value.agg #[Value.int .i64 0,Value.int .i64 0,Value.int .i64 0]) rfl (by kernel_rfl)
 offs:=ai [(0,0,false),(1,0,false),(2,0,false)] rfl ⟨a_ (Tryz.prog.underlying 383),by kernel_rfl,by kernel_rfl⟩
 conc:=am ⟨aA (Tryz.prog.underlying 383),by kernel_rfl,ao (by kernel_rfl)⟩
 eqs:=ai [.i,.i,.i] rfl (by kernel_rfl)
def Jk:TI:={rs:=some (.tup [.agg [.int .i64,.int .i64,.int .i64],.leaf (.int .i64),.leaf (.int .i64),.leaf (.bool)])}
theorem FB:aI Tryz.prog 384 Jk where
def Jc:TI:={size:=some 1,agg:=some false,rs:=some (.one (.leaf (.slice))),zero:=some (Value.slice none 0 0),slc:=some (399,6),conc:=true,isSlc:=true}
theorem GA:aI Tryz.prog 391 Jc where
 zero:=ai (Value.slice none 0 0) rfl (by kernel_rfl)
 slc:=bj 399 6 rfl ⟨by kernel_rfl,by kernel_rfl⟩
 conc:=am ⟨aA (Tryz.prog.underlying 391),by kernel_rfl,ao (by kernel_rfl)⟩
 isSlc:=am ⟨399,by kernel_rfl⟩
def JV:TI:={size:=some 2,agg:=some true,rs:=some (.one (.agg [.slice,.int .i64])),zero:=some (Value.agg #[Value.slice none 0 0,Value.int .i64 0]),offs:=some [(0,0,false),(1,0,false)],conc:=true}
theorem GP:aI Tryz.prog 393 JV where
 size:=ai (2) rfl (by kernel_rfl)
 agg:=ai (true) rfl (by kernel_rfl)
 zero:=ai (Value.agg #[Value.slice none 0 0,Value.int .i64 0]) rfl (by kernel_rfl)
 offs:=ai [(0,0,false),(1,0,false)] rfl ⟨a_ (Tryz.prog.underlying 393),by kernel_rfl,by kernel_rfl⟩
 conc:=am ⟨aA (Tryz.prog.underlying 393),by kernel_rfl,ao (by kernel_rfl)⟩
def JJ:TI:={size:=some 3,agg:=some true,rs:=some (.one (.agg [.int .i64,.int .i64,.int .i64])),zero:=some (Value.agg #[Value.int .i64 0,Value.int .i64 0,Value.int .i64 0]),offs:=some [(0,0,false),(1,0,false),(2,0,false)],eqs:=some [.i,.i,.i],conc:=true}
theorem EV:aI Tryz.prog 397 JJ where
 size:=ai (3) rfl (by kernel_rfl)
 agg:=ai (true) rfl (by kernel_rfl)
 zero:=ai (Value.agg #[Value.int .i64 0,Value.int .i64 0,Value.int .i64 0]) rfl (by kernel_rfl)
 offs:=ai [(0,0,false),(1,0,false),(2,0,false)] rfl ⟨a_ (Tryz.prog.underlying 397),by kernel_rfl,by kernel_rfl⟩
 conc:=am ⟨aA (Tryz.prog.underlying 397),by kernel_rfl,ao (by kernel_rfl)⟩
 eqs:=ai [.i,.i,.i] rfl (by kernel_rfl)
def JK:TI:={size:=some 6,agg:=some true,rs:=some (.one (.agg [.int .i64,.int .i64,.int .i64,.int .i64,.int .i64,.int .i64])),zero:=some (Value.agg #[Value.int .i64 0,Value.int .i64 0,Value.int .i64 0,Value.int .i64 0,Value.int .i64 0,Value.int .i64 0]),offs:=some [(0,2,true),(3,2,true)],conc:=true}
theorem FY:aI Tryz.prog 399 JK where
 size:=ai (6) rfl (by kernel_rfl)
 agg:=ai (true) rfl (by kernel_rfl)
 zero:=ai (Value.agg #[Value.int .i64 0,Value.int .i64 0,Value.int .i64 0,Value.int .i64 0,Value.int .i64 0,Value.int .i64 0]) rfl (by kernel_rfl)
 offs:=ai [(0,2,true),(3,2,true)] rfl ⟨a_ (Tryz.prog.underlying 399),by kernel_rfl,by kernel_rfl⟩
 conc:=am ⟨aA (Tryz.prog.underlying 399),by kernel_rfl,ao (by kernel_rfl)⟩
def Jp:TI:={size:=some 2,agg:=some true,rs:=some (.one (.agg [.int .i64,.int .i64])),zero:=some (Value.agg #[Value.int .i64 0,Value.int .i64 0]),arr:=some (2,1),conc:=true}
theorem FF:aI Tryz.prog 400 Jp where
 size:=ai (2) rfl (by kernel_rfl)
 agg:=ai (true) rfl (by kernel_rfl)
 zero:=ai (Value.agg #[Value.int .i64 0,Value.int .i64 0]) rfl (by kernel_rfl)
 arr:=bj 2 1 rfl ⟨3,by kernel_rfl,by kernel_rfl⟩
 conc:=am ⟨aA (Tryz.prog.underlying 400),by kernel_rfl,ao (by kernel_rfl)⟩
def M8:List (Nat×TI):=[(0,Pr),(2,Ps),(3,Po),(4,Pt),(5,Pq),(9,Pp),(22,L9),(23,Li),(24,NS),(25,LQ),(27,Lu),(28,NT),(31,NQ),(32,MT),(33,Mo),(34,Oa),(36,LR),(38,Nr),(40,Mp),(41,LZ),(43,Mt),(44,LW),(47,LB),(48,NR),(53,Lf)]
theorem Hf:∀p∈M8,aI Tryz.prog p.1 p.2:=
 an KG<|an KZ<|an KQ<|an K2<|an KO<|an KN<|an H'<|an Iq<|an HP<|an H0<|an HU<|an HS<|an Ia<|an HG<|an HT<|an HH<|an Ij<|an HN<|an Hq<|an HZ<|an HI<|an HO<|an HQ<|an HY<|an Hu<|od
def M5:List (Nat×TI):=[(55,NV),(59,Lb),(60,Nm),(62,Ld),(69,K_),(70,Lm),(73,M2),(75,M_),(76,Lo),(78,Ni),(82,MG),(83,Of),(84,Ll),(86,Mg),(88,Nk),(97,MX),(98,LH),(102,Kw),(104,Ko),(110,J'),(112,Kr),(118,IX),(119,JY),(121,Ki),(124,Jw)]
theorem Hb:∀p∈M5,aI Tryz.prog p.1 p.2:=
 an Hg<|an Ht<|an H3<|an Hi<|an H4<|an H7<|an Hp<|an If<|an Hz<|an HA<|an Ha<|an HX<|an Hj<|an HL<|an HB<|an HV<|an Ie<|an G8<|an F6<|an Fl<|an Fo<|an GW<|an GE<|an Gk<|an EK<|od
def Nv:List (Nat×TI):=[(126,IW),(128,Jj),(129,Kh),(130,IL),(132,IV),(133,J8),(134,Kl),(140,JO),(145,Ku),(148,Kn),(149,JM),(153,Kk),(163,Jv),(165,Jr),(166,IP),(168,Ju),(170,Jo),(172,JS),(176,Jq),(180,Kd),(185,Kt),(187,Kc),(192,J0),(199,JW),(203,I9)]
theorem H2:∀p∈Nv,aI Tryz.prog p.1 p.2:=
 an G2<|an EB<|an FL<|an FW<|an Gg<|an Fy<|an Fw<|an Gd<|an F1<|an ES<|an G4<|an Fr<|an GL<|an Gt<|an E1<|an EA<|an Fe<|an F3<|an GU<|an Fn<|an G5<|an Gq<|an Fq<|an EY<|an Fg<|od
def N_:List (Nat×TI):=[(208,Jy),(210,JN),(212,IQ),(215,Iz),(216,JH),(218,Kj),(219,IC),(220,Is),(222,Iv),(225,IN),(226,JE),(230,IF),(232,Jx),(237,Kp),(240,Jd),(242,Kq),(245,IJ),(246,Jl),(247,Jz),(249,Ke),(252,Ks),(253,JZ),(259,IT),(263,Jn),(265,Ka)]
theorem Im:∀p∈N_,aI Tryz.prog p.1 p.2:=
 an GY<|an Fp<|an Ev<|an Gz<|an FT<|an F7<|an EM<|an EF<|an Ff<|an F8<|an FC<|an Gr<|an E5<|an E3<|an GC<|an E_<|an Gj<|an EZ<|an Gp<|an ET<|an FA<|an FP<|an Ge<|an Gl<|an GR<|od
def M3:List (Nat×TI):=[(268,Jb),(270,JB),(273,It),(275,IM),(278,Kg),(289,JT),(290,I0),(291,JR),(293,IS),(306,Kv),(313,Kf),(315,Ja),(319,Ji),(321,I'),(322,Iy),(324,I_),(327,IY),(328,Jm),(335,JI),(340,JQ),(345,JA),(350,Js),(358,J_),(360,IB),(363,Je)]
theorem Ip:∀p∈M3,aI Tryz.prog p.1 p.2:=
 an Gy<|an EI<|an EO<|an GQ<|an G9<|an Fa<|an GJ<|an EE<|an ED<|an FX<|an F'<|an Gx<|an FO<|an EH<|an GD<|an FS<|an FH<|an Fv<|an Gn<|an GT<|an E8<|an Fi<|an EP<|an GM<|an ER<|od
def L3:List (Nat×TI):=[(365,Jg),(375,IE),(378,IK),(379,IZ),(381,JX),(383,Ix),(384,Jk),(391,Jc),(393,JV),(397,JJ),(399,JK),(400,Jp)]
theorem Il:∀p∈L3,aI Tryz.prog p.1 p.2:=
 an GK<|an F_<|an Gf<|an GS<|an Ga<|an GX<|an FB<|an GA<|an GP<|an EV<|an FY<|an FF<|od
def tab:List (Nat×TI):=M8++M5++Nv++N_++M3++L3
set_option maxRecDepth 100000 in
theorem KI:∀p∈tab,aI Tryz.prog p.1 p.2:=
 qT (qT (qT (qT (qT (Hf) Hb) H2) Im) Ip) Il
theorem G3:Tryz.prog.follows .mixedOrders=true:=by kernel_rfl
noncomputable def gr:gf:=Ft Tryz.prog tab
theorem Jf:gr.Ok:=Gb Tryz.prog tab KI G3
noncomputable def O_:gf:={gr with re:=true}
theorem KS:O_.Ok:=Jf.retype
theorem aD {f:FuncId} {fn:Func} {args:List Value} {w:World} {R:RW} {p:Prop} (hf:Tryz.prog.funcs[f]? =some fn) (hb:fn.body=some (uw fn)) (hn:Nat.ble args.length fn.ntmps=true) (hw:wf gr fn.ntmps (uw fn)=true) (h:p=GO gr (uw fn) fn.results.toList args w R) (hh:p):Calls Tryz.prog f args.toArray w fun e w'=>∃v,e= .returned v∧R v w':=
 np Jf hf hb hn hw (Eq.mp h hh)
end Go.Proofs.YtdlcfegnaphclaaGreat.Eng
