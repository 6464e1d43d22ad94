/- The types that this claim's functions name, as the loaded program has them. -/
import Derived.Test.YtdlcfegnaphclaaGreatZoEng
import Derived.Test.YtdlcfegnaphclaaGreatProg
import Derived.KernelRfl
set_option linter.unusedVariables false
namespace Go.Proofs.YtdlcfegnaphclaaGreat.Eng
open Go
abbrev OA:=Option Addr
abbrev KW:=List Value→World→Prop
abbrev RW:=Value→World→Prop
abbrev CP:=Calls Tryz.prog
abbrev CR (k:Nat) (a:Array Value) (w:World) (R:RW):Prop:=CP k a w fun e w'=>∃v,e= .returned v∧R v w'
def OD:TI:={rs:=some (.tup [])}
theorem JU:aH Tryz.prog 0 OD where
def OB:TI:={size:=some 1,agg:=some false,rs:=some (.one (.leaf (.int .i64))),zero:=some (Value.int .i64 0),intk:=some .i64,conc:=true}
theorem J_:aH Tryz.prog 2 OB where
 zero:=ai (Value.int .i64 0) rfl (by kernel_rfl)
 intk:=ai (IntKind.i64) rfl (by kernel_rfl)
 conc:=am ⟨aA (Tryz.prog.underlying 2),by kernel_rfl,ao (by kernel_rfl)⟩
def OC:TI:={size:=some 1,agg:=some false,rs:=some (.one (.leaf (.int .i64))),zero:=some (Value.int .i64 0),intk:=some .i64,conc:=true}
theorem Kf:aH Tryz.prog 3 OC where
 zero:=ai (Value.int .i64 0) rfl (by kernel_rfl)
 intk:=ai (IntKind.i64) rfl (by kernel_rfl)
 conc:=am ⟨aA (Tryz.prog.underlying 3),by kernel_rfl,ao (by kernel_rfl)⟩
def OE:TI:={size:=some 1,agg:=some false,rs:=some (.one (.leaf (.bool))),zero:=some (Value.bool false),conc:=true,isBool:=true}
theorem JN:aH Tryz.prog 4 OE where
 zero:=ai (Value.bool false) rfl (by kernel_rfl)
 conc:=am ⟨aA (Tryz.prog.underlying 4),by kernel_rfl,ao (by kernel_rfl)⟩
 isBool:=am (by kernel_rfl)
def OF:TI:={size:=some 1,agg:=some false,rs:=some (.one (.leaf (.int .u8))),zero:=some (Value.int .u8 0),intk:=some .u8,conc:=true}
theorem Ke:aH Tryz.prog 5 OF where
 zero:=ai (Value.int .u8 0) rfl (by kernel_rfl)
 intk:=ai (IntKind.u8) rfl (by kernel_rfl)
 conc:=am ⟨aA (Tryz.prog.underlying 5),by kernel_rfl,ao (by kernel_rfl)⟩
def OG:TI:={size:=some 1,agg:=some false,rs:=some (.one (.leaf (.str))),zero:=some (Value.string ⟨#[]⟩),isStr:=true,conc:=true}
theorem Km:aH Tryz.prog 9 OG where
 zero:=ai (Value.string ⟨#[]⟩) rfl (by kernel_rfl)
 isStr:=am (by kernel_rfl)
 conc:=am ⟨aA (Tryz.prog.underlying 9),by kernel_rfl,ao (by kernel_rfl)⟩
def Np:TI:={size:=some 1,agg:=some false,rs:=some (.one (.leaf (.slice))),zero:=some (Value.slice none 0 0),slc:=some (321,1),conc:=true,isSlc:=true}
theorem HB:aH Tryz.prog 22 Np where
 zero:=ai (Value.slice none 0 0) rfl (by kernel_rfl)
 slc:=bg 321 1 rfl ⟨by kernel_rfl,by kernel_rfl⟩
 conc:=am ⟨aA (Tryz.prog.underlying 22),by kernel_rfl,ao (by kernel_rfl)⟩
 isSlc:=am ⟨321,by kernel_rfl⟩
def KP:TI:={size:=some 1,agg:=some false,rs:=some (.one (.leaf (.slice))),zero:=some (Value.slice none 0 0),slc:=some (215,3),conc:=true,isSlc:=true}
theorem HC:aH Tryz.prog 23 KP where
 zero:=ai (Value.slice none 0 0) rfl (by kernel_rfl)
 slc:=bg 215 3 rfl ⟨by kernel_rfl,by kernel_rfl⟩
 conc:=am ⟨aA (Tryz.prog.underlying 23),by kernel_rfl,ao (by kernel_rfl)⟩
 isSlc:=am ⟨215,by kernel_rfl⟩
def LC:TI:={size:=some 1,agg:=some false,rs:=some (.one (.leaf (.slice))),zero:=some (Value.slice none 0 0),slc:=some (218,2),conc:=true,isSlc:=true}
theorem GQ:aH Tryz.prog 24 LC where
 zero:=ai (Value.slice none 0 0) rfl (by kernel_rfl)
 slc:=bg 218 2 rfl ⟨by kernel_rfl,by kernel_rfl⟩
 conc:=am ⟨aA (Tryz.prog.underlying 24),by kernel_rfl,ao (by kernel_rfl)⟩
 isSlc:=am ⟨218,by kernel_rfl⟩
def Lj:TI:={size:=some 1,agg:=some false,rs:=some (.one (.leaf (.slice))),zero:=some (Value.slice none 0 0),slc:=some (75,2),conc:=true,isSlc:=true}
theorem Hb:aH Tryz.prog 25 Lj where
 zero:=ai (Value.slice none 0 0) rfl (by kernel_rfl)
 slc:=bg 75 2 rfl ⟨by kernel_rfl,by kernel_rfl⟩
 conc:=am ⟨aA (Tryz.prog.underlying 25),by kernel_rfl,ao (by kernel_rfl)⟩
 isSlc:=am ⟨75,by kernel_rfl⟩
def MI:TI:={size:=some 4,agg:=some true,rs:=some (.one (.agg [.slice,.slice,.slice,.slice])),zero:=some (Value.agg #[Value.slice none 0 0,Value.slice none 0 0,Value.slice none 0 0,Value.slice none 0 0]),offs:=some [(0,0,false),(1,0,false),(2,0,false),(3,0,false)],conc:=true}
theorem Ha:aH Tryz.prog 27 MI where
 size:=ai (4) rfl (by kernel_rfl)
 agg:=ai (true) rfl (by kernel_rfl)
 zero:=ai (Value.agg #[Value.slice none 0 0,Value.slice none 0 0,Value.slice none 0 0,Value.slice none 0 0]) rfl (by kernel_rfl)
 offs:=ai [(0,0,false),(1,0,false),(2,0,false),(3,0,false)] rfl ⟨aZ (Tryz.prog.underlying 27),by kernel_rfl,by kernel_rfl⟩
 conc:=am ⟨aA (Tryz.prog.underlying 27),by kernel_rfl,ao (by kernel_rfl)⟩
def Nn:TI:={size:=some 1,agg:=some false,rs:=some (.one (.leaf (.slice))),zero:=some (Value.slice none 0 0),slc:=some (3,1),conc:=true,isSlc:=true}
theorem HD:aH Tryz.prog 28 Nn where
 zero:=ai (Value.slice none 0 0) rfl (by kernel_rfl)
 slc:=bg 3 1 rfl ⟨by kernel_rfl,by kernel_rfl⟩
 conc:=am ⟨aA (Tryz.prog.underlying 28),by kernel_rfl,ao (by kernel_rfl)⟩
 isSlc:=am ⟨3,by kernel_rfl⟩
def Nk:TI:={size:=some 1,agg:=some false,rs:=some (.one (.leaf (.ptr))),zero:=some (Value.pointer none),conc:=true,isPtr:=true}
theorem Hf:aH Tryz.prog 31 Nk where
 zero:=ai (Value.pointer none) rfl (by kernel_rfl)
 conc:=am ⟨aA (Tryz.prog.underlying 31),by kernel_rfl,ao (by kernel_rfl)⟩
 isPtr:=am ⟨126,by kernel_rfl⟩
def Kv:TI:={size:=some 1,agg:=some false,rs:=some (.one (.leaf (.ptr))),zero:=some (Value.pointer none),conc:=true,isPtr:=true}
theorem GP:aH Tryz.prog 32 Kv where
 zero:=ai (Value.pointer none) rfl (by kernel_rfl)
 conc:=am ⟨aA (Tryz.prog.underlying 32),by kernel_rfl,ao (by kernel_rfl)⟩
 isPtr:=am ⟨132,by kernel_rfl⟩
def Mc:TI:={size:=some 1,agg:=some false,rs:=some (.one (.leaf (.slice))),zero:=some (Value.slice none 0 0),slc:=some (9,1),conc:=true,isSlc:=true}
theorem GH:aH Tryz.prog 33 Mc where
 zero:=ai (Value.slice none 0 0) rfl (by kernel_rfl)
 slc:=bg 9 1 rfl ⟨by kernel_rfl,by kernel_rfl⟩
 conc:=am ⟨aA (Tryz.prog.underlying 33),by kernel_rfl,ao (by kernel_rfl)⟩
 isSlc:=am ⟨9,by kernel_rfl⟩
def MB:TI:={size:=some 1,agg:=some false,rs:=some (.one (.leaf (.slice))),zero:=some (Value.slice none 0 0),slc:=some (118,2),conc:=true,isSlc:=true}
theorem Ho:aH Tryz.prog 34 MB where
 zero:=ai (Value.slice none 0 0) rfl (by kernel_rfl)
 slc:=bg 118 2 rfl ⟨by kernel_rfl,by kernel_rfl⟩
 conc:=am ⟨aA (Tryz.prog.underlying 34),by kernel_rfl,ao (by kernel_rfl)⟩
 isSlc:=am ⟨118,by kernel_rfl⟩
def MQ:TI:={size:=some 2,agg:=some true,rs:=some (.one (.agg [.slice,.slice])),zero:=some (Value.agg #[Value.slice none 0 0,Value.slice none 0 0]),offs:=some [(0,0,false),(1,0,false)],conc:=true}
theorem G4:aH Tryz.prog 36 MQ where
 size:=ai (2) rfl (by kernel_rfl)
 agg:=ai (true) rfl (by kernel_rfl)
 zero:=ai (Value.agg #[Value.slice none 0 0,Value.slice none 0 0]) rfl (by kernel_rfl)
 offs:=ai [(0,0,false),(1,0,false)] rfl ⟨aZ (Tryz.prog.underlying 36),by kernel_rfl,by kernel_rfl⟩
 conc:=am ⟨aA (Tryz.prog.underlying 36),by kernel_rfl,ao (by kernel_rfl)⟩
def LJ:TI:={size:=some 2,agg:=some true,rs:=some (.one (.agg [.slice,.slice])),zero:=some (Value.agg #[Value.slice none 0 0,Value.slice none 0 0]),offs:=some [(0,0,false),(1,0,false)],conc:=true}
theorem GC:aH Tryz.prog 38 LJ where
 size:=ai (2) rfl (by kernel_rfl)
 agg:=ai (true) rfl (by kernel_rfl)
 zero:=ai (Value.agg #[Value.slice none 0 0,Value.slice none 0 0]) rfl (by kernel_rfl)
 offs:=ai [(0,0,false),(1,0,false)] rfl ⟨aZ (Tryz.prog.underlying 38),by kernel_rfl,by kernel_rfl⟩
 conc:=am ⟨aA (Tryz.prog.underlying 38),by kernel_rfl,ao (by kernel_rfl)⟩
def Mj:TI:={size:=some 5,agg:=some true,rs:=some (.one (.agg [.slice,.slice,.slice,.slice,.slice])),zero:=some (Value.agg #[Value.slice none 0 0,Value.slice none 0 0,Value.slice none 0 0,Value.slice none 0 0,Value.slice none 0 0]),offs:=some [(0,1,true),(2,1,true),(4,0,false)],conc:=true}
theorem G2:aH Tryz.prog 40 Mj where
 size:=ai (5) rfl (by kernel_rfl)
 agg:=ai (true) rfl (by kernel_rfl)
 zero:=ai (Value.agg #[Value.slice none 0 0,Value.slice none 0 0,Value.slice none 0 0,Value.slice none 0 0,Value.slice none 0 0]) rfl (by kernel_rfl)
 offs:=ai [(0,1,true),(2,1,true),(4,0,false)] rfl ⟨aZ (Tryz.prog.underlying 40),by kernel_rfl,by kernel_rfl⟩
 conc:=am ⟨aA (Tryz.prog.underlying 40),by kernel_rfl,ao (by kernel_rfl)⟩
def Md:TI:={rs:=some (.tup [.leaf (.ptr),.leaf (.ptr),.agg [.slice,.slice,.slice,.slice,.slice]])}
theorem G5:aH Tryz.prog 41 Md where
def M3:TI:={size:=some 1,agg:=some false,rs:=some (.one (.leaf (.int .i64))),zero:=some (Value.int .i64 0),intk:=some .i64,conc:=true}
theorem G':aH Tryz.prog 43 M3 where
 zero:=ai (Value.int .i64 0) rfl (by kernel_rfl)
 intk:=ai (IntKind.i64) rfl (by kernel_rfl)
 conc:=am ⟨aA (Tryz.prog.underlying 43),by kernel_rfl,ao (by kernel_rfl)⟩
def Me:TI:={rs:=some (.tup [.leaf (.slice),.leaf (.int .i64),.leaf (.int .i64)])}
theorem G1:aH Tryz.prog 44 Me where
def M0:TI:={size:=some 1,agg:=some false,rs:=some (.one (.leaf (.slice))),zero:=some (Value.slice none 0 0),slc:=some (59,1),conc:=true,isSlc:=true}
theorem G6:aH Tryz.prog 47 M0 where
 zero:=ai (Value.slice none 0 0) rfl (by kernel_rfl)
 slc:=bg 59 1 rfl ⟨by kernel_rfl,by kernel_rfl⟩
 conc:=am ⟨aA (Tryz.prog.underlying 47),by kernel_rfl,ao (by kernel_rfl)⟩
 isSlc:=am ⟨59,by kernel_rfl⟩
def Ms:TI:={rs:=some (.tup [.leaf (.slice),.leaf (.int .i64),.leaf (.int .i64)])}
theorem GA:aH Tryz.prog 48 Ms where
def Mx:TI:={rs:=some (.tup [.leaf (.int .i64),.leaf (.bool)])}
theorem G9:aH Tryz.prog 53 Mx where
def Ku:TI:={size:=some 1,agg:=some false,rs:=some (.one (.leaf (.any))),zero:=some (Value.nilFunc),conc:=true}
theorem GM:aH Tryz.prog 55 Ku where
 zero:=ai (Value.nilFunc) rfl (by kernel_rfl)
 conc:=am ⟨aA (Tryz.prog.underlying 55),by kernel_rfl,ao (by kernel_rfl)⟩
def MX:TI:={size:=some 1,agg:=some false,rs:=some (.one (.leaf (.int .u64))),zero:=some (Value.int .u64 0),intk:=some .u64,conc:=true}
theorem GG:aH Tryz.prog 59 MX where
 zero:=ai (Value.int .u64 0) rfl (by kernel_rfl)
 intk:=ai (IntKind.u64) rfl (by kernel_rfl)
 conc:=am ⟨aA (Tryz.prog.underlying 59),by kernel_rfl,ao (by kernel_rfl)⟩
def L_:TI:={size:=some 1,agg:=some false,rs:=some (.one (.leaf (.int .u64))),zero:=some (Value.int .u64 0),intk:=some .u64,conc:=true}
theorem GS:aH Tryz.prog 60 L_ where
 zero:=ai (Value.int .u64 0) rfl (by kernel_rfl)
 intk:=ai (IntKind.u64) rfl (by kernel_rfl)
 conc:=am ⟨aA (Tryz.prog.underlying 60),by kernel_rfl,ao (by kernel_rfl)⟩
def MY:TI:={rs:=some (.tup [.leaf (.slice),.leaf (.str),.leaf (.int .i64)])}
theorem GT:aH Tryz.prog 62 MY where
def MV:TI:={size:=some 1,agg:=some false,rs:=some (.one (.leaf (.ptr))),zero:=some (Value.pointer none),conc:=true,isPtr:=true}
theorem Hy:aH Tryz.prog 69 MV where
 zero:=ai (Value.pointer none) rfl (by kernel_rfl)
 conc:=am ⟨aA (Tryz.prog.underlying 69),by kernel_rfl,ao (by kernel_rfl)⟩
 isPtr:=am ⟨237,by kernel_rfl⟩
def KI:TI:={rs:=some (.tup [.leaf (.ptr),.leaf (.int .i64),.leaf (.int .i64)])}
theorem GB:aH Tryz.prog 70 KI where
def Ln:TI:={size:=some 6,agg:=some true,rs:=some (.one (.agg [.bool,.slice,.slice,.slice,.slice,.slice])),zero:=some (Value.agg #[Value.bool false,Value.slice none 0 0,Value.slice none 0 0,Value.slice none 0 0,Value.slice none 0 0,Value.slice none 0 0]),offs:=some [(0,0,false),(1,0,false),(2,0,false),(3,0,false),(4,0,false),(5,0,false)],conc:=true}
theorem G_:aH Tryz.prog 73 Ln where
 size:=ai (6) rfl (by kernel_rfl)
 agg:=ai (true) rfl (by kernel_rfl)
 zero:=ai (Value.agg #[Value.bool false,Value.slice none 0 0,Value.slice none 0 0,Value.slice none 0 0,Value.slice none 0 0,Value.slice none 0 0]) rfl (by kernel_rfl)
 offs:=ai [(0,0,false),(1,0,false),(2,0,false),(3,0,false),(4,0,false),(5,0,false)] rfl ⟨aZ (Tryz.prog.underlying 73),by kernel_rfl,by kernel_rfl⟩
 conc:=am ⟨aA (Tryz.prog.underlying 73),by kernel_rfl,ao (by kernel_rfl)⟩
def Kq:TI:={size:=some 2,agg:=some true,rs:=some (.one (.agg [.int .i64,.str])),zero:=some (Value.agg #[Value.int .i64 0,Value.string ⟨#[]⟩]),offs:=some [(0,0,false),(1,0,false)],eqs:=some [.i,.s],conc:=true}
theorem GO:aH Tryz.prog 75 Kq where
 size:=ai (2) rfl (by kernel_rfl)
 agg:=ai (true) rfl (by kernel_rfl)
 zero:=ai (Value.agg #[Value.int .i64 0,Value.string ⟨#[]⟩]) rfl (by kernel_rfl)
 offs:=ai [(0,0,false),(1,0,false)] rfl ⟨aZ (Tryz.prog.underlying 75),by kernel_rfl,by kernel_rfl⟩
 conc:=am ⟨aA (Tryz.prog.underlying 75),by kernel_rfl,ao (by kernel_rfl)⟩
 eqs:=ai [.i,.s] rfl (by kernel_rfl)
def Mf:TI:={rs:=some (.tup [.leaf (.ptr),.leaf (.int .i64)])}
theorem Hs:aH Tryz.prog 76 Mf where
def L6:TI:={rs:=some (.tup [.leaf (.ptr),.leaf (.int .i64)])}
theorem GV:aH Tryz.prog 78 L6 where
def LL:TI:={size:=some 1,agg:=some false,rs:=some (.one (.leaf (.ptr))),zero:=some (Value.pointer none),conc:=true,isPtr:=true}
theorem Hu:aH Tryz.prog 82 LL where
 zero:=ai (Value.pointer none) rfl (by kernel_rfl)
 conc:=am ⟨aA (Tryz.prog.underlying 82),by kernel_rfl,ao (by kernel_rfl)⟩
 isPtr:=am ⟨172,by kernel_rfl⟩
def Kr:TI:={size:=some 1,agg:=some false,rs:=some (.one (.leaf (.ptr))),zero:=some (Value.pointer none),conc:=true,isPtr:=true}
theorem Hw:aH Tryz.prog 83 Kr where
 zero:=ai (Value.pointer none) rfl (by kernel_rfl)
 conc:=am ⟨aA (Tryz.prog.underlying 83),by kernel_rfl,ao (by kernel_rfl)⟩
 isPtr:=am ⟨165,by kernel_rfl⟩
def Nb:TI:={rs:=some (.tup [.leaf (.ptr),.leaf (.ptr),.leaf (.ptr),.agg [.slice,.slice,.slice,.slice,.slice]])}
theorem GZ:aH Tryz.prog 84 Nb where
def Li:TI:={size:=some 1,agg:=some false,rs:=some (.one (.leaf (.slice))),zero:=some (Value.slice none 0 0),slc:=some (153,1),conc:=true,isSlc:=true}
theorem G7:aH Tryz.prog 86 Li where
 zero:=ai (Value.slice none 0 0) rfl (by kernel_rfl)
 slc:=bg 153 1 rfl ⟨by kernel_rfl,by kernel_rfl⟩
 conc:=am ⟨aA (Tryz.prog.underlying 86),by kernel_rfl,ao (by kernel_rfl)⟩
 isSlc:=am ⟨153,by kernel_rfl⟩
def Ll:TI:={size:=some 1,agg:=some true,rs:=some (.one (.agg [.slice])),zero:=some (Value.agg #[Value.slice none 0 0]),offs:=some [(0,0,false)],conc:=true}
theorem Hn:aH Tryz.prog 88 Ll where
 agg:=ai (true) rfl (by kernel_rfl)
 zero:=ai (Value.agg #[Value.slice none 0 0]) rfl (by kernel_rfl)
 offs:=ai [(0,0,false)] rfl ⟨aZ (Tryz.prog.underlying 88),by kernel_rfl,by kernel_rfl⟩
 conc:=am ⟨aA (Tryz.prog.underlying 88),by kernel_rfl,ao (by kernel_rfl)⟩
def MK:TI:={size:=some 1,agg:=some false,rs:=some (.one (.leaf (.slice))),zero:=some (Value.slice none 0 0),slc:=some (5,1),conc:=true,isSlc:=true}
theorem HN:aH Tryz.prog 97 MK where
 zero:=ai (Value.slice none 0 0) rfl (by kernel_rfl)
 slc:=bg 5 1 rfl ⟨by kernel_rfl,by kernel_rfl⟩
 conc:=am ⟨aA (Tryz.prog.underlying 97),by kernel_rfl,ao (by kernel_rfl)⟩
 isSlc:=am ⟨5,by kernel_rfl⟩
def KK:TI:={size:=some 1,agg:=some false,rs:=some (.one (.leaf (.slice))),zero:=some (Value.slice none 0 0),slc:=some (5,1),conc:=true,isSlc:=true}
theorem HG:aH Tryz.prog 98 KK where
 zero:=ai (Value.slice none 0 0) rfl (by kernel_rfl)
 slc:=bg 5 1 rfl ⟨by kernel_rfl,by kernel_rfl⟩
 conc:=am ⟨aA (Tryz.prog.underlying 98),by kernel_rfl,ao (by kernel_rfl)⟩
 isSlc:=am ⟨5,by kernel_rfl⟩
def Ij:TI:={rs:=some (.tup [.leaf (.slice),.leaf (.int .i64)])}
theorem Fy:aH Tryz.prog 102 Ij where
def HV:TI:={rs:=some (.tup [.agg [.slice],.leaf (.int .i64)])}
theorem DX:aH Tryz.prog 104 HV where
def IZ:TI:={rs:=some (.tup [.leaf (.ptr),.leaf (.int .i64)])}
theorem D2:aH Tryz.prog 110 IZ where
def Jc:TI:={rs:=some (.tup [.leaf (.ptr),.leaf (.int .i64)])}
theorem Fb:aH Tryz.prog 112 Jc where
def Jd:TI:={size:=some 2,agg:=some true,rs:=some (.one (.agg [.int .i64,.int .i64])),zero:=some (Value.agg #[Value.int .i64 0,Value.int .i64 0]),offs:=some [(0,0,false),(1,0,false)],eqs:=some [.i,.i],conc:=true}
theorem E6:aH Tryz.prog 118 Jd where
 size:=ai (2) rfl (by kernel_rfl)
 agg:=ai (true) rfl (by kernel_rfl)
 zero:=ai (Value.agg #[Value.int .i64 0,Value.int .i64 0]) rfl (by kernel_rfl)
 offs:=ai [(0,0,false),(1,0,false)] rfl ⟨aZ (Tryz.prog.underlying 118),by kernel_rfl,by kernel_rfl⟩
 conc:=am ⟨aA (Tryz.prog.underlying 118),by kernel_rfl,ao (by kernel_rfl)⟩
 eqs:=ai [.i,.i] rfl (by kernel_rfl)
def H3:TI:={rs:=some (.tup [.leaf (.ptr),.agg [.slice,.slice,.slice,.slice,.slice]])}
theorem D4:aH Tryz.prog 119 H3 where
def Ji:TI:={rs:=some (.tup [.leaf (.int .i64),.leaf (.int .i64)])}
theorem Ft:aH Tryz.prog 121 Ji where
def IQ:TI:={size:=some 1,agg:=some false,rs:=some (.one (.leaf (.ptr))),zero:=some (Value.pointer none),conc:=true,isPtr:=true}
theorem FG:aH Tryz.prog 124 IQ where
 zero:=ai (Value.pointer none) rfl (by kernel_rfl)
 conc:=am ⟨aA (Tryz.prog.underlying 124),by kernel_rfl,ao (by kernel_rfl)⟩
 isPtr:=am ⟨242,by kernel_rfl⟩
def Iy:TI:={size:=some 3,agg:=some true,rs:=some (.one (.agg [.ptr,.ptr,.ptr])),zero:=some (Value.agg #[Value.pointer none,Value.pointer none,Value.pointer none]),offs:=some [(0,0,false),(1,0,false),(2,0,false)],conc:=true}
theorem Gs:aH Tryz.prog 126 Iy where
 size:=ai (3) rfl (by kernel_rfl)
 agg:=ai (true) rfl (by kernel_rfl)
 zero:=ai (Value.agg #[Value.pointer none,Value.pointer none,Value.pointer none]) rfl (by kernel_rfl)
 offs:=ai [(0,0,false),(1,0,false),(2,0,false)] rfl ⟨aZ (Tryz.prog.underlying 126),by kernel_rfl,by kernel_rfl⟩
 conc:=am ⟨aA (Tryz.prog.underlying 126),by kernel_rfl,ao (by kernel_rfl)⟩
def HR:TI:={size:=some 1,agg:=some false,rs:=some (.one (.leaf (.map))),zero:=some (Value.map none),elemSh:=some (.leaf (.int .i64)),conc:=true,isMap:=true}
theorem E7:aH Tryz.prog 128 HR where
 zero:=ai (Value.map none) rfl (by kernel_rfl)
 conc:=am ⟨aA (Tryz.prog.underlying 128),by kernel_rfl,ao (by kernel_rfl)⟩
 isMap:=am ⟨3,3,by kernel_rfl⟩
def Jq:TI:={size:=some 1,agg:=some false,rs:=some (.one (.leaf (.slice))),zero:=some (Value.slice none 0 0),slc:=some (130,1),conc:=true,isSlc:=true}
theorem E1:aH Tryz.prog 129 Jq where
 zero:=ai (Value.slice none 0 0) rfl (by kernel_rfl)
 slc:=bg 130 1 rfl ⟨by kernel_rfl,by kernel_rfl⟩
 conc:=am ⟨aA (Tryz.prog.underlying 129),by kernel_rfl,ao (by kernel_rfl)⟩
 isSlc:=am ⟨130,by kernel_rfl⟩
def IT:TI:={size:=some 1,agg:=some false,rs:=some (.one (.leaf (.slice))),zero:=some (Value.slice none 0 0),slc:=some (59,1),conc:=true,isSlc:=true}
theorem Eb:aH Tryz.prog 130 IT where
 zero:=ai (Value.slice none 0 0) rfl (by kernel_rfl)
 slc:=bg 59 1 rfl ⟨by kernel_rfl,by kernel_rfl⟩
 conc:=am ⟨aA (Tryz.prog.underlying 130),by kernel_rfl,ao (by kernel_rfl)⟩
 isSlc:=am ⟨59,by kernel_rfl⟩
def Jz:TI:={size:=some 4,agg:=some true,rs:=some (.one (.agg [.slice,.map,.slice,.slice])),zero:=some (Value.agg #[Value.slice none 0 0,Value.map none,Value.slice none 0 0,Value.slice none 0 0]),offs:=some [(0,0,false),(1,0,false),(2,0,false),(3,0,false)],conc:=true}
theorem Fd:aH Tryz.prog 132 Jz where
 size:=ai (4) rfl (by kernel_rfl)
 agg:=ai (true) rfl (by kernel_rfl)
 zero:=ai (Value.agg #[Value.slice none 0 0,Value.map none,Value.slice none 0 0,Value.slice none 0 0]) rfl (by kernel_rfl)
 offs:=ai [(0,0,false),(1,0,false),(2,0,false),(3,0,false)] rfl ⟨aZ (Tryz.prog.underlying 132),by kernel_rfl,by kernel_rfl⟩
 conc:=am ⟨aA (Tryz.prog.underlying 132),by kernel_rfl,ao (by kernel_rfl)⟩
def IF:TI:={size:=some 1,agg:=some false,rs:=some (.one (.leaf (.any))),zero:=some (Value.nilFunc),conc:=true}
theorem EO:aH Tryz.prog 133 IF where
 zero:=ai (Value.nilFunc) rfl (by kernel_rfl)
 conc:=am ⟨aA (Tryz.prog.underlying 133),by kernel_rfl,ao (by kernel_rfl)⟩
def IU:TI:={rs:=some (.tup [.leaf (.int .i64),.leaf (.str),.leaf (.bool)])}
theorem EW:aH Tryz.prog 134 IU where
def H9:TI:={rs:=some (.tup [.leaf (.ptr),.leaf (.int .i64),.leaf (.int .i64),.leaf (.int .i64)])}
theorem FH:aH Tryz.prog 140 H9 where
def IV:TI:={size:=some 1,agg:=some false,rs:=some (.one (.leaf (.ptr))),zero:=some (Value.pointer none),conc:=true,isPtr:=true}
theorem Ff:aH Tryz.prog 145 IV where
 zero:=ai (Value.pointer none) rfl (by kernel_rfl)
 conc:=am ⟨aA (Tryz.prog.underlying 145),by kernel_rfl,ao (by kernel_rfl)⟩
 isPtr:=am ⟨249,by kernel_rfl⟩
def HP:TI:={size:=some 1,agg:=some false,rs:=some (.one (.leaf (.slice))),zero:=some (Value.slice none 0 0),slc:=some (28,1),conc:=true,isSlc:=true}
theorem FO:aH Tryz.prog 148 HP where
 zero:=ai (Value.slice none 0 0) rfl (by kernel_rfl)
 slc:=bg 28 1 rfl ⟨by kernel_rfl,by kernel_rfl⟩
 conc:=am ⟨aA (Tryz.prog.underlying 148),by kernel_rfl,ao (by kernel_rfl)⟩
 isSlc:=am ⟨28,by kernel_rfl⟩
def Ih:TI:={size:=some 1,agg:=some false,rs:=some (.one (.leaf (.slice))),zero:=some (Value.slice none 0 0),slc:=some (4,1),conc:=true,isSlc:=true}
theorem DW:aH Tryz.prog 149 Ih where
 zero:=ai (Value.slice none 0 0) rfl (by kernel_rfl)
 slc:=bg 4 1 rfl ⟨by kernel_rfl,by kernel_rfl⟩
 conc:=am ⟨aA (Tryz.prog.underlying 149),by kernel_rfl,ao (by kernel_rfl)⟩
 isSlc:=am ⟨4,by kernel_rfl⟩
def Jj:TI:={size:=some 1,agg:=some false,rs:=some (.one (.leaf (.int .u32))),zero:=some (Value.int .u32 0),intk:=some .u32,conc:=true}
theorem FZ:aH Tryz.prog 153 Jj where
 zero:=ai (Value.int .u32 0) rfl (by kernel_rfl)
 intk:=ai (IntKind.u32) rfl (by kernel_rfl)
 conc:=am ⟨aA (Tryz.prog.underlying 153),by kernel_rfl,ao (by kernel_rfl)⟩
def IP:TI:={size:=some 4,agg:=some true,rs:=some (.one (.agg [.int .u32,.int .i32,.int .u32,.slice])),zero:=some (Value.agg #[Value.int .u32 0,Value.int .i32 0,Value.int .u32 0,Value.slice none 0 0]),offs:=some [(0,2,true),(3,0,false)],conc:=true}
theorem Fn:aH Tryz.prog 163 IP where
 size:=ai (4) rfl (by kernel_rfl)
 agg:=ai (true) rfl (by kernel_rfl)
 zero:=ai (Value.agg #[Value.int .u32 0,Value.int .i32 0,Value.int .u32 0,Value.slice none 0 0]) rfl (by kernel_rfl)
 offs:=ai [(0,2,true),(3,0,false)] rfl ⟨aZ (Tryz.prog.underlying 163),by kernel_rfl,by kernel_rfl⟩
 conc:=am ⟨aA (Tryz.prog.underlying 163),by kernel_rfl,ao (by kernel_rfl)⟩
def JI:TI:={size:=some 7,agg:=some true,rs:=some (.one (.agg [.ptr,.slice,.slice,.int .u32,.int .i32,.int .u32,.slice])),zero:=some (Value.agg #[Value.pointer none,Value.slice none 0 0,Value.slice none 0 0,Value.int .u32 0,Value.int .i32 0,Value.int .u32 0,Value.slice none 0 0]),offs:=some [(0,0,false),(1,0,false),(2,0,false),(3,3,true)],conc:=true}
theorem EM:aH Tryz.prog 165 JI where
 size:=ai (7) rfl (by kernel_rfl)
 agg:=ai (true) rfl (by kernel_rfl)
 zero:=ai (Value.agg #[Value.pointer none,Value.slice none 0 0,Value.slice none 0 0,Value.int .u32 0,Value.int .i32 0,Value.int .u32 0,Value.slice none 0 0]) rfl (by kernel_rfl)
 offs:=ai [(0,0,false),(1,0,false),(2,0,false),(3,3,true)] rfl ⟨aZ (Tryz.prog.underlying 165),by kernel_rfl,by kernel_rfl⟩
 conc:=am ⟨aA (Tryz.prog.underlying 165),by kernel_rfl,ao (by kernel_rfl)⟩
def IW:TI:={size:=some 1,agg:=some false,rs:=some (.one (.leaf (.slice))),zero:=some (Value.slice none 0 0),slc:=some (88,1),conc:=true,isSlc:=true}
theorem Gw:aH Tryz.prog 166 IW where
 zero:=ai (Value.slice none 0 0) rfl (by kernel_rfl)
 slc:=bg 88 1 rfl ⟨by kernel_rfl,by kernel_rfl⟩
 conc:=am ⟨aA (Tryz.prog.underlying 166),by kernel_rfl,ao (by kernel_rfl)⟩
 isSlc:=am ⟨88,by kernel_rfl⟩
def IN:TI:={size:=some 1,agg:=some false,rs:=some (.one (.leaf (.slice))),zero:=some (Value.slice none 0 0),slc:=some (166,1),conc:=true,isSlc:=true}
theorem D5:aH Tryz.prog 168 IN where
 zero:=ai (Value.slice none 0 0) rfl (by kernel_rfl)
 slc:=bg 166 1 rfl ⟨by kernel_rfl,by kernel_rfl⟩
 conc:=am ⟨aA (Tryz.prog.underlying 168),by kernel_rfl,ao (by kernel_rfl)⟩
 isSlc:=am ⟨166,by kernel_rfl⟩
def Il:TI:={size:=some 4,agg:=some true,rs:=some (.one (.agg [.int .u32,.int .i32,.int .u32,.slice])),zero:=some (Value.agg #[Value.int .u32 0,Value.int .i32 0,Value.int .u32 0,Value.slice none 0 0]),offs:=some [(0,2,true),(3,0,false)],conc:=true}
theorem EN:aH Tryz.prog 170 Il where
 size:=ai (4) rfl (by kernel_rfl)
 agg:=ai (true) rfl (by kernel_rfl)
 zero:=ai (Value.agg #[Value.int .u32 0,Value.int .i32 0,Value.int .u32 0,Value.slice none 0 0]) rfl (by kernel_rfl)
 offs:=ai [(0,2,true),(3,0,false)] rfl ⟨aZ (Tryz.prog.underlying 170),by kernel_rfl,by kernel_rfl⟩
 conc:=am ⟨aA (Tryz.prog.underlying 170),by kernel_rfl,ao (by kernel_rfl)⟩
def JE:TI:={size:=some 7,agg:=some true,rs:=some (.one (.agg [.ptr,.ptr,.int .i64,.int .u32,.int .i32,.int .u32,.slice])),zero:=some (Value.agg #[Value.pointer none,Value.pointer none,Value.int .i64 0,Value.int .u32 0,Value.int .i32 0,Value.int .u32 0,Value.slice none 0 0]),offs:=some [(0,0,false),(1,0,false),(2,0,false),(3,3,true)],conc:=true}
theorem D6:aH Tryz.prog 172 JE where
 size:=ai (7) rfl (by kernel_rfl)
 agg:=ai (true) rfl (by kernel_rfl)
 zero:=ai (Value.agg #[Value.pointer none,Value.pointer none,Value.int .i64 0,Value.int .u32 0,Value.int .i32 0,Value.int .u32 0,Value.slice none 0 0]) rfl (by kernel_rfl)
 offs:=ai [(0,0,false),(1,0,false),(2,0,false),(3,3,true)] rfl ⟨aZ (Tryz.prog.underlying 172),by kernel_rfl,by kernel_rfl⟩
 conc:=am ⟨aA (Tryz.prog.underlying 172),by kernel_rfl,ao (by kernel_rfl)⟩
def Js:TI:={rs:=some (.tup [.agg [.slice],.leaf (.int .u32)])}
theorem FA:aH Tryz.prog 176 Js where
def Iw:TI:={size:=some 1,agg:=some false,rs:=some (.one (.leaf (.slice))),zero:=some (Value.slice none 0 0),slc:=some (98,1),conc:=true,isSlc:=true}
theorem F0:aH Tryz.prog 180 Iw where
 zero:=ai (Value.slice none 0 0) rfl (by kernel_rfl)
 slc:=bg 98 1 rfl ⟨by kernel_rfl,by kernel_rfl⟩
 conc:=am ⟨aA (Tryz.prog.underlying 180),by kernel_rfl,ao (by kernel_rfl)⟩
 isSlc:=am ⟨98,by kernel_rfl⟩
def H0:TI:={rs:=some (.tup [.agg [.slice],.leaf (.bool)])}
theorem FV:aH Tryz.prog 185 H0 where
def Jp:TI:={size:=some 1,agg:=some false,rs:=some (.one (.leaf (.any))),zero:=some (Value.nilFunc),conc:=true}
theorem Fi:aH Tryz.prog 187 Jp where
 zero:=ai (Value.nilFunc) rfl (by kernel_rfl)
 conc:=am ⟨aA (Tryz.prog.underlying 187),by kernel_rfl,ao (by kernel_rfl)⟩
def H5:TI:={rs:=some (.tup [.leaf (.slice),.leaf (.map)])}
theorem Gl:aH Tryz.prog 192 H5 where
def Ii:TI:={size:=some 1,agg:=some false,rs:=some (.one (.leaf (.ptr))),zero:=some (Value.pointer none),conc:=true,isPtr:=true}
theorem E8:aH Tryz.prog 199 Ii where
 zero:=ai (Value.pointer none) rfl (by kernel_rfl)
 conc:=am ⟨aA (Tryz.prog.underlying 199),by kernel_rfl,ao (by kernel_rfl)⟩
 isPtr:=am ⟨270,by kernel_rfl⟩
def Ie:TI:={rs:=some (.tup [.leaf (.str),.leaf (.bool)])}
theorem EI:aH Tryz.prog 203 Ie where
def HX:TI:={size:=some 1,agg:=some false,rs:=some (.one (.leaf (.any))),zero:=some (Value.nilFunc),conc:=true}
theorem F_:aH Tryz.prog 208 HX where
 zero:=ai (Value.nilFunc) rfl (by kernel_rfl)
 conc:=am ⟨aA (Tryz.prog.underlying 208),by kernel_rfl,ao (by kernel_rfl)⟩
def Jo:TI:={size:=some 1,agg:=some false,rs:=some (.one (.leaf (.any))),zero:=some (Value.nilFunc),conc:=true}
theorem EK:aH Tryz.prog 210 Jo where
 zero:=ai (Value.nilFunc) rfl (by kernel_rfl)
 conc:=am ⟨aA (Tryz.prog.underlying 210),by kernel_rfl,ao (by kernel_rfl)⟩
def IA:TI:={size:=some 1,agg:=some false,rs:=some (.one (.leaf (.any))),zero:=some (Value.nilFunc),conc:=true}
theorem E3:aH Tryz.prog 212 IA where
 zero:=ai (Value.nilFunc) rfl (by kernel_rfl)
 conc:=am ⟨aA (Tryz.prog.underlying 212),by kernel_rfl,ao (by kernel_rfl)⟩
def H2:TI:={size:=some 3,agg:=some true,rs:=some (.one (.agg [.int .i64,.int .i64,.int .i64])),zero:=some (Value.agg #[Value.int .i64 0,Value.int .i64 0,Value.int .i64 0]),offs:=some [(0,0,false),(1,0,false),(2,0,false)],eqs:=some [.i,.i,.i],conc:=true}
theorem DY:aH Tryz.prog 215 H2 where
 size:=ai (3) rfl (by kernel_rfl)
 agg:=ai (true) rfl (by kernel_rfl)
 zero:=ai (Value.agg #[Value.int .i64 0,Value.int .i64 0,Value.int .i64 0]) rfl (by kernel_rfl)
 offs:=ai [(0,0,false),(1,0,false),(2,0,false)] rfl ⟨aZ (Tryz.prog.underlying 215),by kernel_rfl,by kernel_rfl⟩
 conc:=am ⟨aA (Tryz.prog.underlying 215),by kernel_rfl,ao (by kernel_rfl)⟩
 eqs:=ai [.i,.i,.i] rfl (by kernel_rfl)
def If:TI:={size:=some 1,agg:=some false,rs:=some (.one (.leaf (.any))),zero:=some (Value.nilFunc),conc:=true}
theorem FR:aH Tryz.prog 216 If where
 zero:=ai (Value.nilFunc) rfl (by kernel_rfl)
 conc:=am ⟨aA (Tryz.prog.underlying 216),by kernel_rfl,ao (by kernel_rfl)⟩
def JJ:TI:={size:=some 2,agg:=some true,rs:=some (.one (.agg [.int .i64,.int .i64])),zero:=some (Value.agg #[Value.int .i64 0,Value.int .i64 0]),offs:=some [(0,0,false),(1,0,false)],eqs:=some [.i,.i],conc:=true}
theorem E2:aH Tryz.prog 218 JJ where
 size:=ai (2) rfl (by kernel_rfl)
 agg:=ai (true) rfl (by kernel_rfl)
 zero:=ai (Value.agg #[Value.int .i64 0,Value.int .i64 0]) rfl (by kernel_rfl)
 offs:=ai [(0,0,false),(1,0,false)] rfl ⟨aZ (Tryz.prog.underlying 218),by kernel_rfl,by kernel_rfl⟩
 conc:=am ⟨aA (Tryz.prog.underlying 218),by kernel_rfl,ao (by kernel_rfl)⟩
 eqs:=ai [.i,.i] rfl (by kernel_rfl)
def Is:TI:={size:=some 1,agg:=some false,rs:=some (.one (.leaf (.any))),zero:=some (Value.nilFunc),conc:=true}
theorem F3:aH Tryz.prog 219 Is where
 zero:=ai (Value.nilFunc) rfl (by kernel_rfl)
 conc:=am ⟨aA (Tryz.prog.underlying 219),by kernel_rfl,ao (by kernel_rfl)⟩
def H4:TI:={rs:=some (.tup [.leaf (.ptr),.leaf (.int .i64),.leaf (.int .i64)])}
theorem Et:aH Tryz.prog 220 H4 where
def Jf:TI:={rs:=some (.tup [.leaf (.ptr),.leaf (.int .i64),.leaf (.int .i64)])}
theorem F2:aH Tryz.prog 222 Jf where
def Jy:TI:={size:=some 1,agg:=some false,rs:=some (.one (.leaf (.ptr))),zero:=some (Value.pointer none),conc:=true,isPtr:=true}
theorem Gu:aH Tryz.prog 225 Jy where
 zero:=ai (Value.pointer none) rfl (by kernel_rfl)
 conc:=am ⟨aA (Tryz.prog.underlying 225),by kernel_rfl,ao (by kernel_rfl)⟩
 isPtr:=am ⟨293,by kernel_rfl⟩
def IY:TI:={rs:=some (.tup [.leaf (.ptr),.leaf (.int .i64)])}
theorem D0:aH Tryz.prog 226 IY where
def Iq:TI:={size:=some 9,agg:=some true,rs:=some (.one (.agg [.bool,.slice,.slice,.slice,.slice,.slice,.ptr,.ptr,.ptr])),zero:=some (Value.agg #[Value.bool false,Value.slice none 0 0,Value.slice none 0 0,Value.slice none 0 0,Value.slice none 0 0,Value.slice none 0 0,Value.pointer none,Value.pointer none,Value.pointer none]),offs:=some [(0,5,true),(6,0,false),(7,0,false),(8,0,false)],conc:=true}
theorem FY:aH Tryz.prog 230 Iq where
 size:=ai (9) rfl (by kernel_rfl)
 agg:=ai (true) rfl (by kernel_rfl)
 zero:=ai (Value.agg #[Value.bool false,Value.slice none 0 0,Value.slice none 0 0,Value.slice none 0 0,Value.slice none 0 0,Value.slice none 0 0,Value.pointer none,Value.pointer none,Value.pointer none]) rfl (by kernel_rfl)
 offs:=ai [(0,5,true),(6,0,false),(7,0,false),(8,0,false)] rfl ⟨aZ (Tryz.prog.underlying 230),by kernel_rfl,by kernel_rfl⟩
 conc:=am ⟨aA (Tryz.prog.underlying 230),by kernel_rfl,ao (by kernel_rfl)⟩
def Ja:TI:={size:=some 4,agg:=some true,rs:=some (.one (.agg [.int .u32,.int .i32,.int .u32,.slice])),zero:=some (Value.agg #[Value.int .u32 0,Value.int .i32 0,Value.int .u32 0,Value.slice none 0 0]),offs:=some [(0,2,true),(3,0,false)],conc:=true}
theorem Eh:aH Tryz.prog 232 Ja where
 size:=ai (4) rfl (by kernel_rfl)
 agg:=ai (true) rfl (by kernel_rfl)
 zero:=ai (Value.agg #[Value.int .u32 0,Value.int .i32 0,Value.int .u32 0,Value.slice none 0 0]) rfl (by kernel_rfl)
 offs:=ai [(0,2,true),(3,0,false)] rfl ⟨aZ (Tryz.prog.underlying 232),by kernel_rfl,by kernel_rfl⟩
 conc:=am ⟨aA (Tryz.prog.underlying 232),by kernel_rfl,ao (by kernel_rfl)⟩
def IL:TI:={size:=some 14,agg:=some true,rs:=some (.one (.agg [.bool,.slice,.slice,.slice,.slice,.slice,.ptr,.ptr,.ptr,.int .u32,.int .i32,.int .u32,.slice,.int .i64])),zero:=some (Value.agg #[Value.bool false,Value.slice none 0 0,Value.slice none 0 0,Value.slice none 0 0,Value.slice none 0 0,Value.slice none 0 0,Value.pointer none,Value.pointer none,Value.pointer none,Value.int .u32 0,Value.int .i32 0,Value.int .u32 0,Value.slice none 0 0,Value.int .i64 0]),offs:=some [(0,8,true),(9,3,true),(13,0,true)],conc:=true}
theorem FE:aH Tryz.prog 237 IL where
 size:=ai (14) rfl (by kernel_rfl)
 agg:=ai (true) rfl (by kernel_rfl)
 zero:=ai (Value.agg #[Value.bool false,Value.slice none 0 0,Value.slice none 0 0,Value.slice none 0 0,Value.slice none 0 0,Value.slice none 0 0,Value.pointer none,Value.pointer none,Value.pointer none,Value.int .u32 0,Value.int .i32 0,Value.int .u32 0,Value.slice none 0 0,Value.int .i64 0]) rfl (by kernel_rfl)
 offs:=ai [(0,8,true),(9,3,true),(13,0,true)] rfl ⟨aZ (Tryz.prog.underlying 237),by kernel_rfl,by kernel_rfl⟩
 conc:=am ⟨aA (Tryz.prog.underlying 237),by kernel_rfl,ao (by kernel_rfl)⟩
def HT:TI:={size:=some 1,agg:=some false,rs:=some (.one (.leaf (.ptr))),zero:=some (Value.pointer none),conc:=true,isPtr:=true}
theorem Gf:aH Tryz.prog 240 HT where
 zero:=ai (Value.pointer none) rfl (by kernel_rfl)
 conc:=am ⟨aA (Tryz.prog.underlying 240),by kernel_rfl,ao (by kernel_rfl)⟩
 isPtr:=am ⟨275,by kernel_rfl⟩
def IJ:TI:={size:=some 2,agg:=some true,rs:=some (.one (.agg [.ptr,.int .i64])),zero:=some (Value.agg #[Value.pointer none,Value.int .i64 0]),offs:=some [(0,0,false),(1,0,false)],conc:=true}
theorem FF:aH Tryz.prog 242 IJ where
 size:=ai (2) rfl (by kernel_rfl)
 agg:=ai (true) rfl (by kernel_rfl)
 zero:=ai (Value.agg #[Value.pointer none,Value.int .i64 0]) rfl (by kernel_rfl)
 offs:=ai [(0,0,false),(1,0,false)] rfl ⟨aZ (Tryz.prog.underlying 242),by kernel_rfl,by kernel_rfl⟩
 conc:=am ⟨aA (Tryz.prog.underlying 242),by kernel_rfl,ao (by kernel_rfl)⟩
def Jn:TI:={size:=some 1,agg:=some false,rs:=some (.one (.leaf (.slice))),zero:=some (Value.slice none 0 0),slc:=some (278,3),conc:=true,isSlc:=true}
theorem F5:aH Tryz.prog 245 Jn where
 zero:=ai (Value.slice none 0 0) rfl (by kernel_rfl)
 slc:=bg 278 3 rfl ⟨by kernel_rfl,by kernel_rfl⟩
 conc:=am ⟨aA (Tryz.prog.underlying 245),by kernel_rfl,ao (by kernel_rfl)⟩
 isSlc:=am ⟨278,by kernel_rfl⟩
def JB:TI:={size:=some 1,agg:=some false,rs:=some (.one (.leaf (.map))),zero:=some (Value.map none),elemSh:=some (.leaf (.int .i64)),conc:=true,isMap:=true}
theorem Fp:aH Tryz.prog 246 JB where
 zero:=ai (Value.map none) rfl (by kernel_rfl)
 conc:=am ⟨aA (Tryz.prog.underlying 246),by kernel_rfl,ao (by kernel_rfl)⟩
 isMap:=am ⟨9,3,by kernel_rfl⟩
def Id:TI:={size:=some 1,agg:=some false,rs:=some (.one (.leaf (.map))),zero:=some (Value.map none),elemSh:=some (.leaf (.int .i64)),conc:=true,isMap:=true}
theorem Fo:aH Tryz.prog 247 Id where
 zero:=ai (Value.map none) rfl (by kernel_rfl)
 conc:=am ⟨aA (Tryz.prog.underlying 247),by kernel_rfl,ao (by kernel_rfl)⟩
 isMap:=am ⟨118,3,by kernel_rfl⟩
def Ig:TI:={size:=some 4,agg:=some true,rs:=some (.one (.agg [.slice,.map,.map,.int .i64])),zero:=some (Value.agg #[Value.slice none 0 0,Value.map none,Value.map none,Value.int .i64 0]),offs:=some [(0,0,false),(1,0,false),(2,0,false),(3,0,false)],conc:=true}
theorem D':aH Tryz.prog 249 Ig where
 size:=ai (4) rfl (by kernel_rfl)
 agg:=ai (true) rfl (by kernel_rfl)
 zero:=ai (Value.agg #[Value.slice none 0 0,Value.map none,Value.map none,Value.int .i64 0]) rfl (by kernel_rfl)
 offs:=ai [(0,0,false),(1,0,false),(2,0,false),(3,0,false)] rfl ⟨aZ (Tryz.prog.underlying 249),by kernel_rfl,by kernel_rfl⟩
 conc:=am ⟨aA (Tryz.prog.underlying 249),by kernel_rfl,ao (by kernel_rfl)⟩
def Jh:TI:={size:=some 1,agg:=some false,rs:=some (.one (.leaf (.slice))),zero:=some (Value.slice none 0 0),slc:=some (253,1),conc:=true,isSlc:=true}
theorem Ge:aH Tryz.prog 252 Jh where
 zero:=ai (Value.slice none 0 0) rfl (by kernel_rfl)
 slc:=bg 253 1 rfl ⟨by kernel_rfl,by kernel_rfl⟩
 conc:=am ⟨aA (Tryz.prog.underlying 252),by kernel_rfl,ao (by kernel_rfl)⟩
 isSlc:=am ⟨253,by kernel_rfl⟩
def Jv:TI:={size:=some 1,agg:=some false,rs:=some (.one (.leaf (.map))),zero:=some (Value.map none),elemSh:=some (.leaf (.int .u32)),conc:=true,isMap:=true}
theorem Fk:aH Tryz.prog 253 Jv where
 zero:=ai (Value.map none) rfl (by kernel_rfl)
 conc:=am ⟨aA (Tryz.prog.underlying 253),by kernel_rfl,ao (by kernel_rfl)⟩
 isMap:=am ⟨3,153,by kernel_rfl⟩
def Jr:TI:={rs:=some (.tup [.leaf (.int .u64),.leaf (.int .u64)])}
theorem F4:aH Tryz.prog 259 Jr where
def Jt:TI:={rs:=some (.tup [.leaf (.int .i64),.leaf (.int .i64)])}
theorem FP:aH Tryz.prog 263 Jt where
def HY:TI:={rs:=some (.tup [.agg [.slice,.slice,.slice,.slice,.slice],.leaf (.int .i64),.leaf (.int .i64),.leaf (.int .i64)])}
theorem Gm:aH Tryz.prog 265 HY where
def Jm:TI:={size:=some 256,agg:=some true,zero:=some (Value.agg (List.toArray (List.replicate 256 (Value.bool false)))),arr:=some (256,1),conc:=true}
theorem Fe:aH Tryz.prog 268 Jm where
 size:=ai (256) rfl (by kernel_rfl)
 agg:=ai (true) rfl (by kernel_rfl)
 zero:=ai (Value.agg (List.toArray (List.replicate 256 (Value.bool false)))) rfl (by kernel_rfl)
 arr:=bg 256 1 rfl ⟨4,by kernel_rfl,by kernel_rfl⟩
 conc:=am ⟨aA (Tryz.prog.underlying 268),by kernel_rfl,ao (by kernel_rfl)⟩
def It:TI:={size:=some 260,agg:=some true,zero:=some (Value.agg (List.toArray ([Value.slice none 0 0,Value.map none,Value.map none]++List.replicate 256 (Value.bool false)++ [Value.int .i64 0]))),offs:=some [(0,0,false),(1,0,false),(2,0,false),(3,255,true),(259,0,false)],conc:=true}
theorem FJ:aH Tryz.prog 270 It where
 size:=ai (260) rfl (by kernel_rfl)
 agg:=ai (true) rfl (by kernel_rfl)
 zero:=ai (Value.agg (List.toArray ([Value.slice none 0 0,Value.map none,Value.map none]++List.replicate 256 (Value.bool false)++ [Value.int .i64 0]))) rfl (by kernel_rfl)
 offs:=ai [(0,0,false),(1,0,false),(2,0,false),(3,255,true),(259,0,false)] rfl ⟨aZ (Tryz.prog.underlying 270),by kernel_rfl,by kernel_rfl⟩
 conc:=am ⟨aA (Tryz.prog.underlying 270),by kernel_rfl,ao (by kernel_rfl)⟩
def JA:TI:={size:=some 1,agg:=some false,rs:=some (.one (.leaf (.map))),zero:=some (Value.map none),elemSh:=some (.leaf (.ptr)),conc:=true,isMap:=true}
theorem Ee:aH Tryz.prog 273 JA where
 zero:=ai (Value.map none) rfl (by kernel_rfl)
 conc:=am ⟨aA (Tryz.prog.underlying 273),by kernel_rfl,ao (by kernel_rfl)⟩
 isMap:=am ⟨5,240,by kernel_rfl⟩
def I8:TI:={size:=some 2,agg:=some true,rs:=some (.one (.agg [.map,.int .i64])),zero:=some (Value.agg #[Value.map none,Value.int .i64 0]),offs:=some [(0,0,false),(1,0,false)],conc:=true}
theorem Gt:aH Tryz.prog 275 I8 where
 size:=ai (2) rfl (by kernel_rfl)
 agg:=ai (true) rfl (by kernel_rfl)
 zero:=ai (Value.agg #[Value.map none,Value.int .i64 0]) rfl (by kernel_rfl)
 offs:=ai [(0,0,false),(1,0,false)] rfl ⟨aZ (Tryz.prog.underlying 275),by kernel_rfl,by kernel_rfl⟩
 conc:=am ⟨aA (Tryz.prog.underlying 275),by kernel_rfl,ao (by kernel_rfl)⟩
def IK:TI:={size:=some 3,agg:=some true,rs:=some (.one (.agg [.str,.int .i64,.int .i64])),zero:=some (Value.agg #[Value.string ⟨#[]⟩,Value.int .i64 0,Value.int .i64 0]),offs:=some [(0,0,false),(1,1,true)],conc:=true}
theorem Ey:aH Tryz.prog 278 IK where
 size:=ai (3) rfl (by kernel_rfl)
 agg:=ai (true) rfl (by kernel_rfl)
 zero:=ai (Value.agg #[Value.string ⟨#[]⟩,Value.int .i64 0,Value.int .i64 0]) rfl (by kernel_rfl)
 offs:=ai [(0,0,false),(1,1,true)] rfl ⟨aZ (Tryz.prog.underlying 278),by kernel_rfl,by kernel_rfl⟩
 conc:=am ⟨aA (Tryz.prog.underlying 278),by kernel_rfl,ao (by kernel_rfl)⟩
def Je:TI:={size:=some 256,agg:=some true,zero:=some (Value.agg (List.toArray (List.replicate 256 (Value.int .i64 0)))),arr:=some (256,1),conc:=true}
theorem D3:aH Tryz.prog 289 Je where
 size:=ai (256) rfl (by kernel_rfl)
 agg:=ai (true) rfl (by kernel_rfl)
 zero:=ai (Value.agg (List.toArray (List.replicate 256 (Value.int .i64 0)))) rfl (by kernel_rfl)
 arr:=bg 256 1 rfl ⟨3,by kernel_rfl,by kernel_rfl⟩
 conc:=am ⟨aA (Tryz.prog.underlying 289),by kernel_rfl,ao (by kernel_rfl)⟩
def HO:TI:={size:=some 16,agg:=some true,rs:=some (.one (.agg [.bool,.bool,.bool,.bool,.bool,.bool,.bool,.bool,.bool,.bool,.bool,.bool,.bool,.bool,.bool,.bool])),zero:=some (Value.agg #[Value.bool false,Value.bool false,Value.bool false,Value.bool false,Value.bool false,Value.bool false,Value.bool false,Value.bool false,Value.bool false,Value.bool false,Value.bool false,Value.bool false,Value.bool false,Value.bool false,Value.bool false,Value.bool false]),arr:=some (16,1),conc:=true}
theorem ER:aH Tryz.prog 290 HO where
 size:=ai (16) rfl (by kernel_rfl)
 agg:=ai (true) rfl (by kernel_rfl)
 zero:=ai (Value.agg #[Value.bool false,Value.bool false,Value.bool false,Value.bool false,Value.bool false,Value.bool false,Value.bool false,Value.bool false,Value.bool false,Value.bool false,Value.bool false,Value.bool false,Value.bool false,Value.bool false,Value.bool false,Value.bool false]) rfl (by kernel_rfl)
 arr:=bg 16 1 rfl ⟨4,by kernel_rfl,by kernel_rfl⟩
 conc:=am ⟨aA (Tryz.prog.underlying 290),by kernel_rfl,ao (by kernel_rfl)⟩
def JG:TI:={size:=some 256,agg:=some true,zero:=some (Value.agg (List.toArray (List.replicate 256 (Value.bool false)))),arr:=some (16,16),conc:=true}
theorem Gg:aH Tryz.prog 291 JG where
 size:=ai (256) rfl (by kernel_rfl)
 agg:=ai (true) rfl (by kernel_rfl)
 zero:=ai (Value.agg (List.toArray (List.replicate 256 (Value.bool false)))) rfl (by kernel_rfl)
 arr:=bg 16 16 rfl ⟨290,by kernel_rfl,by kernel_rfl⟩
 conc:=am ⟨aA (Tryz.prog.underlying 291),by kernel_rfl,ao (by kernel_rfl)⟩
def HU:TI:={size:=some 512,agg:=some true,zero:=some (Value.agg (List.toArray (List.replicate 256 (Value.int .i64 0)++List.replicate 256 (Value.bool false)))),offs:=some [(0,255,true),(256,255,true)],conc:=true}
theorem D7:aH Tryz.prog 293 HU where
 size:=ai (512) rfl (by kernel_rfl)
 agg:=ai (true) rfl (by kernel_rfl)
 zero:=ai (Value.agg (List.toArray (List.replicate 256 (Value.int .i64 0)++List.replicate 256 (Value.bool false)))) rfl (by kernel_rfl)
 offs:=ai [(0,255,true),(256,255,true)] rfl ⟨aZ (Tryz.prog.underlying 293),by kernel_rfl,by kernel_rfl⟩
 conc:=am ⟨aA (Tryz.prog.underlying 293),by kernel_rfl,ao (by kernel_rfl)⟩
def Iu:TI:={rs:=some (.tup [.leaf (.ptr),.leaf (.bool)])}
theorem Gr:aH Tryz.prog 306 Iu where
def I':TI:={rs:=some (.tup [.leaf (.int .u64),.leaf (.int .u64)])}
theorem Gj:aH Tryz.prog 313 I' where
def IR:TI:={rs:=some (.tup [.leaf (.slice),.leaf (.int .i64)])}
theorem Fs:aH Tryz.prog 315 IR where
def JF:TI:={size:=some 1,agg:=some false,rs:=some (.one (.leaf (.any))),zero:=some (Value.nilFunc),conc:=true}
theorem FL:aH Tryz.prog 319 JF where
 zero:=ai (Value.nilFunc) rfl (by kernel_rfl)
 conc:=am ⟨aA (Tryz.prog.underlying 319),by kernel_rfl,ao (by kernel_rfl)⟩
def JH:TI:={size:=some 1,agg:=some false,rs:=some (.one (.leaf (.int .u16))),zero:=some (Value.int .u16 0),intk:=some .u16,conc:=true}
theorem DV:aH Tryz.prog 321 JH where
 zero:=ai (Value.int .u16 0) rfl (by kernel_rfl)
 intk:=ai (IntKind.u16) rfl (by kernel_rfl)
 conc:=am ⟨aA (Tryz.prog.underlying 321),by kernel_rfl,ao (by kernel_rfl)⟩
def II:TI:={rs:=some (.tup [.agg [.slice,.slice],.leaf (.int .i64)])}
theorem DU:aH Tryz.prog 322 II where
def H6:TI:={rs:=some (.tup [.agg [.slice,.slice],.leaf (.int .i64),.leaf (.int .i64)])}
theorem Ev:aH Tryz.prog 324 H6 where
def Ia:TI:={size:=some 1,agg:=some false,rs:=some (.one (.leaf (.int .i64))),zero:=some (Value.int .i64 0),intk:=some .i64,conc:=true}
theorem EU:aH Tryz.prog 327 Ia where
 zero:=ai (Value.int .i64 0) rfl (by kernel_rfl)
 intk:=ai (IntKind.i64) rfl (by kernel_rfl)
 conc:=am ⟨aA (Tryz.prog.underlying 327),by kernel_rfl,ao (by kernel_rfl)⟩
def JK:TI:={rs:=some (.tup [.leaf (.int .i64),.leaf (.int .i64)])}
theorem Em:aH Tryz.prog 328 JK where
def IC:TI:={size:=some 1,agg:=some false,rs:=some (.one (.leaf (.any))),zero:=some (Value.nilFunc),conc:=true}
theorem Ed:aH Tryz.prog 335 IC where
 zero:=ai (Value.nilFunc) rfl (by kernel_rfl)
 conc:=am ⟨aA (Tryz.prog.underlying 335),by kernel_rfl,ao (by kernel_rfl)⟩
def I0:TI:={rs:=some (.tup [.agg [.int .i64,.int .i64],.leaf (.bool)])}
theorem FU:aH Tryz.prog 340 I0 where
def IB:TI:={size:=some 1,agg:=some false,rs:=some (.one (.leaf (.ptr))),zero:=some (Value.pointer none),conc:=true,isPtr:=true}
theorem Es:aH Tryz.prog 345 IB where
 zero:=ai (Value.pointer none) rfl (by kernel_rfl)
 conc:=am ⟨aA (Tryz.prog.underlying 345),by kernel_rfl,ao (by kernel_rfl)⟩
 isPtr:=am ⟨365,by kernel_rfl⟩
def JD:TI:={size:=some 1,agg:=some false,rs:=some (.one (.leaf (.map))),zero:=some (Value.map none),elemSh:=some (.leaf (.int .i64)),conc:=true,isMap:=true}
theorem FS:aH Tryz.prog 350 JD where
 zero:=ai (Value.map none) rfl (by kernel_rfl)
 conc:=am ⟨aA (Tryz.prog.underlying 350),by kernel_rfl,ao (by kernel_rfl)⟩
 isMap:=am ⟨4,3,by kernel_rfl⟩
def I_:TI:={size:=some 1,agg:=some false,rs:=some (.one (.leaf (.ptr))),zero:=some (Value.pointer none),conc:=true,isPtr:=true}
theorem EQ:aH Tryz.prog 358 I_ where
 zero:=ai (Value.pointer none) rfl (by kernel_rfl)
 conc:=am ⟨aA (Tryz.prog.underlying 358),by kernel_rfl,ao (by kernel_rfl)⟩
 isPtr:=am ⟨3,by kernel_rfl⟩
def Iv:TI:={size:=some 1,agg:=some false,rs:=some (.one (.leaf (.ptr))),zero:=some (Value.pointer none),conc:=true,isPtr:=true}
theorem EE:aH Tryz.prog 360 Iv where
 zero:=ai (Value.pointer none) rfl (by kernel_rfl)
 conc:=am ⟨aA (Tryz.prog.underlying 360),by kernel_rfl,ao (by kernel_rfl)⟩
 isPtr:=am ⟨381,by kernel_rfl⟩
def HZ:TI:={size:=some 2,agg:=some true,rs:=some (.one (.agg [.int .i64,.int .i64])),zero:=some (Value.agg #[Value.int .i64 0,Value.int .i64 0]),offs:=some [(0,1,true)],conc:=true}
theorem Gb:aH Tryz.prog 363 HZ where
 size:=ai (2) rfl (by kernel_rfl)
 agg:=ai (true) rfl (by kernel_rfl)
 zero:=ai (Value.agg #[Value.int .i64 0,Value.int .i64 0]) rfl (by kernel_rfl)
 offs:=ai [(0,1,true)] rfl ⟨aZ (Tryz.prog.underlying 363),by kernel_rfl,by kernel_rfl⟩
 conc:=am ⟨aA (Tryz.prog.underlying 363),by kernel_rfl,ao (by kernel_rfl)⟩
def H7:TI:={size:=some 5,agg:=some true,rs:=some (.one (.agg [.int .i64,.int .i64,.ptr,.int .i64,.int .i64])),zero:=some (Value.agg #[Value.int .i64 0,Value.int .i64 0,Value.pointer none,Value.int .i64 0,Value.int .i64 0]),offs:=some [(0,1,true),(2,0,false),(3,0,false),(4,0,false)],conc:=true}
theorem EG:aH Tryz.prog 365 H7 where
 size:=ai (5) rfl (by kernel_rfl)
 agg:=ai (true) rfl (by kernel_rfl)
 zero:=ai (Value.agg #[Value.int .i64 0,Value.int .i64 0,Value.pointer none,Value.int .i64 0,Value.int .i64 0]) rfl (by kernel_rfl)
 offs:=ai [(0,1,true),(2,0,false),(3,0,false),(4,0,false)] rfl ⟨aZ (Tryz.prog.underlying 365),by kernel_rfl,by kernel_rfl⟩
 conc:=am ⟨aA (Tryz.prog.underlying 365),by kernel_rfl,ao (by kernel_rfl)⟩
def Iz:TI:={size:=some 1,agg:=some false,rs:=some (.one (.leaf (.ptr))),zero:=some (Value.pointer none),conc:=true,isPtr:=true}
theorem F7:aH Tryz.prog 375 Iz where
 zero:=ai (Value.pointer none) rfl (by kernel_rfl)
 conc:=am ⟨aA (Tryz.prog.underlying 375),by kernel_rfl,ao (by kernel_rfl)⟩
 isPtr:=am ⟨393,by kernel_rfl⟩
def Jl:TI:={size:=some 3,agg:=some true,rs:=some (.one (.agg [.int .i64,.int .i64,.int .i64])),zero:=some (Value.agg #[Value.int .i64 0,Value.int .i64 0,Value.int .i64 0]),offs:=some [(0,0,false),(1,1,true)],conc:=true}
theorem F9:aH Tryz.prog 378 Jl where
 size:=ai (3) rfl (by kernel_rfl)
 agg:=ai (true) rfl (by kernel_rfl)
 zero:=ai (Value.agg #[Value.int .i64 0,Value.int .i64 0,Value.int .i64 0]) rfl (by kernel_rfl)
 offs:=ai [(0,0,false),(1,1,true)] rfl ⟨aZ (Tryz.prog.underlying 378),by kernel_rfl,by kernel_rfl⟩
 conc:=am ⟨aA (Tryz.prog.underlying 378),by kernel_rfl,ao (by kernel_rfl)⟩
def Jb:TI:={size:=some 1,agg:=some false,rs:=some (.one (.leaf (.slice))),zero:=some (Value.slice none 0 0),slc:=some (383,3),conc:=true,isSlc:=true}
theorem FT:aH Tryz.prog 379 Jb where
 zero:=ai (Value.slice none 0 0) rfl (by kernel_rfl)
 slc:=bg 383 3 rfl ⟨by kernel_rfl,by kernel_rfl⟩
 conc:=am ⟨aA (Tryz.prog.underlying 379),by kernel_rfl,ao (by kernel_rfl)⟩
 isSlc:=am ⟨383,by kernel_rfl⟩
def Ib:TI:={size:=some 5,agg:=some true,rs:=some (.one (.agg [.ptr,.slice,.ptr,.int .i64,.int .i64])),zero:=some (Value.agg #[Value.pointer none,Value.slice none 0 0,Value.pointer none,Value.int .i64 0,Value.int .i64 0]),offs:=some [(0,0,false),(1,0,false),(2,0,false),(3,0,false),(4,0,false)],conc:=true}
theorem EV:aH Tryz.prog 381 Ib where
 size:=ai (5) rfl (by kernel_rfl)
 agg:=ai (true) rfl (by kernel_rfl)
 zero:=ai (Value.agg #[Value.pointer none,Value.slice none 0 0,Value.pointer none,Value.int .i64 0,Value.int .i64 0]) rfl (by kernel_rfl)
 offs:=ai [(0,0,false),(1,0,false),(2,0,false),(3,0,false),(4,0,false)] rfl ⟨aZ (Tryz.prog.underlying 381),by kernel_rfl,by kernel_rfl⟩
 conc:=am ⟨aA (Tryz.prog.underlying 381),by kernel_rfl,ao (by kernel_rfl)⟩
def Ix:TI:={size:=some 3,agg:=some true,rs:=some (.one (.agg [.int .i64,.int .i64,.int .i64])),zero:=some (Value.agg #[Value.int .i64 0,Value.int .i64 0,Value.int .i64 0]),offs:=some [(0,0,false),(1,0,false),(2,0,false)],eqs:=some [.i,.i,.i],conc:=true}
theorem D_:aH Tryz.prog 383 Ix where
 size:=ai (3) rfl (by kernel_rfl)
 agg:=ai (true) rfl (by kernel_rfl)
 zero:=ai (Value.agg #[Value.int .i64 0,Value.int .i64 0,Value.int .i64 0]) rfl (by kernel_rfl)
 offs:=ai [(0,0,false),(1,0,false),(2,0,false)] rfl ⟨aZ (Tryz.prog.underlying 383),by kernel_rfl,by kernel_rfl⟩
 conc:=am ⟨aA (Tryz.prog.underlying 383),by kernel_rfl,ao (by kernel_rfl)⟩
 eqs:=ai [.i,.i,.i] rfl (by kernel_rfl)
def IG:TI:={rs:=some (.tup [.agg [.int .i64,.int .i64,.int .i64],.leaf (.int .i64),.leaf (.int .i64),.leaf (.bool)])}
theorem Gh:aH Tryz.prog 384 IG where
def HS:TI:={size:=some 1,agg:=some false,rs:=some (.one (.leaf (.slice))),zero:=some (Value.slice none 0 0),slc:=some (399,6),conc:=true,isSlc:=true}
theorem E5:aH Tryz.prog 391 HS where
 zero:=ai (Value.slice none 0 0) rfl (by kernel_rfl)
 slc:=bg 399 6 rfl ⟨by kernel_rfl,by kernel_rfl⟩
 conc:=am ⟨aA (Tryz.prog.underlying 391),by kernel_rfl,ao (by kernel_rfl)⟩
 isSlc:=am ⟨399,by kernel_rfl⟩
def H':TI:={size:=some 2,agg:=some true,rs:=some (.one (.agg [.slice,.int .i64])),zero:=some (Value.agg #[Value.slice none 0 0,Value.int .i64 0]),offs:=some [(0,0,false),(1,0,false)],conc:=true}
theorem Eu:aH Tryz.prog 393 H' where
 size:=ai (2) rfl (by kernel_rfl)
 agg:=ai (true) rfl (by kernel_rfl)
 zero:=ai (Value.agg #[Value.slice none 0 0,Value.int .i64 0]) rfl (by kernel_rfl)
 offs:=ai [(0,0,false),(1,0,false)] rfl ⟨aZ (Tryz.prog.underlying 393),by kernel_rfl,by kernel_rfl⟩
 conc:=am ⟨aA (Tryz.prog.underlying 393),by kernel_rfl,ao (by kernel_rfl)⟩
def H8:TI:={size:=some 3,agg:=some true,rs:=some (.one (.agg [.int .i64,.int .i64,.int .i64])),zero:=some (Value.agg #[Value.int .i64 0,Value.int .i64 0,Value.int .i64 0]),offs:=some [(0,0,false),(1,0,false),(2,0,false)],eqs:=some [.i,.i,.i],conc:=true}
theorem DZ:aH Tryz.prog 397 H8 where
 size:=ai (3) rfl (by kernel_rfl)
 agg:=ai (true) rfl (by kernel_rfl)
 zero:=ai (Value.agg #[Value.int .i64 0,Value.int .i64 0,Value.int .i64 0]) rfl (by kernel_rfl)
 offs:=ai [(0,0,false),(1,0,false),(2,0,false)] rfl ⟨aZ (Tryz.prog.underlying 397),by kernel_rfl,by kernel_rfl⟩
 conc:=am ⟨aA (Tryz.prog.underlying 397),by kernel_rfl,ao (by kernel_rfl)⟩
 eqs:=ai [.i,.i,.i] rfl (by kernel_rfl)
def I9:TI:={size:=some 6,agg:=some true,rs:=some (.one (.agg [.int .i64,.int .i64,.int .i64,.int .i64,.int .i64,.int .i64])),zero:=some (Value.agg #[Value.int .i64 0,Value.int .i64 0,Value.int .i64 0,Value.int .i64 0,Value.int .i64 0,Value.int .i64 0]),offs:=some [(0,2,true),(3,2,true)],conc:=true}
theorem Fj:aH Tryz.prog 399 I9 where
 size:=ai (6) rfl (by kernel_rfl)
 agg:=ai (true) rfl (by kernel_rfl)
 zero:=ai (Value.agg #[Value.int .i64 0,Value.int .i64 0,Value.int .i64 0,Value.int .i64 0,Value.int .i64 0,Value.int .i64 0]) rfl (by kernel_rfl)
 offs:=ai [(0,2,true),(3,2,true)] rfl ⟨aZ (Tryz.prog.underlying 399),by kernel_rfl,by kernel_rfl⟩
 conc:=am ⟨aA (Tryz.prog.underlying 399),by kernel_rfl,ao (by kernel_rfl)⟩
def Ju:TI:={size:=some 2,agg:=some true,rs:=some (.one (.agg [.int .i64,.int .i64])),zero:=some (Value.agg #[Value.int .i64 0,Value.int .i64 0]),arr:=some (2,1),conc:=true}
theorem Gd:aH Tryz.prog 400 Ju where
 size:=ai (2) rfl (by kernel_rfl)
 agg:=ai (true) rfl (by kernel_rfl)
 zero:=ai (Value.agg #[Value.int .i64 0,Value.int .i64 0]) rfl (by kernel_rfl)
 arr:=bg 2 1 rfl ⟨3,by kernel_rfl,by kernel_rfl⟩
 conc:=am ⟨aA (Tryz.prog.underlying 400),by kernel_rfl,ao (by kernel_rfl)⟩
def Na:List (Nat×TI):=[(0,OD),(2,OB),(3,OC),(4,OE),(5,OF),(9,OG),(22,Np),(23,KP),(24,LC),(25,Lj),(27,MI),(28,Nn),(31,Nk),(32,Kv),(33,Mc),(34,MB),(36,MQ),(38,LJ),(40,Mj),(41,Md),(43,M3),(44,Me),(47,M0),(48,Ms),(53,Mx)]
theorem Hk:∀p∈Na,aH Tryz.prog p.1 p.2:=
 an JU<|an J_<|an Kf<|an JN<|an Ke<|an Km<|an HB<|an HC<|an GQ<|an Hb<|an Ha<|an HD<|an Hf<|an GP<|an GH<|an Ho<|an G4<|an GC<|an G2<|an G5<|an G'<|an G1<|an G6<|an GA<|an G9<|n_
def KH:List (Nat×TI):=[(55,Ku),(59,MX),(60,L_),(62,MY),(69,MV),(70,KI),(73,Ln),(75,Kq),(76,Mf),(78,L6),(82,LL),(83,Kr),(84,Nb),(86,Li),(88,Ll),(97,MK),(98,KK),(102,Ij),(104,HV),(110,IZ),(112,Jc),(118,Jd),(119,H3),(121,Ji),(124,IQ)]
theorem Gz:∀p∈KH,aH Tryz.prog p.1 p.2:=
 an GM<|an GG<|an GS<|an GT<|an Hy<|an GB<|an G_<|an GO<|an Hs<|an GV<|an Hu<|an Hw<|an GZ<|an G7<|an Hn<|an HN<|an HG<|an Fy<|an DX<|an D2<|an Fb<|an E6<|an D4<|an Ft<|an FG<|n_
def M6:List (Nat×TI):=[(126,Iy),(128,HR),(129,Jq),(130,IT),(132,Jz),(133,IF),(134,IU),(140,H9),(145,IV),(148,HP),(149,Ih),(153,Jj),(163,IP),(165,JI),(166,IW),(168,IN),(170,Il),(172,JE),(176,Js),(180,Iw),(185,H0),(187,Jp),(192,H5),(199,Ii),(203,Ie)]
theorem GJ:∀p∈M6,aH Tryz.prog p.1 p.2:=
 an Gs<|an E7<|an E1<|an Eb<|an Fd<|an EO<|an EW<|an FH<|an Ff<|an FO<|an DW<|an FZ<|an Fn<|an EM<|an Gw<|an D5<|an EN<|an D6<|an FA<|an F0<|an FV<|an Fi<|an Gl<|an E8<|an EI<|n_
def KO:List (Nat×TI):=[(208,HX),(210,Jo),(212,IA),(215,H2),(216,If),(218,JJ),(219,Is),(220,H4),(222,Jf),(225,Jy),(226,IY),(230,Iq),(232,Ja),(237,IL),(240,HT),(242,IJ),(245,Jn),(246,JB),(247,Id),(249,Ig),(252,Jh),(253,Jv),(259,Jr),(263,Jt),(265,HY)]
theorem Hr:∀p∈KO,aH Tryz.prog p.1 p.2:=
 an F_<|an EK<|an E3<|an DY<|an FR<|an E2<|an F3<|an Et<|an F2<|an Gu<|an D0<|an FY<|an Eh<|an FE<|an Gf<|an FF<|an F5<|an Fp<|an Fo<|an D'<|an Ge<|an Fk<|an F4<|an FP<|an Gm<|n_
def Mn:List (Nat×TI):=[(268,Jm),(270,It),(273,JA),(275,I8),(278,IK),(289,Je),(290,HO),(291,JG),(293,HU),(306,Iu),(313,I'),(315,IR),(319,JF),(321,JH),(322,II),(324,H6),(327,Ia),(328,JK),(335,IC),(340,I0),(345,IB),(350,JD),(358,I_),(360,Iv),(363,HZ)]
theorem GK:∀p∈Mn,aH Tryz.prog p.1 p.2:=
 an Fe<|an FJ<|an Ee<|an Gt<|an Ey<|an D3<|an ER<|an Gg<|an D7<|an Gr<|an Gj<|an Fs<|an FL<|an DV<|an DU<|an Ev<|an EU<|an Em<|an Ed<|an FU<|an Es<|an FS<|an EQ<|an EE<|an Gb<|n_
def MJ:List (Nat×TI):=[(365,H7),(375,Iz),(378,Jl),(379,Jb),(381,Ib),(383,Ix),(384,IG),(391,HS),(393,H'),(397,H8),(399,I9),(400,Ju)]
theorem GI:∀p∈MJ,aH Tryz.prog p.1 p.2:=
 an EG<|an F7<|an F9<|an FT<|an EV<|an D_<|an Gh<|an E5<|an Eu<|an DZ<|an Fj<|an Gd<|n_
def tab:List (Nat×TI):=Na++KH++M6++KO++Mn++MJ
set_option maxRecDepth 100000 in
theorem JV:∀p∈tab,aH Tryz.prog p.1 p.2:=
 rC (rC (rC (rC (rC (Hk) Gz) GJ) Hr) GK) GI
theorem F':Tryz.prog.follows .mixedOrders=true:=by kernel_rfl
noncomputable def fY:fS:=Er Tryz.prog tab
theorem Jx:fY.Ok:=Fg Tryz.prog tab JV F'
noncomputable def Ou:fS:={fY with re:=true}
theorem JS:Ou.Ok:=Jx.retype
theorem aD {f:FuncId} {fn:Func} {args:List Value} {w:World} {R:RW} {p:Prop} (hf:Tryz.prog.funcs[f]? =some fn) (hb:fn.body=some (tO fn)) (hn:Nat.ble args.length fn.ntmps=true) (hw:wf fY fn.ntmps (tO fn)=true) (h:p=Ef fY (tO fn) fn.results.toList args w R) (hh:p):Calls Tryz.prog f args.toArray w fun e w'=>∃v,e= .returned v∧R v w':=
 m0 Jx hf hb hn hw (Eq.mp h hh)
end Go.Proofs.YtdlcfegnaphclaaGreat.Eng
