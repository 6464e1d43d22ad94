/- The types that this claim's functions name, as the loaded program has them. -/
import Derived.Test.YtijbcdiffjjefaaGreatDoorZxEng
import Derived.Test.YtijbcdiffjjefaaGreatDoorProg
import Derived.KernelRfl
set_option linter.unusedVariables false
namespace Go.Proofs.YtijbcdiffjjefaaGreatDoor.Eng
open Go
abbrev OA:=Option Addr
abbrev KW:=List Value→World→Prop
abbrev RW:=Value→World→Prop
abbrev CP:=Calls Tryz.prog
abbrev CR (k:Nat) (a:Array Value) (w:World) (R:RW):Prop:=CP k a w fun e w'=>∃v,e= .returned v∧R v w'
def Ri:TI:={rs:=some (.tup [])}
theorem Mk:aL Tryz.prog 0 Ri where
def Rj:TI:={size:=some 1,agg:=some false,rs:=some (.one (.leaf (.int .i64))),zero:=some (Value.int .i64 0),intk:=some .i64,conc:=true}
theorem MA:aL Tryz.prog 2 Rj where
 zero:=ag (Value.int .i64 0) rfl (by kernel_rfl)
 intk:=ag (IntKind.i64) rfl (by kernel_rfl)
 conc:=am ⟨aG (Tryz.prog.underlying 2),by kernel_rfl,ar (by kernel_rfl)⟩
def Rg:TI:={size:=some 1,agg:=some false,rs:=some (.one (.leaf (.int .i64))),zero:=some (Value.int .i64 0),intk:=some .i64,conc:=true}
theorem Ml:aL Tryz.prog 3 Rg where
 zero:=ag (Value.int .i64 0) rfl (by kernel_rfl)
 intk:=ag (IntKind.i64) rfl (by kernel_rfl)
 conc:=am ⟨aG (Tryz.prog.underlying 3),by kernel_rfl,ar (by kernel_rfl)⟩
def Rh:TI:={size:=some 1,agg:=some false,rs:=some (.one (.leaf (.bool))),zero:=some (Value.bool false),conc:=true,isBool:=true}
theorem MD:aL Tryz.prog 4 Rh where
 zero:=ag (Value.bool false) rfl (by kernel_rfl)
 conc:=am ⟨aG (Tryz.prog.underlying 4),by kernel_rfl,ar (by kernel_rfl)⟩
 isBool:=am (by kernel_rfl)
def Rk:TI:={size:=some 1,agg:=some false,rs:=some (.one (.leaf (.int .u8))),zero:=some (Value.int .u8 0),intk:=some .u8,conc:=true}
theorem Mw:aL Tryz.prog 5 Rk where
 zero:=ag (Value.int .u8 0) rfl (by kernel_rfl)
 intk:=ag (IntKind.u8) rfl (by kernel_rfl)
 conc:=am ⟨aG (Tryz.prog.underlying 5),by kernel_rfl,ar (by kernel_rfl)⟩
def Rf:TI:={size:=some 1,agg:=some false,rs:=some (.one (.leaf (.str))),zero:=some (Value.string ⟨#[]⟩),isStr:=true,conc:=true}
theorem ME:aL Tryz.prog 9 Rf where
 zero:=ag (Value.string ⟨#[]⟩) rfl (by kernel_rfl)
 isStr:=am (by kernel_rfl)
 conc:=am ⟨aG (Tryz.prog.underlying 9),by kernel_rfl,ar (by kernel_rfl)⟩
def M9:TI:={size:=some 1,agg:=some false,rs:=some (.one (.leaf (.slice))),zero:=some (Value.slice none 0 0),slc:=some (242,1),conc:=true,isSlc:=true}
theorem Ks:aL Tryz.prog 22 M9 where
 zero:=ag (Value.slice none 0 0) rfl (by kernel_rfl)
 slc:=bL 242 1 rfl ⟨by kernel_rfl,by kernel_rfl⟩
 conc:=am ⟨aG (Tryz.prog.underlying 22),by kernel_rfl,ar (by kernel_rfl)⟩
 isSlc:=am ⟨242,by kernel_rfl⟩
def PO:TI:={size:=some 1,agg:=some false,rs:=some (.one (.leaf (.slice))),zero:=some (Value.slice none 0 0),slc:=some (89,3),conc:=true,isSlc:=true}
theorem Jy:aL Tryz.prog 23 PO where
 zero:=ag (Value.slice none 0 0) rfl (by kernel_rfl)
 slc:=bL 89 3 rfl ⟨by kernel_rfl,by kernel_rfl⟩
 conc:=am ⟨aG (Tryz.prog.underlying 23),by kernel_rfl,ar (by kernel_rfl)⟩
 isSlc:=am ⟨89,by kernel_rfl⟩
def Pn:TI:={size:=some 1,agg:=some false,rs:=some (.one (.leaf (.slice))),zero:=some (Value.slice none 0 0),slc:=some (170,2),conc:=true,isSlc:=true}
theorem JN:aL Tryz.prog 24 Pn where
 zero:=ag (Value.slice none 0 0) rfl (by kernel_rfl)
 slc:=bL 170 2 rfl ⟨by kernel_rfl,by kernel_rfl⟩
 conc:=am ⟨aG (Tryz.prog.underlying 24),by kernel_rfl,ar (by kernel_rfl)⟩
 isSlc:=am ⟨170,by kernel_rfl⟩
def OO:TI:={size:=some 1,agg:=some false,rs:=some (.one (.leaf (.slice))),zero:=some (Value.slice none 0 0),slc:=some (87,2),conc:=true,isSlc:=true}
theorem Kz:aL Tryz.prog 25 OO where
 zero:=ag (Value.slice none 0 0) rfl (by kernel_rfl)
 slc:=bL 87 2 rfl ⟨by kernel_rfl,by kernel_rfl⟩
 conc:=am ⟨aG (Tryz.prog.underlying 25),by kernel_rfl,ar (by kernel_rfl)⟩
 isSlc:=am ⟨87,by kernel_rfl⟩
def OZ:TI:={size:=some 4,agg:=some true,rs:=some (.one (.agg [.slice,.slice,.slice,.slice])),zero:=some (Value.agg #[Value.slice none 0 0,Value.slice none 0 0,Value.slice none 0 0,Value.slice none 0 0]),offs:=some [(0,0,false),(1,0,false),(2,0,false),(3,0,false)],conc:=true}
theorem Jo:aL Tryz.prog 27 OZ where
 size:=ag (4) rfl (by kernel_rfl)
 agg:=ag (true) rfl (by kernel_rfl)
 zero:=ag (Value.agg #[Value.slice none 0 0,Value.slice none 0 0,Value.slice none 0 0,Value.slice none 0 0]) rfl (by kernel_rfl)
 offs:=ag [(0,0,false),(1,0,false),(2,0,false),(3,0,false)] rfl ⟨bg (Tryz.prog.underlying 27),by kernel_rfl,by kernel_rfl⟩
 conc:=am ⟨aG (Tryz.prog.underlying 27),by kernel_rfl,ar (by kernel_rfl)⟩
def NN:TI:={size:=some 1,agg:=some false,rs:=some (.one (.leaf (.slice))),zero:=some (Value.slice none 0 0),slc:=some (3,1),conc:=true,isSlc:=true}
theorem JD:aL Tryz.prog 28 NN where
 zero:=ag (Value.slice none 0 0) rfl (by kernel_rfl)
 slc:=bL 3 1 rfl ⟨by kernel_rfl,by kernel_rfl⟩
 conc:=am ⟨aG (Tryz.prog.underlying 28),by kernel_rfl,ar (by kernel_rfl)⟩
 isSlc:=am ⟨3,by kernel_rfl⟩
def PY:TI:={size:=some 1,agg:=some false,rs:=some (.one (.leaf (.ptr))),zero:=some (Value.pointer none),conc:=true,isPtr:=true}
theorem Kn:aL Tryz.prog 31 PY where
 zero:=ag (Value.pointer none) rfl (by kernel_rfl)
 conc:=am ⟨aG (Tryz.prog.underlying 31),by kernel_rfl,ar (by kernel_rfl)⟩
 isPtr:=am ⟨186,by kernel_rfl⟩
def NX:TI:={size:=some 1,agg:=some false,rs:=some (.one (.leaf (.slice))),zero:=some (Value.slice none 0 0),slc:=some (9,1),conc:=true,isSlc:=true}
theorem JP:aL Tryz.prog 32 NX where
 zero:=ag (Value.slice none 0 0) rfl (by kernel_rfl)
 slc:=bL 9 1 rfl ⟨by kernel_rfl,by kernel_rfl⟩
 conc:=am ⟨aG (Tryz.prog.underlying 32),by kernel_rfl,ar (by kernel_rfl)⟩
 isSlc:=am ⟨9,by kernel_rfl⟩
def OV:TI:={size:=some 1,agg:=some false,rs:=some (.one (.leaf (.slice))),zero:=some (Value.slice none 0 0),slc:=some (85,2),conc:=true,isSlc:=true}
theorem Jx:aL Tryz.prog 33 OV where
 zero:=ag (Value.slice none 0 0) rfl (by kernel_rfl)
 slc:=bL 85 2 rfl ⟨by kernel_rfl,by kernel_rfl⟩
 conc:=am ⟨aG (Tryz.prog.underlying 33),by kernel_rfl,ar (by kernel_rfl)⟩
 isSlc:=am ⟨85,by kernel_rfl⟩
def NA:TI:={size:=some 2,agg:=some true,rs:=some (.one (.agg [.slice,.slice])),zero:=some (Value.agg #[Value.slice none 0 0,Value.slice none 0 0]),offs:=some [(0,0,false),(1,0,false)],conc:=true}
theorem Jz:aL Tryz.prog 35 NA where
 size:=ag (2) rfl (by kernel_rfl)
 agg:=ag (true) rfl (by kernel_rfl)
 zero:=ag (Value.agg #[Value.slice none 0 0,Value.slice none 0 0]) rfl (by kernel_rfl)
 offs:=ag [(0,0,false),(1,0,false)] rfl ⟨bg (Tryz.prog.underlying 35),by kernel_rfl,by kernel_rfl⟩
 conc:=am ⟨aG (Tryz.prog.underlying 35),by kernel_rfl,ar (by kernel_rfl)⟩
def Nq:TI:={size:=some 2,agg:=some true,rs:=some (.one (.agg [.slice,.slice])),zero:=some (Value.agg #[Value.slice none 0 0,Value.slice none 0 0]),offs:=some [(0,0,false),(1,0,false)],conc:=true}
theorem Jf:aL Tryz.prog 37 Nq where
 size:=ag (2) rfl (by kernel_rfl)
 agg:=ag (true) rfl (by kernel_rfl)
 zero:=ag (Value.agg #[Value.slice none 0 0,Value.slice none 0 0]) rfl (by kernel_rfl)
 offs:=ag [(0,0,false),(1,0,false)] rfl ⟨bg (Tryz.prog.underlying 37),by kernel_rfl,by kernel_rfl⟩
 conc:=am ⟨aG (Tryz.prog.underlying 37),by kernel_rfl,ar (by kernel_rfl)⟩
def Oy:TI:={size:=some 5,agg:=some true,rs:=some (.one (.agg [.slice,.slice,.slice,.slice,.slice])),zero:=some (Value.agg #[Value.slice none 0 0,Value.slice none 0 0,Value.slice none 0 0,Value.slice none 0 0,Value.slice none 0 0]),offs:=some [(0,1,true),(2,1,true),(4,0,false)],conc:=true}
theorem J_:aL Tryz.prog 39 Oy where
 size:=ag (5) rfl (by kernel_rfl)
 agg:=ag (true) rfl (by kernel_rfl)
 zero:=ag (Value.agg #[Value.slice none 0 0,Value.slice none 0 0,Value.slice none 0 0,Value.slice none 0 0,Value.slice none 0 0]) rfl (by kernel_rfl)
 offs:=ag [(0,1,true),(2,1,true),(4,0,false)] rfl ⟨bg (Tryz.prog.underlying 39),by kernel_rfl,by kernel_rfl⟩
 conc:=am ⟨aG (Tryz.prog.underlying 39),by kernel_rfl,ar (by kernel_rfl)⟩
def Nl:TI:={rs:=some (.tup [.leaf (.ptr),.agg [.slice,.slice,.slice,.slice,.slice]])}
theorem Kl:aL Tryz.prog 40 Nl where
def NI:TI:={size:=some 1,agg:=some false,rs:=some (.one (.leaf (.ptr))),zero:=some (Value.pointer none),conc:=true,isPtr:=true}
theorem Ki:aL Tryz.prog 42 NI where
 zero:=ag (Value.pointer none) rfl (by kernel_rfl)
 conc:=am ⟨aG (Tryz.prog.underlying 42),by kernel_rfl,ar (by kernel_rfl)⟩
 isPtr:=am ⟨113,by kernel_rfl⟩
def OU:TI:={size:=some 1,agg:=some false,rs:=some (.one (.leaf (.int .i64))),zero:=some (Value.int .i64 0),intk:=some .i64,conc:=true}
theorem JU:aL Tryz.prog 43 OU where
 zero:=ag (Value.int .i64 0) rfl (by kernel_rfl)
 intk:=ag (IntKind.i64) rfl (by kernel_rfl)
 conc:=am ⟨aG (Tryz.prog.underlying 43),by kernel_rfl,ar (by kernel_rfl)⟩
def Pa:TI:={rs:=some (.tup [.leaf (.ptr),.leaf (.int .i64)])}
theorem JE:aL Tryz.prog 44 Pa where
def Nf:TI:={size:=some 1,agg:=some false,rs:=some (.one (.leaf (.ptr))),zero:=some (Value.pointer none),conc:=true,isPtr:=true}
theorem Jq:aL Tryz.prog 46 Nf where
 zero:=ag (Value.pointer none) rfl (by kernel_rfl)
 conc:=am ⟨aG (Tryz.prog.underlying 46),by kernel_rfl,ar (by kernel_rfl)⟩
 isPtr:=am ⟨133,by kernel_rfl⟩
def MU:TI:={rs:=some (.tup [.leaf (.ptr),.leaf (.int .i64)])}
theorem Jw:aL Tryz.prog 47 MU where
def PQ:TI:={rs:=some (.tup [.leaf (.int .i64),.leaf (.bool)])}
theorem Jh:aL Tryz.prog 51 PQ where
def MP:TI:={size:=some 1,agg:=some false,rs:=some (.one (.leaf (.any))),zero:=some (Value.nilFunc),conc:=true}
theorem JW:aL Tryz.prog 54 MP where
 zero:=ag (Value.nilFunc) rfl (by kernel_rfl)
 conc:=am ⟨aG (Tryz.prog.underlying 54),by kernel_rfl,ar (by kernel_rfl)⟩
def O8:TI:={size:=some 1,agg:=some false,rs:=some (.one (.leaf (.slice))),zero:=some (Value.slice none 0 0),slc:=some (5,1),conc:=true,isSlc:=true}
theorem Kx:aL Tryz.prog 57 O8 where
 zero:=ag (Value.slice none 0 0) rfl (by kernel_rfl)
 slc:=bL 5 1 rfl ⟨by kernel_rfl,by kernel_rfl⟩
 conc:=am ⟨aG (Tryz.prog.underlying 57),by kernel_rfl,ar (by kernel_rfl)⟩
 isSlc:=am ⟨5,by kernel_rfl⟩
def M1:TI:={rs:=some (.tup [.leaf (.int .i64),.leaf (.int .i64)])}
theorem Jp:aL Tryz.prog 58 M1 where
def ND:TI:={size:=some 1,agg:=some false,rs:=some (.one (.leaf (.ptr))),zero:=some (Value.pointer none),conc:=true,isPtr:=true}
theorem JR:aL Tryz.prog 61 ND where
 zero:=ag (Value.pointer none) rfl (by kernel_rfl)
 conc:=am ⟨aG (Tryz.prog.underlying 61),by kernel_rfl,ar (by kernel_rfl)⟩
 isPtr:=am ⟨154,by kernel_rfl⟩
def MW:TI:={size:=some 1,agg:=some false,rs:=some (.one (.leaf (.ptr))),zero:=some (Value.pointer none),conc:=true,isPtr:=true}
theorem Jj:aL Tryz.prog 63 MW where
 zero:=ag (Value.pointer none) rfl (by kernel_rfl)
 conc:=am ⟨aG (Tryz.prog.underlying 63),by kernel_rfl,ar (by kernel_rfl)⟩
 isPtr:=am ⟨159,by kernel_rfl⟩
def NB:TI:={rs:=some (.tup [.leaf (.ptr),.leaf (.int .i64),.leaf (.int .i64)])}
theorem JS:aL Tryz.prog 68 NB where
def OK:TI:={size:=some 6,agg:=some true,rs:=some (.one (.agg [.bool,.slice,.slice,.slice,.slice,.slice])),zero:=some (Value.agg #[Value.bool false,Value.slice none 0 0,Value.slice none 0 0,Value.slice none 0 0,Value.slice none 0 0,Value.slice none 0 0]),offs:=some [(0,0,false),(1,0,false),(2,0,false),(3,0,false),(4,0,false),(5,0,false)],conc:=true}
theorem Je:aL Tryz.prog 71 OK where
 size:=ag (6) rfl (by kernel_rfl)
 agg:=ag (true) rfl (by kernel_rfl)
 zero:=ag (Value.agg #[Value.bool false,Value.slice none 0 0,Value.slice none 0 0,Value.slice none 0 0,Value.slice none 0 0,Value.slice none 0 0]) rfl (by kernel_rfl)
 offs:=ag [(0,0,false),(1,0,false),(2,0,false),(3,0,false),(4,0,false),(5,0,false)] rfl ⟨bg (Tryz.prog.underlying 71),by kernel_rfl,by kernel_rfl⟩
 conc:=am ⟨aG (Tryz.prog.underlying 71),by kernel_rfl,ar (by kernel_rfl)⟩
def N':TI:={rs:=some (.tup [.agg [.bool,.slice,.slice,.slice,.slice,.slice],.leaf (.int .i64)])}
theorem Kt:aL Tryz.prog 72 N' where
def Nu:TI:={rs:=some (.tup [.agg [.slice,.slice,.slice,.slice,.slice],.leaf (.int .i64),.leaf (.int .i64),.leaf (.int .i64)])}
theorem JQ:aL Tryz.prog 74 Nu where
def P_:TI:={size:=some 1,agg:=some false,rs:=some (.one (.leaf (.any))),zero:=some (Value.nilFunc),conc:=true}
theorem Kw:aL Tryz.prog 78 P_ where
 zero:=ag (Value.nilFunc) rfl (by kernel_rfl)
 conc:=am ⟨aG (Tryz.prog.underlying 78),by kernel_rfl,ar (by kernel_rfl)⟩
def OG:TI:={size:=some 2,agg:=some true,rs:=some (.one (.agg [.int .i64,.int .i64])),zero:=some (Value.agg #[Value.int .i64 0,Value.int .i64 0]),offs:=some [(0,0,false),(1,0,false)],eqs:=some [.i,.i],conc:=true}
theorem Kv:aL Tryz.prog 85 OG where
 size:=ag (2) rfl (by kernel_rfl)
 agg:=ag (true) rfl (by kernel_rfl)
 zero:=ag (Value.agg #[Value.int .i64 0,Value.int .i64 0]) rfl (by kernel_rfl)
 offs:=ag [(0,0,false),(1,0,false)] rfl ⟨bg (Tryz.prog.underlying 85),by kernel_rfl,by kernel_rfl⟩
 conc:=am ⟨aG (Tryz.prog.underlying 85),by kernel_rfl,ar (by kernel_rfl)⟩
 eqs:=ag [.i,.i] rfl (by kernel_rfl)
def NP:TI:={size:=some 2,agg:=some true,rs:=some (.one (.agg [.int .i64,.str])),zero:=some (Value.agg #[Value.int .i64 0,Value.string ⟨#[]⟩]),offs:=some [(0,0,false),(1,0,false)],eqs:=some [.i,.s],conc:=true}
theorem Js:aL Tryz.prog 87 NP where
 size:=ag (2) rfl (by kernel_rfl)
 agg:=ag (true) rfl (by kernel_rfl)
 zero:=ag (Value.agg #[Value.int .i64 0,Value.string ⟨#[]⟩]) rfl (by kernel_rfl)
 offs:=ag [(0,0,false),(1,0,false)] rfl ⟨bg (Tryz.prog.underlying 87),by kernel_rfl,by kernel_rfl⟩
 conc:=am ⟨aG (Tryz.prog.underlying 87),by kernel_rfl,ar (by kernel_rfl)⟩
 eqs:=ag [.i,.s] rfl (by kernel_rfl)
def NU:TI:={size:=some 3,agg:=some true,rs:=some (.one (.agg [.int .i64,.int .i64,.int .i64])),zero:=some (Value.agg #[Value.int .i64 0,Value.int .i64 0,Value.int .i64 0]),offs:=some [(0,0,false),(1,0,false),(2,0,false)],eqs:=some [.i,.i,.i],conc:=true}
theorem Ky:aL Tryz.prog 89 NU where
 size:=ag (3) rfl (by kernel_rfl)
 agg:=ag (true) rfl (by kernel_rfl)
 zero:=ag (Value.agg #[Value.int .i64 0,Value.int .i64 0,Value.int .i64 0]) rfl (by kernel_rfl)
 offs:=ag [(0,0,false),(1,0,false),(2,0,false)] rfl ⟨bg (Tryz.prog.underlying 89),by kernel_rfl,by kernel_rfl⟩
 conc:=am ⟨aG (Tryz.prog.underlying 89),by kernel_rfl,ar (by kernel_rfl)⟩
 eqs:=ag [.i,.i,.i] rfl (by kernel_rfl)
def PJ:TI:={rs:=some (.tup [.leaf (.slice),.leaf (.int .i64),.leaf (.int .i64)])}
theorem Kg:aL Tryz.prog 94 PJ where
def LY:TI:={size:=some 1,agg:=some false,rs:=some (.one (.leaf (.ptr))),zero:=some (Value.pointer none),conc:=true,isPtr:=true}
theorem G_:aL Tryz.prog 100 LY where
 zero:=ag (Value.pointer none) rfl (by kernel_rfl)
 conc:=am ⟨aG (Tryz.prog.underlying 100),by kernel_rfl,ar (by kernel_rfl)⟩
 isPtr:=am ⟨261,by kernel_rfl⟩
def Lt:TI:={size:=some 1,agg:=some false,rs:=some (.one (.leaf (.ptr))),zero:=some (Value.pointer none),conc:=true,isPtr:=true}
theorem H_:aL Tryz.prog 102 Lt where
 zero:=ag (Value.pointer none) rfl (by kernel_rfl)
 conc:=am ⟨aG (Tryz.prog.underlying 102),by kernel_rfl,ar (by kernel_rfl)⟩
 isPtr:=am ⟨288,by kernel_rfl⟩
def Lj:TI:={size:=some 1,agg:=some false,rs:=some (.one (.leaf (.ptr))),zero:=some (Value.pointer none),conc:=true,isPtr:=true}
theorem G6:aL Tryz.prog 104 Lj where
 zero:=ag (Value.pointer none) rfl (by kernel_rfl)
 conc:=am ⟨aG (Tryz.prog.underlying 104),by kernel_rfl,ar (by kernel_rfl)⟩
 isPtr:=am ⟨250,by kernel_rfl⟩
def KT:TI:={rs:=some (.tup [.leaf (.slice),.leaf (.int .i64)])}
theorem Gz:aL Tryz.prog 106 KT where
def LJ:TI:={size:=some 1,agg:=some false,rs:=some (.one (.leaf (.map))),zero:=some (Value.map none),elemSh:=some (.leaf (.int .i64)),conc:=true,isMap:=true}
theorem H':aL Tryz.prog 108 LJ where
 zero:=ag (Value.map none) rfl (by kernel_rfl)
 conc:=am ⟨aG (Tryz.prog.underlying 108),by kernel_rfl,ar (by kernel_rfl)⟩
 isMap:=am ⟨3,3,by kernel_rfl⟩
def LE:TI:={size:=some 1,agg:=some false,rs:=some (.one (.leaf (.slice))),zero:=some (Value.slice none 0 0),slc:=some (111,1),conc:=true,isSlc:=true}
theorem Iy:aL Tryz.prog 109 LE where
 zero:=ag (Value.slice none 0 0) rfl (by kernel_rfl)
 slc:=bL 111 1 rfl ⟨by kernel_rfl,by kernel_rfl⟩
 conc:=am ⟨aG (Tryz.prog.underlying 109),by kernel_rfl,ar (by kernel_rfl)⟩
 isSlc:=am ⟨111,by kernel_rfl⟩
def LF:TI:={size:=some 1,agg:=some false,rs:=some (.one (.leaf (.slice))),zero:=some (Value.slice none 0 0),slc:=some (138,1),conc:=true,isSlc:=true}
theorem GG:aL Tryz.prog 110 LF where
 zero:=ag (Value.slice none 0 0) rfl (by kernel_rfl)
 slc:=bL 138 1 rfl ⟨by kernel_rfl,by kernel_rfl⟩
 conc:=am ⟨aG (Tryz.prog.underlying 110),by kernel_rfl,ar (by kernel_rfl)⟩
 isSlc:=am ⟨138,by kernel_rfl⟩
def KN:TI:={size:=some 1,agg:=some false,rs:=some (.one (.leaf (.slice))),zero:=some (Value.slice none 0 0),slc:=some (138,1),conc:=true,isSlc:=true}
theorem GU:aL Tryz.prog 111 KN where
 zero:=ag (Value.slice none 0 0) rfl (by kernel_rfl)
 slc:=bL 138 1 rfl ⟨by kernel_rfl,by kernel_rfl⟩
 conc:=am ⟨aG (Tryz.prog.underlying 111),by kernel_rfl,ar (by kernel_rfl)⟩
 isSlc:=am ⟨138,by kernel_rfl⟩
def Lu:TI:={size:=some 4,agg:=some true,rs:=some (.one (.agg [.slice,.map,.slice,.slice])),zero:=some (Value.agg #[Value.slice none 0 0,Value.map none,Value.slice none 0 0,Value.slice none 0 0]),offs:=some [(0,0,false),(1,0,false),(2,0,false),(3,0,false)],conc:=true}
theorem Hn:aL Tryz.prog 113 Lu where
 size:=ag (4) rfl (by kernel_rfl)
 agg:=ag (true) rfl (by kernel_rfl)
 zero:=ag (Value.agg #[Value.slice none 0 0,Value.map none,Value.slice none 0 0,Value.slice none 0 0]) rfl (by kernel_rfl)
 offs:=ag [(0,0,false),(1,0,false),(2,0,false),(3,0,false)] rfl ⟨bg (Tryz.prog.underlying 113),by kernel_rfl,by kernel_rfl⟩
 conc:=am ⟨aG (Tryz.prog.underlying 113),by kernel_rfl,ar (by kernel_rfl)⟩
def KK:TI:={size:=some 1,agg:=some false,rs:=some (.one (.leaf (.slice))),zero:=some (Value.slice none 0 0),slc:=some (28,1),conc:=true,isSlc:=true}
theorem GQ:aL Tryz.prog 116 KK where
 zero:=ag (Value.slice none 0 0) rfl (by kernel_rfl)
 slc:=bL 28 1 rfl ⟨by kernel_rfl,by kernel_rfl⟩
 conc:=am ⟨aG (Tryz.prog.underlying 116),by kernel_rfl,ar (by kernel_rfl)⟩
 isSlc:=am ⟨28,by kernel_rfl⟩
def Lm:TI:={size:=some 1,agg:=some false,rs:=some (.one (.leaf (.slice))),zero:=some (Value.slice none 0 0),slc:=some (4,1),conc:=true,isSlc:=true}
theorem Hl:aL Tryz.prog 117 Lm where
 zero:=ag (Value.slice none 0 0) rfl (by kernel_rfl)
 slc:=bL 4 1 rfl ⟨by kernel_rfl,by kernel_rfl⟩
 conc:=am ⟨aG (Tryz.prog.underlying 117),by kernel_rfl,ar (by kernel_rfl)⟩
 isSlc:=am ⟨4,by kernel_rfl⟩
def Mb:TI:={size:=some 4,agg:=some true,rs:=some (.one (.agg [.int .u32,.int .i32,.int .u32,.slice])),zero:=some (Value.agg #[Value.int .u32 0,Value.int .i32 0,Value.int .u32 0,Value.slice none 0 0]),offs:=some [(0,2,true),(3,0,false)],conc:=true}
theorem IA:aL Tryz.prog 131 Mb where
 size:=ag (4) rfl (by kernel_rfl)
 agg:=ag (true) rfl (by kernel_rfl)
 zero:=ag (Value.agg #[Value.int .u32 0,Value.int .i32 0,Value.int .u32 0,Value.slice none 0 0]) rfl (by kernel_rfl)
 offs:=ag [(0,2,true),(3,0,false)] rfl ⟨bg (Tryz.prog.underlying 131),by kernel_rfl,by kernel_rfl⟩
 conc:=am ⟨aG (Tryz.prog.underlying 131),by kernel_rfl,ar (by kernel_rfl)⟩
def LX:TI:={size:=some 7,agg:=some true,rs:=some (.one (.agg [.ptr,.slice,.slice,.int .u32,.int .i32,.int .u32,.slice])),zero:=some (Value.agg #[Value.pointer none,Value.slice none 0 0,Value.slice none 0 0,Value.int .u32 0,Value.int .i32 0,Value.int .u32 0,Value.slice none 0 0]),offs:=some [(0,0,false),(1,0,false),(2,0,false),(3,3,true)],conc:=true}
theorem H2:aL Tryz.prog 133 LX where
 size:=ag (7) rfl (by kernel_rfl)
 agg:=ag (true) rfl (by kernel_rfl)
 zero:=ag (Value.agg #[Value.pointer none,Value.slice none 0 0,Value.slice none 0 0,Value.int .u32 0,Value.int .i32 0,Value.int .u32 0,Value.slice none 0 0]) rfl (by kernel_rfl)
 offs:=ag [(0,0,false),(1,0,false),(2,0,false),(3,3,true)] rfl ⟨bg (Tryz.prog.underlying 133),by kernel_rfl,by kernel_rfl⟩
 conc:=am ⟨aG (Tryz.prog.underlying 133),by kernel_rfl,ar (by kernel_rfl)⟩
def K9:TI:={size:=some 1,agg:=some false,rs:=some (.one (.leaf (.any))),zero:=some (Value.nilFunc),conc:=true}
theorem GL:aL Tryz.prog 135 K9 where
 zero:=ag (Value.nilFunc) rfl (by kernel_rfl)
 conc:=am ⟨aG (Tryz.prog.underlying 135),by kernel_rfl,ar (by kernel_rfl)⟩
def L2:TI:={size:=some 1,agg:=some false,rs:=some (.one (.leaf (.int .u64))),zero:=some (Value.int .u64 0),intk:=some .u64,conc:=true}
theorem Im:aL Tryz.prog 138 L2 where
 zero:=ag (Value.int .u64 0) rfl (by kernel_rfl)
 intk:=ag (IntKind.u64) rfl (by kernel_rfl)
 conc:=am ⟨aG (Tryz.prog.underlying 138),by kernel_rfl,ar (by kernel_rfl)⟩
def LR:TI:={rs:=some (.tup [.leaf (.slice),.leaf (.map)])}
theorem HG:aL Tryz.prog 140 LR where
def Ll:TI:={size:=some 1,agg:=some true,rs:=some (.one (.agg [.ptr])),zero:=some (Value.agg #[Value.pointer none]),offs:=some [(0,0,false)],conc:=true}
theorem Hi:aL Tryz.prog 144 Ll where
 agg:=ag (true) rfl (by kernel_rfl)
 zero:=ag (Value.agg #[Value.pointer none]) rfl (by kernel_rfl)
 offs:=ag [(0,0,false)] rfl ⟨bg (Tryz.prog.underlying 144),by kernel_rfl,by kernel_rfl⟩
 conc:=am ⟨aG (Tryz.prog.underlying 144),by kernel_rfl,ar (by kernel_rfl)⟩
def K0:TI:={size:=some 1,agg:=some true,rs:=some (.one (.agg [.ptr])),zero:=some (Value.agg #[Value.pointer none]),offs:=some [(0,0,false)],conc:=true}
theorem IV:aL Tryz.prog 145 K0 where
 agg:=ag (true) rfl (by kernel_rfl)
 zero:=ag (Value.agg #[Value.pointer none]) rfl (by kernel_rfl)
 offs:=ag [(0,0,false)] rfl ⟨bg (Tryz.prog.underlying 145),by kernel_rfl,by kernel_rfl⟩
 conc:=am ⟨aG (Tryz.prog.underlying 145),by kernel_rfl,ar (by kernel_rfl)⟩
def Lh:TI:={size:=some 1,agg:=some false,rs:=some (.one (.leaf (.any))),zero:=some (Value.nilIface)}
theorem GE:aL Tryz.prog 147 Lh where
 zero:=ag (Value.nilIface) rfl (by kernel_rfl)
def Lv:TI:={size:=some 2,agg:=some true,rs:=some (.one (.agg [.slice,.slice])),zero:=some (Value.agg #[Value.slice none 0 0,Value.slice none 0 0]),offs:=some [(0,0,false),(1,0,false)],conc:=true}
theorem H1:aL Tryz.prog 151 Lv where
 size:=ag (2) rfl (by kernel_rfl)
 agg:=ag (true) rfl (by kernel_rfl)
 zero:=ag (Value.agg #[Value.slice none 0 0,Value.slice none 0 0]) rfl (by kernel_rfl)
 offs:=ag [(0,0,false),(1,0,false)] rfl ⟨bg (Tryz.prog.underlying 151),by kernel_rfl,by kernel_rfl⟩
 conc:=am ⟨aG (Tryz.prog.underlying 151),by kernel_rfl,ar (by kernel_rfl)⟩
def LO:TI:={size:=some 1,agg:=some false,rs:=some (.one (.leaf (.slice))),zero:=some (Value.slice none 0 0),slc:=some (117,1),conc:=true,isSlc:=true}
theorem IN:aL Tryz.prog 152 LO where
 zero:=ag (Value.slice none 0 0) rfl (by kernel_rfl)
 slc:=bL 117 1 rfl ⟨by kernel_rfl,by kernel_rfl⟩
 conc:=am ⟨aG (Tryz.prog.underlying 152),by kernel_rfl,ar (by kernel_rfl)⟩
 isSlc:=am ⟨117,by kernel_rfl⟩
def Md:TI:={size:=some 7,agg:=some true,rs:=some (.one (.agg [.ptr,.slice,.slice,.slice,.slice,.slice,.slice])),zero:=some (Value.agg #[Value.pointer none,Value.slice none 0 0,Value.slice none 0 0,Value.slice none 0 0,Value.slice none 0 0,Value.slice none 0 0,Value.slice none 0 0]),offs:=some [(0,0,false),(1,1,true),(3,1,true),(5,0,false),(6,0,false)],conc:=true}
theorem Gs:aL Tryz.prog 154 Md where
 size:=ag (7) rfl (by kernel_rfl)
 agg:=ag (true) rfl (by kernel_rfl)
 zero:=ag (Value.agg #[Value.pointer none,Value.slice none 0 0,Value.slice none 0 0,Value.slice none 0 0,Value.slice none 0 0,Value.slice none 0 0,Value.slice none 0 0]) rfl (by kernel_rfl)
 offs:=ag [(0,0,false),(1,1,true),(3,1,true),(5,0,false),(6,0,false)] rfl ⟨bg (Tryz.prog.underlying 154),by kernel_rfl,by kernel_rfl⟩
 conc:=am ⟨aG (Tryz.prog.underlying 154),by kernel_rfl,ar (by kernel_rfl)⟩
def KX:TI:={size:=some 1,agg:=some false,rs:=some (.one (.leaf (.any))),zero:=some (Value.nilFunc),conc:=true}
theorem Hz:aL Tryz.prog 157 KX where
 zero:=ag (Value.nilFunc) rfl (by kernel_rfl)
 conc:=am ⟨aG (Tryz.prog.underlying 157),by kernel_rfl,ar (by kernel_rfl)⟩
def Lx:TI:={size:=some 4,agg:=some true,rs:=some (.one (.agg [.ptr,.slice,.int .i64,.int .i64])),zero:=some (Value.agg #[Value.pointer none,Value.slice none 0 0,Value.int .i64 0,Value.int .i64 0]),offs:=some [(0,0,false),(1,0,false),(2,0,false),(3,0,false)],conc:=true}
theorem GO:aL Tryz.prog 159 Lx where
 size:=ag (4) rfl (by kernel_rfl)
 agg:=ag (true) rfl (by kernel_rfl)
 zero:=ag (Value.agg #[Value.pointer none,Value.slice none 0 0,Value.int .i64 0,Value.int .i64 0]) rfl (by kernel_rfl)
 offs:=ag [(0,0,false),(1,0,false),(2,0,false),(3,0,false)] rfl ⟨bg (Tryz.prog.underlying 159),by kernel_rfl,by kernel_rfl⟩
 conc:=am ⟨aG (Tryz.prog.underlying 159),by kernel_rfl,ar (by kernel_rfl)⟩
def Lk:TI:={rs:=some (.tup [.agg [.bool,.slice,.slice,.slice,.slice,.slice],.leaf (.int .i64),.leaf (.int .i64)])}
theorem Ir:aL Tryz.prog 162 Lk where
def Ma:TI:={size:=some 1,agg:=some false,rs:=some (.one (.leaf (.int .i64))),zero:=some (Value.int .i64 0),intk:=some .i64,conc:=true}
theorem Id:aL Tryz.prog 164 Ma where
 zero:=ag (Value.int .i64 0) rfl (by kernel_rfl)
 intk:=ag (IntKind.i64) rfl (by kernel_rfl)
 conc:=am ⟨aG (Tryz.prog.underlying 164),by kernel_rfl,ar (by kernel_rfl)⟩
def Me:TI:={rs:=some (.tup [.leaf (.ptr),.leaf (.int .i64),.leaf (.int .i64),.leaf (.int .i64)])}
theorem G1:aL Tryz.prog 165 Me where
def KU:TI:={size:=some 2,agg:=some true,rs:=some (.one (.agg [.int .i64,.int .i64])),zero:=some (Value.agg #[Value.int .i64 0,Value.int .i64 0]),offs:=some [(0,0,false),(1,0,false)],eqs:=some [.i,.i],conc:=true}
theorem Is:aL Tryz.prog 170 KU where
 size:=ag (2) rfl (by kernel_rfl)
 agg:=ag (true) rfl (by kernel_rfl)
 zero:=ag (Value.agg #[Value.int .i64 0,Value.int .i64 0]) rfl (by kernel_rfl)
 offs:=ag [(0,0,false),(1,0,false)] rfl ⟨bg (Tryz.prog.underlying 170),by kernel_rfl,by kernel_rfl⟩
 conc:=am ⟨aG (Tryz.prog.underlying 170),by kernel_rfl,ar (by kernel_rfl)⟩
 eqs:=ag [.i,.i] rfl (by kernel_rfl)
def LV:TI:={rs:=some (.tup [.agg [.slice,.slice],.leaf (.int .i64),.leaf (.int .i64)])}
theorem GP:aL Tryz.prog 172 LV where
def LK:TI:={rs:=some (.tup [.leaf (.int .i64),.leaf (.int .i64)])}
theorem GN:aL Tryz.prog 174 LK where
def L6:TI:={size:=some 9,agg:=some true,rs:=some (.one (.agg [.bool,.slice,.slice,.slice,.slice,.slice,.ptr,.ptr,.ptr])),zero:=some (Value.agg #[Value.bool false,Value.slice none 0 0,Value.slice none 0 0,Value.slice none 0 0,Value.slice none 0 0,Value.slice none 0 0,Value.pointer none,Value.pointer none,Value.pointer none]),offs:=some [(0,5,true),(6,0,false),(7,0,false),(8,0,false)],conc:=true}
theorem It:aL Tryz.prog 179 L6 where
 size:=ag (9) rfl (by kernel_rfl)
 agg:=ag (true) rfl (by kernel_rfl)
 zero:=ag (Value.agg #[Value.bool false,Value.slice none 0 0,Value.slice none 0 0,Value.slice none 0 0,Value.slice none 0 0,Value.slice none 0 0,Value.pointer none,Value.pointer none,Value.pointer none]) rfl (by kernel_rfl)
 offs:=ag [(0,5,true),(6,0,false),(7,0,false),(8,0,false)] rfl ⟨bg (Tryz.prog.underlying 179),by kernel_rfl,by kernel_rfl⟩
 conc:=am ⟨aG (Tryz.prog.underlying 179),by kernel_rfl,ar (by kernel_rfl)⟩
def K7:TI:={size:=some 4,agg:=some true,rs:=some (.one (.agg [.int .u32,.int .i32,.int .u32,.slice])),zero:=some (Value.agg #[Value.int .u32 0,Value.int .i32 0,Value.int .u32 0,Value.slice none 0 0]),offs:=some [(0,2,true),(3,0,false)],conc:=true}
theorem Ie:aL Tryz.prog 181 K7 where
 size:=ag (4) rfl (by kernel_rfl)
 agg:=ag (true) rfl (by kernel_rfl)
 zero:=ag (Value.agg #[Value.int .u32 0,Value.int .i32 0,Value.int .u32 0,Value.slice none 0 0]) rfl (by kernel_rfl)
 offs:=ag [(0,2,true),(3,0,false)] rfl ⟨bg (Tryz.prog.underlying 181),by kernel_rfl,by kernel_rfl⟩
 conc:=am ⟨aG (Tryz.prog.underlying 181),by kernel_rfl,ar (by kernel_rfl)⟩
def KQ:TI:={size:=some 14,agg:=some true,rs:=some (.one (.agg [.bool,.slice,.slice,.slice,.slice,.slice,.ptr,.ptr,.ptr,.int .u32,.int .i32,.int .u32,.slice,.int .i64])),zero:=some (Value.agg #[Value.bool false,Value.slice none 0 0,Value.slice none 0 0,Value.slice none 0 0,Value.slice none 0 0,Value.slice none 0 0,Value.pointer none,Value.pointer none,Value.pointer none,Value.int .u32 0,Value.int .i32 0,Value.int .u32 0,Value.slice none 0 0,Value.int .i64 0]),offs:=some [(0,8,true),(9,3,true),(13,0,true)],conc:=true}
theorem IQ:aL Tryz.prog 186 KQ where
 size:=ag (14) rfl (by kernel_rfl)
 agg:=ag (true) rfl (by kernel_rfl)
 zero:=ag (Value.agg #[Value.bool false,Value.slice none 0 0,Value.slice none 0 0,Value.slice none 0 0,Value.slice none 0 0,Value.slice none 0 0,Value.pointer none,Value.pointer none,Value.pointer none,Value.int .u32 0,Value.int .i32 0,Value.int .u32 0,Value.slice none 0 0,Value.int .i64 0]) rfl (by kernel_rfl)
 offs:=ag [(0,8,true),(9,3,true),(13,0,true)] rfl ⟨bg (Tryz.prog.underlying 186),by kernel_rfl,by kernel_rfl⟩
 conc:=am ⟨aG (Tryz.prog.underlying 186),by kernel_rfl,ar (by kernel_rfl)⟩
def L7:TI:={rs:=some (.tup [.leaf (.slice),.leaf (.bool)])}
theorem HJ:aL Tryz.prog 194 L7 where
def K3:TI:={size:=some 1,agg:=some false,rs:=some (.one (.leaf (.any))),zero:=some (Value.nilFunc),conc:=true}
theorem HH:aL Tryz.prog 199 K3 where
 zero:=ag (Value.nilFunc) rfl (by kernel_rfl)
 conc:=am ⟨aG (Tryz.prog.underlying 199),by kernel_rfl,ar (by kernel_rfl)⟩
def LA:TI:={size:=some 1,agg:=some false,rs:=some (.one (.leaf (.int .u64))),zero:=some (Value.int .u64 0),intk:=some .u64,conc:=true}
theorem GF:aL Tryz.prog 202 LA where
 zero:=ag (Value.int .u64 0) rfl (by kernel_rfl)
 intk:=ag (IntKind.u64) rfl (by kernel_rfl)
 conc:=am ⟨aG (Tryz.prog.underlying 202),by kernel_rfl,ar (by kernel_rfl)⟩
def Lr:TI:={rs:=some (.tup [.leaf (.int .u64),.leaf (.int .u64)])}
theorem I9:aL Tryz.prog 203 Lr where
def KS:TI:={size:=some 1,agg:=some false,rs:=some (.one (.leaf (.map))),zero:=some (Value.map none),elemSh:=some (.leaf (.int .i64)),conc:=true,isMap:=true}
theorem G':aL Tryz.prog 205 KS where
 zero:=ag (Value.map none) rfl (by kernel_rfl)
 conc:=am ⟨aG (Tryz.prog.underlying 205),by kernel_rfl,ar (by kernel_rfl)⟩
 isMap:=am ⟨9,3,by kernel_rfl⟩
def KG:TI:={rs:=some (.tup [.leaf (.slice),.leaf (.bool)])}
theorem GR:aL Tryz.prog 207 KG where
def Li:TI:={size:=some 1,agg:=some false,rs:=some (.one (.leaf (.ptr))),zero:=some (Value.pointer none),conc:=true,isPtr:=true}
theorem H3:aL Tryz.prog 209 Li where
 zero:=ag (Value.pointer none) rfl (by kernel_rfl)
 conc:=am ⟨aG (Tryz.prog.underlying 209),by kernel_rfl,ar (by kernel_rfl)⟩
 isPtr:=am ⟨211,by kernel_rfl⟩
def LZ:TI:={size:=some 7,agg:=some true,rs:=some (.one (.agg [.bool,.slice,.slice,.slice,.slice,.slice,.int .i64])),zero:=some (Value.agg #[Value.bool false,Value.slice none 0 0,Value.slice none 0 0,Value.slice none 0 0,Value.slice none 0 0,Value.slice none 0 0,Value.int .i64 0]),offs:=some [(0,5,true),(6,0,false)],conc:=true}
theorem GH:aL Tryz.prog 211 LZ where
 size:=ag (7) rfl (by kernel_rfl)
 agg:=ag (true) rfl (by kernel_rfl)
 zero:=ag (Value.agg #[Value.bool false,Value.slice none 0 0,Value.slice none 0 0,Value.slice none 0 0,Value.slice none 0 0,Value.slice none 0 0,Value.int .i64 0]) rfl (by kernel_rfl)
 offs:=ag [(0,5,true),(6,0,false)] rfl ⟨bg (Tryz.prog.underlying 211),by kernel_rfl,by kernel_rfl⟩
 conc:=am ⟨aG (Tryz.prog.underlying 211),by kernel_rfl,ar (by kernel_rfl)⟩
def LI:TI:={rs:=some (.tup [.leaf (.ptr),.leaf (.int .i64),.leaf (.int .i64)])}
theorem GB:aL Tryz.prog 213 LI where
def L4:TI:={rs:=some (.tup [.leaf (.ptr),.leaf (.int .i64),.leaf (.int .i64)])}
theorem H5:aL Tryz.prog 215 L4 where
def K4:TI:={size:=some 1,agg:=some false,rs:=some (.one (.leaf (.any))),zero:=some (Value.nilFunc),conc:=true}
theorem Hs:aL Tryz.prog 218 K4 where
 zero:=ag (Value.nilFunc) rfl (by kernel_rfl)
 conc:=am ⟨aG (Tryz.prog.underlying 218),by kernel_rfl,ar (by kernel_rfl)⟩
def K1:TI:={rs:=some (.tup [.leaf (.ptr),.leaf (.int .i64)])}
theorem Iu:aL Tryz.prog 219 K1 where
def KZ:TI:={rs:=some (.tup [.leaf (.str),.leaf (.bool)])}
theorem H8:aL Tryz.prog 222 KZ where
def Mf:TI:={size:=some 1,agg:=some false,rs:=some (.one (.leaf (.any))),zero:=some (Value.nilFunc),conc:=true}
theorem GI:aL Tryz.prog 234 Mf where
 zero:=ag (Value.nilFunc) rfl (by kernel_rfl)
 conc:=am ⟨aG (Tryz.prog.underlying 234),by kernel_rfl,ar (by kernel_rfl)⟩
def Lz:TI:={size:=some 1,agg:=some false,rs:=some (.one (.leaf (.any))),zero:=some (Value.nilFunc),conc:=true}
theorem ID:aL Tryz.prog 238 Lz where
 zero:=ag (Value.nilFunc) rfl (by kernel_rfl)
 conc:=am ⟨aG (Tryz.prog.underlying 238),by kernel_rfl,ar (by kernel_rfl)⟩
def K5:TI:={size:=some 1,agg:=some false,rs:=some (.one (.leaf (.any))),zero:=some (Value.nilFunc),conc:=true}
theorem H7:aL Tryz.prog 240 K5 where
 zero:=ag (Value.nilFunc) rfl (by kernel_rfl)
 conc:=am ⟨aG (Tryz.prog.underlying 240),by kernel_rfl,ar (by kernel_rfl)⟩
def LD:TI:={size:=some 1,agg:=some false,rs:=some (.one (.leaf (.int .u16))),zero:=some (Value.int .u16 0),intk:=some .u16,conc:=true}
theorem HO:aL Tryz.prog 242 LD where
 zero:=ag (Value.int .u16 0) rfl (by kernel_rfl)
 intk:=ag (IntKind.u16) rfl (by kernel_rfl)
 conc:=am ⟨aG (Tryz.prog.underlying 242),by kernel_rfl,ar (by kernel_rfl)⟩
def KO:TI:={rs:=some (.tup [.agg [.slice,.slice],.leaf (.int .i64)])}
theorem GS:aL Tryz.prog 243 KO where
def LS:TI:={size:=some 256,agg:=some true,zero:=some (Value.agg (List.toArray (List.replicate 256 (Value.bool false)))),arr:=some (256,1),conc:=true}
theorem IS:aL Tryz.prog 248 LS where
 size:=ag (256) rfl (by kernel_rfl)
 agg:=ag (true) rfl (by kernel_rfl)
 zero:=ag (Value.agg (List.toArray (List.replicate 256 (Value.bool false)))) rfl (by kernel_rfl)
 arr:=bL 256 1 rfl ⟨4,by kernel_rfl,by kernel_rfl⟩
 conc:=am ⟨aG (Tryz.prog.underlying 248),by kernel_rfl,ar (by kernel_rfl)⟩
def Le:TI:={size:=some 260,agg:=some true,zero:=some (Value.agg (List.toArray ([Value.slice none 0 0,Value.map none,Value.map none]++List.replicate 256 (Value.bool false)++ [Value.int .i64 0]))),offs:=some [(0,0,false),(1,0,false),(2,0,false),(3,255,true),(259,0,false)],conc:=true}
theorem IC:aL Tryz.prog 250 Le where
 size:=ag (260) rfl (by kernel_rfl)
 agg:=ag (true) rfl (by kernel_rfl)
 zero:=ag (Value.agg (List.toArray ([Value.slice none 0 0,Value.map none,Value.map none]++List.replicate 256 (Value.bool false)++ [Value.int .i64 0]))) rfl (by kernel_rfl)
 offs:=ag [(0,0,false),(1,0,false),(2,0,false),(3,255,true),(259,0,false)] rfl ⟨bg (Tryz.prog.underlying 250),by kernel_rfl,by kernel_rfl⟩
 conc:=am ⟨aG (Tryz.prog.underlying 250),by kernel_rfl,ar (by kernel_rfl)⟩
def LP:TI:={size:=some 1,agg:=some false,rs:=some (.one (.leaf (.slice))),zero:=some (Value.slice none 0 0),slc:=some (300,3),conc:=true,isSlc:=true}
theorem Iw:aL Tryz.prog 258 LP where
 zero:=ag (Value.slice none 0 0) rfl (by kernel_rfl)
 slc:=bL 300 3 rfl ⟨by kernel_rfl,by kernel_rfl⟩
 conc:=am ⟨aG (Tryz.prog.underlying 258),by kernel_rfl,ar (by kernel_rfl)⟩
 isSlc:=am ⟨300,by kernel_rfl⟩
def Ld:TI:={size:=some 1,agg:=some false,rs:=some (.one (.leaf (.map))),zero:=some (Value.map none),elemSh:=some (.leaf (.int .i64)),conc:=true,isMap:=true}
theorem HF:aL Tryz.prog 259 Ld where
 zero:=ag (Value.map none) rfl (by kernel_rfl)
 conc:=am ⟨aG (Tryz.prog.underlying 259),by kernel_rfl,ar (by kernel_rfl)⟩
 isMap:=am ⟨85,3,by kernel_rfl⟩
def KY:TI:={size:=some 4,agg:=some true,rs:=some (.one (.agg [.slice,.map,.map,.int .i64])),zero:=some (Value.agg #[Value.slice none 0 0,Value.map none,Value.map none,Value.int .i64 0]),offs:=some [(0,0,false),(1,0,false),(2,0,false),(3,0,false)],conc:=true}
theorem IJ:aL Tryz.prog 261 KY where
 size:=ag (4) rfl (by kernel_rfl)
 agg:=ag (true) rfl (by kernel_rfl)
 zero:=ag (Value.agg #[Value.slice none 0 0,Value.map none,Value.map none,Value.int .i64 0]) rfl (by kernel_rfl)
 offs:=ag [(0,0,false),(1,0,false),(2,0,false),(3,0,false)] rfl ⟨bg (Tryz.prog.underlying 261),by kernel_rfl,by kernel_rfl⟩
 conc:=am ⟨aG (Tryz.prog.underlying 261),by kernel_rfl,ar (by kernel_rfl)⟩
def Lp:TI:={rs:=some (.tup [.agg [.int .i64,.str],.leaf (.bool)])}
theorem Hy:aL Tryz.prog 265 Lp where
def Lq:TI:={rs:=some (.tup [.leaf (.int .u64),.leaf (.int .u64)])}
theorem HV:aL Tryz.prog 272 Lq where
def KD:TI:={rs:=some (.tup [.leaf (.slice),.leaf (.int .i64)])}
theorem Hc:aL Tryz.prog 274 KD where
def L1:TI:={rs:=some (.tup [.leaf (.str),.leaf (.str),.leaf (.bool)])}
theorem Hu:aL Tryz.prog 278 L1 where
def L3:TI:={size:=some 256,agg:=some true,zero:=some (Value.agg (List.toArray (List.replicate 256 (Value.int .i64 0)))),arr:=some (256,1),conc:=true}
theorem I8:aL Tryz.prog 284 L3 where
 size:=ag (256) rfl (by kernel_rfl)
 agg:=ag (true) rfl (by kernel_rfl)
 zero:=ag (Value.agg (List.toArray (List.replicate 256 (Value.int .i64 0)))) rfl (by kernel_rfl)
 arr:=bL 256 1 rfl ⟨3,by kernel_rfl,by kernel_rfl⟩
 conc:=am ⟨aG (Tryz.prog.underlying 284),by kernel_rfl,ar (by kernel_rfl)⟩
def KJ:TI:={size:=some 16,agg:=some true,rs:=some (.one (.agg [.bool,.bool,.bool,.bool,.bool,.bool,.bool,.bool,.bool,.bool,.bool,.bool,.bool,.bool,.bool,.bool])),zero:=some (Value.agg #[Value.bool false,Value.bool false,Value.bool false,Value.bool false,Value.bool false,Value.bool false,Value.bool false,Value.bool false,Value.bool false,Value.bool false,Value.bool false,Value.bool false,Value.bool false,Value.bool false,Value.bool false,Value.bool false]),arr:=some (16,1),conc:=true}
theorem HP:aL Tryz.prog 285 KJ where
 size:=ag (16) rfl (by kernel_rfl)
 agg:=ag (true) rfl (by kernel_rfl)
 zero:=ag (Value.agg #[Value.bool false,Value.bool false,Value.bool false,Value.bool false,Value.bool false,Value.bool false,Value.bool false,Value.bool false,Value.bool false,Value.bool false,Value.bool false,Value.bool false,Value.bool false,Value.bool false,Value.bool false,Value.bool false]) rfl (by kernel_rfl)
 arr:=bL 16 1 rfl ⟨4,by kernel_rfl,by kernel_rfl⟩
 conc:=am ⟨aG (Tryz.prog.underlying 285),by kernel_rfl,ar (by kernel_rfl)⟩
def L9:TI:={size:=some 256,agg:=some true,zero:=some (Value.agg (List.toArray (List.replicate 256 (Value.bool false)))),arr:=some (16,16),conc:=true}
theorem Hx:aL Tryz.prog 286 L9 where
 size:=ag (256) rfl (by kernel_rfl)
 agg:=ag (true) rfl (by kernel_rfl)
 zero:=ag (Value.agg (List.toArray (List.replicate 256 (Value.bool false)))) rfl (by kernel_rfl)
 arr:=bL 16 16 rfl ⟨285,by kernel_rfl,by kernel_rfl⟩
 conc:=am ⟨aG (Tryz.prog.underlying 286),by kernel_rfl,ar (by kernel_rfl)⟩
def L':TI:={size:=some 512,agg:=some true,zero:=some (Value.agg (List.toArray (List.replicate 256 (Value.int .i64 0)++List.replicate 256 (Value.bool false)))),offs:=some [(0,255,true),(256,255,true)],conc:=true}
theorem Ip:aL Tryz.prog 288 L' where
 size:=ag (512) rfl (by kernel_rfl)
 agg:=ag (true) rfl (by kernel_rfl)
 zero:=ag (Value.agg (List.toArray (List.replicate 256 (Value.int .i64 0)++List.replicate 256 (Value.bool false)))) rfl (by kernel_rfl)
 offs:=ag [(0,255,true),(256,255,true)] rfl ⟨bg (Tryz.prog.underlying 288),by kernel_rfl,by kernel_rfl⟩
 conc:=am ⟨aG (Tryz.prog.underlying 288),by kernel_rfl,ar (by kernel_rfl)⟩
def Mc:TI:={size:=some 3,agg:=some true,rs:=some (.one (.agg [.str,.int .i64,.int .i64])),zero:=some (Value.agg #[Value.string ⟨#[]⟩,Value.int .i64 0,Value.int .i64 0]),offs:=some [(0,0,false),(1,1,true)],conc:=true}
theorem HL:aL Tryz.prog 300 Mc where
 size:=ag (3) rfl (by kernel_rfl)
 agg:=ag (true) rfl (by kernel_rfl)
 zero:=ag (Value.agg #[Value.string ⟨#[]⟩,Value.int .i64 0,Value.int .i64 0]) rfl (by kernel_rfl)
 offs:=ag [(0,0,false),(1,1,true)] rfl ⟨bg (Tryz.prog.underlying 300),by kernel_rfl,by kernel_rfl⟩
 conc:=am ⟨aG (Tryz.prog.underlying 300),by kernel_rfl,ar (by kernel_rfl)⟩
def KL:TI:={size:=some 1,agg:=some false,rs:=some (.one (.leaf (.int .i64))),zero:=some (Value.int .i64 0),intk:=some .i64,conc:=true}
theorem G9:aL Tryz.prog 303 KL where
 zero:=ag (Value.int .i64 0) rfl (by kernel_rfl)
 intk:=ag (IntKind.i64) rfl (by kernel_rfl)
 conc:=am ⟨aG (Tryz.prog.underlying 303),by kernel_rfl,ar (by kernel_rfl)⟩
def LH:TI:={rs:=some (.tup [.leaf (.int .i64),.leaf (.int .i64)])}
theorem HQ:aL Tryz.prog 304 LH where
def KR:TI:={size:=some 1,agg:=some false,rs:=some (.one (.leaf (.ptr))),zero:=some (Value.pointer none),conc:=true,isPtr:=true}
theorem Hh:aL Tryz.prog 315 KR where
 zero:=ag (Value.pointer none) rfl (by kernel_rfl)
 conc:=am ⟨aG (Tryz.prog.underlying 315),by kernel_rfl,ar (by kernel_rfl)⟩
 isPtr:=am ⟨343,by kernel_rfl⟩
def LN:TI:={size:=some 1,agg:=some false,rs:=some (.one (.leaf (.map))),zero:=some (Value.map none),elemSh:=some (.leaf (.int .i64)),conc:=true,isMap:=true}
theorem Jb:aL Tryz.prog 317 LN where
 zero:=ag (Value.map none) rfl (by kernel_rfl)
 conc:=am ⟨aG (Tryz.prog.underlying 317),by kernel_rfl,ar (by kernel_rfl)⟩
 isMap:=am ⟨4,3,by kernel_rfl⟩
def KH:TI:={rs:=some (.tup [.agg [.int .i64,.int .i64],.leaf (.bool)])}
theorem Gr:aL Tryz.prog 320 KH where
def La:TI:={size:=some 1,agg:=some false,rs:=some (.one (.leaf (.ptr))),zero:=some (Value.pointer none),conc:=true,isPtr:=true}
theorem IW:aL Tryz.prog 330 La where
 zero:=ag (Value.pointer none) rfl (by kernel_rfl)
 conc:=am ⟨aG (Tryz.prog.underlying 330),by kernel_rfl,ar (by kernel_rfl)⟩
 isPtr:=am ⟨360,by kernel_rfl⟩
def Lo:TI:={size:=some 1,agg:=some false,rs:=some (.one (.leaf (.ptr))),zero:=some (Value.pointer none),conc:=true,isPtr:=true}
theorem IB:aL Tryz.prog 336 Lo where
 zero:=ag (Value.pointer none) rfl (by kernel_rfl)
 conc:=am ⟨aG (Tryz.prog.underlying 336),by kernel_rfl,ar (by kernel_rfl)⟩
 isPtr:=am ⟨3,by kernel_rfl⟩
def K2:TI:={size:=some 2,agg:=some true,rs:=some (.one (.agg [.int .i64,.int .i64])),zero:=some (Value.agg #[Value.int .i64 0,Value.int .i64 0]),offs:=some [(0,1,true)],conc:=true}
theorem IZ:aL Tryz.prog 341 K2 where
 size:=ag (2) rfl (by kernel_rfl)
 agg:=ag (true) rfl (by kernel_rfl)
 zero:=ag (Value.agg #[Value.int .i64 0,Value.int .i64 0]) rfl (by kernel_rfl)
 offs:=ag [(0,1,true)] rfl ⟨bg (Tryz.prog.underlying 341),by kernel_rfl,by kernel_rfl⟩
 conc:=am ⟨aG (Tryz.prog.underlying 341),by kernel_rfl,ar (by kernel_rfl)⟩
def KC:TI:={size:=some 5,agg:=some true,rs:=some (.one (.agg [.int .i64,.int .i64,.ptr,.int .i64,.int .i64])),zero:=some (Value.agg #[Value.int .i64 0,Value.int .i64 0,Value.pointer none,Value.int .i64 0,Value.int .i64 0]),offs:=some [(0,1,true),(2,0,false),(3,0,false),(4,0,false)],conc:=true}
theorem Gt:aL Tryz.prog 343 KC where
 size:=ag (5) rfl (by kernel_rfl)
 agg:=ag (true) rfl (by kernel_rfl)
 zero:=ag (Value.agg #[Value.int .i64 0,Value.int .i64 0,Value.pointer none,Value.int .i64 0,Value.int .i64 0]) rfl (by kernel_rfl)
 offs:=ag [(0,1,true),(2,0,false),(3,0,false),(4,0,false)] rfl ⟨bg (Tryz.prog.underlying 343),by kernel_rfl,by kernel_rfl⟩
 conc:=am ⟨aG (Tryz.prog.underlying 343),by kernel_rfl,ar (by kernel_rfl)⟩
def LB:TI:={size:=some 1,agg:=some false,rs:=some (.one (.leaf (.ptr))),zero:=some (Value.pointer none),conc:=true,isPtr:=true}
theorem IL:aL Tryz.prog 354 LB where
 zero:=ag (Value.pointer none) rfl (by kernel_rfl)
 conc:=am ⟨aG (Tryz.prog.underlying 354),by kernel_rfl,ar (by kernel_rfl)⟩
 isPtr:=am ⟨379,by kernel_rfl⟩
def L0:TI:={size:=some 3,agg:=some true,rs:=some (.one (.agg [.int .i64,.int .i64,.int .i64])),zero:=some (Value.agg #[Value.int .i64 0,Value.int .i64 0,Value.int .i64 0]),offs:=some [(0,0,false),(1,1,true)],conc:=true}
theorem Ht:aL Tryz.prog 357 L0 where
 size:=ag (3) rfl (by kernel_rfl)
 agg:=ag (true) rfl (by kernel_rfl)
 zero:=ag (Value.agg #[Value.int .i64 0,Value.int .i64 0,Value.int .i64 0]) rfl (by kernel_rfl)
 offs:=ag [(0,0,false),(1,1,true)] rfl ⟨bg (Tryz.prog.underlying 357),by kernel_rfl,by kernel_rfl⟩
 conc:=am ⟨aG (Tryz.prog.underlying 357),by kernel_rfl,ar (by kernel_rfl)⟩
def Lw:TI:={size:=some 1,agg:=some false,rs:=some (.one (.leaf (.slice))),zero:=some (Value.slice none 0 0),slc:=some (362,3),conc:=true,isSlc:=true}
theorem HZ:aL Tryz.prog 358 Lw where
 zero:=ag (Value.slice none 0 0) rfl (by kernel_rfl)
 slc:=bL 362 3 rfl ⟨by kernel_rfl,by kernel_rfl⟩
 conc:=am ⟨aG (Tryz.prog.underlying 358),by kernel_rfl,ar (by kernel_rfl)⟩
 isSlc:=am ⟨362,by kernel_rfl⟩
def KV:TI:={size:=some 5,agg:=some true,rs:=some (.one (.agg [.ptr,.slice,.ptr,.int .i64,.int .i64])),zero:=some (Value.agg #[Value.pointer none,Value.slice none 0 0,Value.pointer none,Value.int .i64 0,Value.int .i64 0]),offs:=some [(0,0,false),(1,0,false),(2,0,false),(3,0,false),(4,0,false)],conc:=true}
theorem Ic:aL Tryz.prog 360 KV where
 size:=ag (5) rfl (by kernel_rfl)
 agg:=ag (true) rfl (by kernel_rfl)
 zero:=ag (Value.agg #[Value.pointer none,Value.slice none 0 0,Value.pointer none,Value.int .i64 0,Value.int .i64 0]) rfl (by kernel_rfl)
 offs:=ag [(0,0,false),(1,0,false),(2,0,false),(3,0,false),(4,0,false)] rfl ⟨bg (Tryz.prog.underlying 360),by kernel_rfl,by kernel_rfl⟩
 conc:=am ⟨aG (Tryz.prog.underlying 360),by kernel_rfl,ar (by kernel_rfl)⟩
def L_:TI:={size:=some 3,agg:=some true,rs:=some (.one (.agg [.int .i64,.int .i64,.int .i64])),zero:=some (Value.agg #[Value.int .i64 0,Value.int .i64 0,Value.int .i64 0]),offs:=some [(0,0,false),(1,0,false),(2,0,false)],eqs:=some [.i,.i,.i],conc:=true}
theorem HS:aL Tryz.prog 362 L_ where
 size:=ag (3) rfl (by kernel_rfl)
 agg:=ag (true) rfl (by kernel_rfl)
 zero:=ag (Value.agg #[Value.int .i64 0,Value.int .i64 0,Value.int .i64 0]) rfl (by kernel_rfl)
 offs:=ag [(0,0,false),(1,0,false),(2,0,false)] rfl ⟨bg (Tryz.prog.underlying 362),by kernel_rfl,by kernel_rfl⟩
 conc:=am ⟨aG (Tryz.prog.underlying 362),by kernel_rfl,ar (by kernel_rfl)⟩
 eqs:=ag [.i,.i,.i] rfl (by kernel_rfl)
def K8:TI:={rs:=some (.tup [.agg [.int .i64,.int .i64,.int .i64],.leaf (.int .i64),.leaf (.int .i64),.leaf (.bool)])}
theorem Iv:aL Tryz.prog 363 K8 where
def Lf:TI:={size:=some 1,agg:=some false,rs:=some (.one (.leaf (.any))),zero:=some (Value.nilIface)}
theorem HK:aL Tryz.prog 372 Lf where
 zero:=ag (Value.nilIface) rfl (by kernel_rfl)
def Lg:TI:={rs:=some (.tup [.leaf (.int .i64),.leaf (.any)])}
theorem If:aL Tryz.prog 373 Lg where
def Lb:TI:={size:=some 1,agg:=some false,rs:=some (.one (.leaf (.slice))),zero:=some (Value.slice none 0 0),slc:=some (389,6),conc:=true,isSlc:=true}
theorem IM:aL Tryz.prog 377 Lb where
 zero:=ag (Value.slice none 0 0) rfl (by kernel_rfl)
 slc:=bL 389 6 rfl ⟨by kernel_rfl,by kernel_rfl⟩
 conc:=am ⟨aG (Tryz.prog.underlying 377),by kernel_rfl,ar (by kernel_rfl)⟩
 isSlc:=am ⟨389,by kernel_rfl⟩
def L5:TI:={size:=some 2,agg:=some true,rs:=some (.one (.agg [.slice,.int .i64])),zero:=some (Value.agg #[Value.slice none 0 0,Value.int .i64 0]),offs:=some [(0,0,false),(1,0,false)],conc:=true}
theorem Hg:aL Tryz.prog 379 L5 where
 size:=ag (2) rfl (by kernel_rfl)
 agg:=ag (true) rfl (by kernel_rfl)
 zero:=ag (Value.agg #[Value.slice none 0 0,Value.int .i64 0]) rfl (by kernel_rfl)
 offs:=ag [(0,0,false),(1,0,false)] rfl ⟨bg (Tryz.prog.underlying 379),by kernel_rfl,by kernel_rfl⟩
 conc:=am ⟨aG (Tryz.prog.underlying 379),by kernel_rfl,ar (by kernel_rfl)⟩
def KM:TI:={size:=some 3,agg:=some true,rs:=some (.one (.agg [.int .i64,.int .i64,.int .i64])),zero:=some (Value.agg #[Value.int .i64 0,Value.int .i64 0,Value.int .i64 0]),offs:=some [(0,0,false),(1,0,false),(2,0,false)],eqs:=some [.i,.i,.i],conc:=true}
theorem GJ:aL Tryz.prog 387 KM where
 size:=ag (3) rfl (by kernel_rfl)
 agg:=ag (true) rfl (by kernel_rfl)
 zero:=ag (Value.agg #[Value.int .i64 0,Value.int .i64 0,Value.int .i64 0]) rfl (by kernel_rfl)
 offs:=ag [(0,0,false),(1,0,false),(2,0,false)] rfl ⟨bg (Tryz.prog.underlying 387),by kernel_rfl,by kernel_rfl⟩
 conc:=am ⟨aG (Tryz.prog.underlying 387),by kernel_rfl,ar (by kernel_rfl)⟩
 eqs:=ag [.i,.i,.i] rfl (by kernel_rfl)
def LW:TI:={size:=some 6,agg:=some true,rs:=some (.one (.agg [.int .i64,.int .i64,.int .i64,.int .i64,.int .i64,.int .i64])),zero:=some (Value.agg #[Value.int .i64 0,Value.int .i64 0,Value.int .i64 0,Value.int .i64 0,Value.int .i64 0,Value.int .i64 0]),offs:=some [(0,2,true),(3,2,true)],conc:=true}
theorem GM:aL Tryz.prog 389 LW where
 size:=ag (6) rfl (by kernel_rfl)
 agg:=ag (true) rfl (by kernel_rfl)
 zero:=ag (Value.agg #[Value.int .i64 0,Value.int .i64 0,Value.int .i64 0,Value.int .i64 0,Value.int .i64 0,Value.int .i64 0]) rfl (by kernel_rfl)
 offs:=ag [(0,2,true),(3,2,true)] rfl ⟨bg (Tryz.prog.underlying 389),by kernel_rfl,by kernel_rfl⟩
 conc:=am ⟨aG (Tryz.prog.underlying 389),by kernel_rfl,ar (by kernel_rfl)⟩
def K_:TI:={size:=some 2,agg:=some true,rs:=some (.one (.agg [.int .i64,.int .i64])),zero:=some (Value.agg #[Value.int .i64 0,Value.int .i64 0]),arr:=some (2,1),conc:=true}
theorem Gw:aL Tryz.prog 390 K_ where
 size:=ag (2) rfl (by kernel_rfl)
 agg:=ag (true) rfl (by kernel_rfl)
 zero:=ag (Value.agg #[Value.int .i64 0,Value.int .i64 0]) rfl (by kernel_rfl)
 arr:=bL 2 1 rfl ⟨3,by kernel_rfl,by kernel_rfl⟩
 conc:=am ⟨aG (Tryz.prog.underlying 390),by kernel_rfl,ar (by kernel_rfl)⟩
def Qa:List (Nat×TI):=[(0,Ri),(2,Rj),(3,Rg),(4,Rh),(5,Rk),(9,Rf),(22,M9),(23,PO),(24,Pn),(25,OO),(27,OZ),(28,NN),(31,PY),(32,NX),(33,OV),(35,NA),(37,Nq),(39,Oy),(40,Nl),(42,NI),(43,OU),(44,Pa),(46,Nf),(47,MU),(51,PQ)]
theorem Ju:∀p∈Qa,aL Tryz.prog p.1 p.2:=
 an Mk<|an MA<|an Ml<|an MD<|an Mw<|an ME<|an Ks<|an Jy<|an JN<|an Kz<|an Jo<|an JD<|an Kn<|an JP<|an Jx<|an Jz<|an Jf<|an J_<|an Kl<|an Ki<|an JU<|an JE<|an Jq<|an Jw<|an Jh<|oJ
def NE:List (Nat×TI):=[(54,MP),(57,O8),(58,M1),(61,ND),(63,MW),(68,NB),(71,OK),(72,N'),(74,Nu),(78,P_),(85,OG),(87,NP),(89,NU),(94,PJ),(100,LY),(102,Lt),(104,Lj),(106,KT),(108,LJ),(109,LE),(110,LF),(111,KN),(113,Lu),(116,KK),(117,Lm)]
theorem KB:∀p∈NE,aL Tryz.prog p.1 p.2:=
 an JW<|an Kx<|an Jp<|an JR<|an Jj<|an JS<|an Je<|an Kt<|an JQ<|an Kw<|an Kv<|an Js<|an Ky<|an Kg<|an G_<|an H_<|an G6<|an Gz<|an H'<|an Iy<|an GG<|an GU<|an Hn<|an GQ<|an Hl<|oJ
def PN:List (Nat×TI):=[(131,Mb),(133,LX),(135,K9),(138,L2),(140,LR),(144,Ll),(145,K0),(147,Lh),(151,Lv),(152,LO),(154,Md),(157,KX),(159,Lx),(162,Lk),(164,Ma),(165,Me),(170,KU),(172,LV),(174,LK),(179,L6),(181,K7),(186,KQ),(194,L7),(199,K3),(202,LA)]
theorem Kk:∀p∈PN,aL Tryz.prog p.1 p.2:=
 an IA<|an H2<|an GL<|an Im<|an HG<|an Hi<|an IV<|an GE<|an H1<|an IN<|an Gs<|an Hz<|an GO<|an Ir<|an Id<|an G1<|an Is<|an GP<|an GN<|an It<|an Ie<|an IQ<|an HJ<|an HH<|an GF<|oJ
def PK:List (Nat×TI):=[(203,Lr),(205,KS),(207,KG),(209,Li),(211,LZ),(213,LI),(215,L4),(218,K4),(219,K1),(222,KZ),(234,Mf),(238,Lz),(240,K5),(242,LD),(243,KO),(248,LS),(250,Le),(258,LP),(259,Ld),(261,KY),(265,Lp),(272,Lq),(274,KD),(278,L1),(284,L3)]
theorem Jk:∀p∈PK,aL Tryz.prog p.1 p.2:=
 an I9<|an G'<|an GR<|an H3<|an GH<|an GB<|an H5<|an Hs<|an Iu<|an H8<|an GI<|an ID<|an H7<|an HO<|an GS<|an IS<|an IC<|an Iw<|an HF<|an IJ<|an Hy<|an HV<|an Hc<|an Hu<|an I8<|oJ
def M7:List (Nat×TI):=[(285,KJ),(286,L9),(288,L'),(300,Mc),(303,KL),(304,LH),(315,KR),(317,LN),(320,KH),(330,La),(336,Lo),(341,K2),(343,KC),(354,LB),(357,L0),(358,Lw),(360,KV),(362,L_),(363,K8),(372,Lf),(373,Lg),(377,Lb),(379,L5),(387,KM),(389,LW)]
theorem Kf:∀p∈M7,aL Tryz.prog p.1 p.2:=
 an HP<|an Hx<|an Ip<|an HL<|an G9<|an HQ<|an Hh<|an Jb<|an Gr<|an IW<|an IB<|an IZ<|an Gt<|an IL<|an Ht<|an HZ<|an Ic<|an HS<|an Iv<|an HK<|an If<|an IM<|an Hg<|an GJ<|an GM<|oJ
def M8:List (Nat×TI):=[(390,K_)]
theorem JM:∀p∈M8,aL Tryz.prog p.1 p.2:=
 an Gw<|oJ
def tab:List (Nat×TI):=Qa++NE++PN++PK++M7++M8
set_option maxRecDepth 100000 in
theorem My:∀p∈tab,aL Tryz.prog p.1 p.2:=
 sX (sX (sX (sX (sX (Ju) KB) Kk) Jk) Kf) JM
theorem HB:Tryz.prog.follows .mixedOrders=true:=by kernel_rfl
noncomputable def gJ:gV:=Hb Tryz.prog tab
theorem Pr:gJ.Ok:=Ja Tryz.prog tab My HB
theorem az {f:FuncId} {fn:Func} {args:List Value} {w:World} {R:RW} {p:Prop} (hf:Tryz.prog.funcs[f]? =some fn) (hb:fn.body=some (Dl fn)) (hn:Nat.ble args.length fn.ntmps=true) (hw:wf gJ fn.ntmps (Dl fn)=true) (h:p=GV gJ (Dl fn) fn.results.toList args w R) (hh:p):Calls Tryz.prog f args.toArray w fun e w'=>∃v,e= .returned v∧R v w':=
 ww Pr hf hb hn hw (Eq.mp h hh)
end Go.Proofs.YtijbcdiffjjefaaGreatDoor.Eng
