/- The types that this claim's functions name, as the loaded program has them. -/
import Derived.Test.YtijbcdiffjjefaaGreatDoorZwEng
import Derived.Test.YtijbcdiffjjefaaGreatDoorProg
import Derived.KernelRfl
set_option linter.unusedVariables false
namespace Go.Proofs.YtijbcdiffjjefaaGreatDoor.Eng
open Go
abbrev OA:=Option Addr
abbrev KW:=List Value→World→Prop
abbrev RW:=Value→World→Prop
abbrev Zz (e:Ending) (k:Int→Int→Prop):Prop:=∃a0 a1,e= .returned (Value.tuple #[Value.int .i64 a0,Value.int .i64 a1])∧k a0 a1
abbrev Zy (e:Ending) (k:Int→Bool→Prop):Prop:=∃a0 a1,e= .returned (Value.tuple #[Value.int .i64 a0,Value.bool a1])∧k a0 a1
abbrev Zx (e:Ending) (k:Int→Prop):Prop:=∃a0,e= .returned (Value.int .i64 a0)∧k a0
abbrev Zv (w:World) (c:Array Value) (t:TypeId) (k:World→Prop):Prop:=∀r,r=w.alloc (.cells c t)→k r
abbrev Zu (w:World) (p:Addr) (v:Value) (k:World→Prop):Prop:=v.oneCell'=true∧(∃u,w.cell? p=some u)∧w.frozen? p=false∧∀q,q=(w.setCell p v)→k q
abbrev Zt (w:World) (p:Addr) (k:OA→Prop):Prop:=∃a0,w.cell? p=some (Value.pointer a0)∧k a0
abbrev Zs (w:World) (p:Addr) (k:Int→Prop):Prop:=∃a0,w.cell? p=some (Value.int .i64 a0)∧k a0
abbrev Zr (e:Ending) (k:OA→Nat→Nat→Prop):Prop:=∃a0 a1 a2,e= .returned (Value.slice a0 a1 a2)∧k a0 a1 a2
abbrev Zq (w:World) (p:Addr) (k:Bool→OA→Nat→Nat→OA→Nat→Nat→OA→Nat→Nat→OA→Nat→Nat→OA→Nat→Nat→Prop):Prop:=∃a0 a1 a2 a3 a4 a5 a6 a7 a8 a9 a10 a11 a12 a13 a14 a15,(w.cell? p=some (Value.bool a0)∧w.cell? (p.add 1)=some (Value.slice a1 a2 a3)∧w.cell? (p.add 2)=some (Value.slice a4 a5 a6)∧w.cell? (p.add 3)=some (Value.slice a7 a8 a9)∧w.cell? (p.add 4)=some (Value.slice a10 a11 a12)∧w.cell? (p.add 5)=some (Value.slice a13 a14 a15)∧True)∧k a0 a1 a2 a3 a4 a5 a6 a7 a8 a9 a10 a11 a12 a13 a14 a15
abbrev Zp (e:Ending) (k:Bool→Prop):Prop:=∃a0,e= .returned (Value.bool a0)∧k a0
abbrev Zn (e:Ending) (k:OA→Int→Int→Int→Prop):Prop:=∃a0 a1 a2 a3,e= .returned (Value.tuple #[Value.pointer a0,Value.int .i64 a1,Value.int .i64 a2,Value.int .i64 a3])∧k a0 a1 a2 a3
abbrev Zm (a:OA) (i:Int) (n:Nat) (k:Addr→Prop):Prop:=ag a fun p=>(0:Int)≤i∧i< (n:Int)∧k p
abbrev Zl (w:World) (p:Addr) (k:OA→Nat→Nat→Prop):Prop:=∃a0 a1 a2,w.cell? p=some (Value.slice a0 a1 a2)∧k a0 a1 a2
abbrev Zk (w:World) (p:Addr) (k:Bool→Prop):Prop:=∃a0,w.cell? p=some (Value.bool a0)∧k a0
abbrev Zj (e:Ending) (k:OA→Prop):Prop:=∃a0,e= .returned (Value.pointer a0)∧k a0
abbrev Zh (t:TypeId) (l:Array Value) (w:World) (k:OA→Nat→Nat→World→Prop):Prop:=∃a b c d,(Builtin.append_ #[t,t] t l).run Tryz.prog w= .ok (Value.slice a b c) d∧k a b c d
abbrev Zg (e:Ending) (k:OA→Int→Int→Prop):Prop:=∃a0 a1 a2,e= .returned (Value.tuple #[Value.pointer a0,Value.int .i64 a1,Value.int .i64 a2])∧k a0 a1 a2
abbrev Zf (e:Ending) (k:OA→Int→Prop):Prop:=∃a0 a1,e= .returned (Value.tuple #[Value.pointer a0,Value.int .i64 a1])∧k a0 a1
abbrev Ze (e:Ending) (k:Bool→OA→Nat→Nat→OA→Nat→Nat→OA→Nat→Nat→OA→Nat→Nat→OA→Nat→Nat→Prop):Prop:=∃a0 a1 a2 a3 a4 a5 a6 a7 a8 a9 a10 a11 a12 a13 a14 a15,e= .returned (Value.agg #[Value.bool a0,Value.slice a1 a2 a3,Value.slice a4 a5 a6,Value.slice a7 a8 a9,Value.slice a10 a11 a12,Value.slice a13 a14 a15])∧k a0 a1 a2 a3 a4 a5 a6 a7 a8 a9 a10 a11 a12 a13 a14 a15
abbrev Zd (e:Ending) (k:ByteArray→Bool→Prop):Prop:=∃a0 a1,e= .returned (Value.tuple #[Value.string a0,Value.bool a1])∧k a0 a1
abbrev Zc (w:World) (p:Addr) (k:Int→ByteArray→Prop):Prop:=∃a0 a1,(w.cell? p=some (Value.int .i64 a0)∧w.cell? (p.add 1)=some (Value.string a1)∧True)∧k a0 a1
abbrev Zb (w:World) (p:Addr) (k:Int→Int→Int→Prop):Prop:=∃a0 a1 a2,(w.cell? p=some (Value.int .i64 a0)∧w.cell? (p.add 1)=some (Value.int .i64 a1)∧w.cell? (p.add 2)=some (Value.int .i64 a2)∧True)∧k a0 a1 a2
abbrev Za (w:World) (p:Addr) (k:Int→Int→Prop):Prop:=∃a0 a1,(w.cell? p=some (Value.int .i64 a0)∧w.cell? (p.add 1)=some (Value.int .i64 a1)∧True)∧k a0 a1
abbrev Z0 (w:World) (p:Addr) (k:ByteArray→Prop):Prop:=∃a0,w.cell? p=some (Value.string a0)∧k a0
abbrev Z1 (e:Ending) (k:Int→Int→Bool→Prop):Prop:=∃a0 a1 a2,e= .returned (Value.tuple #[Value.agg #[Value.int .i64 a0,Value.int .i64 a1],Value.bool a2])∧k a0 a1 a2
abbrev Z2 (e:Ending) (k:Int→Int→Int→Int→Int→Bool→Prop):Prop:=∃a0 a1 a2 a3 a4 a5,e= .returned (Value.tuple #[Value.agg #[Value.int .i64 a0,Value.int .i64 a1,Value.int .i64 a2],Value.int .i64 a3,Value.int .i64 a4,Value.bool a5])∧k a0 a1 a2 a3 a4 a5
abbrev Z3 (e:Ending) (k:Int→ByteArray→Bool→Prop):Prop:=∃a0 a1 a2,e= .returned (Value.tuple #[Value.agg #[Value.int .i64 a0,Value.string a1],Value.bool a2])∧k a0 a1 a2
abbrev Z4 (w:World) (p:Addr) (k:Int→Int→Int→Int→Int→Int→Prop):Prop:=∃a0 a1 a2 a3 a4 a5,(w.cell? p=some (Value.int .i64 a0)∧w.cell? (p.add 1)=some (Value.int .i64 a1)∧w.cell? (p.add 2)=some (Value.int .i64 a2)∧w.cell? (p.add 3)=some (Value.int .i64 a3)∧w.cell? (p.add 4)=some (Value.int .i64 a4)∧w.cell? (p.add 5)=some (Value.int .i64 a5)∧True)∧k a0 a1 a2 a3 a4 a5
abbrev Z5 (w:World) (p:Addr) (k:OA→Nat→Nat→OA→Nat→Nat→OA→Nat→Nat→OA→Nat→Nat→OA→Nat→Nat→Prop):Prop:=∃a0 a1 a2 a3 a4 a5 a6 a7 a8 a9 a10 a11 a12 a13 a14,(w.cell? p=some (Value.slice a0 a1 a2)∧w.cell? (p.add 1)=some (Value.slice a3 a4 a5)∧w.cell? (p.add 2)=some (Value.slice a6 a7 a8)∧w.cell? (p.add 3)=some (Value.slice a9 a10 a11)∧w.cell? (p.add 4)=some (Value.slice a12 a13 a14)∧True)∧k a0 a1 a2 a3 a4 a5 a6 a7 a8 a9 a10 a11 a12 a13 a14
abbrev Z6 (e:Ending) (k:OA→Nat→Nat→OA→Nat→Nat→OA→Nat→Nat→OA→Nat→Nat→OA→Nat→Nat→Prop):Prop:=∃a0 a1 a2 a3 a4 a5 a6 a7 a8 a9 a10 a11 a12 a13 a14,e= .returned (Value.agg #[Value.slice a0 a1 a2,Value.slice a3 a4 a5,Value.slice a6 a7 a8,Value.slice a9 a10 a11,Value.slice a12 a13 a14])∧k a0 a1 a2 a3 a4 a5 a6 a7 a8 a9 a10 a11 a12 a13 a14
abbrev Z7 (e:Ending) (k:OA→Nat→Nat→OA→Nat→Nat→Int→Int→Prop):Prop:=∃a0 a1 a2 a3 a4 a5 a6 a7,e= .returned (Value.tuple #[Value.agg #[Value.slice a0 a1 a2,Value.slice a3 a4 a5],Value.int .i64 a6,Value.int .i64 a7])∧k a0 a1 a2 a3 a4 a5 a6 a7
abbrev Z8 (w:World) (p:Addr) (k:OA→Nat→Nat→OA→Nat→Nat→Prop):Prop:=∃a0 a1 a2 a3 a4 a5,(w.cell? p=some (Value.slice a0 a1 a2)∧w.cell? (p.add 1)=some (Value.slice a3 a4 a5)∧True)∧k a0 a1 a2 a3 a4 a5
abbrev Z9 (e:Ending) (k:OA→Nat→Nat→OA→Nat→Nat→Prop):Prop:=∃a0 a1 a2 a3 a4 a5,e= .returned (Value.agg #[Value.slice a0 a1 a2,Value.slice a3 a4 a5])∧k a0 a1 a2 a3 a4 a5
abbrev ZZ (e:Ending) (k:OA→Nat→Nat→OA→Nat→Nat→OA→Nat→Nat→OA→Nat→Nat→OA→Nat→Nat→Int→Int→Int→Prop):Prop:=∃a0 a1 a2 a3 a4 a5 a6 a7 a8 a9 a10 a11 a12 a13 a14 a15 a16 a17,e= .returned (Value.tuple #[Value.agg #[Value.slice a0 a1 a2,Value.slice a3 a4 a5,Value.slice a6 a7 a8,Value.slice a9 a10 a11,Value.slice a12 a13 a14],Value.int .i64 a15,Value.int .i64 a16,Value.int .i64 a17])∧k a0 a1 a2 a3 a4 a5 a6 a7 a8 a9 a10 a11 a12 a13 a14 a15 a16 a17
abbrev ZY (w:World) (p:Addr) (k:Int→Prop):Prop:=∃a0,w.cell? p=some (Value.int .u16 a0)∧k a0
abbrev ZX (e:Ending) (k:OA→Nat→Nat→OA→Nat→Nat→Int→Prop):Prop:=∃a0 a1 a2 a3 a4 a5 a6,e= .returned (Value.tuple #[Value.agg #[Value.slice a0 a1 a2,Value.slice a3 a4 a5],Value.int .i64 a6])∧k a0 a1 a2 a3 a4 a5 a6
abbrev ZV (w:World) (p:Addr) (k:Int→Prop):Prop:=∃a0,w.cell? p=some (Value.int .u64 a0)∧k a0
abbrev ZU (e:Ending) (k:ByteArray→Prop):Prop:=∃a0,e= .returned (Value.string a0)∧k a0
abbrev ZT (e:Ending) (k:Int→Int→Prop):Prop:=∃a0 a1,e= .returned (Value.tuple #[Value.int .u64 a0,Value.int .u64 a1])∧k a0 a1
abbrev ZS (e:Ending) (k:OA→Nat→Nat→Int→Prop):Prop:=∃a0 a1 a2 a3,e= .returned (Value.tuple #[Value.slice a0 a1 a2,Value.int .i64 a3])∧k a0 a1 a2 a3
abbrev ZR (w:World) (p:Addr) (k:OA→Nat→Nat→OA→Nat→Nat→OA→Nat→Nat→OA→Nat→Nat→Prop):Prop:=∃a0 a1 a2 a3 a4 a5 a6 a7 a8 a9 a10 a11,(w.cell? p=some (Value.slice a0 a1 a2)∧w.cell? (p.add 1)=some (Value.slice a3 a4 a5)∧w.cell? (p.add 2)=some (Value.slice a6 a7 a8)∧w.cell? (p.add 3)=some (Value.slice a9 a10 a11)∧True)∧k a0 a1 a2 a3 a4 a5 a6 a7 a8 a9 a10 a11
abbrev ZQ (e:Ending) (k:OA→OA→Nat→Nat→OA→Nat→Nat→OA→Nat→Nat→OA→Nat→Nat→OA→Nat→Nat→Prop):Prop:=∃a0 a1 a2 a3 a4 a5 a6 a7 a8 a9 a10 a11 a12 a13 a14 a15,e= .returned (Value.tuple #[Value.pointer a0,Value.agg #[Value.slice a1 a2 a3,Value.slice a4 a5 a6,Value.slice a7 a8 a9,Value.slice a10 a11 a12,Value.slice a13 a14 a15]])∧k a0 a1 a2 a3 a4 a5 a6 a7 a8 a9 a10 a11 a12 a13 a14 a15
abbrev ZP (w:World) (p:Addr) (k:Int→Prop):Prop:=∃a0,w.cell? p=some (Value.int .u8 a0)∧k a0
abbrev ZN (e:Ending) (k:Bool→OA→Nat→Nat→OA→Nat→Nat→OA→Nat→Nat→OA→Nat→Nat→OA→Nat→Nat→Int→Int→Prop):Prop:=∃a0 a1 a2 a3 a4 a5 a6 a7 a8 a9 a10 a11 a12 a13 a14 a15 a16 a17,e= .returned (Value.tuple #[Value.agg #[Value.bool a0,Value.slice a1 a2 a3,Value.slice a4 a5 a6,Value.slice a7 a8 a9,Value.slice a10 a11 a12,Value.slice a13 a14 a15],Value.int .i64 a16,Value.int .i64 a17])∧k a0 a1 a2 a3 a4 a5 a6 a7 a8 a9 a10 a11 a12 a13 a14 a15 a16 a17
abbrev ZM (e:Ending) (k:OA→Nat→Nat→Bool→Prop):Prop:=∃a0 a1 a2 a3,e= .returned (Value.tuple #[Value.slice a0 a1 a2,Value.bool a3])∧k a0 a1 a2 a3
abbrev ZL (e:Ending) (k:ByteArray→ByteArray→Bool→Prop):Prop:=∃a0 a1 a2,e= .returned (Value.tuple #[Value.string a0,Value.string a1,Value.bool a2])∧k a0 a1 a2
abbrev ZK (w:World) (p:Addr) (k:OA→Prop):Prop:=∃a0,(w.cell? p=some (Value.pointer a0)∧True)∧k a0
abbrev ZJ (e:Ending) (k:OA→Nat→Nat→Int→Int→Prop):Prop:=∃a0 a1 a2 a3 a4,e= .returned (Value.tuple #[Value.slice a0 a1 a2,Value.int .i64 a3,Value.int .i64 a4])∧k a0 a1 a2 a3 a4
abbrev CP:=Calls Tryz.prog
abbrev CR (k:Nat) (a:Array Value) (w:World) (R:RW):Prop:=CP k a w fun e w'=>∃v,e= .returned v∧R v w'
def TV:TI:={rs:=some (.tup [])}
theorem Ow:aY Tryz.prog 0 TV where
def T1:TI:={size:=some 1,agg:=some false,rs:=some (.one (.leaf (.int .i64))),zero:=some (Value.int .i64 0),intk:=some .i64,conc:=true}
theorem N5:aY Tryz.prog 2 T1 where
 zero:=ak (Value.int .i64 0) rfl (by kernel_rfl)
 intk:=ak (IntKind.i64) rfl (by kernel_rfl)
 conc:=av ⟨aO (Tryz.prog.underlying 2),by kernel_rfl,aA (by kernel_rfl)⟩
def TX:TI:={size:=some 1,agg:=some false,rs:=some (.one (.leaf (.int .i64))),zero:=some (Value.int .i64 0),intk:=some .i64,conc:=true}
theorem NX:aY Tryz.prog 3 TX where
 zero:=ak (Value.int .i64 0) rfl (by kernel_rfl)
 intk:=ak (IntKind.i64) rfl (by kernel_rfl)
 conc:=av ⟨aO (Tryz.prog.underlying 3),by kernel_rfl,aA (by kernel_rfl)⟩
def TW:TI:={size:=some 1,agg:=some false,rs:=some (.one (.leaf (.bool))),zero:=some (Value.bool false),conc:=true,isBool:=true}
theorem Oh:aY Tryz.prog 4 TW where
 zero:=ak (Value.bool false) rfl (by kernel_rfl)
 conc:=av ⟨aO (Tryz.prog.underlying 4),by kernel_rfl,aA (by kernel_rfl)⟩
 isBool:=av (by kernel_rfl)
def TZ:TI:={size:=some 1,agg:=some false,rs:=some (.one (.leaf (.int .u8))),zero:=some (Value.int .u8 0),intk:=some .u8,conc:=true}
theorem Ou:aY Tryz.prog 5 TZ where
 zero:=ak (Value.int .u8 0) rfl (by kernel_rfl)
 intk:=ak (IntKind.u8) rfl (by kernel_rfl)
 conc:=av ⟨aO (Tryz.prog.underlying 5),by kernel_rfl,aA (by kernel_rfl)⟩
def TY:TI:={size:=some 1,agg:=some false,rs:=some (.one (.leaf (.str))),zero:=some (Value.string ⟨#[]⟩),isStr:=true,conc:=true}
theorem NU:aY Tryz.prog 9 TY where
 zero:=ak (Value.string ⟨#[]⟩) rfl (by kernel_rfl)
 isStr:=av (by kernel_rfl)
 conc:=av ⟨aO (Tryz.prog.underlying 9),by kernel_rfl,aA (by kernel_rfl)⟩
def QC:TI:={size:=some 1,agg:=some false,rs:=some (.one (.leaf (.slice))),zero:=some (Value.slice none 0 0),slc:=some (242,1),conc:=true,isSlc:=true}
theorem Lt:aY Tryz.prog 22 QC where
 zero:=ak (Value.slice none 0 0) rfl (by kernel_rfl)
 slc:=ce 242 1 rfl ⟨by kernel_rfl,by kernel_rfl⟩
 conc:=av ⟨aO (Tryz.prog.underlying 22),by kernel_rfl,aA (by kernel_rfl)⟩
 isSlc:=av ⟨242,by kernel_rfl⟩
def RE:TI:={size:=some 1,agg:=some false,rs:=some (.one (.leaf (.slice))),zero:=some (Value.slice none 0 0),slc:=some (89,3),conc:=true,isSlc:=true}
theorem KT:aY Tryz.prog 23 RE where
 zero:=ak (Value.slice none 0 0) rfl (by kernel_rfl)
 slc:=ce 89 3 rfl ⟨by kernel_rfl,by kernel_rfl⟩
 conc:=av ⟨aO (Tryz.prog.underlying 23),by kernel_rfl,aA (by kernel_rfl)⟩
 isSlc:=av ⟨89,by kernel_rfl⟩
def O':TI:={size:=some 1,agg:=some false,rs:=some (.one (.leaf (.slice))),zero:=some (Value.slice none 0 0),slc:=some (170,2),conc:=true,isSlc:=true}
theorem KN:aY Tryz.prog 24 O' where
 zero:=ak (Value.slice none 0 0) rfl (by kernel_rfl)
 slc:=ce 170 2 rfl ⟨by kernel_rfl,by kernel_rfl⟩
 conc:=av ⟨aO (Tryz.prog.underlying 24),by kernel_rfl,aA (by kernel_rfl)⟩
 isSlc:=av ⟨170,by kernel_rfl⟩
def PR:TI:={size:=some 1,agg:=some false,rs:=some (.one (.leaf (.slice))),zero:=some (Value.slice none 0 0),slc:=some (87,2),conc:=true,isSlc:=true}
theorem Ln:aY Tryz.prog 25 PR where
 zero:=ak (Value.slice none 0 0) rfl (by kernel_rfl)
 slc:=ce 87 2 rfl ⟨by kernel_rfl,by kernel_rfl⟩
 conc:=av ⟨aO (Tryz.prog.underlying 25),by kernel_rfl,aA (by kernel_rfl)⟩
 isSlc:=av ⟨87,by kernel_rfl⟩
def Sb:TI:={size:=some 4,agg:=some true,rs:=some (.one (.agg [.slice,.slice,.slice,.slice])),zero:=some (Value.agg #[Value.slice none 0 0,Value.slice none 0 0,Value.slice none 0 0,Value.slice none 0 0]),offs:=some [(0,0,false),(1,0,false),(2,0,false),(3,0,false)],conc:=true}
theorem Ll:aY Tryz.prog 27 Sb where
 size:=ak (4) rfl (by kernel_rfl)
 agg:=ak (true) rfl (by kernel_rfl)
 zero:=ak (Value.agg #[Value.slice none 0 0,Value.slice none 0 0,Value.slice none 0 0,Value.slice none 0 0]) rfl (by kernel_rfl)
 offs:=ak [(0,0,false),(1,0,false),(2,0,false),(3,0,false)] rfl ⟨br (Tryz.prog.underlying 27),by kernel_rfl,by kernel_rfl⟩
 conc:=av ⟨aO (Tryz.prog.underlying 27),by kernel_rfl,aA (by kernel_rfl)⟩
def Q9:TI:={size:=some 1,agg:=some false,rs:=some (.one (.leaf (.slice))),zero:=some (Value.slice none 0 0),slc:=some (3,1),conc:=true,isSlc:=true}
theorem LZ:aY Tryz.prog 28 Q9 where
 zero:=ak (Value.slice none 0 0) rfl (by kernel_rfl)
 slc:=ce 3 1 rfl ⟨by kernel_rfl,by kernel_rfl⟩
 conc:=av ⟨aO (Tryz.prog.underlying 28),by kernel_rfl,aA (by kernel_rfl)⟩
 isSlc:=av ⟨3,by kernel_rfl⟩
def PC:TI:={size:=some 1,agg:=some false,rs:=some (.one (.leaf (.ptr))),zero:=some (Value.pointer none),conc:=true,isPtr:=true}
theorem LK:aY Tryz.prog 31 PC where
 zero:=ak (Value.pointer none) rfl (by kernel_rfl)
 conc:=av ⟨aO (Tryz.prog.underlying 31),by kernel_rfl,aA (by kernel_rfl)⟩
 isPtr:=av ⟨186,by kernel_rfl⟩
def Pj:TI:={size:=some 1,agg:=some false,rs:=some (.one (.leaf (.slice))),zero:=some (Value.slice none 0 0),slc:=some (9,1),conc:=true,isSlc:=true}
theorem Ld:aY Tryz.prog 32 Pj where
 zero:=ak (Value.slice none 0 0) rfl (by kernel_rfl)
 slc:=ce 9 1 rfl ⟨by kernel_rfl,by kernel_rfl⟩
 conc:=av ⟨aO (Tryz.prog.underlying 32),by kernel_rfl,aA (by kernel_rfl)⟩
 isSlc:=av ⟨9,by kernel_rfl⟩
def QL:TI:={size:=some 1,agg:=some false,rs:=some (.one (.leaf (.slice))),zero:=some (Value.slice none 0 0),slc:=some (85,2),conc:=true,isSlc:=true}
theorem Lc:aY Tryz.prog 33 QL where
 zero:=ak (Value.slice none 0 0) rfl (by kernel_rfl)
 slc:=ce 85 2 rfl ⟨by kernel_rfl,by kernel_rfl⟩
 conc:=av ⟨aO (Tryz.prog.underlying 33),by kernel_rfl,aA (by kernel_rfl)⟩
 isSlc:=av ⟨85,by kernel_rfl⟩
def OC:TI:={size:=some 2,agg:=some true,rs:=some (.one (.agg [.slice,.slice])),zero:=some (Value.agg #[Value.slice none 0 0,Value.slice none 0 0]),offs:=some [(0,0,false),(1,0,false)],conc:=true}
theorem Li:aY Tryz.prog 35 OC where
 size:=ak (2) rfl (by kernel_rfl)
 agg:=ak (true) rfl (by kernel_rfl)
 zero:=ak (Value.agg #[Value.slice none 0 0,Value.slice none 0 0]) rfl (by kernel_rfl)
 offs:=ak [(0,0,false),(1,0,false)] rfl ⟨br (Tryz.prog.underlying 35),by kernel_rfl,by kernel_rfl⟩
 conc:=av ⟨aO (Tryz.prog.underlying 35),by kernel_rfl,aA (by kernel_rfl)⟩
def QO:TI:={size:=some 2,agg:=some true,rs:=some (.one (.agg [.slice,.slice])),zero:=some (Value.agg #[Value.slice none 0 0,Value.slice none 0 0]),offs:=some [(0,0,false),(1,0,false)],conc:=true}
theorem Lp:aY Tryz.prog 37 QO where
 size:=ak (2) rfl (by kernel_rfl)
 agg:=ak (true) rfl (by kernel_rfl)
 zero:=ak (Value.agg #[Value.slice none 0 0,Value.slice none 0 0]) rfl (by kernel_rfl)
 offs:=ak [(0,0,false),(1,0,false)] rfl ⟨br (Tryz.prog.underlying 37),by kernel_rfl,by kernel_rfl⟩
 conc:=av ⟨aO (Tryz.prog.underlying 37),by kernel_rfl,aA (by kernel_rfl)⟩
def OY:TI:={size:=some 5,agg:=some true,rs:=some (.one (.agg [.slice,.slice,.slice,.slice,.slice])),zero:=some (Value.agg #[Value.slice none 0 0,Value.slice none 0 0,Value.slice none 0 0,Value.slice none 0 0,Value.slice none 0 0]),offs:=some [(0,1,true),(2,1,true),(4,0,false)],conc:=true}
theorem K8:aY Tryz.prog 39 OY where
 size:=ak (5) rfl (by kernel_rfl)
 agg:=ak (true) rfl (by kernel_rfl)
 zero:=ak (Value.agg #[Value.slice none 0 0,Value.slice none 0 0,Value.slice none 0 0,Value.slice none 0 0,Value.slice none 0 0]) rfl (by kernel_rfl)
 offs:=ak [(0,1,true),(2,1,true),(4,0,false)] rfl ⟨br (Tryz.prog.underlying 39),by kernel_rfl,by kernel_rfl⟩
 conc:=av ⟨aO (Tryz.prog.underlying 39),by kernel_rfl,aA (by kernel_rfl)⟩
def Px:TI:={rs:=some (.tup [.leaf (.ptr),.agg [.slice,.slice,.slice,.slice,.slice]])}
theorem KP:aY Tryz.prog 40 Px where
def O9:TI:={size:=some 1,agg:=some false,rs:=some (.one (.leaf (.ptr))),zero:=some (Value.pointer none),conc:=true,isPtr:=true}
theorem KO:aY Tryz.prog 42 O9 where
 zero:=ak (Value.pointer none) rfl (by kernel_rfl)
 conc:=av ⟨aO (Tryz.prog.underlying 42),by kernel_rfl,aA (by kernel_rfl)⟩
 isPtr:=av ⟨113,by kernel_rfl⟩
def Rh:TI:={size:=some 1,agg:=some false,rs:=some (.one (.leaf (.int .i64))),zero:=some (Value.int .i64 0),intk:=some .i64,conc:=true}
theorem La:aY Tryz.prog 43 Rh where
 zero:=ak (Value.int .i64 0) rfl (by kernel_rfl)
 intk:=ak (IntKind.i64) rfl (by kernel_rfl)
 conc:=av ⟨aO (Tryz.prog.underlying 43),by kernel_rfl,aA (by kernel_rfl)⟩
def RP:TI:={rs:=some (.tup [.leaf (.ptr),.leaf (.int .i64)])}
theorem Lh:aY Tryz.prog 44 RP where
def OD:TI:={size:=some 1,agg:=some false,rs:=some (.one (.leaf (.ptr))),zero:=some (Value.pointer none),conc:=true,isPtr:=true}
theorem Lf:aY Tryz.prog 46 OD where
 zero:=ak (Value.pointer none) rfl (by kernel_rfl)
 conc:=av ⟨aO (Tryz.prog.underlying 46),by kernel_rfl,aA (by kernel_rfl)⟩
 isPtr:=av ⟨133,by kernel_rfl⟩
def ON:TI:={rs:=some (.tup [.leaf (.ptr),.leaf (.int .i64)])}
theorem L5:aY Tryz.prog 47 ON where
def RI:TI:={rs:=some (.tup [.leaf (.int .i64),.leaf (.bool)])}
theorem LO:aY Tryz.prog 51 RI where
def Pu:TI:={size:=some 1,agg:=some false,rs:=some (.one (.leaf (.any))),zero:=some (Value.nilFunc),conc:=true}
theorem LV:aY Tryz.prog 54 Pu where
 zero:=ak (Value.nilFunc) rfl (by kernel_rfl)
 conc:=av ⟨aO (Tryz.prog.underlying 54),by kernel_rfl,aA (by kernel_rfl)⟩
def Pn:TI:={size:=some 1,agg:=some false,rs:=some (.one (.leaf (.slice))),zero:=some (Value.slice none 0 0),slc:=some (5,1),conc:=true,isSlc:=true}
theorem K6:aY Tryz.prog 57 Pn where
 zero:=ak (Value.slice none 0 0) rfl (by kernel_rfl)
 slc:=ce 5 1 rfl ⟨by kernel_rfl,by kernel_rfl⟩
 conc:=av ⟨aO (Tryz.prog.underlying 57),by kernel_rfl,aA (by kernel_rfl)⟩
 isSlc:=av ⟨5,by kernel_rfl⟩
def Qm:TI:={rs:=some (.tup [.leaf (.int .i64),.leaf (.int .i64)])}
theorem KM:aY Tryz.prog 58 Qm where
def QP:TI:={size:=some 1,agg:=some false,rs:=some (.one (.leaf (.ptr))),zero:=some (Value.pointer none),conc:=true,isPtr:=true}
theorem KU:aY Tryz.prog 61 QP where
 zero:=ak (Value.pointer none) rfl (by kernel_rfl)
 conc:=av ⟨aO (Tryz.prog.underlying 61),by kernel_rfl,aA (by kernel_rfl)⟩
 isPtr:=av ⟨154,by kernel_rfl⟩
def QY:TI:={size:=some 1,agg:=some false,rs:=some (.one (.leaf (.ptr))),zero:=some (Value.pointer none),conc:=true,isPtr:=true}
theorem KL:aY Tryz.prog 63 QY where
 zero:=ak (Value.pointer none) rfl (by kernel_rfl)
 conc:=av ⟨aO (Tryz.prog.underlying 63),by kernel_rfl,aA (by kernel_rfl)⟩
 isPtr:=av ⟨159,by kernel_rfl⟩
def Pe:TI:={rs:=some (.tup [.leaf (.ptr),.leaf (.int .i64),.leaf (.int .i64)])}
theorem LU:aY Tryz.prog 68 Pe where
def Rt:TI:={size:=some 6,agg:=some true,rs:=some (.one (.agg [.bool,.slice,.slice,.slice,.slice,.slice])),zero:=some (Value.agg #[Value.bool false,Value.slice none 0 0,Value.slice none 0 0,Value.slice none 0 0,Value.slice none 0 0,Value.slice none 0 0]),offs:=some [(0,0,false),(1,0,false),(2,0,false),(3,0,false),(4,0,false),(5,0,false)],conc:=true}
theorem LG:aY Tryz.prog 71 Rt where
 size:=ak (6) rfl (by kernel_rfl)
 agg:=ak (true) rfl (by kernel_rfl)
 zero:=ak (Value.agg #[Value.bool false,Value.slice none 0 0,Value.slice none 0 0,Value.slice none 0 0,Value.slice none 0 0,Value.slice none 0 0]) rfl (by kernel_rfl)
 offs:=ak [(0,0,false),(1,0,false),(2,0,false),(3,0,false),(4,0,false),(5,0,false)] rfl ⟨br (Tryz.prog.underlying 71),by kernel_rfl,by kernel_rfl⟩
 conc:=av ⟨aO (Tryz.prog.underlying 71),by kernel_rfl,aA (by kernel_rfl)⟩
def Ri:TI:={rs:=some (.tup [.agg [.bool,.slice,.slice,.slice,.slice,.slice],.leaf (.int .i64)])}
theorem LN:aY Tryz.prog 72 Ri where
def Pp:TI:={rs:=some (.tup [.agg [.slice,.slice,.slice,.slice,.slice],.leaf (.int .i64),.leaf (.int .i64),.leaf (.int .i64)])}
theorem LL:aY Tryz.prog 74 Pp where
def RV:TI:={size:=some 1,agg:=some false,rs:=some (.one (.leaf (.any))),zero:=some (Value.nilFunc),conc:=true}
theorem LS:aY Tryz.prog 78 RV where
 zero:=ak (Value.nilFunc) rfl (by kernel_rfl)
 conc:=av ⟨aO (Tryz.prog.underlying 78),by kernel_rfl,aA (by kernel_rfl)⟩
def Pz:TI:={size:=some 2,agg:=some true,rs:=some (.one (.agg [.int .i64,.int .i64])),zero:=some (Value.agg #[Value.int .i64 0,Value.int .i64 0]),offs:=some [(0,0,false),(1,0,false)],eqs:=some [.i,.i],conc:=true}
theorem K_:aY Tryz.prog 85 Pz where
 size:=ak (2) rfl (by kernel_rfl)
 agg:=ak (true) rfl (by kernel_rfl)
 zero:=ak (Value.agg #[Value.int .i64 0,Value.int .i64 0]) rfl (by kernel_rfl)
 offs:=ak [(0,0,false),(1,0,false)] rfl ⟨br (Tryz.prog.underlying 85),by kernel_rfl,by kernel_rfl⟩
 conc:=av ⟨aO (Tryz.prog.underlying 85),by kernel_rfl,aA (by kernel_rfl)⟩
 eqs:=ak [.i,.i] rfl (by kernel_rfl)
def R1:TI:={size:=some 2,agg:=some true,rs:=some (.one (.agg [.int .i64,.str])),zero:=some (Value.agg #[Value.int .i64 0,Value.string ⟨#[]⟩]),offs:=some [(0,0,false),(1,0,false)],eqs:=some [.i,.s],conc:=true}
theorem LY:aY Tryz.prog 87 R1 where
 size:=ak (2) rfl (by kernel_rfl)
 agg:=ak (true) rfl (by kernel_rfl)
 zero:=ak (Value.agg #[Value.int .i64 0,Value.string ⟨#[]⟩]) rfl (by kernel_rfl)
 offs:=ak [(0,0,false),(1,0,false)] rfl ⟨br (Tryz.prog.underlying 87),by kernel_rfl,by kernel_rfl⟩
 conc:=av ⟨aO (Tryz.prog.underlying 87),by kernel_rfl,aA (by kernel_rfl)⟩
 eqs:=ak [.i,.s] rfl (by kernel_rfl)
def QZ:TI:={size:=some 3,agg:=some true,rs:=some (.one (.agg [.int .i64,.int .i64,.int .i64])),zero:=some (Value.agg #[Value.int .i64 0,Value.int .i64 0,Value.int .i64 0]),offs:=some [(0,0,false),(1,0,false),(2,0,false)],eqs:=some [.i,.i,.i],conc:=true}
theorem KR:aY Tryz.prog 89 QZ where
 size:=ak (3) rfl (by kernel_rfl)
 agg:=ak (true) rfl (by kernel_rfl)
 zero:=ak (Value.agg #[Value.int .i64 0,Value.int .i64 0,Value.int .i64 0]) rfl (by kernel_rfl)
 offs:=ak [(0,0,false),(1,0,false),(2,0,false)] rfl ⟨br (Tryz.prog.underlying 89),by kernel_rfl,by kernel_rfl⟩
 conc:=av ⟨aO (Tryz.prog.underlying 89),by kernel_rfl,aA (by kernel_rfl)⟩
 eqs:=ak [.i,.i,.i] rfl (by kernel_rfl)
def OQ:TI:={rs:=some (.tup [.leaf (.slice),.leaf (.int .i64),.leaf (.int .i64)])}
theorem LA:aY Tryz.prog 94 OQ where
def NG:TI:={size:=some 1,agg:=some false,rs:=some (.one (.leaf (.ptr))),zero:=some (Value.pointer none),conc:=true,isPtr:=true}
theorem Jb:aY Tryz.prog 100 NG where
 zero:=ak (Value.pointer none) rfl (by kernel_rfl)
 conc:=av ⟨aO (Tryz.prog.underlying 100),by kernel_rfl,aA (by kernel_rfl)⟩
 isPtr:=av ⟨261,by kernel_rfl⟩
def M0:TI:={size:=some 1,agg:=some false,rs:=some (.one (.leaf (.ptr))),zero:=some (Value.pointer none),conc:=true,isPtr:=true}
theorem H7:aY Tryz.prog 102 M0 where
 zero:=ak (Value.pointer none) rfl (by kernel_rfl)
 conc:=av ⟨aO (Tryz.prog.underlying 102),by kernel_rfl,aA (by kernel_rfl)⟩
 isPtr:=av ⟨288,by kernel_rfl⟩
def NB:TI:={size:=some 1,agg:=some false,rs:=some (.one (.leaf (.ptr))),zero:=some (Value.pointer none),conc:=true,isPtr:=true}
theorem KA:aY Tryz.prog 104 NB where
 zero:=ak (Value.pointer none) rfl (by kernel_rfl)
 conc:=av ⟨aO (Tryz.prog.underlying 104),by kernel_rfl,aA (by kernel_rfl)⟩
 isPtr:=av ⟨250,by kernel_rfl⟩
def Mb:TI:={rs:=some (.tup [.leaf (.slice),.leaf (.int .i64)])}
theorem Je:aY Tryz.prog 106 Mb where
def NM:TI:={size:=some 1,agg:=some false,rs:=some (.one (.leaf (.map))),zero:=some (Value.map none),elemSh:=some (.leaf (.int .i64)),conc:=true,isMap:=true}
theorem I0:aY Tryz.prog 108 NM where
 zero:=ak (Value.map none) rfl (by kernel_rfl)
 conc:=av ⟨aO (Tryz.prog.underlying 108),by kernel_rfl,aA (by kernel_rfl)⟩
 isMap:=av ⟨3,3,by kernel_rfl⟩
def L_:TI:={size:=some 1,agg:=some false,rs:=some (.one (.leaf (.slice))),zero:=some (Value.slice none 0 0),slc:=some (111,1),conc:=true,isSlc:=true}
theorem Kg:aY Tryz.prog 109 L_ where
 zero:=ak (Value.slice none 0 0) rfl (by kernel_rfl)
 slc:=ce 111 1 rfl ⟨by kernel_rfl,by kernel_rfl⟩
 conc:=av ⟨aO (Tryz.prog.underlying 109),by kernel_rfl,aA (by kernel_rfl)⟩
 isSlc:=av ⟨111,by kernel_rfl⟩
def Mi:TI:={size:=some 1,agg:=some false,rs:=some (.one (.leaf (.slice))),zero:=some (Value.slice none 0 0),slc:=some (138,1),conc:=true,isSlc:=true}
theorem Jc:aY Tryz.prog 110 Mi where
 zero:=ak (Value.slice none 0 0) rfl (by kernel_rfl)
 slc:=ce 138 1 rfl ⟨by kernel_rfl,by kernel_rfl⟩
 conc:=av ⟨aO (Tryz.prog.underlying 110),by kernel_rfl,aA (by kernel_rfl)⟩
 isSlc:=av ⟨138,by kernel_rfl⟩
def NE:TI:={size:=some 1,agg:=some false,rs:=some (.one (.leaf (.slice))),zero:=some (Value.slice none 0 0),slc:=some (138,1),conc:=true,isSlc:=true}
theorem Is:aY Tryz.prog 111 NE where
 zero:=ak (Value.slice none 0 0) rfl (by kernel_rfl)
 slc:=ce 138 1 rfl ⟨by kernel_rfl,by kernel_rfl⟩
 conc:=av ⟨aO (Tryz.prog.underlying 111),by kernel_rfl,aA (by kernel_rfl)⟩
 isSlc:=av ⟨138,by kernel_rfl⟩
def Ng:TI:={size:=some 4,agg:=some true,rs:=some (.one (.agg [.slice,.map,.slice,.slice])),zero:=some (Value.agg #[Value.slice none 0 0,Value.map none,Value.slice none 0 0,Value.slice none 0 0]),offs:=some [(0,0,false),(1,0,false),(2,0,false),(3,0,false)],conc:=true}
theorem H9:aY Tryz.prog 113 Ng where
 size:=ak (4) rfl (by kernel_rfl)
 agg:=ak (true) rfl (by kernel_rfl)
 zero:=ak (Value.agg #[Value.slice none 0 0,Value.map none,Value.slice none 0 0,Value.slice none 0 0]) rfl (by kernel_rfl)
 offs:=ak [(0,0,false),(1,0,false),(2,0,false),(3,0,false)] rfl ⟨br (Tryz.prog.underlying 113),by kernel_rfl,by kernel_rfl⟩
 conc:=av ⟨aO (Tryz.prog.underlying 113),by kernel_rfl,aA (by kernel_rfl)⟩
def NJ:TI:={size:=some 1,agg:=some false,rs:=some (.one (.leaf (.slice))),zero:=some (Value.slice none 0 0),slc:=some (28,1),conc:=true,isSlc:=true}
theorem IB:aY Tryz.prog 116 NJ where
 zero:=ak (Value.slice none 0 0) rfl (by kernel_rfl)
 slc:=ce 28 1 rfl ⟨by kernel_rfl,by kernel_rfl⟩
 conc:=av ⟨aO (Tryz.prog.underlying 116),by kernel_rfl,aA (by kernel_rfl)⟩
 isSlc:=av ⟨28,by kernel_rfl⟩
def NL:TI:={size:=some 1,agg:=some false,rs:=some (.one (.leaf (.slice))),zero:=some (Value.slice none 0 0),slc:=some (4,1),conc:=true,isSlc:=true}
theorem Kh:aY Tryz.prog 117 NL where
 zero:=ak (Value.slice none 0 0) rfl (by kernel_rfl)
 slc:=ce 4 1 rfl ⟨by kernel_rfl,by kernel_rfl⟩
 conc:=av ⟨aO (Tryz.prog.underlying 117),by kernel_rfl,aA (by kernel_rfl)⟩
 isSlc:=av ⟨4,by kernel_rfl⟩
def Na:TI:={size:=some 4,agg:=some true,rs:=some (.one (.agg [.int .u32,.int .i32,.int .u32,.slice])),zero:=some (Value.agg #[Value.int .u32 0,Value.int .i32 0,Value.int .u32 0,Value.slice none 0 0]),offs:=some [(0,2,true),(3,0,false)],conc:=true}
theorem H2:aY Tryz.prog 131 Na where
 size:=ak (4) rfl (by kernel_rfl)
 agg:=ak (true) rfl (by kernel_rfl)
 zero:=ak (Value.agg #[Value.int .u32 0,Value.int .i32 0,Value.int .u32 0,Value.slice none 0 0]) rfl (by kernel_rfl)
 offs:=ak [(0,2,true),(3,0,false)] rfl ⟨br (Tryz.prog.underlying 131),by kernel_rfl,by kernel_rfl⟩
 conc:=av ⟨aO (Tryz.prog.underlying 131),by kernel_rfl,aA (by kernel_rfl)⟩
def Mq:TI:={size:=some 7,agg:=some true,rs:=some (.one (.agg [.ptr,.slice,.slice,.int .u32,.int .i32,.int .u32,.slice])),zero:=some (Value.agg #[Value.pointer none,Value.slice none 0 0,Value.slice none 0 0,Value.int .u32 0,Value.int .i32 0,Value.int .u32 0,Value.slice none 0 0]),offs:=some [(0,0,false),(1,0,false),(2,0,false),(3,3,true)],conc:=true}
theorem IU:aY Tryz.prog 133 Mq where
 size:=ak (7) rfl (by kernel_rfl)
 agg:=ak (true) rfl (by kernel_rfl)
 zero:=ak (Value.agg #[Value.pointer none,Value.slice none 0 0,Value.slice none 0 0,Value.int .u32 0,Value.int .i32 0,Value.int .u32 0,Value.slice none 0 0]) rfl (by kernel_rfl)
 offs:=ak [(0,0,false),(1,0,false),(2,0,false),(3,3,true)] rfl ⟨br (Tryz.prog.underlying 133),by kernel_rfl,by kernel_rfl⟩
 conc:=av ⟨aO (Tryz.prog.underlying 133),by kernel_rfl,aA (by kernel_rfl)⟩
def Ns:TI:={size:=some 1,agg:=some false,rs:=some (.one (.leaf (.any))),zero:=some (Value.nilFunc),conc:=true}
theorem KE:aY Tryz.prog 135 Ns where
 zero:=ak (Value.nilFunc) rfl (by kernel_rfl)
 conc:=av ⟨aO (Tryz.prog.underlying 135),by kernel_rfl,aA (by kernel_rfl)⟩
def L':TI:={size:=some 1,agg:=some false,rs:=some (.one (.leaf (.int .u64))),zero:=some (Value.int .u64 0),intk:=some .u64,conc:=true}
theorem Jm:aY Tryz.prog 138 L' where
 zero:=ak (Value.int .u64 0) rfl (by kernel_rfl)
 intk:=ak (IntKind.u64) rfl (by kernel_rfl)
 conc:=av ⟨aO (Tryz.prog.underlying 138),by kernel_rfl,aA (by kernel_rfl)⟩
def L9:TI:={rs:=some (.tup [.leaf (.slice),.leaf (.map)])}
theorem JO:aY Tryz.prog 140 L9 where
def Mm:TI:={size:=some 1,agg:=some true,rs:=some (.one (.agg [.ptr])),zero:=some (Value.agg #[Value.pointer none]),offs:=some [(0,0,false)],conc:=true}
theorem Js:aY Tryz.prog 144 Mm where
 agg:=ak (true) rfl (by kernel_rfl)
 zero:=ak (Value.agg #[Value.pointer none]) rfl (by kernel_rfl)
 offs:=ak [(0,0,false)] rfl ⟨br (Tryz.prog.underlying 144),by kernel_rfl,by kernel_rfl⟩
 conc:=av ⟨aO (Tryz.prog.underlying 144),by kernel_rfl,aA (by kernel_rfl)⟩
def MX:TI:={size:=some 1,agg:=some true,rs:=some (.one (.agg [.ptr])),zero:=some (Value.agg #[Value.pointer none]),offs:=some [(0,0,false)],conc:=true}
theorem JZ:aY Tryz.prog 145 MX where
 agg:=ak (true) rfl (by kernel_rfl)
 zero:=ak (Value.agg #[Value.pointer none]) rfl (by kernel_rfl)
 offs:=ak [(0,0,false)] rfl ⟨br (Tryz.prog.underlying 145),by kernel_rfl,by kernel_rfl⟩
 conc:=av ⟨aO (Tryz.prog.underlying 145),by kernel_rfl,aA (by kernel_rfl)⟩
def Nr:TI:={size:=some 1,agg:=some false,rs:=some (.one (.leaf (.any))),zero:=some (Value.nilIface)}
theorem JD:aY Tryz.prog 147 Nr where
 zero:=ak (Value.nilIface) rfl (by kernel_rfl)
def NH:TI:={size:=some 2,agg:=some true,rs:=some (.one (.agg [.slice,.slice])),zero:=some (Value.agg #[Value.slice none 0 0,Value.slice none 0 0]),offs:=some [(0,0,false),(1,0,false)],conc:=true}
theorem Kq:aY Tryz.prog 151 NH where
 size:=ak (2) rfl (by kernel_rfl)
 agg:=ak (true) rfl (by kernel_rfl)
 zero:=ak (Value.agg #[Value.slice none 0 0,Value.slice none 0 0]) rfl (by kernel_rfl)
 offs:=ak [(0,0,false),(1,0,false)] rfl ⟨br (Tryz.prog.underlying 151),by kernel_rfl,by kernel_rfl⟩
 conc:=av ⟨aO (Tryz.prog.underlying 151),by kernel_rfl,aA (by kernel_rfl)⟩
def Nv:TI:={size:=some 1,agg:=some false,rs:=some (.one (.leaf (.slice))),zero:=some (Value.slice none 0 0),slc:=some (117,1),conc:=true,isSlc:=true}
theorem Ir:aY Tryz.prog 152 Nv where
 zero:=ak (Value.slice none 0 0) rfl (by kernel_rfl)
 slc:=ce 117 1 rfl ⟨by kernel_rfl,by kernel_rfl⟩
 conc:=av ⟨aO (Tryz.prog.underlying 152),by kernel_rfl,aA (by kernel_rfl)⟩
 isSlc:=av ⟨117,by kernel_rfl⟩
def NN:TI:={size:=some 7,agg:=some true,rs:=some (.one (.agg [.ptr,.slice,.slice,.slice,.slice,.slice,.slice])),zero:=some (Value.agg #[Value.pointer none,Value.slice none 0 0,Value.slice none 0 0,Value.slice none 0 0,Value.slice none 0 0,Value.slice none 0 0,Value.slice none 0 0]),offs:=some [(0,0,false),(1,1,true),(3,1,true),(5,0,false),(6,0,false)],conc:=true}
theorem IF:aY Tryz.prog 154 NN where
 size:=ak (7) rfl (by kernel_rfl)
 agg:=ak (true) rfl (by kernel_rfl)
 zero:=ak (Value.agg #[Value.pointer none,Value.slice none 0 0,Value.slice none 0 0,Value.slice none 0 0,Value.slice none 0 0,Value.slice none 0 0,Value.slice none 0 0]) rfl (by kernel_rfl)
 offs:=ak [(0,0,false),(1,1,true),(3,1,true),(5,0,false),(6,0,false)] rfl ⟨br (Tryz.prog.underlying 154),by kernel_rfl,by kernel_rfl⟩
 conc:=av ⟨aO (Tryz.prog.underlying 154),by kernel_rfl,aA (by kernel_rfl)⟩
def MD:TI:={size:=some 1,agg:=some false,rs:=some (.one (.leaf (.any))),zero:=some (Value.nilFunc),conc:=true}
theorem Iq:aY Tryz.prog 157 MD where
 zero:=ak (Value.nilFunc) rfl (by kernel_rfl)
 conc:=av ⟨aO (Tryz.prog.underlying 157),by kernel_rfl,aA (by kernel_rfl)⟩
def Nn:TI:={size:=some 4,agg:=some true,rs:=some (.one (.agg [.ptr,.slice,.int .i64,.int .i64])),zero:=some (Value.agg #[Value.pointer none,Value.slice none 0 0,Value.int .i64 0,Value.int .i64 0]),offs:=some [(0,0,false),(1,0,false),(2,0,false),(3,0,false)],conc:=true}
theorem Ij:aY Tryz.prog 159 Nn where
 size:=ak (4) rfl (by kernel_rfl)
 agg:=ak (true) rfl (by kernel_rfl)
 zero:=ak (Value.agg #[Value.pointer none,Value.slice none 0 0,Value.int .i64 0,Value.int .i64 0]) rfl (by kernel_rfl)
 offs:=ak [(0,0,false),(1,0,false),(2,0,false),(3,0,false)] rfl ⟨br (Tryz.prog.underlying 159),by kernel_rfl,by kernel_rfl⟩
 conc:=av ⟨aO (Tryz.prog.underlying 159),by kernel_rfl,aA (by kernel_rfl)⟩
def MK:TI:={rs:=some (.tup [.agg [.bool,.slice,.slice,.slice,.slice,.slice],.leaf (.int .i64),.leaf (.int .i64)])}
theorem JV:aY Tryz.prog 162 MK where
def NF:TI:={size:=some 1,agg:=some false,rs:=some (.one (.leaf (.int .i64))),zero:=some (Value.int .i64 0),intk:=some .i64,conc:=true}
theorem Ki:aY Tryz.prog 164 NF where
 zero:=ak (Value.int .i64 0) rfl (by kernel_rfl)
 intk:=ak (IntKind.i64) rfl (by kernel_rfl)
 conc:=av ⟨aO (Tryz.prog.underlying 164),by kernel_rfl,aA (by kernel_rfl)⟩
def M4:TI:={rs:=some (.tup [.leaf (.ptr),.leaf (.int .i64),.leaf (.int .i64),.leaf (.int .i64)])}
theorem Ky:aY Tryz.prog 165 M4 where
def MJ:TI:={size:=some 2,agg:=some true,rs:=some (.one (.agg [.int .i64,.int .i64])),zero:=some (Value.agg #[Value.int .i64 0,Value.int .i64 0]),offs:=some [(0,0,false),(1,0,false)],eqs:=some [.i,.i],conc:=true}
theorem JA:aY Tryz.prog 170 MJ where
 size:=ak (2) rfl (by kernel_rfl)
 agg:=ak (true) rfl (by kernel_rfl)
 zero:=ak (Value.agg #[Value.int .i64 0,Value.int .i64 0]) rfl (by kernel_rfl)
 offs:=ak [(0,0,false),(1,0,false)] rfl ⟨br (Tryz.prog.underlying 170),by kernel_rfl,by kernel_rfl⟩
 conc:=av ⟨aO (Tryz.prog.underlying 170),by kernel_rfl,aA (by kernel_rfl)⟩
 eqs:=ak [.i,.i] rfl (by kernel_rfl)
def NC:TI:={rs:=some (.tup [.agg [.slice,.slice],.leaf (.int .i64),.leaf (.int .i64)])}
theorem JQ:aY Tryz.prog 172 NC where
def M1:TI:={rs:=some (.tup [.leaf (.int .i64),.leaf (.int .i64)])}
theorem I8:aY Tryz.prog 174 M1 where
def Nk:TI:={size:=some 9,agg:=some true,rs:=some (.one (.agg [.bool,.slice,.slice,.slice,.slice,.slice,.ptr,.ptr,.ptr])),zero:=some (Value.agg #[Value.bool false,Value.slice none 0 0,Value.slice none 0 0,Value.slice none 0 0,Value.slice none 0 0,Value.slice none 0 0,Value.pointer none,Value.pointer none,Value.pointer none]),offs:=some [(0,5,true),(6,0,false),(7,0,false),(8,0,false)],conc:=true}
theorem Kf:aY Tryz.prog 179 Nk where
 size:=ak (9) rfl (by kernel_rfl)
 agg:=ak (true) rfl (by kernel_rfl)
 zero:=ak (Value.agg #[Value.bool false,Value.slice none 0 0,Value.slice none 0 0,Value.slice none 0 0,Value.slice none 0 0,Value.slice none 0 0,Value.pointer none,Value.pointer none,Value.pointer none]) rfl (by kernel_rfl)
 offs:=ak [(0,5,true),(6,0,false),(7,0,false),(8,0,false)] rfl ⟨br (Tryz.prog.underlying 179),by kernel_rfl,by kernel_rfl⟩
 conc:=av ⟨aO (Tryz.prog.underlying 179),by kernel_rfl,aA (by kernel_rfl)⟩
def MM:TI:={size:=some 4,agg:=some true,rs:=some (.one (.agg [.int .u32,.int .i32,.int .u32,.slice])),zero:=some (Value.agg #[Value.int .u32 0,Value.int .i32 0,Value.int .u32 0,Value.slice none 0 0]),offs:=some [(0,2,true),(3,0,false)],conc:=true}
theorem IJ:aY Tryz.prog 181 MM where
 size:=ak (4) rfl (by kernel_rfl)
 agg:=ak (true) rfl (by kernel_rfl)
 zero:=ak (Value.agg #[Value.int .u32 0,Value.int .i32 0,Value.int .u32 0,Value.slice none 0 0]) rfl (by kernel_rfl)
 offs:=ak [(0,2,true),(3,0,false)] rfl ⟨br (Tryz.prog.underlying 181),by kernel_rfl,by kernel_rfl⟩
 conc:=av ⟨aO (Tryz.prog.underlying 181),by kernel_rfl,aA (by kernel_rfl)⟩
def Nf:TI:={size:=some 14,agg:=some true,rs:=some (.one (.agg [.bool,.slice,.slice,.slice,.slice,.slice,.ptr,.ptr,.ptr,.int .u32,.int .i32,.int .u32,.slice,.int .i64])),zero:=some (Value.agg #[Value.bool false,Value.slice none 0 0,Value.slice none 0 0,Value.slice none 0 0,Value.slice none 0 0,Value.slice none 0 0,Value.pointer none,Value.pointer none,Value.pointer none,Value.int .u32 0,Value.int .i32 0,Value.int .u32 0,Value.slice none 0 0,Value.int .i64 0]),offs:=some [(0,8,true),(9,3,true),(13,0,true)],conc:=true}
theorem Jq:aY Tryz.prog 186 Nf where
 size:=ak (14) rfl (by kernel_rfl)
 agg:=ak (true) rfl (by kernel_rfl)
 zero:=ak (Value.agg #[Value.bool false,Value.slice none 0 0,Value.slice none 0 0,Value.slice none 0 0,Value.slice none 0 0,Value.slice none 0 0,Value.pointer none,Value.pointer none,Value.pointer none,Value.int .u32 0,Value.int .i32 0,Value.int .u32 0,Value.slice none 0 0,Value.int .i64 0]) rfl (by kernel_rfl)
 offs:=ak [(0,8,true),(9,3,true),(13,0,true)] rfl ⟨br (Tryz.prog.underlying 186),by kernel_rfl,by kernel_rfl⟩
 conc:=av ⟨aO (Tryz.prog.underlying 186),by kernel_rfl,aA (by kernel_rfl)⟩
def Mt:TI:={rs:=some (.tup [.leaf (.slice),.leaf (.bool)])}
theorem J8:aY Tryz.prog 194 Mt where
def ND:TI:={size:=some 1,agg:=some false,rs:=some (.one (.leaf (.any))),zero:=some (Value.nilFunc),conc:=true}
theorem Kc:aY Tryz.prog 199 ND where
 zero:=ak (Value.nilFunc) rfl (by kernel_rfl)
 conc:=av ⟨aO (Tryz.prog.underlying 199),by kernel_rfl,aA (by kernel_rfl)⟩
def MG:TI:={size:=some 1,agg:=some false,rs:=some (.one (.leaf (.int .u64))),zero:=some (Value.int .u64 0),intk:=some .u64,conc:=true}
theorem HU:aY Tryz.prog 202 MG where
 zero:=ak (Value.int .u64 0) rfl (by kernel_rfl)
 intk:=ak (IntKind.u64) rfl (by kernel_rfl)
 conc:=av ⟨aO (Tryz.prog.underlying 202),by kernel_rfl,aA (by kernel_rfl)⟩
def Mh:TI:={rs:=some (.tup [.leaf (.int .u64),.leaf (.int .u64)])}
theorem Ia:aY Tryz.prog 203 Mh where
def Ni:TI:={size:=some 1,agg:=some false,rs:=some (.one (.leaf (.map))),zero:=some (Value.map none),elemSh:=some (.leaf (.int .i64)),conc:=true,isMap:=true}
theorem JH:aY Tryz.prog 205 Ni where
 zero:=ak (Value.map none) rfl (by kernel_rfl)
 conc:=av ⟨aO (Tryz.prog.underlying 205),by kernel_rfl,aA (by kernel_rfl)⟩
 isMap:=av ⟨9,3,by kernel_rfl⟩
def Nb:TI:={rs:=some (.tup [.leaf (.slice),.leaf (.bool)])}
theorem J':aY Tryz.prog 207 Nb where
def M8:TI:={size:=some 1,agg:=some false,rs:=some (.one (.leaf (.ptr))),zero:=some (Value.pointer none),conc:=true,isPtr:=true}
theorem JX:aY Tryz.prog 209 M8 where
 zero:=ak (Value.pointer none) rfl (by kernel_rfl)
 conc:=av ⟨aO (Tryz.prog.underlying 209),by kernel_rfl,aA (by kernel_rfl)⟩
 isPtr:=av ⟨211,by kernel_rfl⟩
def NK:TI:={size:=some 7,agg:=some true,rs:=some (.one (.agg [.bool,.slice,.slice,.slice,.slice,.slice,.int .i64])),zero:=some (Value.agg #[Value.bool false,Value.slice none 0 0,Value.slice none 0 0,Value.slice none 0 0,Value.slice none 0 0,Value.slice none 0 0,Value.int .i64 0]),offs:=some [(0,5,true),(6,0,false)],conc:=true}
theorem Jw:aY Tryz.prog 211 NK where
 size:=ak (7) rfl (by kernel_rfl)
 agg:=ak (true) rfl (by kernel_rfl)
 zero:=ak (Value.agg #[Value.bool false,Value.slice none 0 0,Value.slice none 0 0,Value.slice none 0 0,Value.slice none 0 0,Value.slice none 0 0,Value.int .i64 0]) rfl (by kernel_rfl)
 offs:=ak [(0,5,true),(6,0,false)] rfl ⟨br (Tryz.prog.underlying 211),by kernel_rfl,by kernel_rfl⟩
 conc:=av ⟨aO (Tryz.prog.underlying 211),by kernel_rfl,aA (by kernel_rfl)⟩
def M2:TI:={rs:=some (.tup [.leaf (.ptr),.leaf (.int .i64),.leaf (.int .i64)])}
theorem IH:aY Tryz.prog 213 M2 where
def Nm:TI:={rs:=some (.tup [.leaf (.ptr),.leaf (.int .i64),.leaf (.int .i64)])}
theorem Kr:aY Tryz.prog 215 Nm where
def Mu:TI:={size:=some 1,agg:=some false,rs:=some (.one (.leaf (.any))),zero:=some (Value.nilFunc),conc:=true}
theorem Kv:aY Tryz.prog 218 Mu where
 zero:=ak (Value.nilFunc) rfl (by kernel_rfl)
 conc:=av ⟨aO (Tryz.prog.underlying 218),by kernel_rfl,aA (by kernel_rfl)⟩
def Mv:TI:={rs:=some (.tup [.leaf (.ptr),.leaf (.int .i64)])}
theorem II:aY Tryz.prog 219 Mv where
def Mc:TI:={rs:=some (.tup [.leaf (.str),.leaf (.bool)])}
theorem HS:aY Tryz.prog 222 Mc where
def MA:TI:={size:=some 1,agg:=some false,rs:=some (.one (.leaf (.any))),zero:=some (Value.nilFunc),conc:=true}
theorem JF:aY Tryz.prog 234 MA where
 zero:=ak (Value.nilFunc) rfl (by kernel_rfl)
 conc:=av ⟨aO (Tryz.prog.underlying 234),by kernel_rfl,aA (by kernel_rfl)⟩
def M3:TI:={size:=some 1,agg:=some false,rs:=some (.one (.leaf (.any))),zero:=some (Value.nilFunc),conc:=true}
theorem If:aY Tryz.prog 238 M3 where
 zero:=ak (Value.nilFunc) rfl (by kernel_rfl)
 conc:=av ⟨aO (Tryz.prog.underlying 238),by kernel_rfl,aA (by kernel_rfl)⟩
def Mg:TI:={size:=some 1,agg:=some false,rs:=some (.one (.leaf (.any))),zero:=some (Value.nilFunc),conc:=true}
theorem JY:aY Tryz.prog 240 Mg where
 zero:=ak (Value.nilFunc) rfl (by kernel_rfl)
 conc:=av ⟨aO (Tryz.prog.underlying 240),by kernel_rfl,aA (by kernel_rfl)⟩
def MQ:TI:={size:=some 1,agg:=some false,rs:=some (.one (.leaf (.int .u16))),zero:=some (Value.int .u16 0),intk:=some .u16,conc:=true}
theorem Jk:aY Tryz.prog 242 MQ where
 zero:=ak (Value.int .u16 0) rfl (by kernel_rfl)
 intk:=ak (IntKind.u16) rfl (by kernel_rfl)
 conc:=av ⟨aO (Tryz.prog.underlying 242),by kernel_rfl,aA (by kernel_rfl)⟩
def Nl:TI:={rs:=some (.tup [.agg [.slice,.slice],.leaf (.int .i64)])}
theorem IE:aY Tryz.prog 243 Nl where
def ME:TI:={size:=some 256,agg:=some true,zero:=some (Value.agg (List.toArray (List.replicate 256 (Value.bool false)))),arr:=some (256,1),conc:=true}
theorem Ji:aY Tryz.prog 248 ME where
 size:=ak (256) rfl (by kernel_rfl)
 agg:=ak (true) rfl (by kernel_rfl)
 zero:=ak (Value.agg (List.toArray (List.replicate 256 (Value.bool false)))) rfl (by kernel_rfl)
 arr:=ce 256 1 rfl ⟨4,by kernel_rfl,by kernel_rfl⟩
 conc:=av ⟨aO (Tryz.prog.underlying 248),by kernel_rfl,aA (by kernel_rfl)⟩
def MV:TI:={size:=some 260,agg:=some true,zero:=some (Value.agg (List.toArray ([Value.slice none 0 0,Value.map none,Value.map none]++List.replicate 256 (Value.bool false)++ [Value.int .i64 0]))),offs:=some [(0,0,false),(1,0,false),(2,0,false),(3,255,true),(259,0,false)],conc:=true}
theorem Jh:aY Tryz.prog 250 MV where
 size:=ak (260) rfl (by kernel_rfl)
 agg:=ak (true) rfl (by kernel_rfl)
 zero:=ak (Value.agg (List.toArray ([Value.slice none 0 0,Value.map none,Value.map none]++List.replicate 256 (Value.bool false)++ [Value.int .i64 0]))) rfl (by kernel_rfl)
 offs:=ak [(0,0,false),(1,0,false),(2,0,false),(3,255,true),(259,0,false)] rfl ⟨br (Tryz.prog.underlying 250),by kernel_rfl,by kernel_rfl⟩
 conc:=av ⟨aO (Tryz.prog.underlying 250),by kernel_rfl,aA (by kernel_rfl)⟩
def Me:TI:={size:=some 1,agg:=some false,rs:=some (.one (.leaf (.slice))),zero:=some (Value.slice none 0 0),slc:=some (300,3),conc:=true,isSlc:=true}
theorem JB:aY Tryz.prog 258 Me where
 zero:=ak (Value.slice none 0 0) rfl (by kernel_rfl)
 slc:=ce 300 3 rfl ⟨by kernel_rfl,by kernel_rfl⟩
 conc:=av ⟨aO (Tryz.prog.underlying 258),by kernel_rfl,aA (by kernel_rfl)⟩
 isSlc:=av ⟨300,by kernel_rfl⟩
def M5:TI:={size:=some 1,agg:=some false,rs:=some (.one (.leaf (.map))),zero:=some (Value.map none),elemSh:=some (.leaf (.int .i64)),conc:=true,isMap:=true}
theorem KH:aY Tryz.prog 259 M5 where
 zero:=ak (Value.map none) rfl (by kernel_rfl)
 conc:=av ⟨aO (Tryz.prog.underlying 259),by kernel_rfl,aA (by kernel_rfl)⟩
 isMap:=av ⟨85,3,by kernel_rfl⟩
def Nt:TI:={size:=some 4,agg:=some true,rs:=some (.one (.agg [.slice,.map,.map,.int .i64])),zero:=some (Value.agg #[Value.slice none 0 0,Value.map none,Value.map none,Value.int .i64 0]),offs:=some [(0,0,false),(1,0,false),(2,0,false),(3,0,false)],conc:=true}
theorem Il:aY Tryz.prog 261 Nt where
 size:=ak (4) rfl (by kernel_rfl)
 agg:=ak (true) rfl (by kernel_rfl)
 zero:=ak (Value.agg #[Value.slice none 0 0,Value.map none,Value.map none,Value.int .i64 0]) rfl (by kernel_rfl)
 offs:=ak [(0,0,false),(1,0,false),(2,0,false),(3,0,false)] rfl ⟨br (Tryz.prog.underlying 261),by kernel_rfl,by kernel_rfl⟩
 conc:=av ⟨aO (Tryz.prog.underlying 261),by kernel_rfl,aA (by kernel_rfl)⟩
def MF:TI:={rs:=some (.tup [.agg [.int .i64,.str],.leaf (.bool)])}
theorem Ip:aY Tryz.prog 265 MF where
def ML:TI:={rs:=some (.tup [.leaf (.int .u64),.leaf (.int .u64)])}
theorem It:aY Tryz.prog 272 ML where
def M_:TI:={rs:=some (.tup [.leaf (.slice),.leaf (.int .i64)])}
theorem JC:aY Tryz.prog 274 M_ where
def MB:TI:={rs:=some (.tup [.leaf (.str),.leaf (.str),.leaf (.bool)])}
theorem J0:aY Tryz.prog 278 MB where
def MT:TI:={size:=some 256,agg:=some true,zero:=some (Value.agg (List.toArray (List.replicate 256 (Value.int .i64 0)))),arr:=some (256,1),conc:=true}
theorem Kk:aY Tryz.prog 284 MT where
 size:=ak (256) rfl (by kernel_rfl)
 agg:=ak (true) rfl (by kernel_rfl)
 zero:=ak (Value.agg (List.toArray (List.replicate 256 (Value.int .i64 0)))) rfl (by kernel_rfl)
 arr:=ce 256 1 rfl ⟨3,by kernel_rfl,by kernel_rfl⟩
 conc:=av ⟨aO (Tryz.prog.underlying 284),by kernel_rfl,aA (by kernel_rfl)⟩
def My:TI:={size:=some 16,agg:=some true,rs:=some (.one (.agg [.bool,.bool,.bool,.bool,.bool,.bool,.bool,.bool,.bool,.bool,.bool,.bool,.bool,.bool,.bool,.bool])),zero:=some (Value.agg #[Value.bool false,Value.bool false,Value.bool false,Value.bool false,Value.bool false,Value.bool false,Value.bool false,Value.bool false,Value.bool false,Value.bool false,Value.bool false,Value.bool false,Value.bool false,Value.bool false,Value.bool false,Value.bool false]),arr:=some (16,1),conc:=true}
theorem Jp:aY Tryz.prog 285 My where
 size:=ak (16) rfl (by kernel_rfl)
 agg:=ak (true) rfl (by kernel_rfl)
 zero:=ak (Value.agg #[Value.bool false,Value.bool false,Value.bool false,Value.bool false,Value.bool false,Value.bool false,Value.bool false,Value.bool false,Value.bool false,Value.bool false,Value.bool false,Value.bool false,Value.bool false,Value.bool false,Value.bool false,Value.bool false]) rfl (by kernel_rfl)
 arr:=ce 16 1 rfl ⟨4,by kernel_rfl,by kernel_rfl⟩
 conc:=av ⟨aO (Tryz.prog.underlying 285),by kernel_rfl,aA (by kernel_rfl)⟩
def L6:TI:={size:=some 256,agg:=some true,zero:=some (Value.agg (List.toArray (List.replicate 256 (Value.bool false)))),arr:=some (16,16),conc:=true}
theorem JK:aY Tryz.prog 286 L6 where
 size:=ak (256) rfl (by kernel_rfl)
 agg:=ak (true) rfl (by kernel_rfl)
 zero:=ak (Value.agg (List.toArray (List.replicate 256 (Value.bool false)))) rfl (by kernel_rfl)
 arr:=ce 16 16 rfl ⟨285,by kernel_rfl,by kernel_rfl⟩
 conc:=av ⟨aO (Tryz.prog.underlying 286),by kernel_rfl,aA (by kernel_rfl)⟩
def Mf:TI:={size:=some 512,agg:=some true,zero:=some (Value.agg (List.toArray (List.replicate 256 (Value.int .i64 0)++List.replicate 256 (Value.bool false)))),offs:=some [(0,255,true),(256,255,true)],conc:=true}
theorem JL:aY Tryz.prog 288 Mf where
 size:=ak (512) rfl (by kernel_rfl)
 agg:=ak (true) rfl (by kernel_rfl)
 zero:=ak (Value.agg (List.toArray (List.replicate 256 (Value.int .i64 0)++List.replicate 256 (Value.bool false)))) rfl (by kernel_rfl)
 offs:=ak [(0,255,true),(256,255,true)] rfl ⟨br (Tryz.prog.underlying 288),by kernel_rfl,by kernel_rfl⟩
 conc:=av ⟨aO (Tryz.prog.underlying 288),by kernel_rfl,aA (by kernel_rfl)⟩
def NO:TI:={size:=some 3,agg:=some true,rs:=some (.one (.agg [.str,.int .i64,.int .i64])),zero:=some (Value.agg #[Value.string ⟨#[]⟩,Value.int .i64 0,Value.int .i64 0]),offs:=some [(0,0,false),(1,1,true)],conc:=true}
theorem JE:aY Tryz.prog 300 NO where
 size:=ak (3) rfl (by kernel_rfl)
 agg:=ak (true) rfl (by kernel_rfl)
 zero:=ak (Value.agg #[Value.string ⟨#[]⟩,Value.int .i64 0,Value.int .i64 0]) rfl (by kernel_rfl)
 offs:=ak [(0,0,false),(1,1,true)] rfl ⟨br (Tryz.prog.underlying 300),by kernel_rfl,by kernel_rfl⟩
 conc:=av ⟨aO (Tryz.prog.underlying 300),by kernel_rfl,aA (by kernel_rfl)⟩
def Mr:TI:={size:=some 1,agg:=some false,rs:=some (.one (.leaf (.int .i64))),zero:=some (Value.int .i64 0),intk:=some .i64,conc:=true}
theorem IG:aY Tryz.prog 303 Mr where
 zero:=ak (Value.int .i64 0) rfl (by kernel_rfl)
 intk:=ak (IntKind.i64) rfl (by kernel_rfl)
 conc:=av ⟨aO (Tryz.prog.underlying 303),by kernel_rfl,aA (by kernel_rfl)⟩
def No:TI:={rs:=some (.tup [.leaf (.int .i64),.leaf (.int .i64)])}
theorem IT:aY Tryz.prog 304 No where
def MY:TI:={size:=some 1,agg:=some false,rs:=some (.one (.leaf (.ptr))),zero:=some (Value.pointer none),conc:=true,isPtr:=true}
theorem Jt:aY Tryz.prog 315 MY where
 zero:=ak (Value.pointer none) rfl (by kernel_rfl)
 conc:=av ⟨aO (Tryz.prog.underlying 315),by kernel_rfl,aA (by kernel_rfl)⟩
 isPtr:=av ⟨343,by kernel_rfl⟩
def Nw:TI:={size:=some 1,agg:=some false,rs:=some (.one (.leaf (.map))),zero:=some (Value.map none),elemSh:=some (.leaf (.int .i64)),conc:=true,isMap:=true}
theorem J_:aY Tryz.prog 317 Nw where
 zero:=ak (Value.map none) rfl (by kernel_rfl)
 conc:=av ⟨aO (Tryz.prog.underlying 317),by kernel_rfl,aA (by kernel_rfl)⟩
 isMap:=av ⟨4,3,by kernel_rfl⟩
def Mk:TI:={rs:=some (.tup [.agg [.int .i64,.int .i64],.leaf (.bool)])}
theorem IP:aY Tryz.prog 320 Mk where
def Nj:TI:={size:=some 1,agg:=some false,rs:=some (.one (.leaf (.ptr))),zero:=some (Value.pointer none),conc:=true,isPtr:=true}
theorem JS:aY Tryz.prog 330 Nj where
 zero:=ak (Value.pointer none) rfl (by kernel_rfl)
 conc:=av ⟨aO (Tryz.prog.underlying 330),by kernel_rfl,aA (by kernel_rfl)⟩
 isPtr:=av ⟨360,by kernel_rfl⟩
def Mo:TI:={size:=some 1,agg:=some false,rs:=some (.one (.leaf (.ptr))),zero:=some (Value.pointer none),conc:=true,isPtr:=true}
theorem JW:aY Tryz.prog 336 Mo where
 zero:=ak (Value.pointer none) rfl (by kernel_rfl)
 conc:=av ⟨aO (Tryz.prog.underlying 336),by kernel_rfl,aA (by kernel_rfl)⟩
 isPtr:=av ⟨3,by kernel_rfl⟩
def Ms:TI:={size:=some 2,agg:=some true,rs:=some (.one (.agg [.int .i64,.int .i64])),zero:=some (Value.agg #[Value.int .i64 0,Value.int .i64 0]),offs:=some [(0,1,true)],conc:=true}
theorem Ib:aY Tryz.prog 341 Ms where
 size:=ak (2) rfl (by kernel_rfl)
 agg:=ak (true) rfl (by kernel_rfl)
 zero:=ak (Value.agg #[Value.int .i64 0,Value.int .i64 0]) rfl (by kernel_rfl)
 offs:=ak [(0,1,true)] rfl ⟨br (Tryz.prog.underlying 341),by kernel_rfl,by kernel_rfl⟩
 conc:=av ⟨aO (Tryz.prog.underlying 341),by kernel_rfl,aA (by kernel_rfl)⟩
def M9:TI:={size:=some 5,agg:=some true,rs:=some (.one (.agg [.int .i64,.int .i64,.ptr,.int .i64,.int .i64])),zero:=some (Value.agg #[Value.int .i64 0,Value.int .i64 0,Value.pointer none,Value.int .i64 0,Value.int .i64 0]),offs:=some [(0,1,true),(2,0,false),(3,0,false),(4,0,false)],conc:=true}
theorem Jg:aY Tryz.prog 343 M9 where
 size:=ak (5) rfl (by kernel_rfl)
 agg:=ak (true) rfl (by kernel_rfl)
 zero:=ak (Value.agg #[Value.int .i64 0,Value.int .i64 0,Value.pointer none,Value.int .i64 0,Value.int .i64 0]) rfl (by kernel_rfl)
 offs:=ak [(0,1,true),(2,0,false),(3,0,false),(4,0,false)] rfl ⟨br (Tryz.prog.underlying 343),by kernel_rfl,by kernel_rfl⟩
 conc:=av ⟨aO (Tryz.prog.underlying 343),by kernel_rfl,aA (by kernel_rfl)⟩
def Np:TI:={size:=some 1,agg:=some false,rs:=some (.one (.leaf (.ptr))),zero:=some (Value.pointer none),conc:=true,isPtr:=true}
theorem H3:aY Tryz.prog 354 Np where
 zero:=ak (Value.pointer none) rfl (by kernel_rfl)
 conc:=av ⟨aO (Tryz.prog.underlying 354),by kernel_rfl,aA (by kernel_rfl)⟩
 isPtr:=av ⟨379,by kernel_rfl⟩
def NA:TI:={size:=some 3,agg:=some true,rs:=some (.one (.agg [.int .i64,.int .i64,.int .i64])),zero:=some (Value.agg #[Value.int .i64 0,Value.int .i64 0,Value.int .i64 0]),offs:=some [(0,0,false),(1,1,true)],conc:=true}
theorem H6:aY Tryz.prog 357 NA where
 size:=ak (3) rfl (by kernel_rfl)
 agg:=ak (true) rfl (by kernel_rfl)
 zero:=ak (Value.agg #[Value.int .i64 0,Value.int .i64 0,Value.int .i64 0]) rfl (by kernel_rfl)
 offs:=ak [(0,0,false),(1,1,true)] rfl ⟨br (Tryz.prog.underlying 357),by kernel_rfl,by kernel_rfl⟩
 conc:=av ⟨aO (Tryz.prog.underlying 357),by kernel_rfl,aA (by kernel_rfl)⟩
def MO:TI:={size:=some 1,agg:=some false,rs:=some (.one (.leaf (.slice))),zero:=some (Value.slice none 0 0),slc:=some (362,3),conc:=true,isSlc:=true}
theorem IX:aY Tryz.prog 358 MO where
 zero:=ak (Value.slice none 0 0) rfl (by kernel_rfl)
 slc:=ce 362 3 rfl ⟨by kernel_rfl,by kernel_rfl⟩
 conc:=av ⟨aO (Tryz.prog.underlying 358),by kernel_rfl,aA (by kernel_rfl)⟩
 isSlc:=av ⟨362,by kernel_rfl⟩
def Nx:TI:={size:=some 5,agg:=some true,rs:=some (.one (.agg [.ptr,.slice,.ptr,.int .i64,.int .i64])),zero:=some (Value.agg #[Value.pointer none,Value.slice none 0 0,Value.pointer none,Value.int .i64 0,Value.int .i64 0]),offs:=some [(0,0,false),(1,0,false),(2,0,false),(3,0,false),(4,0,false)],conc:=true}
theorem JR:aY Tryz.prog 360 Nx where
 size:=ak (5) rfl (by kernel_rfl)
 agg:=ak (true) rfl (by kernel_rfl)
 zero:=ak (Value.agg #[Value.pointer none,Value.slice none 0 0,Value.pointer none,Value.int .i64 0,Value.int .i64 0]) rfl (by kernel_rfl)
 offs:=ak [(0,0,false),(1,0,false),(2,0,false),(3,0,false),(4,0,false)] rfl ⟨br (Tryz.prog.underlying 360),by kernel_rfl,by kernel_rfl⟩
 conc:=av ⟨aO (Tryz.prog.underlying 360),by kernel_rfl,aA (by kernel_rfl)⟩
def Nq:TI:={size:=some 3,agg:=some true,rs:=some (.one (.agg [.int .i64,.int .i64,.int .i64])),zero:=some (Value.agg #[Value.int .i64 0,Value.int .i64 0,Value.int .i64 0]),offs:=some [(0,0,false),(1,0,false),(2,0,false)],eqs:=some [.i,.i,.i],conc:=true}
theorem H5:aY Tryz.prog 362 Nq where
 size:=ak (3) rfl (by kernel_rfl)
 agg:=ak (true) rfl (by kernel_rfl)
 zero:=ak (Value.agg #[Value.int .i64 0,Value.int .i64 0,Value.int .i64 0]) rfl (by kernel_rfl)
 offs:=ak [(0,0,false),(1,0,false),(2,0,false)] rfl ⟨br (Tryz.prog.underlying 362),by kernel_rfl,by kernel_rfl⟩
 conc:=av ⟨aO (Tryz.prog.underlying 362),by kernel_rfl,aA (by kernel_rfl)⟩
 eqs:=ak [.i,.i,.i] rfl (by kernel_rfl)
def Mw:TI:={rs:=some (.tup [.agg [.int .i64,.int .i64,.int .i64],.leaf (.int .i64),.leaf (.int .i64),.leaf (.bool)])}
theorem Ju:aY Tryz.prog 363 Mw where
def Nh:TI:={size:=some 1,agg:=some false,rs:=some (.one (.leaf (.any))),zero:=some (Value.nilIface)}
theorem Iw:aY Tryz.prog 372 Nh where
 zero:=ak (Value.nilIface) rfl (by kernel_rfl)
def MH:TI:={rs:=some (.tup [.leaf (.int .i64),.leaf (.any)])}
theorem IQ:aY Tryz.prog 373 MH where
def Nc:TI:={size:=some 1,agg:=some false,rs:=some (.one (.leaf (.slice))),zero:=some (Value.slice none 0 0),slc:=some (389,6),conc:=true,isSlc:=true}
theorem IK:aY Tryz.prog 377 Nc where
 zero:=ak (Value.slice none 0 0) rfl (by kernel_rfl)
 slc:=ce 389 6 rfl ⟨by kernel_rfl,by kernel_rfl⟩
 conc:=av ⟨aO (Tryz.prog.underlying 377),by kernel_rfl,aA (by kernel_rfl)⟩
 isSlc:=av ⟨389,by kernel_rfl⟩
def Mn:TI:={size:=some 2,agg:=some true,rs:=some (.one (.agg [.slice,.int .i64])),zero:=some (Value.agg #[Value.slice none 0 0,Value.int .i64 0]),offs:=some [(0,0,false),(1,0,false)],conc:=true}
theorem Jr:aY Tryz.prog 379 Mn where
 size:=ak (2) rfl (by kernel_rfl)
 agg:=ak (true) rfl (by kernel_rfl)
 zero:=ak (Value.agg #[Value.slice none 0 0,Value.int .i64 0]) rfl (by kernel_rfl)
 offs:=ak [(0,0,false),(1,0,false)] rfl ⟨br (Tryz.prog.underlying 379),by kernel_rfl,by kernel_rfl⟩
 conc:=av ⟨aO (Tryz.prog.underlying 379),by kernel_rfl,aA (by kernel_rfl)⟩
def Mz:TI:={size:=some 3,agg:=some true,rs:=some (.one (.agg [.int .i64,.int .i64,.int .i64])),zero:=some (Value.agg #[Value.int .i64 0,Value.int .i64 0,Value.int .i64 0]),offs:=some [(0,0,false),(1,0,false),(2,0,false)],eqs:=some [.i,.i,.i],conc:=true}
theorem Jx:aY Tryz.prog 387 Mz where
 size:=ak (3) rfl (by kernel_rfl)
 agg:=ak (true) rfl (by kernel_rfl)
 zero:=ak (Value.agg #[Value.int .i64 0,Value.int .i64 0,Value.int .i64 0]) rfl (by kernel_rfl)
 offs:=ak [(0,0,false),(1,0,false),(2,0,false)] rfl ⟨br (Tryz.prog.underlying 387),by kernel_rfl,by kernel_rfl⟩
 conc:=av ⟨aO (Tryz.prog.underlying 387),by kernel_rfl,aA (by kernel_rfl)⟩
 eqs:=ak [.i,.i,.i] rfl (by kernel_rfl)
def Ml:TI:={size:=some 6,agg:=some true,rs:=some (.one (.agg [.int .i64,.int .i64,.int .i64,.int .i64,.int .i64,.int .i64])),zero:=some (Value.agg #[Value.int .i64 0,Value.int .i64 0,Value.int .i64 0,Value.int .i64 0,Value.int .i64 0,Value.int .i64 0]),offs:=some [(0,2,true),(3,2,true)],conc:=true}
theorem IS:aY Tryz.prog 389 Ml where
 size:=ak (6) rfl (by kernel_rfl)
 agg:=ak (true) rfl (by kernel_rfl)
 zero:=ak (Value.agg #[Value.int .i64 0,Value.int .i64 0,Value.int .i64 0,Value.int .i64 0,Value.int .i64 0,Value.int .i64 0]) rfl (by kernel_rfl)
 offs:=ak [(0,2,true),(3,2,true)] rfl ⟨br (Tryz.prog.underlying 389),by kernel_rfl,by kernel_rfl⟩
 conc:=av ⟨aO (Tryz.prog.underlying 389),by kernel_rfl,aA (by kernel_rfl)⟩
def MI:TI:={size:=some 2,agg:=some true,rs:=some (.one (.agg [.int .i64,.int .i64])),zero:=some (Value.agg #[Value.int .i64 0,Value.int .i64 0]),arr:=some (2,1),conc:=true}
theorem IM:aY Tryz.prog 390 MI where
 size:=ak (2) rfl (by kernel_rfl)
 agg:=ak (true) rfl (by kernel_rfl)
 zero:=ak (Value.agg #[Value.int .i64 0,Value.int .i64 0]) rfl (by kernel_rfl)
 arr:=ce 2 1 rfl ⟨3,by kernel_rfl,by kernel_rfl⟩
 conc:=av ⟨aO (Tryz.prog.underlying 390),by kernel_rfl,aA (by kernel_rfl)⟩
def PE:List (Nat×TI):=[(0,TV),(2,T1),(3,TX),(4,TW),(5,TZ),(9,TY),(22,QC),(23,RE),(24,O'),(25,PR),(27,Sb),(28,Q9),(31,PC),(32,Pj),(33,QL),(35,OC),(37,QO),(39,OY),(40,Px),(42,O9),(43,Rh),(44,RP),(46,OD),(47,ON),(51,RI)]
theorem L0:∀p∈PE,aY Tryz.prog p.1 p.2:=
 ax Ow<|ax N5<|ax NX<|ax Oh<|ax Ou<|ax NU<|ax Lt<|ax KT<|ax KN<|ax Ln<|ax Ll<|ax LZ<|ax LK<|ax Ld<|ax Lc<|ax Li<|ax Lp<|ax K8<|ax KP<|ax KO<|ax La<|ax Lh<|ax Lf<|ax L5<|ax LO<|pV
def QB:List (Nat×TI):=[(54,Pu),(57,Pn),(58,Qm),(61,QP),(63,QY),(68,Pe),(71,Rt),(72,Ri),(74,Pp),(78,RV),(85,Pz),(87,R1),(89,QZ),(94,OQ),(100,NG),(102,M0),(104,NB),(106,Mb),(108,NM),(109,L_),(110,Mi),(111,NE),(113,Ng),(116,NJ),(117,NL)]
theorem L3:∀p∈QB,aY Tryz.prog p.1 p.2:=
 ax LV<|ax K6<|ax KM<|ax KU<|ax KL<|ax LU<|ax LG<|ax LN<|ax LL<|ax LS<|ax K_<|ax LY<|ax KR<|ax LA<|ax Jb<|ax H7<|ax KA<|ax Je<|ax I0<|ax Kg<|ax Jc<|ax Is<|ax H9<|ax IB<|ax Kh<|pV
def QE:List (Nat×TI):=[(131,Na),(133,Mq),(135,Ns),(138,L'),(140,L9),(144,Mm),(145,MX),(147,Nr),(151,NH),(152,Nv),(154,NN),(157,MD),(159,Nn),(162,MK),(164,NF),(165,M4),(170,MJ),(172,NC),(174,M1),(179,Nk),(181,MM),(186,Nf),(194,Mt),(199,ND),(202,MG)]
theorem LR:∀p∈QE,aY Tryz.prog p.1 p.2:=
 ax H2<|ax IU<|ax KE<|ax Jm<|ax JO<|ax Js<|ax JZ<|ax JD<|ax Kq<|ax Ir<|ax IF<|ax Iq<|ax Ij<|ax JV<|ax Ki<|ax Ky<|ax JA<|ax JQ<|ax I8<|ax Kf<|ax IJ<|ax Jq<|ax J8<|ax Kc<|ax HU<|pV
def PF:List (Nat×TI):=[(203,Mh),(205,Ni),(207,Nb),(209,M8),(211,NK),(213,M2),(215,Nm),(218,Mu),(219,Mv),(222,Mc),(234,MA),(238,M3),(240,Mg),(242,MQ),(243,Nl),(248,ME),(250,MV),(258,Me),(259,M5),(261,Nt),(265,MF),(272,ML),(274,M_),(278,MB),(284,MT)]
theorem LH:∀p∈PF,aY Tryz.prog p.1 p.2:=
 ax Ia<|ax JH<|ax J'<|ax JX<|ax Jw<|ax IH<|ax Kr<|ax Kv<|ax II<|ax HS<|ax JF<|ax If<|ax JY<|ax Jk<|ax IE<|ax Ji<|ax Jh<|ax JB<|ax KH<|ax Il<|ax Ip<|ax It<|ax JC<|ax J0<|ax Kk<|pV
def QD:List (Nat×TI):=[(285,My),(286,L6),(288,Mf),(300,NO),(303,Mr),(304,No),(315,MY),(317,Nw),(320,Mk),(330,Nj),(336,Mo),(341,Ms),(343,M9),(354,Np),(357,NA),(358,MO),(360,Nx),(362,Nq),(363,Mw),(372,Nh),(373,MH),(377,Nc),(379,Mn),(387,Mz),(389,Ml)]
theorem LF:∀p∈QD,aY Tryz.prog p.1 p.2:=
 ax Jp<|ax JK<|ax JL<|ax JE<|ax IG<|ax IT<|ax Jt<|ax J_<|ax IP<|ax JS<|ax JW<|ax Ib<|ax Jg<|ax H3<|ax H6<|ax IX<|ax JR<|ax H5<|ax Ju<|ax Iw<|ax IQ<|ax IK<|ax Jr<|ax Jx<|ax IS<|pV
def QT:List (Nat×TI):=[(390,MI)]
theorem LX:∀p∈QT,aY Tryz.prog p.1 p.2:=
 ax IM<|pV
def tab:List (Nat×TI):=PE++QB++QE++PF++QD++QT
set_option maxRecDepth 100000 in
theorem Og:∀p∈tab,aY Tryz.prog p.1 p.2:=
 tL (tL (tL (tL (tL (L0) L3) LR) LH) LF) LX
theorem Ko:Tryz.prog.follows .mixedOrders=true:=by kernel_rfl
noncomputable def gq:ig:=H0 Tryz.prog tab
theorem Q0:gq.Ok:=IC Tryz.prog tab Og Ko
theorem aH {f:FuncId} {fn:Func} {args:List Value} {w:World} {R:RW} {p:Prop} (hf:Tryz.prog.funcs[f]? =some fn) (hb:fn.body=some (D0 fn)) (hn:Nat.ble args.length fn.ntmps=true) (hw:wf gq fn.ntmps (D0 fn)=true) (h:p=I9 gq (D0 fn) fn.results.toList args w R) (hh:p):Calls Tryz.prog f args.toArray w fun e w'=>∃v,e= .returned v∧R v w':=
 wV Q0 hf hb hn hw (Eq.mp h hh)
end Go.Proofs.YtijbcdiffjjefaaGreatDoor.Eng
