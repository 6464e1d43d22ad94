/- The vocabulary of a statement, and the reference's. -/
import Derived.Test.YtijbcdiffjjefaaGreatDoorZtRa
import Derived.Test.YtijbcdiffjjefaaGreatDoorZtTab
import Derived.Test.YtijbcdiffjjefaaGreatDoorZtTk
import Derived.Test.YtijbcdiffjjefaaGreatDoorZtVo
import Derived.Test.YtijbcdiffjjefaaGreatDoorZtRy
set_option linter.unusedVariables false
set_option linter.unusedSimpArgs false
set_option maxRecDepth 100000
namespace Go.Proofs.YtijbcdiffjjefaaGreatDoor.Eng
open Go Go.RowKit
structure GG where
 l:Sl
 c:Sl
 j:Sl
 x:Sl
structure sk (w:World) (y:GG) (ls:List Int) (cs:List (Int×Int×Int)) (js:List (Int×Int)) (xs:List (Int×Bs)):Prop where
 n1:y.l.n=ls.length
 r1:Rw oP 1 w y.l.a ls
 n2:y.c.n=cs.length
 r2:Rw aZ 3 w y.c.a cs
 n3:y.j.n=js.length
 r3:Rw aD 2 w y.j.a js
 n4:y.x.n=xs.length
 r4:Rw av 2 w y.x.a xs
 c2:y.c.n≤y.c.c
 c3:y.j.n≤y.j.c
 most:xs.length≤9223372036854775807
theorem sk.on {w w':World} {y:GG} {ls:List Int} {cs:List (Int×Int×Int)} {js:List (Int×Int)} {xs:List (Int×Bs)} (h:sk w y ls cs js xs) (hb:Below w.heap.size w w'):sk w' y ls cs js xs:=⟨h.n1,h.r1.on hb,h.n2,h.r2.on hb,h.n3,h.r3.on hb,h.n4,h.r4.on hb,h.c2,h.c3,h.most⟩
theorem eU.lt {w:World} {v:Nat} {s:ai} {T:List bl} (h:eU w v s T):v<w.heap.size:=by
 obtain⟨w0,x,tp,bp,mp,d,l,uses,hR⟩:=h;exact(Array.getElem?_eq_some_iff.1 hR.blk).1
theorem Rw.far {α:Type} {enc:α→List Value} {sz:Nat} {w:World} {a:Option Addr} {xs:List α} (h:Rw enc sz w a xs) {v:Nat} (hv:w.heap.size≤v):xs≠ []→∀p,a=some p→p.block≠v:=by
 intro hne p hp e;cases xs with
 |nil=>exact hne rfl
 |cons x xs=>
  obtain⟨q,hq,hlt,_⟩:=h 0 x rfl;rw [hp]at hq;cases hq;omega
theorem eA.touch {w w':World} {x:iU} {es:List bl} {B v:Nat} (h:eA w x es) (hf:iI B x) (hB:v<B) (t:bB v w w'):eA w' x es:=
 ⟨h.n1,h.r1.touch t fun _ p hp e=>by have:=hf.1 p hp;omega,h.k1,h.n2,h.r2.touch t fun _ p hp e=>by have:=hf.2 p hp;omega,h.k2⟩
open Go.ChangeShapes Go.WideShapes
section
variable {H:Type} {enc0:TypeId×Value→H} {w:World} {base:Nat} {spare:Nat→Bool} {held:Bool}
theorem Cx {e:TypeId} (he:Tryz.prog.underlying e=some (.int .i64)):∀n cs' y,DataW.trod enc0 Tryz.prog w base spare held n e cs'=some y→∃m:Int,cs'=aQ m:=by
 intro n cs' y h;obtain⟨i,hi,_⟩:=DataW.trod_int he h;exact⟨i,hi⟩
theorem EU {e:TypeId} (he:Tryz.prog.underlying e=some (.int .u16)):∀n cs' y,DataW.trod enc0 Tryz.prog w base spare held n e cs'=some y→∃m:Int,cs'=oP m:=by
 intro n cs' y h;obtain⟨i,hi,_⟩:=DataW.trod_int he h;exact⟨i,hi⟩
theorem B7 {A:Option Addr} {N C:Nat} {d:DataW H} {p:List MemPlace} (h:DataW.Trod enc0 Tryz.prog w base spare held nT (.slice A N C) d p):∃xs:List Int,N=xs.length∧jf ⟨A,N,C⟩∧N≤C∧C≤maxLen∧Rw aQ 1 w A xs:=by
 obtain⟨fuel,hf⟩:=h;obtain⟨s,xs,e,n,k,c,m,r⟩:=dJ (enc:=aQ) (sz:=1) px (by kernel_rfl) (fun _=>rfl) (Nat.succ_pos _) (Cx Tryz.underlying3) hf;obtain⟨sa,sn,sc⟩:=s;simp [Value.cells]at e;obtain⟨rfl,rfl,rfl⟩:=e;exact⟨xs,n,k,c,m,r⟩
end
open Go Go.Value
def Le (a:OA) (w:World) (R:RW):Prop:=
 CP 50 #[pointer a] w (fun b c=>
 ∃d,b= .returned (int .i64 d)∧
 ∀f:KW,(∀(g:Int) (h:OA) (i j:Nat) (k:World),(aa (decide (g<d))
 (∀l,l=k.alloc (.cells #[int .i64 g] 3)→
 ∃m n o p,(Builtin.append_ #[28,28] 28 #[slice h i j,slice (some (nb k)) 1 1]).run Tryz.prog l= .ok (slice m n o) p∧
 Ar .i64 (g+1) (fun q=>
 f [int .i64 q,slice m n o] p))
 (CP 56 #[pointer a] k (fun r s=>
 ∃t,r= .returned (pointer t)∧
 CP 114 #[pointer t] s (fun u x=>
 ∃y z a1,u= .returned (slice y z a1)∧
 ∀b1:KW,(∀(c1:Int) (d1:OA) (e1 f1:Nat) (g1:World),(aa (decide (c1< (z:Int)))
 (ae y (fun h1=>
 (0:Int)≤c1∧c1< (z:Int)∧
 ∃i1 j1,(g1.cell? (h1.add (c1.toNat*2))=some (int .i64 i1)∧g1.cell? ((h1.add (c1.toNat*2)).add 1)=some (string j1)∧True)∧
 ∀k1,k1=g1.alloc (.cells #[int .i64 0,string ⟨#[]⟩] 87)→
 ar k1 (nb g1) (fun l1=>
 ∃m1,l1.cell? ((nb g1).add 0)=some (int .i64 m1)∧
 ∀n1,n1=l1.alloc (.cells #[int .i64 m1] 3)→
 ∃o1 p1 q1 r1,(Builtin.append_ #[28,28] 28 #[slice d1 e1 f1,slice (some (nb l1)) 1 1]).run Tryz.prog n1= .ok (slice o1 p1 q1) r1∧
 Ar .i64 (c1+1) (fun s1=>
 b1 [int .i64 s1,slice o1 p1 q1] r1)) [int .i64 i1,string j1] 0))
 (CP 115 #[slice d1 e1 f1] g1 (fun t1 u1=>
 t1= .returned (tuple #[])∧
 R (slice d1 e1 f1) u1)))→b1 [int .i64 c1,slice d1 e1 f1] g1)→
 b1 [int .i64 0,slice h i j] x))))→f [int .i64 g,slice h i j] k)→
 f [int .i64 0,slice none 0 0] c)
theorem rE (a:OA) (w:World) (R:RW) (hh:Le a w R):CR 48 #[pointer a] w R:=
 aF (fn:=Tryz.f48) (by kernel_rfl) (by kernel_rfl) (by kernel_rfl) (by kernel_rfl) (by kernel_rfl) hh
def Im (a:OA) (w:World) (R:RW):Prop:=
 aa (Option.isNone a)
 (R (slice none 0 0) w)
 (ae a (fun b=>
 ∃c d f,w.cell? (b.add 0)=some (slice c d f)∧
 CP 144 #[slice c d f] w (fun g h=>
 ∃i j k,g= .returned (slice i j k)∧
 R (slice i j k) h)))
theorem oF (a:OA) (w:World) (R:RW) (hh:Im a w R):CR 114 #[pointer a] w R:=
 aF (fn:=Tryz.f114) (by kernel_rfl) (by kernel_rfl) (by kernel_rfl) (by kernel_rfl) (by kernel_rfl) hh
def Gr (a:OA) (b c:Nat) (w:World) (R:RW):Prop:=
 CP 170 #[int .u64 (IntKind.wrap .u64 (b:Int))] w (fun d f=>
 ∃g,d= .returned (int .i64 g)∧
 CP 169 #[slice a b c,int .i64 0,int .i64 (b:Int),int .i64 g] f (fun h i=>
 h= .returned (tuple #[])∧
 R (tuple #[]) i))
theorem nR (a:OA) (b c:Nat) (w:World) (R:RW) (hh:Gr a b c w R):CR 115 #[slice a b c] w R:=
 aF (fn:=Tryz.f115) (by kernel_rfl) (by kernel_rfl) (by kernel_rfl) (by kernel_rfl) (by kernel_rfl) hh
def Jn (a:OA) (b c:Nat) (d f g:Int) (w:World) (R:RW):Prop:=
 ∀h:KW,(∀(i j:Bool) (k l m:Int) (n:World),(∀o:KW,(∀(p q:Bool) (r s t:Int) (u:World),(h [bool p,bool q,int .i64 r,int .i64 s,int .i64 t] u)→o [bool p,bool q,int .i64 r,int .i64 s,int .i64 t] u)→
 Ar .i64 (l-k) (fun x=>
 aa (decide (x≤12))
 (CP 213 #[slice a b c,int .i64 k,int .i64 l] n (fun y z=>
 y= .returned (tuple #[])∧
 R (tuple #[]) z))
 (aa (m==0)
 (CP 214 #[slice a b c,int .i64 k,int .i64 l] n (fun a1 b1=>
 a1= .returned (tuple #[])∧
 R (tuple #[]) b1))
 (∀c1:KW,(∀(d1:Int) (e1:World),(CP 216 #[slice a b c,int .i64 k,int .i64 l] e1 (fun f1 g1=>
 ∃h1 i1,f1= .returned (tuple #[int .i64 h1,int .i64 i1])∧
 ∀j1:KW,(∀(k1 l1:Int) (m1:World),(∀n1:KW,(∀o1:World,(∀p1,p1=o1.drew→
 aa (decide (k>0))
 (Ar .i64 (k-1) (fun q1=>
 ae a (fun r1=>
 (0:Int)≤q1∧q1< (b:Int)∧
 ∃s1,p1.cell? (r1.add (q1.toNat*1))=some (int .i64 s1)∧
 ae a (fun t1=>
 (0:Int)≤l1∧l1< (b:Int)∧
 ∃u1,p1.cell? (t1.add (l1.toNat*1))=some (int .i64 u1)∧
 CP 219 #[int .i64 s1,int .i64 u1] p1 (fun v1 x1=>
 ∃y1,v1= .returned (bool y1)∧
 aa (!y1)
 (CP 220 #[slice a b c,int .i64 k,int .i64 l,int .i64 l1] x1 (fun z1 a2=>
 ∃b2,z1= .returned (int .i64 b2)∧
 o [bool i,bool j,int .i64 b2,int .i64 l,int .i64 d1] a2))
 (CP 221 #[slice a b c,int .i64 k,int .i64 l,int .i64 l1] x1 (fun c2 d2=>
 ∃e2 f2,c2= .returned (tuple #[int .i64 e2,bool f2])∧
 Ar .i64 (e2-k) (fun g2=>
 Ar .i64 (l-e2) (fun h2=>
 (8:Int)≠0∧
 aa (decide (g2<h2))
 (CP 169 #[slice a b c,int .i64 k,int .i64 e2,int .i64 d1] d2 (fun i2 j2=>
 i2= .returned (tuple #[])∧
 Ar .i64 (e2+1) (fun k2=>
 o [bool f2,bool (decide (g2≥(IntKind.wrap .i64 (Int.tdiv x 8)))),int .i64 k2,int .i64 l,int .i64 d1] j2)))
 (Ar .i64 (e2+1) (fun l2=>
 CP 169 #[slice a b c,int .i64 l2,int .i64 l,int .i64 d1] d2 (fun m2 n2=>
 m2= .returned (tuple #[])∧
 o [bool f2,bool (decide (h2≥(IntKind.wrap .i64 (Int.tdiv x 8)))),int .i64 k,int .i64 e2,int .i64 d1] n2))))))))))))
 (CP 221 #[slice a b c,int .i64 k,int .i64 l,int .i64 l1] p1 (fun o2 p2=>
 ∃q2 r2,o2= .returned (tuple #[int .i64 q2,bool r2])∧
 Ar .i64 (q2-k) (fun s2=>
 Ar .i64 (l-q2) (fun t2=>
 (8:Int)≠0∧
 aa (decide (s2<t2))
 (CP 169 #[slice a b c,int .i64 k,int .i64 q2,int .i64 d1] p2 (fun u2 v2=>
 u2= .returned (tuple #[])∧
 Ar .i64 (q2+1) (fun x2=>
 o [bool r2,bool (decide (s2≥(IntKind.wrap .i64 (Int.tdiv x 8)))),int .i64 x2,int .i64 l,int .i64 d1] v2)))
 (Ar .i64 (q2+1) (fun y2=>
 CP 169 #[slice a b c,int .i64 y2,int .i64 l,int .i64 d1] p2 (fun z2 a3=>
 z2= .returned (tuple #[])∧
 o [bool r2,bool (decide (t2≥(IntKind.wrap .i64 (Int.tdiv x 8)))),int .i64 k,int .i64 q2,int .i64 d1] a3))))))))→n1 [] o1)→
 aa j
 (aa i
 (aa (k1==1)
 (CP 218 #[slice a b c,int .i64 k,int .i64 l] m1 (fun b3 c3=>
 ∃d3,b3= .returned (bool d3)∧
 aa d3
 (R (tuple #[]) c3)
 (n1 [] c3)))
 (n1 [] m1))
 (n1 [] m1))
 (n1 [] m1))→j1 [int .i64 k1,int .i64 l1] m1)→
 aa (i1==2)
 (CP 217 #[slice a b c,int .i64 k,int .i64 l] g1 (fun e3 f3=>
 e3= .returned (tuple #[])∧
 Ar .i64 (l-1) (fun g3=>
 Ar .i64 (h1-k) (fun h3=>
 Ar .i64 (g3-h3) (fun i3=>
 j1 [int .i64 1,int .i64 i3] f3)))))
 (j1 [int .i64 i1,int .i64 h1] g1)))→c1 [int .i64 d1] e1)→
 aa (!j)
 (CP 215 #[slice a b c,int .i64 k,int .i64 l] n (fun j3 k3=>
 j3= .returned (tuple #[])∧
 Ar .i64 (m-1) (fun l3=>
 c1 [int .i64 l3] k3)))
 (c1 [int .i64 m] n)))))→h [bool i,bool j,int .i64 k,int .i64 l,int .i64 m] n)→
 h [bool true,bool true,int .i64 d,int .i64 f,int .i64 g] w
theorem oq (a:OA) (b c:Nat) (d f g:Int) (w:World) (R:RW) (hh:Jn a b c d f g w R):CR 169 #[slice a b c,int .i64 d,int .i64 f,int .i64 g] w R:=
 aF (fn:=Tryz.f169) (by kernel_rfl) (by kernel_rfl) (by kernel_rfl) (by kernel_rfl) (by kernel_rfl) hh
def Kh (a:Int) (w:World) (R:RW):Prop:=
 CP 223 #[int .u64 a] w (fun b c=>
 ∃d,b= .returned (int .i64 d)∧
 R (int .i64 d) c)
theorem oO (a:Int) (w:World) (R:RW) (hh:Kh a w R):CR 170 #[int .u64 a] w R:=
 aF (fn:=Tryz.f170) (by kernel_rfl) (by kernel_rfl) (by kernel_rfl) (by kernel_rfl) (by kernel_rfl) hh
def II (a:OA) (b c:Nat) (d f:Int) (w:World) (R:RW):Prop:=
 Ar .i64 (d+1) (fun g=>
 ∀h:KW,(∀(i:Int) (j:World),(aa (decide (i<f))
 (∀k:KW,(∀(l:Int) (m:World),(∀n,n=m.drew→
 aa (decide (l>d))
 (ae a (fun o=>
 (0:Int)≤l∧l< (b:Int)∧
 ∃p,n.cell? (o.add (l.toNat*1))=some (int .i64 p)∧
 Ar .i64 (l-1) (fun q=>
 ae a (fun r=>
 (0:Int)≤q∧q< (b:Int)∧
 ∃s,n.cell? (r.add (q.toNat*1))=some (int .i64 s)∧
 CP 219 #[int .i64 p,int .i64 s] n (fun t x=>
 ∃y,t= .returned (bool y)∧
 aa y
 (∀z,z=x.drew→
 Ar .i64 (l-1) (fun a1=>
 Ar .i64 (l-1) (fun b1=>
 ae a (fun c1=>
 (0:Int)≤b1∧b1< (b:Int)∧
 ∃d1,z.cell? (c1.add (b1.toNat*1))=some (int .i64 d1)∧
 ae a (fun e1=>
 (0:Int)≤l∧l< (b:Int)∧
 ∃f1,z.cell? (e1.add (l.toNat*1))=some (int .i64 f1)∧
 ae a (fun g1=>
 (0:Int)≤l∧l< (b:Int)∧
 (int .i64 d1).oneCell'=true∧(∃u,z.cell? (g1.add (l.toNat*1))=some u)∧z.frozen? (g1.add (l.toNat*1))=false∧
 ∀h1,h1=(z.setCell (g1.add (l.toNat*1)) (int .i64 d1))→
 ae a (fun i1=>
 (0:Int)≤a1∧a1< (b:Int)∧
 (int .i64 f1).oneCell'=true∧(∃u,h1.cell? (i1.add (a1.toNat*1))=some u)∧h1.frozen? (i1.add (a1.toNat*1))=false∧
 ∀j1,j1=(h1.setCell (i1.add (a1.toNat*1)) (int .i64 f1))→
 Ar .i64 (l-1) (fun k1=>
 k [int .i64 k1] j1))))))))
 (Ar .i64 (i+1) (fun l1=>
 h [int .i64 l1] x)))))))
 (Ar .i64 (i+1) (fun m1=>
 h [int .i64 m1] n)))→k [int .i64 l] m)→
 k [int .i64 i] j)
 (R (tuple #[]) j))→h [int .i64 i] j)→
 h [int .i64 g] w)
theorem uT (a:OA) (b c:Nat) (d f:Int) (w:World) (R:RW) (hh:II a b c d f w R):CR 213 #[slice a b c,int .i64 d,int .i64 f] w R:=
 aF (fn:=Tryz.f213) (by kernel_rfl) (by kernel_rfl) (by kernel_rfl) (by kernel_rfl) (by kernel_rfl) hh
def Ih (a:OA) (b c:Nat) (d f:Int) (w:World) (R:RW):Prop:=
 Ar .i64 (f-d) (fun g=>
 ∀h,h=w.alloc (.cells #[int .i64 0] 3)→
 (4:Int)≠0∧
 Ar .i64 ((IntKind.wrap .i64 (Int.tdiv g 4):Int)*1) (fun i=>
 Ar .i64 (d+i) (fun j=>
 (4:Int)≠0∧
 Ar .i64 ((IntKind.wrap .i64 (Int.tdiv g 4):Int)*2) (fun k=>
 Ar .i64 (d+k) (fun l=>
 (4:Int)≠0∧
 Ar .i64 ((IntKind.wrap .i64 (Int.tdiv g 4):Int)*3) (fun m=>
 Ar .i64 (d+m) (fun n=>
 ∀o:KW,(∀(p q r:Int) (s:World),(∃t,s.cell? (nb w)=some (int .i64 t)∧
 aa (t==0)
 (R (tuple #[int .i64 q,int .i64 1]) s)
 (aa (t==12)
 (R (tuple #[int .i64 q,int .i64 2]) s)
 (R (tuple #[int .i64 q,int .i64 0]) s)))→o [int .i64 p,int .i64 q,int .i64 r] s)→
 aa (decide (g≥8))
 (∀u:KW,(∀(x y z:Int) (a1:World),(CP 258 #[slice a b c,int .i64 z,int .i64 y,int .i64 x,pointer (some (nb w))] a1 (fun b1 c1=>
 ∃d1,b1= .returned (int .i64 d1)∧
 o [int .i64 x,int .i64 d1,int .i64 z] c1))→u [int .i64 x,int .i64 y,int .i64 z] a1)→
 aa (decide (g≥50))
 (CP 257 #[slice a b c,int .i64 j,pointer (some (nb w))] h (fun e1 f1=>
 ∃g1,e1= .returned (int .i64 g1)∧
 CP 257 #[slice a b c,int .i64 l,pointer (some (nb w))] f1 (fun h1 i1=>
 ∃j1,h1= .returned (int .i64 j1)∧
 CP 257 #[slice a b c,int .i64 n,pointer (some (nb w))] i1 (fun k1 l1=>
 ∃m1,k1= .returned (int .i64 m1)∧
 u [int .i64 m1,int .i64 j1,int .i64 g1] l1))))
 (u [int .i64 n,int .i64 l,int .i64 j] h))
 (o [int .i64 n,int .i64 l,int .i64 j] h))))))))
theorem xl (a:OA) (b c:Nat) (d f:Int) (w:World) (R:RW) (hh:Ih a b c d f w R):CR 216 #[slice a b c,int .i64 d,int .i64 f] w R:=
 aF (fn:=Tryz.f216) (by kernel_rfl) (by kernel_rfl) (by kernel_rfl) (by kernel_rfl) (by kernel_rfl) hh
def JR (a:OA) (b c:Nat) (d f:Int) (w:World) (R:RW):Prop:=
 Ar .i64 (d+1) (fun g=>
 ∀h:KW,(∀(i j:Int) (k:Bool) (l:World),(aa (decide (i<5))
 (∀m:KW,(∀(n:Int) (o:Bool) (p:World),(Ar .i64 (i+1) (fun q=>
 h [int .i64 q,int .i64 n,bool o] p))→m [int .i64 n,bool o] p)→
 ∀r:KW,(∀(s:Int) (t:World),(∀x,x=t.drew→
 aa (decide (s<f))
 (ae a (fun y=>
 (0:Int)≤s∧s< (b:Int)∧
 ∃z,x.cell? (y.add (s.toNat*1))=some (int .i64 z)∧
 Ar .i64 (s-1) (fun a1=>
 ae a (fun b1=>
 (0:Int)≤a1∧a1< (b:Int)∧
 ∃c1,x.cell? (b1.add (a1.toNat*1))=some (int .i64 c1)∧
 CP 219 #[int .i64 z,int .i64 c1] x (fun d1 e1=>
 ∃f1,d1= .returned (bool f1)∧
 aa (!f1)
 (Ar .i64 (s+1) (fun g1=>
 r [int .i64 g1] e1))
 (aa (s==f)
 (R (bool true) e1)
 (Ar .i64 (f-d) (fun h1=>
 aa (decide (h1<50))
 (R (bool false) e1)
 (∀i1,i1=e1.drew→
 Ar .i64 (s-1) (fun j1=>
 Ar .i64 (s-1) (fun k1=>
 ae a (fun l1=>
 (0:Int)≤k1∧k1< (b:Int)∧
 ∃m1,i1.cell? (l1.add (k1.toNat*1))=some (int .i64 m1)∧
 ae a (fun n1=>
 (0:Int)≤s∧s< (b:Int)∧
 ∃o1,i1.cell? (n1.add (s.toNat*1))=some (int .i64 o1)∧
 ae a (fun p1=>
 (0:Int)≤s∧s< (b:Int)∧
 (int .i64 m1).oneCell'=true∧(∃u,i1.cell? (p1.add (s.toNat*1))=some u)∧i1.frozen? (p1.add (s.toNat*1))=false∧
 ∀q1,q1=(i1.setCell (p1.add (s.toNat*1)) (int .i64 m1))→
 ae a (fun r1=>
 (0:Int)≤j1∧j1< (b:Int)∧
 (int .i64 o1).oneCell'=true∧(∃u,q1.cell? (r1.add (j1.toNat*1))=some u)∧q1.frozen? (r1.add (j1.toNat*1))=false∧
 ∀s1,s1=(q1.setCell (r1.add (j1.toNat*1)) (int .i64 o1))→
 ∀t1:KW,(∀u1:World,(Ar .i64 (f-s) (fun v1=>
 aa (decide (v1≥2))
 (Ar .i64 (s+1) (fun x1=>
 ∀y1:KW,(∀(z1:Int) (a2:World),(m [int .i64 s,bool k] a2)→y1 [int .i64 z1] a2)→
 ∀b2:KW,(∀(c2:Int) (d2:World),(aa (decide (c2<f))
 (∀e2,e2=d2.drew→
 ae a (fun f2=>
 (0:Int)≤c2∧c2< (b:Int)∧
 ∃g2,e2.cell? (f2.add (c2.toNat*1))=some (int .i64 g2)∧
 Ar .i64 (c2-1) (fun h2=>
 ae a (fun i2=>
 (0:Int)≤h2∧h2< (b:Int)∧
 ∃j2,e2.cell? (i2.add (h2.toNat*1))=some (int .i64 j2)∧
 CP 219 #[int .i64 g2,int .i64 j2] e2 (fun k2 l2=>
 ∃m2,k2= .returned (bool m2)∧
 aa (!m2)
 (y1 [int .i64 c2] l2)
 (∀n2,n2=l2.drew→
 Ar .i64 (c2-1) (fun o2=>
 Ar .i64 (c2-1) (fun p2=>
 ae a (fun q2=>
 (0:Int)≤p2∧p2< (b:Int)∧
 ∃r2,n2.cell? (q2.add (p2.toNat*1))=some (int .i64 r2)∧
 ae a (fun s2=>
 (0:Int)≤c2∧c2< (b:Int)∧
 ∃t2,n2.cell? (s2.add (c2.toNat*1))=some (int .i64 t2)∧
 ae a (fun u2=>
 (0:Int)≤c2∧c2< (b:Int)∧
 (int .i64 r2).oneCell'=true∧(∃u,n2.cell? (u2.add (c2.toNat*1))=some u)∧n2.frozen? (u2.add (c2.toNat*1))=false∧
 ∀v2,v2=(n2.setCell (u2.add (c2.toNat*1)) (int .i64 r2))→
 ae a (fun x2=>
 (0:Int)≤o2∧o2< (b:Int)∧
 (int .i64 t2).oneCell'=true∧(∃u,v2.cell? (x2.add (o2.toNat*1))=some u)∧v2.frozen? (x2.add (o2.toNat*1))=false∧
 ∀y2,y2=(v2.setCell (x2.add (o2.toNat*1)) (int .i64 t2))→
 Ar .i64 (c2+1) (fun z2=>
 b2 [int .i64 z2] y2)))))))))))))
 (y1 [int .i64 c2] d2))→b2 [int .i64 c2] d2)→
 b2 [int .i64 x1] u1))
 (m [int .i64 s,bool k] u1)))→t1 [] u1)→
 Ar .i64 (s-d) (fun a3=>
 aa (decide (a3≥2))
 (Ar .i64 (s-1) (fun b3=>
 ∀c3:KW,(∀(d3:Int) (e3:World),(t1 [] e3)→c3 [int .i64 d3] e3)→
 ∀f3:KW,(∀(g3:Int) (h3:World),(aa (decide (g3≥1))
 (∀i3,i3=h3.drew→
 ae a (fun j3=>
 (0:Int)≤g3∧g3< (b:Int)∧
 ∃k3,i3.cell? (j3.add (g3.toNat*1))=some (int .i64 k3)∧
 Ar .i64 (g3-1) (fun l3=>
 ae a (fun m3=>
 (0:Int)≤l3∧l3< (b:Int)∧
 ∃n3,i3.cell? (m3.add (l3.toNat*1))=some (int .i64 n3)∧
 CP 219 #[int .i64 k3,int .i64 n3] i3 (fun o3 p3=>
 ∃q3,o3= .returned (bool q3)∧
 aa (!q3)
 (c3 [int .i64 g3] p3)
 (∀r3,r3=p3.drew→
 Ar .i64 (g3-1) (fun s3=>
 Ar .i64 (g3-1) (fun t3=>
 ae a (fun u3=>
 (0:Int)≤t3∧t3< (b:Int)∧
 ∃v3,r3.cell? (u3.add (t3.toNat*1))=some (int .i64 v3)∧
 ae a (fun x3=>
 (0:Int)≤g3∧g3< (b:Int)∧
 ∃y3,r3.cell? (x3.add (g3.toNat*1))=some (int .i64 y3)∧
 ae a (fun z3=>
 (0:Int)≤g3∧g3< (b:Int)∧
 (int .i64 v3).oneCell'=true∧(∃u,r3.cell? (z3.add (g3.toNat*1))=some u)∧r3.frozen? (z3.add (g3.toNat*1))=false∧
 ∀a4,a4=(r3.setCell (z3.add (g3.toNat*1)) (int .i64 v3))→
 ae a (fun b4=>
 (0:Int)≤s3∧s3< (b:Int)∧
 (int .i64 y3).oneCell'=true∧(∃u,a4.cell? (b4.add (s3.toNat*1))=some u)∧a4.frozen? (b4.add (s3.toNat*1))=false∧
 ∀c4,c4=(a4.setCell (b4.add (s3.toNat*1)) (int .i64 y3))→
 Ar .i64 (g3-1) (fun d4=>
 f3 [int .i64 d4] c4)))))))))))))
 (c3 [int .i64 g3] h3))→f3 [int .i64 g3] h3)→
 f3 [int .i64 b3] s1))
 (t1 [] s1)))))))))))))))))
 (aa (s==f)
 (R (bool true) x)
 (Ar .i64 (f-d) (fun e4=>
 aa (decide (e4<50))
 (R (bool false) x)
 (∀f4,f4=x.drew→
 Ar .i64 (s-1) (fun g4=>
 Ar .i64 (s-1) (fun h4=>
 ae a (fun i4=>
 (0:Int)≤h4∧h4< (b:Int)∧
 ∃j4,f4.cell? (i4.add (h4.toNat*1))=some (int .i64 j4)∧
 ae a (fun k4=>
 (0:Int)≤s∧s< (b:Int)∧
 ∃l4,f4.cell? (k4.add (s.toNat*1))=some (int .i64 l4)∧
 ae a (fun m4=>
 (0:Int)≤s∧s< (b:Int)∧
 (int .i64 j4).oneCell'=true∧(∃u,f4.cell? (m4.add (s.toNat*1))=some u)∧f4.frozen? (m4.add (s.toNat*1))=false∧
 ∀n4,n4=(f4.setCell (m4.add (s.toNat*1)) (int .i64 j4))→
 ae a (fun o4=>
 (0:Int)≤g4∧g4< (b:Int)∧
 (int .i64 l4).oneCell'=true∧(∃u,n4.cell? (o4.add (g4.toNat*1))=some u)∧n4.frozen? (o4.add (g4.toNat*1))=false∧
 ∀p4,p4=(n4.setCell (o4.add (g4.toNat*1)) (int .i64 l4))→
 ∀q4:KW,(∀r4:World,(Ar .i64 (f-s) (fun s4=>
 aa (decide (s4≥2))
 (Ar .i64 (s+1) (fun t4=>
 ∀u4:KW,(∀(v4:Int) (x4:World),(m [int .i64 s,bool k] x4)→u4 [int .i64 v4] x4)→
 ∀y4:KW,(∀(z4:Int) (a5:World),(aa (decide (z4<f))
 (∀b5,b5=a5.drew→
 ae a (fun c5=>
 (0:Int)≤z4∧z4< (b:Int)∧
 ∃d5,b5.cell? (c5.add (z4.toNat*1))=some (int .i64 d5)∧
 Ar .i64 (z4-1) (fun e5=>
 ae a (fun f5=>
 (0:Int)≤e5∧e5< (b:Int)∧
 ∃g5,b5.cell? (f5.add (e5.toNat*1))=some (int .i64 g5)∧
 CP 219 #[int .i64 d5,int .i64 g5] b5 (fun h5 i5=>
 ∃j5,h5= .returned (bool j5)∧
 aa (!j5)
 (u4 [int .i64 z4] i5)
 (∀k5,k5=i5.drew→
 Ar .i64 (z4-1) (fun l5=>
 Ar .i64 (z4-1) (fun m5=>
 ae a (fun n5=>
 (0:Int)≤m5∧m5< (b:Int)∧
 ∃o5,k5.cell? (n5.add (m5.toNat*1))=some (int .i64 o5)∧
 ae a (fun p5=>
 (0:Int)≤z4∧z4< (b:Int)∧
 ∃q5,k5.cell? (p5.add (z4.toNat*1))=some (int .i64 q5)∧
 ae a (fun r5=>
 (0:Int)≤z4∧z4< (b:Int)∧
 (int .i64 o5).oneCell'=true∧(∃u,k5.cell? (r5.add (z4.toNat*1))=some u)∧k5.frozen? (r5.add (z4.toNat*1))=false∧
 ∀s5,s5=(k5.setCell (r5.add (z4.toNat*1)) (int .i64 o5))→
 ae a (fun t5=>
 (0:Int)≤l5∧l5< (b:Int)∧
 (int .i64 q5).oneCell'=true∧(∃u,s5.cell? (t5.add (l5.toNat*1))=some u)∧s5.frozen? (t5.add (l5.toNat*1))=false∧
 ∀u5,u5=(s5.setCell (t5.add (l5.toNat*1)) (int .i64 q5))→
 Ar .i64 (z4+1) (fun v5=>
 y4 [int .i64 v5] u5)))))))))))))
 (u4 [int .i64 z4] a5))→y4 [int .i64 z4] a5)→
 y4 [int .i64 t4] r4))
 (m [int .i64 s,bool k] r4)))→q4 [] r4)→
 Ar .i64 (s-d) (fun x5=>
 aa (decide (x5≥2))
 (Ar .i64 (s-1) (fun y5=>
 ∀z5:KW,(∀(a6:Int) (b6:World),(q4 [] b6)→z5 [int .i64 a6] b6)→
 ∀c6:KW,(∀(d6:Int) (e6:World),(aa (decide (d6≥1))
 (∀f6,f6=e6.drew→
 ae a (fun g6=>
 (0:Int)≤d6∧d6< (b:Int)∧
 ∃h6,f6.cell? (g6.add (d6.toNat*1))=some (int .i64 h6)∧
 Ar .i64 (d6-1) (fun i6=>
 ae a (fun j6=>
 (0:Int)≤i6∧i6< (b:Int)∧
 ∃k6,f6.cell? (j6.add (i6.toNat*1))=some (int .i64 k6)∧
 CP 219 #[int .i64 h6,int .i64 k6] f6 (fun l6 m6=>
 ∃n6,l6= .returned (bool n6)∧
 aa (!n6)
 (z5 [int .i64 d6] m6)
 (∀o6,o6=m6.drew→
 Ar .i64 (d6-1) (fun p6=>
 Ar .i64 (d6-1) (fun q6=>
 ae a (fun r6=>
 (0:Int)≤q6∧q6< (b:Int)∧
 ∃s6,o6.cell? (r6.add (q6.toNat*1))=some (int .i64 s6)∧
 ae a (fun t6=>
 (0:Int)≤d6∧d6< (b:Int)∧
 ∃u6,o6.cell? (t6.add (d6.toNat*1))=some (int .i64 u6)∧
 ae a (fun v6=>
 (0:Int)≤d6∧d6< (b:Int)∧
 (int .i64 s6).oneCell'=true∧(∃u,o6.cell? (v6.add (d6.toNat*1))=some u)∧o6.frozen? (v6.add (d6.toNat*1))=false∧
 ∀x6,x6=(o6.setCell (v6.add (d6.toNat*1)) (int .i64 s6))→
 ae a (fun y6=>
 (0:Int)≤p6∧p6< (b:Int)∧
 (int .i64 u6).oneCell'=true∧(∃u,x6.cell? (y6.add (p6.toNat*1))=some u)∧x6.frozen? (y6.add (p6.toNat*1))=false∧
 ∀z6,z6=(x6.setCell (y6.add (p6.toNat*1)) (int .i64 u6))→
 Ar .i64 (d6-1) (fun a7=>
 c6 [int .i64 a7] z6)))))))))))))
 (z5 [int .i64 d6] e6))→c6 [int .i64 d6] e6)→
 c6 [int .i64 y5] p4))
 (q4 [] p4)))))))))))))→r [int .i64 s] t)→
 r [int .i64 j] l)
 (R (bool false) l))→h [int .i64 i,int .i64 j,bool k] l)→
 h [int .i64 0,int .i64 g,bool false] w)
theorem yD (a:OA) (b c:Nat) (d f:Int) (w:World) (R:RW) (hh:JR a b c d f w R):CR 218 #[slice a b c,int .i64 d,int .i64 f] w R:=
 aF (fn:=Tryz.f218) (by kernel_rfl) (by kernel_rfl) (by kernel_rfl) (by kernel_rfl) (by kernel_rfl) hh
def Jw (a b:Int) (w:World) (R:RW):Prop:=
 CP 259 #[int .i64 a] w (fun c d=>
 ∃f,c= .returned (bool f)∧
 aa f
 (CP 259 #[int .i64 b] d (fun g h=>
 ∃i,g= .returned (bool i)∧
 aa (!i)
 (R (bool true) h)
 (R (bool (decide (a<b))) h)))
 (R (bool (decide (a<b))) d))
theorem xZ (a b:Int) (w:World) (R:RW) (hh:Jw a b w R):CR 219 #[int .i64 a,int .i64 b] w R:=
 aF (fn:=Tryz.f219) (by kernel_rfl) (by kernel_rfl) (by kernel_rfl) (by kernel_rfl) (by kernel_rfl) hh
def Jd (a:Int) (w:World) (R:RW):Prop:=
 ∀b:KW,(∀(c d:Int) (f:World),(∀g:KW,(∀(h i:Int) (j:World),(∀k:KW,(∀(l m:Int) (n:World),((0:Int)≤(IntKind.wrap .u8 m)∧(IntKind.wrap .u8 m) < ((⟨#[0,1,2,2,3,3,3,3,4,4,4,4,4,4,4,4,5,5,5,5,5,5,5,5,5,5,5,5,5,5,5,5,6,6,6,6,6,6,6,6,6,6,6,6,6,6,6,6,6,6,6,6,6,6,6,6,6,6,6,6,6,6,6,6,7,7,7,7,7,7,7,7,7,7,7,7,7,7,7,7,7,7,7,7,7,7,7,7,7,7,7,7,7,7,7,7,7,7,7,7,7,7,7,7,7,7,7,7,7,7,7,7,7,7,7,7,7,7,7,7,7,7,7,7,7,7,7,7,8,8,8,8,8,8,8,8,8,8,8,8,8,8,8,8,8,8,8,8,8,8,8,8,8,8,8,8,8,8,8,8,8,8,8,8,8,8,8,8,8,8,8,8,8,8,8,8,8,8,8,8,8,8,8,8,8,8,8,8,8,8,8,8,8,8,8,8,8,8,8,8,8,8,8,8,8,8,8,8,8,8,8,8,8,8,8,8,8,8,8,8,8,8,8,8,8,8,8,8,8,8,8,8,8,8,8,8,8,8,8,8,8,8,8,8,8,8,8,8,8,8,8,8,8,8,8,8]⟩:ByteArray).size:Int)∧
 Ar .i64 (l+(IntKind.wrap .i64 (btAt ⟨#[0,1,2,2,3,3,3,3,4,4,4,4,4,4,4,4,5,5,5,5,5,5,5,5,5,5,5,5,5,5,5,5,6,6,6,6,6,6,6,6,6,6,6,6,6,6,6,6,6,6,6,6,6,6,6,6,6,6,6,6,6,6,6,6,7,7,7,7,7,7,7,7,7,7,7,7,7,7,7,7,7,7,7,7,7,7,7,7,7,7,7,7,7,7,7,7,7,7,7,7,7,7,7,7,7,7,7,7,7,7,7,7,7,7,7,7,7,7,7,7,7,7,7,7,7,7,7,7,8,8,8,8,8,8,8,8,8,8,8,8,8,8,8,8,8,8,8,8,8,8,8,8,8,8,8,8,8,8,8,8,8,8,8,8,8,8,8,8,8,8,8,8,8,8,8,8,8,8,8,8,8,8,8,8,8,8,8,8,8,8,8,8,8,8,8,8,8,8,8,8,8,8,8,8,8,8,8,8,8,8,8,8,8,8,8,8,8,8,8,8,8,8,8,8,8,8,8,8,8,8,8,8,8,8,8,8,8,8,8,8,8,8,8,8,8,8,8,8,8,8,8,8,8,8,8,8]⟩ (IntKind.wrap .u8 m)))) (fun o=>
 R (int .i64 o) n))→k [int .i64 l,int .u64 m] n)→
 aa (decide (i≥256))
 ((0:Int)≤8∧
 Ar .i64 (h+8) (fun p=>
 k [int .i64 p,int .u64 (Int.fdiv i (2^(min (8:Int).toNat (IntKind.bits .u64))))] j))
 (k [int .i64 h,int .u64 i] j))→g [int .i64 h,int .u64 i] j)→
 aa (decide (d≥65536))
 ((0:Int)≤16∧
 Ar .i64 (c+16) (fun q=>
 g [int .i64 q,int .u64 (Int.fdiv d (2^(min (16:Int).toNat (IntKind.bits .u64))))] f))
 (g [int .i64 c,int .u64 d] f))→b [int .i64 c,int .u64 d] f)→
 aa (decide (a≥4294967296))
 ((0:Int)≤32∧
 b [int .i64 32,int .u64 (Int.fdiv a (2^(min (32:Int).toNat (IntKind.bits .u64))))] w)
 (b [int .i64 0,int .u64 a] w)
theorem oR (a:Int) (w:World) (R:RW) (hh:Jd a w R):CR 223 #[int .u64 a] w R:=
 aF (fn:=Tryz.f223) (by kernel_rfl) (by kernel_rfl) (by kernel_rfl) (by kernel_rfl) (by kernel_rfl) hh
def Kj (a:OA) (b c:Nat) (d:Int) (f:OA) (w:World) (R:RW):Prop:=
 Ar .i64 (d-1) (fun g=>
 Ar .i64 (d+1) (fun h=>
 CP 258 #[slice a b c,int .i64 g,int .i64 d,int .i64 h,pointer f] w (fun i j=>
 ∃k,i= .returned (int .i64 k)∧
 R (int .i64 k) j)))
theorem vf (a:OA) (b c:Nat) (d:Int) (f:OA) (w:World) (R:RW) (hh:Kj a b c d f w R):CR 257 #[slice a b c,int .i64 d,pointer f] w R:=
 aF (fn:=Tryz.f257) (by kernel_rfl) (by kernel_rfl) (by kernel_rfl) (by kernel_rfl) (by kernel_rfl) hh
def Ic (a:OA) (b c:Nat) (d f g:Int) (h:OA) (w:World) (R:RW):Prop:=
 CP 284 #[slice a b c,int .i64 d,int .i64 f,pointer h] w (fun i j=>
 ∃k l,i= .returned (tuple #[int .i64 k,int .i64 l])∧
 CP 284 #[slice a b c,int .i64 l,int .i64 g,pointer h] j (fun m n=>
 ∃o p,m= .returned (tuple #[int .i64 o,int .i64 p])∧
 CP 284 #[slice a b c,int .i64 k,int .i64 o,pointer h] n (fun q r=>
 ∃s t,q= .returned (tuple #[int .i64 s,int .i64 t])∧
 R (int .i64 t) r)))
theorem xg (a:OA) (b c:Nat) (d f g:Int) (h:OA) (w:World) (R:RW) (hh:Ic a b c d f g h w R):CR 258 #[slice a b c,int .i64 d,int .i64 f,int .i64 g,pointer h] w R:=
 aF (fn:=Tryz.f258) (by kernel_rfl) (by kernel_rfl) (by kernel_rfl) (by kernel_rfl) (by kernel_rfl) hh
def Kc (a:Int) (w:World) (R:RW):Prop:=
 R (bool (a != a)) w
theorem yE (a:Int) (w:World) (R:RW) (hh:Kc a w R):CR 259 #[int .i64 a] w R:=
 aF (fn:=Tryz.f259) (by kernel_rfl) (by kernel_rfl) (by kernel_rfl) (by kernel_rfl) (by kernel_rfl) hh
def Id (a:OA) (b c:Nat) (d f:Int) (g:OA) (w:World) (R:RW):Prop:=
 ∀h,h=w.drew→
 ae a (fun i=>
 (0:Int)≤f∧f< (b:Int)∧
 ∃j,h.cell? (i.add (f.toNat*1))=some (int .i64 j)∧
 ae a (fun k=>
 (0:Int)≤d∧d< (b:Int)∧
 ∃l,h.cell? (k.add (d.toNat*1))=some (int .i64 l)∧
 CP 219 #[int .i64 j,int .i64 l] h (fun m n=>
 ∃o,m= .returned (bool o)∧
 aa o
 (ae g (fun p=>
 ∃q,n.cell? p=some (int .i64 q)∧
 Ar .i64 (q+1) (fun r=>
 ae g (fun s=>
 (int .i64 r).oneCell'=true∧(∃u,n.cell? s=some u)∧n.frozen? s=false∧
 ∀t,t=(n.setCell s (int .i64 r))→
 R (tuple #[int .i64 f,int .i64 d]) t))))
 (R (tuple #[int .i64 d,int .i64 f]) n))))
theorem wS (a:OA) (b c:Nat) (d f:Int) (g:OA) (w:World) (R:RW) (hh:Id a b c d f g w R):CR 284 #[slice a b c,int .i64 d,int .i64 f,pointer g] w R:=
 aF (fn:=Tryz.f284) (by kernel_rfl) (by kernel_rfl) (by kernel_rfl) (by kernel_rfl) (by kernel_rfl) hh
theorem Ad (n:Int) (w:World):CP 259 #[.int .i64 n] w fun e w'=>e= .returned (.bool false)∧w'=w:=by
 refine aU (yE n w) ?_;exact⟨by simp,rfl⟩
theorem th (x y:Int) (w:World):CP 219 #[.int .i64 x,.int .i64 y] w fun e w'=>e= .returned (.bool (decide (x<y)))∧w'=w:=by
 refine aU (xZ x y w) ?_;refine(Ad x w).mono ?_;rintro e w1 ⟨rfl,hw⟩;subst hw;exact⟨_,rfl,aa.no rfl ⟨rfl,rfl⟩⟩
def lY (l:List Int):Prop:=∀(i j:Nat) (hi:i<l.length) (hj:j<l.length),i<j→l[i] <l[j]
section
variable {A:Option Addr} {C:Nat} {l:List Int}
theorem jU (hs:lY l) (w:World) (hr:Rw aQ 1 w A l) (i j:Nat) (hij:i<j) (hj:j<l.length) (p:Option Addr):
  CP 284 #[.slice A l.length C,.int .i64 (i:Int),.int .i64 (j:Int),.pointer p] w fun e w'=>e= .returned (.tuple #[.int .i64 (i:Int),.int .i64 (j:Int)])∧Below w.heap.size w w':=by
 refine aU (wS A l.length C i j p w) ?_;intro w1 hw1;have b1:Below w.heap.size w w1:=by subst hw1;exact ba w
 obtain⟨q,hq,c1⟩:=cz (hr.on b1) hj rfl;obtain⟨q',hq',c0⟩:=cz (hr.on b1) (show i<l.length by omega) rfl;refine ae.mk q hq ⟨by omega,by omega,_,c1,ae.mk q' hq' ⟨by omega,by omega,_,c0,?_⟩⟩;refine(th _ _ w1).mono ?_;rintro e w2 ⟨rfl,hw⟩;subst hw;exact⟨_,rfl,aa.no (decide_eq_false (by have:=hs i j (by omega) hj hij;omega)) ⟨rfl,b1⟩⟩
theorem oV (hs:lY l) (hl:l.length≤1000000) (w:World) (hr:Rw aQ 1 w A l) (i j k:Nat) (hij:i<j) (hjk:j<k) (hk:k<l.length) (p:Option Addr):
  CP 258 #[.slice A l.length C,.int .i64 (i:Int),.int .i64 (j:Int),.int .i64 (k:Int),.pointer p] w fun e w'=>e= .returned (.int .i64 (j:Int))∧Below w.heap.size w w':=by
 refine aU (xg A l.length C i j k p w) ?_;refine(jU hs w hr i j hij (by omega) p).mono ?_;rintro e w1 ⟨rfl,b1⟩;refine⟨_,_,rfl,?_⟩;refine(jU hs w1 (hr.on b1) j k hjk hk p).mono ?_;rintro e w2 ⟨rfl,b2⟩;refine⟨_,_,rfl,?_⟩;have b12:=ab b1 b2;refine(jU hs w2 (hr.on b12) i j hij (by omega) p).mono ?_;rintro e w3 ⟨rfl,b3⟩;exact⟨_,_,rfl,rfl,ab b12 b3⟩
theorem gJ (hs:lY l) (hl:l.length≤1000000) (w:World) (hr:Rw aQ 1 w A l) (j:Nat) (h0:0<j) (hj:j+1<l.length) (p:Option Addr):
  CP 257 #[.slice A l.length C,.int .i64 (j:Int),.pointer p] w fun e w'=>e= .returned (.int .i64 (j:Int))∧Below w.heap.size w w':=by
 refine aU (vf A l.length C j p w) ?_;refine Ar.nat (j-1) (by omega) (by omega) (Ar.nat (j+1) (by omega) (by omega) ?_);refine(oV hs hl w hr (j-1) j (j+1) (by omega) (by omega) hj p).mono ?_;rintro e w1 ⟨rfl,b1⟩;exact⟨_,rfl,rfl,b1⟩
theorem zH (hs:lY l) (hl:l.length≤1000000) (w:World) (hr:Rw aQ 1 w A l) (h50:50≤l.length):
  CP 216 #[.slice A l.length C,.int .i64 0,.int .i64 (l.length:Int)] w fun e w'=>∃n:Int,e= .returned (.tuple #[.int .i64 n,.int .i64 1])∧Below w.heap.size w w':=by
 refine aU (xl A l.length C 0 l.length w) ?_;refine Ar.nat l.length (by omega) (by omega) ?_;intro w1 hw1;have b1:Below w.heap.size w w1:=by subst hw1;exact ag _ _
 have l1:w1.heap[w.heap.size]? =some (.cells #[.int .i64 0] cE (0,0)):=by subst hw1;exact ao _ _
 have hdiv:IntKind.wrap .i64 (Int.tdiv (l.length:Int) 4)=((l.length/4:Nat):Int):=by
  have:Int.tdiv (l.length:Int) 4=((l.length/4:Nat):Int):=rfl;rw [this];exact bY (by show(-9223372036854775808:Int)≤_;omega) (by show _≤(9223372036854775807:Int);omega)
 rw [hdiv];refine⟨by decide,Ar.nat (l.length/4*1) (by omega) (by omega) (Ar.nat (l.length/4*1) (by omega) (by omega) ⟨by decide,Ar.nat (l.length/4*2) (by omega) (by omega) (Ar.nat (l.length/4*2) (by omega) (by omega) ⟨by decide,Ar.nat (l.length/4*3) (by omega) (by omega) (Ar.nat (l.length/4*3) (by omega) (by omega) ?_)⟩)⟩)⟩;intro J7 hJ7;refine aa.yes (decide_eq_true (by omega)) ?_;intro J9 hJ9;refine aa.yes (decide_eq_true (by omega)) ?_;refine(gJ hs hl w1 (hr.on b1) (l.length/4*1) (by omega) (by omega) _).mono ?_;rintro e w2 ⟨rfl,b2⟩;have b12:=ab b1 b2;refine⟨_,rfl,(gJ hs hl w2 (hr.on b12) (l.length/4*2) (by omega) (by omega) _).mono ?_⟩;rintro e w3 ⟨rfl,b3⟩;have b13:=ab b12 b3;refine⟨_,rfl,(gJ hs hl w3 (hr.on b13) (l.length/4*3) (by omega) (by omega) _).mono ?_⟩;rintro e w4 ⟨rfl,b4⟩;have b14:=ab b13 b4;refine⟨_,rfl,hJ9 _ _ _ _ ((oV hs hl w4 (hr.on b14) (l.length/4*1) (l.length/4*2) (l.length/4*3) (by omega) (by omega) (by omega) _).mono ?_)⟩;rintro e w5 ⟨rfl,b5⟩;have l5:=ah b5 (ah b4 (ah b3 (ah b2 l1)));exact⟨_,rfl,hJ7 _ _ _ _ ⟨0,by rw [cY l5];rfl,aa.yes rfl ⟨_,rfl,ab b14 b5⟩⟩⟩
theorem uz (hs:lY l) (hl:l.length≤1000000) (w:World) (hr:Rw aQ 1 w A l) (h0:0<l.length):
  CP 218 #[.slice A l.length C,.int .i64 0,.int .i64 (l.length:Int)] w fun e w'=>e= .returned (.bool true)∧Below w.heap.size w w':=by
 refine aU (yD A l.length C 0 l.length w) ?_;refine Ar.nat 1 (by omega) (by omega) ?_;intro I1 hI1;refine hI1 _ _ _ _ (aa.yes rfl ?_);intro J2 hJ2;intro I6 hI6;have key:=aK (α:=World) (l.length-1) (fun i q=>Below w.heap.size w q) (fun i q=>I6 [.int .i64 ((i+1:Nat):Int)] q) w (Below.refl _ _) ?_ ?_
 ·exact key
 ·rintro i hi ih q hB;refine hI6 _ _ ?_;intro q4 hq4;have b4:Below q.heap.size q q4:=by subst hq4;exact ba q
  have hB4:=ab hB b4;obtain⟨p,hp,c1⟩:=cz (hr.on hB4) (show i+1<l.length by omega) rfl;obtain⟨p',hp',c0⟩:=cz (hr.on hB4) (show i<l.length by omega) rfl;refine aa.yes (by simp;omega) (ae.mk p hp ⟨by omega,by omega,_,c1,Ar.nat i (by omega) (by omega) (ae.mk p' hp' ⟨by omega,by omega,_,c0,?_⟩)⟩);refine(th _ _ q4).mono ?_;rintro e w5 ⟨rfl,hw⟩;subst hw;have:=hs i (i+1) (by omega) (by omega) (by omega);refine⟨_,rfl,aa.yes (by rw [decide_eq_false (by omega)];rfl) (Ar.nat (i+1+1) rfl (by omega) (ih w5 hB4))⟩
 ·rintro q hB;refine hI6 _ _ ?_;intro q4 hq4;have b4:Below q.heap.size q q4:=by subst hq4;exact ba q
  have e:((l.length-1+1:Nat):Int)=(l.length:Int):=by omega
  rw [e];exact aa.no (by simp) (aa.yes (by simp) ⟨rfl,ab hB b4⟩)
end
theorem ze (n:Nat) (w:World) (h1:256≤n) (h2:n≤65535):CP 223 #[.int .u64 (n:Int)] w fun e w'=>∃k:Int,e= .returned (.int .i64 k)∧k≠0∧w'=w:=by
 refine az (oR n w (fun u w'=>∃k:Int,u= .int .i64 k∧k≠0∧w'=w) ?_) (by rintro v w' ⟨k,rfl,h⟩;exact⟨k,rfl,h⟩);intro J1 hJ1;refine aa.no (decide_eq_false (by omega)) (hJ1 _ _ _ ?_);intro J3 hJ3;refine aa.no (decide_eq_false (by omega)) (hJ3 _ _ _ ?_);intro J6 hJ6;refine aa.yes (decide_eq_true (by omega)) ⟨by decide,Ar.nat 8 rfl (by omega) (hJ6 _ _ _ ?_)⟩;have e:Int.fdiv (n:Int) (2^(min (8:Int).toNat (IntKind.bits .u64)))=((n/256:Nat):Int):=by
  show Int.fdiv (n:Int) 256=_;rw [Int.fdiv_eq_ediv_of_nonneg _ (by decide)];rfl
 rw [e];have hw8:IntKind.wrap .u8 ((n/256:Nat):Int)=((n/256:Nat):Int):=bY (by show(0:Int)≤_;omega) (by show _≤(255:Int);omega);rw [hw8];refine⟨by omega,by show((n/256:Nat):Int) <256;omega,?_⟩;have hb:∀s:ByteArray,0≤btAt s ((n/256:Nat):Int)∧btAt s ((n/256:Nat):Int)≤255:=by
  intro s;unfold btAt;cases s.data[((n/256:Nat):Int).toNat]? with
  |none=>simp
  |some b=>
   have:=b.toNat_lt;simp only [Option.map_some,Option.getD_some];omega
 have aux:∀s:ByteArray,Ar .i64 (((8:Nat):Int)+IntKind.wrap .i64 (btAt s ((n/256:Nat):Int))) (fun n_9=>∃k:Int,Value.int .i64 n_9= .int .i64 k∧k≠0∧w=w):=by
  intro s;have:=hb s;rw [bY (z:=btAt s ((n/256:Nat):Int)) (by show(-9223372036854775808:Int)≤_;omega) (by show _≤(9223372036854775807:Int);omega)];exact Ar.ok64 (by omega) (by omega) ⟨_,rfl,by omega,rfl⟩
 exact aux _
theorem Dd (n:Nat) (w:World) (h1:256≤n) (h2:n≤65535):CP 170 #[.int .u64 (n:Int)] w fun e w'=>∃k:Int,e= .returned (.int .i64 k)∧k≠0∧w'=w:=by
 refine aU (oO n w) ?_;refine(ze n w h1 h2).mono ?_;rintro e w1 ⟨k,rfl,hk,hw⟩;exact⟨_,rfl,k,rfl,hk,hw⟩
theorem Ci (w:World) (A:Option Addr) (C:Nat) (l:List Int) (hr:Rw aQ 1 w A l) (hs:lY l) (h1:256≤l.length) (h2:l.length≤65535):
  CP 115 #[.slice A l.length C] w fun e w'=>e= .returned (.tuple #[])∧Below w.heap.size w w':=by
 refine aU (nR A l.length C w) ?_;have hw:IntKind.wrap .u64 (l.length:Int)=(l.length:Int):=bY (by show(0:Int)≤_;omega) (by show _≤(18446744073709551615:Int);omega);unfold Gr;rw [hw];refine(Dd l.length w h1 h2).mono ?_;rintro e w1 ⟨k,rfl,hk,hw1⟩;subst hw1;refine⟨_,rfl,?_⟩;have pdq:CP 169 #[.slice A l.length C,.int .i64 0,.int .i64 (l.length:Int),.int .i64 k] w1 fun e w'=>e= .returned (.tuple #[])∧Below w1.heap.size w1 w':=by
  refine aU (oq A l.length C 0 l.length k w1) ?_;intro I hI;refine hI _ _ _ _ _ _ ?_;intro J5 hJ5;refine Ar.nat l.length (by omega) (by omega) (aa.no (decide_eq_false (by omega)) (aa.no (by simpa using hk) ?_));intro J11 hJ11;refine aa.no rfl (hJ11 _ _ ?_);refine(zH hs (by omega) w1 hr (by omega)).mono ?_;rintro e w6 ⟨n,rfl,b6⟩;refine⟨_,_,rfl,?_⟩;intro J13 hJ13;refine aa.no rfl (hJ13 _ _ _ ?_);intro J14 hJ14;refine aa.yes rfl (aa.yes rfl (aa.yes rfl ?_));refine(uz hs (by omega) w6 (hr.on b6) (by omega)).mono ?_;rintro e w18 ⟨rfl,b18⟩;exact⟨_,rfl,aa.yes rfl ⟨rfl,ab b6 b18⟩⟩
 refine pdq.mono ?_;rintro e w2 ⟨rfl,b2⟩;exact⟨rfl,rfl,b2⟩
theorem rU (w:World) (A:Option Addr) (N C:Nat):CP 213 #[.slice A N C,.int .i64 0,.int .i64 0] w fun e w'=>e= .returned (.tuple #[])∧w'=w:=by
 refine aU (uT A N C 0 0 w) ?_;refine Ar.nat 1 rfl (by omega) ?_;intro I hI;exact hI _ _ (aa.no rfl ⟨rfl,rfl⟩)
theorem Bu (w:World):CP 223 #[.int .u64 0] w fun e w'=>∃k:Int,e= .returned (.int .i64 k)∧w'=w:=by
 refine aU (oR 0 w) ?_;intro J1 hJ1;refine aa.no rfl (hJ1 _ _ _ ?_);intro J3 hJ3;refine aa.no rfl (hJ3 _ _ _ ?_);intro J6 hJ6;refine aa.no rfl (hJ6 _ _ _ ?_);exact⟨by decide,by decide,_,rfl,rfl⟩
theorem E3 (w:World):CP 115 #[.slice none 0 0] w fun e w'=>e= .returned (.tuple #[])∧w'=w:=by
 refine aU (nR none 0 0 w) ?_;have len0:CP 170 #[.int .u64 0] w fun e w'=>∃k:Int,e= .returned (.int .i64 k)∧w'=w:=by
  refine aU (oO 0 w) ?_;refine(Bu w).mono ?_;rintro e w1 ⟨k,rfl,hw⟩;exact⟨_,rfl,k,rfl,hw⟩
 refine len0.mono ?_;rintro e w1 ⟨k,rfl,hw1⟩;subst hw1;refine⟨_,rfl,?_⟩;have pdq:CP 169 #[.slice none 0 0,.int .i64 0,.int .i64 0,.int .i64 k] w1 fun e w'=>e= .returned (.tuple #[])∧w'=w1:=by
  refine aU (oq none 0 0 0 0 k w1) ?_;intro I hI;refine hI _ _ _ _ _ _ ?_;intro J5 hJ5;refine Ar.nat 0 rfl (by omega) (aa.yes rfl ((rU w1 none 0 0).mono ?_));rintro e w2 ⟨rfl,h⟩;exact⟨rfl,rfl,h⟩
 refine pdq.mono ?_;rintro e w2 ⟨rfl,h⟩;exact⟨rfl,rfl,h⟩
def nH (s:ai) (T:List bl):List Int:=(List.range T.length).map (fun i:Nat=>(i:Int))++s.specials.map (·.1)
theorem f_ (s:ai) (T:List bl):(nH s T).length=T.length+s.specials.length:=by simp [nH]
theorem Bx {l:List Int} (h:l.Pairwise (·< ·)):lY l:=fun i j hi hj hij=>List.pairwise_iff_getElem.1 h i j hi hj hij
theorem ow {s:ai} {T:List bl} (hasc:(s.specials.map (·.1)).Pairwise (·< ·)) (hids:∀y∈s.specials,(T.length:Int)≤y.1):(nH s T).Pairwise (·< ·):=by
 rw [nH,List.pairwise_append];refine⟨?_,hasc,?_⟩
 ·rw [List.pairwise_map];exact List.pairwise_lt_range.imp (by intro a b h;omega)
 ·intro a ha b hb;obtain⟨i,hi,rfl⟩:=List.mem_map.1 ha;obtain⟨y,hy,rfl⟩:=List.mem_map.1 hb;have:=hids y hy;have:=List.mem_range.1 hi;omega
theorem DA (s:ai) (T:List bl) (t:Int):t∈nH s T↔cJ s T t=true:=by
 unfold nH cJ;rw [List.mem_append,decide_eq_true_eq,Or.comm];refine or_congr Iff.rfl ?_;rw [List.mem_map];constructor
 ·rintro⟨i,hi,rfl⟩;have:=List.mem_range.1 hi;exact⟨by omega,by omega⟩
 ·rintro⟨h1,h2⟩;exact⟨t.toNat,List.mem_range.2 (by omega),by omega⟩
theorem tN (w:World) (p:Nat) (xs:List (Int×Bs)) (h:un w p xs) (hl:xs.length≤1000000):CP 114 #[.pointer (some ⟨p,0,none⟩)] w fun e w'=>∃l:Sl,e= .returned l.v∧l.n=xs.length∧w'.ownsRow w.heap.size kU 2 l.v l.n (xs.flatMap av)∧Below w.heap.size w w':=by
 refine aU (oF (some ⟨p,0,none⟩) w) ?_;obtain⟨l,mi,mt,c,h1,h2,h3,h4,_,_⟩:=h;obtain⟨la,ln,lc⟩:=l;change ln=xs.length at h3;subst h3;refine aa.no rfl (ae.mk _ rfl ⟨la,_,lc,by rw [af _ _ h1];exact h2.c0,?_⟩);refine(oL w la lc xs h4 (by omega)).mono ?_;rintro e w1 ⟨l,rfl,hn,ho,hb⟩;exact⟨_,_,_,rfl,l,rfl,hn,ho,hb⟩
theorem yL (w:World) (v:Nat) (s:ai) (T:List bl) (hV:eU w v s T) (hasc:(s.specials.map (·.1)).Pairwise (·< ·)):
  CP 48 #[.pointer (some ⟨v,0,none⟩)] w fun e w'=>∃l:Sl,e= .returned l.v∧w'.ownsRow w.heap.size cE 1 l.v l.n ((nH s T).flatMap aQ)∧Below w.heap.size w w':=by
 refine aU (rE (some ⟨v,0,none⟩) w) ?_;obtain⟨w0,x,tp,bp,mp,d,l,uses,hR⟩:=hV;have hP:=hR.now;have hmost:=hP.ok.most;have hlen:=hP.ok.len;have hfew:=(bT hP.right).2.2.1;have hmx:s.specials.length≤32:=by
  have:=(aH hP.right).2.2.2.1;exact bx this
 refine(fC hR.vblk hP.tab).mono ?_;rintro e w1 ⟨rfl,hw⟩;subst hw;refine⟨_,rfl,?_⟩;intro I hI;have key:=aK (α:=Sl×World) T.length (fun i y=>y.2.ownsRow w1.heap.size cE 1 y.1.v y.1.n (((List.range i).map (fun i:Nat=>(i:Int))).flatMap aQ)∧y.1.n=i∧Below w1.heap.size w1 y.2) (fun i y=>I [.int .i64 (i:Int),y.1.v] y.2) (fF,w1) ⟨dx _ _ _ _ aQ,rfl,Below.refl _ _⟩ ?_ ?_
 ·exact key
 ·rintro i hi ih ⟨f,q⟩ ⟨hown,hn,hB⟩;change q.ownsRow w1.heap.size cE 1 f.v f.n _ at hown;change f.n=i at hn;change Below w1.heap.size w1 q at hB;refine hI _ f.a f.n f.c q (aa.yes (by simp;omega) ?_);intro w3 hw3;obtain⟨f',w4,g1,g2,g3,g4,_⟩:=ic.push hown (i:Int) hw3 rfl hB.size (by omega) (by decide);refine⟨f'.a,f'.n,f'.c,w4,g2,Ar.nat (i+1) rfl (by omega) (ih (f',w4) ⟨?_,by show f'.n=i+1;omega,g4 _ hB⟩)⟩;rw [List.range_succ,List.map_append];exact g3
 ·rintro⟨f,q⟩ ⟨hown,hn,hB⟩;change q.ownsRow w1.heap.size cE 1 f.v f.n _ at hown;change f.n=T.length at hn;change Below w1.heap.size w1 q at hB;refine hI _ f.a f.n f.c q (aa.no (by simp) ?_);refine(lb (hR.vblk.on hB)).mono ?_;rintro e w5 ⟨rfl,hw⟩;subst hw;refine⟨_,rfl,?_⟩;refine(tN w5 mp s.specials (hP.on hB).marks hfew).mono ?_;rintro e w6 ⟨a,rfl,han,hao,b6⟩;refine⟨a.a,a.n,a.c,rfl,?_⟩;have hB6:=ab hB b6;intro I2 hI2;have key2:=aK (α:=Sl×World) s.specials.length (fun i y=>y.2.ownsRow w1.heap.size cE 1 y.1.v y.1.n (((List.range T.length).map (fun i:Nat=>(i:Int))++(s.specials.take i).map (·.1)).flatMap aQ)∧y.1.n=T.length+i∧y.2.ownsRow w1.heap.size kU 2 a.v a.n (s.specials.flatMap av)∧Below w1.heap.size w1 y.2) (fun i y=>I2 [.int .i64 (i:Int),y.1.v] y.2) (f,w6) ⟨by simpa using aL hown b6,by show f.n=T.length+0;omega,cD hao hB.size,hB6⟩ ?_ ?_
  ·exact key2
  ·rintro i hi ih ⟨g,z⟩ ⟨hg,hgn,hza,hBz⟩;change z.ownsRow w1.heap.size cE 1 g.v g.n _ at hg;change g.n=T.length+i at hgn;change z.ownsRow w1.heap.size kU 2 a.v a.n _ at hza;change Below w1.heap.size w1 z at hBz;obtain⟨p,hp,_,hc⟩:=(gN.of_own ek hza).r i _ (List.getElem?_eq_getElem hi);have c0:=hc 0 _ rfl;rw [an]at c0;refine hI2 _ g.a g.n g.c z (aa.yes (by simp;omega) (ae.mk p hp ⟨by omega,by omega,_,_,⟨c0,hc 1 _ rfl,trivial⟩,?_⟩));intro w8 hw8;refine aJ [.int .i64 0,.string ⟨#[]⟩] [.int .i64 s.specials[i].1,.string (str s.specials[i].2)] rfl (ft _ _) w8 hw8 ?_;intro w9 h9 hz9 b9;refine⟨_,af _ _ h9 0,?_⟩;intro w10 hw10;have hB9:=ab hBz b9;obtain⟨g',w11,e1,e2,e3,e4,e5⟩:=ic.push (aL hg b9) s.specials[i].1 hw10 rfl hB9.size (by omega) (by decide);have hza9:=aL hza b9;refine⟨g'.a,g'.n,g'.c,w11,e2,Ar.nat (i+1) rfl (by omega) (ih (g',w11) ⟨?_,by show g'.n=T.length+(i+1);omega,bD hza9 fun k hk=>e5 k (cn hza9 k hk).2 (dj hza9 (aL hg b9) (by decide) k hk),e4 _ hB9⟩)⟩;rw [List.take_add_one,List.getElem?_eq_getElem hi,List.map_append, ←List.append_assoc];exact e3
  ·rintro⟨g,z⟩ ⟨hg,hgn,hza,hBz⟩;change z.ownsRow w1.heap.size cE 1 g.v g.n _ at hg;change g.n=T.length+s.specials.length at hgn;change Below w1.heap.size w1 z at hBz;rw [List.take_length]at hg;have hgl:g.n=(nH s T).length:=by rw [f_,hgn]
   have hgg:z.ownsRow w1.heap.size cE 1 g.v g.n ((nH s T).flatMap aQ):=hg;refine hI2 _ g.a g.n g.c z (aa.no (by simp;omega) ?_);have hrow:=(gN.of_own ic hgg).r;have hrise:=Bx (ow hasc hP.ids);have hsort:CP 115 #[.slice g.a g.n g.c] z fun e w'=>e= .returned (.tuple #[])∧Below z.heap.size z w':=by
    rw [hgl];exact Ci z g.a g.c _ hrow hrise (by rw [f_];omega) (by rw [f_];omega)
   refine hsort.mono ?_;rintro e w12 ⟨rfl,b12⟩;exact⟨rfl,g,rfl,aL hgg b12,ab hBz b12⟩
def s1 (x:Nat):Nat:=(x/2&&&6148914691236517205)+(x&&&6148914691236517205)
def s2 (x:Nat):Nat:=(x/4&&&3689348814741910323)+(x&&&3689348814741910323)
def s3 (x:Nat):Nat:=x/16+x
def s4 (x:Nat):Nat:=(x&&&1085102592571150095)+(x&&&1085102592571150095)/256
def s5 (x:Nat):Nat:=x+x/65536
def KX:List bl:=bf++ [([97,98],(97,98))]
theorem zP (w:World):CP 48 #[.pointer none] w fun e w'=>e= .returned (.slice none 0 0)∧w'=w:=by
 refine aU (rE none w) ?_;have size0:CP 50 #[.pointer none] w fun e w'=>e= .returned (.int .i64 0)∧w'=w:=by
  refine aU (lR none w) ?_;have tab0:CP 54 #[.pointer none] w fun e w'=>e= .returned (.pointer none)∧w'=w:=az (lS none w (fun u w'=>u= .pointer none∧w'=w) (aa.yes rfl ⟨rfl,rfl⟩)) (by rintro v w' ⟨rfl,h⟩;exact⟨rfl,h⟩);refine tab0.mono ?_;rintro e w1 ⟨rfl,rfl⟩;have len0:CP 116 #[.pointer none] w1 fun e w'=>e= .returned (.int .i64 0)∧w'=w1:=az (jB none w1 (fun u w'=>u= .int .i64 0∧w'=w1) (aa.yes rfl ⟨rfl,rfl⟩)) (by rintro v w' ⟨rfl,h⟩;exact⟨rfl,h⟩);refine⟨_,rfl,len0.mono ?_⟩;rintro e w2 ⟨rfl,rfl⟩;exact⟨_,rfl,rfl,rfl⟩
 refine size0.mono ?_;rintro e w1 ⟨rfl,rfl⟩;refine⟨_,rfl,?_⟩;intro I hI;refine hI 0 _ _ _ _ (aa.no rfl ?_);have marks0:CP 56 #[.pointer none] w1 fun e w'=>e= .returned (.pointer none)∧w'=w1:=az (lV none w1 (fun u w'=>u= .pointer none∧w'=w1) (aa.yes rfl ⟨rfl,rfl⟩)) (by rintro v w' ⟨rfl,h⟩;exact⟨rfl,h⟩);refine marks0.mono ?_;rintro e w2 ⟨rfl,rfl⟩;have all0:CP 114 #[.pointer none] w2 fun e w'=>e= .returned (.slice none 0 0)∧w'=w2:=az (oF none w2 (fun u w'=>u= .slice none 0 0∧w'=w2) (aa.yes rfl ⟨rfl,rfl⟩)) (by rintro v w' ⟨rfl,h⟩;exact⟨rfl,h⟩);refine⟨_,rfl,all0.mono ?_⟩;rintro e w3 ⟨rfl,rfl⟩;refine⟨_,_,_,rfl,?_⟩;intro I2 hI2;refine hI2 0 _ _ _ _ (aa.no rfl ?_);refine(E3 w3).mono ?_;rintro e w4 ⟨rfl,rfl⟩;exact⟨rfl,rfl,rfl⟩
def gI (s:ai) (q:Int×Nat×Int):Int:=if q.1=1 then(q.2.1:Int)+2 else(q.2.1:Int)+(2+(s.merges.length:Int)+(s.tokens.length:Int))
def s_ (w:World) (t:Bs) (v:Value) (w':World):Prop:=Below w.heap.size w w'∧if 60000<t.length then v= .tuple #[.pointer none,.int .i64 0,.int .i64 3]else match bW t with
 | .error m=>v= .tuple #[.pointer none,.int .i64 m,.int .i64 2]
 | .ok s=>match bq s with
  | .error q=>v= .tuple #[.pointer none,.int .i64 (gI s q),.int .i64 q.2.2]∧q.2.2≠0
  | .ok T=>∃p,v= .tuple #[.pointer (some ⟨p,0,none⟩),.int .i64 0,.int .i64 0]∧gK w.heap.size w' p s T
theorem Cz:Lib.itoa 257= [50,53,55]:=by
 unfold Lib.itoa;rw [if_neg (by decide),show(257:Int).toNat=257 from rfl,dt (by decide),dt (by decide),Lib.decDigits_one (by decide)];rfl
theorem Dc:Lib.itoa 256= [50,53,54]:=by
 unfold Lib.itoa;rw [if_neg (by decide),show(256:Int).toNat=256 from rfl,dt (by decide),dt (by decide),Lib.decDigits_one (by decide)];rfl
def sA1:ai:={merges:=[(97,98)],specials:=[(257,[60])]}
def sA2:ai:={merges:=[(97,98)],specials:=[(256,[60])]}
def K0:Bs:=[118,111,99,97,98,32,109,101,114,103,101,115,10,109,101,114,103,101,32,57,55,32,57,56,10,115,112,101,99,105,97,108,32,50,53,55,32,51,99,10]
def Lx:Bs:=[118,111,99,97,98,32,109,101,114,103,101,115,10,109,101,114,103,101,32,57,55,32,57,56,10,115,112,101,99,105,97,108,32,50,53,54,32,51,99,10]
theorem C7:gv [60]= [51,99]:=by decide+kernel
theorem FW:sA1.text=K0:=by
 unfold ai.text ai.lines ai.tail sA1 cR bO dl;simp only [List.map_cons,List.map_nil,List.nil_append,List.append_nil,List.cons_append,AD,AH,Cz,C7];decide+kernel
theorem FM:sA2.text=Lx:=by
 unfold ai.text ai.lines ai.tail sA2 cR bO dl;simp only [List.map_cons,List.map_nil,List.nil_append,List.append_nil,List.cons_append,AD,AH,Dc,C7];decide+kernel
theorem DP:sA1.right=true:=by decide+kernel
theorem Ds:sA2.right=true:=by decide+kernel
theorem EI:bW K0= .ok sA1:=by rw [←FW];exact jk sA1 DP
theorem DU:bW Lx= .ok sA2:=by rw [←FM];exact jk sA2 Ds
theorem E':bq sA1= .ok KX:=by
 have h:(match bq sA1 with | .ok t=>decide (t=KX) | .error _=>false)=true:=by decide+kernel
 cases hx:bq sA1 with
 |error q=>rw [hx]at h;cases h
 |ok t=>rw [hx]at h;rw [of_decide_eq_true h]
theorem E5:bq sA2= .error (2,0,4):=by
 have h:(match bq sA2 with | .ok t=>false | .error q=>decide (q=(2,0,4)))=true:=by decide+kernel
 cases hx:bq sA2 with
 |error q=>rw [hx]at h;rw [of_decide_eq_true h]
 |ok t=>rw [hx]at h;cases h
theorem jK {s:ai} {q:Int×Nat×Int} (h:bq s= .error q):q.1=1∨q.1=2:=by
 unfold bq at h;cases hl:ff s with
 |error r=>rw [hl]at h;cases h;exact .inl rfl
 |ok T=>
  rw [hl]at h;dsimp only at h;cases hm:bn [] 0 s.specials with
  |some r=>rw [hm]at h;cases h;exact .inr rfl
  |none=>
   rw [hm]at h;dsimp only at h;cases hf:s.specials.findIdx? (fun y=>decide (y.1< (T.length:Int)))with
   |some i=>rw [hf]at h;cases h;exact .inr rfl
   |none=>rw [hf]at h;cases h
def LE (a b:OA) (c d:Nat) (w:World) (R:RW):Prop:=
 aa (Option.isNone a)
 (R (tuple #[slice none 0 0,int .i64 0,int .i64 1]) w)
 (ae a (fun f=>
 CP 105 #[pointer (some (f.add 13)),int .i64 1] w (fun g h=>
 ∃i,g= .returned (int .i64 i)∧
 ∀j:KW,(∀(k:Int) (l:OA) (m n:Nat) (o p:Int) (q:OA) (r s:Nat) (t:World),(aa (decide (k< (c:Int)))
 (ae b (fun u=>
 (0:Int)≤k∧k< (c:Int)∧
 ∃x,t.cell? (u.add (k.toNat*1))=some (int .i64 x)∧
 CP 113 #[pointer a,int .i64 x] t (fun y z=>
 ∃a1 b1 c1 d1,y= .returned (tuple #[slice a1 b1 c1,bool d1])∧
 aa (!d1)
 (R (tuple #[slice none 0 0,int .i64 k,int .i64 4]) z)
 (∃e1 f1 g1 h1,(Builtin.append_ #[28,28] 28 #[slice l m n,slice a1 b1 c1]).run Tryz.prog z= .ok (slice e1 f1 g1) h1∧
 Ar .i64 (k+1) (fun i1=>
 j [int .i64 i1,slice e1 f1 g1,int .i64 o,int .i64 p,slice q r s] h1)))))
 (R (tuple #[slice l m n,int .i64 (c:Int),int .i64 0]) t))→j [int .i64 k,slice l m n,int .i64 o,int .i64 p,slice q r s] t)→
 j [int .i64 0,slice none 0 0,int .i64 0,int .i64 0,slice none 0 0] h)))
theorem qR (a b:OA) (c d:Nat) (w:World) (R:RW) (hh:LE a b c d w R):CR 47 #[pointer a,slice b c d] w R:=
 aF (fn:=Tryz.f47) (by kernel_rfl) (by kernel_rfl) (by kernel_rfl) (by kernel_rfl) (by kernel_rfl) hh
def Ky (a:OA) (b:Int) (w:World) (R:RW):Prop:=
 ae a (fun c=>
 ∃d,w.cell? ((c.add 0).add 8)=some (pointer d)∧
 CP 106 #[pointer d,int .i64 b] w (fun f g=>
 ∃h i,f= .returned (tuple #[int .i64 h,bool i])∧
 aa i
 (∀j,j=g.alloc (.cells #[int .i64 h] 3)→
 R (tuple #[slice (some (nb g)) 1 1,bool true]) j)
 (ae a (fun k=>
 ∃l,g.cell? ((k.add 0).add 6)=some (pointer l)∧
 CP 163 #[pointer l,int .i64 b] g (fun m n=>
 ∃o p,m= .returned (tuple #[string o,bool p])∧
 CP 168 #[string o] n (fun q r=>
 ∃s t u,q= .returned (slice s t u)∧
 R (tuple #[slice s t u,bool p]) r))))))
theorem xR (a:OA) (b:Int) (w:World) (R:RW) (hh:Ky a b w R):CR 113 #[pointer a,int .i64 b] w R:=
 aF (fn:=Tryz.f113) (by kernel_rfl) (by kernel_rfl) (by kernel_rfl) (by kernel_rfl) (by kernel_rfl) hh
def Jb (a:ByteArray) (w:World) (R:RW):Prop:=
 ∀b:KW,(∀(c:Int) (d:OA) (f g:Nat) (h:World),(aa (decide (c< (a.size:Int)))
 ((0:Int)≤c∧c< (a.size:Int)∧
 ∀i,i=h.alloc (.cells #[int .i64 (IntKind.wrap .i64 (btAt a c))] 3)→
 ∃j k l m,(Builtin.append_ #[28,28] 28 #[slice d f g,slice (some (nb h)) 1 1]).run Tryz.prog i= .ok (slice j k l) m∧
 Ar .i64 (c+1) (fun n=>
 b [int .i64 n,slice j k l] m))
 (R (slice d f g) h))→b [int .i64 c,slice d f g] h)→
 b [int .i64 0,slice none 0 0] w
theorem vu (a:ByteArray) (w:World) (R:RW) (hh:Jb a w R):CR 168 #[string a] w R:=
 aF (fn:=Tryz.f168) (by kernel_rfl) (by kernel_rfl) (by kernel_rfl) (by kernel_rfl) (by kernel_rfl) hh
theorem mN:∀ {ms:List (Int×Int)} {es:List bl} {i:Nat} {q:Nat×Int},bG es i ms= .error q→q.1<i+ms.length
 | [],es,i,q,h=>by cases h
 |m::ms,es,i,q,h=>by
  rw [bG]at h;cases hx:bj es m with
  |error n=>rw [hx]at h;cases h;simp
  |ok x=>rw [hx]at h;have:=mN h;simp only [List.length_cons];omega
theorem lv:∀ {ts:List Bs} {es:List bl} {i:Nat} {q:Nat×Int},bQ es i ts= .error q→q.1<i+ts.length
 | [],es,i,q,h=>by cases h
 |t::ts,es,i,q,h=>by
  rw [bQ]at h;cases hp:gR (cW es t)with
  |none=>rw [hp]at h;cases h;simp
  |some m=>
   rw [hp]at h;dsimp only at h;cases hx:bj es m with
   |error n=>rw [hx]at h;cases h;simp
   |ok x=>rw [hx]at h;have:=lv h;simp only [List.length_cons];omega
theorem lh:∀ {xs ys:List (Int×Bs)} {i:Nat} {q:Nat×Int},bn ys i xs=some q→q.1<i+xs.length
 | [],ys,i,q,h=>by cases h
 |x::xs,ys,i,q,h=>by
  rw [bn]at h;split at h
  ·have:=lh h;simp only [List.length_cons];omega
  ·cases h;simp
theorem jY {s:ai} {q:Int×Nat×Int} (h:bq s= .error q) (hs:dO s):q.2.1≤1000000:=by
 obtain⟨h1,h2,h3,_,_⟩:=hs;unfold bq at h;cases hl:ff s with
 |error r=>
  rw [hl]at h;cases h;unfold ff at hl;split at hl
  ·have:=lv hl;simp only;omega
  ·have:=mN hl;simp only;omega
 |ok T=>
  rw [hl]at h;dsimp only at h;cases hm:bn [] 0 s.specials with
  |some r=>rw [hm]at h;cases h;have:=lh hm;simp only;omega
  |none=>
   rw [hm]at h;dsimp only at h;cases hf:s.specials.findIdx? (fun y=>decide (y.1< (T.length:Int)))with
   |some i=>
    rw [hf]at h;cases h;have:=(List.findIdx?_eq_some_iff_getElem.1 hf).1;simp only;omega
   |none=>rw [hf]at h;cases h
theorem ed (t:Bs) (w:World) (h:fD w):
  CP 31 #[.string (str t)] w fun e w'=>∃v,e= .returned v∧s_ w t v w':=by
 refine zJ (str t) w (s_ w t) ?_;refine(p_ t w h.pow h.errs h.mx).mono ?_;rintro e w1 ⟨v,rfl,hp,b1⟩;obtain⟨x,n,m,rfl,hcase⟩:∃(x:aG) (n m:Int),v= .tuple #[x.v,.int .i64 n,.int .i64 m]∧((60000<t.length∧n=0∧m=3)∨(¬60000<t.length∧((∃k:Nat,bW t= .error k∧n=(k:Int)∧m=2)∨∃s,bW t= .ok s∧n=0∧m=0∧aM w1 x s))):=by
  unfold dN at hp;split at hp
  ·rename_i hl;obtain⟨x,rfl,_⟩:=hp;exact⟨x,0,3,rfl,.inl ⟨hl,rfl,rfl⟩⟩
  ·rename_i hl;cases hq:bW t with
   |ok s=>rw [hq]at hp;obtain⟨x,rfl,hx⟩:=hp;exact⟨x,0,0,rfl,.inr ⟨hl,.inr ⟨s,rfl,rfl,rfl,hx⟩⟩⟩
   |error k=>rw [hq]at hp;obtain⟨x,rfl,_⟩:=hp;exact⟨x,k,2,rfl,.inr ⟨hl,.inl ⟨k,rfl,rfl,rfl⟩⟩⟩
 refine⟨_,_,_,_,_,_,_,_,_,_,_,_,_,_,_,_,n,m,rfl,?_⟩;intro w2 hw2;refine dD x w2 hw2 ?_;intro w3 h3 b3;have hb3:=ab b1 b3;rcases hcase with⟨hl,rfl,rfl⟩ |⟨hl,⟨k,hk,rfl,rfl⟩ |⟨s,hs,rfl,rfl,hx⟩⟩
 ·exact aa.yes rfl ⟨hb3,by rw [if_pos hl]⟩
 ·exact aa.yes rfl ⟨hb3,by rw [if_neg hl,hk]⟩
 ·have hright:=(qw t s hs).2;have hx3:=hx.on b3;have hsm:=bT hright;refine aa.no rfl ⟨_,_,_,_,_,_,_,_,_,_,_,_,_,_,_,_,aV h3,?_⟩;refine(ov w3 x s hx3 hright).mono ?_;rintro e w4 ⟨v,rfl,b4,hp⟩;have hb4:=ab hb3 b4;have h4:=ah b4 h3;cases hq:bq s with
  |error q=>
   rw [hq]at hp;obtain⟨rfl,hne⟩:=hp;refine⟨_,_,_,_,rfl,?_⟩;intro J hJ;have out:∀n:Int,n=gI s q→J [.int .i64 n] w4:=fun n hn=>hJ n w4 ⟨hb4,by rw [if_neg hl,hs];simp only [hq];exact⟨by rw [hn],hne⟩⟩;have hpl:=jY hq hsm;have n1:=hx3.n1;have n2:=hx3.n2;obtain⟨k1,k2,_⟩:=hsm;rcases jK hq with e1 |e1
   ·exact aa.yes (by rw [e1];rfl) (Ar.ok64 (by omega) (by omega) (out _ (by rw [gI,if_pos e1])))
   ·refine aa.no (by rw [e1];rfl) (aa.yes (by rw [e1];rfl) ⟨_,_,_,af _ _ h4 1,Ar.ok64 (by omega) (by omega) ⟨_,_,_,af _ _ h4 2,Ar.ok64 (by omega) (by omega) (Ar.ok64 (by omega) (by omega) (out _ ?_))⟩⟩);rw [gI,if_neg (by omega),n1,n2]
  |ok T=>
   rw [hq]at hp;obtain⟨p,rfl,hN⟩:=hp;refine⟨_,_,_,_,rfl,?_⟩;intro J hJ;exact aa.no rfl (aa.no rfl (hJ 0 w4 ⟨hb4,by rw [if_neg hl,hs];simp only [hq];exact⟨p,rfl,hN.base hb3.size⟩⟩))
theorem c_.at {B:Nat} {w:World} {x:aG} {s:ai} (h:c_ B w x s) (hr:x.ranked=s.ranked):aM w x s:=
 ⟨hr,(Rw.of_own h.o1 (fun _=>rfl) (by decide)).2,(Rw.of_own h.o1 (fun _=>rfl) (by decide)).1,(Rw.of_own h.o2 (fun _=>rfl) (by decide)).2,(Rw.of_own h.o2 (fun _=>rfl) (by decide)).1,(Rw.of_own h.o3 (fun _=>rfl) (by decide)).2,(Rw.of_own h.o3 (fun _=>rfl) (by decide)).1,(Rw.of_own h.o4 (fun _=>rfl) (by decide)).2,(Rw.of_own h.o4 (fun _=>rfl) (by decide)).1,(Rw.of_own h.o5 (fun _=>rfl) (by decide)).2,(Rw.of_own h.o5 (fun _=>rfl) (by decide)).1⟩
theorem fL (w:World) (v:Nat) {x:aG} {tp bp mp:Nat} {d:Int} {l:Sl} {uses:Int} (hv:w.heap[v]? =some (.cells (dX x tp bp mp d l uses) dC (0,0))) {s:ai} (hx:aM w x s) (hs:dO s):
  CP 35 #[.pointer (some ⟨v,0,none⟩)] w fun e w'=>∃x':aG,e= .returned x'.v∧aM w' x' s∧Below w.heap.size w w'∧c_ w.heap.size w' x' s:=by
 refine az (pA (some ⟨v,0,none⟩) w (fun u w'=>∃x':aG,u=x'.v∧aM w' x' s∧Below w.heap.size w w'∧c_ w.heap.size w' x' s) ?_) (by rintro v w' ⟨x',rfl,h⟩;exact⟨x',rfl,h⟩);intro w1 hw1;have b1:Below w.heap.size w w1:=by subst hw1;exact ag _ _
 have z1:w1.heap[w.heap.size]? =some (.cells bX.cells bd (0,0)):=by subst hw1;exact ao _ _
 have v1:=ah b1 hv;have hz:w1.heap.size=w.heap.size+1:=by subst hw1;exact ax _ _
 have c1:∀j,w1.cell? ((((⟨v,0,none⟩:Addr).add 0).add 0).add j)=(dX x tp bp mp d l uses)[j]? :=fun j=>by rw [aA,aA,aA];have:=cY v1 (j:=0+0+0+j);simpa using this
 refine aa.no rfl (ae.mk _ rfl ⟨x.ranked,_,_,_,_,_,_,_,_,_,_,_,_,_,_,_,⟨by have:=c1 0;rw [an]at this;exact this,c1 1,c1 2,c1 3,c1 4,c1 5,trivial⟩,?_⟩);refine(mV w1 x s (hx.on b1) hs).mono ?_;rintro e w3 ⟨x',rfl,hx',b3,ho⟩;refine⟨_,_,_,_,_,_,_,_,_,_,_,_,_,_,_,_,rfl,?_⟩;refine dI (w:=w) (w6:=w3) (fun x w4=>∃x':aG,x.v=x'.v∧aM w4 x' s∧Below w.heap.size w w4∧c_ w.heap.size w4 x' s) x' (ah b3 z1) rfl ?_;intro w4 hB4 hs4;have off:∀ {e:TypeId} {sz n:Nat} {u:Value} {xs:List Value},w3.ownsRow w1.heap.size e sz u n xs→w4.ownsRow w.heap.size e sz u n xs:=fun h=>cD (bD h fun k hk=>hs4 k (by have:=(cn h k hk).1;omega)) (by omega);have ho4:c_ w.heap.size w4 x' s:=⟨off ho.o1,off ho.o2,off ho.o3,off ho.o4,off ho.o5⟩;exact⟨x',rfl,ho4.at hx'.ranked,hB4 w (ab b1 b3),ho4⟩
theorem pd (a:Addr) (n:Int) (w:World) (hc:w.cell? a=some (.int .i64 n)):
  CP 117 #[.pointer (some a)] w fun e w'=>e= .returned (.int .i64 n)∧w'=w:=by
 have hl:=run_call_load (P:=Tryz.prog) Tryz.func171 (by kernel_rfl) (by kernel_rfl) (by kernel_rfl) .i64 (by kernel_rfl) hc
 go_enter Tryz.func117,Tryz.ntmps117
 go_wp2
 go_ret
 exact⟨rfl,rfl⟩
theorem zw (w:World) (v:Nat) {x:aG} {tp bp mp:Nat} {d:Int} {l:Sl} {uses:Int} (hv:w.heap[v]? =some (.cells (dX x tp bp mp d l uses) dC (0,0))):
  CP 51 #[.pointer (some ⟨v,0,none⟩)] w fun e w'=>e= .returned (.int .i64 uses)∧w'=w:=by
 refine aU (qh (some ⟨v,0,none⟩) w) ?_;refine aa.no rfl (ae.mk _ rfl ?_);refine(pd _ uses w (by rw [af _ _ hv];rfl)).mono ?_;rintro e w1 ⟨rfl,rfl⟩;exact⟨_,rfl,rfl,rfl⟩
theorem qp (w:World):CP 54 #[.pointer none] w fun e w'=>e= .returned (.pointer none)∧w'=w:=az (lS none w (fun u w'=>u= .pointer none∧w'=w) (aa.yes rfl ⟨rfl,rfl⟩)) (by rintro v w' ⟨rfl,h⟩;exact⟨rfl,h⟩)
theorem wc (w:World):CP 55 #[.pointer none] w fun e w'=>e= .returned (.pointer none)∧w'=w:=az (zY none w (fun u w'=>u= .pointer none∧w'=w) (aa.yes rfl ⟨rfl,rfl⟩)) (by rintro v w' ⟨rfl,h⟩;exact⟨rfl,h⟩)
theorem pT (w:World):CP 56 #[.pointer none] w fun e w'=>e= .returned (.pointer none)∧w'=w:=az (lV none w (fun u w'=>u= .pointer none∧w'=w) (aa.yes rfl ⟨rfl,rfl⟩)) (by rintro v w' ⟨rfl,h⟩;exact⟨rfl,h⟩)
theorem sH (w:World):CP 50 #[.pointer none] w fun e w'=>e= .returned (.int .i64 0)∧w'=w:=by
 refine aU (lR none w) ?_;refine(qp w).mono ?_;rintro e w1 ⟨rfl,rfl⟩;have len0:CP 116 #[.pointer none] w1 fun e w'=>e= .returned (.int .i64 0)∧w'=w1:=az (jB none w1 (fun u w'=>u= .int .i64 0∧w'=w1) (aa.yes rfl ⟨rfl,rfl⟩)) (by rintro v w' ⟨rfl,h⟩;exact⟨rfl,h⟩);refine⟨_,rfl,len0.mono ?_⟩;rintro e w2 ⟨rfl,rfl⟩;exact⟨_,rfl,rfl,rfl⟩
theorem Bl (w:World):CP 51 #[.pointer none] w fun e w'=>e= .returned (.int .i64 0)∧w'=w:=
 aU (qh none w) (aa.yes rfl ⟨rfl,rfl⟩)
theorem zN (w:World) (A:Option Addr) (N C:Nat):CP 47 #[.pointer none,.slice A N C] w fun e w'=>e= .returned (.tuple #[.slice none 0 0,.int .i64 0,.int .i64 1])∧w'=w:=
 aU (qR none A N C w) (aa.yes rfl ⟨rfl,rfl⟩)
theorem CL (w:World) (id:Int):CP 49 #[.pointer none,.int .i64 id] w fun e w'=>e= .returned (.bool false)∧w'=w:=by
 refine aU (qq none id w) ?_;refine(pT w).mono ?_;rintro e w1 ⟨rfl,rfl⟩;refine⟨_,rfl,(uy w1 id).mono ?_⟩;rintro e w2 ⟨rfl,rfl⟩;refine⟨_,_,rfl,aa.no rfl (aa.mk (fun h0=>?_) fun _=>⟨rfl,rfl⟩)⟩;refine(sH w2).mono ?_;rintro e w3 ⟨rfl,rfl⟩;have h0:=of_decide_eq_true h0;exact⟨_,rfl,by rw [decide_eq_false (by omega)],rfl⟩
theorem Bw (w:World):CP 35 #[.pointer none] w fun e w'=>e= .returned bX.v∧Below w.heap.size w w':=by
 refine az (pA none w (fun u w'=>u=bX.v∧Below w.heap.size w w') ?_) (by rintro v w' ⟨rfl,h⟩;exact⟨rfl,h⟩);intro w1 hw1;have b1:Below w.heap.size w w1:=by subst hw1;exact ag _ _
 have z1:w1.heap[w.heap.size]? =some (.cells bX.cells bd (0,0)):=by subst hw1;exact ao _ _
 refine aa.yes rfl ?_;refine dI (w:=w) (w6:=w1) (fun x w4=>x.v=bX.v∧Below w.heap.size w w4) bX z1 rfl ?_;intro w4 hB4 hs4;exact⟨rfl,hB4 w b1⟩
theorem Eu:cJ sA1 KX 257=true∧cJ sA1 KX 258=false:=by decide+kernel
theorem dB (w:World) (h:fD w):CP 30 #[] w fun e w'=>e= .returned (.bool true)∧Below w.heap.size w w':=by
 refine aU (zu w) ?_;refine(ed K0 w h).mono ?_;rintro e w1 ⟨v,rfl,b1,hp⟩;rw [if_neg (by decide),EI]at hp;simp only [E']at hp;obtain⟨p,rfl,hN⟩:=hp;refine⟨_,_,_,rfl,(ed Lx w1 (h.on b1)).mono ?_⟩;rintro e w2 ⟨v,rfl,b2,hp⟩;rw [if_neg (by decide),DU]at hp;simp only [E5]at hp;obtain⟨rfl,_⟩:=hp;obtain⟨w0,x,tp,bp,mp,hR,_⟩:=hN.on b2;refine⟨_,_,_,rfl,aa.yes rfl (aa.yes rfl (aa.yes rfl ((fC hR.vblk hR.now.tab).mono ?_)))⟩;rintro e w3 ⟨rfl,rfl⟩;refine⟨_,rfl,aa.yes (by decide+kernel) ((jT hR.vblk hR.now 257).mono ?_)⟩;rintro e w4 ⟨rfl,rfl⟩;rw [Eu.1];refine⟨_,rfl,aa.yes rfl ((jT hR.vblk hR.now 258).mono ?_)⟩;rintro e w5 ⟨rfl,rfl⟩;rw [Eu.2];exact⟨_,rfl,aa.yes rfl (aa.yes (by decide) ⟨rfl,ab b1 b2⟩)⟩
theorem rq (id:Int) (w:World) (h:fD w):CP 10 #[.int .i64 id] w fun e w'=>e= .returned (.bool true)∧Below w.heap.size w w':=by
 refine aU (AB id w) ?_;intro w1 hw1;have b1:Below w.heap.size w w1:=by subst hw1;exact ag _ _
 refine(zN w1 _ _ _).mono ?_;rintro e w2 ⟨rfl,rfl⟩;refine⟨_,_,_,_,_,rfl,aa.yes rfl (aa.yes rfl (aa.yes rfl ((BD w2 id).mono ?_)))⟩;rintro e w3 ⟨rfl,rfl⟩;refine⟨_,rfl,aa.yes rfl ((CL w3 id).mono ?_)⟩;rintro e w4 ⟨rfl,rfl⟩;refine⟨_,rfl,aa.yes rfl ((sH w4).mono ?_)⟩;rintro e w5 ⟨rfl,rfl⟩;refine⟨_,rfl,aa.yes rfl ((zP w5).mono ?_)⟩;rintro e w6 ⟨rfl,rfl⟩;refine⟨_,_,_,rfl,aa.yes rfl ((Bl w6).mono ?_)⟩;rintro e w7 ⟨rfl,rfl⟩;refine⟨_,rfl,aa.yes rfl ((qp w7).mono ?_)⟩;rintro e w8 ⟨rfl,rfl⟩;refine⟨_,rfl,aa.yes rfl ((wc w8).mono ?_)⟩;rintro e w9 ⟨rfl,rfl⟩;refine⟨_,rfl,aa.yes rfl ((pT w9).mono ?_)⟩;rintro e w10 ⟨rfl,rfl⟩;refine⟨_,rfl,aa.yes rfl ((Bw w10).mono ?_)⟩;rintro e w11 ⟨rfl,b11⟩;refine⟨_,_,_,_,_,_,_,_,_,_,_,_,_,_,_,_,rfl,?_⟩;refine(gA bX bX {} {} w11 (kE _) (kE _) vm).mono ?_;rintro e w12 ⟨rfl,b12⟩;have hb12:=ab (ab b1 b11) b12;refine⟨_,rfl,aa.yes (by decide) ((dB w12 (h.on hb12)).mono ?_)⟩;rintro e w13 ⟨rfl,b13⟩;exact⟨_,rfl,rfl,ab hb12 b13⟩
end Go.Proofs.YtijbcdiffjjefaaGreatDoor.Eng
