/- Things put together by what is alike; in plain Lean. -/
import Derived.Test.YtijbcdiffjjefaaGreatDoorZwRk
import Derived.Test.YtijbcdiffjjefaaGreatDoorZwTab
set_option linter.unusedVariables false
namespace Go.Proofs.YtijbcdiffjjefaaGreatDoor.Eng
section
variable {κ:Type} [DecidableEq κ] (k:Nat→κ)
def aL:Nat→List Nat
 |0=>[]
 |i+1=>match(aL i).findIdx? (fun a=>decide (k a=k i))with
  |some _=>aL i
  |none=>aL i++ [i]
def clsOf (i:Nat):Nat:=((aL k i).findIdx? (fun a=>decide (k a=k i))).getD (aL k i).length
variable {k}
theorem B1 (i:Nat):aL k (i+1)=match(aL k i).findIdx? (fun a=>decide (k a=k i))with
  |some _=>aL k i
  |none=>aL k i++ [i]:=rfl
theorem eY:∀ {n:Nat} {a:Nat},a∈aL k n→a<n
 |0,a,h=>by cases h
 |n+1,a,h=>by
  unfold aL at h;split at h
  ·have:=eY h;omega
  ·rcases List.mem_append.1 h with h |h
   ·have:=eY h;omega
   ·rw [List.mem_singleton.1 h];omega
theorem rM:∀ {n:Nat} (d:Nat),∃t,aL k (n+d)=aL k n++t
 |n,0=>⟨[],by simp⟩
 |n,d+1=>by
  obtain⟨t,h⟩:=rM (n:=n) d;rw [←Nat.add_assoc,aL];split
  ·exact⟨t,h⟩
  ·exact⟨t++ [n+d],by rw [h,List.append_assoc]⟩
theorem jY:∀ {n:Nat} (c c':Nat) (h:c< (aL k n).length) (h':c'< (aL k n).length),k (aL k n)[c]=k (aL k n)[c']→c=c'
 |0,c,c',h,_,_=>absurd h (Nat.not_lt_zero c)
 |n+1,c,c',h,h',e=>by
  have key:(aL k (n+1)=aL k n)∨(aL k (n+1)=aL k n++ [n]∧∀a∈aL k n,k a≠k n):=by
   rw [B1];split
   ·exact .inl rfl
   ·next hh=>
    refine .inr ⟨rfl,fun a f=>?_⟩;have:=List.findIdx?_eq_none_iff.1 hh a f;simpa using this
  rcases key with b |⟨b,d⟩
  ·simp only [b]at h h' e;exact jY c c' h h' e
  ·simp only [b]at h h' e;rw [List.length_append,List.length_singleton]at h h';by_cases h1:c< (aL k n).length
   ·by_cases h2:c'< (aL k n).length
    ·rw [List.getElem_append_left h1,List.getElem_append_left h2]at e;exact jY c c' h1 h2 e
    ·have:c'=(aL k n).length:=by omega
     subst this;rw [List.getElem_append_left h1,List.getElem_append_right (XV _)]at e;simp only [Nat.sub_self,List.getElem_singleton]at e;exact absurd e (d _ (List.getElem_mem h1))
   ·have:c=(aL k n).length:=by omega
    subst this;by_cases h2:c'< (aL k n).length
    ·rw [List.getElem_append_left h2,List.getElem_append_right (XV _)]at e;simp only [Nat.sub_self,List.getElem_singleton]at e;exact absurd e.symm (d _ (List.getElem_mem h2))
    ·omega
theorem d_ (i:Nat):(∃c,(aL k i).findIdx? (fun a=>decide (k a=k i))=some c∧aL k (i+1)=aL k i∧clsOf k i=c∧∃h:c< (aL k i).length,k (aL k i)[c]=k i)∨((aL k i).findIdx? (fun a=>decide (k a=k i))=none∧aL k (i+1)=aL k i++ [i]∧clsOf k i=(aL k i).length∧∀a∈aL k i,k a≠k i):=by
 cases h:(aL k i).findIdx? (fun a=>decide (k a=k i))with
 |none=>
  refine .inr ⟨rfl,by rw [aL,h],by rw [clsOf,h];rfl,fun a e=>?_⟩;have:=List.findIdx?_eq_none_iff.1 h a e;simpa using this
 |some c=>
  obtain⟨b,d,_⟩:=List.findIdx?_eq_some_iff_getElem.1 h;exact .inl ⟨c,rfl,by rw [aL,h],by rw [clsOf,h];rfl,b,by simpa using d⟩
theorem lu (i:Nat):clsOf k i≤(aL k i).length∧(aL k (i+1)).length=max (aL k i).length (clsOf k i+1):=by
 rcases d_ (k:=k) i with⟨c,_,a,b,d,_⟩ |⟨_,a,b,_⟩
 ·rw [a,b];omega
 ·rw [a,b,List.length_append,List.length_singleton];omega
theorem kS {n i:Nat} (hi:i<n):∃h:clsOf k i< (aL k n).length,k (aL k n)[clsOf k i]=k i:=by
 obtain⟨t,e⟩:=rM (k:=k) (n:=i+1) (n- (i+1));rw [show i+1+(n- (i+1))=n by omega]at e;have d:∃h:clsOf k i< (aL k (i+1)).length,k (aL k (i+1))[clsOf k i]=k i:=by
  rcases d_ (k:=k) i with⟨c,_,a,b,g,j⟩ |⟨_,a,b,_⟩
  ·simp only [a,b];exact⟨g,j⟩
  ·simp only [a,b];exact⟨by simp,by simp⟩
 obtain⟨f,a⟩:=d;simp only [e];exact⟨by rw [List.length_append];omega,by rw [List.getElem_append_left f];exact a⟩
theorem rC {n i j:Nat} (hi:i<n) (hj:j<n):clsOf k i=clsOf k j↔k i=k j:=by
 obtain⟨c,a⟩:=kS (k:=k) hi;obtain⟨d,b⟩:=kS (k:=k) hj;constructor
 ·intro e;rw [←a, ←b];simp only [e]
 ·intro e;exact jY _ _ c d (by rw [a,b,e])
end
def tW (x j:Nat):UInt8:=UInt8.ofNat (x/2^(8*j))
def gl (x:Nat):List UInt8:=(List.range 8).map (tW x)
def fX (l:List Nat):List UInt8:=l.flatMap gl
theorem wo {x y:Nat} (hx:x<2^64) (hy:y<2^64) (h:gl x=gl y):x=y:=by
 have a:∀j,j<8→x/2^(8*j)%256=y/2^(8*j)%256:=by
  intro j b;have:=congrArg (fun l=>l[j]?) h;simp only [gl,List.getElem?_map,List.getElem?_range b,Option.map_some,Option.some.injEq,tW]at this;have:=congrArg UInt8.toNat this;simpa [UInt8.toNat_ofNat']using this
 have c:=a 0 (by decide);have d:=a 1 (by decide);have e:=a 2 (by decide);have f:=a 3 (by decide);have g:=a 4 (by decide);have i:=a 5 (by decide);have k:=a 6 (by decide);have m:=a 7 (by decide);simp only [Nat.reduceMul,Nat.reducePow]at c d e f g i k m hx hy;omega
theorem qQ:∀ {l m:List Nat},l.length=m.length→(∀x∈l,x<2^64)→(∀x∈m,x<2^64)→fX l=fX m→l=m
 | [],[],_,_,_,_=>rfl
 |x::l,y::m,hl,h1,h2,h=>by
  have e:gl x++fX l=gl y++fX m:=h;have hlen:(gl x).length=(gl y).length:=by simp [gl]
  have:=List.append_inj e hlen;rw [wo (h1 x List.mem_cons_self) (h2 y List.mem_cons_self) this.1,qQ (by simpa using hl) (fun z hz=>h1 z (List.mem_cons_of_mem _ hz)) (fun z hz=>h2 z (List.mem_cons_of_mem _ hz)) this.2]
def rr (n:Nat) (p:Nat→Bool):List UInt8:=fX ((List.range ((n+63)/64)).map (wordAt n p))
theorem yT {n:Nat} {p q:Nat→Bool}:rr n p=rr n q↔∀i,i<n→p i=q i:=by
 constructor
 ·intro h i b;have e:=qQ (by simp) (by intro x a;obtain⟨j,_,rfl⟩:=List.mem_map.1 a;exact jL _ _ _) (by intro x a;obtain⟨j,_,rfl⟩:=List.mem_map.1 a;exact jL _ _ _) h;have:=congrArg (fun l=>l[i/64]?) e;have c:i/64< (n+63)/64:=by omega
  simp only [List.getElem?_map,List.getElem?_range c,Option.map_some,Option.some.injEq]at this;rw [←iZ n p b, ←iZ n q b,this]
 ·intro h;unfold rr;congr 1;apply List.map_congr_left;intro j d;unfold wordAt;apply kQ;intro m f;by_cases e:64*j+m<n
  ·rw [h _ e]
  ·simp [e]
set_option maxRecDepth 100000
open Go Go.Value
def TA (a:OA) (w:World) (R:RW):Prop:=
 Zv w #[pointer a] 42 fun b=>
 Zt b (nb w) fun c=>
 ac (Option.isNone c)
 (R (pointer none) b)
 (Zt b (nb w) fun d=>
 Zv b #[pointer d,slice none 0 0,slice none 0 0,slice none 0 0,slice none 0 0,slice none 0 0,slice none 0 0] 154 fun f=>
 Zt f (nb w) fun g=>
 CP 63 #[pointer g] f (fun h i=>
 Zx h fun j=>
 CP 80 #[int .i64 j,func (.func 81) #[] #[pointer (some (nb w))]] i (fun k l=>
 Z9 k fun m n o p q r=>
 aI l ((nb b).add 1) (fun s=>
 Zt s (nb w) fun t=>
 CP 63 #[pointer t] s (fun x y=>
 Zx x fun z=>
 CP 80 #[int .i64 z,func (.func 83) #[pointer (some (nb b))] #[]] y (fun a1 b1=>
 Z9 a1 fun c1 d1 e1 f1 g1 h1=>
 aI b1 ((nb b).add 3) (fun i1=>
 Zl i1 (((nb b).add 1).add 1) fun j1 k1 l1=>
 ∀m1:KW,(∀(n1:Int) (o1:World),(ac (decide (n1< (k1:Int)))
 (Zm j1 n1 k1 (fun p1=>
 Zs o1 (p1.add (n1.toNat*1)) fun q1=>
 Zt o1 (nb w) fun r1=>
 CP 65 #[pointer r1,int .i64 q1] o1 (fun s1 t1=>
 Zy s1 fun u1 v1=>
 Zl t1 (((nb b).add 3).add 1) fun x1 y1 z1=>
 ∀a2:KW,(∀(b2:Int) (c2:OA) (d2 e2:Nat) (f2:World),(ac (decide (b2< (y1:Int)))
 (Zm x1 b2 y1 (fun g2=>
 Zs f2 (g2.add (b2.toNat*1)) fun h2=>
 Zt f2 (nb w) fun i2=>
 CP 65 #[pointer i2,int .i64 h2] f2 (fun j2 k2=>
 Zy j2 fun l2 m2=>
 Zt k2 (nb w) fun n2=>
 CP 84 #[pointer n2,int .i64 u1,int .i64 l2] k2 (fun o2 p2=>
 Zp o2 fun q2=>
 Zv p2 #[bool q2] 4 fun r2=>
 Zh 117 #[slice c2 d2 e2,slice (some (nb p2)) 1 1] r2 fun s2 t2 u2 v2=>
 Ar .i64 (b2+1) (fun x2=>
 a2 [int .i64 x2,slice s2 t2 u2] v2)))))
 (Zl f2 ((nb b).add 5) fun y2 z2 a3=>
 Zv f2 #[slice c2 d2 e2] 117 fun b3=>
 Zh 152 #[slice y2 z2 a3,slice (some (nb f2)) 1 1] b3 fun c3 d3 e3 f3=>
 Zu f3 ((nb b).add 5) (slice c3 d3 e3) fun g3=>
 Ar .i64 (n1+1) (fun h3=>
 m1 [int .i64 h3] g3)))→a2 [int .i64 b2,slice c2 d2 e2] f2)→
 a2 [int .i64 0,slice none 0 0] t1)))
 (Zl o1 (((nb b).add 3).add 1) fun i3 j3 k3=>
 ∀l3:KW,(∀(m3:Int) (n3:World),(ac (decide (m3< (j3:Int)))
 (Zm i3 m3 j3 (fun o3=>
 Zs n3 (o3.add (m3.toNat*1)) fun p3=>
 Zt n3 (nb w) fun q3=>
 CP 65 #[pointer q3,int .i64 p3] n3 (fun r3 s3=>
 Zy r3 fun t3 u3=>
 ∀v3,v3=s3.drew→
 Zl v3 ((nb b).add 6) fun x3 y3 z3=>
 Zt v3 (nb w) fun a4=>
 CP 68 #[pointer a4,int .i64 t3] v3 (fun b4 c4=>
 Zp b4 fun d4=>
 (c4.cell? ((nb b).add 6)=some (slice x3 y3 z3)∧True)∧
 Zv c4 #[bool d4] 4 fun e4=>
 (e4.cell? ((nb b).add 6)=some (slice x3 y3 z3)∧True)∧
 Zh 117 #[slice x3 y3 z3,slice (some (nb c4)) 1 1] e4 fun f4 g4 h4 i4=>
 Zu i4 ((nb b).add 6) (slice f4 g4 h4) fun j4=>
 Ar .i64 (m3+1) (fun k4=>
 l3 [int .i64 k4] j4)))))
 (R (pointer (some (nb b))) n3))→l3 [int .i64 m3] n3)→
 l3 [int .i64 0] o1))→m1 [int .i64 n1] o1)→
 m1 [int .i64 0] i1) [slice c1 d1 e1,slice f1 g1 h1] 0))) [slice m n o,slice p q r] 0)))
theorem E7 (a:OA) (w:World) (R:RW) (hh:TA a w R):CR 25 #[pointer a] w R:=by refine aH (fn:=Tryz.f25) ?_ ?_ ?_ ?_ ?_ hh<;>kernel_rfl
def Te (a:Int) (b:Value) (w:World) (R:RW):Prop:=
 Zv w #[slice none 0 0,slice none 0 0] 151 fun c=>
 Zv c #[slice none 0 0,slice none 0 0] 151 fun d=>
 ∃f g,(Instr.makeMap 205 none).run Tryz.prog d= .ok (map f) g∧
 ∀h:KW,(∀(i:Int) (j:World),(ac (decide (i<a))
 (bM gq b [int .i64 i] j (fun k l=>
 ZU k fun m=>
 ∃n o p,(Instr.lookup 205 (map f) (string m) true).run Tryz.prog l= .ok (tuple #[int .i64 n,bool o]) p∧
 ∀q:KW,(∀(r:Int) (s:World),(Zl s ((nb c).add 0) fun t x y=>
 Zv s #[int .i64 r] 3 fun z=>
 Zh 28 #[slice t x y,slice (some (nb s)) 1 1] z fun a1 b1 c1 d1=>
 Zu d1 ((nb c).add 0) (slice a1 b1 c1) fun e1=>
 Ar .i64 (i+1) (fun f1=>
 h [int .i64 f1] e1))→q [int .i64 r] s)→
 ac (!o)
 (Zl p ((nb c).add 1) fun g1 h1 i1=>
 ∃j1,(Instr.mapUpdate 205 (map f) (string m) (int .i64 (h1:Int))).run Tryz.prog p= .ok () j1∧
 Zl j1 ((nb c).add 1) fun k1 l1 m1=>
 Zv j1 #[int .i64 i] 3 fun n1=>
 Zh 28 #[slice k1 l1 m1,slice (some (nb j1)) 1 1] n1 fun o1 p1 q1 r1=>
 Zu r1 ((nb c).add 1) (slice o1 p1 q1) fun s1=>
 q [int .i64 (h1:Int)] s1)
 (q [int .i64 n] p)))
 (Z8 j (nb c) fun t1 u1 v1 x1 y1 z1=>
 aI j (nb w) (fun a2=>
 Z8 a2 (nb w) fun b2 c2 d2 e2 f2 g2=>
 R (agg #[slice b2 c2 d2,slice e2 f2 g2]) a2) [slice t1 u1 v1,slice x1 y1 z1] 0))→h [int .i64 i] j)→
 h [int .i64 0] g
theorem DZ (a:Int) (b:Value) (w:World) (R:RW) (hh:Te a b w R):CR 80 #[int .i64 a,b] w R:=by refine aH (fn:=Tryz.f80) ?_ ?_ ?_ ?_ ?_ hh<;>kernel_rfl
def Tg (a:Int) (b:OA) (w:World) (R:RW):Prop:=
 ag b (fun c=>
 Zt w c fun d=>
 CP 65 #[pointer d,int .i64 a] w (fun f g=>
 Zy f fun h i=>
 ag b (fun j=>
 Zt g j fun k=>
 CP 69 #[pointer k,int .i64 h] g (fun l m=>
 Zr l fun n o p=>
 CP 82 #[slice n o p] m (fun q r=>
 ZU q fun s=>
 R (string s) r)))))
theorem EP (a:Int) (b:OA) (w:World) (R:RW) (hh:Tg a b w R):CR 81 #[int .i64 a,pointer b] w R:=by refine aH (fn:=Tryz.f81) ?_ ?_ ?_ ?_ ?_ hh<;>kernel_rfl
def TG (a:OA) (b c:Nat) (w:World) (R:RW):Prop:=
 ∀d:KW,(∀(f:Int) (g:OA) (h i:Nat) (j:World),(ac (decide (f< (b:Int)))
 (Zm a f b (fun k=>
 ZV j (k.add (f.toNat*1)) fun l=>
 ∀m:KW,(∀(n:Int) (o:OA) (p q:Nat) (r:World),(ac (decide (n<64))
 ((0:Int)≤n∧
 Zv r #[int .u8 (IntKind.wrap .u8 (Int.fdiv l (2^(min n.toNat (IntKind.bits .u64)))))] 5 fun s=>
 Zh 57 #[slice o p q,slice (some (nb r)) 1 1] s fun t u x y=>
 Ar .i64 (n+8) (fun z=>
 m [int .i64 z,slice t u x] y))
 (Ar .i64 (f+1) (fun a1=>
 d [int .i64 a1,slice o p q] r)))→m [int .i64 n,slice o p q] r)→
 m [int .i64 0,slice g h i] j))
 (∃b1 c1,(convert 57 9 (slice g h i)).run Tryz.prog j= .ok (string b1) c1∧
 R (string b1) c1))→d [int .i64 f,slice g h i] j)→
 d [int .i64 0,slice none 0 0] w
theorem EN (a:OA) (b c:Nat) (w:World) (R:RW) (hh:TG a b c w R):CR 82 #[slice a b c] w R:=by refine aH (fn:=Tryz.f82) ?_ ?_ ?_ ?_ ?_ hh<;>kernel_rfl
def SI (a:OA) (b:Int) (w:World) (R:RW):Prop:=
 ag a (fun c=>
 Zt w (c.add 0) fun d=>
 CP 65 #[pointer d,int .i64 b] w (fun f g=>
 Zy f fun h i=>
 Zv g #[int .u8 0] 5 fun j=>
 ∀k:KW,(∀l:World,(ag a (fun m=>
 Zl l ((m.add 1).add 1) fun n o p=>
 ∀q:KW,(∀(r:Int) (s:OA) (t x:Nat) (y:World),(ac (decide (r< (o:Int)))
 (∀z:KW,(∀(a1:OA) (b1 c1:Nat) (d1:World),(Ar .i64 (r+1) (fun e1=>
 q [int .i64 e1,slice a1 b1 c1] d1))→z [slice a1 b1 c1] d1)→
 Zm n r o (fun f1=>
 Zs y (f1.add (r.toNat*1)) fun g1=>
 ag a (fun h1=>
 Zt y (h1.add 0) fun i1=>
 CP 65 #[pointer i1,int .i64 g1] y (fun j1 k1=>
 Zy j1 fun l1 m1=>
 ag a (fun n1=>
 Zt k1 (n1.add 0) fun o1=>
 CP 84 #[pointer o1,int .i64 l1,int .i64 h] k1 (fun p1 q1=>
 Zp p1 fun r1=>
 ac r1
 (Zv q1 #[int .u8 1] 5 fun s1=>
 Zh 57 #[slice s t x,slice (some (nb q1)) 1 1] s1 fun t1 u1 v1 x1=>
 z [slice t1 u1 v1] x1)
 (Zv q1 #[int .u8 0] 5 fun y1=>
 Zh 57 #[slice s t x,slice (some (nb q1)) 1 1] y1 fun z1 a2 b2 c2=>
 z [slice z1 a2 b2] c2)))))))
 (∃d2 e2,(convert 57 9 (slice s t x)).run Tryz.prog y= .ok (string d2) e2∧
 R (string d2) e2))→q [int .i64 r,slice s t x] y)→
 q [int .i64 0,slice (some (nb g)) 1 1] l))→k [] l)→
 ag a (fun f2=>
 Zt j (f2.add 0) fun g2=>
 CP 68 #[pointer g2,int .i64 h] j (fun h2 i2=>
 Zp h2 fun j2=>
 ac j2
 ((0:Int)≤0∧0< (1:Int)∧
 Zu i2 ((nb g).add ((0:Int).toNat*1)) (int .u8 1) fun k2=>
 k [] k2)
 (k [] i2)))))
theorem DP (a:OA) (b:Int) (w:World) (R:RW) (hh:SI a b w R):CR 83 #[pointer a,int .i64 b] w R:=by refine aH (fn:=Tryz.f83) ?_ ?_ ?_ ?_ ?_ hh<;>kernel_rfl
def RS (a b:OA) (c d:Nat) (w:World) (R:RW):Prop:=
 ∀f:KW,(∀(g:Int) (h:Bool) (i:Int) (j:World),(ac (decide (g< (c:Int)))
 (Zm b g c (fun k=>
 Zs j (k.add (g.toNat*1)) fun l=>
 CP 364 #[pointer a,int .i64 l] j (fun m n=>
 Zp m fun o=>
 ac (!o)
 (R (tuple #[int .i64 g,bool true]) n)
 (ac (decide (g>0))
 (Ar .i64 (g-1) (fun p=>
 Zm b p c (fun q=>
 Zs n (q.add (p.toNat*1)) fun r=>
 CP 365 #[pointer a,int .i64 r,int .i64 l] n (fun s t=>
 Zp s fun u=>
 ac (!u)
 (R (tuple #[int .i64 g,bool true]) t)
 (Ar .i64 (g+1) (fun x=>
 f [int .i64 x,bool h,int .i64 i] t))))))
 (Ar .i64 (g+1) (fun y=>
 f [int .i64 y,bool h,int .i64 i] n))))))
 (R (tuple #[int .i64 0,bool false]) j))→f [int .i64 g,bool h,int .i64 i] j)→
 f [int .i64 0,bool false,int .i64 0] w
theorem BI (a b:OA) (c d:Nat) (w:World) (R:RW) (hh:RS a b c d w R):CR 363 #[pointer a,slice b c d] w R:=by refine aH (fn:=Tryz.f363) ?_ ?_ ?_ ?_ ?_ hh<;>kernel_rfl
def Pt (a:OA) (b:Int) (w:World) (R:RW):Prop:=
 CP 366 #[pointer a,int .i64 b] w (fun c d=>
 Zy c fun f g=>
 ac g
 (ag a (fun h=>
 Zl d (h.add 6) fun i j k=>
 Zm i f j (fun l=>
 Zk d (l.add (f.toNat*1)) fun m=>
 R (bool m) d)))
 (R (bool false) d))
theorem Az (a:OA) (b:Int) (w:World) (R:RW) (hh:Pt a b w R):CR 364 #[pointer a,int .i64 b] w R:=by refine aH (fn:=Tryz.f364) ?_ ?_ ?_ ?_ ?_ hh<;>kernel_rfl
def Rj (a:OA) (b c:Int) (w:World) (R:RW):Prop:=
 CP 367 #[pointer a,int .i64 b] w (fun d f=>
 Zy d fun g h=>
 CP 366 #[pointer a,int .i64 c] f (fun i j=>
 Zy i fun k l=>
 ac h
 (ac l
 (ag a (fun m=>
 Zl j (m.add 5) fun n o p=>
 Zm n g o (fun q=>
 Zl j (q.add (g.toNat*1)) fun r s t=>
 Zm r k s (fun u=>
 Zk j (u.add (k.toNat*1)) fun x=>
 R (bool x) j))))
 (R (bool false) j))
 (R (bool false) j)))
theorem Ay (a:OA) (b c:Int) (w:World) (R:RW) (hh:Rj a b c w R):CR 365 #[pointer a,int .i64 b,int .i64 c] w R:=by refine aH (fn:=Tryz.f365) ?_ ?_ ?_ ?_ ?_ hh<;>kernel_rfl
def Pd (a:OA) (b:Int) (w:World) (R:RW):Prop:=
 CP 368 #[pointer a,int .i64 b] w (fun c d=>
 Zy c fun f g=>
 ac (!g)
 (R (tuple #[int .i64 0,bool false]) d)
 (ag a (fun h=>
 Zl d ((h.add 3).add 0) fun i j k=>
 Zm i f j (fun l=>
 Zs d (l.add (f.toNat*1)) fun m=>
 R (tuple #[int .i64 m,bool true]) d))))
theorem xT (a:OA) (b:Int) (w:World) (R:RW) (hh:Pd a b w R):CR 366 #[pointer a,int .i64 b] w R:=by refine aH (fn:=Tryz.f366) ?_ ?_ ?_ ?_ ?_ hh<;>kernel_rfl
def OP (a:OA) (b:Int) (w:World) (R:RW):Prop:=
 CP 368 #[pointer a,int .i64 b] w (fun c d=>
 Zy c fun f g=>
 ac (!g)
 (R (tuple #[int .i64 0,bool false]) d)
 (ag a (fun h=>
 Zl d ((h.add 1).add 0) fun i j k=>
 Zm i f j (fun l=>
 Zs d (l.add (f.toNat*1)) fun m=>
 R (tuple #[int .i64 m,bool true]) d))))
theorem Di (a:OA) (b:Int) (w:World) (R:RW) (hh:OP a b w R):CR 367 #[pointer a,int .i64 b] w R:=by refine aH (fn:=Tryz.f367) ?_ ?_ ?_ ?_ ?_ hh<;>kernel_rfl
def PK (a:OA) (b:Int) (w:World) (R:RW):Prop:=
 ac (Option.isNone a)
 (R (tuple #[int .i64 0,bool false]) w)
 (ag a (fun c=>
 Zt w (c.add 0) fun d=>
 CP 122 #[pointer d,int .i64 b] w (fun f g=>
 Zy f fun h i=>
 R (tuple #[int .i64 h,bool i]) g)))
theorem CI (a:OA) (b:Int) (w:World) (R:RW) (hh:PK a b w R):CR 368 #[pointer a,int .i64 b] w R:=by refine aH (fn:=Tryz.f368) ?_ ?_ ?_ ?_ ?_ hh<;>kernel_rfl
set_option linter.unusedSimpArgs false
open Go Go.RowKit
theorem wX (z:Nat):IntKind.wrap .u8 (z:Int)=(((UInt8.ofNat z).toNat:Nat):Int):=by
 rw [UInt8.toNat_ofNat'];unfold IntKind.wrap;rw [if_neg (by rw [show IntKind.u8.signed=false from rfl,Bool.false_and];exact Bool.false_ne_true)];rfl
theorem Hv (w:World) (A:Option Addr) (C:Nat) (l:List Nat) (hr:Rw dj 1 w A (l.map fun x:Nat=>(x:Int))) (hl:l.length≤1000):
  CP 82 #[.slice A l.length C] w fun e w'=>e= .returned (.string (str (fX l)))∧ZH w w':=by
 refine aV (EN A l.length C w) ?_;intro I u;have t:=aZ (α:=Sl×World) l.length (fun i y=>y.2.ownsRow w.heap.size kI 1 y.1.v y.1.n ((fX (l.take i)).flatMap fg)∧y.1.n=8*i∧ZH w y.2) (fun i y=>I [.int .i64 (i:Int),y.1.v] y.2) (cW,w) ⟨bE _ _ _ _ fg,rfl,Below.refl _ _⟩ ?_ ?_
 ·exact t
 ·rintro i B L ⟨f,q⟩ ⟨a,r,h⟩;change q.ownsRow w.heap.size kI 1 f.v f.n _ at a;change f.n=8*i at r;change ZH w q at h;obtain⟨p,K,F⟩:=a_ (hr.on h) (show i< (l.map fun x:Nat=>(x:Int)).length by simpa using B) (v:=.int .u64 ((l[i]:Nat):Int)) (by simp [dj]);refine u _ f.a f.n f.c q (ac.yes (XJ (by omega)) (ag.mk p K ⟨by omega,by omega,_,F,?_⟩));intro E k;have o:=aZ (α:=Sl×World) 8 (fun j y=>y.2.ownsRow w.heap.size kI 1 y.1.v y.1.n ((fX (l.take i)++(List.range j).map (tW l[i])).flatMap fg)∧y.1.n=8*i+j∧ZH w y.2) (fun j y=>E [.int .i64 ((8*j:Nat):Int),y.1.v] y.2) (f,q) ⟨by simpa using a,r,h⟩ ?_ ?_
  ·exact o
  ·rintro j N s ⟨g,z⟩ ⟨m,c,b⟩;change z.ownsRow w.heap.size kI 1 g.v g.n _ at m;change g.n=8*i+j at c;change ZH w z at b;refine k _ g.a g.n g.c z (ac.yes (XJ (by omega)) ⟨by omega,?_⟩);intro O n;rw [Qo _ _ (by omega),wX]at n;obtain⟨d,D,M,G,H,J,_⟩:=xy.push m (tW l[i] j) n rfl b.size (by omega) (by decide);refine⟨d.a,d.n,d.c,D,G,Ar.nat (8*(j+1)) (by omega) (by omega) (s (d,D) ⟨?_,by show d.n=8*i+(j+1);omega,J _ b⟩)⟩;rw [List.range_succ,List.map_append, ←List.append_assoc];exact H
  ·rintro⟨g,z⟩ ⟨m,c,b⟩;change z.ownsRow w.heap.size kI 1 g.v g.n _ at m;change g.n=8*i+8 at c;refine k _ g.a g.n g.c z (ac.no rfl (Ar.nat (i+1) rfl (by omega) (L (g,z) ⟨?_,by show g.n=8*(i+1);omega,b⟩)));have e:fX (l.take (i+1))=fX (l.take i)++(List.range 8).map (tW l[i]):=by
    rw [List.take_add_one,XK B];simp only [fX,List.flatMap_append,Option.toList,List.flatMap_cons,List.flatMap_nil,List.append_nil];rfl
   rw [e];exact m
 ·rintro⟨f,q⟩ ⟨a,r,h⟩;change q.ownsRow w.heap.size kI 1 f.v f.n _ at a;rw [List.take_length]at a;exact u _ f.a f.n f.c q (ac.no (XZ (by omega)) ⟨_,q,eQ (P:=Tryz.prog) gc vP m' (by rw [←kU];exact a),rfl,h⟩)
abbrev Oy:TypeId:=151
theorem L7 {B:Nat} {w2 w3:World} {s:Sl} {xs:List Int} (hown:w2.ownsRow B aT 1 s.v s.n (xs.flatMap an)) (x:Int) (hw:w3=w2.alloc (.cells #[.int .i64 x] aT)) (hB:B≤w2.heap.size) (hn:s.n≤1000000):
  ∃(l:Sl) (w4:World),l.n=s.n+1∧(Builtin.append_ #[bQ,bQ] bQ #[.slice s.a s.n s.c,.slice (some (nb w2)) 1 1]).run Tryz.prog w3= .ok (.slice l.a l.n l.c) w4∧w4.ownsRow B aT 1 l.v l.n ((xs++ [x]).flatMap an)∧(∀w0,Below B w0 w2→Below B w0 w4)∧(∀k,k<w2.heap.size→s.v.ownBlock≠some k→w4.heap[k]? =w2.heap[k]?)∧∀k,l.v.ownBlock=some k→s.v.ownBlock=some k∨w2.heap.size≤k:=by
 have c:=ah w2 (.cells #[.int .i64 x] aT);have a:ZH w2 w3:=by subst hw;exact c
 have n:bO an 1 w3 ⟨some (nb w2),1,1⟩ [x]:=⟨rfl,Km w2 w3 [x] _ rfl hw,.inr ⟨_,rfl⟩⟩;obtain⟨l,w4,e,f,g,i,j,m⟩:=co.spread (aE hown a) n (XW hB a.size) (by omega) (show 1≤1000000000 by decide) (by decide);refine⟨l,w4,e,f,g,fun w0 h=>i w0 (h.trans (a.mono hB)),fun k b d=>(j k (Nat.lt_of_lt_of_le b a.size) d).trans (a.block k b),fun k b=>?_⟩;rcases m k b with h |h
 ·exact .inl h
 ·exact .inr (XW a.size h)
def Kz (k:Nat→Bs) (i:Nat):List (Bs×Value):=(aL k i).zipIdx.map fun x=>(k x.1,.int .i64 (x.2:Int))
theorem BO (k:Nat→Bs) (i:Nat):e_ (k i) (Kz k i)=((aL k i).findIdx? fun a=>decide (k a=k i)).map fun c:Nat=>Value.int .i64 (c:Int):=by
 have:=gC k (k i) (aL k i) 0;simp only [Nat.zero_add]at this;rw [show e_ (k i) (Kz k i)=_ from this];congr 1;rw [List.idxOf?,List.findIdx?_map];congr 1;funext a;show(k a==k i)=_;by_cases h:k a=k i
 ·simp [h]
 ·simp [h]
theorem Hb (l:List Nat) (x:Nat):((l++ [x]).map fun i:Nat=>(i:Int))=(l.map fun i:Nat=>(i:Int))++ [(x:Int)]:=by simp
theorem K0 {k:Nat→Bs} {i:Nat} (h:aL k (i+1)=aL k i++ [i]):Kz k (i+1)=Kz k i++ [(k i,.int .i64 (((aL k i).length:Nat):Int))]:=by
 unfold Kz;rw [h,List.zipIdx_append,List.map_append];simp
def NZ (w:World) (k:Nat→Bs) (n:Nat) (of fi:Sl) (w':World):Prop:=w'.ownsRow w.heap.size aT 1 of.v of.n (((List.range n).map fun i=>((clsOf k i:Nat):Int)).flatMap an)∧w'.ownsRow w.heap.size aT 1 fi.v fi.n (((aL k n).map fun i:Nat=>(i:Int)).flatMap an)∧ZH w w'
set_option maxHeartbeats 1000000 in
theorem sP (w:World) (n:Nat) (key:Value) (k:Nat→Bs) (hn:n≤10000) (his:∀i,i<n→∀w1,ZH w w1→bM gq key [.int .i64 (i:Int)] w1 (fun e w2=>e= .returned (.string (str (k i)))∧ZH w1 w2)):
  CP 80 #[.int .i64 (n:Int),key] w fun e w'=>∃of fi:Sl,e= .returned (.agg #[of.v,fi.v])∧NZ w k n of fi w':=by
 refine aV (DZ n key w) ?_;intro w1 K w2 X;have b1:ZH w w1:=by subst K;exact ah _ _
 have b2:ZH w1 w2:=by subst X;exact ah _ _
 have l0:w2.heap[w.heap.size]? =some (.cells #[cW.v,cW.v] Oy (0,0)):=aj b2 (by subst K;exact aq _ _);have l1:w2.heap[w1.heap.size]? =some (.cells #[cW.v,cW.v] Oy (0,0)):=by subst X;exact aq _ _
 have lt0:w.heap.size<w1.heap.size:=by subst K;rw [aK];omega
 have lt1:w1.heap.size<w2.heap.size:=(XY.1 l1).1;have hb2:=ae b1 b2;refine⟨_,_,fR _,?_⟩;have b3:=ah w2 (.map #[] 0);have m3:bJ di (w2.alloc (.map #[] 0)) w2.heap.size (Kz k 0):=ip w2;obtain⟨w3,Y⟩:∃w3,w3=w2.alloc (.map #[] 0):=⟨_,rfl⟩;rw [←Y]at b3 m3;rw [←Y];intro I hI;let Inv (i:Nat) (q:World):Prop:=∃of fi:Sl,q.heap[w1.heap.size]? =some (.cells #[of.v,fi.v] Oy (0,0))∧q.heap[w.heap.size]? =some (.cells #[cW.v,cW.v] Oy (0,0))∧q.ownsRow w.heap.size aT 1 of.v of.n (((List.range i).map fun i=>((clsOf k i:Nat):Int)).flatMap an)∧q.ownsRow w.heap.size aT 1 fi.v fi.n (((aL k i).map fun i:Nat=>(i:Int)).flatMap an)∧(∀j,of.v.ownBlock=some j→fi.v.ownBlock≠some j)∧bJ di q w2.heap.size (Kz k i)∧ZH w q;have key:=aZ (α:=World) n Inv (fun i q=>I [.int .i64 (i:Int)] q) w3 ⟨cW,cW,aj b3 l1,aj b3 l0,bE _ _ _ _ an,bE _ _ _ _ an,fun j a=>(by cases a),m3,ae hb2 b3⟩ ?_ ?_
 ·exact key
 ·rintro i hi ih q ⟨of,fi,g1,O,B,A,hd,hm,hB⟩;refine hI _ _ (ac.yes (XJ (by omega)) ((his i hi q hB).mono ?_));rintro e w5 ⟨rfl,M⟩;have T:=ae hB M;have F:=aj M g1;have P:=aj M O;have g:=aE B M;have f:=aE A M;have p:=hm.on M;have hof:=(bO.of_own co g).n;have G:=(bO.of_own co f).n;rw [List.length_map,List.length_range]at hof;rw [List.length_map]at G;have hfl:(aL k i).length≤i:=by
   have:∀i,(aL k i).length≤i:=by
    intro i;induction i with
    |zero=>exact XV _
    |succ i ih=>
     have h1:=lu (k:=k) i;omega
   exact this i
  have V:=eL mP fk en p (k i);rw [BO]at V;refine⟨_,rfl,?_⟩
  have next:∀(z:World) (b:Sl) (J:List Value→World→Prop),(∀(c:Int) (w7:World),(∃lA:Option Addr,∃lN:Nat,∃lC:Nat,w7.cell? ((nb w1).add 0)=some (Value.slice lA lN lC)∧
       ∀w8:World,w8=w7.alloc (.cells #[Value.int .i64 c] aT)→
       ∃lA_3:Option Addr,∃lN_4:Nat,∃lC_5:Nat,∃D:World,(Builtin.append_ #[bQ,bQ] bQ #[Value.slice lA lN lC,Value.slice (some (nb w7)) 1 1]).run Tryz.prog w8= .ok (Value.slice lA_3 lN_4 lC_5) D∧
       (Value.slice lA_3 lN_4 lC_5).oneCell'=true∧(∃u,D.cell? ((nb w1).add 0)=some u)∧D.frozen? ((nb w1).add 0)=false∧
       ∀t:World,t=(D.setCell ((nb w1).add 0) (Value.slice lA_3 lN_4 lC_5))→
       Ar .i64 ((i:Int)+1) (fun n_6=>
       I [Value.int .i64 n_6] t))→J [Value.int .i64 c] w7)→
    z.heap[w1.heap.size]? =some (.cells #[of.v,b.v] Oy (0,0))→z.heap[w.heap.size]? =some (.cells #[cW.v,cW.v] Oy (0,0))→z.ownsRow w.heap.size aT 1 of.v of.n (((List.range i).map fun i=>((clsOf k i:Nat):Int)).flatMap an)→z.ownsRow w.heap.size aT 1 b.v b.n (((aL k (i+1)).map fun i:Nat=>(i:Int)).flatMap an)→(∀j,of.v.ownBlock=some j→b.v.ownBlock≠some j)→bJ di z w2.heap.size (Kz k (i+1))→ZH w z→J [.int .i64 ((clsOf k i:Nat):Int)] z:=by
   intro z b J U z1 z0 zo zf zd zm zB;refine U _ _ ⟨of.a,of.n,of.c,by rw [aF z1];rfl,?_⟩;intro w8 hw8;obtain⟨y,D,e1,e2,N,e4,E,e6⟩:=L7 zo ((clsOf k i:Nat):Int) hw8 zB.size (by omega);have Z:∀ {j:Nat} {o:Obj},z.heap[j]? =some o→of.v.ownBlock≠some j→D.heap[j]? =some o:=fun {j o} h H=>(E j (XY.1 h).1 H).trans h;have x:=Z z1 (az zo z1 (by decide));have y0:=Z z0 (az zo z0 (by decide));have yf:D.ownsRow w.heap.size aT 1 b.v b.n _:=aN zf fun j a=>E j (bL zf j a).2 fun h=>zd j h a;have ym:=zm.same (E _ zm.lt (dh zo zm));refine⟨y.a,y.n,y.c,D,e2,rfl,⟨_,by rw [aF x];rfl⟩,bc x,?_⟩;intro t r;have l:∀j,j≠w1.heap.size→t.heap[j]? =D.heap[j]? :=by
    intro j a;subst r;exact ar (by rw [ay];exact a)
   refine Ar.nat (i+1) rfl (by omega) (ih t ⟨y,b,by subst r;exact bu x _,(l _ (by omega)).trans y0,?_,aN yf fun j a=>l j fun e=>az yf x (by decide) (by rw [a,e]),?_,ym.same (l _ (by omega)),?_⟩)
   ·rw [List.range_succ,List.map_append];exact aN N fun j a=>l j fun e=>az N x (by decide) (by rw [a,e])
   ·intro j a hf;rcases e6 j a with h |h
    ·exact zd j h hf
    ·have:=(bL zf j hf).2;omega
   ·subst r;exact bv (e4 _ zB) (by omega) _
  rcases d_ (k:=k) i with⟨c,hc,R,h3,_⟩ |⟨hc,R,h3,_⟩
  ·rw [hc]at V;refine⟨_,_,w5,V,?_⟩;intro J U;refine ac.no rfl ?_;have:=next w5 fi J U F P g (by rw [R];exact f) hd (by rw [show Kz k (i+1)=Kz k i by unfold Kz;rw [R]];exact p) T;rw [h3]at this;exact this
  ·rw [hc]at V;refine⟨_,_,w5,V,?_⟩;intro J U;refine ac.yes rfl ⟨fi.a,fi.n,fi.c,by rw [aF F];rfl,?_⟩;obtain⟨L,hr,m,d,hz11,S⟩:=eO mP fk p (k i) (.int .i64 ((fi.n:Nat):Int)) (by rw [BO,hc];rfl);have a1:=(d w1.heap.size (by omega)).trans F;have a0:=(d w.heap.size (by omega)).trans P;have ao:=aN g fun j a=>d j fun e=>dh g p (by rw [a,e]);have af:=aN f fun j a=>d j fun e=>dh f p (by rw [a,e]);have aB:ZH w L:=S _ _ (by omega) T;refine⟨L,hr,fi.a,fi.n,fi.c,by rw [aF a1];rfl,?_⟩;intro w12 W;obtain⟨b,C,e1,e2,N,e4,E,e6⟩:=L7 af (i:Int) W aB.size (by omega);have Z:∀ {j:Nat} {o:Obj},L.heap[j]? =some o→fi.v.ownBlock≠some j→C.heap[j]? =some o:=fun {j o} h H=>(E j (XY.1 h).1 H).trans h;have x:=Z a1 (az af a1 (by decide));have y0:=Z a0 (az af a0 (by decide));have yo:C.ownsRow w.heap.size aT 1 of.v of.n _:=aN ao fun j a=>E j (bL ao j a).2 (hd j a);have ym:=m.same (E _ m.lt (dh af m));refine⟨b.a,b.n,b.c,C,e2,rfl,⟨_,by rw [aF x];rfl⟩,bc x,?_⟩;intro a2 s;have l:∀j,j≠w1.heap.size→a2.heap[j]? =C.heap[j]? :=by
    intro j a;subst s;exact ar (by rw [ay];exact a)
   have:=next a2 b J U (by subst s;exact bu x _) ((l _ (by omega)).trans y0) (aN yo fun j a=>l j fun e=>az yo x (by decide) (by rw [a,e])) (by rw [R,Hb];exact aN N fun j a=>l j fun e=>az N x (by decide) (by rw [a,e])) (fun j a hf=>by
    rcases e6 j hf with h |h
    ·exact hd j a h
    ·have:=(bL ao j a).2;omega) (by rw [K0 R, ←G];exact ym.same (l _ (by omega))) (by subst s;exact bv (e4 _ aB) (by omega) _)
   rw [h3, ←G]at this;exact this
 ·rintro q ⟨of,fi,g1,O,B,A,hd,hm,hB⟩;refine hI _ _ (ac.no (XZ (by omega)) ⟨of.a,of.n,of.c,fi.a,fi.n,fi.c,⟨aQ g1,by rw [aF g1];rfl,trivial⟩,?_⟩);refine bo O [of.v,fi.v] rfl (by intro v hv;simp only [List.mem_cons,List.not_mem_nil,or_false]at hv;rcases hv with rfl |rfl<;>rfl) ?_
  intro w15 Q l hz hB';refine⟨of.a,of.n,of.c,fi.a,fi.n,fi.c,⟨aQ Q,by rw [aF Q];rfl,trivial⟩,of,fi,rfl,?_,?_,hB' _ _ (XV _) hB⟩
  ·exact aN B fun j a=>l j fun e=>az B O (by decide) (by rw [a,e])
  ·exact aN A fun j a=>l j fun e=>az A O (by decide) (by rw [a,e])
def gN (s:am) (T:List aX):Nat:=(bV s T).length
def gS (s:am) (T:List aX) (i:Nat):Bs:=rr (gN s T) (df s T i)
def lf (s:am) (T:List aX) (i:Nat):Bs:=(if kb s T i then 1 else 0)::(aL (gS s T) (gN s T)).map fun a=>if df s T a i then 1 else 0
abbrev yD (s:am) (T:List aX):Prop:=(bV s T).Pairwise (·< ·)
theorem xG {s:am} {T:List aX} (hr:yD s T) {i:Nat} (hi:i<gN s T):mT s T ((bV s T).getD i 0)=some i:=by
 unfold mT;rw [gL hi];refine List.findIdx?_eq_some_iff_getElem.2 ⟨hi,by simp,fun j a=>?_⟩;have:=List.pairwise_iff_getElem.1 hr j i (by unfold gN at hi;omega) hi a;simp;omega
theorem D4 {s:am} {T:List aX} {i:Nat} (hi:i<gN s T):bY s T ((bV s T).getD i 0)=true:=(o_ s T _).1 (by rw [gL hi];exact List.getElem_mem hi)
theorem wx {s:am} {T:List aX} {a i:Nat} (ha:a<gN s T) (hi:i<gN s T):oR s T ((bV s T).getD a 0) ((bV s T).getD i 0)=df s T a i:=by
 unfold oR df;rw [D4 ha,D4 hi,Bool.true_and,Bool.true_and]
theorem wu {s:am} {T:List aX} {i:Nat} (hi:i<gN s T):IA s T ((bV s T).getD i 0)=kb s T i:=by
 unfold IA kb;rw [D4 hi,Bool.true_and]
theorem ng (w:World) (g:Nat) (s:am) (T:List aX) (h:il w g s T) (i:Nat) (hi:i<gN s T):
  CP 65 #[.pointer (some ⟨g,0,none⟩),.int .i64 (i:Int)] w fun e w'=>e= .returned (.tuple #[.int .i64 ((bV s T).getD i 0),.bool true])∧w'=w:=by
 refine(Ks w g s T h i).mono ?_;rintro e b ⟨rfl,a⟩;refine⟨?_,a⟩;rw [if_pos ⟨by omega,by unfold gN at hi;omega⟩];rfl
theorem Hx (w:World) (cb g:Nat) {ec:TypeId} (s:am) (T:List aX) (h:il w g s T) (hn:gN s T≤1032) (hr:yD s T) (hc:w.heap[cb]? =some (.cells #[.pointer (some ⟨g,0,none⟩)] ec (0,0))) (i:Nat) (hi:i<gN s T):
  CP 81 #[.int .i64 (i:Int),.pointer (some ⟨cb,0,none⟩)] w fun e w'=>e= .returned (.string (str (gS s T i)))∧ZH w w':=by
 refine aV (EP i (some ⟨cb,0,none⟩) w) ?_;refine ag.mk _ rfl ⟨_,bD hc,(ng w g s T h i hi).mono ?_⟩;rintro e r ⟨rfl,rfl⟩;refine⟨_,_,rfl,ag.mk _ rfl ⟨_,bD hc,(vH r g s T h hn _).mono ?_⟩⟩;rintro e t ⟨o,d⟩;rcases d with⟨c,_⟩ |⟨k,l,j,rfl,q⟩
 ·rw [xG hr hi]at c;cases c
 rw [xG hr hi]at j;cases j;have b:=bO.of_own p_ q;have a:=b.n;obtain⟨L,f⟩:∃L:List Nat,L=(List.range ((gN s T+63)/64)).map (wordAt (gN s T) (df s T i)):=⟨_,rfl⟩;have n:bG (bV s T).length (df s T i)=L.map fun x:Nat=>(x:Int):=by rw [f,List.map_map];rfl
 rw [n,List.length_map]at a;have m:=Hv t l.a l.c L (by rw [←n];exact b.r) (by rw [f];simp;omega);rw [←a]at m;refine⟨l.a,l.n,l.c,rfl,m.mono ?_⟩;rintro e u ⟨rfl,p⟩;refine⟨_,rfl,?_,ae o p⟩;rw [f];rfl
abbrev qB:TypeId:=154
theorem Bw (w:World) (f g:Nat) (s:am) (T:List aX) (h:il w g s T) (hn:gN s T≤1032) (c:Array Value) (hb:w.heap[f]? =some (.cells c qB (0,0))) (rfi:Sl) (c0:c[0]? =some (.pointer (some ⟨g,0,none⟩))) (c2:c[2]? =some rfi.v) (hf:w.ownsRow 0 aT 1 rfi.v rfi.n (((aL (gS s T) (gN s T)).map fun i:Nat=>(i:Int)).flatMap an)) (i:Nat) (hi:i<gN s T):
  CP 83 #[.pointer (some ⟨f,0,none⟩),.int .i64 (i:Int)] w fun e w'=>e= .returned (.string (str (lf s T i)))∧ZH w w':=by
 refine aV (DP (some ⟨f,0,none⟩) i w) ?_;refine ag.mk _ rfl ⟨_,by rw [aF hb];exact c0,(ng w g s T h i hi).mono ?_⟩;rintro e m ⟨rfl,rfl⟩;refine⟨_,_,rfl,?_⟩;intro Z G;have H:ZH m Z:=by subst G;exact ah _ _
 have o2:Z.ownsRow m.heap.size kI 1 (.slice (some (nb m)) 1 1) 1 (([0]:List UInt8).flatMap fg):=by subst G;exact iG [.int .u8 0] rfl (by decide) (XV _)
 have hfl:(aL (gS s T) (gN s T)).length≤1032:=by
  have:∀i,(aL (gS s T) i).length≤i:=by
   intro i;induction i with
   |zero=>exact XV _
   |succ i ih=>
    have h1:=lu (k:=gS s T) i;omega
  have:=this (gN s T);omega
 intro J hJ;have o:∀z:World,ZH m z→z.ownsRow m.heap.size kI 1 (.slice (some (nb m)) 1 1) 1 (([if kb s T i then 1 else 0]:List UInt8).flatMap fg)→J [] z:=by
  intro z V X;have M:=aj V hb;refine hJ _ (ag.mk _ rfl ⟨rfi.a,rfi.n,rfi.c,by rw [aG,aG,aQ M];exact c2,?_⟩);intro I hI;have Q:=aE hf V;have N:=(bO.of_own co Q).n;rw [List.length_map]at N;have W:=aZ (α:=Sl×World) (aL (gS s T) (gN s T)).length (fun j y=>y.2.ownsRow m.heap.size kI 1 y.1.v y.1.n ((((if kb s T i then 1 else 0)::((aL (gS s T) (gN s T)).take j).map fun a=>if df s T a i then 1 else 0:List UInt8)).flatMap fg)∧y.1.n=j+1∧ZH m y.2) (fun j y=>I [.int .i64 (j:Int),y.1.v] y.2) (⟨some (nb m),1,1⟩,z) ⟨X,rfl,V⟩ ?_ ?_
  ·exact W
  ·rintro j R ih ⟨b,q⟩ ⟨d,E,n⟩;change q.ownsRow m.heap.size kI 1 b.v b.n _ at d;change b.n=j+1 at E;change ZH m q at n;refine hI _ b.a b.n b.c q (ac.yes (XJ (by omega)) ?_);intro J4 K;have O:=bO.of_own co (aE hf n);have F:=aj n hb;have D:=h.on n;obtain⟨p,hp,cc⟩:=a_ O.r (show j< ((aL (gS s T) (gN s T)).map fun i:Nat=>(i:Int)).length by simpa using R) (v:=.int .i64 (((aL (gS s T) (gN s T))[j]:Nat):Int)) (by simp [an]);have A:=eY (List.getElem_mem R);refine ag.mk p hp ⟨by omega,by omega,_,cc,ag.mk _ rfl ⟨_,by rw [aF F];exact c0,(ng q g s T D _ A).mono ?_⟩⟩;rintro e q1 ⟨rfl,rfl⟩;refine⟨_,_,rfl,ag.mk _ rfl ⟨_,by rw [aF F];exact c0,(pn q1 g s T D hn _ _).mono ?_⟩⟩;rintro e q2 ⟨rfl,rfl⟩;rw [wx A hi];have C:∀(x:UInt8) (Y:World),x=(if df s T (aL (gS s T) (gN s T))[j] i then 1 else 0)→Y=q2.alloc (.cells #[.int .u8 ((x.toNat:Nat):Int)] kI)→∃lA:Option Addr,∃lN:Nat,∃lC:Nat,∃B:World,(Builtin.append_ #[ic,ic] ic #[Value.slice b.a b.n b.c,Value.slice (some (nb q2)) 1 1]).run Tryz.prog Y= .ok (Value.slice lA lN lC) B∧J4 [Value.slice lA lN lC] B:=by
    intro x Y hx S;obtain⟨r,B,e1,e2,e3,e4,_⟩:=xy.push d x S rfl n.size (by omega) (by decide);refine⟨r.a,r.n,r.c,B,e2,K _ _ _ _ (Ar.nat (j+1) rfl (by omega) (ih (r,B) ⟨?_,by show r.n=j+1+1;omega,e4 _ n⟩))⟩;rw [List.take_add_one,XK R,List.map_append];show B.ownsRow m.heap.size kI 1 r.v r.n ((((if kb s T i then 1 else 0)::((aL (gS s T) (gN s T)).take j).map fun a=>if df s T a i then 1 else 0:List UInt8)++ [if df s T (aL (gS s T) (gN s T))[j] i then 1 else 0]).flatMap fg);rw [←hx];exact e3
   refine⟨_,rfl,ac.mk (fun U=>?_) fun U=>?_⟩
   ·intro w8 t;exact C 1 w8 (by rw [U];rfl) t
   ·intro w8 t;exact C 0 w8 (by rw [U];rfl) t
  ·rintro⟨b,q⟩ ⟨d,E,n⟩;change q.ownsRow m.heap.size kI 1 b.v b.n _ at d;change ZH m q at n;rw [List.take_length]at d;exact hI _ b.a b.n b.c q (ac.no (XZ (by omega)) ⟨_,q,eQ (P:=Tryz.prog) gc vP m' (by rw [←kU];exact d),rfl,n⟩)
 have L:=aj H hb;refine ag.mk _ rfl ⟨_,by rw [aF L];exact c0,(jd Z g s T (h.on H) hn _).mono ?_⟩;rintro e w13 ⟨rfl,rfl⟩;rw [wu hi];refine⟨_,rfl,ac.mk (fun A=>⟨by decide,by decide,?_⟩) fun A=>o _ H (by rw [A];exact o2)⟩;refine mf (oK (enc:=fg) (l:=⟨some (nb m),1,1⟩) (fun _=>rfl) (by decide) (fun y u hu=>by rw [List.mem_singleton.1 hu];rfl) o2 rfl rfl 0 (by decide) (1:UInt8) ?_);intro z X _ _ n;exact o z (n _ _ (XV _) H) (by rw [A];exact X)
abbrev gh:TypeId:=117
abbrev FS:TypeId:=152
theorem Fb:Tryz.prog.underlying gh=some (.slice bW):=by kernel_rfl
theorem Lu:Tryz.prog.underlying FS=some (.slice gh):=by kernel_rfl
theorem NR:(Tryz.prog.info? bW).map (fun i=>(i.zero,i.size,i.bytes))=some (some (.bool false),1,1):=by kernel_rfl
theorem Lw:(Tryz.prog.info? gh).map (fun i=>(i.zero,i.size,i.bytes))=some (some (.slice none 0 0),1,24):=by kernel_rfl
theorem se:Du da 1 gh bW 1:=⟨fun _=>rfl,by decide,fun x u hu=>by rw [List.mem_singleton.1 hu];rfl,Fb,_,NR,rfl⟩
theorem Iy:Du nL 1 FS gh 24:=⟨fun _=>rfl,by decide,fun x u hu=>by rw [List.mem_singleton.1 hu];rfl,Lu,_,Lw,rfl⟩
def qY (s:am) (T:List aX):List Nat:=aL (gS s T) (gN s T)
def kN (s:am) (T:List aX):List Nat:=aL (lf s T) (gN s T)
def F2 (l:List Nat):List Value:=(l.map fun i:Nat=>(i:Int)).flatMap an
def Of (k:Nat→Bs) (n:Nat):List Value:=((List.range n).map fun i=>((clsOf k i:Nat):Int)).flatMap an
def F7 (s:am) (T:List aX) (a:Nat):List Bool:=(kN s T).map fun i=>df s T a i
structure r_ (w:World) (B f g:Nat) (s:am) (T:List aX) (rof rfi cof cfi bits alone:Sl) (bl:List Sl) (m j:Nat):Prop where
 blk:w.heap[f]? =some (.cells #[.pointer (some ⟨g,0,none⟩),rof.v,rfi.v,cof.v,cfi.v,bits.v,alone.v] qB (0,0))
 grid:il w g s T
 orof:w.ownsRow B aT 1 rof.v rof.n (Of (gS s T) (gN s T))
 orfi:w.ownsRow B aT 1 rfi.v rfi.n (F2 (qY s T))
 ocof:w.ownsRow B aT 1 cof.v cof.n (Of (lf s T) (gN s T))
 ocfi:w.ownsRow B aT 1 cfi.v cfi.n (F2 (kN s T))
 obits:w.ownsRow B gh 1 bits.v bits.n (bl.flatMap nL)
 blen:bl.length=m
 each:∀(c:Nat) (r:Sl) (h:c< (qY s T).length),bl[c]? =some r→w.ownsRow B bW 1 r.v r.n ((F7 s T (qY s T)[c]).flatMap da)
 oal:w.ownsRow B bW 1 alone.v alone.n ((((kN s T).take j).map fun i=>kb s T i).flatMap da)
def jx (w:World) (f g:Nat) (s:am) (T:List aX):Prop:=∃rof rfi cof cfi bits alone bl,r_ w 0 f g s T rof rfi cof cfi bits alone bl (qY s T).length (kN s T).length
theorem r_.on {w w':World} {B f g:Nat} {s:am} {T:List aX} {rof rfi cof cfi bits alone:Sl} {bl:List Sl} {m j:Nat} (h:r_ w B f g s T rof rfi cof cfi bits alone bl m j) (hb:ZH w w'):r_ w' B f g s T rof rfi cof cfi bits alone bl m j:=
 ⟨aj hb h.blk,h.grid.on hb,aE h.orof hb,aE h.orfi hb,aE h.ocof hb,aE h.ocfi hb,aE h.obits hb,h.blen,fun c r hc hr=>aE (h.each c r hc hr) hb,aE h.oal hb⟩
theorem jx.on {w w':World} {f g:Nat} {s:am} {T:List aX} (h:jx w f g s T) (hb:ZH w w'):jx w' f g s T:=by
 obtain⟨i,e,d,c,b,a,j,h⟩:=h;exact⟨i,e,d,c,b,a,j,h.on hb⟩
theorem mZ (k:Nat→Bs):∀i,(aL k i).length≤i
 |0=>XV _
 |i+1=>by
  have h1:=lu (k:=k) i;have h2:=mZ k i;omega
theorem nG {w:World} {B:Nat} {l:Sl} {xs:List Nat} (h:w.ownsRow B aT 1 l.v l.n (F2 xs)) {i:Nat} (hi:i<xs.length):l.n=xs.length∧∃p,l.a=some p∧w.cell? (p.add (i*1))=some (.int .i64 ((xs[i]:Nat):Int)):=by
 have a:=bO.of_own co (B:=B) (xs:=xs.map fun i:Nat=>(i:Int)) h;obtain⟨p,b,c⟩:=a_ a.r (show i< (xs.map fun i:Nat=>(i:Int)).length by simpa using hi) (v:=.int .i64 ((xs[i]:Nat):Int)) (by simp [an]);exact⟨by simpa using a.n,p,b,c⟩
theorem F5 {w:World} {B:Nat} {l:Sl} {xs:List Nat} (h:w.ownsRow B aT 1 l.v l.n (F2 xs)):l.n=xs.length:=by
 have a:=bO.of_own co (B:=B) (xs:=xs.map fun i:Nat=>(i:Int)) h;simpa using a.n
set_option maxHeartbeats 4000000 in
theorem xF (w:World) (g:Nat) (s:am) (T:List aX) (h:il w g s T) (hn:gN s T≤1032) (hr:yD s T) (hg:g<w.heap.size):
  CP 25 #[.pointer (some ⟨g,0,none⟩)] w fun e w'=>∃f,e= .returned (.pointer (some ⟨f,0,none⟩))∧jx w' f g s T∧ZH w w':=by
 refine aV (E7 (some ⟨g,0,none⟩) w) ?_;intro D hw1;have b1:ZH w D:=by subst hw1;exact ah _ _
 have l1:D.heap[w.heap.size]? =some (.cells #[.pointer (some ⟨g,0,none⟩)] 42 (0,0)):=by subst hw1;exact aq _ _
 have s1:w.heap.size<D.heap.size:=(XY.1 l1).1;refine⟨_,bD l1,ac.no rfl ⟨_,bD l1,?_⟩⟩;intro w2 hw2;have b2:ZH D w2:=by subst hw2;exact ah _ _
 have f2:w2.heap[D.heap.size]? =some (.cells #[.pointer (some ⟨g,0,none⟩),cW.v,cW.v,cW.v,cW.v,cW.v,cW.v] qB (0,0)):=by subst hw2;exact aq _ _
 have l2:=aj b2 l1;have s2:D.heap.size<w2.heap.size:=(XY.1 f2).1;have hb2:=ae b1 b2;have h2:=h.on hb2;refine⟨_,bD l2,(jZ w2 g s T h2).mono ?_⟩;rintro e w3 ⟨rfl,rfl⟩;refine⟨_,rfl,(sP w3 (gN s T) _ (gS s T) (by omega) fun i hi q hq=>b_ (by kernel_rfl) (Hx q w.heap.size g s T (h2.on hq) hn hr (aj hq l2) i hi)).mono ?_⟩;rintro e w4 ⟨L,x,rfl,X,V,b4⟩;have f4:=aj b4 f2;have l4:=aj b4 l2;have hb4:=ae hb2 b4;refine⟨_,_,_,_,_,_,rfl,?_⟩;rw [aG];refine dA [L.v,x.v] 0 w4 _ (0+1) f4 (by simp) (by intro v hv;simp only [List.mem_cons,List.not_mem_nil,or_false]at hv;rcases hv with rfl |rfl<;>rfl) ?_
 intro w5 f5 hs5 hz5 hB5;have f5:w5.heap[D.heap.size]? =some (.cells #[.pointer (some ⟨g,0,none⟩),L.v,x.v,cW.v,cW.v,cW.v,cW.v] qB (0,0)):=f5;have l5:=(hs5 _ (by omega)).trans l4;have hb5:ZH w w5:=hB5 _ _ (by omega) hb4;have h5:=h.on hb5;have orof5:=aN X fun k A=>hs5 k (by have:=(bL X k A).1;omega);have W:=aN V fun k A=>hs5 k (by have:=(bL V k A).1;omega);refine⟨_,bD l5,(jZ w5 g s T h5).mono ?_⟩;rintro e w6 ⟨rfl,rfl⟩;have K:∀i,i<gN s T→∀q,ZH w6 q→bM gq (.func (.func 83) #[.pointer (some (nb D))] #[]) [.int .i64 (i:Int)] q (fun e q2=>e= .returned (.string (str (lf s T i)))∧ZH q q2):=by
  intro i hi q hq;have:=Bw q D.heap.size g s T (h5.on hq) hn _ (aj hq f5) x rfl rfl (aS (aE W hq) (Nat.zero_le _)) i hi;unfold bM;have hc:gq.fns 83=true:=by kernel_rfl
  simp only [hc];exact this
 refine⟨_,rfl,(sP w6 (gN s T) _ (lf s T) (by omega) K).mono ?_⟩;rintro e w7 ⟨M,t,rfl,ocof,ocfi,b7⟩;have f7:=aj b7 f5;have l7:=aj b7 l5;have hb7:=ae hb5 b7;refine⟨_,_,_,_,_,_,rfl,?_⟩;rw [aG];refine dA [M.v,t.v] 0 w7 _ (0+3) f7 (by simp) (by intro v hv;simp only [List.mem_cons,List.not_mem_nil,or_false]at hv;rcases hv with rfl |rfl<;>rfl) ?_
 intro w8 f8 S hz8 hB8;have f8:w8.heap[D.heap.size]? =some (.cells #[.pointer (some ⟨g,0,none⟩),L.v,x.v,M.v,t.v,cW.v,cW.v] qB (0,0)):=f8;have l8:=(S _ (by omega)).trans l7;have hb8:ZH w w8:=hB8 _ _ (by omega) hb7;have z6:D.heap.size<w6.heap.size:=by rw [hz5];exact Nat.lt_of_lt_of_le s2 b4.size
 have orof8:=aN (aE orof5 b7) fun k A=>S k (by have:=(bL X k A).1;omega);have orfi8:=aN (aE W b7) fun k A=>S k (by have:=(bL V k A).1;omega);have ocof8:=aN ocof fun k A=>S k (by have:=(bL ocof k A).1;omega);have ocfi8:=aN ocfi fun k A=>S k (by have:=(bL ocfi k A).1;omega);have s3:w.heap.size≤w3.heap.size:=hb2.size;have s6:w.heap.size≤w6.heap.size:=hb5.size;have R8:r_ w8 w.heap.size D.heap.size g s T L x M t cW cW [] 0 0:=
  ⟨f8,h.on hb8,aS orof8 s3,aS orfi8 s3,aS ocof8 s6,aS ocfi8 s6,bE _ _ _ _ nL,rfl,(by intro c r _ h;cases h),bE _ _ _ _ da⟩
 have hrf:(qY s T).length≤1032:=XW (mZ _ _) hn;have hcf:(kN s T).length≤1032:=XW (mZ _ _) hn;refine⟨x.a,x.n,x.c,(by first |(rw [aQ f8];rfl) |(rw [aG,aQ f8];rfl) |(rw [aG,aG,aQ f8];rfl)),?_⟩;have hrn:=F5 R8.orfi;have hcn:=F5 R8.ocfi;intro I hI;let Inv (i:Nat) (q:World):Prop:=∃m bl,r_ q w.heap.size D.heap.size g s T L x M t m cW bl i 0∧q.heap[w.heap.size]? =some (.cells #[.pointer (some ⟨g,0,none⟩)] 42 (0,0))∧ZH w q;have key:=aZ (α:=World) (qY s T).length Inv (fun i q=>I [.int .i64 (i:Int)] q) w8 ⟨cW,[],R8,l8,hb8⟩ ?_ ?_
 ·exact key
 ·rintro i hi ih q ⟨m,bl,R,lq,hB⟩;obtain⟨_,p,hp,cc⟩:=nG R.orfi hi;have hai:=eY (List.getElem_mem hi);refine hI _ _ (ac.yes (XJ (by omega)) (ag.mk p hp ⟨by omega,by omega,_,cc,_,bD lq,(ng q g s T R.grid _ hai).mono ?_⟩));rintro e q1 ⟨rfl,rfl⟩;refine⟨_,_,rfl,t.a,t.n,t.c,(by first |(rw [aQ R.blk];rfl) |(rw [aG,aQ R.blk];rfl) |(rw [aG,aG,aQ R.blk];rfl)),?_⟩;intro I2 O;have K:=aZ (α:=Sl×World) (kN s T).length (fun j y=>y.2.ownsRow q1.heap.size bW 1 y.1.v y.1.n ((((kN s T).take j).map fun c=>df s T (qY s T)[i] c).flatMap da)∧y.1.n=j∧ZH q1 y.2) (fun j y=>I2 [.int .i64 (j:Int),y.1.v] y.2) (cW,q1) ⟨bE _ _ _ _ da,rfl,Below.refl _ _⟩ ?_ ?_
  ·exact K
  ·rintro j J ih2 ⟨b,z⟩ ⟨E,hbn,d⟩;change z.ownsRow q1.heap.size bW 1 b.v b.n _ at E;change b.n=j at hbn;change ZH q1 z at d;have l:=R.on d;have lz:=aj d lq;obtain⟨_,p2,hp2,cc2⟩:=nG l.ocfi J;have P:=eY (List.getElem_mem J);refine O _ b.a b.n b.c z (ac.yes (XJ (by omega)) (ag.mk p2 hp2 ⟨by omega,by omega,_,cc2,_,bD lz,(ng z g s T l.grid _ P).mono ?_⟩));rintro e z1 ⟨rfl,rfl⟩;refine⟨_,_,rfl,_,bD lz,(pn z1 g s T l.grid hn _ _).mono ?_⟩;rintro e z2 ⟨rfl,rfl⟩;rw [wx hai P];refine⟨_,rfl,?_⟩;intro z3 U;obtain⟨b',z4,e1,e2,e3,e4,_⟩:=se.push E (df s T (qY s T)[i] (kN s T)[j]) U rfl d.size (by omega) (by decide);refine⟨b'.a,b'.n,b'.c,z4,e2,Ar.nat (j+1) rfl (by omega) (ih2 (b',z4) ⟨?_,by show b'.n=j+1;omega,e4 _ d⟩)⟩;rw [List.take_add_one,XK J,List.map_append];exact e3
  ·rintro⟨b,z⟩ ⟨E,hbn,d⟩;change z.ownsRow q1.heap.size bW 1 b.v b.n _ at E;change ZH q1 z at d;rw [List.take_length]at E;have l:=R.on d;have lz:=aj d lq;have hBw:ZH w z:=hB.trans (d.mono hB.size);refine O _ b.a b.n b.c z (ac.no (XZ (by omega)) ⟨m.a,m.n,m.c,by rw [aF l.blk];rfl,?_⟩);intro z1 hz1;have hbn2:=(bO.of_own Iy l.obits).n;have hbl:=l.blen;obtain⟨F,z2,e1,e2,e3,e4,e5⟩:=Iy.push l.obits b hz1 rfl hBw.size (by omega) (by decide);have kp:∀ {k:Nat} {o:Obj},z.heap[k]? =some o→m.v.ownBlock≠some k→z2.heap[k]? =some o:=fun {k o} h Z=>(e5 k (XY.1 h).1 Z).trans h;have y1:=kp l.blk (az l.obits l.blk (by decide));have yl:=kp lz (az l.obits lz (by decide));refine⟨F.a,F.n,F.c,z2,e2,rfl,⟨_,by rw [aF y1];rfl⟩,bc y1,?_⟩;intro z3 U;have hs:∀j,j≠D.heap.size→z3.heap[j]? =z2.heap[j]? :=by
    intro j J;subst U;exact ar (by rw [ay];exact J)
   have hBw3:ZH w z3:=by subst U;exact bv (e4 _ hBw) (by omega) _
   have a:∀ {B sz n:Nat} {e:TypeId} {u:Value} {xs:List Value},z.ownsRow B e sz u n xs→e≠gh→e≠qB→z3.ownsRow B e sz u n xs:=by
    intro B sz n e u xs h h1 h2;refine aN h fun k A=>?_;rw [hs k fun e=>az h l.blk h2 (by rw [A,e])];exact e5 k (bL h k A).2 (cj h l.obits h1 k A)
   refine Ar.nat (i+1) rfl (by omega) (ih z3 ⟨F,bl++ [b],⟨by subst U;exact bu y1 _,h.on hBw3,a l.orof (by decide) (by decide),a l.orfi (by decide) (by decide),a l.ocof (by decide) (by decide),a l.ocfi (by decide) (by decide),aN e3 fun k A=>hs k fun e=>az e3 y1 (by decide) (by rw [A,e]),by simp;omega,?_,bE _ _ _ _ da⟩,(hs _ (by omega)).trans yl,hBw3⟩);intro c r hc J;by_cases hcl:c<bl.length
   ·rw [List.getElem?_append_left hcl]at J;exact a (l.each c r hc J) (by decide) (by decide)
   ·have hci:c=i:=by
     have:=(List.getElem?_eq_some_iff.1 J).1;simp at this;omega
    subst hci;rw [List.getElem?_append_right (by omega),hbl,Nat.sub_self]at J;cases J;exact a (aS E hB.size) (by decide) (by decide)
 ·rintro q ⟨m,bl,R,lq,hB⟩;refine hI _ _ (ac.no (XZ (by omega)) ⟨t.a,t.n,t.c,(by first |(rw [aQ R.blk];rfl) |(rw [aG,aQ R.blk];rfl) |(rw [aG,aG,aQ R.blk];rfl)),?_⟩);intro I2 O;let blkA (G:Sl):Obj:=.cells #[.pointer (some ⟨g,0,none⟩),L.v,x.v,M.v,t.v,m.v,G.v] qB (0,0);let Inv2 (j:Nat) (z:World):Prop:=∃G:Sl,z.heap[D.heap.size]? =some (blkA G)∧(∀k,k<q.heap.size→k≠D.heap.size→z.heap[k]? =q.heap[k]?)∧q.heap.size≤z.heap.size∧z.ownsRow q.heap.size bW 1 G.v G.n ((((kN s T).take j).map fun i=>kb s T i).flatMap da)∧ZH w z;have lts:D.heap.size<q.heap.size:=(XY.1 R.blk).1;have ltw:w.heap.size<q.heap.size:=(XY.1 lq).1;have mk:∀ {j:Nat} {z:World} {G:Sl},z.heap[D.heap.size]? =some (blkA G)→(∀k,k<q.heap.size→k≠D.heap.size→z.heap[k]? =q.heap[k]?)→z.ownsRow q.heap.size bW 1 G.v G.n ((((kN s T).take j).map fun i=>kb s T i).flatMap da)→ZH w z→r_ z w.heap.size D.heap.size g s T L x M t m G bl (qY s T).length j:=by
   intro j z G H A N d;have a:∀ {B sz n:Nat} {e:TypeId} {u:Value} {xs:List Value},q.ownsRow B e sz u n xs→e≠qB→z.ownsRow B e sz u n xs:=fun h h2=>aN h fun k hkk=>A k (bL h k hkk).2 fun e=>az h R.blk h2 (by rw [hkk,e]);exact⟨H,h.on d,a R.orof (by decide),a R.orfi (by decide),a R.ocof (by decide),a R.ocfi (by decide),a R.obits (by decide),R.blen,fun c r hc hr=>a (R.each c r hc hr) (by decide),aS N (Nat.le_of_lt ltw)⟩
  have K:=aZ (α:=World) (kN s T).length Inv2 (fun j q=>I2 [.int .i64 (j:Int)] q) q ⟨cW,R.blk,fun _ _ _=>rfl,XV _,bE _ _ _ _ da,hB⟩ ?_ ?_
  ·exact K
  ·rintro j J ih z ⟨G,H,C,hzz,N,d⟩;have l:=mk H C N d;have lz:=(C _ ltw (by omega)).trans lq;obtain⟨_,p2,hp2,cc2⟩:=nG l.ocfi J;have P:=eY (List.getElem_mem J);refine O _ _ (ac.yes (XJ (by omega)) (ag.mk p2 hp2 ⟨by omega,by omega,_,cc2,_,bD lz,(ng z g s T l.grid _ P).mono ?_⟩));rintro e z1 ⟨rfl,rfl⟩;refine⟨_,_,rfl,?_⟩;intro z2 hz2;have bd:ZH z1 z2:=by subst hz2;exact aU z1
   have R2:=l.on bd;have l2':=aj bd lz;have hB2:=ae d bd;have Q:=aE N bd;refine⟨G.a,G.n,G.c,by rw [aF R2.blk];rfl,_,bD l2',(jd z2 g s T R2.grid hn _).mono ?_⟩;rintro e z3 ⟨rfl,rfl⟩;rw [wu P];refine⟨_,rfl,⟨by rw [aF R2.blk];rfl,trivial⟩,?_⟩;intro z4 hz4;have b4':ZH z3 z4:=by subst hz4;exact ah _ _
   have haln:=(bO.of_own se Q).n;rw [List.length_map,List.length_take]at haln;have hzz2:q.heap.size≤z3.heap.size:=XW hzz bd.size;obtain⟨Y,z5,e1,e2,e3,e4,e5⟩:=se.push Q (kb s T (kN s T)[j]) hz4 rfl hzz2 (by omega) (by decide);have y1:z5.heap[D.heap.size]? =some (blkA G):=(e5 _ (by omega) (az Q R2.blk (by decide))).trans R2.blk;have b5:Below q.heap.size z3 z5:=e4 _ (Below.refl _ _);refine⟨⟨by rw [aF (aj b4' R2.blk)];rfl,trivial⟩,Y.a,Y.n,Y.c,z5,e2,rfl,⟨_,by rw [aF y1];rfl⟩,bc y1,?_⟩;intro z6 a0;have hs:∀j,j≠D.heap.size→z6.heap[j]? =z5.heap[j]? :=by
    intro j J;subst a0;exact ar (by rw [ay];exact J)
   have hB6:ZH w z6:=by subst a0;exact bv (hB2.trans (b5.mono (Nat.le_of_lt ltw))) (by omega) _
   refine Ar.nat (j+1) rfl (by omega) (ih z6 ⟨Y,by subst a0;exact bu y1 _,fun k A Z=>?_,?_,?_,hB6⟩)
   ·rw [hs k Z,b5.block k A,bd.block k (by omega)];exact C k A Z
   ·subst a0;rw [ba];exact XW hzz2 b5.size
   ·rw [List.take_add_one,XK J,List.map_append];exact aN e3 fun k A=>hs k fun e=>az e3 y1 (by decide) (by rw [A,e])
  ·rintro z ⟨G,H,C,hzz,N,d⟩;have l:=mk H C N d;refine O _ _ (ac.no (XZ (by omega)) ⟨D.heap.size,rfl,⟨L,x,M,t,m,G,bl,?_⟩,d⟩);exact⟨l.blk,l.grid,aS l.orof (Nat.zero_le _),aS l.orfi (Nat.zero_le _),aS l.ocof (Nat.zero_le _),aS l.ocfi (Nat.zero_le _),aS l.obits (Nat.zero_le _),l.blen,fun c r hc hr=>aS (l.each c r hc hr) (Nat.zero_le _),aS l.oal (Nat.zero_le _)⟩
theorem Hi {s:am} {T:List aX} {j:Nat} (hj:j<gN s T):∃h:clsOf (lf s T) j< (kN s T).length,kb s T (kN s T)[clsOf (lf s T) j]=kb s T j:=by
 obtain⟨d,e⟩:=kS (k:=lf s T) hj;refine⟨d,?_⟩;have a:∀b c:Bool,((if b then 1 else 0:UInt8)=(if c then 1 else 0))↔b=c:=by decide
 exact(a _ _).1 (List.cons.inj e).1
theorem NY {s:am} {T:List aX} {i j:Nat}:lf s T i=lf s T j↔kb s T i=kb s T j∧∀a∈aL (gS s T) (gN s T),df s T a i=df s T a j:=by
 have d:∀b c:Bool,((if b then 1 else 0:UInt8)=(if c then 1 else 0))↔b=c:=by decide
 unfold lf;rw [List.cons.injEq,d];refine and_congr Iff.rfl ⟨fun h a e=>?_,fun h=>List.map_congr_left fun a e=>by rw [h a e]⟩;have:=List.map_inj_left.1 h a e;exact(d _ _).1 this
theorem Ov {s:am} {T:List aX} {i j:Nat}:gS s T i=gS s T j↔∀m,m<gN s T→df s T i m=df s T j m:=yT
theorem KV {s:am} {T:List aX} {i j:Nat} (hi:i<gN s T) (hj:j<gN s T):∃(h:clsOf (gS s T) i< (qY s T).length) (h':clsOf (lf s T) j< (kN s T).length),df s T (qY s T)[clsOf (gS s T) i] (kN s T)[clsOf (lf s T) j]=df s T i j:=by
 obtain⟨a,d⟩:=kS (k:=gS s T) hi;obtain⟨e,f⟩:=kS (k:=lf s T) hj;refine⟨a,e,?_⟩;have b:=(NY.1 f).2 _ (List.getElem_mem a);have c:=Ov.1 d j hj;exact b.trans c
theorem vh {w:World} {B n:Nat} {l:Sl} {k:Nat→Bs} (h:w.ownsRow B aT 1 l.v l.n (Of k n)) {i:Nat} (hi:i<n):l.n=n∧∃p,l.a=some p∧w.cell? (p.add (i*1))=some (.int .i64 ((clsOf k i:Nat):Int)):=by
 have a:=bO.of_own co (B:=B) (xs:=(List.range n).map fun i=>((clsOf k i:Nat):Int)) h;obtain⟨p,b,c⟩:=a_ a.r (show i< ((List.range n).map fun i=>((clsOf k i:Nat):Int)).length by simpa using hi) (v:=.int .i64 ((clsOf k i:Nat):Int)) (by simp [an]);exact⟨by simpa using a.n,p,b,c⟩
def T0 (k:Nat→Bs) (o:Option Nat):Value:=match o with
 |some i=>.tuple #[.int .i64 ((clsOf k i:Nat):Int),.bool true]
 |none=>.tuple #[.int .i64 0,.bool false]
theorem qd (w:World) (f g:Nat) (s:am) (T:List aX) (h:jx w f g s T) (id:Int):
  CP 368 #[.pointer (some ⟨f,0,none⟩),.int .i64 id] w fun e w'=>e= .returned (.tuple #[.int .i64 (((mT s T id).getD 0:Nat):Int),.bool (mT s T id).isSome])∧w'=w:=by
 refine aV (CI (some ⟨f,0,none⟩) id w) ?_;obtain⟨j,i,d,c,b,a,k,R⟩:=h;refine ac.no rfl (ag.mk _ rfl ⟨_,by rw [aF R.blk];rfl,(fK w g s T R.grid id).mono ?_⟩);rintro e l ⟨rfl,rfl⟩;exact⟨_,_,rfl,rfl,rfl⟩
theorem GZ (w:World) (f g:Nat) (s:am) (T:List aX) (h:jx w f g s T) (id:Int):
  CP 367 #[.pointer (some ⟨f,0,none⟩),.int .i64 id] w fun e w'=>e= .returned (T0 (gS s T) (mT s T id))∧w'=w:=by
 refine aV (Di (some ⟨f,0,none⟩) id w) ?_;refine(qd w f g s T h id).mono ?_;rintro e u ⟨rfl,rfl⟩;obtain⟨a,r,n,m,k,c,t,R⟩:=h;refine⟨_,_,rfl,ac.mk (fun b=>⟨?_,rfl⟩) fun b=>?_⟩
 ·cases j:mT s T id with
  |none=>rfl
  |some i=>rw [j]at b;cases b
 ·obtain⟨i,l⟩:=Option.isSome_iff_exists.1 (by simpa using b);obtain⟨d,_,_⟩:=dE l;obtain⟨q,p,j,o⟩:=vh R.orof (i:=i) d;rw [l];refine ag.mk _ rfl ⟨a.a,a.n,a.c,(by rw [aG,aG,aQ R.blk];rfl),ag.mk p j ⟨by omega,by show((i:Nat):Int) <_;unfold gN at q;omega,_,o,rfl,rfl⟩⟩
theorem po (w:World) (f g:Nat) (s:am) (T:List aX) (h:jx w f g s T) (id:Int):
  CP 366 #[.pointer (some ⟨f,0,none⟩),.int .i64 id] w fun e w'=>e= .returned (T0 (lf s T) (mT s T id))∧w'=w:=by
 refine aV (xT (some ⟨f,0,none⟩) id w) ?_;refine(qd w f g s T h id).mono ?_;rintro e u ⟨rfl,rfl⟩;obtain⟨r,q,a,m,k,c,t,R⟩:=h;refine⟨_,_,rfl,ac.mk (fun b=>⟨?_,rfl⟩) fun b=>?_⟩
 ·cases j:mT s T id with
  |none=>rfl
  |some i=>rw [j]at b;cases b
 ·obtain⟨i,l⟩:=Option.isSome_iff_exists.1 (by simpa using b);obtain⟨d,_,_⟩:=dE l;obtain⟨o,p,j,n⟩:=vh R.ocof (i:=i) d;rw [l];refine ag.mk _ rfl ⟨a.a,a.n,a.c,(by rw [aG,aG,aQ R.blk];rfl),ag.mk p j ⟨by omega,by show((i:Nat):Int) <_;unfold gN at o;omega,_,n,rfl,rfl⟩⟩
theorem AN (w:World) (f g:Nat) (s:am) (T:List aX) (h:jx w f g s T) (id:Int):
  CP 364 #[.pointer (some ⟨f,0,none⟩),.int .i64 id] w fun e w'=>e= .returned (.bool (IA s T id))∧w'=w:=by
 refine aV (Az (some ⟨f,0,none⟩) id w) ?_;refine(po w f g s T h id).mono ?_;rintro e A ⟨rfl,rfl⟩;obtain⟨y,x,o,n,l,a,z,R⟩:=h;cases hp:mT s T id with
 |none=>
  refine⟨_,_,rfl,ac.no rfl ⟨?_,rfl⟩⟩;unfold IA;rw [kR hp,Bool.false_and]
 |some i=>
  obtain⟨c,d,t⟩:=dE hp;obtain⟨r,q⟩:=Hi (s:=s) (T:=T) (j:=i) c;have b:=bO.of_own se R.oal;rw [List.take_length]at b;have u:=b.n;rw [List.length_map]at u;obtain⟨p,k,m⟩:=a_ b.r (show clsOf (lf s T) i< ((kN s T).map fun i=>kb s T i).length by simpa using r) (v:=.bool (kb s T i)) (by simp [da,q]);refine⟨_,_,rfl,ac.yes rfl (ag.mk _ rfl ⟨a.a,a.n,a.c,by rw [aF R.blk];rfl,ag.mk p k ⟨by omega,by omega,_,m,?_,rfl⟩⟩)⟩;rw [←wu c,d]
theorem GR (w:World) (f g:Nat) (s:am) (T:List aX) (h:jx w f g s T) (a b:Int):
  CP 365 #[.pointer (some ⟨f,0,none⟩),.int .i64 a,.int .i64 b] w fun e w'=>e= .returned (.bool (oR s T a b))∧w'=w:=by
 refine aV (Ay (some ⟨f,0,none⟩) a b w) ?_;refine(GZ w f g s T h a).mono ?_;rintro e D ⟨rfl,rfl⟩;cases hp:mT s T a with
 |none=>
  refine⟨_,_,rfl,(po D f g s T h b).mono ?_⟩;rintro e S ⟨rfl,rfl⟩;have H:oR s T a b=false:=by unfold oR;rw [kR hp,Bool.false_and,Bool.false_and]
  rw [H];cases mT s T b with
  |none=>exact⟨_,_,rfl,ac.no rfl ⟨rfl,rfl⟩⟩
  |some j=>exact⟨_,_,rfl,ac.no rfl ⟨rfl,rfl⟩⟩
 |some i=>
  obtain⟨m,y,M⟩:=dE hp;refine⟨_,_,rfl,(po D f g s T h b).mono ?_⟩;rintro e S ⟨rfl,rfl⟩;obtain⟨Q,P,G,F,d,u,C,R⟩:=h;cases hq:mT s T b with
  |none=>
   refine⟨_,_,rfl,ac.yes rfl (ac.no rfl ⟨?_,rfl⟩)⟩;unfold oR;rw [kR hq,Bool.and_false,Bool.false_and]
  |some j=>
   obtain⟨n,z,N⟩:=dE hq;obtain⟨I,J,r⟩:=KV (s:=s) (T:=T) (i:=i) (j:=j) m n;have o:=bO.of_own Iy R.obits;have K:=R.blen;have L:=o.n;have l:clsOf (gS s T) i<C.length:=by omega
   obtain⟨p,A,E⟩:=a_ o.r l (v:=C[clsOf (gS s T) i].v) rfl;have t:=R.each _ _ I (XK l);have k:=bO.of_own se t;have q:=k.n;unfold F7 at k q;rw [List.length_map]at q;obtain⟨O,B,x⟩:=a_ k.r (show clsOf (lf s T) j< ((kN s T).map fun c=>df s T (qY s T)[clsOf (gS s T) i] c).length by simpa using J) (v:=.bool (df s T i j)) (by simp [da,r]);refine⟨_,_,rfl,ac.yes rfl (ac.yes rfl (ag.mk _ rfl ⟨d.a,d.n,d.c,by rw [aF R.blk];rfl,ag.mk p A ⟨by omega,by omega,_,_,_,E,ag.mk O B ⟨by omega,by omega,_,x,?_,rfl⟩⟩⟩))⟩;rw [←wx m n,y,z]
theorem Cp (w:World) (f g:Nat) (s:am) (T:List aX) (h:jx w f g s T) (hok:fo T) (hV:(ap s T).Ok) (A:Option Addr) (C:Nat) (ids:List Int) (hr:Rw an 1 w A ids) (hl:ids.length≤10000):
  CP 363 #[.pointer (some ⟨f,0,none⟩),.slice A ids.length C] w fun e w'=>∃o:Option Nat,e= .returned (.tuple #[.int .i64 ((o.getD 0:Nat):Int),.bool o.isSome])∧mU (ap s T) ids o∧w'=w:=by
 refine aV (BI (some ⟨f,0,none⟩) A ids.length C w) ?_;have D:∀t,IA s T t=true↔(ap s T).Has t∧(ap s T).Canon [t]:=by
  intro t;unfold IA;rw [Bool.and_eq_true,du hok,decide_eq_true_iff]
 have G:∀a b,oR s T a b=true↔((ap s T).Has a∧(ap s T).Has b)∧(ap s T).Canon [a,b]:=by
  intro a b;unfold oR;rw [Bool.and_eq_true,Bool.and_eq_true,du hok,du hok,decide_eq_true_iff]
 intro I R;have P:=aZ (α:=World) ids.length (fun i q=>(∀(j:Nat) (h:j<ids.length),j<i→(ap s T).Has ids[j]∧(ap s T).Canon (ids.take (j+1)))∧q=w) (fun i q=>∀M L,I [.int .i64 (i:Int),.bool M,.int .i64 L] q) w ⟨fun j _ m=>absurd m (Nat.not_lt_zero j),rfl⟩ ?_ ?_
 ·exact P _ _
 ·rintro i F ih q ⟨c,rfl⟩ M L;obtain⟨p,hp,W⟩:=a_ hr F rfl;refine R _ _ _ _ (ac.yes (by simp;omega) (ag.mk p hp ⟨by omega,by omega,_,W,?_⟩));refine(AN q f g s T h _).mono ?_;rintro e Q ⟨rfl,rfl⟩;refine⟨_,rfl,ac.mk (fun H=>?_) fun H=>?_⟩
  ·refine⟨some i,rfl,⟨fun j m v=>c j m v,F,fun e=>?_⟩,rfl⟩;have E:∀t∈ids.take (i+1),(ap s T).Has t:=by
    intro t K;obtain⟨j,m,rfl⟩:=List.mem_take_iff_getElem.1 K;by_cases z:j=i
    ·subst z;exact e.1
    ·exact(c j (by omega) (by omega)).1
   have u:ids.take (i+1)=ids.take i++ [ids[i]]:=by rw [List.take_add_one,XK F];rfl
   rw [u]at E e;rw [(D _).2 ⟨e.1,(Voc.canon_append hV E e.2).2⟩]at H;cases H
  ·have B:=(D _).1 (by simpa using H);have u:ids.take (i+1)=ids.take i++ [ids[i]]:=by rw [List.take_add_one,XK F];rfl
   have next:(ap s T).Canon (ids.take (i+1))→Ar .i64 ((i:Int)+1) (fun n=>I [.int .i64 n,.bool M,.int .i64 L] Q):=by
    intro Z;refine Ar.nat (i+1) rfl (by omega) (ih Q ⟨fun j m v=>?_,rfl⟩ _ _);by_cases z:j=i
    ·subst z;exact⟨B.1,Z⟩
    ·exact c j m (by omega)
   refine ac.mk (fun r=>?_) fun r=>?_
   ·have r:=XQ r;obtain⟨k,rfl⟩:∃k,i=k+1:=⟨i-1,by omega⟩;obtain⟨p2,O,X⟩:=a_ hr (show k<ids.length by omega) rfl;refine Ar.nat k (by omega) (by omega) (ag.mk p2 O ⟨by omega,by omega,_,X,?_⟩);refine(GR Q f g s T h _ _).mono ?_;rintro e w3 ⟨rfl,rfl⟩;have N:=c k (by omega) (by omega);have d:ids.take (k+1)=ids.take k++ [ids[k]]:=by rw [List.take_add_one,XK (by omega)];rfl
    have E:∀t∈ids.take k++ [ids[k]],(ap s T).Has t:=by
     intro t K;rw [←d]at K;obtain⟨j,m,rfl⟩:=List.mem_take_iff_getElem.1 K;exact(c j (by omega) (by omega)).1
    have y:=N.2;rw [d]at y;have U:=Voc.canon_more hV E y B.1;have V:(ap s T).Canon [ids[k],ids[k+1]]↔(ap s T).Canon [ids[k+1]]∧(ap s T).Pair ids[k] ids[k+1]:=Voc.canon_more hV (init:=[]) (l:=ids[k]) (t:=ids[k+1]) (fun x S=>by rw [List.nil_append,List.mem_singleton]at S;rw [S];exact N.1) (Voc.canon_append hV E y).2 B.1;refine⟨_,rfl,ac.mk (fun J=>?_) fun J=>?_⟩
    ·refine⟨some (k+1),rfl,⟨fun j m v=>c j m v,F,fun e=>?_⟩,rfl⟩;have z:=e.2;rw [u,d]at z;rw [(G _ _).2 ⟨⟨N.1,B.1⟩,V.2 (U.1 z)⟩]at J;cases J
    ·have Y:=(G _ _).1 (by simpa using J);exact next (by rw [u,d];exact U.2 (V.1 Y.2))
   ·have r:=XX r;obtain rfl:i=0:=by omega
    refine next ?_;rw [u,List.take_zero,List.nil_append];exact B.2
 ·rintro q ⟨c,rfl⟩ M L;exact R _ _ _ _ (ac.no (by simp) ⟨none,rfl,fun j m=>c j m m,rfl⟩)
theorem kq {κ κ':Type} [DecidableEq κ] [DecidableEq κ'] {k:Nat→κ} {k':Nat→κ'}:∀ {N:Nat},(∀i j,i<N→j<N→k' i=k' j→k i=k j)→(aL k N).Sublist (aL k' N)
 |0,_=>List.Sublist.refl _
 |N+1,h=>by
  have ih:=kq (N:=N) fun i j hi hj=>h i j (by omega) (by omega);rcases d_ (k:=k) N with⟨c,_,h2,_,_⟩ |⟨_,h2,_,h4⟩
  ·rw [h2];rcases d_ (k:=k') N with⟨c',_,g2,_,_⟩ |⟨_,g2,_,_⟩
   ·rw [g2];exact ih
   ·rw [g2];exact ih.trans (List.sublist_append_left _ _)
  ·rw [h2];rcases d_ (k:=k') N with⟨c',_,g2,_,hc,e⟩ |⟨_,g2,_,_⟩
   ·exfalso;have hm:=List.getElem_mem hc;have hl:=eY hm;obtain⟨q1,q2⟩:=kS (k:=k) hl;exact h4 _ (List.getElem_mem q1) (q2.trans (h _ _ (by omega) (by omega) e))
   ·rw [g2];exact ih.append (List.Sublist.refl _)
theorem mo {κ:Type} [DecidableEq κ] (k:Nat→κ):∀i,(aL k i).length≤i
 |0=>XV _
 |i+1=>by
  have h1:=lu (k:=k) i;have h2:=mo k i;omega
theorem AR {κ κ':Type} [DecidableEq κ] [DecidableEq κ'] {k:Nat→κ} {k':Nat→κ'} {N:Nat} (h:∀i j,i<N→j<N→k' i=k' j→k i=k j) (hl:(aL k' N).length=(aL k N).length) {i j:Nat} (hi:i<N) (hj:j<N):k i=k j→k' i=k' j:=by
 have e:=(kq h).eq_of_length hl.symm;intro f;obtain⟨a,b⟩:=kS (k:=k') hi;obtain⟨c,d⟩:=kS (k:=k') hj;have m:=eY (List.getElem_mem a);have n:=eY (List.getElem_mem c);have g:=h _ _ m hi b;have l:=h _ _ n hj d;have:clsOf k' i=clsOf k' j:=jY (k:=k) _ _ (by rw [e];exact a) (by rw [e];exact c) (by simp only [e];rw [g,l,f]);rw [←b, ←d];simp only [this]
def gA (x:Nat):List UInt8:=[UInt8.ofNat x,UInt8.ofNat (x/256)]
theorem Dn {x y:Nat} (hx:x<65536) (hy:y<65536) (h:gA x=gA y):x=y:=by
 unfold gA at h;simp only [List.cons.injEq,and_true]at h;have a:=congrArg UInt8.toNat h.1;have b:=congrArg UInt8.toNat h.2;simp only [UInt8.toNat_ofNat']at a b;omega
theorem yO:∀ {l m:List Nat},l.length=m.length→(∀x∈l,x<65536)→(∀x∈m,x<65536)→l.flatMap gA=m.flatMap gA→l=m
 | [],[],_,_,_,_=>rfl
 |x::l,y::m,hl,h1,h2,h=>by
  have e:gA x++l.flatMap gA=gA y++m.flatMap gA:=h;have:=List.append_inj e rfl;rw [Dn (h1 x List.mem_cons_self) (h2 y List.mem_cons_self) this.1,yO (by simpa using hl) (fun z hz=>h1 z (List.mem_cons_of_mem _ hz)) (fun z hz=>h2 z (List.mem_cons_of_mem _ hz)) this.2]
structure Aut where
 N:Nat
 n:Nat
 nxt:Nat→Nat→Nat
 good:Nat→Bool
structure Aut.Ok (M:Aut):Prop where
 lt:∀i k,i<M.N→k<M.n→M.nxt i k<M.N
 pos:0<M.N
 few:M.N≤60000
namespace Aut
variable (M:Aut)
def keyT (of:Nat→Nat) (i:Nat):List UInt8:=gA (of i)++((List.range M.n).map fun k=>of (M.nxt i k)).flatMap gA
def ofR:Nat→Nat→Nat
 |0=>clsOf M.good
 |r+1=>clsOf (M.keyT (ofR r))
def cntR:Nat→Nat
 |0=>(aL M.good M.N).length
 |r+1=>(aL (M.keyT (M.ofR r)) M.N).length
variable {M}
theorem keyT_iff {of:Nat→Nat} (h:∀i,i<M.N→of i<65536) (hM:M.Ok) {i j:Nat} (hi:i<M.N) (hj:j<M.N):M.keyT of i=M.keyT of j↔of i=of j∧∀k,k<M.n→of (M.nxt i k)=of (M.nxt j k):=by
 constructor
 ·intro e;have e:gA (of i)++_=gA (of j)++_:=e;have:=List.append_inj e rfl;refine⟨Dn (h i hi) (h j hj) this.1,fun k a=>?_⟩;have l:=yO (by simp) (by intro x b;obtain⟨k,a,rfl⟩:=List.mem_map.1 b;exact h _ (hM.lt _ _ hi (List.mem_range.1 a))) (by intro x b;obtain⟨k,a,rfl⟩:=List.mem_map.1 b;exact h _ (hM.lt _ _ hj (List.mem_range.1 a))) this.2;have:=congrArg (fun l=>l[k]?) l;simpa [List.getElem?_range a]using this
 ·rintro⟨c,d⟩;unfold keyT;rw [c];congr 2;apply List.map_congr_left;intro k a;exact d k (List.mem_range.1 a)
theorem cls_lt {κ:Type} [DecidableEq κ] (k:Nat→κ) (i:Nat):clsOf k i≤i:=XW (lu (k:=k) i).1 (mo k i)
theorem ofR_lt (hM:M.Ok) (r:Nat) {i:Nat} (hi:i<M.N):M.ofR r i<60000:=by
 have:=hM.few;cases r with
 |zero=>have:=cls_lt M.good i;unfold ofR;omega
 |succ r=>have:=cls_lt (M.keyT (M.ofR r)) i;unfold ofR;omega
theorem ofR_iff (hM:M.Ok) (r:Nat) {i j:Nat} (hi:i<M.N) (hj:j<M.N):M.ofR (r+1) i=M.ofR (r+1) j↔M.ofR r i=M.ofR r j∧∀k,k<M.n→M.ofR r (M.nxt i k)=M.ofR r (M.nxt j k):=by
 rw [←keyT_iff (fun i hi=>by have:=ofR_lt hM r hi;omega) hM hi hj];exact rC hi hj
theorem of0_iff {i j:Nat} (hi:i<M.N) (hj:j<M.N):M.ofR 0 i=M.ofR 0 j↔M.good i=M.good j:=rC hi hj
theorem ofR_good (hM:M.Ok):∀(r:Nat) {i j:Nat} (hi:i<M.N) (hj:j<M.N),M.ofR r i=M.ofR r j→M.good i=M.good j
 |0,i,j,hi,hj,h=>(of0_iff hi hj).1 h
 |r+1,i,j,hi,hj,h=>ofR_good hM r hi hj ((ofR_iff hM r hi hj).1 h).1
theorem cntR_le (r:Nat):M.cntR r≤M.N:=by
 cases r with
 |zero=>exact mo _ _
 |succ r=>exact mo _ _
theorem cntR_key (r:Nat):∃(κ:Type) (_:DecidableEq κ) (k:Nat→κ),M.ofR r=clsOf k∧M.cntR r=(aL k M.N).length:=by
 cases r with
 |zero=>exact⟨Bool,inferInstance,M.good,rfl,rfl⟩
 |succ r=>exact⟨List UInt8,inferInstance,M.keyT (M.ofR r),rfl,rfl⟩
theorem firsts_cls {κ:Type} [DecidableEq κ] {k:Nat→κ} {N:Nat}:(aL (clsOf k) N)=aL k N:=by
 have c:∀ {κ κ':Type} [DecidableEq κ] [DecidableEq κ'] {k:Nat→κ} {k':Nat→κ'},(∀i j,i<N→j<N→k' i=k' j→k i=k j)→(aL k N).Sublist (aL k' N):=fun h=>kq h;have a:=c (k:=clsOf k) (k':=k) fun i j d f e=>(rC (k:=k) d f).2 e;have b:=c (k:=k) (k':=clsOf k) fun i j d f e=>(rC (k:=k) d f).1 e;exact a.eq_of_length (Nat.le_antisymm a.length_le b.length_le)
theorem cntR_of (r:Nat):M.cntR r=(aL (M.ofR r) M.N).length:=by
 obtain⟨κ,_,k,a,b⟩:=cntR_key (M:=M) r;rw [b,a,firsts_cls]
theorem cntR_mono (hM:M.Ok) (r:Nat):M.cntR r≤M.cntR (r+1):=by
 rw [cntR_of,cntR_of];exact(kq fun i j a b h=>((ofR_iff hM r a b).1 h).1).length_le
theorem ofR_stay (hM:M.Ok) {r:Nat} (h:M.cntR (r+1)=M.cntR r) {i j:Nat} (hi:i<M.N) (hj:j<M.N):M.ofR r i=M.ofR r j→M.ofR (r+1) i=M.ofR (r+1) j:=by
 rw [cntR_of,cntR_of]at h;exact AR (fun i j hi hj h=>((ofR_iff hM r hi hj).1 h).1) h hi hj
structure Bis (M:Aut) (R:Nat→Nat→Prop):Prop where
 good:∀i j,i<M.N→j<M.N→R i j→M.good i=M.good j
 next:∀i j k,i<M.N→j<M.N→k<M.n→R i j→R (M.nxt i k) (M.nxt j k)
theorem ofR_coarse (hM:M.Ok) {R:Nat→Nat→Prop} (hR:Bis M R):∀(r:Nat) {i j:Nat} (hi:i<M.N) (hj:j<M.N),R i j→M.ofR r i=M.ofR r j
 |0,i,j,hi,hj,h=>(of0_iff hi hj).2 (hR.good i j hi hj h)
 |r+1,i,j,hi,hj,h=>(ofR_iff hM r hi hj).2 ⟨ofR_coarse hM hR r hi hj h,fun k hk=>ofR_coarse hM hR r (hM.lt _ _ hi hk) (hM.lt _ _ hj hk) (hR.next i j k hi hj hk h)⟩
structure Cls (M:Aut) (of:Nat→Nat):Prop where
 lt:∀i,i<M.N→of i<M.N
 bis:Bis M fun i j=>of i=of j
 coarse:∀R,Bis M R→∀i j,i<M.N→j<M.N→R i j→of i=of j
theorem cls_done (hM:M.Ok) {r:Nat} (h:M.cntR (r+1)=M.cntR r):Cls M (M.ofR (r+1)):=by
 refine⟨fun i a=>Nat.lt_of_le_of_lt (cls_lt _ _) a,⟨fun i j a b e=>ofR_good hM _ a b e,fun i j k a b c e=>?_⟩,fun R d i j a b e=>ofR_coarse hM d _ a b e⟩;exact ofR_stay hM h (hM.lt _ _ a c) (hM.lt _ _ b c) (((ofR_iff hM r a b).1 e).2 k c)
def visit (of:Nat→Nat) (l:List Nat) (x:Nat):List Nat:=if of x∈l.map of then l else l++ [x]
def scan (M:Aut) (of:Nat→Nat) (l:List Nat) (s:Nat):Nat→List Nat
 |0=>l
 |k+1=>visit of (scan M of l s k) (M.nxt s k)
def metF (M:Aut) (of:Nat→Nat):Nat→List Nat
 |0=>[0]
 |i+1=>match(metF M of i)[i]? with
  |some s=>scan M of (metF M of i) s M.n
  |none=>metF M of i
inductive Reach (M:Aut):Nat→Prop
 |zero:Reach M 0
 |next {i k:Nat}:Reach M i→k<M.n→Reach M (M.nxt i k)
structure Mid (M:Aut) (of:Nat→Nat) (l:List Nat):Prop where
 nodup:(l.map of).Nodup
 lt:∀x∈l,x<M.N
 reach:∀x∈l,Reach M x
 zero:l[0]? =some 0
theorem visit_pre (of:Nat→Nat) (l:List Nat) (x:Nat):l<+:visit of l x:=by
 unfold visit;split
 ·exact List.prefix_refl _
 ·exact List.prefix_append _ _
theorem visit_in (of:Nat→Nat) (l:List Nat) (x:Nat):of x∈(visit of l x).map of:=by
 unfold visit;split
 ·assumption
 ·simp
theorem Mid.visit {of:Nat→Nat} {l:List Nat} (h:Mid M of l) {x:Nat} (hx:x<M.N) (hr:Reach M x):Mid M of (visit of l x):=by
 unfold Aut.visit;split
 ·exact h
 ·next hn=>
  refine⟨?_,?_,?_,?_⟩
  ·rw [List.map_append,List.nodup_append];refine⟨h.nodup,by simp,?_⟩;intro a f b d e;simp at d;subst d;subst e;exact hn f
  ·intro y c;rcases List.mem_append.1 c with c |c
   ·exact h.lt y c
   ·rw [List.mem_singleton.1 c];exact hx
  ·intro y c;rcases List.mem_append.1 c with c |c
   ·exact h.reach y c
   ·rw [List.mem_singleton.1 c];exact hr
  ·have:=h.zero;have g:=(List.getElem?_eq_some_iff.1 this).1;rw [List.getElem?_append_left g];exact this
theorem scan_pre (of:Nat→Nat) (l:List Nat) (s:Nat):∀k,l<+:scan M of l s k
 |0=>List.prefix_refl _
 |k+1=>(scan_pre of l s k).trans (visit_pre _ _ _)
theorem scan_mono (of:Nat→Nat) (l:List Nat) (s k:Nat):∀d,scan M of l s k<+:scan M of l s (k+d)
 |0=>List.prefix_refl _
 |d+1=>(scan_mono of l s k d).trans (visit_pre _ _ _)
theorem pre_map {of:Nat→Nat} {l m:List Nat} (h:l<+:m) {x:Nat} (hx:x∈l.map of):x∈m.map of:=by
 obtain⟨t,rfl⟩:=h;rw [List.map_append];exact List.mem_append_left _ hx
theorem scan_hit (of:Nat→Nat) (l:List Nat) (s:Nat) {k n:Nat} (hk:k<n):of (M.nxt s k)∈(scan M of l s n).map of:=by
 have:=scan_mono (M:=M) of l s (k+1) (n- (k+1));rw [show k+1+(n- (k+1))=n by omega]at this;exact pre_map this (visit_in of _ _)
theorem Mid.scan (hM:M.Ok) {of:Nat→Nat} {l:List Nat} (h:Mid M of l) {s:Nat} (hs:s∈l):∀ {k:Nat},k≤M.n→Mid M of (scan M of l s k)
 |0,_=>h
 |k+1,hk=>(Mid.scan hM h hs (k:=k) (by omega)).visit (hM.lt _ _ (h.lt s hs) (by omega)) (.next (h.reach s hs) (by omega))
theorem metF_pre (of:Nat→Nat) (i:Nat):metF M of i<+:metF M of (i+1):=by
 rw [metF];split
 ·exact scan_pre _ _ _ _
 ·exact List.prefix_refl _
theorem metF_mid (hM:M.Ok) (of:Nat→Nat):∀i,Mid M of (metF M of i)
 |0=>⟨by simp [metF],by intro x hx;simp [metF]at hx;subst hx;exact hM.pos,by intro x hx;simp [metF]at hx;subst hx;exact .zero,rfl⟩
 |i+1=>by
  rw [metF];split
  ·next s hs=>exact(metF_mid hM of i).scan hM (List.mem_of_getElem? hs) (XV _)
  ·exact metF_mid hM of i
theorem metF_in (of:Nat→Nat):∀ {i j s:Nat},j<i→(metF M of i)[j]? =some s→∀ {k},k<M.n→of (M.nxt s k)∈(metF M of i).map of
 |0,_,_,h,_,_,_=>absurd h (Nat.not_lt_zero _)
 |i+1,j,s,hj,hs,k,hk=>by
  by_cases e:j< (metF M of i).length
  ·have hs':(metF M of i)[j]? =some s:=by
    obtain⟨t,b⟩:=metF_pre (M:=M) of i;rw [←b,List.getElem?_append_left e]at hs;exact hs
   by_cases ej:j=i
   ·subst ej;rw [metF,hs'];exact scan_hit of _ _ hk
   ·exact pre_map (metF_pre of i) (metF_in of (by omega) hs' hk)
  ·have a:(metF M of i)[i]? =none:=List.getElem?_eq_none_iff.2 (by omega);have:metF M of (i+1)=metF M of i:=by rw [metF,a]
   rw [this]at hs;have:=(List.getElem?_eq_some_iff.1 hs).1;omega
theorem metF_end (of:Nat→Nat) {i:Nat} (h:(metF M of i).length≤i):∀d,metF M of (i+d)=metF M of i
 |0=>rfl
 |d+1=>by
  have ih:=metF_end of h d;rw [←Nat.add_assoc,metF,ih,List.getElem?_eq_none_iff.2 (by omega)]
end Aut
theorem BA {α:Type} [DecidableEq α]:∀ {l m:List α},l.Nodup→(∀x∈l,x∈m)→l.length≤m.length
 | [],_,_,_=>Nat.zero_le _
 |x::l,m,h,hs=>by
  have hx:=hs x List.mem_cons_self;have h':=List.nodup_cons.1 h;have:=BA (l:=l) (m:=m.erase x) h'.2 fun y hy=>by
   have:y≠x:=fun e=>h'.1 (e▸hy);exact(List.mem_erase_of_ne this).2 (hs y (List.mem_cons_of_mem _ hy))
  rw [List.length_erase_of_mem hx]at this;have:=List.length_pos_of_mem hx;rw [List.length_cons];omega
namespace Aut
variable {M:Aut}
def metL (M:Aut) (of:Nat→Nat):List Nat:=metF M of M.N
theorem met_few (hM:M.Ok) {of:Nat→Nat} (h:∀i,i<M.N→of i<M.N) (i:Nat):(metF M of i).length≤M.N:=by
 have m:=metF_mid hM of i;have:=BA (m:=List.range M.N) m.nodup fun x a=>by
  obtain⟨y,b,rfl⟩:=List.mem_map.1 a;exact List.mem_range.2 (h y (m.lt y b))
 simpa using this
theorem met_done (hM:M.Ok) {of:Nat→Nat} (h:∀i,i<M.N→of i<M.N) {i:Nat} (hi:(metF M of i).length≤i):metF M of i=metL M of:=by
 unfold metL;by_cases e:i≤M.N
 ·have:=metF_end (M:=M) of hi (M.N-i);rw [show i+(M.N-i)=M.N by omega]at this;exact this.symm
 ·have:=metF_end (M:=M) of (met_few hM h M.N) (i-M.N);rw [show M.N+(i-M.N)=i by omega]at this;exact this
theorem met_mid (hM:M.Ok) (of:Nat→Nat):Mid M of (metL M of):=metF_mid hM of _
theorem met_in (hM:M.Ok) {of:Nat→Nat} (h:∀i,i<M.N→of i<M.N) {j s:Nat} (hs:(metL M of)[j]? =some s) {k:Nat} (hk:k<M.n):of (M.nxt s k)∈(metL M of).map of:=by
 have:=met_few hM h M.N;have a:=(List.getElem?_eq_some_iff.1 hs).1;exact metF_in of (by unfold metL at a;omega) hs hk
theorem met_pos (hM:M.Ok) (of:Nat→Nat):0< (metL M of).length:=(List.getElem?_eq_some_iff.1 (met_mid hM of).zero).1
def least (M:Aut) (of:Nat→Nat):Aut where
 N:=(metL M of).length
 n:=M.n
 nxt p k:=((metL M of).map of).idxOf (of (M.nxt ((metL M of).getD p 0) k))
 good p:=M.good ((metL M of).getD p 0)
theorem getD_at {l:List Nat} {p:Nat} (hp:p<l.length):l.getD p 0=l[p]:=by simp [List.getD,hp]
theorem least_ok (hM:M.Ok) {of:Nat→Nat} (h:∀i,i<M.N→of i<M.N):(least M of).Ok:=by
 refine⟨fun p k a b=>?_,met_pos hM of,XW (met_few hM h _) hM.few⟩;change p< (metL M of).length at a;change k<M.n at b;show((metL M of).map of).idxOf _< (metL M of).length;rw [getD_at a];have:=List.idxOf_lt_length_of_mem (met_in hM h (XK a) b);rwa [List.length_map]at this
theorem least_at (hM:M.Ok) {of:Nat→Nat} (h:∀i,i<M.N→of i<M.N) {p k:Nat} (hp:p< (least M of).N) (hk:k<M.n):of ((metL M of).getD ((least M of).nxt p k) 0)=of (M.nxt ((metL M of).getD p 0) k):=by
 have a:=(least_ok hM h).lt p k hp hk;change p< (metL M of).length at hp;have b:=met_in hM h (XK hp) hk;rw [getD_at a];have e:((metL M of).map of)[((metL M of).map of).idxOf (of (M.nxt (metL M of)[p] k))]'(List.idxOf_lt_length_of_mem b)=of (M.nxt (metL M of)[p] k):=List.getElem_idxOf _;rw [List.getElem_map]at e;show of ((metL M of)[((metL M of).map of).idxOf (of (M.nxt ((metL M of).getD p 0) k))])=_;simp only [getD_at hp];exact e
structure Sim (M:Aut) (of:Nat→Nat) (x p:Nat):Prop where
 hx:x<M.N
 hp:p< (least M of).N
 e:of x=of ((metL M of).getD p 0)
theorem getD_lt (hM:M.Ok) (of:Nat→Nat) {p:Nat} (hp:p< (metL M of).length):(metL M of).getD p 0<M.N:=by
 rw [getD_at hp];exact(met_mid hM of).lt _ (List.getElem_mem hp)
theorem Sim.good {of:Nat→Nat} {x p:Nat} (h:Sim M of x p) (hM:M.Ok) (hc:Cls M of):(least M of).good p=M.good x:=(hc.bis.good _ _ h.hx (getD_lt hM of h.hp) h.e).symm
theorem Sim.next {of:Nat→Nat} {x p:Nat} (h:Sim M of x p) (hM:M.Ok) (hc:Cls M of) {k:Nat} (hk:k<M.n):Sim M of (M.nxt x k) ((least M of).nxt p k):=
 ⟨hM.lt _ _ h.hx hk,(least_ok hM hc.lt).lt _ _ h.hp hk,by rw [least_at hM hc.lt h.hp hk];exact hc.bis.next _ _ _ h.hx (getD_lt hM of h.hp) hk h.e⟩
theorem Sim.zero (hM:M.Ok) (of:Nat→Nat):Sim M of 0 0:=⟨hM.pos,met_pos hM of,by
 have:=(met_mid hM of).zero;rw [List.getD,this];rfl⟩
end Aut
def tX (n:Nat) (al:Nat→Bool) (rel:Nat→Nat→Bool) (i k:Nat):Bool:=if i=0 then al k else if i≤n then rel (i-1) k else false
def Ge (n:Nat) (al:Nat→Bool) (rel:Nat→Nat→Bool):Aut where
 N:=n+2
 n:=n
 nxt i k:=if tX n al rel i k then k+1 else n+1
 good i:=decide (i≤n)
section
variable {n:Nat} {al:Nat→Bool} {rel:Nat→Nat→Bool}
open Aut
theorem FQ (hn:n≤50000):(Ge n al rel).Ok:=⟨fun i k hi hk=>by
 change i<n+2 at hi;change k<n at hk;show(if tX n al rel i k then k+1 else n+1) <n+2;split<;>omega,by show 0<n+2;omega,by show n+2≤60000;omega⟩
end
def SB (a:OA) (b:Int) (w:World) (R:RW):Prop:=
 Zv w #[pointer a] 42 fun c=>
 Zt c (nb w) fun d=>
 CP 63 #[pointer d] c (fun f g=>
 Zx f fun h=>
 Zt g (nb w) fun i=>
 ac (Option.isNone i)
 (R (tuple #[pointer none,int .i64 1]) g)
 (Ar .i64 (h+2) (fun j=>
 Ar .i64 (j*h) (fun k=>
 ac (decide (k>b))
 (R (tuple #[pointer none,int .i64 5]) g)
 (Zt g (nb w) fun l=>
 Zv g #[pointer l,slice none 0 0,slice none 0 0,int .u32 0,int .i32 0,int .u32 0,slice none 0 0] 133 fun m=>
 Ar .i64 (h+1) (fun n=>
 Zv m #[Value.nilFunc] 135 fun o=>
 (func (.func 64) #[] #[pointer (some (nb w))]).oneCell'=true∧(∃u,o.cell? (nb m)=some u)∧o.frozen? (nb m)=false∧
 ∀p,p=(o.setCell (nb m) (func (.func 64) #[] #[pointer (some (nb w))]))→
 ∀q,q=p.drew→
 Zl q ((nb g).add 1) fun r s t=>
 CP 66 #[int .i64 h,int .i64 n,func (.func 67) #[] #[pointer (some (nb w)),pointer (some (nb m))]] q (fun x y=>
 Zr x fun z a1 b1=>
 (y.cell? ((nb g).add 1)=some (slice r s t)∧True)∧
 Zv y #[slice z a1 b1] 28 fun c1=>
 (c1.cell? ((nb g).add 1)=some (slice r s t)∧True)∧
 Zh 116 #[slice r s t,slice (some (nb y)) 1 1] c1 fun d1 e1 f1 g1=>
 Zu g1 ((nb g).add 1) (slice d1 e1 f1) fun h1=>
 ∀i1:KW,(∀(j1:Int) (k1:World),(ac (decide (j1<h))
 (∀l1,l1=k1.drew→
 Zt l1 (nb w) fun m1=>
 ∃n1,l1.cell? (nb m)=some (n1)∧
 (bM gq n1 [int .i64 j1] l1 (fun o1 p1=>
 Zx o1 fun q1=>
 (p1.cell? (nb w)=some (pointer m1)∧True)∧
 (CP 69 #[pointer m1,int .i64 q1] p1 (fun r1 s1=>
 Zr r1 fun t1 u1 v1=>
 Zv s1 #[slice none 0 0] 110 fun x1=>
 Zu x1 (nb s1) (slice t1 u1 v1) fun y1=>
 ∀z1,z1=y1.drew→
 Zl z1 ((nb g).add 1) fun a2 b2 c2=>
 CP 66 #[int .i64 h,int .i64 n,func (.func 70) #[] #[pointer (some (nb s1))]] z1 (fun d2 e2=>
 Zr d2 fun f2 g2 h2=>
 (e2.cell? ((nb g).add 1)=some (slice a2 b2 c2)∧True)∧
 Zv e2 #[slice f2 g2 h2] 28 fun i2=>
 (i2.cell? ((nb g).add 1)=some (slice a2 b2 c2)∧True)∧
 Zh 116 #[slice a2 b2 c2,slice (some (nb e2)) 1 1] i2 fun j2 k2 l2 m2=>
 Zu m2 ((nb g).add 1) (slice j2 k2 l2) fun n2=>
 Ar .i64 (j1+1) (fun o2=>
 i1 [int .i64 o2] n2))))∧
 (Zv p1 #[slice none 0 0] 110 fun p2=>
 (p2.cell? (nb w)=some (pointer m1)∧True)∧
 CP 69 #[pointer m1,int .i64 q1] p2 (fun q2 r2=>
 Zr q2 fun s2 t2 u2=>
 Zu r2 (nb p1) (slice s2 t2 u2) fun v2=>
 ∀x2,x2=v2.drew→
 Zl x2 ((nb g).add 1) fun y2 z2 a3=>
 CP 66 #[int .i64 h,int .i64 n,func (.func 70) #[] #[pointer (some (nb p1))]] x2 (fun b3 c3=>
 Zr b3 fun d3 e3 f3=>
 (c3.cell? ((nb g).add 1)=some (slice y2 z2 a3)∧True)∧
 Zv c3 #[slice d3 e3 f3] 28 fun g3=>
 (g3.cell? ((nb g).add 1)=some (slice y2 z2 a3)∧True)∧
 Zh 116 #[slice y2 z2 a3,slice (some (nb c3)) 1 1] g3 fun h3 i3 j3 k3=>
 Zu k3 ((nb g).add 1) (slice h3 i3 j3) fun l3=>
 Ar .i64 (j1+1) (fun m3=>
 i1 [int .i64 m3] l3))))))∧
 (Zv l1 #[slice none 0 0] 110 fun n3=>
 (n3.cell? (nb m)=some (n1)∧True)∧
 (n3.cell? (nb w)=some (pointer m1)∧True)∧
 bM gq n1 [int .i64 j1] n3 (fun o3 p3=>
 Zx o3 fun q3=>
 (p3.cell? (nb w)=some (pointer m1)∧True)∧
 CP 69 #[pointer m1,int .i64 q3] p3 (fun r3 s3=>
 Zr r3 fun t3 u3 v3=>
 Zu s3 (nb l1) (slice t3 u3 v3) fun x3=>
 ∀y3,y3=x3.drew→
 Zl y3 ((nb g).add 1) fun z3 a4 b4=>
 CP 66 #[int .i64 h,int .i64 n,func (.func 70) #[] #[pointer (some (nb l1))]] y3 (fun c4 d4=>
 Zr c4 fun e4 f4 g4=>
 (d4.cell? ((nb g).add 1)=some (slice z3 a4 b4)∧True)∧
 Zv d4 #[slice e4 f4 g4] 28 fun h4=>
 (h4.cell? ((nb g).add 1)=some (slice z3 a4 b4)∧True)∧
 Zh 116 #[slice z3 a4 b4,slice (some (nb d4)) 1 1] h4 fun i4 j4 k4 l4=>
 Zu l4 ((nb g).add 1) (slice i4 j4 k4) fun m4=>
 Ar .i64 (j1+1) (fun n4=>
 i1 [int .i64 n4] m4))))))
 (∀o4,o4=k1.drew→
 Zl o4 ((nb g).add 1) fun p4 q4 r4=>
 CP 66 #[int .i64 h,int .i64 n,func (.func 71) #[] #[]] o4 (fun s4 t4=>
 Zr s4 fun u4 v4 x4=>
 (t4.cell? ((nb g).add 1)=some (slice p4 q4 r4)∧True)∧
 Zv t4 #[slice u4 v4 x4] 28 fun y4=>
 (y4.cell? ((nb g).add 1)=some (slice p4 q4 r4)∧True)∧
 Zh 116 #[slice p4 q4 r4,slice (some (nb t4)) 1 1] y4 fun z4 a5 b5 c5=>
 Zu c5 ((nb g).add 1) (slice z4 a5 b5) fun d5=>
 Zv d5 #[bool true] 4 fun e5=>
 Ar .i64 (h+2) (fun f5=>
 CP 72 #[slice (some (nb d5)) 1 1,int .i64 f5] e5 (fun g5 h5=>
 Zr g5 fun i5 j5 k5=>
 Zu h5 ((nb g).add 2) (slice i5 j5 k5) fun l5=>
 Zl l5 ((nb g).add 2) fun m5 n5 o5=>
 Zm m5 n n5 (fun p5=>
 Zu l5 (p5.add (n.toNat*1)) (bool false) fun q5=>
 R (tuple #[pointer (some (nb g)),int .i64 0]) q5))))))→i1 [int .i64 j1] k1)→
 i1 [int .i64 0] h1)))))))
theorem DC (a:OA) (b:Int) (w:World) (R:RW) (hh:SB a b w R):CR 15 #[pointer a,int .i64 b] w R:=by refine aH (fn:=Tryz.f15) ?_ ?_ ?_ ?_ ?_ hh<;>kernel_rfl
def TP (a:OA) (w:World) (R:RW):Prop:=
 ac (Option.isNone a)
 (R (pointer none) w)
 (CP 73 #[pointer a] w (fun b c=>
 Zr b fun d f g=>
 Zv c #[slice none 0 0] 28 fun h=>
 Zu h (nb c) (slice d f g) fun i=>
 CP 74 #[pointer a,func (.func 75) #[] #[pointer (some (nb c))]] i (fun j k=>
 ∃l m n o,j= .returned (tuple #[slice l m n,map o])∧
 ag a (fun p=>
 Zt k (p.add 0) fun q=>
 Zv k #[pointer q,slice none 0 0,slice none 0 0,int .u32 0,int .i32 0,int .u32 0,slice none 0 0] 133 fun r=>
 ∀s:KW,(∀(t:Int) (x:World),(ac (decide (t< (m:Int)))
 (Zm l t m (fun y=>
 Zs x (y.add (t.toNat*1)) fun z=>
 ag a (fun a1=>
 Zl x (a1.add 1) fun b1 c1 d1=>
 Zm b1 z c1 (fun e1=>
 Zl x (e1.add (z.toNat*1)) fun f1 g1 h1=>
 ∀i1:KW,(∀(j1:Int) (k1:OA) (l1 m1:Nat) (n1:World),(ac (decide (j1< (g1:Int)))
 (Zm f1 j1 g1 (fun o1=>
 Zs n1 (o1.add (j1.toNat*1)) fun p1=>
 Zl n1 (nb c) fun q1 r1 s1=>
 Zm q1 p1 r1 (fun t1=>
 Zs n1 (t1.add (p1.toNat*1)) fun u1=>
 ∃v1 x1,(Instr.lookup 108 (map o) (int .i64 u1) false).run Tryz.prog n1= .ok (int .i64 v1) x1∧
 Zv x1 #[int .i64 v1] 3 fun y1=>
 Zh 28 #[slice k1 l1 m1,slice (some (nb x1)) 1 1] y1 fun z1 a2 b2 c2=>
 Ar .i64 (j1+1) (fun d2=>
 i1 [int .i64 d2,slice z1 a2 b2] c2))))
 (Zl n1 ((nb k).add 1) fun e2 f2 g2=>
 Zv n1 #[slice k1 l1 m1] 28 fun h2=>
 Zh 116 #[slice e2 f2 g2,slice (some (nb n1)) 1 1] h2 fun i2 j2 k2 l2=>
 Zu l2 ((nb k).add 1) (slice i2 j2 k2) fun m2=>
 ∀n2,n2=m2.drew→
 Zl n2 ((nb k).add 2) fun o2 p2 q2=>
 ag a (fun r2=>
 Zl n2 (r2.add 2) fun s2 t2 u2=>
 Zm s2 z t2 (fun v2=>
 Zk n2 (v2.add (z.toNat*1)) fun x2=>
 Zv n2 #[bool x2] 4 fun y2=>
 (y2.cell? ((nb k).add 2)=some (slice o2 p2 q2)∧True)∧
 Zh 117 #[slice o2 p2 q2,slice (some (nb n2)) 1 1] y2 fun z2 a3 b3 c3=>
 Zu c3 ((nb k).add 2) (slice z2 a3 b3) fun d3=>
 Ar .i64 (t+1) (fun e3=>
 s [int .i64 e3] d3)))))→i1 [int .i64 j1,slice k1 l1 m1] n1)→
 i1 [int .i64 0,slice none 0 0] x))))
 (R (pointer (some (nb k))) x))→s [int .i64 t] x)→
 s [int .i64 0] r))))
theorem DH (a:OA) (w:World) (R:RW) (hh:TP a w R):CR 16 #[pointer a] w R:=by refine aH (fn:=Tryz.f16) ?_ ?_ ?_ ?_ ?_ hh<;>kernel_rfl
def SC (a:OA) (w:World) (R:RW):Prop:=
 ac (Option.isNone a)
 (R (int .i64 0) w)
 (ag a (fun b=>
 Zl w (b.add 1) fun c d f=>
 R (int .i64 (d:Int)) w))
theorem FB (a:OA) (w:World) (R:RW) (hh:SC a w R):CR 21 #[pointer a] w R:=by refine aH (fn:=Tryz.f21) ?_ ?_ ?_ ?_ ?_ hh<;>kernel_rfl
def Tw (a:Int) (b:OA) (w:World) (R:RW):Prop:=
 ag b (fun c=>
 Zt w c fun d=>
 CP 65 #[pointer d,int .i64 a] w (fun f g=>
 Zy f fun h i=>
 R (int .i64 h) g))
theorem E2 (a:Int) (b:OA) (w:World) (R:RW) (hh:Tw a b w R):CR 64 #[int .i64 a,pointer b] w R:=by refine aH (fn:=Tryz.f64) ?_ ?_ ?_ ?_ ?_ hh<;>kernel_rfl
def S3 (a b:Int) (c:Value) (w:World) (R:RW):Prop:=
 ∃d f g h,(Instr.makeSlice 28 (int .i64 a) (int .i64 a)).run Tryz.prog w= .ok (slice d f g) h∧
 ∀i:KW,(∀(j:Int) (k:World),(ac (decide (j< (f:Int)))
 (∀l:KW,(∀m:World,(Ar .i64 (j+1) (fun n=>
 i [int .i64 n] m))→l [] m)→
 Zm d j f (fun o=>
 Zu k (o.add (j.toNat*1)) (int .i64 b) fun p=>
 bM gq c [int .i64 j] p (fun q r=>
 Zp q fun s=>
 ac s
 (Ar .i64 (j+1) (fun t=>
 Zm d j f (fun x=>
 Zu r (x.add (j.toNat*1)) (int .i64 t) fun y=>
 l [] y)))
 (l [] r))))
 (R (slice d f g) k))→i [int .i64 j] k)→
 i [int .i64 0] h
theorem FN (a b:Int) (c:Value) (w:World) (R:RW) (hh:S3 a b c w R):CR 66 #[int .i64 a,int .i64 b,c] w R:=by refine aH (fn:=Tryz.f66) ?_ ?_ ?_ ?_ ?_ hh<;>kernel_rfl
def S1 (a:Int) (b c:OA) (w:World) (R:RW):Prop:=
 ∀d,d=w.drew→
 ag b (fun f=>
 Zt d f fun g=>
 ag c (fun h=>
 ∃i,d.cell? h=some (i)∧
 bM gq i [int .i64 a] d (fun j k=>
 Zx j fun l=>
 (k.cell? f=some (pointer g)∧True)∧
 CP 68 #[pointer g,int .i64 l] k (fun m n=>
 Zp m fun o=>
 R (bool o) n))))
theorem El (a:Int) (b c:OA) (w:World) (R:RW) (hh:S1 a b c w R):CR 67 #[int .i64 a,pointer b,pointer c] w R:=by refine aH (fn:=Tryz.f67) ?_ ?_ ?_ ?_ ?_ hh<;>kernel_rfl
def Sq (a:Int) (b:OA) (w:World) (R:RW):Prop:=
 ag b (fun c=>
 Zl w c fun d f g=>
 (64:Int)≠0∧
 ag d (fun h=>
 (0:Int)≤(IntKind.wrap .i64 (Int.tdiv a 64))∧(IntKind.wrap .i64 (Int.tdiv a 64)) < (f:Int)∧
 ZV w (h.add ((IntKind.wrap .i64 (Int.tdiv a 64):Int).toNat*1)) fun i=>
 (64:Int)≠0∧
 (0:Int)≤(Int.tmod a 64)∧
 R (bool ((IntKind.wrap .u64 ((BitVec.ofInt (IntKind.bits .u64) (Int.fdiv i (2^(min (Int.tmod a 64:Int).toNat (IntKind.bits .u64))))&&&BitVec.ofInt (IntKind.bits .u64) 1).toNat:Int):Int)==1)) w))
theorem Es (a:Int) (b:OA) (w:World) (R:RW) (hh:Sq a b w R):CR 70 #[int .i64 a,pointer b] w R:=by refine aH (fn:=Tryz.f70) ?_ ?_ ?_ ?_ ?_ hh<;>kernel_rfl
def SU (a:Int) (w:World) (R:RW):Prop:=
 R (bool false) w
theorem E9 (a:Int) (w:World) (R:RW) (hh:SU a w R):CR 71 #[int .i64 a] w R:=by refine aH (fn:=Tryz.f71) ?_ ?_ ?_ ?_ ?_ hh<;>kernel_rfl
def S2 (a:OA) (b c:Nat) (d:Int) (w:World) (R:RW):Prop:=
 ∀f:KW,(∀g:World,(CP 124 #[int .u64 (IntKind.wrap .u64 (b:Int)),int .u64 (IntKind.wrap .u64 d)] g (fun h i=>
 ZT h fun j k=>
 ∀l:KW,(∀m:World,(∃n o p q,(Instr.makeSlice 117 (int .i64 (IntKind.wrap .i64 k)) (int .i64 (IntKind.wrap .i64 k))).run Tryz.prog m= .ok (slice n o p) q∧
 ∃r s,(Builtin.copy_ #[117,117] 3 #[slice n o p,slice a b c]).run Tryz.prog q= .ok (int .i64 r) s∧
 ∀t:KW,(∀(u:Int) (x:World),(ac (decide (u< (o:Int)))
 (∀y,y=x.drew→
 (0:Int)≤u∧u≤(o:Int)∧True∧True∧True∧
 (0:Int)≤(0:Int)∧(0:Int)≤u∧u≤(p:Int)∧True∧True∧
 ∃z a1,(Builtin.copy_ #[117,117] 3 #[slice (bB n u.toNat (p:Int).toNat 1) ((o:Int).toNat-u.toNat) ((p:Int).toNat-u.toNat),slice (bB n (0:Int).toNat (p:Int).toNat 1) (u.toNat- (0:Int).toNat) ((p:Int).toNat- (0:Int).toNat)]).run Tryz.prog y= .ok (int .i64 z) a1∧
 Ar .i64 (u+z) (fun b1=>
 t [int .i64 b1] a1))
 (R (slice n o p) x))→t [int .i64 u] x)→
 t [int .i64 r] s)→l [] m)→
 ac (decide (j>0))
 (False)
 (ac (decide (k>9223372036854775807))
 (False)
 (l [] i))))→f [] g)→
 ac (decide (d<0))
 (False)
 (f [] w)
theorem D5 (a:OA) (b c:Nat) (d:Int) (w:World) (R:RW) (hh:S2 a b c d w R):CR 72 #[slice a b c,int .i64 d] w R:=by refine aH (fn:=Tryz.f72) ?_ ?_ ?_ ?_ ?_ hh<;>kernel_rfl
def Tx (a:OA) (w:World) (R:RW):Prop:=
 ag a (fun b=>
 CP 107 #[pointer (some ((b.add 3).add 0)),func (.func 125) #[pointer a] #[]] w (fun c d=>
 c= .returned (tuple #[])∧
 ag a (fun f=>
 Zl d ((f.add 3).add 3) fun g h i=>
 R (slice g h i) d)))
theorem DN (a:OA) (w:World) (R:RW) (hh:Tx a w R):CR 73 #[pointer a] w R:=by refine aH (fn:=Tryz.f73) ?_ ?_ ?_ ?_ ?_ hh<;>kernel_rfl
def TJ (a:OA) (b:Value) (w:World) (R:RW):Prop:=
 Zv w #[int .i64 0] 3 fun c=>
 ∃d f,(Instr.makeMap 108 none).run Tryz.prog c= .ok (map d) f∧
 bM gq b [int .i64 0] f (fun g h=>
 Zx g fun i=>
 ∃j,(Instr.mapUpdate 108 (map d) (int .i64 i) (int .i64 0)).run Tryz.prog h= .ok () j∧
 ∀k:KW,(∀(l:Int) (m:OA) (n o:Nat) (p:World),(ac (decide (l< (n:Int)))
 (∀q,q=p.drew→
 ag a (fun r=>
 Zl q (r.add 1) fun s t u=>
 Zm m l n (fun x=>
 Zs q (x.add (l.toNat*1)) fun y=>
 Zm s y t (fun z=>
 Zl q (z.add (y.toNat*1)) fun a1 b1 c1=>
 ∀d1:KW,(∀(e1:Int) (f1:OA) (g1 h1:Nat) (i1:World),(ac (decide (e1< (b1:Int)))
 (∀j1:KW,(∀(k1:OA) (l1 m1:Nat) (n1:World),(Ar .i64 (e1+1) (fun o1=>
 d1 [int .i64 o1,slice k1 l1 m1] n1))→j1 [slice k1 l1 m1] n1)→
 Zm a1 e1 b1 (fun p1=>
 Zs i1 (p1.add (e1.toNat*1)) fun q1=>
 bM gq b [int .i64 q1] i1 (fun r1 s1=>
 Zx r1 fun t1=>
 ∃u1 v1 x1,(Instr.lookup 108 (map d) (int .i64 t1) true).run Tryz.prog s1= .ok (tuple #[int .i64 u1,bool v1]) x1∧
 ac (!v1)
 (bM gq b [int .i64 q1] x1 (fun y1 z1=>
 Zx y1 fun a2=>
 ∃b2,(Instr.mapUpdate 108 (map d) (int .i64 a2) (int .i64 (g1:Int))).run Tryz.prog z1= .ok () b2∧
 Zv b2 #[int .i64 q1] 3 fun c2=>
 Zh 28 #[slice f1 g1 h1,slice (some (nb b2)) 1 1] c2 fun d2 e2 f2 g2=>
 j1 [slice d2 e2 f2] g2))
 (j1 [slice f1 g1 h1] x1))))
 (Ar .i64 (l+1) (fun h2=>
 k [int .i64 h2,slice f1 g1 h1] i1)))→d1 [int .i64 e1,slice f1 g1 h1] i1)→
 d1 [int .i64 0,slice m n o] q))))
 (R (tuple #[slice m n o,map d]) p))→k [int .i64 l,slice m n o] p)→
 k [int .i64 0,slice (some (nb w)) 1 1] j)
theorem DF (a:OA) (b:Value) (w:World) (R:RW) (hh:TJ a b w R):CR 74 #[pointer a,b] w R:=by refine aH (fn:=Tryz.f74) ?_ ?_ ?_ ?_ ?_ hh<;>kernel_rfl
def TQ (a:Int) (b:OA) (w:World) (R:RW):Prop:=
 ag b (fun c=>
 Zl w c fun d f g=>
 Zm d a f (fun h=>
 Zs w (h.add (a.toNat*1)) fun i=>
 R (int .i64 i) w))
theorem Ef (a:Int) (b:OA) (w:World) (R:RW) (hh:TQ a b w R):CR 75 #[int .i64 a,pointer b] w R:=by refine aH (fn:=Tryz.f75) ?_ ?_ ?_ ?_ ?_ hh<;>kernel_rfl
def S7 (a:OA) (b c:Int) (w:World) (R:RW):Prop:=
 CP 77 #[pointer a,int .i64 b] w (fun d f=>
 Zp d fun g=>
 ac (!g)
 (R (tuple #[int .i64 0,bool false]) f)
 (ag a (fun h=>
 Zt f (h.add 0) fun i=>
 CP 122 #[pointer i,int .i64 c] f (fun j k=>
 Zy j fun l m=>
 ac (!m)
 (R (tuple #[int .i64 0,bool false]) k)
 (ag a (fun n=>
 Zl k (n.add 1) fun o p q=>
 Zm o b p (fun r=>
 Zl k (r.add (b.toNat*1)) fun s t u=>
 Zm s l t (fun x=>
 Zs k (x.add (l.toNat*1)) fun y=>
 R (tuple #[int .i64 y,bool true]) k))))))))
theorem Eo (a:OA) (b c:Int) (w:World) (R:RW) (hh:S7 a b c w R):CR 76 #[pointer a,int .i64 b,int .i64 c] w R:=by refine aH (fn:=Tryz.f76) ?_ ?_ ?_ ?_ ?_ hh<;>kernel_rfl
def SG (a:OA) (b:Int) (w:World) (R:RW):Prop:=
 ac (decide (b≥0))
 (CP 21 #[pointer a] w (fun c d=>
 Zx c fun f=>
 R (bool (decide (b<f))) d))
 (R (bool false) w)
theorem DM (a:OA) (b:Int) (w:World) (R:RW) (hh:SG a b w R):CR 77 #[pointer a,int .i64 b] w R:=by refine aH (fn:=Tryz.f77) ?_ ?_ ?_ ?_ ?_ hh<;>kernel_rfl
def O5 (a b:Int) (w:World) (R:RW):Prop:=
 CP 179 #[int .u64 a,int .u64 b] w (fun c d=>
 ZT c fun f g=>
 R (tuple #[int .u64 f,int .u64 g]) d)
theorem AH (a b:Int) (w:World) (R:RW) (hh:O5 a b w R):CR 124 #[int .u64 a,int .u64 b] w R:=by refine aH (fn:=Tryz.f124) ?_ ?_ ?_ ?_ ?_ hh<;>kernel_rfl
def Sc (a:OA) (w:World) (R:RW):Prop:=
 Zv w #[pointer a] 46 fun b=>
 Zt b (nb w) fun c=>
 CP 21 #[pointer c] b (fun d f=>
 Zx d fun g=>
 CP 180 #[int .i64 g,func (.func 181) #[] #[pointer (some (nb w))]] f (fun h i=>
 ZS h fun j k l m=>
 Zv i #[slice none 0 0] 28 fun n=>
 Zu n (nb i) (slice j k l) fun o=>
 ∀p:KW,(∀(q:Int) (r:World),(Zt r (nb w) fun s=>
 CP 21 #[pointer s] r (fun t x=>
 Zx t fun y=>
 CP 182 #[int .i64 y,func (.func 183) #[] #[pointer (some (nb i)),pointer (some (nb w))]] x (fun z a1=>
 ZS z fun b1 c1 d1 e1=>
 Zu a1 (nb i) (slice b1 c1 d1) fun f1=>
 ac (e1==q)
 (Zt f1 (nb w) fun g1=>
 Zl f1 (nb i) fun h1 i1 j1=>
 ag g1 (fun k1=>
 Zu f1 ((k1.add 3).add 3) (slice h1 i1 j1) fun l1=>
 R (tuple #[]) l1))
 (p [int .i64 e1] f1))))→p [int .i64 q] r)→
 p [int .i64 m] o))
theorem BZ (a:OA) (w:World) (R:RW) (hh:Sc a w R):CR 125 #[pointer a] w R:=by refine aH (fn:=Tryz.f125) ?_ ?_ ?_ ?_ ?_ hh<;>kernel_rfl
def MW (a b:Int) (w:World) (R:RW):Prop:=
 (0:Int)≤32∧
 (0:Int)≤32∧
 Ar .u64 ((IntKind.wrap .u64 ((BitVec.ofInt (IntKind.bits .u64) a&&&BitVec.ofInt (IntKind.bits .u64) 4294967295).toNat:Int):Int)*(IntKind.wrap .u64 ((BitVec.ofInt (IntKind.bits .u64) b&&&BitVec.ofInt (IntKind.bits .u64) 4294967295).toNat:Int))) (fun c=>
 Ar .u64 ((Int.fdiv a (2^(min (32:Int).toNat (IntKind.bits .u64))):Int)*(IntKind.wrap .u64 ((BitVec.ofInt (IntKind.bits .u64) b&&&BitVec.ofInt (IntKind.bits .u64) 4294967295).toNat:Int))) (fun d=>
 (0:Int)≤32∧
 Ar .u64 (d+(Int.fdiv c (2^(min (32:Int).toNat (IntKind.bits .u64))))) (fun f=>
 (0:Int)≤32∧
 Ar .u64 ((IntKind.wrap .u64 ((BitVec.ofInt (IntKind.bits .u64) a&&&BitVec.ofInt (IntKind.bits .u64) 4294967295).toNat:Int):Int)*(Int.fdiv b (2^(min (32:Int).toNat (IntKind.bits .u64))))) (fun g=>
 Ar .u64 ((IntKind.wrap .u64 ((BitVec.ofInt (IntKind.bits .u64) f&&&BitVec.ofInt (IntKind.bits .u64) 4294967295).toNat:Int):Int)+g) (fun h=>
 Ar .u64 ((Int.fdiv a (2^(min (32:Int).toNat (IntKind.bits .u64))):Int)*(Int.fdiv b (2^(min (32:Int).toNat (IntKind.bits .u64))))) (fun i=>
 Ar .u64 (i+(Int.fdiv f (2^(min (32:Int).toNat (IntKind.bits .u64))))) (fun j=>
 (0:Int)≤32∧
 Ar .u64 (j+(Int.fdiv h (2^(min (32:Int).toNat (IntKind.bits .u64))))) (fun k=>
 Ar .u64 (a*b) (fun l=>
 R (tuple #[int .u64 k,int .u64 l]) w)))))))))
theorem Ac (a b:Int) (w:World) (R:RW) (hh:MW a b w R):CR 179 #[int .u64 a,int .u64 b] w R:=by refine aH (fn:=Tryz.f179) ?_ ?_ ?_ ?_ ?_ hh<;>kernel_rfl
def Pb (a:Int) (b:Value) (w:World) (R:RW):Prop:=
 ∃c d,(Instr.makeMap 317 none).run Tryz.prog w= .ok (map c) d∧
 ∃f g h i,(Instr.makeSlice 28 (int .i64 a) (int .i64 a)).run Tryz.prog d= .ok (slice f g h) i∧
 ∀j:KW,(∀(k:Int) (l:World),(ac (decide (k<a))
 (bM gq b [int .i64 k] l (fun m n=>
 Zp m fun o=>
 ∃p q r,(Instr.lookup 317 (map c) (bool o) true).run Tryz.prog n= .ok (tuple #[int .i64 p,bool q]) r∧
 ∀s:KW,(∀(t:Int) (x:World),(Zm f k g (fun y=>
 Zu x (y.add (k.toNat*1)) (int .i64 t) fun z=>
 Ar .i64 (k+1) (fun a1=>
 j [int .i64 a1] z)))→s [int .i64 t] x)→
 ac (!q)
 (∃b1 c1,(Builtin.len_ #[317] 3 #[map c]).run Tryz.prog r= .ok (int .i64 b1) c1∧
 ∃d1,(Instr.mapUpdate 317 (map c) (bool o) (int .i64 b1)).run Tryz.prog c1= .ok () d1∧
 s [int .i64 b1] d1)
 (s [int .i64 p] r)))
 (∃e1 f1,(Builtin.len_ #[317] 3 #[map c]).run Tryz.prog l= .ok (int .i64 e1) f1∧
 R (tuple #[slice f g h,int .i64 e1]) f1))→j [int .i64 k] l)→
 j [int .i64 0] i
theorem B2 (a:Int) (b:Value) (w:World) (R:RW) (hh:Pb a b w R):CR 180 #[int .i64 a,b] w R:=by refine aH (fn:=Tryz.f180) ?_ ?_ ?_ ?_ ?_ hh<;>kernel_rfl
def Ph (a:Int) (b:OA) (w:World) (R:RW):Prop:=
 ag b (fun c=>
 Zt w c fun d=>
 ag d (fun f=>
 Zl w (f.add 2) fun g h i=>
 Zm g a h (fun j=>
 Zk w (j.add (a.toNat*1)) fun k=>
 R (bool k) w)))
theorem BW (a:Int) (b:OA) (w:World) (R:RW) (hh:Ph a b w R):CR 181 #[int .i64 a,pointer b] w R:=by refine aH (fn:=Tryz.f181) ?_ ?_ ?_ ?_ ?_ hh<;>kernel_rfl
def Pw (a:Int) (b:Value) (w:World) (R:RW):Prop:=
 ∃c d,(Instr.makeMap 205 none).run Tryz.prog w= .ok (map c) d∧
 ∃f g h i,(Instr.makeSlice 28 (int .i64 a) (int .i64 a)).run Tryz.prog d= .ok (slice f g h) i∧
 ∀j:KW,(∀(k:Int) (l:World),(ac (decide (k<a))
 (bM gq b [int .i64 k] l (fun m n=>
 ZU m fun o=>
 ∃p q r,(Instr.lookup 205 (map c) (string o) true).run Tryz.prog n= .ok (tuple #[int .i64 p,bool q]) r∧
 ∀s:KW,(∀(t:Int) (x:World),(Zm f k g (fun y=>
 Zu x (y.add (k.toNat*1)) (int .i64 t) fun z=>
 Ar .i64 (k+1) (fun a1=>
 j [int .i64 a1] z)))→s [int .i64 t] x)→
 ac (!q)
 (∃b1 c1,(Builtin.len_ #[205] 3 #[map c]).run Tryz.prog r= .ok (int .i64 b1) c1∧
 ∃d1,(Instr.mapUpdate 205 (map c) (string o) (int .i64 b1)).run Tryz.prog c1= .ok () d1∧
 s [int .i64 b1] d1)
 (s [int .i64 p] r)))
 (∃e1 f1,(Builtin.len_ #[205] 3 #[map c]).run Tryz.prog l= .ok (int .i64 e1) f1∧
 R (tuple #[slice f g h,int .i64 e1]) f1))→j [int .i64 k] l)→
 j [int .i64 0] i
theorem BL (a:Int) (b:Value) (w:World) (R:RW) (hh:Pw a b w R):CR 182 #[int .i64 a,b] w R:=by refine aH (fn:=Tryz.f182) ?_ ?_ ?_ ?_ ?_ hh<;>kernel_rfl
def PB (a:Int) (b c:OA) (w:World) (R:RW):Prop:=
 ∀d,d=w.drew→
 ag b (fun f=>
 Zl d f fun g h i=>
 Zm g a h (fun j=>
 Zs d (j.add (a.toNat*1)) fun k=>
 ag c (fun l=>
 Zt d l fun m=>
 ag m (fun n=>
 Zl d (n.add 1) fun o p q=>
 Zm o a p (fun r=>
 Zl d (r.add (a.toNat*1)) fun s t u=>
 ag b (fun x=>
 Zl d x fun y z a1=>
 CP 184 #[int .i64 k,slice s t u,slice y z a1] d (fun b1 c1=>
 ZU b1 fun d1=>
 R (string d1) c1)))))))
theorem AV (a:Int) (b c:OA) (w:World) (R:RW) (hh:PB a b c w R):CR 183 #[int .i64 a,pointer b,pointer c] w R:=by refine aH (fn:=Tryz.f183) ?_ ?_ ?_ ?_ ?_ hh<;>kernel_rfl
def Rk (a:Int) (b:OA) (c d:Nat) (f:OA) (g h:Nat) (w:World) (R:RW):Prop:=
 Ar .i64 ((2:Int)*(c:Int)) (fun i=>
 Ar .i64 (i+2) (fun j=>
 ∃k l m n,(Instr.makeSlice 57 (int .i64 0) (int .i64 j)).run Tryz.prog w= .ok (slice k l m) n∧
 (0:Int)≤8∧
 Zv n #[int .u8 (IntKind.wrap .u8 a),int .u8 (IntKind.wrap .u8 (Int.fdiv a (2^(min (8:Int).toNat (IntKind.bits .i64)))))] 5 fun o=>
 Zh 57 #[slice k l m,slice (some (nb n)) 2 2] o fun p q r s=>
 ∀t:KW,(∀(u:Int) (x:OA) (y z:Nat) (a1:World),(ac (decide (u< (c:Int)))
 (Zm b u c (fun b1=>
 Zs a1 (b1.add (u.toNat*1)) fun c1=>
 ∀d1,d1=a1.drew→
 Zm f c1 g (fun e1=>
 Zs d1 (e1.add (c1.toNat*1)) fun f1=>
 Zm f c1 g (fun g1=>
 Zs d1 (g1.add (c1.toNat*1)) fun h1=>
 (0:Int)≤8∧
 Zv d1 #[int .u8 (IntKind.wrap .u8 f1),int .u8 (IntKind.wrap .u8 (Int.fdiv h1 (2^(min (8:Int).toNat (IntKind.bits .i64)))))] 5 fun i1=>
 Zh 57 #[slice x y z,slice (some (nb d1)) 2 2] i1 fun j1 k1 l1 m1=>
 Ar .i64 (u+1) (fun n1=>
 t [int .i64 n1,slice j1 k1 l1] m1)))))
 (∃o1 p1,(convert 57 9 (slice x y z)).run Tryz.prog a1= .ok (string o1) p1∧
 R (string o1) p1))→t [int .i64 u,slice x y z] a1)→
 t [int .i64 0,slice p q r] s))
theorem xX (a:Int) (b:OA) (c d:Nat) (f:OA) (g h:Nat) (w:World) (R:RW) (hh:Rk a b c d f g h w R):CR 184 #[int .i64 a,slice b c d,slice f g h] w R:=by refine aH (fn:=Tryz.f184) ?_ ?_ ?_ ?_ ?_ hh<;>kernel_rfl
def RR (a b:OA) (c d:Nat) (w:World) (R:RW):Prop:=
 ∀f:KW,(∀(g h:Int) (i:Bool) (j:Int) (k:World),(ac (decide (g< (c:Int)))
 (Zm b g c (fun l=>
 Zs k (l.add (g.toNat*1)) fun m=>
 CP 76 #[pointer a,int .i64 h,int .i64 m] k (fun n o=>
 Zy n fun p q=>
 ac (!q)
 (R (tuple #[int .i64 g,bool true]) o)
 (ag a (fun r=>
 Zl o (r.add 2) fun s t u=>
 Zm s p t (fun x=>
 Zk o (x.add (p.toNat*1)) fun y=>
 ac (!y)
 (R (tuple #[int .i64 g,bool true]) o)
 (Ar .i64 (g+1) (fun z=>
 f [int .i64 z,int .i64 p,bool i,int .i64 j] o))))))))
 (R (tuple #[int .i64 0,bool false]) k))→f [int .i64 g,int .i64 h,bool i,int .i64 j] k)→
 f [int .i64 0,int .i64 0,bool false,int .i64 0] w
theorem Cr (a b:OA) (c d:Nat) (w:World) (R:RW) (hh:RR a b c d w R):CR 361 #[pointer a,slice b c d] w R:=by refine aH (fn:=Tryz.f361) ?_ ?_ ?_ ?_ ?_ hh<;>kernel_rfl
theorem HX:∃i,Tryz.prog.info? aT=some i∧i.zero=some (.int .i64 0)∧i.size=1∧i.bytes=8:=by
 have h:(Tryz.prog.info? aT).map (fun i=>(i.zero,i.size,i.bytes))=some (some (.int .i64 0),1,8):=by kernel_rfl
 obtain⟨i,b,a⟩:=Option.map_eq_some_iff.1 h;simp only [Prod.mk.injEq]at a;exact⟨i,b,a.1,a.2.1,a.2.2⟩
theorem jX (w:World) (n:Nat) (hn:n≤1000000):(Instr.makeSlice bQ (.int .i64 n) (.int .i64 n)).run Tryz.prog w= .ok (.slice (some (nb w)) n n) (w.alloc (.cells (Array.replicate n (.int .i64 0)) aT)):=by
 obtain⟨i,b,d,c,a⟩:=HX;have:=Go.run_make (P:=Tryz.prog) w bQ aT i (.int .i64 0) (by kernel_rfl) b d .i64 .i64 (n:Int) (n:Int) (by omega) (Int.le_refl _) (by rw [a];omega) (by omega);rw [this];congr 3;rw [c];apply Array.ext
 ·rw [size_madeCells];simp
 ·intro j e f;simp only [madeCells,Array.getElem_map,Array.getElem_range,Array.getElem_replicate];show(#[Value.int .i64 0]:Array Value)[j%1]! =_;rw [Nat.mod_one];rfl
def part {α:Type} (z:α) (f:Nat→α) (n i:Nat):List α:=(List.range n).map fun j=>if j<i then f j else z
theorem dC {α:Type} (z:α) (f:Nat→α) (n i:Nat):(part z f n i).length=n:=by simp [part]
theorem jE {α:Type} (z:α) (f:Nat→α) {n i j:Nat} (hj:j<n):(part z f n i)[j]? =some (if j<i then f j else z):=by simp [part,List.getElem?_range hj]
theorem nX {α:Type} (z:α) (f:Nat→α) {n i:Nat} (hi:i<n):(part z f n i).set i (f i)=part z f n (i+1):=by
 apply List.ext_getElem?;intro j;by_cases hj:j<n
 ·rw [List.getElem?_set,jE z f hj,jE z f hj];by_cases e:i=j
  ·subst e;simp [dC,hi]
  ·rw [if_neg e];by_cases h:j<i
   ·rw [if_pos h,if_pos (by omega)]
   ·rw [if_neg h,if_neg (by omega)]
 ·rw [List.getElem?_eq_none_iff.2 (by rw [List.length_set,dC];omega),List.getElem?_eq_none_iff.2 (by rw [dC];omega)]
theorem Hn {α:Type} (z:α) (f:Nat→α) (n:Nat):part z f n 0=List.replicate n z:=by
 apply List.ext_getElem?;intro j;by_cases hj:j<n
 ·rw [jE z f hj,List.getElem?_replicate,if_pos hj,if_neg (by omega)]
 ·rw [List.getElem?_eq_none_iff.2 (by rw [dC];omega),List.getElem?_eq_none_iff.2 (by simp;omega)]
theorem sq {α:Type} (z:α) (f:Nat→α) (n:Nat):part z f n n=(List.range n).map f:=by
 apply List.map_congr_left;intro j a;rw [if_pos (List.mem_range.1 a)]
theorem rV {α:Type} {enc:α→List Value} (z:α) (zv:Value) (henc:enc z= [zv]) (e:TypeId) (f:Nat→α) (w:World) {n:Nat} (hn:n≤1000000):(w.alloc (.cells (Array.replicate n zv) e)).ownsRow w.heap.size e 1 (.slice (some (nb w)) n n) n ((part z f n 0).flatMap enc):=by
 have a:(part z f n 0).flatMap enc=List.replicate n zv:=by
  rw [Hn,List.flatMap_replicate,henc];simp
 rw [a,show Array.replicate n zv=(List.replicate n zv).toArray by simp];exact iG _ (by simp) hn (XV _)
theorem m0 (w:World) (n bad:Nat) (may:Value) (m:Nat→Bool) (hn:n≤10000) (hm:∀k,k<n→∀w1,ZH w w1→bM gq may [.int .i64 (k:Int)] w1 (fun e w2=>e= .returned (.bool (m k))∧ZH w1 w2)):
  CP 66 #[.int .i64 (n:Int),.int .i64 (bad:Int),may] w fun e w'=>∃l:Sl,e= .returned l.v∧l.n=n∧w'.ownsRow w.heap.size aT 1 l.v l.n (((List.range n).map fun k=>((if m k then k+1 else bad:Nat):Int)).flatMap an)∧ZH w w':=by
 refine aV (FN n bad may w) ?_;obtain⟨f,t⟩:∃f:Nat→Int,f=fun k=>((if m k then k+1 else bad:Nat):Int):=⟨_,rfl⟩;refine⟨some (nb w),n,n,_,jX w n (by omega),?_⟩;intro I D;have M:=ah w (.cells (Array.replicate n (.int .i64 0)) aT);have P:=rV (enc:=an) (0:Int) (.int .i64 0) rfl aT f w (n:=n) (by omega);obtain⟨l,j⟩:∃l:Sl,l=⟨some (nb w),n,n⟩:=⟨_,rfl⟩;have y:=aZ (α:=World) n (fun i q=>q.ownsRow w.heap.size aT 1 l.v l.n ((part 0 f n i).flatMap an)∧ZH w q) (fun i q=>I [.int .i64 (i:Int)] q) _ ⟨by subst j;exact P,M⟩ ?_ ?_
 ·exact y
 ·rintro i g F q ⟨r,s⟩;refine D _ _ (ac.yes (XJ (by omega)) ?_);intro J E;have p:l.n=n:=by subst j;rfl
  have o:l.a=some (nb w):=by subst j;rfl
  obtain⟨u,C,k⟩:=gD (l:=l) (enc:=an) (sz:=1) (fun _=>rfl) (by decide) r (by rw [dC];exact p) o (jE 0 f g) (k:=0) (by decide) (bad:Int) (.int .i64 (bad:Int)) rfl;rw [aC]at u C k;refine ag.mk _ rfl ⟨by omega,by omega,rfl,u,C,?_⟩;intro K v;obtain⟨Q,_,_,N⟩:=k K v;have b:=N _ _ (XV _) s;refine(hm i g K b).mono ?_;rintro e R ⟨rfl,B⟩;have z:=aE Q B;have c:=ae b B;refine⟨_,rfl,ac.mk (fun h=>?_) fun h=>?_⟩
  ·have d:((part 0 f n i).set i (bad:Int))[i]? =some (bad:Int):=by rw [List.getElem?_set_self (by rw [dC];exact g)]
   obtain⟨H,a,G⟩:=gD (l:=l) (enc:=an) (sz:=1) (fun _=>rfl) (by decide) z (by rw [List.length_set,dC];exact p) o d (k:=0) (by decide) ((i+1:Nat):Int) (.int .i64 ((i+1:Nat):Int)) rfl;rw [aC]at H a G;refine Ar.nat (i+1) rfl (by omega) (ag.mk _ rfl ⟨by omega,by omega,rfl,H,a,?_⟩);intro L x;obtain⟨A,_,_,O⟩:=G L x;refine E _ (Ar.nat (i+1) rfl (by omega) (F L ⟨?_,O _ _ (XV _) c⟩));rw [List.set_set]at A;have:=nX (0:Int) f g;rw [show f i=((i+1:Nat):Int) by rw [t];show((if m i then i+1 else bad:Nat):Int)=_;rw [if_pos h]]at this;rw [this]at A;exact A
  ·refine E _ (Ar.nat (i+1) rfl (by omega) (F R ⟨?_,c⟩));have:=nX (0:Int) f g;rw [show f i=(bad:Int) by rw [t];show((if m i then i+1 else bad:Nat):Int)=_;rw [if_neg (by rw [h];decide)]]at this;rw [this]at z;exact z
 ·rintro q ⟨r,s⟩;refine D _ _ (ac.no (XZ (by omega)) ⟨l,by subst j;rfl,by subst j;rfl,?_,s⟩);rw [sq,t]at r;exact r
theorem T2 (x:Nat):Int.fdiv (x:Int) (2^(min (8:Int).toNat (IntKind.bits .i64)))=((x/256:Nat):Int):=by
 rw [show(2:Int)^(min (8:Int).toNat (IntKind.bits .i64))=((256:Nat):Int) by decide,Int.fdiv_eq_ediv_of_nonneg _ (by omega)];rfl
theorem IV (x:Nat):(#[Value.int .u8 (IntKind.wrap .u8 (x:Int)),Value.int .u8 (IntKind.wrap .u8 (Int.fdiv (x:Int) (2^(min (8:Int).toNat (IntKind.bits .i64)))))]:Array Value)=((gA x).flatMap fg).toArray:=by
 rw [T2,wX,wX];rfl
theorem GU (w:World) (c:Nat) (hc:c≤1000000):∃w1,(Instr.makeSlice ic (.int .i64 0) (.int .i64 (c:Int))).run Tryz.prog w= .ok (.slice (some (nb w)) 0 c) w1∧w1.ownsRow w.heap.size kI 1 (.slice (some (nb w)) 0 c) 0 (([]:List UInt8).flatMap fg)∧ZH w w1:=by
 have h:(Tryz.prog.info? kI).map (fun i=>(i.zero,i.size,i.bytes))=some (some (.int .u8 0),1,1):=by kernel_rfl
 obtain⟨i,d,a⟩:=Option.map_eq_some_iff.1 h;simp only [Prod.mk.injEq]at a;obtain⟨f,e,b⟩:=a;have:=Go.run_make (P:=Tryz.prog) w ic kI i (.int .u8 0) (by kernel_rfl) d f .i64 .i64 0 (c:Int) (by omega) (by omega) (by rw [b];omega) (by omega);refine⟨_,this,?_,ah _ _⟩;refine⟨rfl,.inr ⟨w.heap.size,c,_,rfl,XV _,aq _ _,Nat.zero_le _,by unfold maxLen;omega,?_,by simp⟩⟩;rw [size_madeCells,e];simp
theorem zs (w:World) (x:Nat) (A A2:Option Addr) (C C2:Nat) (l of:List Nat) (hl:Rw an 1 w A (l.map fun i:Nat=>(i:Int))) (ho:Rw an 1 w A2 (of.map fun i:Nat=>(i:Int))) (hin:∀y∈l,y<of.length) (hn:l.length≤10000):
  CP 184 #[.int .i64 (x:Int),.slice A l.length C,.slice A2 of.length C2] w fun e w'=>e= .returned (.string (str (gA x++(l.map fun y=>of.getD y 0).flatMap gA)))∧ZH w w':=by
 refine aV (xX x A l.length C A2 of.length C2 w) ?_;obtain⟨K,F,o1,L⟩:=GU w (2*l.length+2) (by omega);refine Ar.nat (2*l.length) (by omega) (by omega) (Ar.nat (2*l.length+2) (by omega) (by omega) ⟨_,_,_,K,F,by decide,?_⟩);intro R j;rw [IV]at j;have z:ZH K R:=by subst j;exact ah _ _
 have h2:bO fg 1 R ⟨some (nb K),2,2⟩ (gA x):=bO.of_own xy (B:=0) (by subst j;exact iG (n:=2) _ rfl (by decide) (Nat.zero_le _));obtain⟨u,S,Y,Z,f3,f4,_,_⟩:=xy.spread (s:=⟨some (nb w),0,2*l.length+2⟩) (xs:=[]) (aE o1 z) h2 (ae L z).size (by show 0≤_;omega) (by show 2≤_;omega) (by decide);refine⟨u.a,u.n,u.c,S,Z,?_⟩;intro I N;let g (y:Nat):Nat:=of.getD y 0;have G:=aZ (α:=Sl×World) l.length (fun i y=>y.2.ownsRow w.heap.size kI 1 y.1.v y.1.n ((gA x++((l.take i).map g).flatMap gA).flatMap fg)∧y.1.n=2+2*i∧ZH w y.2) (fun i y=>I [.int .i64 (i:Int),y.1.v] y.2) (u,S) ⟨by simpa using f3,Y,f4 _ (ae L z)⟩ ?_ ?_
 ·exact G
 ·rintro i D ih ⟨f,q⟩ ⟨a,o,m⟩;change q.ownsRow w.heap.size kI 1 f.v f.n _ at a;change f.n=2+2*i at o;change ZH w q at m;obtain⟨p,hp,T⟩:=a_ (hl.on m) (show i< (l.map fun i:Nat=>(i:Int)).length by simpa using D) (v:=.int .i64 ((l[i]:Nat):Int)) (by simp [an]);have r:=hin _ (List.getElem_mem D);refine N _ f.a f.n f.c q (ac.yes (XJ (by omega)) (ag.mk p hp ⟨by omega,by omega,_,T,?_⟩));intro H E;have k:ZH q H:=by subst E;exact aU q
  have d:=ae m k;obtain⟨O,t,M⟩:=a_ (ho.on d) (show l[i] < (of.map fun i:Nat=>(i:Int)).length by simpa using r) (v:=.int .i64 ((of[l[i]]:Nat):Int)) (by simp [an]);refine ag.mk O t ⟨by omega,by omega,_,M,ag.mk O t ⟨by omega,by omega,_,M,by decide,?_⟩⟩;intro Q h;rw [IV]at h;have c:ZH H Q:=by subst h;exact ah _ _
  have h3:bO fg 1 Q ⟨some (nb H),2,2⟩ (gA of[l[i]]):=bO.of_own xy (B:=0) (by subst h;exact iG (n:=2) _ rfl (by decide) (Nat.zero_le _));obtain⟨b,J,U,V,W,X,_,_⟩:=xy.spread (aE (aE a k) c) h3 (ae d c).size (by omega) (by show 2≤_;omega) (by decide);refine⟨b.a,b.n,b.c,J,V,Ar.nat (i+1) rfl (by omega) (ih (b,J) ⟨?_,?_,X _ (ae d c)⟩)⟩
  ·have e:gA x++((l.take (i+1)).map g).flatMap gA=(gA x++((l.take i).map g).flatMap gA)++gA of[l[i]]:=by
    have hg:g l[i]=of[l[i]]:=gL r 0;rw [List.take_add_one,XK D,List.map_append,List.flatMap_append,List.append_assoc];simp [hg]
   show J.ownsRow w.heap.size kI 1 b.v b.n ((gA x++((l.take (i+1)).map g).flatMap gA).flatMap fg);rw [e];exact W
  ·show b.n=2+2*(i+1);change b.n=f.n+2 at U;omega
 ·rintro⟨f,q⟩ ⟨a,o,m⟩;change q.ownsRow w.heap.size kI 1 f.v f.n _ at a;rw [List.take_length]at a;exact N _ f.a f.n f.c q (ac.no (XZ (by omega)) ⟨_,q,eQ (P:=Tryz.prog) gc vP m' (by rw [←kU];exact a),rfl,m⟩)
end Go.Proofs.YtijbcdiffjjefaaGreatDoor.Eng
