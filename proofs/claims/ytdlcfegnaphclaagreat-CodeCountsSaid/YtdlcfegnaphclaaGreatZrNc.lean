/- Great numbers: trimmed, made, added, multiplied, compared, taken off; walked by the engine. -/
import Derived.Test.YtdlcfegnaphclaaGreatZrGr
import Derived.Test.YtdlcfegnaphclaaGreatZrRb
import Derived.Test.YtdlcfegnaphclaaGreatZrTab
import Derived.Test.YtdlcfegnaphclaaGreatZrSp
import Derived.RangeFuncFrom
import Derived.RangeFuncCalls
import Derived.RangeFuncLeaves
import Derived.RangeFuncBox
import Derived.Shelf.Abstract
import Derived.Shelf.RegionOpen
import Derived.OwnWalkIn
import Derived.TacticsInMore
import Derived.LoopNIn
import Derived.LoopIn
import Derived.Maps.RangeRun
import Derived.Lib.SliceRun
set_option linter.unusedVariables false
set_option linter.unusedSimpArgs false
set_option maxRecDepth 100000
namespace Go.Proofs.YtdlcfegnaphclaaGreat.Eng
open Go Go.RowKit
abbrev cD:TypeId:=88
abbrev dW:TypeId:=153
abbrev tH:TypeId:=86
theorem uP:Tryz.prog.underlying tH=some (.slice dW):=by kernel_rfl
theorem uW:(Tryz.prog.info? dW).map (fun i=>(i.zero,i.size,i.bytes))=some (some (.int .u32 0),1,4):=by kernel_rfl
def eS (n:Int):List Value:=[.int .u32 n]
theorem rp:xf eS 1 tH dW 4:=⟨fun _=>rfl,by decide,fun x u hu=>by rw [List.mem_singleton.1 hu];rfl,uP,_,uW,rfl⟩
theorem dZ:2≤4294967296:=by decide
def oQ (e:TypeId) (w:World) (l:Sl):Prop:=∀p,l.a=some p→∃c fz,w.heap[p.block]? =some (.cells c e fz)
theorem oQ.on {e:TypeId} {w w':World} {l:Sl} (h:oQ e w l) (hb:Below w.heap.size w w'):oQ e w' l:=fun p hp=>by
 obtain⟨c,fz,hc⟩:=h p hp;exact⟨c,fz,ah hb hc⟩
theorem gR {w:World} {B:Nat} {e:TypeId} {sz:Nat} {l:Sl} {xs:List Value} (h:w.ownsRow B e sz l.v l.n xs):oQ e w l:=by
 intro p hp;obtain⟨la,ln,lc⟩:=l;rcases h.2 with⟨hv,_⟩ |⟨g,cap,cur,hv,_,hg,_⟩
 ·cases hv;cases hp
 ·cases hv;cases hp;exact⟨_,_,hg⟩
structure br (w:World) (l:Sl) (n:Nat):Prop extends LsAt eS 1 w l (dD 4294967296 n)where
 ty:oQ dW w l
theorem br.on {w w':World} {l:Sl} {n:Nat} (h:br w l n) (hb:Below w.heap.size w w'):br w' l n:=⟨LsAt.on h.toLsAt hb,h.ty.on hb⟩
theorem br.keep {w w':World} {l:Sl} {n:Nat} (h:br w l n) (hk:∀p c fz,l.a=some p→w.heap[p.block]? =some (.cells c dW fz)→w'.heap[p.block]? =w.heap[p.block]?) (hz:w.heap.size≤w'.heap.size):br w' l n:=by
 refine⟨⟨h.n,fun j x hj=>?_,h.k⟩,fun p hp=>?_⟩
 ·obtain⟨p,hp,hlt,hc⟩:=h.r j x hj;obtain⟨c,fz,hb⟩:=h.ty p hp;refine⟨p,hp,Nat.lt_of_lt_of_le hlt hz,fun k v hv=>?_⟩;rw [←hc k v hv];unfold World.cell?;rw [ax,ax,hk p c fz hp hb]
 ·obtain⟨c,fz,hb⟩:=h.ty p hp;exact⟨c,fz,(hk p c fz hp hb).trans hb⟩
theorem br.put {w w':World} {l s:Sl} {n b:Nat} {T:TypeId} {fz:Nat×Nat} (h:br w l n) (hb:w.heap[b]? =some (.cells #[s.v] T fz)) (hT:T≠dW) (hne:∀j,j≠b→w'.heap[j]? =w.heap[j]?) (hz:w.heap.size≤w'.heap.size):br w' l n:=
 h.keep (fun p c fz _ hc=>hne _ fun e=>by
  rw [e,hb]at hc;cases hc;exact hT rfl) hz
theorem cU {q:World} {b:Nat} {x s:Sl} {K:World→Prop} (h:q.heap[b]? =some (.cells #[x.v] cD (0,0))) (hk:∀q',q'.heap[b]? =some (.cells #[s.v] cD (0,0))→(∀l n,br q l n→br q' l n)→(∀B w0,B≤b→Below B w0 q→Below B w0 q')→(∀j,j≠b→q'.heap[j]? =q.heap[j]?)→q'.heap.size=q.heap.size→K q'):
  s.v.oneCell'=true∧(∃u,q.cell? ⟨b,0,none⟩=some u)∧q.frozen? ⟨b,0,none⟩=false∧∀q',q'=q.setCell ⟨b,0,none⟩ s.v→K q':=
 fj (aS h [s.v] rfl (fun v hv=>by rw [List.mem_singleton.1 hv];rfl) fun q' h1 h2 h3 h4=>hk q' h1 (fun l n hn=>hn.put h (by decide) h2 (by omega)) h4 h2 h3)
theorem bc {w:World} {b:Nat} {x:Sl} {T:TypeId} {fz:Nat×Nat} (h:w.heap[b]? =some (.cells #[x.v] T fz)):w.cell? ⟨b,0,none⟩=some (.slice x.a x.n x.c)∧True:=⟨aM h,trivial⟩
theorem cH {w:World} {b:Nat} {x:Sl} {T:TypeId} {fz:Nat×Nat} (h:w.heap[b]? =some (.cells #[x.v] T fz)):w.cell? ((⟨b,0,none⟩:Addr).add 0)=some (.slice x.a x.n x.c):=by rw [aj _ _ h];rfl
theorem Rw.head {α:Type} {enc:α→List Value} {sz:Nat} {w:World} {a:Option Addr} {xs:List α} (h:Rw enc sz w a xs) (n:Nat):Rw enc sz w (bh a 0 n sz) (xs.take n):=by
 intro j x hj;have hlt:j<n:=by
  have:=(List.getElem?_eq_some_iff.1 hj).1;rw [List.length_take]at this;omega
 obtain⟨p,rfl,hp,hc⟩:=h.take n j x hj;unfold bh;rw [if_neg (by omega)];refine⟨p.add (0*sz),rfl,by rw [ax];exact hp,fun k v hk=>?_⟩;rw [Addr.add_add p,Nat.zero_mul,Nat.zero_add];exact hc k v hk
theorem Ar.u64 {z:Int} {F:Int→Prop} (n:Nat) (hz:z=(n:Int)) (hn:n<18446744073709551616) (h:F (n:Int)):Ar .u64 z F:=by
 subst hz;exact Ar.ok (k:=.u64) (by show(0:Int)≤_;omega) (by show _≤(18446744073709551615:Int);omega) h
theorem eC (x:Nat):IntKind.wrap .u32 (x:Int)=((x%4294967296:Nat):Int):=by
 simp [IntKind.wrap,IntKind.bits,IntKind.signed]
theorem dN {x:Nat} (h:x<18446744073709551616):IntKind.wrap .u64 (x:Int)=(x:Int):=dm (by show(0:Int)≤_;omega) (by show _≤(18446744073709551615:Int);omega)
theorem Kx (x:Nat):Int.fdiv (x:Int) (2^(min (32:Int).toNat (IntKind.bits .u64)))=((x/4294967296:Nat):Int):=by
 rw [show(2:Int)^(min (32:Int).toNat (IntKind.bits .u64))=((4294967296:Nat):Int) by decide,Int.fdiv_eq_ediv_of_nonneg _ (by omega)];rfl
theorem qg (w:World) (c:Nat) (hc:c≤1000000):∃w1,(Instr.makeSlice tH (.int .i64 0) (.int .i64 (c:Int))).run Tryz.prog w= .ok (.slice (some (nb w)) 0 c) w1∧w1.ownsRow w.heap.size dW 1 (.slice (some (nb w)) 0 c) 0 (([]:List Int).flatMap eS)∧Below w.heap.size w w1:=by
 obtain⟨i,hi,hz,hs,hb⟩:=info_parts uW;have:=Go.run_make (P:=Tryz.prog) w tH dW i (.int .u32 0) uP hi hz .i64 .i64 0 (c:Int) (by omega) (by omega) (by rw [hb];omega) (by omega);refine⟨_,this,?_,ag _ _⟩;refine⟨rfl,.inr ⟨w.heap.size,c,_,rfl,Nat.le_refl _,ak _ _,Nat.zero_le _,by unfold maxLen;omega,?_,by simp⟩⟩;rw [size_madeCells,hs];simp
theorem gM (w:World) (l:Sl) (xs:List Int) (h:LsAt eS 1 w l xs) (ht:oQ dW w l) (hc:l.n≤l.c) (hr:z_ 4294967296 xs) (hl:xs.length≤1000000):
  CP 93 #[l.v] w fun e w'=>∃r:Sl,e= .returned (.agg #[r.v])∧br w' r (cQ 4294967296 xs)∧Below w.heap.size w w':=by
 refine aL (At l.a l.n l.c w) ?_;intro w1 hw1;have b1:Below w.heap.size w w1:=by subst hw1;exact ag _ _
 have x1:w1.heap[w.heap.size]? =some (.cells #[bV.v] cD (0,0)):=by subst hw1;exact ak _ _
 have h1:=LsAt.on h b1;have hn:=h.n;have out:∀n,n≤xs.length→(∀(j:Nat) (hj:j<xs.length),n≤j→xs[j]=0)→(∀(hk:n-1<xs.length),0<n→xs[n-1]≠0)→br w1 ⟨bh l.a 0 n 1,n-0,n-0⟩ (cQ 4294967296 xs):=by
  intro n hn h0 h2;have e:=zC dZ hr hn h0 h2;refine⟨?_,fun p hp=>?_⟩;rotate_left
  ·unfold bh at hp;by_cases hz:n=0
   ·rw [if_pos hz]at hp;exact ht.on b1 p hp
   ·rw [if_neg hz]at hp;obtain⟨p',hp',rfl⟩:=Option.map_eq_some_iff.1 hp;rw [ax];exact ht.on b1 p' hp'
  rw [←e];refine⟨by rw [List.length_take];show n-0=_;omega,h1.r.head n,?_⟩;unfold bh;by_cases hz:n=0
  ·subst hz;rw [if_pos rfl];cases l.a with
   |none=>exact .inl rfl
   |some p=>exact .inr ⟨p,rfl⟩
  ·rw [if_neg hz];obtain⟨p,hp,_⟩:=aZ h1.r (show 0<xs.length by omega) rfl;rw [hp];exact .inr ⟨_,rfl⟩
 intro I hI;have key:∀n,n≤xs.length→(∀(j:Nat) (hj:j<xs.length),n≤j→xs[j]=0)→I [.int .i64 (n:Int)] w1:=by
  intro n;induction n with
  |zero=>
   intro _ h0;refine hI _ w1 (ac.no rfl ⟨by omega,by omega,by omega,by omega,trivial,cU (s:=⟨bh l.a 0 0 1,0-0,0-0⟩) x1 fun q' hx hN hB _ _=>⟨_,_,_,bc hx,⟨bh l.a 0 0 1,0-0,0-0⟩,rfl,hN _ _ (out 0 (Nat.zero_le _) h0 (fun _ h=>absurd h (by decide))),hB _ _ (Nat.le_refl _) b1⟩⟩)
  |succ n ih=>
   intro hle h0;obtain⟨p,hp,c0⟩:=aZ h1.r (show n<xs.length by omega) rfl;refine hI _ w1 (ac.yes (decide_eq_true (by omega)) (Ar.nat n (by omega) (by omega) (af.mk p hp ⟨by omega,by omega,_,c0,ac.mk (fun he=>?_) fun he=>?_⟩)))
   ·have he:xs[n]=0:=by simpa using he
    refine Ar.nat n (by omega) (by omega) (ih (by omega) fun j hj hle2=>?_);by_cases e:j=n
    ·subst e;exact he
    ·exact h0 j hj (by omega)
   ·have he:xs[n]≠0:=by simpa using he
    exact⟨by omega,by omega,by omega,by omega,trivial,cU (s:=⟨bh l.a 0 (n+1) 1,n+1-0,n+1-0⟩) x1 fun q' hx hN hB _ _=>⟨_,_,_,bc hx,⟨bh l.a 0 (n+1) 1,n+1-0,n+1-0⟩,rfl,hN _ _ (out (n+1) hle h0 (fun _ _=>he)),hB _ _ (Nat.le_refl _) b1⟩⟩
 rw [hn];exact key xs.length (Nat.le_refl _) fun j hj hle=>absurd hj (by omega)
theorem wL (w:World) (n:Nat) (hn:n<18446744073709551616):
  CP 53 #[.int .u64 (n:Int)] w fun e w'=>∃r:Sl,e= .returned (.agg #[r.v])∧br w' r n∧Below w.heap.size w w':=by
 refine aL (As (n:Int) w) ?_;intro w1 hw1;have b1:Below w.heap.size w w1:=by subst hw1;exact ag _ _
 have x1:w1.heap[w.heap.size]? =some (.cells #[bV.v] cD (0,0)):=by subst hw1;exact ak _ _
 refine⟨by decide,?_⟩;intro w2 hw2;rw [Kx,eC,eC]at hw2;have b2:Below w1.heap.size w1 w2:=by subst hw2;exact ag _ _
 have l2:w2.heap[w1.heap.size]? =some (.cells #[.int .u32 ((n%4294967296:Nat):Int),.int .u32 ((n/4294967296%4294967296:Nat):Int)] dW (0,0)):=by subst hw2;exact ak _ _
 have hls:LsAt eS 1 w2 ⟨some (nb w1),2,2⟩ [((n%4294967296:Nat):Int),((n/4294967296%4294967296:Nat):Int)]:=by
  refine⟨rfl,fun j x hj=>?_,.inr ⟨_,rfl⟩⟩;refine⟨nb w1,rfl,(Array.getElem?_eq_some_iff.1 l2).1,fun k v hk=>?_⟩
  match k,hk with
  |0,hk=>
   cases hk;rw [ay,Nat.mul_one,aj _ _ l2]
   match j,hj with
   |0,hj=>cases hj;rfl
   |1,hj=>cases hj;rfl
 have hin:z_ 4294967296 [((n%4294967296:Nat):Int),((n/4294967296%4294967296:Nat):Int)]:=by
  intro x hx;simp only [List.mem_cons,List.not_mem_nil,or_false]at hx;rcases hx with rfl |rfl<;>omega
 have hv:cQ 4294967296 [((n%4294967296:Nat):Int),((n/4294967296%4294967296:Nat):Int)]=n:=by
  simp only [cQ,Int.toNat_natCast];omega
 refine(gM w2 ⟨some (nb w1),2,2⟩ _ hls (fun p hp=>by cases hp;exact⟨_,_,l2⟩) (Nat.le_refl _) hin (by simp)).mono ?_;rintro e w3 ⟨r,rfl,hN,b3⟩;rw [hv]at hN;have b23:=ae b2 b3;refine⟨r.a,r.n,r.c,rfl,cU (s:=r) (ah b23 x1) fun q' hx hN' hB _ _=>⟨_,_,_,bc hx,r,rfl,hN' _ _ hN,hB _ _ (Nat.le_refl _) (ae b1 b23)⟩⟩
theorem eB (w:World) (l:Sl) (n:Nat) (h:br w l n):
  CP 43 #[.agg #[l.v]] w fun e w'=>e= .returned (.bool (decide (n=0)))∧Below w.heap.size w w':=by
 refine aL (AW l.a l.n l.c w) ?_;intro w1 hw1;have b1:Below w.heap.size w w1:=by subst hw1;exact ag _ _
 have x1:w1.heap[w.heap.size]? =some (.cells #[l.v] cD (0,0)):=by subst hw1;exact ak _ _
 refine⟨_,_,_,cH x1,?_,b1⟩;have hn:=h.n;congr 2;rw [Bool.eq_iff_iff,beq_iff_eq,decide_eq_true_eq, ←CY dZ, ←List.length_eq_zero_iff, ←hn];omega
theorem qA (w:World) (l:Sl) (n:Nat) (h:br w l n) (i:Nat):
  CP 153 #[.agg #[l.v],.int .i64 (i:Int)] w fun e w'=>e= .returned (.int .u32 ((n/4294967296^i%4294967296:Nat):Int))∧Below w.heap.size w w':=by
 refine aL (zj l.a l.n l.c (i:Int) w) ?_;intro w1 hw1;have b1:Below w.heap.size w w1:=by subst hw1;exact ag _ _
 have x1:w1.heap[w.heap.size]? =some (.cells #[l.v] cD (0,0)):=by subst hw1;exact ak _ _
 have hn:=h.n;refine⟨_,_,_,cH x1,ac.mk (fun h0=>?_) fun h0=>?_⟩
 ·have h0:=of_decide_eq_true h0;rw [(dT dZ (n:=n) (i:=i) (by omega)).1];exact⟨rfl,b1⟩
 ·have h0:=of_decide_eq_false h0;have hlt:i< (dD 4294967296 n).length:=by omega
  obtain⟨p,hp,c0⟩:=aZ (br.on h b1).r hlt rfl;rw [gL dZ hlt]at c0;exact⟨_,_,_,cH x1,af.mk p hp ⟨by omega,by omega,_,c0,rfl,b1⟩⟩
set_option maxHeartbeats 1000000 in
theorem ua (w:World) (la lb:Sl) (a b:Nat) (ha:br w la a) (hb:br w lb b) (h1:(dD 4294967296 a).length≤100000) (h2:(dD 4294967296 b).length≤100000):
  CP 82 #[.agg #[la.v],.agg #[lb.v]] w fun e w'=>∃r:Sl,e= .returned (.agg #[r.v])∧br w' r (a+b)∧Below w.heap.size w w':=by
 refine aL (Ct la.a la.n la.c lb.a lb.n lb.c w) ?_;intro w1 hw1 w2 hw2 w3 hw3;have b1:Below w.heap.size w w1:=by subst hw1;exact ag _ _
 have b2:Below w1.heap.size w1 w2:=by subst hw2;exact ag _ _
 have b3:Below w2.heap.size w2 w3:=by subst hw3;exact ag _ _
 have z1:w1.heap.size=w.heap.size+1:=by subst hw1;exact av _ _
 have z2:w2.heap.size=w1.heap.size+1:=by subst hw2;exact av _ _
 have b13:=ae b2 b3;have b03:=ae b1 b13;have x1:w3.heap[w.heap.size]? =some (.cells #[la.v] cD (0,0)):=ah b13 (by subst hw1;exact ak _ _);have x2:w3.heap[w1.heap.size]? =some (.cells #[lb.v] cD (0,0)):=ah b3 (by subst hw2;exact ak _ _);have x3:w3.heap[w2.heap.size]? =some (.cells #[bV.v] cD (0,0)):=by subst hw3;exact ak _ _
 have hna:=ha.n;have hnb:=hb.n;obtain⟨N,hN⟩:∃N:Nat,(if((lb.n:Nat):Int)>((la.n:Nat):Int)then((lb.n:Nat):Int)else((la.n:Nat):Int))=(N:Int)∧la.n≤N∧lb.n≤N∧N≤100000:=by
  by_cases hh:((lb.n:Nat):Int)>((la.n:Nat):Int)
  ·exact⟨lb.n,if_pos hh,by omega,by omega,by omega⟩
  ·exact⟨la.n,if_neg hh,by omega,by omega,by omega⟩
 obtain⟨hN,n1,n2,n3⟩:=hN;obtain⟨w5,e5,o5,b5⟩:=qg w3 (N+1) (by omega);refine⟨_,_,_,cH x1,_,_,_,cH x2,(N:Int),w3,by rw [←hN];exact qQ _ _ _ _ _,Ar.nat (N+1) rfl (by omega) ⟨_,_,_,w5,e5,?_⟩⟩;intro I hI;have key:=aX (α:=Nat×List Int×Sl×World) N (fun i y=>y.2.1.length=i∧z_ 4294967296 y.2.1∧cQ 4294967296 y.2.1+y.1*4294967296^i=a%4294967296^i+b%4294967296^i∧y.1≤1∧y.2.2.2.ownsRow w3.heap.size dW 1 y.2.2.1.v y.2.2.1.n (y.2.1.flatMap eS)∧Below w3.heap.size w3 y.2.2.2) (fun i y=>I [.int .i64 (i:Int),.int .u64 (y.1:Int),y.2.2.1.v] y.2.2.2) (0,[],⟨some (nb w3),0,N+1⟩,w5) ⟨rfl,fun x hx=>(by cases hx),by simp [cQ,Nat.mod_one],Nat.zero_le _,o5,b5⟩ ?_ ?_
 ·exact key
 ·rintro i hi ih ⟨c,L,f,q⟩ ⟨hL,hin,hv,hc,ho,hq⟩;change L.length=i at hL;change z_ 4294967296 L at hin;change cQ 4294967296 L+c*4294967296^i=a%4294967296^i+b%4294967296^i at hv;change c≤1 at hc;change q.ownsRow w3.heap.size dW 1 f.v f.n (L.flatMap eS)at ho;change Below w3.heap.size w3 q at hq;have hfn:f.n=L.length:=(Rw.of_own ho (fun _=>rfl) (by decide)).2;refine hI _ _ f.a f.n f.c q (ac.yes (decide_eq_true (by omega)) ?_);intro w7 hw7;have b7:Below q.heap.size q w7:=by subst hw7;exact aO q
  have hq7:=ae hq b7;refine⟨_,_,_,bc (ah hq7 x1),_,_,_,bc (ah hq7 x2),?_⟩;have hb37:=ae b03 hq7;refine(qA w7 la a (ha.on hb37) i).mono ?_;rintro e w8 ⟨rfl,b8⟩;have hq8:=ae hq7 b8;refine⟨_,rfl,bc (ah hq8 x2),(qA w8 lb b (hb.on (ae b03 hq8)) i).mono ?_⟩;rintro e w9 ⟨rfl,b9⟩;have hq9:=ae hq8 b9;obtain⟨s,hs⟩:∃s,s=a/4294967296^i%4294967296+b/4294967296^i%4294967296+c:=⟨_,rfl⟩;have m1:=Nat.mod_lt (a/4294967296^i) (show 0<4294967296 by decide);have m2:=Nat.mod_lt (b/4294967296^i) (show 0<4294967296 by decide);refine⟨_,rfl,Ar.u64 (a/4294967296^i%4294967296+b/4294967296^i%4294967296) (by rw [dN (by omega),dN (by omega)];omega) (by omega) (Ar.u64 s (by omega) (by omega) ?_)⟩;intro w10 hw10;rw [eC]at hw10;obtain⟨f',w11,e1,e2,e3,e4,_⟩:=rp.push (aE (aE (aE ho b7) b8) b9) ((s%4294967296:Nat):Int) hw10 rfl hq9.size (by omega) (by decide);refine⟨f'.a,f'.n,f'.c,w11,e2,by decide,Ar.nat (i+1) rfl (by omega) ?_⟩;rw [Kx];exact ih (s/4294967296,L++ [((s%4294967296:Nat):Int)],f',w11) ⟨by rw [List.length_append];show _+1=_;omega,kB hin (Nat.mod_lt _ (by decide)),xj hL hv hs,by show s/4294967296≤1;omega,e3,e4 _ hq9⟩
 ·rintro⟨c,L,f,q⟩ ⟨hL,hin,hv,hc,ho,hq⟩;change L.length=N at hL;change z_ 4294967296 L at hin;change cQ 4294967296 L+c*4294967296^N=a%4294967296^N+b%4294967296^N at hv;change c≤1 at hc;change q.ownsRow w3.heap.size dW 1 f.v f.n (L.flatMap eS)at ho;change Below w3.heap.size w3 q at hq;have hfn:f.n=L.length:=(Rw.of_own ho (fun _=>rfl) (by decide)).2;refine hI _ _ f.a f.n f.c q (ac.no (decide_eq_false (by omega)) ?_);intro w12 hw12;rw [eC,Nat.mod_eq_of_lt (by omega)]at hw12;obtain⟨f',w13,e1,e2,e3,e4,_⟩:=rp.push ho (c:Int) hw12 rfl hq.size (by omega) (by decide);have hv2:cQ 4294967296 (L++ [(c:Int)])=a+b:=by
   rw [gq,mR,hL,Nat.mul_comm,hv,(dT dZ (n:=a) (i:=N) (by omega)).2,(dT dZ (n:=b) (i:=N) (by omega)).2]
  have hB13:=e4 _ hq;refine⟨f'.a,f'.n,f'.c,w13,e2,(gM w13 f' _ (LsAt.of_own rp e3) (gR e3) (ut e3) (kB hin (by omega)) (by rw [List.length_append];show _+1≤_;omega)).mono ?_⟩;rintro e w14 ⟨r,rfl,hR,b14⟩;rw [hv2]at hR;have hB14:=ae hB13 b14;exact⟨r.a,r.n,r.c,rfl,cU (s:=r) (ah hB14 x3) fun q' hx hN' hB _ _=>⟨_,_,_,bc hx,r,rfl,hN' _ _ hR,hB _ _ (by omega) (ae b03 hB14)⟩⟩
theorem pv (w:World) (la lb:Sl) (a b:Nat) (ha:br w la a) (hb:br w lb b) (h1:(dD 4294967296 a).length≤100000) (h2:(dD 4294967296 b).length≤100000) (p:Addr) (C:Nat) (hp:w.cell? p=some lb.v) (hlt:p.block<w.heap.size):
  CP 40 #[.agg #[la.v],.slice (some p) 1 C] w fun e w'=>∃r:Sl,e= .returned (.agg #[r.v])∧br w' r (a+b)∧Below w.heap.size w w':=by
 refine aL (B4 la.a la.n la.c (some p) 1 C w) ?_;intro w1 hw1 w2 hw2;have b1:Below w.heap.size w w1:=by subst hw1;exact ag _ _
 have b2:Below w1.heap.size w1 w2:=by subst hw2;exact ag _ _
 have z1:w1.heap.size=w.heap.size+1:=by subst hw1;exact av _ _
 have z2:w2.heap.size=w1.heap.size+1:=by subst hw2;exact av _ _
 have b02:=ae b1 b2;have x1:w2.heap[w.heap.size]? =some (.cells #[la.v] cD (0,0)):=ah b2 (by subst hw1;exact ak _ _);have x2:w2.heap[w1.heap.size]? =some (.cells #[bV.v] cD (0,0)):=by subst hw2;exact ak _ _
 have hcell:∀q,Below w.heap.size w q→q.cell? (p.add ((0:Int).toNat*1))=some lb.v:=by
  intro q hq;show q.cell? (p.add 0)=_;rw [ay, ←hp];unfold World.cell?;rw [hq.block _ hlt]
 intro I hI;refine hI 0 w2 (ac.yes rfl (af.mk p rfl ⟨by omega,by omega,_,_,_,⟨hcell w2 b02,trivial⟩,?_⟩));intro w4 hw4;have b4:Below w2.heap.size w2 w4:=by subst hw4;exact ag _ _
 have x4:w4.heap[w2.heap.size]? =some (.cells #[bV.v] cD (0,0)):=by subst hw4;exact ak _ _
 refine cU (s:=lb) x4 fun w5 hx5 hN5 hB5 hs5 hz5=>?_;have b5:Below w2.heap.size w2 w5:=hB5 _ _ (Nat.le_refl _) b4;have hb5:=ae b02 b5;have y1:=ah b5 x1;refine⟨_,_,_,bc y1,_,_,_,bc hx5,(ua w5 la lb a b (ha.on hb5) (hb.on hb5) h1 h2).mono ?_⟩;rintro e w6 ⟨r,rfl,hR,b6⟩;have b26:=ae b5 b6;refine⟨r.a,r.n,r.c,rfl,cU (s:=r) (ah b26 x1) fun w7 hx7 hN7 hB7 hs7 hz7=>Ar.nat 1 rfl (by decide) ?_⟩;have b7:Below w.heap.size w w7:=hB7 _ _ (Nat.le_refl _) (ae b02 b26);have y2:w7.heap[w1.heap.size]? =some (.cells #[bV.v] cD (0,0)):=(hs7 _ (by omega)).trans (ah b26 x2);refine hI 1 w7 (ac.no rfl ⟨_,_,_,bc hx7,cU (s:=r) y2 fun w8 hx8 hN8 hB8 hs8 hz8=>⟨_,_,_,bc hx8,r,rfl,hN8 _ _ (hN7 _ _ hR),hB8 _ _ (by omega) b7⟩⟩)
set_option maxHeartbeats 1000000 in
theorem sq (w:World) (la:Sl) (a m:Nat) (ha:br w la a) (hm:m<4294967296) (h1:(dD 4294967296 a).length≤100000):
  CP 157 #[.agg #[la.v],.int .u32 (m:Int)] w fun e w'=>∃r:Sl,e= .returned (.agg #[r.v])∧br w' r (a*m)∧Below w.heap.size w w':=by
 refine aL (vA la.a la.n la.c (m:Int) w) ?_;intro w1 hw1 w2 hw2;have b1:Below w.heap.size w w1:=by subst hw1;exact ag _ _
 have b2:Below w1.heap.size w1 w2:=by subst hw2;exact ag _ _
 have z1:w1.heap.size=w.heap.size+1:=by subst hw1;exact av _ _
 have b02:=ae b1 b2;have x1:w2.heap[w.heap.size]? =some (.cells #[la.v] cD (0,0)):=ah b2 (by subst hw1;exact ak _ _);have x2:w2.heap[w1.heap.size]? =some (.cells #[bV.v] cD (0,0)):=by subst hw2;exact ak _ _
 have hna:=ha.n;obtain⟨N,hN⟩:∃N,N=(dD 4294967296 a).length:=⟨_,rfl⟩;rw [←hN]at hna h1;obtain⟨w3,e3,o3,b3⟩:=qg w2 (N+1) (by omega);refine⟨_,_,_,cH x1,Ar.nat (N+1) (by rw [hna];rfl) (by omega) ⟨_,_,_,w3,e3,_,_,_,cH (ah b3 x1),?_⟩⟩;rw [hna];intro I hI;have key:=aX (α:=Nat×List Int×Sl×World) N (fun i y=>y.2.1.length=i∧z_ 4294967296 y.2.1∧cQ 4294967296 y.2.1+y.1*4294967296^i=a%4294967296^i*m∧y.1<4294967296∧y.2.2.2.ownsRow w2.heap.size dW 1 y.2.2.1.v y.2.2.1.n (y.2.1.flatMap eS)∧Below w2.heap.size w2 y.2.2.2) (fun i y=>I [.int .i64 (i:Int),.int .u64 (y.1:Int),y.2.2.1.v] y.2.2.2) (0,[],⟨some (nb w2),0,N+1⟩,w3) ⟨rfl,fun x hx=>(by cases hx),by simp [cQ,Nat.mod_one],(by show 0<4294967296;decide),o3,b3⟩ ?_ ?_
 ·exact key
 ·rintro i hi ih ⟨c,L,f,q⟩ ⟨hL,hin,hv,hc,ho,hq⟩;change L.length=i at hL;change z_ 4294967296 L at hin;change cQ 4294967296 L+c*4294967296^i=a%4294967296^i*m at hv;change c<4294967296 at hc;change q.ownsRow w2.heap.size dW 1 f.v f.n (L.flatMap eS)at ho;change Below w2.heap.size w2 q at hq;have hfn:f.n=L.length:=(Rw.of_own ho (fun _=>rfl) (by decide)).2;have hlt:i< (dD 4294967296 a).length:=by omega
  obtain⟨p,hp,c0⟩:=aZ (br.on ha (ae b02 hq)).r hlt rfl;rw [gL dZ hlt]at c0;obtain⟨x,hx⟩:∃x,x=a/4294967296^i%4294967296:=⟨_,rfl⟩;rw [←hx]at c0;have m1:x<4294967296:=by rw [hx];exact Nat.mod_lt _ (by decide)
  obtain⟨s,hs⟩:∃s,s=x*m+c:=⟨_,rfl⟩;have hxm:x*m≤4294967295*4294967295:=Nat.mul_le_mul (by omega) (by omega);refine hI _ _ f.a f.n f.c q (ac.yes (decide_eq_true (by omega)) (af.mk p hp ⟨by omega,by omega,_,c0,Ar.u64 (x*m) (by rw [dN (by omega),dN (by omega),Int.natCast_mul]) (by omega) (Ar.u64 s (by omega) (by omega) ?_)⟩));intro w5 hw5;rw [eC]at hw5;obtain⟨f',w6,e1,e2,e3,e4,_⟩:=rp.push ho ((s%4294967296:Nat):Int) hw5 rfl hq.size (by omega) (by decide);refine⟨f'.a,f'.n,f'.c,w6,e2,by decide,Ar.nat (i+1) rfl (by omega) ?_⟩;rw [Kx];exact ih (s/4294967296,L++ [((s%4294967296:Nat):Int)],f',w6) ⟨by rw [List.length_append];show _+1=_;omega,kB hin (Nat.mod_lt _ (by decide)),Bj hL hv (by rw [hs,hx]),by show s/4294967296<_;omega,e3,e4 _ hq⟩
 ·rintro⟨c,L,f,q⟩ ⟨hL,hin,hv,hc,ho,hq⟩;change L.length=N at hL;change z_ 4294967296 L at hin;change cQ 4294967296 L+c*4294967296^N=a%4294967296^N*m at hv;change c<4294967296 at hc;change q.ownsRow w2.heap.size dW 1 f.v f.n (L.flatMap eS)at ho;change Below w2.heap.size w2 q at hq;have hfn:f.n=L.length:=(Rw.of_own ho (fun _=>rfl) (by decide)).2;refine hI _ _ f.a f.n f.c q (ac.no (decide_eq_false (by omega)) ?_);intro w7 hw7;rw [eC,Nat.mod_eq_of_lt hc]at hw7;obtain⟨f',w8,e1,e2,e3,e4,_⟩:=rp.push ho (c:Int) hw7 rfl hq.size (by omega) (by decide);have hv2:cQ 4294967296 (L++ [(c:Int)])=a*m:=by
   rw [gq,mR,hL,Nat.mul_comm (4294967296^N),hv,(dT dZ (n:=a) (i:=N) (by omega)).2]
  have hB8:=e4 _ hq;refine⟨f'.a,f'.n,f'.c,w8,e2,(gM w8 f' _ (LsAt.of_own rp e3) (gR e3) (ut e3) (kB hin hc) (by rw [List.length_append];show _+1≤_;omega)).mono ?_⟩;rintro e w9 ⟨r,rfl,hR,b9⟩;rw [hv2]at hR;have hB9:=ae hB8 b9;exact⟨r.a,r.n,r.c,rfl,cU (s:=r) (ah hB9 x2) fun q' hx hN' hB _ _=>⟨_,_,_,bc hx,r,rfl,hN' _ _ hR,hB _ _ (by omega) (ae b02 hB9)⟩⟩
def oB (x y:Int):Int:=if x<y then -1 else if y<x then 1 else 0
theorem BU (x y:Int) (w:World):CP 85 #[.int .i64 x,.int .i64 y] w fun e w'=>e= .returned (.int .i64 (oB x y))∧w'=w:=by
 have nan:∀x:Int,CP 158 #[.int .i64 x] w fun e w'=>e= .returned (.bool false)∧w'=w:=fun x=>by
  refine aL (pd x w) ?_;exact⟨by simp,rfl⟩
 refine aL (Cq x y w) ?_;refine(nan x).mono ?_;rintro e w1 ⟨rfl,rfl⟩;refine⟨_,rfl,(nan y).mono ?_⟩;rintro e w1 ⟨rfl,rfl⟩;unfold oB;refine⟨_,rfl,ac.no rfl (ac.no rfl (ac.mk (fun h=>?_) fun h=>ac.mk (fun h2=>?_) fun h2=>?_))⟩
 ·rw [if_pos (of_decide_eq_true h)];exact⟨rfl,rfl⟩
 ·rw [if_neg (of_decide_eq_false h),if_pos (of_decide_eq_true h2)];exact⟨rfl,rfl⟩
 ·rw [if_neg (of_decide_eq_false h),if_neg (of_decide_eq_false h2)];exact⟨rfl,rfl⟩
theorem Az (x y:Int) (w:World):CP 86 #[.int .u32 x,.int .u32 y] w fun e w'=>e= .returned (.int .i64 (oB x y))∧w'=w:=by
 have nan:∀x:Int,CP 159 #[.int .u32 x] w fun e w'=>e= .returned (.bool false)∧w'=w:=fun x=>by
  refine aL (vH x w) ?_;exact⟨by simp,rfl⟩
 refine aL (Bn x y w) ?_;refine(nan x).mono ?_;rintro e w1 ⟨rfl,rfl⟩;refine⟨_,rfl,(nan y).mono ?_⟩;rintro e w1 ⟨rfl,rfl⟩;unfold oB;refine⟨_,rfl,ac.no rfl (ac.no rfl (ac.mk (fun h=>?_) fun h=>ac.mk (fun h2=>?_) fun h2=>?_))⟩
 ·rw [if_pos (of_decide_eq_true h)];exact⟨rfl,rfl⟩
 ·rw [if_neg (of_decide_eq_false h),if_pos (of_decide_eq_true h2)];exact⟨rfl,rfl⟩
 ·rw [if_neg (of_decide_eq_false h),if_neg (of_decide_eq_false h2)];exact⟨rfl,rfl⟩
theorem pQ {a b:Nat} (h:a<b):oB a b= -1:=by unfold oB;rw [if_pos (by omega)]
theorem pY {a b:Nat} (h:b<a):oB a b=1:=by unfold oB;rw [if_neg (by omega),if_pos (by omega)]
theorem uX {a b:Nat} (h:a=b):oB a b=0:=by unfold oB;rw [if_neg (by omega),if_neg (by omega)]
theorem pA (w:World) (la lb:Sl) (a b:Nat) (ha:br w la a) (hb:br w lb b) (h1:(dD 4294967296 a).length≤100000) (h2:(dD 4294967296 b).length≤100000):
  CP 42 #[.agg #[la.v],.agg #[lb.v]] w fun e w'=>e= .returned (.int .i64 (oB a b))∧Below w.heap.size w w':=by
 refine aL (BN la.a la.n la.c lb.a lb.n lb.c w) ?_;intro w1 hw1 w2 hw2;have b1:Below w.heap.size w w1:=by subst hw1;exact ag _ _
 have b2:Below w1.heap.size w1 w2:=by subst hw2;exact ag _ _
 have b02:=ae b1 b2;have x1:w2.heap[w.heap.size]? =some (.cells #[la.v] cD (0,0)):=ah b2 (by subst hw1;exact ak _ _);have x2:w2.heap[w1.heap.size]? =some (.cells #[lb.v] cD (0,0)):=by subst hw2;exact ak _ _
 have hna:=ha.n;have hnb:=hb.n;refine⟨_,_,_,cH x1,_,_,_,cH x2,(BU _ _ w2).mono ?_⟩;rintro e w3 ⟨rfl,hw3⟩;subst w3;refine⟨_,rfl,?_⟩;rw [hna,hnb];rcases Nat.lt_trichotomy (dD 4294967296 a).length (dD 4294967296 b).length with hl |hl |hl
 ·rw [pQ hl,pQ (CF dZ hl)];exact ac.yes rfl ⟨rfl,b02⟩
 ·rw [uX hl];refine ac.no rfl ⟨_,_,_,cH x1,?_⟩;rw [hna];refine Ar.ok64 (by omega) (by omega) ?_;intro I hI;have key:∀n,n≤(dD 4294967296 a).length→a/4294967296^n=b/4294967296^n→∀(y:Int) (q:World),Below w2.heap.size w2 q→I [.int .i64 ((n:Int)-1),.int .i64 y] q:=by
   intro n;induction n with
   |zero=>
    intro _ he y q hq;refine hI _ y q (ac.no rfl ?_);simp only [Nat.pow_zero,Nat.div_one]at he;rw [uX he];exact⟨rfl,ae b02 hq⟩
   |succ n ih=>
    intro hn he y q hq;rw [show((n+1:Nat):Int)-1=(n:Int) by omega];refine hI _ y q (ac.yes (decide_eq_true (by omega)) ?_);intro w5 hw5;have b5:Below q.heap.size q w5:=by subst hw5;exact aO q
    have hq5:=ae hq b5;have hi1:n< (dD 4294967296 a).length:=by omega
    have hi2:n< (dD 4294967296 b).length:=by omega
    obtain⟨p,hp,c1⟩:=aZ (br.on ha (ae b02 hq5)).r hi1 rfl;obtain⟨p2,hp2,c2⟩:=aZ (br.on hb (ae b02 hq5)).r hi2 rfl;rw [gL dZ hi1]at c1;rw [gL dZ hi2]at c2;obtain⟨hlt,heq⟩:=wJ (b:=4294967296) he;obtain⟨hgt,_⟩:=wJ (b:=4294967296) he.symm;refine⟨_,_,_,cH (ah hq5 x1),af.mk p hp ⟨by omega,by omega,_,c1,_,_,_,cH (ah hq5 x2),af.mk p2 hp2 ⟨by omega,by omega,_,c2,(Az _ _ w5).mono ?_⟩⟩⟩;rintro e w6 ⟨rfl,hw6⟩;subst w6;refine⟨_,rfl,?_⟩;rcases Nat.lt_trichotomy (a/4294967296^n%4294967296) (b/4294967296^n%4294967296)with h |h |h
    ·rw [pQ h,pQ (hlt h)];exact ac.yes rfl ⟨rfl,ae b02 hq5⟩
    ·rw [uX h];exact ac.no rfl (Ar.ok64 (by omega) (by omega) (ih (by omega) (heq h) y w5 hq5))
    ·rw [pY h,pY (hgt h)];exact ac.yes rfl ⟨rfl,ae b02 hq5⟩
  refine key _ (Nat.le_refl _) ?_ 0 w2 (Below.refl _ _);rw [(dT dZ (n:=a) (Nat.le_refl _)).1,hl,(dT dZ (n:=b) (Nat.le_refl _)).1]
 ·rw [pY hl,pY (CF dZ hl)];exact ac.yes rfl ⟨rfl,b02⟩
section
variable {κ:Type} [DecidableEq κ] (k:Nat→κ)
def aJ:Nat→List Nat
 |0=>[]
 |i+1=>match(aJ i).findIdx? (fun a=>decide (k a=k i))with
  |some _=>aJ i
  |none=>aJ i++ [i]
def clsOf (i:Nat):Nat:=((aJ k i).findIdx? (fun a=>decide (k a=k i))).getD (aJ k i).length
variable {k}
theorem yQ (i:Nat):aJ k (i+1)=match(aJ k i).findIdx? (fun a=>decide (k a=k i))with
  |some _=>aJ k i
  |none=>aJ k i++ [i]:=rfl
theorem iX:∀ {n:Nat} {a:Nat},a∈aJ k n→a<n
 |0,a,h=>by cases h
 |n+1,a,h=>by
  unfold aJ at h;split at h
  ·have:=iX h;omega
  ·rcases List.mem_append.1 h with h |h
   ·have:=iX h;omega
   ·rw [List.mem_singleton.1 h];omega
theorem qX:∀ {n:Nat} (d:Nat),∃t,aJ k (n+d)=aJ k n++t
 |n,0=>⟨[],by simp⟩
 |n,d+1=>by
  obtain⟨t,h⟩:=qX (n:=n) d;rw [←Nat.add_assoc,aJ];split
  ·exact⟨t,h⟩
  ·exact⟨t++ [n+d],by rw [h,List.append_assoc]⟩
theorem jH:∀ {n:Nat} (c c':Nat) (h:c< (aJ k n).length) (h':c'< (aJ k n).length),k (aJ k n)[c]=k (aJ k n)[c']→c=c'
 |0,c,c',h,_,_=>absurd h (Nat.not_lt_zero c)
 |n+1,c,c',h,h',e=>by
  have key:(aJ k (n+1)=aJ k n)∨(aJ k (n+1)=aJ k n++ [n]∧∀a∈aJ k n,k a≠k n):=by
   rw [yQ];split
   ·exact .inl rfl
   ·next hh=>
    refine .inr ⟨rfl,fun a ha=>?_⟩;have:=List.findIdx?_eq_none_iff.1 hh a ha;simpa using this
  rcases key with hk |⟨hk,hn⟩
  ·simp only [hk]at h h' e;exact jH c c' h h' e
  ·simp only [hk]at h h' e;rw [List.length_append,List.length_singleton]at h h';by_cases h1:c< (aJ k n).length
   ·by_cases h2:c'< (aJ k n).length
    ·rw [List.getElem_append_left h1,List.getElem_append_left h2]at e;exact jH c c' h1 h2 e
    ·have:c'=(aJ k n).length:=by omega
     subst this;rw [List.getElem_append_left h1,List.getElem_append_right (Nat.le_refl _)]at e;simp only [Nat.sub_self,List.getElem_singleton]at e;exact absurd e (hn _ (List.getElem_mem h1))
   ·have:c=(aJ k n).length:=by omega
    subst this;by_cases h2:c'< (aJ k n).length
    ·rw [List.getElem_append_left h2,List.getElem_append_right (Nat.le_refl _)]at e;simp only [Nat.sub_self,List.getElem_singleton]at e;exact absurd e.symm (hn _ (List.getElem_mem h2))
    ·omega
theorem dX (i:Nat):(∃c,(aJ k i).findIdx? (fun a=>decide (k a=k i))=some c∧aJ k (i+1)=aJ k i∧clsOf k i=c∧∃h:c< (aJ k i).length,k (aJ k i)[c]=k i)∨((aJ k i).findIdx? (fun a=>decide (k a=k i))=none∧aJ k (i+1)=aJ k i++ [i]∧clsOf k i=(aJ k i).length∧∀a∈aJ k i,k a≠k i):=by
 cases h:(aJ k i).findIdx? (fun a=>decide (k a=k i))with
 |none=>
  refine .inr ⟨rfl,by rw [aJ,h],by rw [clsOf,h];rfl,fun a ha=>?_⟩;have:=List.findIdx?_eq_none_iff.1 h a ha;simpa using this
 |some c=>
  obtain⟨h1,h2,_⟩:=List.findIdx?_eq_some_iff_getElem.1 h;exact .inl ⟨c,rfl,by rw [aJ,h],by rw [clsOf,h];rfl,h1,by simpa using h2⟩
theorem wB (i:Nat):clsOf k i≤(aJ k i).length∧(aJ k (i+1)).length=max (aJ k i).length (clsOf k i+1):=by
 rcases dX (k:=k) i with⟨c,_,h2,h3,h4,_⟩ |⟨_,h2,h3,_⟩
 ·rw [h2,h3];omega
 ·rw [h2,h3,List.length_append,List.length_singleton];omega
theorem rr {n i:Nat} (hi:i<n):∃h:clsOf k i< (aJ k n).length,k (aJ k n)[clsOf k i]=k i:=by
 obtain⟨t,ht⟩:=qX (k:=k) (n:=i+1) (n- (i+1));rw [show i+1+(n- (i+1))=n by omega]at ht;have key:∃h:clsOf k i< (aJ k (i+1)).length,k (aJ k (i+1))[clsOf k i]=k i:=by
  rcases dX (k:=k) i with⟨c,_,h2,h3,h4,h5⟩ |⟨_,h2,h3,_⟩
  ·simp only [h2,h3];exact⟨h4,h5⟩
  ·simp only [h2,h3];exact⟨by simp,by simp⟩
 obtain⟨h1,h2⟩:=key;simp only [ht];exact⟨by rw [List.length_append];omega,by rw [List.getElem_append_left h1];exact h2⟩
theorem pM {n i j:Nat} (hi:i<n) (hj:j<n):clsOf k i=clsOf k j↔k i=k j:=by
 obtain⟨h1,h2⟩:=rr (k:=k) hi;obtain⟨h3,h4⟩:=rr (k:=k) hj;constructor
 ·intro e;rw [←h2, ←h4];simp only [e]
 ·intro e;exact jH _ _ h1 h3 (by rw [h2,h4,e])
end
open Go Go.Value
theorem ug (z:Nat):IntKind.wrap .u8 (z:Int)=(((UInt8.ofNat z).toNat:Nat):Int):=by
 rw [UInt8.toNat_ofNat'];unfold IntKind.wrap;rw [if_neg (by rw [show IntKind.u8.signed=false from rfl,Bool.false_and];exact Bool.false_ne_true)];rfl
theorem zI (w:World) (n:Nat) (hn:n≤1000000):(Instr.makeSlice tH (.int .i64 n) (.int .i64 n)).run Tryz.prog w= .ok (.slice (some (nb w)) n n) (w.alloc (.cells (Array.replicate n (.int .u32 0)) dW)):=by
 obtain⟨i,hi,hz,hs,hb⟩:=info_parts uW;have:=Go.run_make (P:=Tryz.prog) w tH dW i (.int .u32 0) uP hi hz .i64 .i64 (n:Int) (n:Int) (by omega) (Int.le_refl _) (by rw [hb];omega) (by omega);rw [this];congr 3;rw [hs];apply Array.ext
 ·rw [size_madeCells];simp
 ·intro j h1 h2;simp only [madeCells,Array.getElem_map,Array.getElem_range,Array.getElem_replicate];show(#[Value.int .u32 0]:Array Value)[j%1]! =_;rw [Nat.mod_one];rfl
theorem KH {x y:Nat} (hx:x<4294967296) (hy:y<4294967296):IntKind.wrap .u64 ((BitVec.ofInt (IntKind.bits .u64) (IntKind.wrap .u64 ((x:Int)*2^(min (32:Int).toNat (IntKind.bits .u64))))|||BitVec.ofInt (IntKind.bits .u64) (IntKind.wrap .u64 (y:Int))).toNat:Int)=((x*4294967296+y:Nat):Int):=by
 have h1:(x:Int)*2^(min (32:Int).toNat (IntKind.bits .u64))=((x*4294967296:Nat):Int):=by
  rw [show(2:Int)^(min (32:Int).toNat (IntKind.bits .u64))=4294967296 by decide];omega
 have hxb:x*4294967296<18446744073709551616:=by omega
 have hz:x*4294967296+y<18446744073709551616:=by
  have h1:=Nat.add_lt_add_left hy (x*4294967296);rw [←Nat.succ_mul]at h1;exact Nat.lt_of_lt_of_le h1 (Nat.mul_le_mul_right 4294967296 hx)
 rw [h1,dN hxb,dN (x:=y) (by omega)];show IntKind.wrap .u64 ((BitVec.ofInt 64 ((x*4294967296:Nat):Int)|||BitVec.ofInt 64 (y:Int)).toNat:Int)=_;rw [BitVec.toNat_or,fQ _ hxb,fQ _ (by omega)];have gen:∀B:Nat,B=2^32→∀x y:Nat,y<B→x*B|||y=x*B+y:=by
  intro B hB x y hy;subst hB;rw [Nat.mul_comm x];exact(Nat.two_pow_add_eq_or_of_lt hy x).symm
 have h2:x*4294967296|||y=x*4294967296+y:=gen _ (by decide) x y hy;rw [h2];exact dN hz
set_option maxHeartbeats 1000000 in
theorem rC (w:World) (la:Sl) (a m:Nat) (ha:br w la a) (hm:m<4294967296) (h0:0<m) (h1:(dD 4294967296 a).length≤100000):
  CP 87 #[.agg #[la.v],.int .u32 (m:Int)] w fun e w'=>∃r:Sl,e= .returned (.tuple #[.agg #[r.v],.int .u32 ((a%m:Nat):Int)])∧br w' r (a/m)∧Below w.heap.size w w':=by
 refine aL (BK la.a la.n la.c (m:Int) w) ?_;intro w1 hw1 w2 hw2;have b1:Below w.heap.size w w1:=by subst hw1;exact ag _ _
 have b2:Below w1.heap.size w1 w2:=by subst hw2;exact ag _ _
 have z1:w1.heap.size=w.heap.size+1:=by subst hw1;exact av _ _
 have b02:=ae b1 b2;have x1:w2.heap[w.heap.size]? =some (.cells #[la.v] cD (0,0)):=ah b2 (by subst hw1;exact ak _ _);have x2:w2.heap[w1.heap.size]? =some (.cells #[bV.v] cD (0,0)):=by subst hw2;exact ak _ _
 have hna:=ha.n;obtain⟨N,hN⟩:∃N,N=(dD 4294967296 a).length:=⟨_,rfl⟩;rw [←hN]at hna h1;have b4:=ag w2 (.cells (Array.replicate N (.int .u32 0)) dW);have o4:(w2.alloc (.cells (Array.replicate N (.int .u32 0)) dW)).ownsRow w2.heap.size dW 1 (.slice (some (nb w2)) N N) N ((List.replicate N (0:Int)).flatMap eS):=by
  have:=fA (w:=w2) (e:=dW) (n:=N) (List.replicate N (Value.int .u32 0)) (by simp) (by omega) (Nat.le_refl w2.heap.size);have e:(List.replicate N (0:Int)).flatMap eS=List.replicate N (Value.int .u32 0):=by
   clear this hN hna h1 b4;induction N with
   |zero=>rfl
   |succ M ih=>rw [List.replicate_succ,List.flatMap_cons,ih,List.replicate_succ];rfl
  rw [e];simpa using this
 obtain⟨w4,hw4⟩:∃w4,w4=w2.alloc (.cells (Array.replicate N (.int .u32 0)) dW):=⟨_,rfl⟩;rw [←hw4]at b4 o4;refine ac.no (by simp;omega) ⟨_,_,_,cH x1,_,_,_,w4,by rw [hna,hw4];exact zI w2 N (by omega),_,_,_,cH (ah b4 x1),?_⟩;rw [hna];refine Ar.ok64 (by omega) (by omega) ?_;intro I hI;have key:∀i,i≤N→∀(rest:Nat) (L:List Int) (q:World),L.length=N→z_ 4294967296 L→(∀(j:Nat) (hj:j<L.length),j<i→L[j]=0)→cQ 4294967296 (L.drop i)*m+rest=a/4294967296^i→rest<m→q.ownsRow w2.heap.size dW 1 (.slice (some (nb w2)) N N) N (L.flatMap eS)→Below w2.heap.size w2 q→I [.int .i64 ((i:Int)-1),.int .u64 (rest:Int)] q:=by
  intro i;induction i with
  |zero=>
   intro _ rest L q hL hin hz hv hr ho hq;rw [List.drop_zero,Nat.pow_zero,Nat.div_one]at hv;refine hI _ _ q (ac.no rfl ((gM q ⟨some (nb w2),N,N⟩ L (LsAt.of_own rp ho) (gR (l:=⟨some (nb w2),N,N⟩) ho) (Nat.le_refl _) hin (by omega)).mono ?_));rintro e w7 ⟨r,rfl,hR,b7⟩;have hB7:=ae hq b7;refine⟨r.a,r.n,r.c,rfl,cU (s:=r) (ah hB7 x2) fun q' hx hN' hB _ _=>⟨_,_,_,bc hx,r,?_,hN' _ _ ?_,hB _ _ (by omega) (ae b02 hB7)⟩⟩
   ·have e1:a%m=rest:=by rw [←hv,Nat.mul_comm,Nat.mul_add_mod,Nat.mod_eq_of_lt hr]
    rw [e1,eC,Nat.mod_eq_of_lt (by omega)]
   ·have e2:a/m=cQ 4294967296 L:=by rw [←hv,Nat.mul_comm,Nat.mul_add_div h0,Nat.div_eq_of_lt hr,Nat.add_zero]
    rw [e2];exact hR
  |succ i ih=>
   intro hle rest L q hL hin hz hv hr ho hq;rw [show((i+1:Nat):Int)-1=(i:Int) by omega];have hlt:i< (dD 4294967296 a).length:=by omega
   obtain⟨p,hp,c0⟩:=aZ (br.on ha (ae b02 hq)).r hlt rfl;rw [gL dZ hlt]at c0;have m1:=Nat.mod_lt (a/4294967296^i) (show 0<4294967296 by decide);obtain⟨s,hs⟩:∃s,s=rest*4294967296+a/4294967296^i%4294967296:=⟨_,rfl⟩;obtain⟨q1,q2,q3⟩:=DD (b:=4294967296) dZ h0 hv hr hs;have hsb:s<18446744073709551616:=by omega
   refine hI _ _ q (ac.yes (decide_eq_true (by omega)) ⟨by decide,_,_,_,cH (ah hq x1),af.mk p hp ⟨by omega,by omega,_,c0,by rw [dN (by omega)];omega,af.mk _ rfl ⟨by omega,by omega,?_⟩⟩⟩);rw [KH (by omega) m1, ←hs,dN (show m<18446744073709551616 by omega)];have ed:Int.tdiv (s:Int) (m:Int)=((s/m:Nat):Int):=rfl;have em:Int.tmod (s:Int) (m:Int)=((s%m:Nat):Int):=rfl;rw [ed,em,dN (Nat.lt_trans q3 (by decide)),eC,Nat.mod_eq_of_lt q3];have hst:=jF (enc:=eS) (fun _=>rfl) (by decide) (fun y u hu=>by rw [List.mem_singleton.1 hu];rfl) (l:=⟨some (nb w2),N,N⟩) ho hL.symm rfl i (by omega) ((s/m:Nat):Int) (k:=fun w6=>((m:Nat):Int)≠0∧Ar .i64 ((i:Int)-1) fun n_14=>I [Value.int .i64 n_14,Value.int .u64 ((s%m:Nat):Int)] w6) (fun w6 h6 hs6 hz6 hB6=>⟨by omega,Ar.ok64 (by omega) (by omega) (ih (by omega) (s%m) (L.set i ((s/m:Nat):Int)) w6 (by rw [List.length_set];exact hL) ?_ ?_ ?_ q2 h6 (hB6 _ _ (Nat.le_refl _) hq))⟩)
   ·exact fj hst
   ·intro x hx;rcases List.mem_or_eq_of_mem_set hx with hx |rfl
    ·exact hin x hx
    ·exact⟨Int.natCast_nonneg _,Int.ofNat_lt.2 q3⟩
   ·intro j hj hji;rw [List.length_set]at hj;rw [List.getElem_set_ne (by omega)];exact hz j hj (by omega)
   ·rw [←q1];congr 2;have e:(L.set i ((s/m:Nat):Int)).drop i=((s/m:Nat):Int)::L.drop (i+1):=by
     rw [List.drop_set,if_neg (by omega),Nat.sub_self,List.drop_eq_getElem_cons (show i<L.length by omega),List.set_cons_zero]
    rw [e];show(((s/m:Nat):Int)).toNat+_=_;rw [Int.toNat_natCast,Nat.add_comm]
 have hz:=dT dZ (n:=a) (i:=N) (by omega);refine key N (Nat.le_refl _) 0 (List.replicate N 0) w4 (by simp) ?_ ?_ ?_ h0 o4 b4
 ·intro x hx;rw [List.eq_of_mem_replicate hx];decide
 ·intro j hj _;simp
 ·rw [List.drop_of_length_le (by simp),hz.1];simp [cQ]
def nL (xs:List UInt8) (i:Nat):List UInt8:=(List.range xs.length).map fun k=>if k<i∨xs.length-i≤k then xs.getD (xs.length-1-k) 0 else xs.getD k 0
theorem cq (xs:List UInt8) (i:Nat):(nL xs i).length=xs.length:=by simp [nL]
theorem iZ (xs:List UInt8) (i:Nat) {k:Nat} (hk:k< (nL xs i).length):(nL xs i)[k]=if k<i∨xs.length-i≤k then xs.getD (xs.length-1-k) 0 else xs.getD k 0:=by simp [nL]
theorem Di (xs:List UInt8):nL xs 0=xs:=by
 apply List.ext_getElem
 ·exact cq xs 0
 ·intro k h1 h2;rw [iZ,if_neg (by omega)];simp [List.getD,h2]
theorem tT {xs:List UInt8} {i:Nat} (h:xs.length≤2*i+1) (hi:i≤xs.length):nL xs i=xs.reverse:=by
 apply List.ext_getElem
 ·rw [cq,List.length_reverse]
 ·intro k h1 h2;rw [List.length_reverse]at h2;rw [iZ,List.getElem_reverse];by_cases hk:k<i∨xs.length-i≤k
  ·rw [if_pos hk];simp [List.getD,show xs.length-1-k<xs.length by omega]
  ·rw [if_neg hk];have:xs.length-1-k=k:=by omega
   simp [List.getD,h2,this]
theorem DZ {xs:List UInt8} {i:Nat} (h:2*i+1<xs.length):((nL xs i).set i (xs.getD (xs.length-1-i) 0)).set (xs.length-1-i) (xs.getD i 0)=nL xs (i+1):=by
 apply List.ext_getElem
 ·rw [List.length_set,List.length_set,cq,cq]
 ·intro k h1 h2;rw [cq]at h2;rw [List.getElem_set,List.getElem_set,iZ,iZ];by_cases e1:xs.length-1-i=k
  ·rw [if_pos e1,if_pos (by omega)];congr 1;omega
  ·rw [if_neg e1];by_cases e2:i=k
   ·rw [if_pos e2,if_pos (by omega)];congr 1;omega
   ·rw [if_neg e2];by_cases hk:k<i∨xs.length-i≤k
    ·rw [if_pos hk,if_pos (by omega)]
    ·rw [if_neg hk,if_neg (by omega)]
theorem sw (w0 w:World) (B:Nat) (hB0:Below B w0 w) (l:Sl) (xs:List UInt8) (ho:w.ownsRow B lK 1 l.v l.n (xs.flatMap gn)) (hl:xs.length≤1000000):
  CP 88 #[l.v] w fun e w'=>e= .returned (.tuple #[])∧w'.ownsRow B lK 1 l.v l.n (xs.reverse.flatMap gn)∧Below B w0 w':=by
 refine aL (Bm l.a l.n l.c w) ?_;have hn:l.n=xs.length:=(Rw.of_own ho (fun _=>rfl) (by decide)).2;rw [hn]at ho⊢;refine Ar.ok64 (by omega) (by omega) ?_;intro I hI;have key:∀(d i:Nat) (q:World),xs.length-2*i≤d→i≤xs.length→q.ownsRow B lK 1 l.v xs.length ((nL xs i).flatMap gn)→Below B w0 q→I [.int .i64 ((xs.length:Int)-1- (i:Int)),.int .i64 (i:Int)] q:=by
  intro d;induction d with
  |zero=>
   intro i q hd hi ho hq;refine hI _ _ q (ac.no (decide_eq_false (by omega)) ⟨rfl,?_,hq⟩);rw [tT (by omega) hi]at ho;exact ho
  |succ d ih=>
   intro i q hd hi ho hq;by_cases hlt:(i:Int) < (xs.length:Int)-1- (i:Int)
   ·have hj:xs.length-1-i<xs.length:=by omega
    refine hI _ _ q (ac.yes (decide_eq_true hlt) ?_);intro w2 hw2;have b2:Below q.heap.size q w2:=by subst hw2;exact aO q
    have hq2:Below B w0 w2:=by subst hw2;exact hq.drew
    have ho2:=aE ho b2;have ho2':w2.ownsRow B lK 1 (Sl.v ⟨l.a,xs.length,l.c⟩) (Sl.n ⟨l.a,xs.length,l.c⟩) ((nL xs i).flatMap gn):=by
     have:Sl.v ⟨l.a,xs.length,l.c⟩=l.v:=by rw [←hn]
     rw [this];exact ho2
    have hr:=(Rw.of_own ho2' (fun _=>rfl) (by decide)).1;have gi:(nL xs i)[i]'(by rw [cq];omega)=xs.getD i 0:=by rw [iZ,if_neg (by omega)]
    have gj:(nL xs i)[xs.length-1-i]'(by rw [cq];omega)=xs.getD (xs.length-1-i) 0:=by rw [iZ,if_neg (by omega)]
    obtain⟨p,hp,ci⟩:=aZ hr (i:=i) (by rw [cq];omega) rfl;obtain⟨p2,hp2,cj⟩:=aZ hr (i:=xs.length-1-i) (by rw [cq];omega) rfl;rw [gi]at ci;rw [gj]at cj;have hp:l.a=some p:=hp;obtain rfl:p2=p:=by rw [show l.a=some p2 from hp2]at hp;cases hp;rfl
    have ej:(xs.length:Int)-1- (i:Int)=((xs.length-1-i:Nat):Int):=by omega
    rw [ej];refine af.mk p2 hp ⟨by omega,by omega,_,cj,af.mk p2 hp ⟨by omega,by omega,_,ci,af.mk p2 hp ⟨by omega,by omega,?_⟩⟩⟩;have hst:=jF (enc:=gn) (fun _=>rfl) (by decide) (fun y u hu=>by rw [List.mem_singleton.1 hu];rfl) (l:=⟨l.a,xs.length,l.c⟩) ho2' (cq xs i).symm (a:=p2) hp i (by rw [cq];omega) (xs.getD (xs.length-1-i) 0) (k:=fun w3=>af l.a fun pa_6=>(0:Int)≤((xs.length-1-i:Nat):Int)∧((xs.length-1-i:Nat):Int) < (xs.length:Int)∧(Value.int .u8 (((xs.getD i 0).toNat:Nat):Int)).oneCell'=true∧(∃u,w3.cell? (pa_6.add ((((xs.length-1-i:Nat):Int)).toNat*1))=some u)∧w3.frozen? (pa_6.add ((((xs.length-1-i:Nat):Int)).toNat*1))=false∧∀w4:World,w4=w3.setCell (pa_6.add ((((xs.length-1-i:Nat):Int)).toNat*1)) (Value.int .u8 (((xs.getD i 0).toNat:Nat):Int))→Ar .i64 ((i:Int)+1) fun n_7=>Ar .i64 (((xs.length-1-i:Nat):Int)-1) fun n_8=>I [Value.int .i64 n_8,Value.int .i64 n_7] w4) (fun w3 h3 hs3 hz3 hB3=>?_)
    ·exact fj hst
    ·refine af.mk p2 hp ⟨by omega,by omega,?_⟩;have hst2:=jF (enc:=gn) (fun _=>rfl) (by decide) (fun y u hu=>by rw [List.mem_singleton.1 hu];rfl) (l:=⟨l.a,xs.length,l.c⟩) h3 (by rw [List.length_set,cq]) (a:=p2) hp (xs.length-1-i) (by rw [List.length_set,cq];omega) (xs.getD i 0) (k:=fun w4=>Ar .i64 ((i:Int)+1) fun n_7=>Ar .i64 (((xs.length-1-i:Nat):Int)-1) fun n_8=>I [Value.int .i64 n_8,Value.int .i64 n_7] w4) (fun w4 h4 hs4 hz4 hB4=>?_)
     ·exact fj hst2
     ·rw [DZ (by omega)]at h4;have:Sl.v ⟨l.a,xs.length,l.c⟩=l.v:=by rw [←hn]
      rw [this]at h4;refine Ar.nat (i+1) rfl (by omega) (Ar.ok64 (by omega) (by omega) ?_);rw [show((xs.length-1-i:Nat):Int)-1=(xs.length:Int)-1- ((i+1:Nat):Int) by omega];exact ih (i+1) w4 (by omega) (by omega) h4 (hB4 _ _ (Nat.le_refl _) (hB3 _ _ (Nat.le_refl _) hq2))
   ·refine hI _ _ q (ac.no (decide_eq_false hlt) ⟨rfl,?_,hq⟩);rw [tT (by omega) hi]at ho;exact ho
 have:=key xs.length 0 w (by omega) (Nat.zero_le _) (by rw [Di];exact ho) hB0;rw [show(xs.length:Int)-1- ((0:Nat):Int)=(xs.length:Int)-1 by omega]at this;exact this
open Go Go.RowKit Go.Shelf
attribute [local go_sem] Oper.semAt_some
attribute [local go_sem] Oper.semAt_some
set_option linter.unusedSectionVars false
def eI {κ:Type} (kv:κ→Value) (w:World) (r:Nat) (m:List (κ×Value)):Prop:=∃es clock,w.heap[r]? =some (.map es clock)∧es.toList.map (fun x=>(x.key,x.val))=m.map (fun p=>(kv p.1,p.2))∧(∀x∈es.toList,x.born<clock)∧(es.toList.map (·.born)).Nodup
section
variable {P:Program} {kt et t:TypeId} {κ:Type} [DecidableEq κ] {kv:κ→Value}
theorem eI.is {w:World} {r:Nat} {m:List (κ×Value)} (h:eI kv w r m):bv kv w r m:=by
 obtain⟨es,c,h1,h2,h3,_⟩:=h;exact⟨es,c,h1,h2,h3⟩
theorem eI.same {w w':World} {r:Nat} {m:List (κ×Value)} (h:eI kv w r m) (hs:w'.heap[r]? =w.heap[r]?):eI kv w' r m:=by
 obtain⟨es,c,h1,h2⟩:=h;exact⟨es,c,by rw [hs];exact h1,h2⟩
theorem eI.lt {w:World} {r:Nat} {m:List (κ×Value)} (h:eI kv w r m):r<w.heap.size:=h.is.lt
theorem DT (w:World):eI kv (w.alloc (.map #[] 0)) w.heap.size []:=⟨#[],0,ak w _,rfl,by simp,by simp⟩
theorem Df (K:hD P kt κ kv) (ht:P.underlying t=some (.map kt et)) {w:World} {r:Nat} {m:List (κ×Value)} (h:eI kv w r m) (k:κ) (v:Value) (hk:ez k m=none):
  ∃w',(Instr.mapUpdate t (.map (some r)) (kv k) v).run P w= .ok () w'∧eI kv w' r (m++ [(k,v)])∧(∀j,j≠r→w'.heap[j]? =w.heap[j]?)∧w'.heap.size=w.heap.size∧(∀B w0,B≤r→Below B w0 w→Below B w0 w'):=by
 obtain⟨es,clock,hb,hm,hst,hnd⟩:=h;have hlt:=(Array.getElem?_eq_some_iff.1 hb).1;have hl:=fa k m 0;rw [hk]at hl;have hx:dE k m 0=none:=by
  cases hx:dE k m 0 with
  |none=>rfl
  |some q=>rw [hx]at hl;cases hl
 refine⟨{w with heap:=w.heap.setIfInBounds r (.map (es.push {key:=kv k,val:=v,born:=clock}) (clock+1))},?_,?_,?_,by simp,?_⟩
 ·unfold Instr.mapUpdate;simp only [Sem.run_bind,run_underlying ht,Result.andThen,fg hb,K.check,K.find k es.toList m w hm,hx];exact jb _ hb
 ·refine⟨es.push {key:=kv k,val:=v,born:=clock},clock+1,by simp [hlt],by simp [hm],fun x hx=>?_,?_⟩
  ·rw [Array.toList_push,List.mem_append,List.mem_singleton]at hx;rcases hx with hx |rfl
   ·have:=hst x hx;omega
   ·exact Nat.lt_succ_self _
  ·rw [Array.toList_push,List.map_append,List.nodup_append];refine⟨hnd,by simp,fun a ha b hb' e=>?_⟩;obtain⟨x,hx,rfl⟩:=List.mem_map.1 ha;have:=hst x hx;simp at hb';omega
 ·intro j hj;simp [Array.getElem?_setIfInBounds_ne (fun e=>hj e.symm)]
 ·intro B w0 hB h0;exact h0.trans ⟨rfl,rfl,rfl,by simp,fun j hj=>by simp [Array.getElem?_setIfInBounds_ne (show r≠j by omega)]⟩
end
section
variable (w0:World) (S:List Bs) (nd:Bs→Nat) (idf:Bs→Int) (N:Nat)
end
end Go.Proofs.YtdlcfegnaphclaaGreat.Eng
