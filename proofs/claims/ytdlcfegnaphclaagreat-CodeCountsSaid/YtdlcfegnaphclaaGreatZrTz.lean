/- The trie: what lies below a node, rising; the longer tokens; walked by the engine. -/
import Derived.Test.YtdlcfegnaphclaaGreatZrNc
import Derived.Test.YtdlcfegnaphclaaGreatZrSh
import Derived.Sort.OwnSortedInts
import Derived.Test.YtdlcfegnaphclaaGreatZrTab
import Derived.Test.YtdlcfegnaphclaaGreatZrGr
set_option linter.unusedVariables false
set_option linter.unusedSimpArgs false
set_option maxRecDepth 100000
namespace Go.Proofs.YtdlcfegnaphclaaGreat.Eng
open Go Go.RowKit
section
variable {pb v r n1:Nat} {s:ar} {T:List aP} {S:List Bs} {nd mp:Bs→Nat} {A:Option Addr} {C:Nat} {Z:List Int}
end
section
variable {pb v r n1:Nat} {s:ar} {T:List aP} {S:List Bs} {nd mp:Bs→Nat} {A:Option Addr} {C:Nat} {Z:List Int}
end
open Go Go.Value
section
variable {pb v r n1:Nat} {s:ar} {T:List aP} {S:List Bs} {nd mp:Bs→Nat} {A:Option Addr} {C:Nat} {Z:List Int}
end
section
variable {pb v r n1:Nat} {s:ar} {T:List aP} {S:List Bs} {nd mp:Bs→Nat} {A:Option Addr} {C:Nat} {Z:List Int}
end
section
variable {w w':World} {b:Nat} {c:Array Value} {e:TypeId} {fz:Nat×Nat}
theorem h_ (hb:w.heap[b]? =some (.cells c e fz)) (t:au b w w') {B sz n:Nat} {e2:TypeId} {u:Value} {xs:List Value} (ho:w.ownsRow B e2 sz u n xs) (he:e2≠e):w'.ownsRow B e2 sz u n xs:=
 aN ho fun k hk=>t.block k (b_ ho k hk).2 fun e3=>az ho hb he (by rw [hk,e3])
end
def mr (d:Int):UInt8:=UInt8.ofNat (48+d.toNat)
def jB (n:Nat):Bs:=if n=0 then [48]else((dD 10 n).map mr).reverse
theorem k_:2≤10:=by decide
theorem Dm {n L:Nat} (h:(dD 4294967296 n).length≤L):(dD 10 n).length≤10*L:=by
 refine Nat.le_of_not_lt fun hlt=>?_;have h1:=(gG k_ n (10*L)).1 hlt;have h2:n<4294967296^L:=Nat.lt_of_not_le fun hh=>by
  have:=(gG dZ n L).2 hh;omega
 have h3:4294967296^L≤(10^10)^L:=Nat.pow_le_pow_left (by decide) L;rw [←Nat.pow_mul]at h3;omega
theorem Ar.u32 {z:Int} {F:Int→Prop} (n:Nat) (hz:z=(n:Int)) (hn:n<4294967296) (h:F (n:Int)):Ar .u32 z F:=by
 subst hz;exact Ar.ok (k:=.u32) (by show(0:Int)≤_;omega) (by show _≤(4294967295:Int);omega) h
theorem cX {q q':World} {b:Nat} (hB:∀B w0,B≤b→Below B w0 q→Below B w0 q') (hne:∀j,j≠b→q'.heap[j]? =q.heap[j]?) (hz:q'.heap.size=q.heap.size):au b q q':=by
 have h0:=hB 0 q (Nat.zero_le _) (Below.refl _ _);exact⟨h0.os,h0.tape,h0.output,by omega,fun k _ hk=>hne k hk⟩
theorem EX {m i q r:Nat} (hi:i<9) (hm:m=q*10^(9-i)+r):m%10=r%10∧m/10=q*10^(9- (i+1))+r/10:=by
 have e:10^(9-i)=10^(9- (i+1))*10:=by rw [←Nat.pow_succ];congr 1;omega
 rw [e, ←Nat.mul_assoc]at hm;omega
set_option maxHeartbeats 2000000 in
theorem ij (w:World) (la:Sl) (n:Nat) (h:br w la n) (hl:(dD 4294967296 n).length≤10000):
  CP 46 #[.agg #[la.v]] w fun e w'=>e= .returned (.string (str (jB n)))∧Below w.heap.size w w':=by
 refine aL (Ak la.a la.n la.c w) ?_;intro w1 hw1;have b1:Below w.heap.size w w1:=by subst hw1;exact ag _ _
 have z1:w1.heap.size=w.heap.size+1:=by subst hw1;exact av _ _
 have x1:w1.heap[w.heap.size]? =some (.cells #[la.v] cD (0,0)):=by subst hw1;exact ak _ _
 refine⟨_,_,_,bc x1,(eB w1 la n (h.on b1)).mono ?_⟩;rintro e w2 ⟨rfl,b2⟩;have b02:=ae b1 b2;refine⟨_,rfl,ac.mk (fun h0=>?_) fun h0=>?_⟩
 ·have h0:=of_decide_eq_true h0;unfold jB;rw [if_pos h0];exact⟨rfl,b02⟩
 have hn0:=of_decide_eq_false h0;have hdl:=Dm hl;intro I hI;have key:∀(a:Nat) (l:Sl) (bs:List UInt8) (f:Sl) (q:World),a≤n→br q l a→q.heap[w.heap.size]? =some (.cells #[l.v] cD (0,0))→q.ownsRow w1.heap.size lK 1 f.v f.n (bs.flatMap gn)→Below w.heap.size w q→bs++(dD 10 a).map mr=(dD 10 n).map mr→I [f.v] q:=by
  intro a;induction a using Nat.strongRecOn with
  |ind a IH=>
   intro l bs f q han hN hx ho hq hbs;have hla:(dD 4294967296 a).length≤10000:=Nat.le_trans (sj dZ han) hl;refine hI f.a f.n f.c q ⟨_,_,_,bc hx,(eB q l a hN).mono ?_⟩;rintro e w4 ⟨rfl,b4⟩;have hq4:=ae hq b4;have hx4:=ah b4 hx;have ho4:=aE ho b4;refine⟨_,rfl,ac.mk (fun ha0=>?_) fun ha0=>?_⟩
   ·have ha0:¬a=0:=by simpa using ha0
    refine⟨_,_,_,bc hx4,(rC w4 l a 1000000000 (hN.on b4) (by decide) (by decide) (by omega)).mono ?_⟩;rintro e w5 ⟨r,rfl,hR,b5⟩;have hq5:=ae hq4 b5;have hz5:=hq5.size;refine⟨r.a,r.n,r.c,_,rfl,?_⟩;intro w6 hw6;have b6:Below w5.heap.size w5 w6:=by subst hw6;exact ag _ _
    have x6:w6.heap[w5.heap.size]? =some (.cells #[bV.v] cD (0,0)):=by subst hw6;exact ak _ _
    have hlt5:w.heap.size<w5.heap.size:=(Array.getElem?_eq_some_iff.1 (ah b5 hx4)).1;refine cU (s:=r) x6 fun w7 hx7 hN7 hB7 hs7 hz7=>?_;have b57:Below w5.heap.size w5 w7:=hB7 _ _ (Nat.le_refl _) b6;have hx7a:=ah b57 (ah b5 hx4);have hR7:=br.on hR b57;have ho7:=aE (aE ho4 b5) b57;have hq7:=ae hq5 b57;have h1w:w1.heap.size≤w5.heap.size:=by omega
    intro J hJ;have inner:∀(d i:Nat),i+d=9→∀(x:Nat) (bs:List UInt8) (f:Sl) (q:World),x<10^(9-i)→bs++(dD 10 (a/1000000000*10^(9-i)+x)).map mr=(dD 10 n).map mr→q.ownsRow w1.heap.size lK 1 f.v f.n (bs.flatMap gn)→br q r (a/1000000000)→q.heap[w5.heap.size]? =some (.cells #[r.v] cD (0,0))→q.heap[w.heap.size]? =some (.cells #[l.v] cD (0,0))→Below w.heap.size w q→J [.int .i64 (i:Int),.int .u32 (x:Int),f.v] q:=by
     intro d;induction d with
     |zero=>
      intro i hi x bs f q hx9 hbs ho hNr y5 y1 hq;have hi9:i=9:=by omega
      subst hi9;have hx0:x=0:=by simpa using hx9
      subst hx0;refine hJ _ _ f.a f.n f.c q (ac.no rfl ⟨_,_,_,bc y5,cU (s:=r) y1 fun q' hx' hN' hB' hs' hz'=>?_⟩);exact IH _ (Nat.div_lt_self (by omega) (by decide)) r bs f q' (Nat.le_trans (Nat.div_le_self _ _) han) (hN' _ _ hNr) hx' (h_ y1 (cX hB' hs' hz') ho (by decide)) (hB' _ _ (Nat.le_refl _) hq) (by simpa using hbs)
     |succ d ih=>
      intro i hi x bs f q hx9 hbs ho hNr y5 y1 hq;have hx32:x<4294967296:=Nat.lt_of_lt_of_le hx9 (Nat.le_trans (Nat.pow_le_pow_right (by decide) (show 9-i≤9 by omega)) (by decide));obtain⟨m,hm⟩:∃m,m=a/1000000000*10^(9-i)+x:=⟨_,rfl⟩;rw [←hm]at hbs;obtain⟨s1,s2⟩:=EX (by omega) hm;have hfn:f.n=bs.length:=(Rw.of_own ho (fun _=>rfl) (by decide)).2;have hbl:bs.length≤100000:=by
       have:=congrArg List.length hbs;rw [List.length_append,List.length_map,List.length_map]at this;omega
      have push:m≠0→∀q2,Below q.heap.size q q2→Ar .u32 ((48:Int)+Int.tmod (x:Int) 10) (fun n=>∀w9:World,w9=q2.alloc (.cells #[Value.int .u8 (IntKind.wrap .u8 n)] lK)→
        ∃lA:Option Addr,∃lN lC:Nat,∃w10:World,(Builtin.append_ #[jW,jW] jW #[Value.slice f.a f.n f.c,Value.slice (some (nb q2)) 1 1]).run Tryz.prog w9= .ok (Value.slice lA lN lC) w10∧(10:Int)≠0∧Ar .i64 ((i:Int)+1) (fun n_13=>J [Value.int .i64 n_13,Value.int .u32 (IntKind.wrap .u32 (Int.tdiv (x:Int) 10)),Value.slice lA lN lC] w10)):=by
       intro hm0 q2 bq2;have em:Int.tmod (x:Int) 10=((x%10:Nat):Int):=rfl;have ed:Int.tdiv (x:Int) 10=((x/10:Nat):Int):=rfl;rw [em,ed,eC,Nat.mod_eq_of_lt (show x/10<4294967296 by omega)];refine Ar.u32 (48+x%10) (by omega) (by omega) ?_;intro w9 hw9;rw [ug]at hw9;have hq2:=ae hq bq2;have hzq:=hq2.size;have hw1q:w1.heap.size≤q2.heap.size:=by
        have:=(Array.getElem?_eq_some_iff.1 (ah bq2 y5)).1;omega
       obtain⟨f',w10,e1,e2,e3,e4,e5⟩:=GF.push (aE ho bq2) (UInt8.ofNat (48+x%10)) hw9 rfl hw1q (by omega) (by decide);refine⟨f'.a,f'.n,f'.c,w10,e2,by decide,Ar.nat (i+1) rfl (by omega) ?_⟩;have hb10:Below w1.heap.size q2 w10:=e4 _ (Below.refl _ _);have keepN:∀ {b:Nat} {s:Sl},q2.heap[b]? =some (.cells #[s.v] cD (0,0))→w10.heap[b]? =some (.cells #[s.v] cD (0,0)):=fun {b s} hb=>by
        rw [e5 b (Array.getElem?_eq_some_iff.1 hb).1 (fun he=>az (aE ho bq2) hb (by decide) he)];exact hb
       have keepR:br w10 r (a/1000000000):=by
        refine(hNr.on bq2).keep (fun p c fz _ hc=>e5 _ (Array.getElem?_eq_some_iff.1 hc).1 fun he=>az (aE ho bq2) hc (by decide) he) (by have:=hb10.size;omega)
       have hin:bs++ [UInt8.ofNat (48+x%10)]++(dD 10 (m/10)).map mr=(dD 10 n).map mr:=by
        rw [←hbs,kL k_ hm0,List.map_cons,List.append_assoc];congr 1;show _::_=_;rw [s1];rfl
       rw [s2]at hin;have:=ih (i+1) (by omega) (x/10) (bs++ [UInt8.ofNat (48+x%10)]) f' w10 (by
        have e:10^(9-i)=10^(9- (i+1))*10:=by rw [←Nat.pow_succ];congr 1;omega
        rw [e]at hx9;omega) hin e3 keepR (keepN (ah bq2 y5)) (keepN (ah bq2 y1)) (hq2.trans (hb10.mono (by omega)))
       exact this
      refine hJ _ _ f.a f.n f.c q (ac.yes (decide_eq_true (by omega)) (ac.mk (fun hr=>?_) fun hr=>?_))
      ·have hr:=of_decide_eq_true hr;exact⟨by decide,push (by omega) q (Below.refl _ _)⟩
      ·have hr:=of_decide_eq_false hr;have hx0:x=0:=by omega
       refine⟨_,_,_,bc y5,(eB q r _ hNr).mono ?_⟩;rintro e w11 ⟨rfl,b11⟩;refine⟨_,rfl,ac.mk (fun hz=>?_) fun hz=>?_⟩
       ·have hz:¬a/1000000000=0:=by simpa using hz
        refine⟨by decide,push ?_ w11 b11⟩;have:=Nat.mul_pos (Nat.pos_of_ne_zero hz) (Nat.pow_pos (n:=9-i) (show 0<10 by decide));omega
       ·have hz:a/1000000000=0:=by simpa using hz
        have hm0:m=0:=by rw [hm,hz,hx0];simp
        refine⟨_,_,_,bc (ah b11 y5),cU (s:=r) (ah b11 y1) fun q' hx' hN' hB' hs' hz'=>?_⟩;refine IH _ (Nat.div_lt_self (by omega) (by decide)) r bs f q' (Nat.le_trans (Nat.div_le_self _ _) han) (hN' _ _ (hNr.on b11)) hx' (h_ (ah b11 y1) (cX hB' hs' hz') (aE ho b11) (by decide)) (hB' _ _ (Nat.le_refl _) (ae hq b11)) ?_;rw [hz];rw [hm0]at hbs;exact hbs
    refine inner 9 0 rfl (a%1000000000) bs f w7 (Nat.mod_lt _ (by decide)) ?_ ho7 hR7 hx7 hx7a hq7;rw [show 10^(9-0)=1000000000 by decide,Nat.mul_comm,Nat.div_add_mod];exact hbs
   ·have ha0:a=0:=by simpa using ha0
    subst ha0;rw [dF,List.map_nil,List.append_nil]at hbs;subst hbs;have hr:=sw w4 w4 w1.heap.size (Below.refl _ _) f _ ho4 (by rw [List.length_map];omega);refine hr.mono ?_;rintro e w16 ⟨rfl,o16,b16⟩;refine⟨rfl,_,w16,iC (P:=Tryz.prog) mC Gh ud (by rw [←zW];exact o16),?_,hq4.trans (b16.mono (by omega))⟩;unfold jB;rw [if_neg hn0]
 exact key n la [] bV w2 (Nat.le_refl _) (h.on b02) (ah b2 x1) (cS w2 w1.heap.size lK 1 gn) b02 (List.nil_append _)
theorem jy {κ κ':Type} [DecidableEq κ] [DecidableEq κ'] {k:Nat→κ} {k':Nat→κ'}:∀ {N:Nat},(∀i j,i<N→j<N→k' i=k' j→k i=k j)→(aJ k N).Sublist (aJ k' N)
 |0,_=>List.Sublist.refl _
 |N+1,h=>by
  have ih:=jy (N:=N) fun i j hi hj=>h i j (by omega) (by omega);rcases dX (k:=k) N with⟨c,_,h2,_,_⟩ |⟨_,h2,_,h4⟩
  ·rw [h2];rcases dX (k:=k') N with⟨c',_,g2,_,_⟩ |⟨_,g2,_,_⟩
   ·rw [g2];exact ih
   ·rw [g2];exact ih.trans (List.sublist_append_left _ _)
  ·rw [h2];rcases dX (k:=k') N with⟨c',_,g2,_,hc,e⟩ |⟨_,g2,_,_⟩
   ·exfalso;have hm:=List.getElem_mem hc;have hl:=iX hm;obtain⟨q1,q2⟩:=rr (k:=k) hl;exact h4 _ (List.getElem_mem q1) (q2.trans (h _ _ (by omega) (by omega) e))
   ·rw [g2];exact ih.append (List.Sublist.refl _)
theorem kZ {κ:Type} [DecidableEq κ] (k:Nat→κ):∀i,(aJ k i).length≤i
 |0=>Nat.le_refl _
 |i+1=>by
  have h1:=wB (k:=k) i;have h2:=kZ k i;omega
theorem yV {κ κ':Type} [DecidableEq κ] [DecidableEq κ'] {k:Nat→κ} {k':Nat→κ'} {N:Nat} (h:∀i j,i<N→j<N→k' i=k' j→k i=k j) (hl:(aJ k' N).length=(aJ k N).length) {i j:Nat} (hi:i<N) (hj:j<N):k i=k j→k' i=k' j:=by
 have e:=(jy h).eq_of_length hl.symm;intro hk;obtain⟨i1,i2⟩:=rr (k:=k') hi;obtain⟨j1,j2⟩:=rr (k:=k') hj;have mi:=iX (List.getElem_mem i1);have mj:=iX (List.getElem_mem j1);have ki:=h _ _ mi hi i2;have kj:=h _ _ mj hj j2;have:clsOf k' i=clsOf k' j:=jH (k:=k) _ _ (by rw [e];exact i1) (by rw [e];exact j1) (by simp only [e];rw [ki,kj,hk]);rw [←i2, ←j2];simp only [this]
def fT (x:Nat):List UInt8:=[UInt8.ofNat x,UInt8.ofNat (x/256)]
theorem vj {x y:Nat} (hx:x<65536) (hy:y<65536) (h:fT x=fT y):x=y:=by
 unfold fT at h;simp only [List.cons.injEq,and_true]at h;have a:=congrArg UInt8.toNat h.1;have b:=congrArg UInt8.toNat h.2;simp only [UInt8.toNat_ofNat']at a b;omega
theorem v_:∀ {l m:List Nat},l.length=m.length→(∀x∈l,x<65536)→(∀x∈m,x<65536)→l.flatMap fT=m.flatMap fT→l=m
 | [],[],_,_,_,_=>rfl
 |x::l,y::m,hl,h1,h2,h=>by
  have e:fT x++l.flatMap fT=fT y++m.flatMap fT:=h;have:=List.append_inj e rfl;rw [vj (h1 x List.mem_cons_self) (h2 y List.mem_cons_self) this.1,v_ (by simpa using hl) (fun z hz=>h1 z (List.mem_cons_of_mem _ hz)) (fun z hz=>h2 z (List.mem_cons_of_mem _ hz)) this.2]
structure Aut where
 N:Nat
 n:Nat
 nxt:Nat→Nat→Nat
 good:Nat→Bool
structure Aut.Ok (M:Aut):Prop where
 lt:∀i k,i<M.N→k<M.n→M.nxt i k<M.N
 pos:0<M.N
 few:M.N≤60000
namespace Aut
variable (M:Aut)
def keyT (of:Nat→Nat) (i:Nat):List UInt8:=fT (of i)++((List.range M.n).map fun k=>of (M.nxt i k)).flatMap fT
def ofR:Nat→Nat→Nat
 |0=>clsOf M.good
 |r+1=>clsOf (M.keyT (ofR r))
def cntR:Nat→Nat
 |0=>(aJ M.good M.N).length
 |r+1=>(aJ (M.keyT (M.ofR r)) M.N).length
variable {M}
theorem keyT_iff {of:Nat→Nat} (h:∀i,i<M.N→of i<65536) (hM:M.Ok) {i j:Nat} (hi:i<M.N) (hj:j<M.N):M.keyT of i=M.keyT of j↔of i=of j∧∀k,k<M.n→of (M.nxt i k)=of (M.nxt j k):=by
 constructor
 ·intro e;have e:fT (of i)++_=fT (of j)++_:=e;have:=List.append_inj e rfl;refine⟨vj (h i hi) (h j hj) this.1,fun k hk=>?_⟩;have l:=v_ (by simp) (by intro x hx;obtain⟨k,hk,rfl⟩:=List.mem_map.1 hx;exact h _ (hM.lt _ _ hi (List.mem_range.1 hk))) (by intro x hx;obtain⟨k,hk,rfl⟩:=List.mem_map.1 hx;exact h _ (hM.lt _ _ hj (List.mem_range.1 hk))) this.2;have:=congrArg (fun l=>l[k]?) l;simpa [List.getElem?_range hk]using this
 ·rintro⟨h1,h2⟩;unfold keyT;rw [h1];congr 2;apply List.map_congr_left;intro k hk;exact h2 k (List.mem_range.1 hk)
theorem cls_lt {κ:Type} [DecidableEq κ] (k:Nat→κ) (i:Nat):clsOf k i≤i:=Nat.le_trans (wB (k:=k) i).1 (kZ k i)
theorem ofR_lt (hM:M.Ok) (r:Nat) {i:Nat} (hi:i<M.N):M.ofR r i<60000:=by
 have:=hM.few;cases r with
 |zero=>have:=cls_lt M.good i;unfold ofR;omega
 |succ r=>have:=cls_lt (M.keyT (M.ofR r)) i;unfold ofR;omega
theorem ofR_iff (hM:M.Ok) (r:Nat) {i j:Nat} (hi:i<M.N) (hj:j<M.N):M.ofR (r+1) i=M.ofR (r+1) j↔M.ofR r i=M.ofR r j∧∀k,k<M.n→M.ofR r (M.nxt i k)=M.ofR r (M.nxt j k):=by
 rw [←keyT_iff (fun i hi=>by have:=ofR_lt hM r hi;omega) hM hi hj];exact pM hi hj
theorem of0_iff {i j:Nat} (hi:i<M.N) (hj:j<M.N):M.ofR 0 i=M.ofR 0 j↔M.good i=M.good j:=pM hi hj
theorem ofR_good (hM:M.Ok):∀(r:Nat) {i j:Nat} (hi:i<M.N) (hj:j<M.N),M.ofR r i=M.ofR r j→M.good i=M.good j
 |0,i,j,hi,hj,h=>(of0_iff hi hj).1 h
 |r+1,i,j,hi,hj,h=>ofR_good hM r hi hj ((ofR_iff hM r hi hj).1 h).1
theorem cntR_le (r:Nat):M.cntR r≤M.N:=by
 cases r with
 |zero=>exact kZ _ _
 |succ r=>exact kZ _ _
theorem cntR_key (r:Nat):∃(κ:Type) (_:DecidableEq κ) (k:Nat→κ),M.ofR r=clsOf k∧M.cntR r=(aJ k M.N).length:=by
 cases r with
 |zero=>exact⟨Bool,inferInstance,M.good,rfl,rfl⟩
 |succ r=>exact⟨List UInt8,inferInstance,M.keyT (M.ofR r),rfl,rfl⟩
theorem firsts_cls {κ:Type} [DecidableEq κ] {k:Nat→κ} {N:Nat}:(aJ (clsOf k) N)=aJ k N:=by
 have sub:∀ {κ κ':Type} [DecidableEq κ] [DecidableEq κ'] {k:Nat→κ} {k':Nat→κ'},(∀i j,i<N→j<N→k' i=k' j→k i=k j)→(aJ k N).Sublist (aJ k' N):=fun h=>jy h;have a:=sub (k:=clsOf k) (k':=k) fun i j hi hj e=>(pM (k:=k) hi hj).2 e;have b:=sub (k:=k) (k':=clsOf k) fun i j hi hj e=>(pM (k:=k) hi hj).1 e;exact a.eq_of_length (Nat.le_antisymm a.length_le b.length_le)
theorem cntR_of (r:Nat):M.cntR r=(aJ (M.ofR r) M.N).length:=by
 obtain⟨κ,_,k,h1,h2⟩:=cntR_key (M:=M) r;rw [h2,h1,firsts_cls]
theorem cntR_mono (hM:M.Ok) (r:Nat):M.cntR r≤M.cntR (r+1):=by
 rw [cntR_of,cntR_of];exact(jy fun i j hi hj h=>((ofR_iff hM r hi hj).1 h).1).length_le
theorem ofR_stay (hM:M.Ok) {r:Nat} (h:M.cntR (r+1)=M.cntR r) {i j:Nat} (hi:i<M.N) (hj:j<M.N):M.ofR r i=M.ofR r j→M.ofR (r+1) i=M.ofR (r+1) j:=by
 rw [cntR_of,cntR_of]at h;exact yV (fun i j hi hj h=>((ofR_iff hM r hi hj).1 h).1) h hi hj
structure Bis (M:Aut) (R:Nat→Nat→Prop):Prop where
 good:∀i j,i<M.N→j<M.N→R i j→M.good i=M.good j
 next:∀i j k,i<M.N→j<M.N→k<M.n→R i j→R (M.nxt i k) (M.nxt j k)
theorem ofR_coarse (hM:M.Ok) {R:Nat→Nat→Prop} (hR:Bis M R):∀(r:Nat) {i j:Nat} (hi:i<M.N) (hj:j<M.N),R i j→M.ofR r i=M.ofR r j
 |0,i,j,hi,hj,h=>(of0_iff hi hj).2 (hR.good i j hi hj h)
 |r+1,i,j,hi,hj,h=>(ofR_iff hM r hi hj).2 ⟨ofR_coarse hM hR r hi hj h,fun k hk=>ofR_coarse hM hR r (hM.lt _ _ hi hk) (hM.lt _ _ hj hk) (hR.next i j k hi hj hk h)⟩
structure Cls (M:Aut) (of:Nat→Nat):Prop where
 lt:∀i,i<M.N→of i<M.N
 bis:Bis M fun i j=>of i=of j
 coarse:∀R,Bis M R→∀i j,i<M.N→j<M.N→R i j→of i=of j
theorem cls_done (hM:M.Ok) {r:Nat} (h:M.cntR (r+1)=M.cntR r):Cls M (M.ofR (r+1)):=by
 refine⟨fun i hi=>Nat.lt_of_le_of_lt (cls_lt _ _) hi,⟨fun i j hi hj e=>ofR_good hM _ hi hj e,fun i j k hi hj hk e=>?_⟩,fun R hR i j hi hj e=>ofR_coarse hM hR _ hi hj e⟩;exact ofR_stay hM h (hM.lt _ _ hi hk) (hM.lt _ _ hj hk) (((ofR_iff hM r hi hj).1 e).2 k hk)
def visit (of:Nat→Nat) (l:List Nat) (x:Nat):List Nat:=if of x∈l.map of then l else l++ [x]
def scan (M:Aut) (of:Nat→Nat) (l:List Nat) (s:Nat):Nat→List Nat
 |0=>l
 |k+1=>visit of (scan M of l s k) (M.nxt s k)
def metF (M:Aut) (of:Nat→Nat):Nat→List Nat
 |0=>[0]
 |i+1=>match(metF M of i)[i]? with
  |some s=>scan M of (metF M of i) s M.n
  |none=>metF M of i
inductive Reach (M:Aut):Nat→Prop
 |zero:Reach M 0
 |next {i k:Nat}:Reach M i→k<M.n→Reach M (M.nxt i k)
structure Mid (M:Aut) (of:Nat→Nat) (l:List Nat):Prop where
 nodup:(l.map of).Nodup
 lt:∀x∈l,x<M.N
 reach:∀x∈l,Reach M x
 zero:l[0]? =some 0
theorem visit_pre (of:Nat→Nat) (l:List Nat) (x:Nat):l<+:visit of l x:=by
 unfold visit;split
 ·exact List.prefix_refl _
 ·exact List.prefix_append _ _
theorem visit_in (of:Nat→Nat) (l:List Nat) (x:Nat):of x∈(visit of l x).map of:=by
 unfold visit;split
 ·assumption
 ·simp
theorem Mid.visit {of:Nat→Nat} {l:List Nat} (h:Mid M of l) {x:Nat} (hx:x<M.N) (hr:Reach M x):Mid M of (visit of l x):=by
 unfold Aut.visit;split
 ·exact h
 ·next hn=>
  refine⟨?_,?_,?_,?_⟩
  ·rw [List.map_append,List.nodup_append];refine⟨h.nodup,by simp,?_⟩;intro a ha b hb e;simp at hb;subst hb;subst e;exact hn ha
  ·intro y hy;rcases List.mem_append.1 hy with hy |hy
   ·exact h.lt y hy
   ·rw [List.mem_singleton.1 hy];exact hx
  ·intro y hy;rcases List.mem_append.1 hy with hy |hy
   ·exact h.reach y hy
   ·rw [List.mem_singleton.1 hy];exact hr
  ·have:=h.zero;have hl:=(List.getElem?_eq_some_iff.1 this).1;rw [List.getElem?_append_left hl];exact this
theorem scan_pre (of:Nat→Nat) (l:List Nat) (s:Nat):∀k,l<+:scan M of l s k
 |0=>List.prefix_refl _
 |k+1=>(scan_pre of l s k).trans (visit_pre _ _ _)
theorem scan_mono (of:Nat→Nat) (l:List Nat) (s k:Nat):∀d,scan M of l s k<+:scan M of l s (k+d)
 |0=>List.prefix_refl _
 |d+1=>(scan_mono of l s k d).trans (visit_pre _ _ _)
theorem pre_map {of:Nat→Nat} {l m:List Nat} (h:l<+:m) {x:Nat} (hx:x∈l.map of):x∈m.map of:=by
 obtain⟨t,rfl⟩:=h;rw [List.map_append];exact List.mem_append_left _ hx
theorem scan_hit (of:Nat→Nat) (l:List Nat) (s:Nat) {k n:Nat} (hk:k<n):of (M.nxt s k)∈(scan M of l s n).map of:=by
 have:=scan_mono (M:=M) of l s (k+1) (n- (k+1));rw [show k+1+(n- (k+1))=n by omega]at this;exact pre_map this (visit_in of _ _)
theorem Mid.scan (hM:M.Ok) {of:Nat→Nat} {l:List Nat} (h:Mid M of l) {s:Nat} (hs:s∈l):∀ {k:Nat},k≤M.n→Mid M of (scan M of l s k)
 |0,_=>h
 |k+1,hk=>(Mid.scan hM h hs (k:=k) (by omega)).visit (hM.lt _ _ (h.lt s hs) (by omega)) (.next (h.reach s hs) (by omega))
theorem metF_pre (of:Nat→Nat) (i:Nat):metF M of i<+:metF M of (i+1):=by
 rw [metF];split
 ·exact scan_pre _ _ _ _
 ·exact List.prefix_refl _
theorem metF_mid (hM:M.Ok) (of:Nat→Nat):∀i,Mid M of (metF M of i)
 |0=>⟨by simp [metF],by intro x hx;simp [metF]at hx;subst hx;exact hM.pos,by intro x hx;simp [metF]at hx;subst hx;exact .zero,rfl⟩
 |i+1=>by
  rw [metF];split
  ·next s hs=>exact(metF_mid hM of i).scan hM (List.mem_of_getElem? hs) (Nat.le_refl _)
  ·exact metF_mid hM of i
theorem metF_in (of:Nat→Nat):∀ {i j s:Nat},j<i→(metF M of i)[j]? =some s→∀ {k},k<M.n→of (M.nxt s k)∈(metF M of i).map of
 |0,_,_,h,_,_,_=>absurd h (Nat.not_lt_zero _)
 |i+1,j,s,hj,hs,k,hk=>by
  by_cases e:j< (metF M of i).length
  ·have hs':(metF M of i)[j]? =some s:=by
    obtain⟨t,ht⟩:=metF_pre (M:=M) of i;rw [←ht,List.getElem?_append_left e]at hs;exact hs
   by_cases ej:j=i
   ·subst ej;rw [metF,hs'];exact scan_hit of _ _ hk
   ·exact pre_map (metF_pre of i) (metF_in of (by omega) hs' hk)
  ·have hn:(metF M of i)[i]? =none:=List.getElem?_eq_none_iff.2 (by omega);have:metF M of (i+1)=metF M of i:=by rw [metF,hn]
   rw [this]at hs;have:=(List.getElem?_eq_some_iff.1 hs).1;omega
theorem metF_end (of:Nat→Nat) {i:Nat} (h:(metF M of i).length≤i):∀d,metF M of (i+d)=metF M of i
 |0=>rfl
 |d+1=>by
  have ih:=metF_end of h d;rw [←Nat.add_assoc,metF,ih,List.getElem?_eq_none_iff.2 (by omega)]
end Aut
theorem ic {α:Type} [DecidableEq α]:∀ {l m:List α},l.Nodup→(∀x∈l,x∈m)→l.length≤m.length
 | [],_,_,_=>Nat.zero_le _
 |x::l,m,h,hs=>by
  have hx:=hs x List.mem_cons_self;have h':=List.nodup_cons.1 h;have:=ic (l:=l) (m:=m.erase x) h'.2 fun y hy=>by
   have:y≠x:=fun e=>h'.1 (e▸hy);exact(List.mem_erase_of_ne this).2 (hs y (List.mem_cons_of_mem _ hy))
  rw [List.length_erase_of_mem hx]at this;have:=List.length_pos_of_mem hx;rw [List.length_cons];omega
namespace Aut
def sumN (f:Nat→Nat):Nat→Nat
 |0=>0
 |n+1=>sumN f n+f n
theorem sumN_congr {f g:Nat→Nat} {n:Nat} (h:∀k,k<n→f k=g k):sumN f n=sumN g n:=by
 induction n with
 |zero=>rfl
 |succ n ih=>show sumN f n+f n=sumN g n+g n;rw [ih fun k hk=>h k (by omega),h n (by omega)]
theorem sumN_le {f:Nat→Nat} {c:Nat} (h:∀k,f k≤c):∀n,sumN f n≤n*c
 |0=>Nat.zero_le _
 |n+1=>by
  have:=sumN_le h n;have:=h n;rw [Nat.succ_mul];show sumN f n+f n≤_;omega
theorem sumN_zero {f:Nat→Nat} {n:Nat} (h:∀k,k<n→f k=0):sumN f n=0:=by
 rw [sumN_congr h];induction n with
 |zero=>rfl
 |succ n ih=>show sumN _ n+0=0;rw [ih fun k hk=>h k (by omega)]
variable (M:Aut)
def goN:Nat→Nat→Nat
 |0,s=>if M.good s then 1 else 0
 |n+1,s=>sumN (fun k=>if M.good (M.nxt s k)then goN n (M.nxt s k)else 0) M.n
def via (n s k:Nat):Nat:=if M.good (M.nxt s k)then goN M n (M.nxt s k)else 0
theorem goN_succ (n s:Nat):goN M (n+1) s=sumN (via M n s) M.n:=rfl
def Stays:Prop:=∀s,s<M.N→M.good s=false→∀k,k<M.n→M.good (M.nxt s k)=false
variable {M}
theorem goN_le:∀(n s:Nat),goN M n s≤M.n^n
 |0,s=>by unfold goN;split<;>simp
 |n+1,s=>by
  rw [goN_succ,Nat.pow_succ,Nat.mul_comm];refine sumN_le (fun k=>?_) _;unfold via;split
  ·exact goN_le n _
  ·exact Nat.zero_le _
def Way (M:Aut):Nat→List Nat→Prop
 |_,[]=>True
 |s,k::r=>k<M.n∧M.good (M.nxt s k)=true∧Way M (M.nxt s k) r
def rk (M:Aut):Nat→List Nat→Nat
 |_,[]=>0
 |s,k::r=>sumN (via M r.length s) k+rk M (M.nxt s k) r
theorem way_append:∀ {u:List Nat} {s k:Nat},Way M s (u++ [k])↔Way M s u∧k<M.n∧M.good (M.nxt (u.foldl M.nxt s) k)=true
 | [],s,k=>by simp [Way]
 |j::u,s,k=>by
  show(j<M.n∧M.good (M.nxt s j)=true∧Way M (M.nxt s j) (u++ [k]))↔(j<M.n∧M.good (M.nxt s j)=true∧Way M (M.nxt s j) u)∧_;rw [way_append];constructor
  ·rintro⟨h1,h2,h3,h4⟩;exact⟨⟨h1,h2,h3⟩,h4⟩
  ·rintro⟨⟨h1,h2,h3⟩,h4⟩;exact⟨h1,h2,h3,h4⟩
def pre (M:Aut) (L:Nat):Nat→List Nat→Nat
 |_,[]=>0
 |s,k::r=>sumN (via M (L-1) s) k+pre M (L-1) (M.nxt s k) r
theorem pre_rk:∀ {u:List Nat} {s:Nat},pre M u.length s u=rk M s u
 | [],s=>rfl
 |k::r,s=>by
  show sumN (via M (r.length+1-1) s) k+pre M (r.length+1-1) (M.nxt s k) r=sumN (via M r.length s) k+rk M (M.nxt s k) r;rw [Nat.add_sub_cancel,pre_rk]
theorem pre_snoc:∀ {u:List Nat} {L s k:Nat},pre M L s (u++ [k])=pre M L s u+sumN (via M (L-1-u.length) (u.foldl M.nxt s)) k
 | [],L,s,k=>by show sumN _ k+0=0+sumN _ k;simp
 |j::u,L,s,k=>by
  show sumN _ j+pre M (L-1) (M.nxt s j) (u++ [k])=sumN _ j+pre M (L-1) (M.nxt s j) u+sumN (via M (L-1- (u.length+1)) (u.foldl M.nxt (M.nxt s j))) k;rw [pre_snoc,show L-1-1-u.length=L-1- (u.length+1) by omega];omega
end Aut
def gN (s:ar) (T:List aP):Nat:=(bx s T).length
abbrev qm (s:ar) (T:List aP):Prop:=(bx s T).Pairwise (·< ·)
theorem ue {s:ar} {T:List aP} (hr:qm s T) {i:Nat} (hi:i<gN s T):oM s T ((bx s T).getD i 0)=some i:=by
 unfold oM;rw [fZ hi];refine List.findIdx?_eq_some_iff_getElem.2 ⟨hi,by simp,fun j hj=>?_⟩;have:=List.pairwise_iff_getElem.1 hr j i (by unfold gN at hi;omega) hi hj;simp;omega
theorem Cd {s:ar} {T:List aP} {i:Nat} (hi:i<gN s T):fM s T ((bx s T).getD i 0)=true:=(mJ s T _).1 (by rw [fZ hi];exact List.getElem_mem hi)
theorem Ik {s:ar} {T:List aP} {a i:Nat} (ha:a<gN s T) (hi:i<gN s T):DU s T ((bx s T).getD a 0) ((bx s T).getD i 0)=ct s T a i:=by
 unfold DU ct;rw [Cd ha,Cd hi,Bool.true_and,Bool.true_and]
theorem FU {s:ar} {T:List aP} {i:Nat} (hi:i<gN s T):K5 s T ((bx s T).getD i 0)=gW s T i:=by
 unfold K5 gW;rw [Cd hi,Bool.true_and]
theorem Br (w:World) (g:Nat) (s:ar) (T:List aP) (h:ja w g s T) (i:Nat) (hi:i<gN s T):
  CP 38 #[.pointer (some ⟨g,0,none⟩),.int .i64 (i:Int)] w fun e w'=>e= .returned (.tuple #[.int .i64 ((bx s T).getD i 0),.bool true])∧w'=w:=by
 refine(zy w g s T h i).mono ?_;rintro e w1 ⟨rfl,hw⟩;refine⟨?_,hw⟩;rw [if_pos ⟨by omega,by unfold gN at hi;omega⟩];rfl
abbrev jC:TypeId:=149
theorem AU:Tryz.prog.underlying jC=some (.slice bN):=by kernel_rfl
theorem KX:(Tryz.prog.info? bN).map (fun i=>(i.zero,i.size,i.bytes))=some (some (.bool false),1,1):=by kernel_rfl
theorem Ds:xf dM 1 jC bN 1:=⟨fun _=>rfl,by decide,fun x u hu=>by rw [List.mem_singleton.1 hu];rfl,AU,_,KX,rfl⟩
namespace Aut
variable {M:Aut}
def metL (M:Aut) (of:Nat→Nat):List Nat:=metF M of M.N
theorem met_few (hM:M.Ok) {of:Nat→Nat} (h:∀i,i<M.N→of i<M.N) (i:Nat):(metF M of i).length≤M.N:=by
 have m:=metF_mid hM of i;have:=ic (m:=List.range M.N) m.nodup fun x hx=>by
  obtain⟨y,hy,rfl⟩:=List.mem_map.1 hx;exact List.mem_range.2 (h y (m.lt y hy))
 simpa using this
theorem met_done (hM:M.Ok) {of:Nat→Nat} (h:∀i,i<M.N→of i<M.N) {i:Nat} (hi:(metF M of i).length≤i):metF M of i=metL M of:=by
 unfold metL;by_cases e:i≤M.N
 ·have:=metF_end (M:=M) of hi (M.N-i);rw [show i+(M.N-i)=M.N by omega]at this;exact this.symm
 ·have:=metF_end (M:=M) of (met_few hM h M.N) (i-M.N);rw [show M.N+(i-M.N)=i by omega]at this;exact this
theorem met_mid (hM:M.Ok) (of:Nat→Nat):Mid M of (metL M of):=metF_mid hM of _
theorem met_in (hM:M.Ok) {of:Nat→Nat} (h:∀i,i<M.N→of i<M.N) {j s:Nat} (hs:(metL M of)[j]? =some s) {k:Nat} (hk:k<M.n):of (M.nxt s k)∈(metL M of).map of:=by
 have:=met_few hM h M.N;have hl:=(List.getElem?_eq_some_iff.1 hs).1;exact metF_in of (by unfold metL at hl;omega) hs hk
theorem met_pos (hM:M.Ok) (of:Nat→Nat):0< (metL M of).length:=(List.getElem?_eq_some_iff.1 (met_mid hM of).zero).1
def least (M:Aut) (of:Nat→Nat):Aut where
 N:=(metL M of).length
 n:=M.n
 nxt p k:=((metL M of).map of).idxOf (of (M.nxt ((metL M of).getD p 0) k))
 good p:=M.good ((metL M of).getD p 0)
theorem getD_at {l:List Nat} {p:Nat} (hp:p<l.length):l.getD p 0=l[p]:=by simp [List.getD,hp]
theorem least_ok (hM:M.Ok) {of:Nat→Nat} (h:∀i,i<M.N→of i<M.N):(least M of).Ok:=by
 refine⟨fun p k hp hk=>?_,met_pos hM of,Nat.le_trans (met_few hM h _) hM.few⟩;change p< (metL M of).length at hp;change k<M.n at hk;show((metL M of).map of).idxOf _< (metL M of).length;rw [getD_at hp];have:=List.idxOf_lt_length_of_mem (met_in hM h (List.getElem?_eq_getElem hp) hk);rwa [List.length_map]at this
theorem least_at (hM:M.Ok) {of:Nat→Nat} (h:∀i,i<M.N→of i<M.N) {p k:Nat} (hp:p< (least M of).N) (hk:k<M.n):of ((metL M of).getD ((least M of).nxt p k) 0)=of (M.nxt ((metL M of).getD p 0) k):=by
 have hlt:=(least_ok hM h).lt p k hp hk;change p< (metL M of).length at hp;have hm:=met_in hM h (List.getElem?_eq_getElem hp) hk;rw [getD_at hlt];have e:((metL M of).map of)[((metL M of).map of).idxOf (of (M.nxt (metL M of)[p] k))]'(List.idxOf_lt_length_of_mem hm)=of (M.nxt (metL M of)[p] k):=List.getElem_idxOf _;rw [List.getElem_map]at e;show of ((metL M of)[((metL M of).map of).idxOf (of (M.nxt ((metL M of).getD p 0) k))])=_;simp only [getD_at hp];exact e
structure Sim (M:Aut) (of:Nat→Nat) (x p:Nat):Prop where
 hx:x<M.N
 hp:p< (least M of).N
 e:of x=of ((metL M of).getD p 0)
theorem getD_lt (hM:M.Ok) (of:Nat→Nat) {p:Nat} (hp:p< (metL M of).length):(metL M of).getD p 0<M.N:=by
 rw [getD_at hp];exact(met_mid hM of).lt _ (List.getElem_mem hp)
theorem Sim.good {of:Nat→Nat} {x p:Nat} (h:Sim M of x p) (hM:M.Ok) (hc:Cls M of):(least M of).good p=M.good x:=(hc.bis.good _ _ h.hx (getD_lt hM of h.hp) h.e).symm
theorem Sim.next {of:Nat→Nat} {x p:Nat} (h:Sim M of x p) (hM:M.Ok) (hc:Cls M of) {k:Nat} (hk:k<M.n):Sim M of (M.nxt x k) ((least M of).nxt p k):=
 ⟨hM.lt _ _ h.hx hk,(least_ok hM hc.lt).lt _ _ h.hp hk,by rw [least_at hM hc.lt h.hp hk];exact hc.bis.next _ _ _ h.hx (getD_lt hM of h.hp) hk h.e⟩
theorem Sim.zero (hM:M.Ok) (of:Nat→Nat):Sim M of 0 0:=⟨hM.pos,met_pos hM of,by
 have:=(met_mid hM of).zero;rw [List.getD,this];rfl⟩
end Aut
def df (n:Nat) (al:Nat→Bool) (rel:Nat→Nat→Bool) (i k:Nat):Bool:=if i=0 then al k else if i≤n then rel (i-1) k else false
def eK (n:Nat) (al:Nat→Bool) (rel:Nat→Nat→Bool):Aut where
 N:=n+2
 n:=n
 nxt i k:=if df n al rel i k then k+1 else n+1
 good i:=decide (i≤n)
section
variable {n:Nat} {al:Nat→Bool} {rel:Nat→Nat→Bool}
open Aut
theorem pR (hn:n≤50000):(eK n al rel).Ok:=⟨fun i k hi hk=>by
 change i<n+2 at hi;change k<n at hk;show(if df n al rel i k then k+1 else n+1) <n+2;split<;>omega,by show 0<n+2;omega,by show n+2≤60000;omega⟩
theorem hU (i:Nat) {k:Nat} (hk:k<n):(eK n al rel).good ((eK n al rel).nxt i k)=df n al rel i k:=by
 show decide ((if df n al rel i k then k+1 else n+1)≤n)=_;cases df n al rel i k with
 |true=>simp;omega
 |false=>simp
theorem zh (hn:n≤50000) {of:Nat→Nat} (hc:Cls (eK n al rel) of) {i j:Nat} (hi:i≤n) (hj:j≤n):of i=of j↔∀k,k<n→df n al rel i k=df n al rel j k:=by
 have hM:=pR (al:=al) (rel:=rel) hn;constructor
 ·intro e k hk;have hi':i< (eK n al rel).N:=by show i<n+2;omega
  have hj':j< (eK n al rel).N:=by show j<n+2;omega
  have:=hc.bis.good _ _ (hM.lt i k hi' hk) (hM.lt j k hj' hk) (hc.bis.next i j k hi' hj' hk e);rw [hU i hk,hU j hk]at this;exact this
 ·intro h;refine hc.coarse (fun i j=>i=j∨(i≤n∧j≤n∧∀k,k<n→df n al rel i k=df n al rel j k)) ⟨?_,?_⟩ i j (by show i<n+2;omega) (by show j<n+2;omega) (.inr ⟨hi,hj,h⟩)
  ·rintro a b ha hb (rfl |⟨h1,h2,_⟩)
   ·rfl
   ·show decide (a≤n)=decide (b≤n);rw [decide_eq_true h1,decide_eq_true h2]
  ·rintro a b k ha hb hk (rfl |⟨h1,h2,h3⟩)
   ·exact .inl rfl
   ·refine .inl ?_;show(if df n al rel a k then k+1 else n+1)=(if df n al rel b k then k+1 else n+1);rw [h3 k hk]
theorem wS {of:Nat→Nat} (hc:Cls (eK n al rel) of) {i:Nat} (hi:i≤n):of i≠of (n+1):=by
 intro e;have:=hc.bis.good i (n+1) (by show i<n+2;omega) (by show n+1<n+2;omega) e;change decide (i≤n)=decide (n+1≤n)at this;rw [decide_eq_true hi,decide_eq_false (by omega)]at this;cases this
def mW (n:Nat) (al:Nat→Bool) (rel:Nat→Nat→Bool) (i:Nat):List Bool:=(List.range n).map (df n al rel i)
def sG (al:Nat→Bool) (i:Nat):Bool:=i==0||al (i-1)
def lu (n:Nat) (al:Nat→Bool) (rel:Nat→Nat→Bool):Nat→List (List Bool)
 |0=>[]
 |i+1=>if sG al i=true∧mW n al rel i∉lu n al rel i then lu n al rel i++ [mW n al rel i]else lu n al rel i
def Ek (n:Nat) (al:Nat→Bool) (rel:Nat→Nat→Bool) (m:Nat):Bool:=(List.range m).any fun i=>sG al i&&(mW n al rel i).any (! ·)
theorem rU {i j:Nat}:mW n al rel i=mW n al rel j↔∀k,k<n→df n al rel i k=df n al rel j k:=by
 constructor
 ·intro h k hk;have:=congrArg (fun l=>l[k]?) h;simpa [mW,List.getElem?_range hk]using this
 ·intro h;exact List.map_congr_left fun k hk=>h k (List.mem_range.1 hk)
theorem iv:∀m,(lu n al rel m).Nodup
 |0=>List.nodup_nil
 |m+1=>by
  rw [lu];split
  ·next h=>
   rw [List.nodup_append];refine⟨iv m,by simp,fun a ha b hb e=>?_⟩;rw [List.mem_singleton.1 hb]at e;subst e;exact h.2 ha
  ·exact iv m
theorem gS:∀m r,r∈lu n al rel m↔∃i,i<m∧sG al i=true∧mW n al rel i=r
 |0,r=>⟨fun h=>(by cases h),fun⟨i,h,_⟩=>absurd h (Nat.not_lt_zero i)⟩
 |m+1,r=>by
  have ih:=gS m r;have ihm:=gS m (mW n al rel m);rw [lu];split
  ·next h=>
   rw [List.mem_append,ih,List.mem_singleton];constructor
   ·rintro(⟨i,h1,h2,h3⟩ |rfl)
    ·exact⟨i,by omega,h2,h3⟩
    ·exact⟨m,by omega,h.1,rfl⟩
   ·rintro⟨i,h1,h2,h3⟩;by_cases e:i=m
    ·subst e;exact .inr h3.symm
    ·exact .inl ⟨i,by omega,h2,h3⟩
  ·next h=>
   rw [ih];constructor
   ·rintro⟨i,h1,h2,h3⟩;exact⟨i,by omega,h2,h3⟩
   ·rintro⟨i,h1,h2,h3⟩;by_cases e:i=m
    ·subst e;by_cases hm:mW n al rel i∈lu n al rel i
     ·rw [h3]at hm;exact ih.1 hm
     ·exact absurd ⟨h2,hm⟩ h
    ·exact⟨i,by omega,h2,h3⟩
theorem qp {m:Nat}:Ek n al rel m=true↔∃i k,i<m∧sG al i=true∧k<n∧df n al rel i k=false:=by
 unfold Ek;rw [List.any_eq_true];constructor
 ·rintro⟨i,hi,h⟩;rw [Bool.and_eq_true,List.any_eq_true]at h;obtain⟨h1,b,hb,h2⟩:=h;obtain⟨k,hk,rfl⟩:=List.mem_map.1 hb;exact⟨i,k,List.mem_range.1 hi,h1,List.mem_range.1 hk,by simpa using h2⟩
 ·rintro⟨i,k,hi,h1,hk,h2⟩;refine⟨i,List.mem_range.2 hi,?_⟩;rw [Bool.and_eq_true,List.any_eq_true];exact⟨h1,_,List.mem_map.2 ⟨k,List.mem_range.2 hk,rfl⟩,by rw [h2];rfl⟩
theorem qW (hra:∀i k,i<n→k<n→rel i k=true→al k=true) {x:Nat} (h:Aut.Reach (eK n al rel) x):(x≤n∧sG al x=true)∨(x=n+1∧Ek n al rel (n+1)=true):=by
 induction h with
 |zero=>exact .inl ⟨Nat.zero_le _,rfl⟩
 | @next i k h hk ih=>
  change k<n at hk;show((if df n al rel i k then k+1 else n+1)≤n∧_)∨_;rw [show(eK n al rel).nxt i k=(if df n al rel i k then k+1 else n+1)from rfl];cases hm:df n al rel i k with
  |true=>
   refine .inl ⟨by simp;omega,?_⟩;have:al k=true:=by
    unfold df at hm;split at hm
    ·exact hm
    ·split at hm
     ·exact hra _ _ (by omega) hk hm
     ·cases hm
   simp [sG,this]
  |false=>
   refine .inr ⟨by simp,?_⟩;rcases ih with⟨h1,h2⟩ |⟨_,h2⟩
   ·exact qp.2 ⟨i,k,by omega,h2,hk,hm⟩
   ·exact h2
theorem ql {α:Type} (p:α→Bool):∀l:List α,l.length=(l.filter p).length+(l.filter fun x=> !p x).length
 | []=>rfl
 |x::l=>by
  have:=ql p l;cases h:p x<;>simp [h]<;>omega
theorem AE (hn:n≤50000) (hra:∀i k,i<n→k<n→rel i k=true→al k=true) {of:Nat→Nat} (hc:Cls (eK n al rel) of):
  (metL (eK n al rel) of).length=(lu n al rel (n+1)).length+(if Ek n al rel (n+1)then 1 else 0):=by
 have hM:=pR (al:=al) (rel:=rel) hn;have mid:=met_mid hM of;obtain⟨l,hl⟩:∃l,l=metL (eK n al rel) of:=⟨_,rfl⟩;have hin:∀x∈l,∀k,k<n→of ((eK n al rel).nxt x k)∈l.map of:=by
  intro x hx k hk;rw [hl]at hx⊢;obtain⟨j,hj⟩:=List.getElem?_of_mem hx;exact met_in hM hc.lt hj hk
 rw [←hl]at mid⊢;have h0:0∈l:=List.mem_of_getElem? mid.zero;have act:∀i,i≤n→sG al i=true→of i∈l.map of:=by
  intro i hi ha;by_cases e:i=0
  ·subst e;exact List.mem_map_of_mem h0
  ·have hk:i-1<n:=by omega
   have:=hin 0 h0 (i-1) hk;have e2:(eK n al rel).nxt 0 (i-1)=i:=by
    show(if df n al rel 0 (i-1)then i-1+1 else n+1)=i;have:al (i-1)=true:=by simpa [sG,e]using ha
    rw [show df n al rel 0 (i-1)=al (i-1)from rfl,this];simp;omega
   rwa [e2]at this
 rw [ql (fun x=>decide (x≤n)) l];congr 1
 ·have e:(l.filter fun x=>decide (x≤n)).length=((l.filter fun x=>decide (x≤n)).map (mW n al rel)).length:=by simp
  rw [e];apply Nat.le_antisymm
  ·refine ic ?_ ?_
   ·have nd:=(List.pairwise_map.1 mid.nodup).filter fun x=>decide (x≤n);rw [List.Nodup,List.pairwise_map];refine nd.imp_of_mem ?_;intro a b ha hb hne he;have ha:=of_decide_eq_true (List.mem_filter.1 ha).2;have hb:=of_decide_eq_true (List.mem_filter.1 hb).2;exact hne ((zh hn hc ha hb).2 (rU.1 he))
   ·intro r hr;obtain⟨x,hx,rfl⟩:=List.mem_map.1 hr;obtain⟨h1,h2⟩:=List.mem_filter.1 hx;have h2:=of_decide_eq_true h2;rcases qW hra (mid.reach x h1)with⟨_,h⟩ |⟨h,_⟩
    ·exact(gS _ _).2 ⟨x,by omega,h,rfl⟩
    ·omega
  ·refine ic (iv _) ?_;intro r hr;obtain⟨i,hi,ha,rfl⟩:=(gS _ _).1 hr;obtain⟨x,hx,he⟩:=List.mem_map.1 (act i (by omega) ha);have hxn:x≤n:=by
    have hlt:=mid.lt x hx;change x<n+2 at hlt;by_cases e:x=n+1
    ·subst e;exact absurd he.symm (wS hc (by omega))
    ·omega
   exact List.mem_map.2 ⟨x,List.mem_filter.2 ⟨hx,decide_eq_true hxn⟩,rU.2 ((zh hn hc hxn (by omega)).1 he)⟩
 ·have all:∀x∈l.filter fun x=> !decide (x≤n),x=n+1:=by
   intro x hx;obtain⟨h1,h2⟩:=List.mem_filter.1 hx;have hlt:=mid.lt x h1;change x<n+2 at hlt;simp at h2;omega
  have nd:(l.filter fun x=> !decide (x≤n)).Nodup:=by
   have nd:=(List.pairwise_map.1 mid.nodup).filter fun x=> !decide (x≤n);exact nd.imp fun hne e=>hne (by rw [e])
  have le1:(l.filter fun x=> !decide (x≤n)).length≤1:=ic (m:=[n+1]) nd fun x hx=>by rw [all x hx];exact List.mem_singleton.2 rfl
  by_cases hb:Ek n al rel (n+1)=true
  ·rw [if_pos hb];obtain⟨i,k,hi,ha,hk,hm⟩:=qp.1 hb;obtain⟨x,hx,he⟩:=List.mem_map.1 (act i (by omega) ha);have hxi:of ((eK n al rel).nxt x k)=of ((eK n al rel).nxt i k):=hc.bis.next x i k (mid.lt x hx) (by show i<n+2;omega) hk he;have hy:=hin x hx k hk;rw [hxi]at hy;obtain⟨y,hy1,hy2⟩:=List.mem_map.1 hy;have e:(eK n al rel).nxt i k=n+1:=by
    show(if df n al rel i k then k+1 else n+1)=n+1;rw [hm];rfl
   rw [e]at hy2;have hyn:¬y≤n:=fun h=>wS hc h hy2;have:y∈l.filter fun x=> !decide (x≤n):=List.mem_filter.2 ⟨hy1,by simp;omega⟩;have:=List.length_pos_of_mem this;omega
  ·rw [if_neg hb];cases hf:l.filter fun x=> !decide (x≤n)with
   |nil=>rfl
   |cons y t=>
    exfalso;have hy:y∈l.filter fun x=> !decide (x≤n):=by rw [hf];exact List.mem_cons_self
    obtain⟨h1,h2⟩:=List.mem_filter.1 hy;rcases qW hra (mid.reach y h1)with⟨h,_⟩ |⟨_,h⟩
    ·simp at h2;omega
    ·exact hb h
end
def Ol (a:OA) (w:World) (R:RW):Prop:=
 ac (Option.isNone a)
 (R (int .i64 0) w)
 (af a (fun b=>
 ∃c d f,w.cell? (b.add 1)=some (slice c d f)∧
 R (int .i64 (d:Int)) w))
theorem Bu (a:OA) (w:World) (R:RW) (hh:Ol a w R):CR 37 #[pointer a] w R:=
 aD (fn:=Tryz.f37) (by kernel_rfl) (by kernel_rfl) (by kernel_rfl) (by kernel_rfl) (by kernel_rfl) hh
def OF (a:OA) (b c:Int) (w:World) (R:RW):Prop:=
 CP 81 #[pointer a,int .i64 b] w (fun d f=>
 ∃g,d= .returned (bool g)∧
 ac (!g)
 (R (tuple #[int .i64 0,bool false]) f)
 (af a (fun h=>
 ∃i,f.cell? (h.add 0)=some (pointer i)∧
 CP 20 #[pointer i,int .i64 c] f (fun j k=>
 ∃l m,j= .returned (tuple #[int .i64 l,bool m])∧
 ac (!m)
 (R (tuple #[int .i64 0,bool false]) k)
 (af a (fun n=>
 ∃o p q,k.cell? (n.add 1)=some (slice o p q)∧
 af o (fun r=>
 (0:Int)≤b∧b< (p:Int)∧
 ∃s t u,k.cell? (r.add (b.toNat*1))=some (slice s t u)∧
 af s (fun x=>
 (0:Int)≤l∧l< (t:Int)∧
 ∃y,k.cell? (x.add (l.toNat*1))=some (int .i64 y)∧
 R (tuple #[int .i64 y,bool true]) k))))))))
theorem BB (a:OA) (b c:Int) (w:World) (R:RW) (hh:OF a b c w R):CR 39 #[pointer a,int .i64 b,int .i64 c] w R:=
 aD (fn:=Tryz.f39) (by kernel_rfl) (by kernel_rfl) (by kernel_rfl) (by kernel_rfl) (by kernel_rfl) hh
def OD (a:OA) (b:Int) (w:World) (R:RW):Prop:=
 CP 81 #[pointer a,int .i64 b] w (fun c d=>
 ∃f,c= .returned (bool f)∧
 ac f
 (af a (fun g=>
 ∃h i j,d.cell? (g.add 2)=some (slice h i j)∧
 af h (fun k=>
 (0:Int)≤b∧b< (i:Int)∧
 ∃l,d.cell? (k.add (b.toNat*1))=some (bool l)∧
 R (bool l) d)))
 (R (bool false) d))
theorem AO (a:OA) (b:Int) (w:World) (R:RW) (hh:OD a b w R):CR 44 #[pointer a,int .i64 b] w R:=
 aD (fn:=Tryz.f44) (by kernel_rfl) (by kernel_rfl) (by kernel_rfl) (by kernel_rfl) (by kernel_rfl) hh
def Pn (a:OA) (b:Int) (w:World) (R:RW):Prop:=
 ∀c,c=w.alloc (.cells #[pointer a] 32)→
 ∃d,c.cell? (nb w)=some (pointer d)∧
 CP 19 #[pointer d] c (fun f g=>
 ∃h,f= .returned (int .i64 h)∧
 ∃i,g.cell? (nb w)=some (pointer i)∧
 ac (Option.isNone i)
 (R (tuple #[pointer none,int .i64 1]) g)
 (Ar .i64 (h+2) (fun j=>
 Ar .i64 (j*h) (fun k=>
 ac (decide (k>b))
 (R (tuple #[pointer none,int .i64 5]) g)
 (∃l,g.cell? (nb w)=some (pointer l)∧
 ∀m,m=g.alloc (.cells #[pointer l,slice none 0 0,slice none 0 0,int .u32 0,int .i32 0,int .u32 0,slice none 0 0] 165)→
 Ar .i64 (h+1) (fun n=>
 ∀o,o=m.alloc (.cells #[Value.nilFunc] 133)→
 (func (.func 100) #[] #[pointer (some (nb w))]).oneCell'=true∧(∃u,o.cell? (nb m)=some u)∧o.frozen? (nb m)=false∧
 ∀p,p=(o.setCell (nb m) (func (.func 100) #[] #[pointer (some (nb w))]))→
 ∀q,q=p.drew→
 ∃r s t,q.cell? ((nb g).add 1)=some (slice r s t)∧
 CP 101 #[int .i64 h,int .i64 n,func (.func 102) #[] #[pointer (some (nb w)),pointer (some (nb m))]] q (fun x y=>
 ∃z a1 b1,x= .returned (slice z a1 b1)∧
 (y.cell? ((nb g).add 1)=some (slice r s t)∧True)∧
 ∀c1,c1=y.alloc (.cells #[slice z a1 b1] 28)→
 (c1.cell? ((nb g).add 1)=some (slice r s t)∧True)∧
 ∃d1 e1 f1 g1,(Builtin.append_ #[148,148] 148 #[slice r s t,slice (some (nb y)) 1 1]).run Tryz.prog c1= .ok (slice d1 e1 f1) g1∧
 (slice d1 e1 f1).oneCell'=true∧(∃u,g1.cell? ((nb g).add 1)=some u)∧g1.frozen? ((nb g).add 1)=false∧
 ∀h1,h1=(g1.setCell ((nb g).add 1) (slice d1 e1 f1))→
 ∀i1:KW,(∀(j1:Int) (k1:World),(ac (decide (j1<h))
 (∀l1,l1=k1.drew→
 ∃m1,l1.cell? (nb w)=some (pointer m1)∧
 ∃n1,l1.cell? (nb m)=some (n1)∧
 (bH gr n1 [int .i64 j1] l1 (fun o1 p1=>
 ∃q1,o1= .returned (int .i64 q1)∧
 (p1.cell? (nb w)=some (pointer m1)∧True)∧
 (CP 103 #[pointer m1,int .i64 q1] p1 (fun r1 s1=>
 ∃t1 u1 v1,r1= .returned (slice t1 u1 v1)∧
 ∀x1,x1=s1.alloc (.cells #[slice none 0 0] 47)→
 (slice t1 u1 v1).oneCell'=true∧(∃u,x1.cell? (nb s1)=some u)∧x1.frozen? (nb s1)=false∧
 ∀y1,y1=(x1.setCell (nb s1) (slice t1 u1 v1))→
 ∀z1,z1=y1.drew→
 ∃a2 b2 c2,z1.cell? ((nb g).add 1)=some (slice a2 b2 c2)∧
 CP 101 #[int .i64 h,int .i64 n,func (.func 104) #[] #[pointer (some (nb s1))]] z1 (fun d2 e2=>
 ∃f2 g2 h2,d2= .returned (slice f2 g2 h2)∧
 (e2.cell? ((nb g).add 1)=some (slice a2 b2 c2)∧True)∧
 ∀i2,i2=e2.alloc (.cells #[slice f2 g2 h2] 28)→
 (i2.cell? ((nb g).add 1)=some (slice a2 b2 c2)∧True)∧
 ∃j2 k2 l2 m2,(Builtin.append_ #[148,148] 148 #[slice a2 b2 c2,slice (some (nb e2)) 1 1]).run Tryz.prog i2= .ok (slice j2 k2 l2) m2∧
 (slice j2 k2 l2).oneCell'=true∧(∃u,m2.cell? ((nb g).add 1)=some u)∧m2.frozen? ((nb g).add 1)=false∧
 ∀n2,n2=(m2.setCell ((nb g).add 1) (slice j2 k2 l2))→
 Ar .i64 (j1+1) (fun o2=>
 i1 [int .i64 o2] n2))))∧
 (∀p2,p2=p1.alloc (.cells #[slice none 0 0] 47)→
 (p2.cell? (nb w)=some (pointer m1)∧True)∧
 CP 103 #[pointer m1,int .i64 q1] p2 (fun q2 r2=>
 ∃s2 t2 u2,q2= .returned (slice s2 t2 u2)∧
 (slice s2 t2 u2).oneCell'=true∧(∃u,r2.cell? (nb p1)=some u)∧r2.frozen? (nb p1)=false∧
 ∀v2,v2=(r2.setCell (nb p1) (slice s2 t2 u2))→
 ∀x2,x2=v2.drew→
 ∃y2 z2 a3,x2.cell? ((nb g).add 1)=some (slice y2 z2 a3)∧
 CP 101 #[int .i64 h,int .i64 n,func (.func 104) #[] #[pointer (some (nb p1))]] x2 (fun b3 c3=>
 ∃d3 e3 f3,b3= .returned (slice d3 e3 f3)∧
 (c3.cell? ((nb g).add 1)=some (slice y2 z2 a3)∧True)∧
 ∀g3,g3=c3.alloc (.cells #[slice d3 e3 f3] 28)→
 (g3.cell? ((nb g).add 1)=some (slice y2 z2 a3)∧True)∧
 ∃h3 i3 j3 k3,(Builtin.append_ #[148,148] 148 #[slice y2 z2 a3,slice (some (nb c3)) 1 1]).run Tryz.prog g3= .ok (slice h3 i3 j3) k3∧
 (slice h3 i3 j3).oneCell'=true∧(∃u,k3.cell? ((nb g).add 1)=some u)∧k3.frozen? ((nb g).add 1)=false∧
 ∀l3,l3=(k3.setCell ((nb g).add 1) (slice h3 i3 j3))→
 Ar .i64 (j1+1) (fun m3=>
 i1 [int .i64 m3] l3))))))∧
 (∀n3,n3=l1.alloc (.cells #[slice none 0 0] 47)→
 (n3.cell? (nb m)=some (n1)∧True)∧
 (n3.cell? (nb w)=some (pointer m1)∧True)∧
 bH gr n1 [int .i64 j1] n3 (fun o3 p3=>
 ∃q3,o3= .returned (int .i64 q3)∧
 (p3.cell? (nb w)=some (pointer m1)∧True)∧
 CP 103 #[pointer m1,int .i64 q3] p3 (fun r3 s3=>
 ∃t3 u3 v3,r3= .returned (slice t3 u3 v3)∧
 (slice t3 u3 v3).oneCell'=true∧(∃u,s3.cell? (nb l1)=some u)∧s3.frozen? (nb l1)=false∧
 ∀x3,x3=(s3.setCell (nb l1) (slice t3 u3 v3))→
 ∀y3,y3=x3.drew→
 ∃z3 a4 b4,y3.cell? ((nb g).add 1)=some (slice z3 a4 b4)∧
 CP 101 #[int .i64 h,int .i64 n,func (.func 104) #[] #[pointer (some (nb l1))]] y3 (fun c4 d4=>
 ∃e4 f4 g4,c4= .returned (slice e4 f4 g4)∧
 (d4.cell? ((nb g).add 1)=some (slice z3 a4 b4)∧True)∧
 ∀h4,h4=d4.alloc (.cells #[slice e4 f4 g4] 28)→
 (h4.cell? ((nb g).add 1)=some (slice z3 a4 b4)∧True)∧
 ∃i4 j4 k4 l4,(Builtin.append_ #[148,148] 148 #[slice z3 a4 b4,slice (some (nb d4)) 1 1]).run Tryz.prog h4= .ok (slice i4 j4 k4) l4∧
 (slice i4 j4 k4).oneCell'=true∧(∃u,l4.cell? ((nb g).add 1)=some u)∧l4.frozen? ((nb g).add 1)=false∧
 ∀m4,m4=(l4.setCell ((nb g).add 1) (slice i4 j4 k4))→
 Ar .i64 (j1+1) (fun n4=>
 i1 [int .i64 n4] m4))))))
 (∀o4,o4=k1.drew→
 ∃p4 q4 r4,o4.cell? ((nb g).add 1)=some (slice p4 q4 r4)∧
 CP 101 #[int .i64 h,int .i64 n,func (.func 105) #[] #[]] o4 (fun s4 t4=>
 ∃u4 v4 x4,s4= .returned (slice u4 v4 x4)∧
 (t4.cell? ((nb g).add 1)=some (slice p4 q4 r4)∧True)∧
 ∀y4,y4=t4.alloc (.cells #[slice u4 v4 x4] 28)→
 (y4.cell? ((nb g).add 1)=some (slice p4 q4 r4)∧True)∧
 ∃z4 a5 b5 c5,(Builtin.append_ #[148,148] 148 #[slice p4 q4 r4,slice (some (nb t4)) 1 1]).run Tryz.prog y4= .ok (slice z4 a5 b5) c5∧
 (slice z4 a5 b5).oneCell'=true∧(∃u,c5.cell? ((nb g).add 1)=some u)∧c5.frozen? ((nb g).add 1)=false∧
 ∀d5,d5=(c5.setCell ((nb g).add 1) (slice z4 a5 b5))→
 ∀e5,e5=d5.alloc (.cells #[bool true] 4)→
 Ar .i64 (h+2) (fun f5=>
 CP 106 #[slice (some (nb d5)) 1 1,int .i64 f5] e5 (fun g5 h5=>
 ∃i5 j5 k5,g5= .returned (slice i5 j5 k5)∧
 (slice i5 j5 k5).oneCell'=true∧(∃u,h5.cell? ((nb g).add 2)=some u)∧h5.frozen? ((nb g).add 2)=false∧
 ∀l5,l5=(h5.setCell ((nb g).add 2) (slice i5 j5 k5))→
 ∃m5 n5 o5,l5.cell? ((nb g).add 2)=some (slice m5 n5 o5)∧
 af m5 (fun p5=>
 (0:Int)≤n∧n< (n5:Int)∧
 (bool false).oneCell'=true∧(∃u,l5.cell? (p5.add (n.toNat*1))=some u)∧l5.frozen? (p5.add (n.toNat*1))=false∧
 ∀q5,q5=(l5.setCell (p5.add (n.toNat*1)) (bool false))→
 R (tuple #[pointer (some (nb g)),int .i64 0]) q5))))))→i1 [int .i64 j1] k1)→
 i1 [int .i64 0] h1)))))))
theorem Bx (a:OA) (b:Int) (w:World) (R:RW) (hh:Pn a b w R):CR 54 #[pointer a,int .i64 b] w R:=
 aD (fn:=Tryz.f54) (by kernel_rfl) (by kernel_rfl) (by kernel_rfl) (by kernel_rfl) (by kernel_rfl) hh
def OK (a:OA) (w:World) (R:RW):Prop:=
 ac (Option.isNone a)
 (R (pointer none) w)
 (CP 107 #[pointer a] w (fun b c=>
 ∃d f g,b= .returned (slice d f g)∧
 ∀h,h=c.alloc (.cells #[slice none 0 0] 28)→
 (slice d f g).oneCell'=true∧(∃u,h.cell? (nb c)=some u)∧h.frozen? (nb c)=false∧
 ∀i,i=(h.setCell (nb c) (slice d f g))→
 CP 108 #[pointer a,func (.func 109) #[] #[pointer (some (nb c))]] i (fun j k=>
 ∃l m n o,j= .returned (tuple #[slice l m n,map o])∧
 af a (fun p=>
 ∃q,k.cell? (p.add 0)=some (pointer q)∧
 ∀r,r=k.alloc (.cells #[pointer q,slice none 0 0,slice none 0 0,int .u32 0,int .i32 0,int .u32 0,slice none 0 0] 165)→
 ∀s:KW,(∀(t:Int) (x:World),(ac (decide (t< (m:Int)))
 (af l (fun y=>
 (0:Int)≤t∧t< (m:Int)∧
 ∃z,x.cell? (y.add (t.toNat*1))=some (int .i64 z)∧
 af a (fun a1=>
 ∃b1 c1 d1,x.cell? (a1.add 1)=some (slice b1 c1 d1)∧
 af b1 (fun e1=>
 (0:Int)≤z∧z< (c1:Int)∧
 ∃f1 g1 h1,x.cell? (e1.add (z.toNat*1))=some (slice f1 g1 h1)∧
 ∀i1:KW,(∀(j1:Int) (k1:OA) (l1 m1:Nat) (n1:World),(ac (decide (j1< (g1:Int)))
 (af f1 (fun o1=>
 (0:Int)≤j1∧j1< (g1:Int)∧
 ∃p1,n1.cell? (o1.add (j1.toNat*1))=some (int .i64 p1)∧
 ∃q1 r1 s1,n1.cell? (nb c)=some (slice q1 r1 s1)∧
 af q1 (fun t1=>
 (0:Int)≤p1∧p1< (r1:Int)∧
 ∃u1,n1.cell? (t1.add (p1.toNat*1))=some (int .i64 u1)∧
 ∃v1 x1,(Instr.lookup 128 (map o) (int .i64 u1) false).run Tryz.prog n1= .ok (int .i64 v1) x1∧
 ∀y1,y1=x1.alloc (.cells #[int .i64 v1] 3)→
 ∃z1 a2 b2 c2,(Builtin.append_ #[28,28] 28 #[slice k1 l1 m1,slice (some (nb x1)) 1 1]).run Tryz.prog y1= .ok (slice z1 a2 b2) c2∧
 Ar .i64 (j1+1) (fun d2=>
 i1 [int .i64 d2,slice z1 a2 b2] c2))))
 (∃e2 f2 g2,n1.cell? ((nb k).add 1)=some (slice e2 f2 g2)∧
 ∀h2,h2=n1.alloc (.cells #[slice k1 l1 m1] 28)→
 ∃i2 j2 k2 l2,(Builtin.append_ #[148,148] 148 #[slice e2 f2 g2,slice (some (nb n1)) 1 1]).run Tryz.prog h2= .ok (slice i2 j2 k2) l2∧
 (slice i2 j2 k2).oneCell'=true∧(∃u,l2.cell? ((nb k).add 1)=some u)∧l2.frozen? ((nb k).add 1)=false∧
 ∀m2,m2=(l2.setCell ((nb k).add 1) (slice i2 j2 k2))→
 ∀n2,n2=m2.drew→
 ∃o2 p2 q2,n2.cell? ((nb k).add 2)=some (slice o2 p2 q2)∧
 af a (fun r2=>
 ∃s2 t2 u2,n2.cell? (r2.add 2)=some (slice s2 t2 u2)∧
 af s2 (fun v2=>
 (0:Int)≤z∧z< (t2:Int)∧
 ∃x2,n2.cell? (v2.add (z.toNat*1))=some (bool x2)∧
 ∀y2,y2=n2.alloc (.cells #[bool x2] 4)→
 (y2.cell? ((nb k).add 2)=some (slice o2 p2 q2)∧True)∧
 ∃z2 a3 b3 c3,(Builtin.append_ #[149,149] 149 #[slice o2 p2 q2,slice (some (nb n2)) 1 1]).run Tryz.prog y2= .ok (slice z2 a3 b3) c3∧
 (slice z2 a3 b3).oneCell'=true∧(∃u,c3.cell? ((nb k).add 2)=some u)∧c3.frozen? ((nb k).add 2)=false∧
 ∀d3,d3=(c3.setCell ((nb k).add 2) (slice z2 a3 b3))→
 Ar .i64 (t+1) (fun e3=>
 s [int .i64 e3] d3)))))→i1 [int .i64 j1,slice k1 l1 m1] n1)→
 i1 [int .i64 0,slice none 0 0] x))))
 (R (pointer (some (nb k))) x))→s [int .i64 t] x)→
 s [int .i64 0] r))))
theorem AQ (a:OA) (w:World) (R:RW) (hh:OK a w R):CR 56 #[pointer a] w R:=
 aD (fn:=Tryz.f56) (by kernel_rfl) (by kernel_rfl) (by kernel_rfl) (by kernel_rfl) (by kernel_rfl) hh
def OQ (a:OA) (b:Int) (w:World) (R:RW):Prop:=
 ac (decide (b≥0))
 (CP 37 #[pointer a] w (fun c d=>
 ∃f,c= .returned (int .i64 f)∧
 R (bool (decide (b<f))) d))
 (R (bool false) w)
theorem Ck (a:OA) (b:Int) (w:World) (R:RW) (hh:OQ a b w R):CR 81 #[pointer a,int .i64 b] w R:=
 aD (fn:=Tryz.f81) (by kernel_rfl) (by kernel_rfl) (by kernel_rfl) (by kernel_rfl) (by kernel_rfl) hh
def OM (a b:OA) (c d:Nat) (w:World) (R:RW):Prop:=
 ∀f:KW,(∀(g h:Int) (i:Bool) (j:Int) (k:World),(ac (decide (g< (c:Int)))
 (af b (fun l=>
 (0:Int)≤g∧g< (c:Int)∧
 ∃m,k.cell? (l.add (g.toNat*1))=some (int .i64 m)∧
 CP 39 #[pointer a,int .i64 h,int .i64 m] k (fun n o=>
 ∃p q,n= .returned (tuple #[int .i64 p,bool q])∧
 ac (!q)
 (R (tuple #[int .i64 0,bool false]) o)
 (Ar .i64 (g+1) (fun r=>
 f [int .i64 r,int .i64 p,bool i,int .i64 j] o)))))
 (R (tuple #[int .i64 h,bool (!(Option.isNone a))]) k))→f [int .i64 g,int .i64 h,bool i,int .i64 j] k)→
 f [int .i64 0,int .i64 0,bool false,int .i64 0] w
theorem Ao (a b:OA) (c d:Nat) (w:World) (R:RW) (hh:OM a b c d w R):CR 98 #[pointer a,slice b c d] w R:=
 aD (fn:=Tryz.f98) (by kernel_rfl) (by kernel_rfl) (by kernel_rfl) (by kernel_rfl) (by kernel_rfl) hh
def Lx (a:Int) (b:OA) (w:World) (R:RW):Prop:=
 af b (fun c=>
 ∃d,w.cell? c=some (pointer d)∧
 CP 38 #[pointer d,int .i64 a] w (fun f g=>
 ∃h i,f= .returned (tuple #[int .i64 h,bool i])∧
 R (int .i64 h) g))
theorem wK (a:Int) (b:OA) (w:World) (R:RW) (hh:Lx a b w R):CR 100 #[int .i64 a,pointer b] w R:=
 aD (fn:=Tryz.f100) (by kernel_rfl) (by kernel_rfl) (by kernel_rfl) (by kernel_rfl) (by kernel_rfl) hh
def LI (a b:Int) (c:Value) (w:World) (R:RW):Prop:=
 ∃d f g h,(Instr.makeSlice 28 (int .i64 a) (int .i64 a)).run Tryz.prog w= .ok (slice d f g) h∧
 ∀i:KW,(∀(j:Int) (k:World),(ac (decide (j< (f:Int)))
 (∀l:KW,(∀m:World,(Ar .i64 (j+1) (fun n=>
 i [int .i64 n] m))→l [] m)→
 af d (fun o=>
 (0:Int)≤j∧j< (f:Int)∧
 (int .i64 b).oneCell'=true∧(∃u,k.cell? (o.add (j.toNat*1))=some u)∧k.frozen? (o.add (j.toNat*1))=false∧
 ∀p,p=(k.setCell (o.add (j.toNat*1)) (int .i64 b))→
 bH gr c [int .i64 j] p (fun q r=>
 ∃s,q= .returned (bool s)∧
 ac s
 (Ar .i64 (j+1) (fun t=>
 af d (fun x=>
 (0:Int)≤j∧j< (f:Int)∧
 (int .i64 t).oneCell'=true∧(∃u,r.cell? (x.add (j.toNat*1))=some u)∧r.frozen? (x.add (j.toNat*1))=false∧
 ∀y,y=(r.setCell (x.add (j.toNat*1)) (int .i64 t))→
 l [] y)))
 (l [] r))))
 (R (slice d f g) k))→i [int .i64 j] k)→
 i [int .i64 0] h
theorem vQ (a b:Int) (c:Value) (w:World) (R:RW) (hh:LI a b c w R):CR 101 #[int .i64 a,int .i64 b,c] w R:=
 aD (fn:=Tryz.f101) (by kernel_rfl) (by kernel_rfl) (by kernel_rfl) (by kernel_rfl) (by kernel_rfl) hh
def LA (a:Int) (b c:OA) (w:World) (R:RW):Prop:=
 ∀d,d=w.drew→
 af b (fun f=>
 ∃g,d.cell? f=some (pointer g)∧
 af c (fun h=>
 ∃i,d.cell? h=some (i)∧
 bH gr i [int .i64 a] d (fun j k=>
 ∃l,j= .returned (int .i64 l)∧
 (k.cell? f=some (pointer g)∧True)∧
 CP 90 #[pointer g,int .i64 l] k (fun m n=>
 ∃o,m= .returned (bool o)∧
 R (bool o) n))))
theorem xI (a:Int) (b c:OA) (w:World) (R:RW) (hh:LA a b c w R):CR 102 #[int .i64 a,pointer b,pointer c] w R:=
 aD (fn:=Tryz.f102) (by kernel_rfl) (by kernel_rfl) (by kernel_rfl) (by kernel_rfl) (by kernel_rfl) hh
def I8 (a:Int) (b:OA) (w:World) (R:RW):Prop:=
 af b (fun c=>
 ∃d f g,w.cell? c=some (slice d f g)∧
 (64:Int)≠0∧
 af d (fun h=>
 (0:Int)≤(IntKind.wrap .i64 (Int.tdiv a 64))∧(IntKind.wrap .i64 (Int.tdiv a 64)) < (f:Int)∧
 ∃i,w.cell? (h.add ((IntKind.wrap .i64 (Int.tdiv a 64):Int).toNat*1))=some (int .u64 i)∧
 (64:Int)≠0∧
 (0:Int)≤(Int.tmod a 64)∧
 R (bool ((IntKind.wrap .u64 ((BitVec.ofInt (IntKind.bits .u64) (Int.fdiv i (2^(min (Int.tmod a 64:Int).toNat (IntKind.bits .u64))))&&&BitVec.ofInt (IntKind.bits .u64) 1).toNat:Int):Int)==1)) w))
theorem wH (a:Int) (b:OA) (w:World) (R:RW) (hh:I8 a b w R):CR 104 #[int .i64 a,pointer b] w R:=
 aD (fn:=Tryz.f104) (by kernel_rfl) (by kernel_rfl) (by kernel_rfl) (by kernel_rfl) (by kernel_rfl) hh
def Oe (a:Int) (w:World) (R:RW):Prop:=
 R (bool false) w
theorem yg (a:Int) (w:World) (R:RW) (hh:Oe a w R):CR 105 #[int .i64 a] w R:=
 aD (fn:=Tryz.f105) (by kernel_rfl) (by kernel_rfl) (by kernel_rfl) (by kernel_rfl) (by kernel_rfl) hh
def N' (a:OA) (b c:Nat) (d:Int) (w:World) (R:RW):Prop:=
 ∀f:KW,(∀g:World,(CP 163 #[int .u64 (IntKind.wrap .u64 (b:Int)),int .u64 (IntKind.wrap .u64 d)] g (fun h i=>
 ∃j k,h= .returned (tuple #[int .u64 j,int .u64 k])∧
 ∀l:KW,(∀m:World,(∃n o p q,(Instr.makeSlice 149 (int .i64 (IntKind.wrap .i64 k)) (int .i64 (IntKind.wrap .i64 k))).run Tryz.prog m= .ok (slice n o p) q∧
 ∃r s,(Builtin.copy_ #[149,149] 3 #[slice n o p,slice a b c]).run Tryz.prog q= .ok (int .i64 r) s∧
 ∀t:KW,(∀(u:Int) (x:World),(ac (decide (u< (o:Int)))
 (∀y,y=x.drew→
 (0:Int)≤u∧u≤(o:Int)∧True∧True∧True∧
 (0:Int)≤(0:Int)∧(0:Int)≤u∧u≤(p:Int)∧True∧True∧
 ∃z a1,(Builtin.copy_ #[149,149] 3 #[slice (bh n u.toNat (p:Int).toNat 1) ((o:Int).toNat-u.toNat) ((p:Int).toNat-u.toNat),slice (bh n (0:Int).toNat (p:Int).toNat 1) (u.toNat- (0:Int).toNat) ((p:Int).toNat- (0:Int).toNat)]).run Tryz.prog y= .ok (int .i64 z) a1∧
 Ar .i64 (u+z) (fun b1=>
 t [int .i64 b1] a1))
 (R (slice n o p) x))→t [int .i64 u] x)→
 t [int .i64 r] s)→l [] m)→
 ac (decide (j>0))
 (False)
 (ac (decide (k>9223372036854775807))
 (False)
 (l [] i))))→f [] g)→
 ac (decide (d<0))
 (False)
 (f [] w)
theorem zU (a:OA) (b c:Nat) (d:Int) (w:World) (R:RW) (hh:N' a b c d w R):CR 106 #[slice a b c,int .i64 d] w R:=
 aD (fn:=Tryz.f106) (by kernel_rfl) (by kernel_rfl) (by kernel_rfl) (by kernel_rfl) (by kernel_rfl) hh
def N7 (a:OA) (w:World) (R:RW):Prop:=
 af a (fun b=>
 CP 83 #[pointer (some ((b.add 3).add 0)),func (.func 164) #[pointer a] #[]] w (fun c d=>
 c= .returned (tuple #[])∧
 af a (fun f=>
 ∃g h i,d.cell? ((f.add 3).add 3)=some (slice g h i)∧
 R (slice g h i) d)))
theorem zp (a:OA) (w:World) (R:RW) (hh:N7 a w R):CR 107 #[pointer a] w R:=
 aD (fn:=Tryz.f107) (by kernel_rfl) (by kernel_rfl) (by kernel_rfl) (by kernel_rfl) (by kernel_rfl) hh
def LU (a:OA) (b:Value) (w:World) (R:RW):Prop:=
 ∀c,c=w.alloc (.cells #[int .i64 0] 3)→
 ∃d f,(Instr.makeMap 128 none).run Tryz.prog c= .ok (map d) f∧
 bH gr b [int .i64 0] f (fun g h=>
 ∃i,g= .returned (int .i64 i)∧
 ∃j,(Instr.mapUpdate 128 (map d) (int .i64 i) (int .i64 0)).run Tryz.prog h= .ok () j∧
 ∀k:KW,(∀(l:Int) (m:OA) (n o:Nat) (p:World),(ac (decide (l< (n:Int)))
 (∀q,q=p.drew→
 af a (fun r=>
 ∃s t u,q.cell? (r.add 1)=some (slice s t u)∧
 af m (fun x=>
 (0:Int)≤l∧l< (n:Int)∧
 ∃y,q.cell? (x.add (l.toNat*1))=some (int .i64 y)∧
 af s (fun z=>
 (0:Int)≤y∧y< (t:Int)∧
 ∃a1 b1 c1,q.cell? (z.add (y.toNat*1))=some (slice a1 b1 c1)∧
 ∀d1:KW,(∀(e1:Int) (f1:OA) (g1 h1:Nat) (i1:World),(ac (decide (e1< (b1:Int)))
 (∀j1:KW,(∀(k1:OA) (l1 m1:Nat) (n1:World),(Ar .i64 (e1+1) (fun o1=>
 d1 [int .i64 o1,slice k1 l1 m1] n1))→j1 [slice k1 l1 m1] n1)→
 af a1 (fun p1=>
 (0:Int)≤e1∧e1< (b1:Int)∧
 ∃q1,i1.cell? (p1.add (e1.toNat*1))=some (int .i64 q1)∧
 bH gr b [int .i64 q1] i1 (fun r1 s1=>
 ∃t1,r1= .returned (int .i64 t1)∧
 ∃u1 v1 x1,(Instr.lookup 128 (map d) (int .i64 t1) true).run Tryz.prog s1= .ok (tuple #[int .i64 u1,bool v1]) x1∧
 ac (!v1)
 (bH gr b [int .i64 q1] x1 (fun y1 z1=>
 ∃a2,y1= .returned (int .i64 a2)∧
 ∃b2,(Instr.mapUpdate 128 (map d) (int .i64 a2) (int .i64 (g1:Int))).run Tryz.prog z1= .ok () b2∧
 ∀c2,c2=b2.alloc (.cells #[int .i64 q1] 3)→
 ∃d2 e2 f2 g2,(Builtin.append_ #[28,28] 28 #[slice f1 g1 h1,slice (some (nb b2)) 1 1]).run Tryz.prog c2= .ok (slice d2 e2 f2) g2∧
 j1 [slice d2 e2 f2] g2))
 (j1 [slice f1 g1 h1] x1))))
 (Ar .i64 (l+1) (fun h2=>
 k [int .i64 h2,slice f1 g1 h1] i1)))→d1 [int .i64 e1,slice f1 g1 h1] i1)→
 d1 [int .i64 0,slice m n o] q))))
 (R (tuple #[slice m n o,map d]) p))→k [int .i64 l,slice m n o] p)→
 k [int .i64 0,slice (some (nb w)) 1 1] j)
theorem wG (a:OA) (b:Value) (w:World) (R:RW) (hh:LU a b w R):CR 108 #[pointer a,b] w R:=
 aD (fn:=Tryz.f108) (by kernel_rfl) (by kernel_rfl) (by kernel_rfl) (by kernel_rfl) (by kernel_rfl) hh
def Na (a:Int) (b:OA) (w:World) (R:RW):Prop:=
 af b (fun c=>
 ∃d f g,w.cell? c=some (slice d f g)∧
 af d (fun h=>
 (0:Int)≤a∧a< (f:Int)∧
 ∃i,w.cell? (h.add (a.toNat*1))=some (int .i64 i)∧
 R (int .i64 i) w))
theorem xm (a:Int) (b:OA) (w:World) (R:RW) (hh:Na a b w R):CR 109 #[int .i64 a,pointer b] w R:=
 aD (fn:=Tryz.f109) (by kernel_rfl) (by kernel_rfl) (by kernel_rfl) (by kernel_rfl) (by kernel_rfl) hh
def LE (a b:Int) (w:World) (R:RW):Prop:=
 CP 209 #[int .u64 a,int .u64 b] w (fun c d=>
 ∃f g,c= .returned (tuple #[int .u64 f,int .u64 g])∧
 R (tuple #[int .u64 f,int .u64 g]) d)
theorem yo (a b:Int) (w:World) (R:RW) (hh:LE a b w R):CR 163 #[int .u64 a,int .u64 b] w R:=
 aD (fn:=Tryz.f163) (by kernel_rfl) (by kernel_rfl) (by kernel_rfl) (by kernel_rfl) (by kernel_rfl) hh
def M6 (a:OA) (w:World) (R:RW):Prop:=
 ∀b,b=w.alloc (.cells #[pointer a] 83)→
 ∃c,b.cell? (nb w)=some (pointer c)∧
 CP 37 #[pointer c] b (fun d f=>
 ∃g,d= .returned (int .i64 g)∧
 CP 210 #[int .i64 g,func (.func 211) #[] #[pointer (some (nb w))]] f (fun h i=>
 ∃j k l m,h= .returned (tuple #[slice j k l,int .i64 m])∧
 ∀n,n=i.alloc (.cells #[slice none 0 0] 28)→
 (slice j k l).oneCell'=true∧(∃u,n.cell? (nb i)=some u)∧n.frozen? (nb i)=false∧
 ∀o,o=(n.setCell (nb i) (slice j k l))→
 ∀p:KW,(∀(q:Int) (r:World),(∃s,r.cell? (nb w)=some (pointer s)∧
 CP 37 #[pointer s] r (fun t x=>
 ∃y,t= .returned (int .i64 y)∧
 CP 212 #[int .i64 y,func (.func 213) #[] #[pointer (some (nb i)),pointer (some (nb w))]] x (fun z a1=>
 ∃b1 c1 d1 e1,z= .returned (tuple #[slice b1 c1 d1,int .i64 e1])∧
 (slice b1 c1 d1).oneCell'=true∧(∃u,a1.cell? (nb i)=some u)∧a1.frozen? (nb i)=false∧
 ∀f1,f1=(a1.setCell (nb i) (slice b1 c1 d1))→
 ac (e1==q)
 (∃g1,f1.cell? (nb w)=some (pointer g1)∧
 ∃h1 i1 j1,f1.cell? (nb i)=some (slice h1 i1 j1)∧
 af g1 (fun k1=>
 (slice h1 i1 j1).oneCell'=true∧(∃u,f1.cell? ((k1.add 3).add 3)=some u)∧f1.frozen? ((k1.add 3).add 3)=false∧
 ∀l1,l1=(f1.setCell ((k1.add 3).add 3) (slice h1 i1 j1))→
 R (tuple #[]) l1))
 (p [int .i64 e1] f1))))→p [int .i64 q] r)→
 p [int .i64 m] o))
theorem yb (a:OA) (w:World) (R:RW) (hh:M6 a w R):CR 164 #[pointer a] w R:=
 aD (fn:=Tryz.f164) (by kernel_rfl) (by kernel_rfl) (by kernel_rfl) (by kernel_rfl) (by kernel_rfl) hh
def IU (a b:Int) (w:World) (R:RW):Prop:=
 (0:Int)≤32∧
 (0:Int)≤32∧
 Ar .u64 ((IntKind.wrap .u64 ((BitVec.ofInt (IntKind.bits .u64) a&&&BitVec.ofInt (IntKind.bits .u64) 4294967295).toNat:Int):Int)*(IntKind.wrap .u64 ((BitVec.ofInt (IntKind.bits .u64) b&&&BitVec.ofInt (IntKind.bits .u64) 4294967295).toNat:Int))) (fun c=>
 Ar .u64 ((Int.fdiv a (2^(min (32:Int).toNat (IntKind.bits .u64))):Int)*(IntKind.wrap .u64 ((BitVec.ofInt (IntKind.bits .u64) b&&&BitVec.ofInt (IntKind.bits .u64) 4294967295).toNat:Int))) (fun d=>
 (0:Int)≤32∧
 Ar .u64 (d+(Int.fdiv c (2^(min (32:Int).toNat (IntKind.bits .u64))))) (fun f=>
 (0:Int)≤32∧
 Ar .u64 ((IntKind.wrap .u64 ((BitVec.ofInt (IntKind.bits .u64) a&&&BitVec.ofInt (IntKind.bits .u64) 4294967295).toNat:Int):Int)*(Int.fdiv b (2^(min (32:Int).toNat (IntKind.bits .u64))))) (fun g=>
 Ar .u64 ((IntKind.wrap .u64 ((BitVec.ofInt (IntKind.bits .u64) f&&&BitVec.ofInt (IntKind.bits .u64) 4294967295).toNat:Int):Int)+g) (fun h=>
 Ar .u64 ((Int.fdiv a (2^(min (32:Int).toNat (IntKind.bits .u64))):Int)*(Int.fdiv b (2^(min (32:Int).toNat (IntKind.bits .u64))))) (fun i=>
 Ar .u64 (i+(Int.fdiv f (2^(min (32:Int).toNat (IntKind.bits .u64))))) (fun j=>
 (0:Int)≤32∧
 Ar .u64 (j+(Int.fdiv h (2^(min (32:Int).toNat (IntKind.bits .u64))))) (fun k=>
 Ar .u64 (a*b) (fun l=>
 R (tuple #[int .u64 k,int .u64 l]) w)))))))))
theorem yB (a b:Int) (w:World) (R:RW) (hh:IU a b w R):CR 209 #[int .u64 a,int .u64 b] w R:=
 aD (fn:=Tryz.f209) (by kernel_rfl) (by kernel_rfl) (by kernel_rfl) (by kernel_rfl) (by kernel_rfl) hh
def NG (a:Int) (b:Value) (w:World) (R:RW):Prop:=
 ∃c d,(Instr.makeMap 350 none).run Tryz.prog w= .ok (map c) d∧
 ∃f g h i,(Instr.makeSlice 28 (int .i64 a) (int .i64 a)).run Tryz.prog d= .ok (slice f g h) i∧
 ∀j:KW,(∀(k:Int) (l:World),(ac (decide (k<a))
 (bH gr b [int .i64 k] l (fun m n=>
 ∃o,m= .returned (bool o)∧
 ∃p q r,(Instr.lookup 350 (map c) (bool o) true).run Tryz.prog n= .ok (tuple #[int .i64 p,bool q]) r∧
 ∀s:KW,(∀(t:Int) (x:World),(af f (fun y=>
 (0:Int)≤k∧k< (g:Int)∧
 (int .i64 t).oneCell'=true∧(∃u,x.cell? (y.add (k.toNat*1))=some u)∧x.frozen? (y.add (k.toNat*1))=false∧
 ∀z,z=(x.setCell (y.add (k.toNat*1)) (int .i64 t))→
 Ar .i64 (k+1) (fun a1=>
 j [int .i64 a1] z)))→s [int .i64 t] x)→
 ac (!q)
 (∃b1 c1,(Builtin.len_ #[350] 3 #[map c]).run Tryz.prog r= .ok (int .i64 b1) c1∧
 ∃d1,(Instr.mapUpdate 350 (map c) (bool o) (int .i64 b1)).run Tryz.prog c1= .ok () d1∧
 s [int .i64 b1] d1)
 (s [int .i64 p] r)))
 (∃e1 f1,(Builtin.len_ #[350] 3 #[map c]).run Tryz.prog l= .ok (int .i64 e1) f1∧
 R (tuple #[slice f g h,int .i64 e1]) f1))→j [int .i64 k] l)→
 j [int .i64 0] i
theorem wU (a:Int) (b:Value) (w:World) (R:RW) (hh:NG a b w R):CR 210 #[int .i64 a,b] w R:=
 aD (fn:=Tryz.f210) (by kernel_rfl) (by kernel_rfl) (by kernel_rfl) (by kernel_rfl) (by kernel_rfl) hh
def LM (a:Int) (b:OA) (w:World) (R:RW):Prop:=
 af b (fun c=>
 ∃d,w.cell? c=some (pointer d)∧
 af d (fun f=>
 ∃g h i,w.cell? (f.add 2)=some (slice g h i)∧
 af g (fun j=>
 (0:Int)≤a∧a< (h:Int)∧
 ∃k,w.cell? (j.add (a.toNat*1))=some (bool k)∧
 R (bool k) w)))
theorem xy (a:Int) (b:OA) (w:World) (R:RW) (hh:LM a b w R):CR 211 #[int .i64 a,pointer b] w R:=
 aD (fn:=Tryz.f211) (by kernel_rfl) (by kernel_rfl) (by kernel_rfl) (by kernel_rfl) (by kernel_rfl) hh
def N8 (a:Int) (b:Value) (w:World) (R:RW):Prop:=
 ∃c d,(Instr.makeMap 246 none).run Tryz.prog w= .ok (map c) d∧
 ∃f g h i,(Instr.makeSlice 28 (int .i64 a) (int .i64 a)).run Tryz.prog d= .ok (slice f g h) i∧
 ∀j:KW,(∀(k:Int) (l:World),(ac (decide (k<a))
 (bH gr b [int .i64 k] l (fun m n=>
 ∃o,m= .returned (string o)∧
 ∃p q r,(Instr.lookup 246 (map c) (string o) true).run Tryz.prog n= .ok (tuple #[int .i64 p,bool q]) r∧
 ∀s:KW,(∀(t:Int) (x:World),(af f (fun y=>
 (0:Int)≤k∧k< (g:Int)∧
 (int .i64 t).oneCell'=true∧(∃u,x.cell? (y.add (k.toNat*1))=some u)∧x.frozen? (y.add (k.toNat*1))=false∧
 ∀z,z=(x.setCell (y.add (k.toNat*1)) (int .i64 t))→
 Ar .i64 (k+1) (fun a1=>
 j [int .i64 a1] z)))→s [int .i64 t] x)→
 ac (!q)
 (∃b1 c1,(Builtin.len_ #[246] 3 #[map c]).run Tryz.prog r= .ok (int .i64 b1) c1∧
 ∃d1,(Instr.mapUpdate 246 (map c) (string o) (int .i64 b1)).run Tryz.prog c1= .ok () d1∧
 s [int .i64 b1] d1)
 (s [int .i64 p] r)))
 (∃e1 f1,(Builtin.len_ #[246] 3 #[map c]).run Tryz.prog l= .ok (int .i64 e1) f1∧
 R (tuple #[slice f g h,int .i64 e1]) f1))→j [int .i64 k] l)→
 j [int .i64 0] i
theorem wD (a:Int) (b:Value) (w:World) (R:RW) (hh:N8 a b w R):CR 212 #[int .i64 a,b] w R:=
 aD (fn:=Tryz.f212) (by kernel_rfl) (by kernel_rfl) (by kernel_rfl) (by kernel_rfl) (by kernel_rfl) hh
def MR (a:Int) (b c:OA) (w:World) (R:RW):Prop:=
 ∀d,d=w.drew→
 af b (fun f=>
 ∃g h i,d.cell? f=some (slice g h i)∧
 af g (fun j=>
 (0:Int)≤a∧a< (h:Int)∧
 ∃k,d.cell? (j.add (a.toNat*1))=some (int .i64 k)∧
 af c (fun l=>
 ∃m,d.cell? l=some (pointer m)∧
 af m (fun n=>
 ∃o p q,d.cell? (n.add 1)=some (slice o p q)∧
 af o (fun r=>
 (0:Int)≤a∧a< (p:Int)∧
 ∃s t u,d.cell? (r.add (a.toNat*1))=some (slice s t u)∧
 af b (fun x=>
 ∃y z a1,d.cell? x=some (slice y z a1)∧
 CP 214 #[int .i64 k,slice s t u,slice y z a1] d (fun b1 c1=>
 ∃d1,b1= .returned (string d1)∧
 R (string d1) c1)))))))
theorem yf (a:Int) (b c:OA) (w:World) (R:RW) (hh:MR a b c w R):CR 213 #[int .i64 a,pointer b,pointer c] w R:=
 aD (fn:=Tryz.f213) (by kernel_rfl) (by kernel_rfl) (by kernel_rfl) (by kernel_rfl) (by kernel_rfl) hh
def NC (a:Int) (b:OA) (c d:Nat) (f:OA) (g h:Nat) (w:World) (R:RW):Prop:=
 Ar .i64 ((2:Int)*(c:Int)) (fun i=>
 Ar .i64 (i+2) (fun j=>
 ∃k l m n,(Instr.makeSlice 97 (int .i64 0) (int .i64 j)).run Tryz.prog w= .ok (slice k l m) n∧
 (0:Int)≤8∧
 ∀o,o=n.alloc (.cells #[int .u8 (IntKind.wrap .u8 a),int .u8 (IntKind.wrap .u8 (Int.fdiv a (2^(min (8:Int).toNat (IntKind.bits .i64)))))] 5)→
 ∃p q r s,(Builtin.append_ #[97,97] 97 #[slice k l m,slice (some (nb n)) 2 2]).run Tryz.prog o= .ok (slice p q r) s∧
 ∀t:KW,(∀(u:Int) (x:OA) (y z:Nat) (a1:World),(ac (decide (u< (c:Int)))
 (af b (fun b1=>
 (0:Int)≤u∧u< (c:Int)∧
 ∃c1,a1.cell? (b1.add (u.toNat*1))=some (int .i64 c1)∧
 ∀d1,d1=a1.drew→
 af f (fun e1=>
 (0:Int)≤c1∧c1< (g:Int)∧
 ∃f1,d1.cell? (e1.add (c1.toNat*1))=some (int .i64 f1)∧
 af f (fun g1=>
 (0:Int)≤c1∧c1< (g:Int)∧
 ∃h1,d1.cell? (g1.add (c1.toNat*1))=some (int .i64 h1)∧
 (0:Int)≤8∧
 ∀i1,i1=d1.alloc (.cells #[int .u8 (IntKind.wrap .u8 f1),int .u8 (IntKind.wrap .u8 (Int.fdiv h1 (2^(min (8:Int).toNat (IntKind.bits .i64)))))] 5)→
 ∃j1 k1 l1 m1,(Builtin.append_ #[97,97] 97 #[slice x y z,slice (some (nb d1)) 2 2]).run Tryz.prog i1= .ok (slice j1 k1 l1) m1∧
 Ar .i64 (u+1) (fun n1=>
 t [int .i64 n1,slice j1 k1 l1] m1)))))
 (∃o1 p1,(convert 97 9 (slice x y z)).run Tryz.prog a1= .ok (string o1) p1∧
 R (string o1) p1))→t [int .i64 u,slice x y z] a1)→
 t [int .i64 0,slice p q r] s))
theorem zr (a:Int) (b:OA) (c d:Nat) (f:OA) (g h:Nat) (w:World) (R:RW) (hh:NC a b c d f g h w R):CR 214 #[int .i64 a,slice b c d,slice f g h] w R:=
 aD (fn:=Tryz.f214) (by kernel_rfl) (by kernel_rfl) (by kernel_rfl) (by kernel_rfl) (by kernel_rfl) hh
theorem Gm:∃i,Tryz.prog.info? bf=some i∧i.zero=some (.int .i64 0)∧i.size=1∧i.bytes=8:=by
 have h:(Tryz.prog.info? bf).map (fun i=>(i.zero,i.size,i.bytes))=some (some (.int .i64 0),1,8):=by kernel_rfl
 obtain⟨i,hi,he⟩:=Option.map_eq_some_iff.1 h;simp only [Prod.mk.injEq]at he;exact⟨i,hi,he.1,he.2.1,he.2.2⟩
theorem jz (w:World) (n:Nat) (hn:n≤1000000):(Instr.makeSlice d_ (.int .i64 n) (.int .i64 n)).run Tryz.prog w= .ok (.slice (some (nb w)) n n) (w.alloc (.cells (Array.replicate n (.int .i64 0)) bf)):=by
 obtain⟨i,hi,hz,hs,hb⟩:=Gm;have:=Go.run_make (P:=Tryz.prog) w d_ bf i (.int .i64 0) (by kernel_rfl) hi hz .i64 .i64 (n:Int) (n:Int) (by omega) (Int.le_refl _) (by rw [hb];omega) (by omega);rw [this];congr 3;rw [hs];apply Array.ext
 ·rw [size_madeCells];simp
 ·intro j h1 h2;simp only [madeCells,Array.getElem_map,Array.getElem_range,Array.getElem_replicate];show(#[Value.int .i64 0]:Array Value)[j%1]! =_;rw [Nat.mod_one];rfl
def part {α:Type} (z:α) (f:Nat→α) (n i:Nat):List α:=(List.range n).map fun j=>if j<i then f j else z
theorem dn {α:Type} (z:α) (f:Nat→α) (n i:Nat):(part z f n i).length=n:=by simp [part]
theorem jo {α:Type} (z:α) (f:Nat→α) {n i j:Nat} (hj:j<n):(part z f n i)[j]? =some (if j<i then f j else z):=by simp [part,List.getElem?_range hj]
theorem mX {α:Type} (z:α) (f:Nat→α) {n i:Nat} (hi:i<n):(part z f n i).set i (f i)=part z f n (i+1):=by
 apply List.ext_getElem?;intro j;by_cases hj:j<n
 ·rw [List.getElem?_set,jo z f hj,jo z f hj];by_cases e:i=j
  ·subst e;simp [dn,hi]
  ·rw [if_neg e];by_cases h:j<i
   ·rw [if_pos h,if_pos (by omega)]
   ·rw [if_neg h,if_neg (by omega)]
 ·rw [List.getElem?_eq_none_iff.2 (by rw [List.length_set,dn];omega),List.getElem?_eq_none_iff.2 (by rw [dn];omega)]
theorem D6 {α:Type} (z:α) (f:Nat→α) (n:Nat):part z f n 0=List.replicate n z:=by
 apply List.ext_getElem?;intro j;by_cases hj:j<n
 ·rw [jo z f hj,List.getElem?_replicate,if_pos hj,if_neg (by omega)]
 ·rw [List.getElem?_eq_none_iff.2 (by rw [dn];omega),List.getElem?_eq_none_iff.2 (by simp;omega)]
theorem qf {α:Type} (z:α) (f:Nat→α) (n:Nat):part z f n n=(List.range n).map f:=by
 apply List.map_congr_left;intro j hj;rw [if_pos (List.mem_range.1 hj)]
theorem rg {α:Type} {enc:α→List Value} (z:α) (zv:Value) (henc:enc z= [zv]) (e:TypeId) (f:Nat→α) (w:World) {n:Nat} (hn:n≤1000000):(w.alloc (.cells (Array.replicate n zv) e)).ownsRow w.heap.size e 1 (.slice (some (nb w)) n n) n ((part z f n 0).flatMap enc):=by
 have hf:(part z f n 0).flatMap enc=List.replicate n zv:=by
  rw [D6,List.flatMap_replicate,henc];simp
 rw [hf,show Array.replicate n zv=(List.replicate n zv).toArray by simp];exact fA _ (by simp) hn (Nat.le_refl _)
theorem lQ (w:World) (n bad:Nat) (may:Value) (m:Nat→Bool) (hn:n≤10000) (hm:∀k,k<n→∀w1,Below w.heap.size w w1→bH gr may [.int .i64 (k:Int)] w1 (fun e w2=>e= .returned (.bool (m k))∧Below w1.heap.size w1 w2)):
  CP 101 #[.int .i64 (n:Int),.int .i64 (bad:Int),may] w fun e w'=>∃l:Sl,e= .returned l.v∧l.n=n∧w'.ownsRow w.heap.size bf 1 l.v l.n (((List.range n).map fun k=>((if m k then k+1 else bad:Nat):Int)).flatMap aQ)∧Below w.heap.size w w':=by
 refine aL (vQ n bad may w) ?_;obtain⟨f,hf⟩:∃f:Nat→Int,f=fun k=>((if m k then k+1 else bad:Nat):Int):=⟨_,rfl⟩;refine⟨some (nb w),n,n,_,jz w n (by omega),?_⟩;intro I hI;have b0:=ag w (.cells (Array.replicate n (.int .i64 0)) bf);have o0:=rg (enc:=aQ) (0:Int) (.int .i64 0) rfl bf f w (n:=n) (by omega);obtain⟨l,hl⟩:∃l:Sl,l=⟨some (nb w),n,n⟩:=⟨_,rfl⟩;have key:=aX (α:=World) n (fun i q=>q.ownsRow w.heap.size bf 1 l.v l.n ((part 0 f n i).flatMap aQ)∧Below w.heap.size w q) (fun i q=>I [.int .i64 (i:Int)] q) _ ⟨by subst hl;exact o0,b0⟩ ?_ ?_
 ·exact key
 ·rintro i hi ih q ⟨ho,hB⟩;refine hI _ _ (ac.yes (decide_eq_true (by omega)) ?_);intro J hJ;have hln:l.n=n:=by subst hl;rfl
  have hla:l.a=some (nb w):=by subst hl;rfl
  obtain⟨u,fz,k⟩:=fP (l:=l) (enc:=aQ) (sz:=1) (fun _=>rfl) (by decide) ho (by rw [dn];exact hln) hla (jo 0 f hi) (k:=0) (by decide) (bad:Int) (.int .i64 (bad:Int)) rfl;rw [ay]at u fz k;refine af.mk _ rfl ⟨by omega,by omega,rfl,u,fz,?_⟩;intro w4 hw4;obtain⟨o4,_,_,b4⟩:=k w4 hw4;have hB4:=b4 _ _ (Nat.le_refl _) hB;refine(hm i hi w4 hB4).mono ?_;rintro e w5 ⟨rfl,b5⟩;have o5:=aE o4 b5;have hB5:=ae hB4 b5;refine⟨_,rfl,ac.mk (fun h=>?_) fun h=>?_⟩
  ·have hget:((part 0 f n i).set i (bad:Int))[i]? =some (bad:Int):=by rw [List.getElem?_set_self (by rw [dn];exact hi)]
   obtain⟨u2,fz2,k2⟩:=fP (l:=l) (enc:=aQ) (sz:=1) (fun _=>rfl) (by decide) o5 (by rw [List.length_set,dn];exact hln) hla hget (k:=0) (by decide) ((i+1:Nat):Int) (.int .i64 ((i+1:Nat):Int)) rfl;rw [ay]at u2 fz2 k2;refine Ar.nat (i+1) rfl (by omega) (af.mk _ rfl ⟨by omega,by omega,rfl,u2,fz2,?_⟩);intro w6 hw6;obtain⟨o6,_,_,b6⟩:=k2 w6 hw6;refine hJ _ (Ar.nat (i+1) rfl (by omega) (ih w6 ⟨?_,b6 _ _ (Nat.le_refl _) hB5⟩));rw [List.set_set]at o6;have:=mX (0:Int) f hi;rw [show f i=((i+1:Nat):Int) by rw [hf];show((if m i then i+1 else bad:Nat):Int)=_;rw [if_pos h]]at this;rw [this]at o6;exact o6
  ·refine hJ _ (Ar.nat (i+1) rfl (by omega) (ih w5 ⟨?_,hB5⟩));have:=mX (0:Int) f hi;rw [show f i=(bad:Int) by rw [hf];show((if m i then i+1 else bad:Nat):Int)=_;rw [if_neg (by rw [h];decide)]]at this;rw [this]at o5;exact o5
 ·rintro q ⟨ho,hB⟩;refine hI _ _ (ac.no (decide_eq_false (by omega)) ⟨l,by subst hl;rfl,by subst hl;rfl,?_,hB⟩);rw [qf,hf]at ho;exact ho
theorem Px (x:Nat):Int.fdiv (x:Int) (2^(min (8:Int).toNat (IntKind.bits .i64)))=((x/256:Nat):Int):=by
 rw [show(2:Int)^(min (8:Int).toNat (IntKind.bits .i64))=((256:Nat):Int) by decide,Int.fdiv_eq_ediv_of_nonneg _ (by omega)];rfl
theorem Fc (x:Nat):(#[Value.int .u8 (IntKind.wrap .u8 (x:Int)),Value.int .u8 (IntKind.wrap .u8 (Int.fdiv (x:Int) (2^(min (8:Int).toNat (IntKind.bits .i64)))))]:Array Value)=((fT x).flatMap gn).toArray:=by
 rw [Px,ug,ug];rfl
theorem Dl (w:World) (c:Nat) (hc:c≤1000000):∃w1,(Instr.makeSlice jW (.int .i64 0) (.int .i64 (c:Int))).run Tryz.prog w= .ok (.slice (some (nb w)) 0 c) w1∧w1.ownsRow w.heap.size lK 1 (.slice (some (nb w)) 0 c) 0 (([]:List UInt8).flatMap gn)∧Below w.heap.size w w1:=by
 have h:(Tryz.prog.info? lK).map (fun i=>(i.zero,i.size,i.bytes))=some (some (.int .u8 0),1,1):=by kernel_rfl
 obtain⟨i,hi,he⟩:=Option.map_eq_some_iff.1 h;simp only [Prod.mk.injEq]at he;obtain⟨hz,hs,hb⟩:=he;have:=Go.run_make (P:=Tryz.prog) w jW lK i (.int .u8 0) (by kernel_rfl) hi hz .i64 .i64 0 (c:Int) (by omega) (by omega) (by rw [hb];omega) (by omega);refine⟨_,this,?_,ag _ _⟩;refine⟨rfl,.inr ⟨w.heap.size,c,_,rfl,Nat.le_refl _,ak _ _,Nat.zero_le _,by unfold maxLen;omega,?_,by simp⟩⟩;rw [size_madeCells,hs];simp
theorem vB (w:World) (x:Nat) (A A2:Option Addr) (C C2:Nat) (l of:List Nat) (hl:Rw aQ 1 w A (l.map fun i:Nat=>(i:Int))) (ho:Rw aQ 1 w A2 (of.map fun i:Nat=>(i:Int))) (hin:∀y∈l,y<of.length) (hn:l.length≤10000):
  CP 214 #[.int .i64 (x:Int),.slice A l.length C,.slice A2 of.length C2] w fun e w'=>e= .returned (.string (str (fT x++(l.map fun y=>of.getD y 0).flatMap fT)))∧Below w.heap.size w w':=by
 refine aL (zr x A l.length C A2 of.length C2 w) ?_;obtain⟨w1,hr1,o1,b1⟩:=Dl w (2*l.length+2) (by omega);refine Ar.nat (2*l.length) (by omega) (by omega) (Ar.nat (2*l.length+2) (by omega) (by omega) ⟨_,_,_,w1,hr1,by decide,?_⟩);intro w2 hw2;rw [Fc]at hw2;have b2:Below w1.heap.size w1 w2:=by subst hw2;exact ag _ _
 have h2:LsAt gn 1 w2 ⟨some (nb w1),2,2⟩ (fT x):=LsAt.of_own GF (B:=0) (by subst hw2;exact fA (n:=2) _ rfl (by decide) (Nat.zero_le _));obtain⟨f0,w3,f1,f2,f3,f4,_,_⟩:=GF.spread (s:=⟨some (nb w),0,2*l.length+2⟩) (xs:=[]) (aE o1 b2) h2 (ae b1 b2).size (by show 0≤_;omega) (by show 2≤_;omega) (by decide);refine⟨f0.a,f0.n,f0.c,w3,f2,?_⟩;intro I hI;let g (y:Nat):Nat:=of.getD y 0;have key:=aX (α:=Sl×World) l.length (fun i y=>y.2.ownsRow w.heap.size lK 1 y.1.v y.1.n ((fT x++((l.take i).map g).flatMap fT).flatMap gn)∧y.1.n=2+2*i∧Below w.heap.size w y.2) (fun i y=>I [.int .i64 (i:Int),y.1.v] y.2) (f0,w3) ⟨by simpa using f3,f1,f4 _ (ae b1 b2)⟩ ?_ ?_
 ·exact key
 ·rintro i hi ih ⟨f,q⟩ ⟨hown,hfn,hB⟩;change q.ownsRow w.heap.size lK 1 f.v f.n _ at hown;change f.n=2+2*i at hfn;change Below w.heap.size w q at hB;obtain⟨p,hp,c0⟩:=aZ (hl.on hB) (show i< (l.map fun i:Nat=>(i:Int)).length by simpa using hi) (v:=.int .i64 ((l[i]:Nat):Int)) (by simp [aQ]);have hlt:=hin _ (List.getElem_mem hi);refine hI _ f.a f.n f.c q (ac.yes (decide_eq_true (by omega)) (af.mk p hp ⟨by omega,by omega,_,c0,?_⟩));intro q1 hq1;have bq1:Below q.heap.size q q1:=by subst hq1;exact aO q
  have hB1:=ae hB bq1;obtain⟨p2,hp2,c2⟩:=aZ (ho.on hB1) (show l[i] < (of.map fun i:Nat=>(i:Int)).length by simpa using hlt) (v:=.int .i64 ((of[l[i]]:Nat):Int)) (by simp [aQ]);refine af.mk p2 hp2 ⟨by omega,by omega,_,c2,af.mk p2 hp2 ⟨by omega,by omega,_,c2,by decide,?_⟩⟩;intro q2 hq2;rw [Fc]at hq2;have bq2:Below q1.heap.size q1 q2:=by subst hq2;exact ag _ _
  have h3:LsAt gn 1 q2 ⟨some (nb q1),2,2⟩ (fT of[l[i]]):=LsAt.of_own GF (B:=0) (by subst hq2;exact fA (n:=2) _ rfl (by decide) (Nat.zero_le _));obtain⟨f',q3,e1,e2,e3,e4,_,_⟩:=GF.spread (aE (aE hown bq1) bq2) h3 (ae hB1 bq2).size (by omega) (by show 2≤_;omega) (by decide);refine⟨f'.a,f'.n,f'.c,q3,e2,Ar.nat (i+1) rfl (by omega) (ih (f',q3) ⟨?_,?_,e4 _ (ae hB1 bq2)⟩)⟩
  ·have e:fT x++((l.take (i+1)).map g).flatMap fT=(fT x++((l.take i).map g).flatMap fT)++fT of[l[i]]:=by
    have hg:g l[i]=of[l[i]]:=fZ hlt 0;rw [List.take_add_one,List.getElem?_eq_getElem hi,List.map_append,List.flatMap_append,List.append_assoc];simp [hg]
   show q3.ownsRow w.heap.size lK 1 f'.v f'.n ((fT x++((l.take (i+1)).map g).flatMap fT).flatMap gn);rw [e];exact e3
  ·show f'.n=2+2*(i+1);change f'.n=f.n+2 at e1;omega
 ·rintro⟨f,q⟩ ⟨hown,hfn,hB⟩;change q.ownsRow w.heap.size lK 1 f.v f.n _ at hown;rw [List.take_length]at hown;exact hI _ f.a f.n f.c q (ac.no (decide_eq_false (by omega)) ⟨_,q,iC (P:=Tryz.prog) mC Gh ud (by rw [←zW];exact hown),rfl,hB⟩)
section
variable {κ:Type} [DecidableEq κ] [BEq κ] [LawfulBEq κ] {kv:κ→Value}
def iO (k:Nat→κ) (i:Nat):List (κ×Value):=(aJ k i).zipIdx.map fun x=>(k x.1,.int .i64 (x.2:Int))
theorem kO (k:Nat→κ) (i:Nat):ez (k i) (iO k i)=((aJ k i).findIdx? fun a=>decide (k a=k i)).map fun c:Nat=>Value.int .i64 (c:Int):=by
 have:=gV k (k i) (aJ k i) 0;simp only [Nat.zero_add]at this;rw [show ez (k i) (iO k i)=_ from this];congr 1;rw [List.idxOf?,List.findIdx?_map];congr 1;funext a;show(k a==k i)=_;by_cases h:k a=k i
 ·simp [h]
 ·simp [h]
end
section
variable {κ:Type} [DecidableEq κ]
theorem xi {k:Nat→κ} {i:Nat} (h:aJ k (i+1)=aJ k i++ [i]):iO k (i+1)=iO k i++ [(k i,.int .i64 (((aJ k i).length:Nat):Int))]:=by
 unfold iO;rw [h,List.zipIdx_append,List.map_append];simp
theorem im (k:Nat→κ) (i:Nat):(iO k i).length=(aJ k i).length:=by simp [iO]
end
section
variable {κ:Type} {kv:κ→Value}
theorem m' {t kt et:TypeId} (ht:Tryz.prog.underlying t=some (.map kt et)) {w:World} {r:Nat} {m:List (κ×Value)} (h:bv kv w r m) (t2:TypeId):(Builtin.len_ #[t] t2 #[.map (some r)]).run Tryz.prog w= .ok (.int .i64 (m.length:Int)) w:=by
 obtain⟨es,clock,hb,hm,_⟩:=h;have:es.size=m.length:=by
  have:=congrArg List.length hm;simpa using this
 rw [←this];simp [Builtin.len_,Sem.run_bind,run_underlying ht,Result.andThen,fg hb,goInt]
end
def kK (b:Bool):Value:=.bool b
theorem Jt:hD Tryz.prog bN Bool kK:=by
 refine qk (d:=.bool) (by kernel_rfl) (fun a b=>by cases a<;>cases b<;>rfl) (fun e k w=>?_)
 unfold Instr.checkKey;simp [run_underlying (show Tryz.prog.underlying bN=some .bool by kernel_rfl),Result.andThen]
theorem p_:Tryz.prog.underlying 350=some (.map bN bf):=by kernel_rfl
theorem zi (w:World) (n:Nat) (key:Value) (k:Nat→Bool) (hn:n≤10000) (his:∀i,i<n→∀w1,Below w.heap.size w w1→bH gr key [.int .i64 (i:Int)] w1 (fun e w2=>e= .returned (kK (k i))∧Below w1.heap.size w1 w2)):
  CP 210 #[.int .i64 (n:Int),key] w fun e w'=>∃of:Sl,e= .returned (.tuple #[of.v,.int .i64 (((aJ k n).length:Nat):Int)])∧of.n=n∧w'.ownsRow w.heap.size bf 1 of.v of.n (((List.range n).map fun i=>((clsOf k i:Nat):Int)).flatMap aQ)∧Below w.heap.size w w':=by
 refine aL (wU n key w) ?_;refine⟨_,_,fo _,?_⟩;have b1:=ag w (.map #[] 0);have m1:bv kK (w.alloc (.map #[] 0)) w.heap.size (iO k 0):=iK w;obtain⟨w1,hw1⟩:∃w1,w1=w.alloc (.map #[] 0):=⟨_,rfl⟩;rw [←hw1]at b1 m1;rw [←hw1];refine⟨some (nb w1),n,n,_,jz w1 n (by omega),?_⟩;have b2:=ag w1 (.cells (Array.replicate n (.int .i64 0)) bf);obtain⟨f,hf⟩:∃f:Nat→Int,f=fun i=>((clsOf k i:Nat):Int):=⟨_,rfl⟩;have o2:=rg (enc:=aQ) (0:Int) (.int .i64 0) rfl bf f w1 (n:=n) (by omega);obtain⟨l,hl⟩:∃l:Sl,l=⟨some (nb w1),n,n⟩:=⟨_,rfl⟩;have hln:l.n=n:=by subst hl;rfl
 have hla:l.a=some (nb w1):=by subst hl;rfl
 obtain⟨w2,hw2⟩:∃w2,w2=w1.alloc (.cells (Array.replicate n (.int .i64 0)) bf):=⟨_,rfl⟩;rw [←hw2]at b2 o2;rw [←hw2];have s1:w.heap.size<w1.heap.size:=m1.lt;intro I hI;have key:=aX (α:=World) n (fun i q=>q.ownsRow w1.heap.size bf 1 l.v l.n ((part 0 f n i).flatMap aQ)∧bv kK q w.heap.size (iO k i)∧Below w.heap.size w q) (fun i q=>I [.int .i64 (i:Int)] q) w2 ⟨by subst hl;exact o2,m1.on b2,ae b1 b2⟩ ?_ ?_
 ·exact key
 ·rintro i hi ih q ⟨ho,hm,hB⟩;refine hI _ _ (ac.yes (decide_eq_true (by omega)) ((his i hi q hB).mono ?_));rintro e w5 ⟨rfl,b5⟩;have hB5:=ae hB b5;have ho5:=aE ho b5;have hm5:=hm.on b5;have hl5:=fH Jt p_ eE hm5 (k i);rw [kO]at hl5;refine⟨_,rfl,?_⟩;have next:∀(z:World),z.ownsRow w1.heap.size bf 1 l.v l.n ((part 0 f n i).flatMap aQ)→bv kK z w.heap.size (iO k (i+1))→Below w.heap.size w z→
    af (some (nb w1)) (fun pa=>(0:Int)≤(i:Int)∧(i:Int) < ((n:Nat):Int)∧
     (Value.int .i64 ((clsOf k i:Nat):Int)).oneCell'=true∧(∃u,z.cell? (pa.add ((i:Int).toNat*1))=some u)∧z.frozen? (pa.add ((i:Int).toNat*1))=false∧
     ∀w7:World,w7=(z.setCell (pa.add ((i:Int).toNat*1)) (Value.int .i64 ((clsOf k i:Nat):Int)))→
     Ar .i64 ((i:Int)+1) (fun n_3=>I [Value.int .i64 n_3] w7)):=by
   intro z zo zm zB;obtain⟨u,fz,kk⟩:=fP (l:=l) (enc:=aQ) (sz:=1) (fun _=>rfl) (by decide) zo (by rw [dn];exact hln) hla (jo 0 f hi) (k:=0) (by decide) (f i) (.int .i64 (f i)) rfl;rw [ay]at u fz kk;refine af.mk _ rfl ⟨by omega,by omega,rfl,u,fz,?_⟩;intro w7 hw7;rw [show((clsOf k i:Nat):Int)=f i by rw [hf]]at hw7;obtain⟨o7,s7,z7,b7⟩:=kk w7 hw7;refine Ar.nat (i+1) rfl (by omega) (ih w7 ⟨?_,zm.same (s7 _ (en zo zm)),b7 _ _ (by omega) zB⟩);rw [mX (0:Int) f hi]at o7;exact o7
  rcases dX (k:=k) i with⟨c,hc,h2,h3,_⟩ |⟨hc,h2,h3,_⟩
  ·rw [hc]at hl5;refine⟨_,_,w5,hl5,?_⟩;intro J hJ;refine ac.no rfl (hJ _ _ ?_);have:=next w5 ho5 (by rw [show iO k (i+1)=iO k i by unfold iO;rw [h2]];exact hm5) hB5;rw [h3]at this;exact this
  ·rw [hc]at hl5;refine⟨_,_,w5,hl5,?_⟩;intro J hJ;obtain⟨w11,hr,hm11,hs11,hz11,hB11⟩:=e_ Jt p_ hm5 (k i) (.int .i64 (((iO k i).length:Nat):Int)) (by rw [kO,hc];rfl);refine ac.yes rfl ⟨_,_,m' p_ hm5 _,w11,hr,hJ _ _ ?_⟩;rw [im]at hm11⊢;have:=next w11 (aN ho5 fun j hj=>hs11 j fun e=>en ho5 hm5 (by rw [hj,e])) (by rw [xi h2];exact hm11) (hB11 _ _ (Nat.le_refl _) hB5);rw [h3]at this;exact this
 ·rintro q ⟨ho,hm,hB⟩;refine hI _ _ (ac.no (decide_eq_false (by omega)) ⟨_,_,m' p_ hm _,l,?_,hln,?_,hB⟩)
  ·rw [im];subst hl;rfl
  ·rw [qf,hf]at ho;exact bG ho (by omega)
theorem vy (w:World) (n:Nat) (key:Value) (k:Nat→Bs) (hn:n≤10000) (his:∀i,i<n→∀w1,Below w.heap.size w w1→bH gr key [.int .i64 (i:Int)] w1 (fun e w2=>e= .returned (dj (k i))∧Below w1.heap.size w1 w2)):
  CP 212 #[.int .i64 (n:Int),key] w fun e w'=>∃of:Sl,e= .returned (.tuple #[of.v,.int .i64 (((aJ k n).length:Nat):Int)])∧of.n=n∧w'.ownsRow w.heap.size bf 1 of.v of.n (((List.range n).map fun i=>((clsOf k i:Nat):Int)).flatMap aQ)∧Below w.heap.size w w':=by
 refine aL (wD n key w) ?_;refine⟨_,_,fo _,?_⟩;have b1:=ag w (.map #[] 0);have m1:bv dj (w.alloc (.map #[] 0)) w.heap.size (iO k 0):=iK w;obtain⟨w1,hw1⟩:∃w1,w1=w.alloc (.map #[] 0):=⟨_,rfl⟩;rw [←hw1]at b1 m1;rw [←hw1];refine⟨some (nb w1),n,n,_,jz w1 n (by omega),?_⟩;have b2:=ag w1 (.cells (Array.replicate n (.int .i64 0)) bf);obtain⟨f,hf⟩:∃f:Nat→Int,f=fun i=>((clsOf k i:Nat):Int):=⟨_,rfl⟩;have o2:=rg (enc:=aQ) (0:Int) (.int .i64 0) rfl bf f w1 (n:=n) (by omega);obtain⟨l,hl⟩:∃l:Sl,l=⟨some (nb w1),n,n⟩:=⟨_,rfl⟩;have hln:l.n=n:=by subst hl;rfl
 have hla:l.a=some (nb w1):=by subst hl;rfl
 obtain⟨w2,hw2⟩:∃w2,w2=w1.alloc (.cells (Array.replicate n (.int .i64 0)) bf):=⟨_,rfl⟩;rw [←hw2]at b2 o2;rw [←hw2];have s1:w.heap.size<w1.heap.size:=m1.lt;intro I hI;have key:=aX (α:=World) n (fun i q=>q.ownsRow w1.heap.size bf 1 l.v l.n ((part 0 f n i).flatMap aQ)∧bv dj q w.heap.size (iO k i)∧Below w.heap.size w q) (fun i q=>I [.int .i64 (i:Int)] q) w2 ⟨by subst hl;exact o2,m1.on b2,ae b1 b2⟩ ?_ ?_
 ·exact key
 ·rintro i hi ih q ⟨ho,hm,hB⟩;refine hI _ _ (ac.yes (decide_eq_true (by omega)) ((his i hi q hB).mono ?_));rintro e w5 ⟨rfl,b5⟩;have hB5:=ae hB b5;have ho5:=aE ho b5;have hm5:=hm.on b5;have hl5:=fH rt gP eE hm5 (k i);rw [kO]at hl5;refine⟨_,rfl,?_⟩;have next:∀(z:World),z.ownsRow w1.heap.size bf 1 l.v l.n ((part 0 f n i).flatMap aQ)→bv dj z w.heap.size (iO k (i+1))→Below w.heap.size w z→
    af (some (nb w1)) (fun pa=>(0:Int)≤(i:Int)∧(i:Int) < ((n:Nat):Int)∧
     (Value.int .i64 ((clsOf k i:Nat):Int)).oneCell'=true∧(∃u,z.cell? (pa.add ((i:Int).toNat*1))=some u)∧z.frozen? (pa.add ((i:Int).toNat*1))=false∧
     ∀w7:World,w7=(z.setCell (pa.add ((i:Int).toNat*1)) (Value.int .i64 ((clsOf k i:Nat):Int)))→
     Ar .i64 ((i:Int)+1) (fun n_3=>I [Value.int .i64 n_3] w7)):=by
   intro z zo zm zB;obtain⟨u,fz,kk⟩:=fP (l:=l) (enc:=aQ) (sz:=1) (fun _=>rfl) (by decide) zo (by rw [dn];exact hln) hla (jo 0 f hi) (k:=0) (by decide) (f i) (.int .i64 (f i)) rfl;rw [ay]at u fz kk;refine af.mk _ rfl ⟨by omega,by omega,rfl,u,fz,?_⟩;intro w7 hw7;rw [show((clsOf k i:Nat):Int)=f i by rw [hf]]at hw7;obtain⟨o7,s7,z7,b7⟩:=kk w7 hw7;refine Ar.nat (i+1) rfl (by omega) (ih w7 ⟨?_,zm.same (s7 _ (en zo zm)),b7 _ _ (by omega) zB⟩);rw [mX (0:Int) f hi]at o7;exact o7
  rcases dX (k:=k) i with⟨c,hc,h2,h3,_⟩ |⟨hc,h2,h3,_⟩
  ·rw [hc]at hl5;refine⟨_,_,w5,hl5,?_⟩;intro J hJ;refine ac.no rfl (hJ _ _ ?_);have:=next w5 ho5 (by rw [show iO k (i+1)=iO k i by unfold iO;rw [h2]];exact hm5) hB5;rw [h3]at this;exact this
  ·rw [hc]at hl5;refine⟨_,_,w5,hl5,?_⟩;intro J hJ;obtain⟨w11,hr,hm11,hs11,hz11,hB11⟩:=e_ rt gP hm5 (k i) (.int .i64 (((iO k i).length:Nat):Int)) (by rw [kO,hc];rfl);refine ac.yes rfl ⟨_,_,m' gP hm5 _,w11,hr,hJ _ _ ?_⟩;rw [im]at hm11⊢;have:=next w11 (aN ho5 fun j hj=>hs11 j fun e=>en ho5 hm5 (by rw [hj,e])) (by rw [xi h2];exact hm11) (hB11 _ _ (Nat.le_refl _) hB5);rw [h3]at this;exact this
 ·rintro q ⟨ho,hm,hB⟩;refine hI _ _ (ac.no (decide_eq_false (by omega)) ⟨_,_,m' gP hm _,l,?_,hln,?_,hB⟩)
  ·rw [im];subst hl;rfl
  ·rw [qf,hf]at ho;exact bG ho (by omega)
abbrev dI:TypeId:=165
abbrev kA:TypeId:=148
theorem E7:Tryz.prog.underlying kA=some (.slice d_):=by kernel_rfl
theorem D8:(Tryz.prog.info? d_).map (fun i=>(i.zero,i.size,i.bytes))=some (some (.slice none 0 0),1,24):=by kernel_rfl
theorem nu:xf ro 1 kA d_ 24:=⟨fun _=>rfl,by decide,fun x u hu=>by rw [List.mem_singleton.1 hu];rfl,E7,_,D8,rfl⟩
abbrev fI (l:List Nat):List Value:=(l.map fun i:Nat=>(i:Int)).flatMap aQ
structure jc (w:World) (M:Aut) (next good:Sl) (rs:List Sl):Prop where
 onx:w.ownsRow 0 d_ 1 next.v next.n (rs.flatMap ro)
 rl:rs.length=M.N
 each:∀(i:Nat) (r:Sl),rs[i]? =some r→w.ownsRow 0 bf 1 r.v r.n (fI ((List.range M.n).map (M.nxt i)))
 ogd:w.ownsRow 0 bN 1 good.v good.n (((List.range M.N).map M.good).flatMap dM)
 ok:M.Ok
theorem jc.on {w w':World} {M:Aut} {next good:Sl} {rs:List Sl} (h:jc w M next good rs) (hb:Below w.heap.size w w'):jc w' M next good rs:=
 ⟨aE h.onx hb,h.rl,fun i r hr=>aE (h.each i r hr) hb,aE h.ogd hb,h.ok⟩
theorem jc.touch {w w':World} {M:Aut} {next good:Sl} {rs:List Sl} (h:jc w M next good rs) {a:Nat} {c:Array Value} (hb:w.heap[a]? =some (.cells c dI (0,0))) (t:au a w w'):jc w' M next good rs:=
 ⟨t.own h.onx (az h.onx hb (by decide)),h.rl,fun i r hr=>t.own (h.each i r hr) (az (h.each i r hr) hb (by decide)),t.own h.ogd (az h.ogd hb (by decide)),h.ok⟩
theorem jc.len {w:World} {M:Aut} {next good:Sl} {rs:List Sl} (h:jc w M next good rs):next.n=M.N∧good.n=M.N:=by
 have h1:=(LsAt.of_own nu h.onx).n;have h2:=(LsAt.of_own Ds h.ogd).n;exact⟨by rw [h1,h.rl],by simpa using h2⟩
theorem jc.row {w:World} {M:Aut} {next good:Sl} {rs:List Sl} (h:jc w M next good rs) {i:Nat} (hi:i<M.N):∃(p:Addr) (r:Sl),next.a=some p∧w.cell? (p.add (i*1))=some (.slice r.a r.n r.c)∧r.n=M.n∧Rw aQ 1 w r.a (((List.range M.n).map (M.nxt i)).map fun i:Nat=>(i:Int)):=by
 have hls:=LsAt.of_own nu h.onx;have hl:i<rs.length:=by rw [h.rl];exact hi
 obtain⟨p,hp,c⟩:=aZ hls.r hl (v:=rs[i].v) rfl;have hr:=LsAt.of_own fK (h.each i _ (List.getElem?_eq_getElem hl));exact⟨p,rs[i],hp,c,by simpa using hr.n,hr.r⟩
theorem jc.rowAt {w:World} {M:Aut} {next good:Sl} {rs:List Sl} (h:jc w M next good rs) {i:Nat} (hi:i<M.N) (hl:i<rs.length):∃p:Addr,next.a=some p∧w.cell? (p.add (i*1))=some (.slice rs[i].a rs[i].n rs[i].c)∧rs[i].n=M.n∧Rw aQ 1 w rs[i].a (((List.range M.n).map (M.nxt i)).map fun i:Nat=>(i:Int)):=by
 have hls:=LsAt.of_own nu h.onx;obtain⟨p,hp,c⟩:=aZ hls.r hl (v:=rs[i].v) rfl;have hr:=LsAt.of_own fK (h.each i _ (List.getElem?_eq_getElem hl));exact⟨p,hp,c,by simpa using hr.n,hr.r⟩
theorem jc.good {w:World} {M:Aut} {next good:Sl} {rs:List Sl} (h:jc w M next good rs) {i:Nat} (hi:i<M.N):∃p:Addr,good.a=some p∧w.cell? (p.add (i*1))=some (.bool (M.good i)):=by
 have hls:=LsAt.of_own Ds h.ogd;obtain⟨p,hp,c⟩:=aZ hls.r (show i< ((List.range M.N).map M.good).length by simpa using hi) (v:=.bool (M.good i)) (by simp [dM]);exact⟨p,hp,c⟩
theorem gU {w:World} {A:Option Addr} {n:Nat} {f:Nat→Nat} (h:Rw aQ 1 w A (((List.range n).map f).map fun i:Nat=>(i:Int))) {i:Nat} (hi:i<n):∃p:Addr,A=some p∧w.cell? (p.add (i*1))=some (.int .i64 ((f i:Nat):Int)):=
 aZ h (show i< (((List.range n).map f).map fun i:Nat=>(i:Int)).length by simpa using hi) (v:=.int .i64 ((f i:Nat):Int)) (by simp [aQ])
theorem ko {w:World} {a:Nat} {c:Array Value} {fz:Nat×Nat} (h:w.heap[a]? =some (.cells c dI fz)) (j:Nat):w.cell? ((⟨a,0,none⟩:Addr).add j)=c[j]? :=aj _ _ h j
theorem kz (w:World) (a:Nat) {c:Array Value} {fz:Nat×Nat} (h:w.heap[a]? =some (.cells c dI fz)) (next:Sl) (h1:c[1]? =some next.v):
  CP 37 #[.pointer (some ⟨a,0,none⟩)] w fun e w'=>e= .returned (.int .i64 (next.n:Int))∧w'=w:=by
 refine aL (Bu (some ⟨a,0,none⟩) w) ?_;exact ac.no rfl (af.mk _ rfl ⟨_,_,_,by rw [ko h];exact h1,rfl,rfl⟩)
theorem Cl (w:World) (cb a:Nat) {ec:TypeId} (hc:w.heap[cb]? =some (.cells #[.pointer (some ⟨a,0,none⟩)] ec (0,0))) {c:Array Value} {fz:Nat×Nat} (h:w.heap[a]? =some (.cells c dI fz)) (M:Aut) (next good:Sl) (rs:List Sl) (hM:jc w M next good rs) (h2:c[2]? =some good.v) (i:Nat) (hi:i<M.N):
  CP 211 #[.int .i64 (i:Int),.pointer (some ⟨cb,0,none⟩)] w fun e w'=>e= .returned (kK (M.good i))∧Below w.heap.size w w':=by
 refine aL (xy i (some ⟨cb,0,none⟩) w) ?_;obtain⟨p,hp,hg⟩:=hM.good hi;have hl:=hM.len.2;exact af.mk _ rfl ⟨_,bC hc,af.mk _ rfl ⟨_,_,_,by rw [ko h];exact h2,af.mk p hp ⟨by omega,by omega,_,hg,rfl,Below.refl _ _⟩⟩⟩
theorem BR (w:World) (ob cb a:Nat) {eo ec:TypeId} (of:Sl) (f:Nat→Nat) (ho:w.heap[ob]? =some (.cells #[of.v] eo (0,0))) (hc:w.heap[cb]? =some (.cells #[.pointer (some ⟨a,0,none⟩)] ec (0,0))) {c:Array Value} {fz:Nat×Nat} (h:w.heap[a]? =some (.cells c dI fz)) (M:Aut) (next good:Sl) (rs:List Sl) (hM:jc w M next good rs) (h1:c[1]? =some next.v) (hof:w.ownsRow 0 bf 1 of.v of.n (fI ((List.range M.N).map f))) (hn:M.n≤10000) (i:Nat) (hi:i<M.N):
  CP 213 #[.int .i64 (i:Int),.pointer (some ⟨ob,0,none⟩),.pointer (some ⟨cb,0,none⟩)] w fun e w'=>e= .returned (dj (M.keyT f i))∧Below w.heap.size w w':=by
 refine aR (yf i (some ⟨ob,0,none⟩) (some ⟨cb,0,none⟩) w (fun u w'=>u=dj (M.keyT f i)∧Below w.heap.size w w') ?_) (by rintro v w' ⟨rfl,h⟩;exact⟨rfl,h⟩);intro w1 hw1;have b1:Below w.heap.size w w1:=by subst hw1;exact aO w
 have hof1:=LsAt.of_own fK (aE hof b1);have hofn:of.n=((List.range M.N).map f).length:=by simpa using hof1.n
 have hM1:=hM.on b1;obtain⟨p,hp,c0⟩:=gU hof1.r hi;obtain⟨p2,r,hp2,c2,hrn,hr⟩:=hM1.row hi;have hln:=hM1.len.1;have hlen:((List.range M.N).map f).length=M.N:=by simp
 have hfa:(M.n=((List.range M.n).map (M.nxt i)).length):=by simp
 refine af.mk _ rfl ⟨_,_,_,bC (ah b1 ho),af.mk p hp ⟨by omega,by omega,_,c0,af.mk _ rfl ⟨_,bC (ah b1 hc),af.mk _ rfl ⟨_,_,_,by rw [ko (ah b1 h)];exact h1,af.mk p2 hp2 ⟨by omega,by omega,_,_,_,c2,af.mk _ rfl ⟨_,_,_,bC (ah b1 ho),?_⟩⟩⟩⟩⟩⟩;have ht:=vB w1 (f i) r.a of.a r.c of.c ((List.range M.n).map (M.nxt i)) ((List.range M.N).map f) hr hof1.r (by
  intro y hy;obtain⟨k,hk,rfl⟩:=List.mem_map.1 hy;rw [hlen];exact hM.ok.lt _ _ hi (List.mem_range.1 hk)) (by simp;exact hn)
 rw [←hfa, ←hofn, ←hrn]at ht;refine ht.mono ?_;rintro e w2 ⟨rfl,b2⟩;refine⟨_,rfl,?_,ae b1 b2⟩;show Value.string (str _)=Value.string (str _);congr 2;unfold Aut.keyT;congr 2;rw [hrn,List.map_map];apply List.map_congr_left;intro k hk;show((List.range M.N).map f).getD (M.nxt i k) 0=f (M.nxt i k);have:=hM.ok.lt _ _ hi (List.mem_range.1 hk);simp [List.getD,this]
set_option maxHeartbeats 1000000 in
theorem zf (w:World) (a:Nat) (c:Array Value) (h:w.heap[a]? =some (.cells c dI (0,0))) (hs:c.size=7) (M:Aut) (next good:Sl) (rs:List Sl) (hM:jc w M next good rs) (h1:c[1]? =some next.v) (h2:c[2]? =some good.v) (hN:M.N≤10000) (hn:M.n≤10000):
  CP 164 #[.pointer (some ⟨a,0,none⟩)] w fun e w'=>e= .returned (.tuple #[])∧∃(of:Sl) (f:Nat→Nat),w'.heap[a]? =some (.cells (c.setIfInBounds 6 of.v) dI (0,0))∧Aut.Cls M f∧of.n=M.N∧w'.ownsRow w.heap.size bf 1 of.v of.n (fI ((List.range M.N).map f))∧au a w w':=by
 refine aL (yb (some ⟨a,0,none⟩) w) ?_;intro w1 hw1;have b1:Below w.heap.size w w1:=by subst hw1;exact ag _ _
 have c1:w1.heap[w.heap.size]? =some (.cells #[.pointer (some ⟨a,0,none⟩)] 83 (0,0)):=by subst hw1;exact ak _ _
 have lt1:=(Array.getElem?_eq_some_iff.1 c1).1;have hal:a<w.heap.size:=(Array.getElem?_eq_some_iff.1 h).1;have hok:=hM.ok;obtain⟨hnl,hgl⟩:=hM.len;refine⟨_,bC c1,(kz w1 a (ah b1 h) next h1).mono ?_⟩;rintro e w2 ⟨rfl,rfl⟩;rw [hnl];refine⟨_,rfl,(zi w2 M.N _ M.good hN fun i hi q hq=>bT (by kernel_rfl) (Cl q w.heap.size a (ah hq c1) (ah hq (ah b1 h)) M next good rs ((hM.on b1).on hq) h2 i hi)).mono ?_⟩;rintro e w3 ⟨of,rfl,hofn,hof,b3⟩;have hb3:=ae b1 b3;have c3:=ah b3 c1;refine⟨_,_,_,_,rfl,?_⟩;intro w4 hw4;refine gT hw4 rfl ?_;intro w5 o5 b5;have hb5:=ae hb3 b5;have c5:=ah b5 c3;have lt3:w.heap.size<w3.heap.size:=(Array.getElem?_eq_some_iff.1 c3).1;intro I hI;have bar:∀(q:World) (of:Sl) (f:Nat→Nat),q.ownsRow w.heap.size bf 1 of.v of.n (((List.range M.N).map fun i=>((f i:Nat):Int)).flatMap aQ)→q.ownsRow w.heap.size bf 1 of.v of.n (fI ((List.range M.N).map f)):=by
  intro q of f h;unfold fI;rw [List.map_map];exact h
 have round:∀(r:Nat) (q:World) (of:Sl),q.heap[w3.heap.size]? =some (.cells #[of.v] d_ (0,0))→q.ownsRow w.heap.size bf 1 of.v of.n (fI ((List.range M.N).map (M.ofR r)))→Below w.heap.size w q→q.heap[w.heap.size]? =some (.cells #[.pointer (some ⟨a,0,none⟩)] 83 (0,0))→
   (M.cntR (r+1)≠M.cntR r→∀(q':World) (of':Sl),q'.heap[w3.heap.size]? =some (.cells #[of'.v] d_ (0,0))→q'.ownsRow w.heap.size bf 1 of'.v of'.n (fI ((List.range M.N).map (M.ofR (r+1))))→Below w.heap.size w q'→q'.heap[w.heap.size]? =some (.cells #[.pointer (some ⟨a,0,none⟩)] 83 (0,0))→I [.int .i64 ((M.cntR (r+1):Nat):Int)] q')→I [.int .i64 ((M.cntR r:Nat):Int)] q:=by
  intro r q of ho hof hB hcq again;have hq:=ah hB h;have hMq:=hM.on hB;refine hI _ _ ⟨_,bC hcq,(kz q a hq next h1).mono ?_⟩;rintro e q1 ⟨rfl,rfl⟩;rw [hnl];refine⟨_,rfl,(vy q1 M.N _ (M.keyT (M.ofR r)) hN fun i hi z hz=>bT (by kernel_rfl) (BR z w3.heap.size w.heap.size a of (M.ofR r) (ah hz ho) (ah hz hcq) (ah hz hq) M next good rs (hMq.on hz) h1 (bG (aE hof hz) (Nat.zero_le _)) hn i hi)).mono ?_⟩;rintro e q2 ⟨of',rfl,hofn,hof',b2⟩;have hB2:=ae hB b2;have ho2:=ah b2 ho;have hof2:=bar _ _ _ (bG hof' (show w.heap.size≤_ from hB.size));refine⟨_,_,_,_,rfl,rfl,⟨_,bC ho2⟩,bo ho2,?_⟩;intro q3 hq3;have ho3:q3.heap[w3.heap.size]? =some (.cells #[of'.v] d_ (0,0)):=by subst hq3;exact bD ho2 of'.v
  have hB3:Below w.heap.size w q3:=by subst hq3;exact hB2.setCell (p:=⟨w3.heap.size,0,none⟩) (by show w.heap.size≤w3.heap.size;omega) _
  have hof3:q3.ownsRow w.heap.size bf 1 of'.v of'.n (fI ((List.range M.N).map (M.ofR (r+1)))):=by subst hq3;exact bB hof2 _ (az hof2 ho2 (by decide))
  have hc3:q3.heap[w.heap.size]? =some (.cells #[.pointer (some ⟨a,0,none⟩)] 83 (0,0)):=by
   subst hq3;rw [aq (show w.heap.size≠w3.heap.size by omega)];exact ah b2 hcq
  have hcnt:(aJ (M.keyT (M.ofR r)) M.N).length=M.cntR (r+1):=rfl;rw [hcnt];by_cases he:M.cntR (r+1)=M.cntR r
  ·have ha3:=ah hB3 h;have e6:((⟨a,0,none⟩:Addr).add 3).add 3=(⟨a,0,none⟩:Addr).add 6:=by rw [Addr.add_add]
   refine ac.yes (by rw [he];simp) ⟨_,bC hc3,_,_,_,bC ho3,af.mk _ rfl ⟨rfl,⟨c[6]'(by omega),by rw [e6,aV ha3,Array.getElem?_eq_getElem (by omega)]⟩,by rw [e6];exact be ha3,?_⟩⟩;intro q4 hq4;rw [e6]at hq4;refine⟨rfl,of',M.ofR (r+1),by subst hq4;exact bL ha3 _,Aut.cls_done hok he,hofn,?_,?_⟩
   ·subst hq4;exact bB hof3 _ (by rw [ax];exact az hof3 ha3 (by decide))
   ·refine(au.of_below hB3).trans ?_;subst hq4;exact⟨rfl,rfl,rfl,by rw [aU];exact Nat.le_refl _,fun k _ hk=>aq (by rw [ax];exact hk)⟩
  ·refine ac.no (by simp;omega) (again he q3 of' ho3 hof3 hB3 hc3)
 have loop:∀(d r:Nat) (q:World) (of:Sl),M.N-M.cntR r≤d→q.heap[w3.heap.size]? =some (.cells #[of.v] d_ (0,0))→q.ownsRow w.heap.size bf 1 of.v of.n (fI ((List.range M.N).map (M.ofR r)))→Below w.heap.size w q→q.heap[w.heap.size]? =some (.cells #[.pointer (some ⟨a,0,none⟩)] 83 (0,0))→I [.int .i64 ((M.cntR r:Nat):Int)] q:=by
  intro d;induction d with
  |zero=>
   intro r q of hd ho hof hB hcq;refine round r q of ho hof hB hcq fun hne=>?_;have:=Aut.cntR_mono hok r;have:=Aut.cntR_le (M:=M) (r+1);omega
  |succ d ihd=>
   intro r q of hd ho hof hB hcq;refine round r q of ho hof hB hcq fun hne q' of' h1 h2 h3 h4=>ihd (r+1) q' of' ?_ h1 h2 h3 h4;have:=Aut.cntR_mono hok r;have:=Aut.cntR_le (M:=M) (r+1);omega
 exact loop M.N 0 w5 of (by omega) o5 (bar _ _ _ (bG (aE hof b5) (by omega))) hb5 c5
set_option maxHeartbeats 1600000 in
theorem xv (v:Nat) (w:World) (K:World→Prop)
  (hfind:CP 164 #[.pointer (some ⟨v,0,none⟩)] (w.setCell ⟨v,4,none⟩ (.int .i32 1)) fun e w'=>e= .returned (.tuple #[])∧K w')
  (hK:∀w',K w'→w'.cell? ⟨v,3,none⟩=some (.int .u32 0)∧w'.frozen? ⟨v,3,none⟩=false∧w'.cell? ⟨v,4,none⟩=some (.int .i32 1)∧w'.frozen? ⟨v,4,none⟩=false)
  (h0:w.cell? ⟨v,3,none⟩=some (.int .u32 0)) (h1:w.cell? ⟨v,4,none⟩=some (.int .i32 0)) (f0:w.frozen? ⟨v,3,none⟩=false) (f1:w.frozen? ⟨v,4,none⟩=false):
  CP 155 #[.pointer (some ⟨v,3,none⟩),.func (.func 164) #[.pointer (some ⟨v,0,none⟩)] #[]] w fun e w'=>e= .returned (.tuple #[])∧∃w2,K w2∧w'=(w2.drew.setCell ⟨v,3,none⟩ (.int .u32 1)).setCell ⟨v,4,none⟩ (.int .i32 0):=by
 have hl:=run_call_load (P:=Tryz.prog) Tryz.func204 (by kernel_rfl) (by kernel_rfl) (by kernel_rfl) .u32 (by kernel_rfl) (w:=w.setCell ⟨v,4,none⟩ (.int .i32 1)) (a:=⟨v,3,none⟩) (x:=0) ((World.cell?_setCell_other _ ⟨v,4,none⟩ ⟨v,3,none⟩ _ (by simp)).trans h0);have hnot:∀(x:Bool) (w:World),(Op.unary .not (.bool x)).run Tryz.prog w= .ok (.bool (!x)) w:=fun _ _=>rfl
 go_enter_defers Tryz.func155,Tryz.ntmps155
 go_wp2_with (go_at_call 205;refine(ow ⟨v,4,none⟩ _ (by go_simp) (by go_simp)).mono ?_;rintro e w' ⟨rfl,rfl⟩)
 go_wp2_with (first |(go_at_call 164;refine hfind.mono ?_;rintro e w' ⟨rfl,hk⟩) |go_in)
 obtain⟨k0,k1,k2,k3⟩:=hK _ hk;refine leaves_cons (f:=207) (args:=#[.pointer (some ⟨v,3,none⟩),.bool true]) (by simp) (by simp [go_sem]) ?_;refine(mn ⟨v,3,none⟩ (.int .u32 0) .returning _ k0 k1).mono ?_;rintro e u' w'' ⟨rfl,rfl,rfl⟩;refine leaves_cons (f:=206) (args:=#[.pointer (some ⟨v,4,none⟩)]) (by simp [settle]) (by simp [go_sem]) ?_;refine(kd ⟨v,4,none⟩ _ _ ?_ ?_).mono ?_
 ·refine(World.cell?_setCell_other _ ⟨v,3,none⟩ ⟨v,4,none⟩ _ (by simp)).trans ?_;rw [World.cell?_drew];exact k2
 ·simp [k3]
 rintro e u' w'' ⟨rfl,rfl,rfl⟩;simp [Leaves,settle,results,Tryz.results155];exact⟨_,hk,rfl⟩
set_option maxHeartbeats 1600000 in
theorem Du (v:Nat) (w:World) (K:World→Prop)
  (hfind:CP 164 #[.pointer (some ⟨v,0,none⟩)] (w.setCell ⟨v,4,none⟩ (.int .i32 1)) fun e w'=>e= .returned (.tuple #[])∧K w')
  (hK:∀w',K w'→w'.cell? ⟨v,3,none⟩=some (.int .u32 0)∧w'.frozen? ⟨v,3,none⟩=false∧w'.cell? ⟨v,4,none⟩=some (.int .i32 1)∧w'.frozen? ⟨v,4,none⟩=false)
  (h0:w.cell? ⟨v,3,none⟩=some (.int .u32 0)) (h1:w.cell? ⟨v,4,none⟩=some (.int .i32 0)) (f0:w.frozen? ⟨v,3,none⟩=false) (f1:w.frozen? ⟨v,4,none⟩=false):
  CP 83 #[.pointer (some ⟨v,3,none⟩),.func (.func 164) #[.pointer (some ⟨v,0,none⟩)] #[]] w fun e w'=>e= .returned (.tuple #[])∧∃w2,K w2∧w'=(w2.drew.setCell ⟨v,3,none⟩ (.int .u32 1)).setCell ⟨v,4,none⟩ (.int .i32 0):=by
 have hl:=run_call_load (P:=Tryz.prog) Tryz.func204 (by kernel_rfl) (by kernel_rfl) (by kernel_rfl) .u32 (by kernel_rfl) h0;have hnot:∀(x:Bool) (w:World),(Op.unary .not (.bool x)).run Tryz.prog w= .ok (.bool (!x)) w:=fun _ _=>rfl
 go_enter Tryz.func83,Tryz.ntmps83
 go_wp2_with (first |(go_at_call 155;refine(xv v w K hfind hK h0 h1 f0 f1).mono ?_;rintro e w' ⟨rfl,hk⟩) |(go_at_call 154;go_in))
 go_end0
 exact⟨rfl,hk⟩
abbrev uq (g:Nat) (next good:Sl) (d l:Int) (of:Sl):Array Value:=#[.pointer (some ⟨g,0,none⟩),next.v,good.v,.int .u32 d,.int .i32 l,.int .u32 0,of.v]
def lV (w:World) (a g:Nat) (M:Aut) (o:Option (Nat→Nat)):Prop:=∃(next good of:Sl) (rs:List Sl) (d:Int),w.heap[a]? =some (.cells (uq g next good d 0 of) dI (0,0))∧jc w M next good rs∧(match o with
 |none=>d=0∧of=bV
 |some f=>d=1∧Aut.Cls M f∧of.n=M.N∧w.ownsRow 0 bf 1 of.v of.n (fI ((List.range M.N).map f)))
def eu (w:World) (a g:Nat) (M:Aut):Prop:=∃o,lV w a g M o
theorem lV.on {w w':World} {a g:Nat} {M:Aut} {o:Option (Nat→Nat)} (h:lV w a g M o) (hb:Below w.heap.size w w'):lV w' a g M o:=by
 obtain⟨next,good,of,rs,d,h1,h2,h3⟩:=h;refine⟨next,good,of,rs,d,ah hb h1,h2.on hb,?_⟩;cases o with
 |none=>exact h3
 |some f=>exact⟨h3.1,h3.2.1,h3.2.2.1,aE h3.2.2.2 hb⟩
theorem eu.on {w w':World} {a g:Nat} {M:Aut} (h:eu w a g M) (hb:Below w.heap.size w w'):eu w' a g M:=by
 obtain⟨o,h⟩:=h;exact⟨o,h.on hb⟩
theorem lV.lt {w:World} {a g:Nat} {M:Aut} {o:Option (Nat→Nat)} (h:lV w a g M o):a<w.heap.size:=by
 obtain⟨next,good,of,rs,d,h1,_⟩:=h;exact(Array.getElem?_eq_some_iff.1 h1).1
theorem KV {w:World} {a:Nat} {c:Array Value} (h:w.heap[a]? =some (.cells c dI (0,0))) (j:Nat) (u:Value):
  (w.setCell ⟨a,j,none⟩ u).heap[a]? =some (.cells (c.setIfInBounds j u) dI (0,0))∧au a w (w.setCell ⟨a,j,none⟩ u):=
 ⟨bD h u,⟨rfl,rfl,rfl,by rw [aU];exact Nat.le_refl _,fun k _ hk=>aq hk⟩⟩
theorem Bw (w:World) (a g:Nat) (M:Aut) (o:Option (Nat→Nat)) (h:lV w a g M o) (hN:M.N≤10000) (hn:M.n≤10000):
  CP 107 #[.pointer (some ⟨a,0,none⟩)] w fun e w'=>∃(of:Sl) (f:Nat→Nat),e= .returned of.v∧(∀f0,o=some f0→f=f0∧w'=w)∧of.n=M.N∧Rw aQ 1 w' of.a (((List.range M.N).map f).map fun i:Nat=>(i:Int))∧lV w' a g M (some f)∧au a w w':=by
 obtain⟨next,good,of,rs,d,hblk,hM,ho⟩:=h;refine aR (zp (some ⟨a,0,none⟩) w (fun u w'=>∃(of:Sl) (f:Nat→Nat),u=of.v∧(∀f0,o=some f0→f=f0∧w'=w)∧of.n=M.N∧Rw aQ 1 w' of.a (((List.range M.N).map f).map fun i:Nat=>(i:Int))∧lV w' a g M (some f)∧au a w w') ?_) (by rintro v w' ⟨of,f,rfl,h⟩;exact⟨of,f,rfl,h⟩);have e3:((⟨a,0,none⟩:Addr).add 3).add 0=⟨a,3,none⟩:=by rw [aC,aC]
 have e6:((⟨a,0,none⟩:Addr).add 3).add 3=(⟨a,0,none⟩:Addr).add 6:=by rw [Addr.add_add]
 have at_:∀ {w':World} {c:Array Value},w'.heap[a]? =some (.cells c dI (0,0))→∀j,w'.cell? ⟨a,j,none⟩=c[j]? :=fun h j=>aM h;have fz:∀ {w':World} {c:Array Value},w'.heap[a]? =some (.cells c dI (0,0))→∀j,w'.frozen? ⟨a,j,none⟩=false:=fun h j=>bo h;refine af.mk _ rfl ?_;rw [e3];have rest:∀(w3:World) (of3:Sl) (f:Nat→Nat),(∀f0,o=some f0→f=f0∧w3=w)→w3.heap[a]? =some (.cells (uq g next good 1 0 of3) dI (0,0))→Aut.Cls M f→of3.n=M.N→w3.ownsRow 0 bf 1 of3.v of3.n (fI ((List.range M.N).map f))→au a w w3→
   af (some ⟨a,0,none⟩) (fun pa_1=>∃lA:Option Addr,∃lN:Nat,∃lC:Nat,w3.cell? ((pa_1.add 3).add 3)=some (Value.slice lA lN lC)∧
    (∃(of:Sl) (f:Nat→Nat),Value.slice lA lN lC=of.v∧(∀f0,o=some f0→f=f0∧w3=w)∧of.n=M.N∧Rw aQ 1 w3 of.a (((List.range M.N).map f).map fun i:Nat=>(i:Int))∧lV w3 a g M (some f)∧au a w w3)):=by
  intro w3 of3 f hf hb hc hl hown t;exact af.mk _ rfl ⟨_,_,_,by rw [e6,ko hb];rfl,of3,f,rfl,hf,hl,(LsAt.of_own fK hown).r,⟨next,good,of3,rs,1,hb,hM.touch hblk t,rfl,hc,hl,hown⟩,t⟩
 cases o with
 |none=>
  obtain⟨rfl,rfl⟩:=ho;obtain⟨b2,t2⟩:=KV hblk 4 (.int .i32 1);have hM2:=hM.touch hblk t2;refine(Du a w (fun w'=>∃(of:Sl) (f:Nat→Nat),w'.heap[a]? =some (.cells (((uq g next good 0 0 bV).setIfInBounds 4 (.int .i32 1)).setIfInBounds 6 of.v) dI (0,0))∧Aut.Cls M f∧of.n=M.N∧w'.ownsRow (w.setCell ⟨a,4,none⟩ (.int .i32 1)).heap.size bf 1 of.v of.n (fI ((List.range M.N).map f))∧au a (w.setCell ⟨a,4,none⟩ (.int .i32 1)) w') (zf _ a _ b2 rfl M next good rs hM2 rfl rfl hN hn) ?_ (at_ hblk 3) (at_ hblk 4) (fz hblk 3) (fz hblk 4)).mono ?_
  ·rintro w' ⟨of',f,hb',_⟩;exact⟨at_ hb' 3,fz hb' 3,at_ hb' 4,fz hb' 4⟩
  ·rintro e w3 ⟨rfl,wf,⟨of',f,hbf,hc,hl,hof,tf⟩,hw3⟩;refine⟨rfl,?_⟩;have hbd:wf.drew.heap[a]? =some (.cells (((uq g next good 0 0 bV).setIfInBounds 4 (.int .i32 1)).setIfInBounds 6 of'.v) dI (0,0)):=hbf;obtain⟨b4,t4⟩:=KV hbd 3 (.int .u32 1);obtain⟨b5,t5⟩:=KV b4 4 (.int .i32 0);rw [←hw3]at b5 t5;have tt:au a wf w3:=((au.of_below (aO wf)).trans t4).trans t5;exact rest w3 of' f (fun f0 h=>by cases h) b5 hc hl (tt.own (bG hof (Nat.zero_le _)) (az hof hbf (by decide))) ((t2.trans tf).trans tt)
 |some f=>
  obtain⟨rfl,hc,hl,hown⟩:=ho;refine(nX ⟨a,3,none⟩ 1 (by decide) _ w (at_ hblk 3)).mono ?_;rintro e w3 ⟨rfl,hw⟩;subst hw;exact⟨rfl,rest w3 of f (fun f0 h=>by cases h;exact⟨rfl,rfl⟩) hblk hc hl hown (au.of_below (Below.refl _ _))⟩
theorem lV.blk {w:World} {a g:Nat} {M:Aut} {o:Option (Nat→Nat)} (h:lV w a g M o):∃(next good of:Sl) (rs:List Sl) (d:Int),w.heap[a]? =some (.cells (uq g next good d 0 of) dI (0,0))∧jc w M next good rs:=by
 obtain⟨next,good,of,rs,d,h1,h2,_⟩:=h;exact⟨next,good,of,rs,d,h1,h2⟩
theorem fB (w:World) (a g:Nat) (M:Aut) (h:eu w a g M):
  CP 37 #[.pointer (some ⟨a,0,none⟩)] w fun e w'=>e= .returned (.int .i64 (M.N:Int))∧w'=w:=by
 obtain⟨o,h⟩:=h;obtain⟨next,good,of,rs,d,h1,h2⟩:=h.blk;have:=kz w a h1 next rfl;rw [h2.len.1]at this;exact this
theorem tL (w:World) (a g:Nat) (M:Aut) (h:eu w a g M) (x:Int):
  CP 81 #[.pointer (some ⟨a,0,none⟩),.int .i64 x] w fun e w'=>e= .returned (.bool (decide (0≤x∧x< (M.N:Int))))∧w'=w:=by
 refine aL (Ck (some ⟨a,0,none⟩) x w) ?_;refine ac.mk (fun h0=>(fB w a g M h).mono ?_) fun h0=>⟨?_,rfl⟩
 ·rintro e w1 ⟨rfl,hw⟩;have h0:=of_decide_eq_true h0;refine⟨_,rfl,?_,hw⟩;rw [decide_eq_decide.2 (show x< (M.N:Int)↔0≤x∧x< (M.N:Int)from⟨fun h=>⟨h0,h⟩,fun h=>h.2⟩)]
 ·have h0:=of_decide_eq_false h0;rw [decide_eq_false fun h=>h0 h.1]
open Aut (metF metL scan visit)
abbrev OC:TypeId:=128
theorem uE:Tryz.prog.underlying OC=some (.map bf bf):=by kernel_rfl
def q_ (f:Nat→Nat) (l:List Nat):List (Int×Value):=l.zipIdx.map fun x=>(((f x.1:Nat):Int),.int .i64 (x.2:Int))
theorem DX (f:Nat→Nat) (l:List Nat) (x:Nat):q_ f (l++ [x])=q_ f l++ [(((f x:Nat):Int),.int .i64 (l.length:Int))]:=by simp [q_,List.zipIdx_append]
theorem nJ (f:Nat→Nat) (l:List Nat) (x:Nat):ez ((x:Nat):Int) (q_ f l)=((l.map f).idxOf? x).map fun i:Nat=>Value.int .i64 (i:Int):=by
 have:=gV (fun s:Nat=>((f s:Nat):Int)) ((x:Nat):Int) l 0;simp only [Nat.zero_add]at this;rw [show ez ((x:Nat):Int) (q_ f l)=_ from this];congr 1;have key:∀l:List Nat,(l.map fun s:Nat=>((f s:Nat):Int)).idxOf? ((x:Nat):Int)=(l.map f).idxOf? x:=by
  intro l;induction l with
  |nil=>rfl
  |cons y l ih=>
   simp only [List.map_cons,List.idxOf?_cons,ih];by_cases h:f y=x
   ·simp [h]
   ·simp [h];omega
 exact key l
theorem s_ (l:List Nat) (x:Nat):fI (l++ [x])=((l.map fun i:Nat=>(i:Int))++ [((x:Nat):Int)]).flatMap aQ:=by simp [fI]
theorem Fm (w:World) (a:Nat) {c:Array Value} (h:w.heap[a]? =some (.cells c dI (0,0))) (M:Aut) (next good:Sl) (rs:List Sl) (hM:jc w M next good rs) (h1:c[1]? =some next.v) (hN:M.N≤10000) (hn:M.n≤10000) (cb:Value) (f:Nat→Nat) (hf:∀i,i<M.N→f i<M.N)
  (his:∀s,s<M.N→∀w1,Below w.heap.size w w1→bH gr cb [.int .i64 (s:Int)] w1 (fun e w2=>e= .returned (.int .i64 ((f s:Nat):Int))∧w2=w1)):
  CP 108 #[.pointer (some ⟨a,0,none⟩),cb] w fun e w'=>∃(l:Sl) (m:Nat),e= .returned (.tuple #[l.v,.map (some m)])∧l.n=(metL M f).length∧w'.ownsRow w.heap.size bf 1 l.v l.n (fI (metL M f))∧bv ba w' m (q_ f (metL M f))∧Below w.heap.size w w':=by
 refine aL (wG (some ⟨a,0,none⟩) cb w) ?_;have hok:=hM.ok;intro w1 hw1;have b1:Below w.heap.size w w1:=by subst hw1;exact ag _ _
 have o1:w1.ownsRow w.heap.size bf 1 (.slice (some (nb w)) 1 1) 1 (fI [0]):=by subst hw1;exact fA _ rfl (by decide) (Nat.le_refl _)
 have lt1:w.heap.size<w1.heap.size:=by subst hw1;rw [av];omega
 refine⟨_,_,fo _,?_⟩;have b2:=ag w1 (.map #[] 0);have m2:bv ba (w1.alloc (.map #[] 0)) w1.heap.size ([]:List (Int×Value)):=iK w1;obtain⟨w2,hw2⟩:∃w2,w2=w1.alloc (.map #[] 0):=⟨_,rfl⟩;rw [←hw2]at b2 m2;rw [←hw2];have hb2:=ae b1 b2;refine(his 0 hok.pos w2 hb2).mono ?_;rintro e w3 ⟨rfl,rfl⟩;obtain⟨w4,hr4,m4,hs4,hz4,hB4⟩:=e_ nl uE m2 ((f 0:Nat):Int) (.int .i64 0) rfl;refine⟨_,rfl,w4,hr4,?_⟩;have o4:w4.ownsRow w.heap.size bf 1 (.slice (some (nb w)) 1 1) 1 (fI [0]):=aN (aE o1 b2) fun k hk=>hs4 k (fun e=>en (aE o1 b2) m2 (by rw [hk,e]));have hb4:=hB4 _ _ (Nat.le_of_lt lt1) hb2;intro I hI;have hln:=hM.len.1;have inner:∀(i s:Nat) (L:List Nat),(metF M f i)[i]? =some s→L=metF M f i→s<M.N→∀(q:World) (l:Sl),q.ownsRow w.heap.size bf 1 l.v l.n (fI L)→l.n=L.length→bv ba q w1.heap.size (q_ f L)→Below w.heap.size w q→
   (∀(q':World) (l':Sl),q'.ownsRow w.heap.size bf 1 l'.v l'.n (fI (metF M f (i+1)))→l'.n=(metF M f (i+1)).length→bv ba q' w1.heap.size (q_ f (metF M f (i+1)))→Below w.heap.size w q'→I [.int .i64 ((i+1:Nat):Int),l'.v] q')→i≤10000→I [.int .i64 (i:Int),l.v] q:=by
  intro i s L hs hL hsN q l ho hl hm hB cont hi4;have hlt:=(List.getElem?_eq_some_iff.1 hs).1;rw [←hL]at hs hlt;have hrl:s<rs.length:=by rw [hM.rl];exact hsN
  have few:∀k,k≤M.n→(scan M f L s k).length≤M.N:=by
   intro k hk;have p1:=(Aut.scan_mono (M:=M) f L s k (M.n-k)).length_le;rw [show k+(M.n-k)=M.n by omega]at p1;have p2:=Aut.met_few hok hf (i+1);rw [metF, ←hL,hs]at p2;exact Nat.le_trans p1 p2
  refine hI _ l.a l.n l.c q (ac.yes (decide_eq_true (by omega)) ?_);intro q1 hq1;have bq:Below q.heap.size q q1:=by subst hq1;exact aO q
  have hB1:=ae hB bq;have ho1:=aE ho bq;have hMq:=hM.on hB1;have hls:=LsAt.of_own fK (xs:=L.map fun i:Nat=>(i:Int)) ho1;have hsv:L[i]=s:=(List.getElem?_eq_some_iff.1 hs).2;obtain⟨p,hp,c0⟩:=aZ hls.r (show i< (L.map fun i:Nat=>(i:Int)).length by simpa using hlt) (v:=.int .i64 ((s:Nat):Int)) (by simp [aQ,hsv]);obtain⟨p2,hp2,c2,hrn,_⟩:=hMq.rowAt hsN hrl;refine af.mk _ rfl ⟨_,_,_,by rw [ko (ah hB1 h)];exact h1,af.mk p hp ⟨by omega,by omega,_,c0,af.mk p2 hp2 ⟨by omega,by omega,_,_,_,c2,?_⟩⟩⟩;intro I2 hI2;have key:=aX (α:=Sl×World) M.n (fun k y=>y.2.ownsRow w.heap.size bf 1 y.1.v y.1.n (fI (scan M f L s k))∧y.1.n=(scan M f L s k).length∧bv ba y.2 w1.heap.size (q_ f (scan M f L s k))∧Below w.heap.size w y.2) (fun k y=>I2 [.int .i64 (k:Int),y.1.v] y.2) (l,q1) ⟨ho1,hl,hm.on bq,hB1⟩ ?_ ?_
  ·exact key
  ·rintro k hk ih ⟨l',z⟩ ⟨hoz,hlz,hmz,hBz⟩;change z.ownsRow w.heap.size bf 1 l'.v l'.n _ at hoz;change l'.n=_ at hlz;change bv ba z _ _ at hmz;change Below w.heap.size w z at hBz;obtain⟨_,_,_,_,hrr⟩:=(hM.on hBz).rowAt hsN hrl;obtain⟨p3,hp3,c3⟩:=gU hrr hk;have hx:=hok.lt s k hsN hk;obtain⟨x,hxe⟩:∃x,x=M.nxt s k:=⟨_,rfl⟩;rw [←hxe]at c3 hx;have hfew:=few k (by omega);have hvis:scan M f L s (k+1)=visit f (scan M f L s k) x:=by rw [scan, ←hxe]
   refine hI2 _ l'.a l'.n l'.c z (ac.yes (decide_eq_true (by omega)) ?_);intro J hJ;refine af.mk p3 hp3 ⟨by omega,by omega,_,c3,(his x hx z hBz).mono ?_⟩;rintro e z1 ⟨rfl,rfl⟩;have hlk:=fH nl uE eE hmz ((f x:Nat):Int);rw [nJ]at hlk;cases hc:((scan M f L s k).map f).idxOf? (f x)with
   |some j=>
    rw [hc]at hlk;have hmem:f x∈(scan M f L s k).map f:=by
     have:=List.isSome_idxOf?.1 (show(((scan M f L s k).map f).idxOf? (f x)).isSome=true by rw [hc];rfl);exact this
    have hv:scan M f L s (k+1)=scan M f L s k:=by rw [hvis,visit,if_pos hmem]
    exact⟨_,rfl,_,_,z1,hlk,ac.no rfl (hJ _ _ _ _ (Ar.nat (k+1) rfl (by omega) (ih (l',z1) ⟨by rw [hv];exact hoz,by rw [hv];exact hlz,by rw [hv];exact hmz,hBz⟩)))⟩
   |none=>
    rw [hc]at hlk;have hmem:f x∉(scan M f L s k).map f:=List.idxOf?_eq_none_iff.1 hc;have hv:scan M f L s (k+1)=scan M f L s k++ [x]:=by rw [hvis,visit,if_neg hmem]
    refine⟨_,rfl,_,_,z1,hlk,ac.yes rfl ((his x hx z1 hBz).mono ?_)⟩;rintro e z2 ⟨rfl,rfl⟩;obtain⟨z3,hr3,hm3,hs3,hz3,hB3⟩:=e_ nl uE hmz ((f x:Nat):Int) (.int .i64 ((l'.n:Nat):Int)) (by rw [nJ,hc];rfl);have ho3:=aN hoz fun j hj=>hs3 j fun e=>en hoz hmz (by rw [hj,e]);have hBz3:=hB3 _ _ (Nat.le_of_lt lt1) hBz;refine⟨_,rfl,z3,hr3,?_⟩;intro z4 hz4;obtain⟨l'',z5,e1,e2,e3,e4,e5⟩:=fK.push (xs:=(scan M f L s k).map fun i:Nat=>(i:Int)) ho3 ((x:Nat):Int) hz4 rfl hBz3.size (by omega) (by decide);refine⟨l''.a,l''.n,l''.c,z5,e2,hJ _ _ _ _ (Ar.nat (k+1) rfl (by omega) (ih (l'',z5) ⟨?_,?_,?_,e4 _ hBz3⟩))⟩
    ·rw [hv,s_];exact e3
    ·show l''.n=_;rw [hv,List.length_append,List.length_singleton,e1,hlz]
    ·rw [hv,DX, ←hlz];exact hm3.same (e5 _ hm3.lt (en ho3 hm3))
  ·rintro⟨l',z⟩ ⟨hoz,hlz,hmz,hBz⟩;change z.ownsRow w.heap.size bf 1 l'.v l'.n _ at hoz;change l'.n=_ at hlz;have hfull:metF M f (i+1)=scan M f L s M.n:=by rw [metF, ←hL,hs]
   refine hI2 _ l'.a l'.n l'.c z (ac.no (decide_eq_false (by omega)) (Ar.nat (i+1) rfl (by omega) (cont z l' ?_ ?_ ?_ hBz)))
   ·rw [hfull];exact hoz
   ·rw [hfull];exact hlz
   ·rw [hfull];exact hmz
 have loop:∀(d i:Nat) (q:World) (l:Sl),M.N-i≤d→i≤(metF M f i).length→q.ownsRow w.heap.size bf 1 l.v l.n (fI (metF M f i))→l.n=(metF M f i).length→bv ba q w1.heap.size (q_ f (metF M f i))→Below w.heap.size w q→I [.int .i64 (i:Int),l.v] q:=by
  have fin:∀(i:Nat) (q:World) (l:Sl),(metF M f i).length≤i→q.ownsRow w.heap.size bf 1 l.v l.n (fI (metF M f i))→l.n=(metF M f i).length→bv ba q w1.heap.size (q_ f (metF M f i))→Below w.heap.size w q→I [.int .i64 (i:Int),l.v] q:=by
   intro i q l hi ho hl hm hB;have e:=Aut.met_done hok hf hi;rw [e]at ho hl hm;rw [e]at hi;exact hI _ l.a l.n l.c q (ac.no (decide_eq_false (by omega)) ⟨l,w1.heap.size,rfl,hl,ho,hm,hB⟩)
  intro d;induction d with
  |zero=>
   intro i q l hd hi ho hl hm hB;have:=Aut.met_few hok hf i;exact fin i q l (by omega) ho hl hm hB
  |succ d ihd=>
   intro i q l hd hi ho hl hm hB;by_cases e:i< (metF M f i).length
   ·have hfe:=Aut.met_few hok hf i;refine inner i _ _ (List.getElem?_eq_getElem e) rfl ((Aut.metF_mid hok f i).lt _ (List.getElem_mem e)) q l ho hl hm hB (fun q' l' h1 h2 h3 h4=>ihd (i+1) q' l' (by omega) ?_ h1 h2 h3 h4) (by omega);have:=(Aut.metF_pre (M:=M) f i).length_le;omega
   ·exact fin i q l (by omega) ho hl hm hB
 exact loop M.N 0 w4 ⟨some (nb w),1,1⟩ (by omega) (Nat.zero_le _) o4 rfl m4 hb4
end Go.Proofs.YtdlcfegnaphclaaGreat.Eng
