/- A code: good tokens' number; walked by the engine. -/
import Derived.Test.YtdlcfegnaphclaaGreatZmAf
import Derived.Test.YtdlcfegnaphclaaGreatZmTz
import Derived.Test.YtdlcfegnaphclaaGreatZmVc
set_option linter.unusedVariables false
set_option linter.unusedSimpArgs false
set_option maxRecDepth 100000
namespace Go.Proofs.YtdlcfegnaphclaaGreat.Eng
open Go Go.RowKit
def wM (s:au) (T:List aQ) (ids:List Int):List Nat:=ids.map fun t=>(m' s T t).getD 0
theorem zT {s:au} {T:List aQ} {ids:List Int} (hh:∀t∈ids,fK s T t=true) {i:Nat} (hi:i<ids.length):m' s T ids[i]=some ((wM s T ids)[i]'(by unfold wM;rw [List.length_map];exact hi)):=by
 have h1:=hh _ (List.getElem_mem hi);rw [←zt]at h1;obtain⟨k,hk⟩:=Option.isSome_iff_exists.1 h1;unfold wM;rw [List.getElem_map,hk];rfl
theorem jd (s:au) (T:List aQ) (ids:List Int):(wM s T ids).length=ids.length:=List.length_map _
theorem Ak {s:au} {T:List aQ} {M:Aut} {S:Nat→Nat→Prop} (hS:wN s T M S) (hn:M.n=gN s T) (hV:(aI s T).Ok) (hok:iW T) {ids:List Int} {ks:List Nat} (hl:ks.length=ids.length) (hk:∀(i:Nat) (h:i<ids.length),m' s T ids[i]=some (ks[i]'(by omega))):
  ∀i,i≤ids.length→(Aut.Way M 0 (ks.take i)↔∀(j:Nat) (h:j<ids.length),j<i→(aI s T).Has ids[j]∧(aI s T).Canon (ids.take (j+1)))∧(Aut.Way M 0 (ks.take i)→∃x,S x ((ks.take i).foldl M.nxt 0)∧jy s T ids i x):=by
 intro i;induction i with
 |zero=>exact fun _=>⟨⟨fun _ j _ hj=>absurd hj (Nat.not_lt_zero j),fun _=>trivial⟩,fun _=>⟨0,hS.zero,fun j _ hj=>absurd hj (Nat.not_lt_zero j),.inl ⟨rfl,rfl⟩⟩⟩
 |succ i ih=>
  intro hle;have hi:i<ids.length:=by omega
  obtain⟨ih1,ih2⟩:=ih (by omega);have htk:ks.take (i+1)=ks.take i++ [ks[i]]:=by rw [List.take_add_one,List.getElem?_eq_getElem (by omega)];rfl
  have hki:=hk i hi;have hkn:=(dk hki).1;have step:Aut.Way M 0 (ks.take i)→∃x,S x ((ks.take i).foldl M.nxt 0)∧jy s T ids i x∧(M.good (M.nxt ((ks.take i).foldl M.nxt 0) ks[i])=true↔(aI s T).Canon (ids.take (i+1)))∧(aI s T).Has ids[i]∧((aI s T).Canon (ids.take (i+1))→S (ks[i]+1) (M.nxt ((ks.take i).foldl M.nxt 0) ks[i])):=by
   intro hw;obtain⟨x,hx,hG⟩:=ih2 hw;obtain⟨h1,h2⟩:=nv hV hok hG hi hki;have h3:=hS.next x _ ks[i] hx hkn;have h4:=hS.good _ _ h3;refine⟨x,hx,hG,?_,h2,fun hc=>?_⟩
   ·rw [h4,decide_eq_true_eq, ←h1];by_cases hm:dh (gN s T) (kK s T) (dI s T) x ks[i]=true
    ·rw [if_pos hm];exact iff_of_true hkn hm
    ·rw [if_neg hm];exact iff_of_false (by omega) hm
   ·rw [if_pos (h1.2 hc)]at h3;exact h3
  constructor
  ·rw [htk,Aut.way_append];constructor
   ·rintro⟨hw,_,hg⟩ j hj hji;obtain⟨x,_,_,h1,h2,_⟩:=step hw;by_cases e:j=i
    ·subst e;exact⟨h2,h1.1 hg⟩
    ·exact ih1.1 hw j hj (by omega)
   ·intro hall;have hw:=ih1.2 fun j hj hji=>hall j hj (by omega);obtain⟨x,_,_,h1,h2,_⟩:=step hw;exact⟨hw,by rw [hn];exact hkn,h1.2 (hall i hi (by omega)).2⟩
  ·rw [htk,Aut.way_append,List.foldl_append];rintro⟨hw,_,hg⟩;obtain⟨x,_,hG,h1,h2,h3⟩:=step hw;have hc:=h1.1 hg;exact⟨_,h3 hc,mV hG hi hki h2 hc⟩
theorem zQ {s:au} {T:List aQ} {M:Aut} {S:Nat→Nat→Prop} (hS:wN s T M S) (hn:M.n=gN s T) (hV:(aI s T).Ok) (hok:iW T) {ids:List Int} (hh:∀t∈ids,fK s T t=true):Aut.Way M 0 (wM s T ids)↔o8 (aI s T) ids none:=by
 have h:=(Ak hS hn hV hok (jd s T ids) (fun i hi=>zT hh hi) ids.length (Nat.le_refl _)).1;rw [List.take_of_length_le (by rw [jd];exact Nat.le_refl _)]at h;rw [h];exact⟨fun h j hj=>h j hj hj,fun h j hj _=>h j hj⟩
theorem Hf {M:Aut} (hn:M.n≤1032) (m s k:Nat):Aut.via M m s k≤1032^m:=by
 unfold Aut.via;split
 ·exact Nat.le_trans (Aut.goN_le _ _) (Nat.pow_le_pow_left hn m)
 ·exact Nat.zero_le _
theorem Cd {M:Aut} (hn:M.n≤1032) (m s:Nat) {k:Nat} (hk:k≤1032):Aut.sumN (Aut.via M m s) k≤1032^(m+1):=by
 have:=Aut.sumN_le (Hf hn m s) k;rw [Nat.pow_succ,Nat.mul_comm];exact Nat.le_trans this (Nat.mul_le_mul_right _ hk)
theorem DL {M:Aut} (hn:M.n≤1032):∀ {u:List Nat} {L s:Nat},(∀k∈u,k≤1032)→Aut.pre M L s u≤u.length*1032^(L+1)
 | [],L,s,_=>Nat.zero_le _
 |k::u,L,s,h=>by
  have h1:=Cd hn (L-1) s (h k (by simp));have h2:=DL hn (u:=u) (L:=L-1) (s:=M.nxt s k) fun j hj=>h j (by simp [hj]);have h3:(1032:Nat)^(L-1+1)≤1032^(L+1):=Nat.pow_le_pow_right (by decide) (by omega);have h4:u.length*1032^(L-1+1)≤u.length*1032^(L+1):=Nat.mul_le_mul_left _ h3;show Aut.sumN (Aut.via M (L-1) s) k+Aut.pre M (L-1) (M.nxt s k) u≤(u.length+1)*1032^(L+1);rw [Nat.succ_mul];omega
theorem zU {x L:Nat} (h:x≤(L+1)*1032^(L+1)) (hL:L≤20000):(fD 4294967296 x).length≤L+2:=by
 refine nL fp (Nat.lt_of_le_of_lt h ?_);have h1:(1032:Nat)^(L+1)≤4294967296^(L+1):=Nat.pow_le_pow_left (by decide) _;have h2:(L+1)*1032^(L+1)≤20001*4294967296^(L+1):=Nat.mul_le_mul (by omega) h1;have h3:20001*4294967296^(L+1) <4294967296*4294967296^(L+1):=Nat.mul_lt_mul_of_pos_right (by decide) (Nat.pow_pos (by decide));rw [show L+2=(L+1)+1 from rfl,Nat.pow_succ 4294967296 (L+1),Nat.mul_comm (4294967296^(L+1))];omega
structure eZ (w q:World) (hi c a g L:Nat) (M:Aut) (s:au) (T:List aQ) (Rb Ab Sb Wb tot st:Nat) (want:Int):Prop where
 code:dt w q hi c a g L M s T
 hhi:hi≤q.heap.size
 all:∃l:Sl,q.heap[Ab]? =some (.cells #[l.v] bS (0,0))∧bf q l tot
 state:q.heap[Sb]? =some (.cells #[.int .i64 (st:Int)] aW (0,0))
 want:q.heap[Wb]? =some (.cells #[.int .i64 want] aW (0,0))
 res:q.heap[Rb]? =some (.cells #[bW.v] bS (0,0))
section
variable {w q q':World} {hi c a g L:Nat} {M:Aut} {s:au} {T:List aQ} {Rb Ab Sb Wb tot st:Nat} {want:Int}
theorem eZ.from (h:eZ w q hi c a g L M s T Rb Ab Sb Wb tot st want) (f:lM q q' c a g L M) (t:aq c q q') (n1:Ab≠c) (n2:Sb≠c) (n3:Wb≠c) (n4:Rb≠c):eZ w q' hi c a g L M s T Rb Ab Sb Wb tot st want:=by
 obtain⟨l,h1,h2⟩:=h.all;obtain⟨d,lc,hx,_⟩:=h.code.cnt;exact⟨f.code h.code h.hhi t,Nat.le_trans h.hhi t.size,⟨l,t.held n1 h1,h2.past hx (by decide) t⟩,t.held n2 h.state,t.held n3 h.want,t.held n4 h.res⟩
theorem eZ.on (h:eZ w q hi c a g L M s T Rb Ab Sb Wb tot st want) (hb:Below q.heap.size q q'):eZ w q' hi c a g L M s T Rb Ab Sb Wb tot st want:=by
 obtain⟨l,h1,h2⟩:=h.all;exact⟨h.code.then hb,Nat.le_trans h.hhi hb.size,⟨l,ai hb h1,h2.on hb⟩,ai hb h.state,ai hb h.want,ai hb h.res⟩
theorem oo {q:World} {b:Nat} {v0:Value} {n:Int} {K:World→Prop} (h:q.heap[b]? =some (.cells #[v0] aW (0,0))) (hk:∀q',q'.heap[b]? =some (.cells #[.int .i64 n] aW (0,0))→aq b q q'→(∀B w0,B≤b→Below B w0 q→Below B w0 q')→K q'):
  (Value.int .i64 n).oneCell'=true∧(∃u,q.cell? ⟨b,0,none⟩=some u)∧q.frozen? ⟨b,0,none⟩=false∧∀q',q'=q.setCell ⟨b,0,none⟩ (.int .i64 n)→K q':=
 d_ (cw h [.int .i64 n] rfl (fun v hv=>by rw [List.mem_singleton.1 hv];rfl) fun q' h1 h2 h3 h4=>hk q' h1 (cL h4 h2 h3) h4)
set_option maxHeartbeats 1000000 in
theorem tY (h:eZ w q hi c a g L M s T Rb Ab Sb Wb tot st want) (a1:w.heap.size≤Ab) (a2:Ab<hi) (s1:w.heap.size≤Sb) (s2:Sb<hi) (n1:Ab≠Sb) (n2:hi≤Wb) (r1:Rb≠Ab) (r2:Rb≠Sb) (id:Int) (nx:Nat) (r:Sl) (v:Nat) (hr:bf q r v) (d1:(fD 4294967296 tot).length≤100000) (d2:(fD 4294967296 v).length≤100000):
  bk fA (.func (.func 99) #[] #[.pointer (some ⟨Wb,0,none⟩),.pointer (some ⟨Sb,0,none⟩),.pointer (some ⟨Ab,0,none⟩)]) [.int .i64 id,.int .i64 (nx:Int),.agg #[r.v]] q fun e q2=>∃b:Bool,e= .returned (.bool b)∧(b=true→id=want∧eZ w q2 hi c a g L M s T Rb Ab Sb Wb tot nx want)∧(b=false→id≠want∧eZ w q2 hi c a g L M s T Rb Ab Sb Wb (tot+v) st want):=by
 refine bG (by kernel_rfl) ?_;refine aJ (yS id (nx:Int) r.a r.n r.c (some ⟨Wb,0,none⟩) (some ⟨Sb,0,none⟩) (some ⟨Ab,0,none⟩) q) ?_;intro w1 hw1;have b1:Below q.heap.size q w1:=by subst hw1;exact ah _ _
 have x1:w1.heap[q.heap.size]? =some (.cells #[r.v] bS (0,0)):=by subst hw1;exact ao _ _
 have h1:=h.on b1;obtain⟨l,hl,hN⟩:=h1.all;refine ag.mk _ rfl ⟨_,aH h1.want,ac.mk (fun he=>?_) fun he=>?_⟩
 ·have he:id=want:=by simpa using he
  refine ag.mk _ rfl (oo (n:=(nx:Int)) h1.state fun q' hx t B'=>⟨true,rfl,fun _=>⟨he,h1.code.box h1.state s1 s2 (by decide) t,Nat.le_trans h1.hhi t.size,⟨l,t.held n1 hl,hN.past h1.state (by decide) t⟩,hx,t.held (by omega) h1.want,t.held r2 h1.res⟩,fun h=>(by cases h)⟩)
 ·have he:¬id=want:=by simpa using he
  refine ag.mk _ rfl ⟨_,_,_,aO hl,_,_,_,aO x1,?_⟩;intro w3 hw3;have b3:Below w1.heap.size w1 w3:=by subst hw3;exact ah _ _
  have x3:w3.heap[w1.heap.size]? =some (.cells #[r.v] bS (0,0)):=by subst hw3;exact ao _ _
  refine(nf w3 l r tot v (hN.on b3) ((hr.on b1).on b3) d1 d2 (nb w1) 1 (aH x3) (Array.getElem?_eq_some_iff.1 x3).1).mono ?_;rintro e w4 ⟨y,rfl,hy,b4⟩;have h4:=(h1.on b3).on b4;obtain⟨l',hl',hN'⟩:=h4.all;refine⟨y.a,y.n,y.c,rfl,ag.mk _ rfl (bR (s:=y) hl' fun q' hx hN9 hB9 hs9 hz9=>⟨false,rfl,fun h=>(by cases h),fun _=>⟨he,?_⟩⟩)⟩;have t:=cL hB9 hs9 hz9;exact⟨h4.code.box hl' a1 a2 (by decide) t,Nat.le_trans h4.hhi t.size,⟨y,hx,hN9 _ _ hy⟩,t.held (Ne.symm n1) h4.state,t.held (by omega) h4.want,t.held r1 h4.res⟩
end
def HD (w':World) (M:Aut) (s:au) (T:List aQ) (L:Nat) (ids:List Int) (r:Sl) (k:Int):Prop:=
 (ids.length>L→k=3∧bf w' r 0)∧(ids.length≤L→((¬(∀t∈ids,(aI s T).Has t)→k=4∧bf w' r 0)∧((∀t∈ids,(aI s T).Has t)→(¬o8 (aI s T) ids none→k=8∧bf w' r 0)∧(o8 (aI s T) ids none→k=0∧bf w' r (Aut.rk M 0 (wM s T ids))))))
set_option maxHeartbeats 4000000 in
theorem qn (w:World) (c a g L:Nat) (M:Aut) (s:au) (T:List aQ) (S:Nat→Nat→Prop) (h:dt w w 0 c a g L M s T) (hF:fT M s T) (hL:L≤20000) (hS:wN s T M S) (hok:iW T) (hV:(aI s T).Ok) (A:Option Addr) (C:Nat) (ids:List Int) (row:∀ {q:World},aq c w q→Rw aK 1 q A ids) (hl:ids.length≤10000):
  CP 51 #[.pointer (some ⟨c,0,none⟩),.slice A ids.length C] w fun e w'=>∃(r:Sl) (k:Int),e= .returned (.tuple #[.agg #[r.v],.int .i64 k])∧HD w' M s T L ids r k∧dt w' w' 0 c a g L M s T∧aq c w w':=by
 refine aJ (oV (some ⟨c,0,none⟩) A ids.length C w) ?_;have hMn:=hF.n;have hfew:=hF.few;intro w1 hw1;have b1:Below w.heap.size w w1:=by subst hw1;exact ah _ _
 have z1:w1.heap.size=w.heap.size+1:=by subst hw1;exact ar _ _
 have x1:w1.heap[w.heap.size]? =some (.cells #[bW.v] bS (0,0)):=by subst hw1;exact ao _ _
 have h1:=h.then b1;have hclt:=h.lt;obtain⟨d,l,hx,_⟩:=h1.cnt;have none_:∀ {K:World→Prop},(∀(q':World),q'.heap[w.heap.size]? =some (.cells #[bW.v] bS (0,0))→bf q' bW 0→dt q' q' 0 c a g L M s T→aq c w q'→K q')→bW.v.oneCell'=true∧(∃u,w1.cell? ⟨w.heap.size,0,none⟩=some u)∧w1.frozen? ⟨w.heap.size,0,none⟩=false∧∀q',q'=w1.setCell ⟨w.heap.size,0,none⟩ bW.v→K q':=by
  intro K hk;refine bR (s:=bW) x1 fun q' hx' hN' hB' _ _=>?_;have hb:=hB' _ _ (Nat.le_refl _) b1;exact hk q' hx' (eY _) ((h.then hb).now 0) (aq.of_below hb)
 refine ac.no rfl (ag.mk _ rfl ⟨_,aj _ _ hx 2,ac.mk (fun c1=>?_) fun c1=>ag.mk _ rfl ⟨_,aj _ _ hx 0,?_⟩⟩)
 ·have c1:=of_decide_eq_true c1;refine none_ fun q' hx' hN hC ht=>⟨_,_,_,aO hx',bW,3,rfl,⟨fun _=>⟨rfl,hN⟩,fun h=>by omega⟩,hC,ht⟩
 have c1:=of_decide_eq_false c1;refine(y9 w1 a g M h1.on.aut s T h1.on.grid hMn S hS hok hV A C ids (row (aq.of_below b1)) hl).mono ?_;rintro e w4 ⟨r0,okb,rfl,hok1,hok2,hw4⟩;subst w4;refine⟨_,_,rfl,ac.mk (fun c2=>?_) fun c2=>?_⟩
 ·have c2:okb=false:=by simpa using c2
  refine none_ fun q' hx' hN hC ht=>⟨_,_,_,aO hx',bW,4,rfl,⟨fun h=>by omega,fun _=>⟨fun _=>⟨rfl,hN⟩,fun hh=>?_⟩⟩,hC,ht⟩;have:=hok1.2 hh;rw [c2]at this;cases this
 have c2:okb=true:=by simpa using c2
 have hhas:=hok1.1 c2;obtain⟨p,rfl,hp,hgp⟩:=hok2 c2;refine ag.mk _ rfl ⟨_,aj _ _ hx 0,(iG w1 a g M h1.on.aut _).mono ?_⟩;rintro e w6 ⟨rfl,hw6⟩;subst w6;rw [nH hp];refine⟨_,rfl,ac.mk (fun c3=>?_) fun c3=>?_⟩
 ·have c3:M.good p=false:=by simpa using c3
  refine none_ fun q' hx' hN hC ht=>⟨_,_,_,aO hx',bW,8,rfl,⟨fun h=>by omega,fun _=>⟨fun hh=>absurd hhas hh,fun _=>⟨fun _=>⟨rfl,hN⟩,fun hf=>?_⟩⟩⟩,hC,ht⟩;rw [hgp.2 hf]at c3;cases c3
 have c3:M.good p=true:=by simpa using c3
 have hfirst:=hgp.1 c3;have hh2:∀t∈ids,fK s T t=true:=fun t ht=>(jz hok t).2 (hhas t ht);obtain⟨ks,hks⟩:∃ks,ks=wM s T ids:=⟨_,rfl⟩;have hway:Aut.Way M 0 ks:=by rw [hks];exact(zQ hS hMn hV hok hh2).2 hfirst
 have hkl:ks.length=ids.length:=by rw [hks];exact jd s T ids
 have hkat:∀(i:Nat) (h:i<ids.length),m' s T ids[i]=some (ks[i]'(by omega)):=fun i hi=>by
  subst hks;exact zT hh2 hi
 have hkb:∀k∈ks,k<gN s T:=fun k hk=>by
  obtain⟨i,hi,rfl⟩:=List.getElem_of_mem hk;exact(dk (hkat i (by omega))).1
 intro w8 hw8 w9 hw9;have b8:Below w1.heap.size w1 w8:=by subst hw8;exact ah _ _
 have b9:Below w8.heap.size w8 w9:=by subst hw9;exact ah _ _
 have z8:w8.heap.size=w1.heap.size+1:=by subst hw8;exact ar _ _
 have z9:w9.heap.size=w8.heap.size+1:=by subst hw9;exact ar _ _
 have x8:w9.heap[w1.heap.size]? =some (.cells #[bW.v] bS (0,0)):=ai b9 (by subst hw8;exact ao _ _);have x9:w9.heap[w8.heap.size]? =some (.cells #[.int .i64 0] aW (0,0)):=by subst hw9;exact ao _ _
 have b89:=ae b8 b9;have b09:=ae b1 b89;refine oo (n:=0) x9 fun w10 x10 t10 B10=>?_;have b10:Below w.heap.size w w10:=B10 _ _ (by omega) b09;have x8':=t10.held (by omega) x8;have xr:=t10.held (by omega) (ai b89 x1);have z10:=t10.size;have hi10:w9.heap.size≤w10.heap.size:=z10;have hst0:∀i,i≤ids.length→(ks.take i).foldl M.nxt 0<M.N:=by
  intro i;induction i with
  |zero=>intro _;exact hF.ok.pos
  |succ i ih=>
   intro hi;rw [List.take_add_one,List.getElem?_eq_getElem (by omega),List.foldl_append];exact hF.ok.lt _ _ (ih (by omega)) (by rw [hMn];exact hkb _ (List.getElem_mem _))
 have wayAt:∀(i:Nat) (hi:i<ids.length),M.good (M.nxt ((ks.take i).foldl M.nxt 0) (ks[i]'(by omega)))=true:=by
  intro i hi;have e:ks=(ks.take i++ [ks[i]'(by omega)])++ks.drop (i+1):=by
   rw [List.append_assoc,List.singleton_append, ←List.drop_eq_getElem_cons,List.take_append_drop]
  have:∀(u v:List Nat) (x:Nat),Aut.Way M x (u++v)→Aut.Way M x u:=by
   intro u;induction u with
   |nil=>exact fun v x _=>trivial
   |cons k u ih=>exact fun v x hw=>⟨hw.1,hw.2.1,ih v _ hw.2.2⟩
  have h2:=this _ _ 0 (by rw [←e];exact hway);exact(Aut.way_append.1 h2).2.2
 intro I hI;have key:=bC (α:=World) ids.length (fun i q=>dt w q w10.heap.size c a g L M s T∧w10.heap.size≤q.heap.size∧(∃l:Sl,q.heap[w1.heap.size]? =some (.cells #[l.v] bS (0,0))∧bf q l (Aut.pre M ids.length 0 (ks.take i)))∧q.heap[w8.heap.size]? =some (.cells #[.int .i64 (((ks.take i).foldl M.nxt 0:Nat):Int)] aW (0,0))∧q.heap[w.heap.size]? =some (.cells #[bW.v] bS (0,0))) (fun i q=>I [.int .i64 (i:Int)] q) w10 ⟨(h.now _).then b10,Nat.le_refl _,⟨bW,x8',eY _⟩,x10,xr⟩ ?_ ?_
 ·exact key
 ·rintro i hi ih q ⟨hC,hq,⟨l,hlx,hN⟩,hsx,hrx⟩;have hlt:=hC.t;obtain⟨pw,hpw,c0⟩:=be (row hC.t) hi rfl;refine hI _ q (ac.yes (decide_eq_true (by omega)) (ag.mk pw hpw ⟨by omega,by omega,_,c0,?_⟩));intro w12 hw12;have b12:Below q.heap.size q w12:=by subst hw12;exact ah _ _
  have x12:w12.heap[q.heap.size]? =some (.cells #[.int .i64 0] aW (0,0)):=by subst hw12;exact ao _ _
  refine oo (n:=ids[i]) x12 fun w13 x13 t13 B13=>?_;have b13:Below q.heap.size q w13:=B13 _ _ (Nat.le_refl _) b12;have hki:ks[i]'(by omega) <gN s T:=hkb _ (List.getElem_mem _);have hsi:=hst0 i (by omega);obtain⟨st,hst⟩:∃st,st=(ks.take i).foldl M.nxt 0:=⟨_,rfl⟩;obtain⟨tot,htot⟩:∃tot,tot=Aut.pre M ids.length 0 (ks.take i):=⟨_,rfl⟩;obtain⟨left,hleft⟩:∃left,left=ids.length-1-i:=⟨_,rfl⟩;have hg:=wayAt i hi;rw [←hst]at hsx hsi hg;rw [←htot]at hN;have ht1:tot≤i*1032^(ids.length+1):=by
   rw [htot];have:=DL (M:=M) (by omega) (u:=ks.take i) (L:=ids.length) (s:=0) fun k hk=>by have:=hkb k (List.mem_of_mem_take hk);omega
   rwa [List.length_take,Nat.min_eq_left (by omega)]at this
  have ht2:∀k,k≤gN s T→tot+Aut.sumN (Aut.via M left st) k≤(ids.length+1)*1032^(ids.length+1):=by
   intro k hk;have h1:=Cd (M:=M) (by omega) left st (k:=k) (by omega);have h2:(1032:Nat)^(left+1)≤1032^(ids.length+1):=Nat.pow_le_pow_right (by decide) (by omega);have h3:i*1032^(ids.length+1)≤ids.length*1032^(ids.length+1):=Nat.mul_le_mul_right _ (by omega);rw [Nat.succ_mul];omega
  have R13:eZ w w13 w10.heap.size c a g L M s T w.heap.size w1.heap.size w8.heap.size q.heap.size tot st ids[i]:=⟨hC.then b13,Nat.le_trans hq b13.size,⟨l,ai b13 hlx,hN.on b13⟩,ai b13 hsx,x13,ai b13 hrx⟩;obtain⟨ki,hkid⟩:∃ki,ki=ks[i]'(by omega):=⟨_,rfl⟩;rw [←hkid]at hki hg;have hplc:m' s T ids[i]=some ki:=by rw [hkid];exact hkat i hi
  refine⟨_,aH R13.state,Ar.ok64 (by omega) (by omega) (Ar.nat left (by omega) (by omega) ?_)⟩;refine(mC w w10.heap.size c a g L M s T hF hL st left hsi (by omega) _ w13 (fun k q'=>k≤ki∧eZ w q' w10.heap.size c a g L M s T w.heap.size w1.heap.size w8.heap.size q.heap.size (tot+Aut.sumN (Aut.via M left st) k) st ids[i]) (fun q'=>eZ w q' w10.heap.size c a g L M s T w.heap.size w1.heap.size w8.heap.size q.heap.size (tot+Aut.sumN (Aut.via M left st) ki) (M.nxt st ki) ids[i]) ⟨Nat.zero_le _,R13⟩ (fun k q' h=>h.2.code) ?_ ?_).mono ?_
  ·rintro k q' hk ⟨h1,h3⟩ hb;refine⟨?_,?_⟩
   ·have:k≠ki:=fun e=>by
     rw [e,hg]at hb;cases hb
    omega
   ·have:Aut.via M left st k=0:=by unfold Aut.via;rw [hb];rfl
    show eZ w q' _ c a g L M s T _ _ _ _ (tot+(Aut.sumN (Aut.via M left st) k+Aut.via M left st k)) st ids[i];rw [this];exact h3
  ·rintro k q1 hk ⟨h1,h3⟩ hgk r q2 hf ht hNr;have h4:=h3.from hf ht (by omega) (by omega) (by omega) (by omega);have d1:=zU (ht2 k (by omega)) (by omega);have hv:Aut.via M left st k≤(ids.length+1)*1032^(ids.length+1):=by
    have:=ht2 (k+1) (by omega);have e:Aut.sumN (Aut.via M left st) (k+1)=Aut.sumN (Aut.via M left st) k+Aut.via M left st k:=rfl;omega
   have d2:=zU hv (by omega);refine bk.mono (tY h4 (by omega) (by omega) (by omega) (by omega) (by omega) (by omega) (by omega) (by omega) ((bv s T).getD k 0) (M.nxt st k) r _ hNr (by omega) (by omega)) ?_;rintro e q3 ⟨b,rfl,hb1,hb0⟩;have hpk:=si hF.rise hk;refine⟨b,rfl,fun hb=>?_,fun hb=>?_⟩
   ·obtain⟨he,hR⟩:=hb1 hb;rw [he,hplc]at hpk;cases hpk;exact hR
   ·obtain⟨he,hR⟩:=hb0 hb;refine⟨?_,?_⟩
    ·have:k≠ki:=fun e=>he (by rw [e];exact(dk hplc).2.1);omega
    ·rw [Nat.add_assoc]at hR;exact hR
  ·rintro e w14 ⟨b,rfl,hQ,hP⟩;cases b with
   |false=>
    have:=(hP rfl).1;omega
   |true=>
    have hR:=hQ rfl;have htk:ks.take (i+1)=ks.take i++ [ki]:=by rw [List.take_add_one,List.getElem?_eq_getElem (by omega),hkid];rfl
    refine⟨_,rfl,Ar.nat (i+1) rfl (by omega) (ih w14 ⟨hR.code,hR.hhi,?_,?_,hR.res⟩)⟩
    ·rw [htk,Aut.pre_snoc, ←htot, ←hst,List.length_take,Nat.min_eq_left (by omega), ←hleft];exact hR.all
    ·rw [htk,List.foldl_append, ←hst];exact hR.state
 ·rintro q ⟨hC,hq,⟨l,hlx,hN⟩,hsx,hrx⟩;refine hI _ q (ac.no (decide_eq_false (by omega)) ⟨_,_,_,aO hlx,bR (s:=l) hrx fun w15 hx15 hN15 hB15 hs15 hz15=>⟨_,_,_,aO hx15,l,0,rfl,⟨fun h=>by omega,fun _=>⟨fun hh=>absurd hhas hh,fun _=>⟨fun hh=>absurd hfirst hh,fun _=>⟨rfl,?_⟩⟩⟩⟩,?_,?_⟩⟩)
  ·have h2:=hN15 _ _ hN;rw [List.take_of_length_le (by omega), ←hkl,Aut.pre_rk,hks]at h2;exact h2
  ·exact(hC.box hrx (Nat.le_refl _) (by omega) (by decide) (cL hB15 hs15 hz15)).now 0
  ·have t:=cL hB15 hs15 hz15;have t0:=hC.t;exact⟨t.os.trans t0.os,t.tape.trans t0.tape,t.output.trans t0.output,Nat.le_trans t0.size t.size,fun j hj hne=>(t.block j (Nat.lt_of_lt_of_le hj t0.size) (by omega)).trans (t0.block j hj hne)⟩
def sZ:au:={}
theorem zq:sZ.right=true:=by decide+kernel
theorem zj:fG sZ= .ok aF:=by
 have h:(match fG sZ with | .ok t=>decide (t=aF) | .error _=>false)=true:=by decide+kernel
 cases hx:fG sZ with
 |error q=>rw [hx]at h;cases h
 |ok t=>rw [hx]at h;rw [of_decide_eq_true h]
theorem xj:(bv sZ aF).length=256:=by decide+kernel
theorem uV (w:World):fa w ⟨false,bW,bW,bW,bW,bW⟩ sZ:=by
 have none_:∀ {α:Type} {enc:α→List Value} {sz:Nat},Rw enc sz w none []:=fun j x hj=>by simp at hj
 exact⟨rfl,rfl,none_,rfl,none_,rfl,none_,rfl,none_,rfl,none_⟩
theorem td {s:au} {T:List aQ} (hn:gN s T≤1032) {f:Nat→Nat} (hc:Aut.Cls (dd s T) f):Aut.Stays (Aut.least (dd s T) f):=by
 intro p hp hb k hk;have hM:=ic (s:=s) (T:=T) hn;have hS:Aut.Sim (dd s T) f ((Aut.metL (dd s T) f).getD p 0) p:=⟨Aut.getD_lt hM f hp,hp,rfl⟩;have hk':k< (dd s T).n:=hk;rw [(hS.next hM hc hk').good hM hc];rw [hS.good hM hc]at hb;have hb':¬(Aut.metL (dd s T) f).getD p 0≤gN s T:=of_decide_eq_false hb;have:(dd s T).good ((dd s T).nxt ((Aut.metL (dd s T) f).getD p 0) k)=dh (gN s T) (kK s T) (dI s T) ((Aut.metL (dd s T) f).getD p 0) k:=gn _ hk';rw [this];unfold dh;rw [if_neg (by omega),if_neg hb']
theorem AB {s:au} {T:List aQ} (hn:gN s T≤1032) {f:Nat→Nat} (hc:Aut.Cls (dd s T) f):(Aut.least (dd s T) f).N≤gN s T+2:=
 Aut.met_few (ic hn) hc.lt (dd s T).N
theorem rr {s:au} {T:List aQ} (hn:gN s T≤1032) (hr:wX s T) {f:Nat→Nat} (hc:Aut.Cls (dd s T) f):fT (Aut.least (dd s T) f) s T where
 n:=rfl
 few:=hn
 rise:=hr
 ok:=Aut.least_ok (ic hn) hc.lt
 N:=by have:=AB hn hc;omega
 stays:=td hn hc
theorem jS:gN sZ aF=256:=xj
theorem oO:(∀i:Nat,i<256→(bv sZ aF).getD i 0=(i:Int))∧wX sZ aF:=by decide+kernel
theorem KV:(aI sZ aF).ms= []:=by decide+kernel
theorem Hc:∀i:Nat,i<256→(aI sZ aF).ex (i:Int)= [(i:Int)]:=by decide+kernel
theorem JT (x y:Int) (hx:0≤x) (hy:0≤y):(aI sZ aF).cut x y=false:=by
 unfold Voc.cut;rw [decide_eq_false (by omega),decide_eq_false (by omega),Bool.false_or,Bool.false_or];show cutB [] [] x y=false;unfold cutB;exact decide_eq_false fun e=>e.1 rfl
theorem DZ:∀Z:List Int,Z≠ []→(∀x∈Z,0≤x)→chop (aI sZ aF).cut Z= [Z]
 | [],h,_=>absurd rfl h
 | [x],_,_=>rfl
 |x::y::r,_,h=>by
  have hx:=h x (by simp);have hy:=h y (by simp);rw [chop,if_neg (by rw [JT x y hx hy];exact Bool.false_ne_true),DZ (y::r) (by simp) fun z hz=>h z (List.mem_cons_of_mem _ hz)]
theorem F3 (Z:List Int) (h:Z≠ []) (h0:∀x∈Z,0≤x):(aI sZ aF).encode Z=Z:=by
 unfold Voc.encode;rw [DZ Z h h0,List.flatMap_cons,List.flatMap_nil,List.append_nil];cases Z with
 |nil=>exact absurd rfl h
 |cons x r=>
  have:=h0 x List.mem_cons_self;show(if x<0 then _ else after (aI sZ aF).ms (aI sZ aF).ms.length (x::r))=_;rw [if_neg (by omega),KV];rfl
theorem zE (t:Int):(aI sZ aF).items t=(aI sZ aF).ex t:=rfl
theorem Kt {i:Nat} (hi:i<256):kK sZ aF i=true:=by
 unfold kK;rw [oO.1 i hi];refine decide_eq_true ?_;show(aI sZ aF).encode ((aI sZ aF).itemsAll [(i:Int)])= [(i:Int)];unfold Voc.itemsAll;simp only [List.flatMap_cons,List.flatMap_nil,List.append_nil,zE];rw [Hc i hi,F3 _ (by simp) (by intro x hx;simp at hx;omega)]
theorem KH {i j:Nat} (hi:i<256) (hj:j<256):dI sZ aF i j=true:=by
 unfold dI;rw [oO.1 i hi,oO.1 j hj];refine decide_eq_true ?_;show(aI sZ aF).encode ((aI sZ aF).itemsAll [(i:Int),(j:Int)])= [(i:Int),(j:Int)];unfold Voc.itemsAll;simp only [List.flatMap_cons,List.flatMap_nil,List.append_nil,zE];rw [Hc i hi,Hc j hj,F3 _ (by simp) (by intro x hx;simp at hx;omega)];rfl
theorem zR {i k:Nat} (hi:i≤256) (hk:k<256):dh 256 (kK sZ aF) (dI sZ aF) i k=true:=by
 unfold dh;by_cases e:i=0
 ·rw [if_pos e,Kt hk]
 ·rw [if_neg e,if_pos hi,KH (by omega) hk]
theorem Hw {al:Nat→Bool} {rel:Nat→Nat→Bool} (ha:∀i,i<256→al i=true) (hm:∀i k,i≤256→k<256→dh 256 al rel i k=true) {M:Aut} (hM:M=dR 256 al rel) {f:Nat→Nat} (hc:Aut.Cls M f):(Aut.least M f).N=1:=by
 subst hM;have hact:∀i,i<257→qv al i=true:=by
  intro i hi;unfold qv;by_cases e:i=0
  ·subst e;rfl
  ·rw [ha _ (by omega)];simp
 have hrow:∀i,i<257→kU 256 al rel i=kU 256 al rel 0:=fun i hi=>oC.2 fun k hk=>by rw [hm _ _ (by omega) hk,hm _ _ (by omega) hk]
 have hone:(jW 256 al rel (256+1)).length=1:=by
  apply Nat.le_antisymm
  ·refine gl (m:=[kU 256 al rel 0]) (gC _) fun r hr=>?_;obtain⟨i,hi,_,rfl⟩:=(fX _ _).1 hr;rw [hrow i hi];exact List.mem_cons_self
  ·refine gl (l:=[kU 256 al rel 0]) (by simp) fun r hr=>?_;rw [List.mem_singleton.1 hr];exact(fX _ _).2 ⟨0,by decide,hact 0 (by decide),rfl⟩
 have hbad:¬AY 256 al rel (256+1)=true:=by
  intro h;obtain⟨i,k,hi,_,hk,hh⟩:=ow.1 h;rw [hm i k (by omega) hk]at hh;cases hh
 rw [EY,xu (n:=256) (by decide) (fun i k hi hk _=>ha k hk) hc,hone,if_neg hbad]
theorem zw {f:Nat→Nat} (hc:Aut.Cls (dd sZ aF) f):(Aut.least (dd sZ aF) f).N=1:=
 Hw (fun i hi=>Kt hi) (fun i k hi hk=>zR hi hk) (by unfold dd;rw [jS]) hc
theorem Dp (c:Nat):∀n:Nat,Aut.sumN (fun _=>c) n=n*c
 |0=>(Nat.zero_mul c).symm
 |n+1=>by rw [Nat.succ_mul, ←Dp c n];rfl
section
variable {M:Aut} {S:Nat→Nat→Prop}
theorem zL (hS:wN sZ aF M S) (hn:M.n=256):∀(m x p k:Nat),S x p→x≤256→k<256→Aut.via M m p k=256^m
 |m,x,p,k,h,hx,hk=>by
  have hnx:=hS.next x p k h (by rw [jS];exact hk);rw [jS,if_pos (zR hx hk)]at hnx;have hg:=hS.good _ _ hnx;rw [jS,decide_eq_true (by omega)]at hg;unfold Aut.via;rw [if_pos hg]
  match m with
  |0=>unfold Aut.goN;rw [if_pos hg]
  |m+1=>
   rw [Aut.goN_succ,Aut.sumN_congr (g:=fun _=>256^m) fun j hj=>zL hS hn m (k+1) _ j hnx (by omega) (by omega),hn];rw [Dp,Nat.pow_succ,Nat.mul_comm]
theorem KX (hS:wN sZ aF M S) (hn:M.n=256) {m x p:Nat} (h:S x p) (hx:x≤256):Aut.goN M m p=256^m:=by
 have hg:=hS.good _ _ h;rw [jS,decide_eq_true hx]at hg;cases m with
 |zero=>unfold Aut.goN;rw [if_pos hg]
 |succ m=>
  rw [Aut.goN_succ,Aut.sumN_congr (g:=fun _=>256^m) fun j hj=>zL hS hn m x _ j h hx (by omega),hn];rw [Dp,Nat.pow_succ,Nat.mul_comm]
theorem Lc (hS:wN sZ aF M S) (hn:M.n=256):Aut.rk M 0 [97,98]=24930∧Aut.Way M 0 [97,98]:=by
 have h1:=hS.next 0 0 97 hS.zero (by rw [jS];decide);rw [jS,if_pos (zR (by decide) (by decide))]at h1;have g1:=hS.good _ _ h1;rw [jS,decide_eq_true (by decide)]at g1;have h2:=hS.next _ _ 98 h1 (by rw [jS];decide);rw [jS,if_pos (zR (by decide) (by decide))]at h2;have g2:=hS.good _ _ h2;rw [jS,decide_eq_true (by decide)]at g2;refine⟨?_,by omega,g1,by omega,g2,trivial⟩;show Aut.sumN (Aut.via M 1 0) 97+(Aut.sumN (Aut.via M 0 (M.nxt 0 97)) 98+0)=24930;rw [Aut.sumN_congr (g:=fun _=>256^1) fun j hj=>zL hS hn 1 0 0 j hS.zero (by decide) (by omega),Aut.sumN_congr (g:=fun _=>256^0) fun j hj=>zL hS hn 0 _ _ j h1 (by decide) (by omega),Dp,Dp]
end
theorem dT {n d q:Nat} (h:n=d+10*q) (hd:d<10) (h0:n≠0):fD 10 n=(d:Int)::fD 10 q:=by
 have h1:n%10=d:=by omega
 have h2:n/10=q:=by omega
 rw [jJ Hd h0,h1,h2]
theorem HQ:kQ 65536= [54,53,53,51,54]:=by
 unfold kQ;rw [if_neg (by decide),dT (d:=6) (q:=6553) (by decide) (by decide) (by decide),dT (d:=3) (q:=655) (by decide) (by decide) (by decide),dT (d:=5) (q:=65) (by decide) (by decide) (by decide),dT (d:=5) (q:=6) (by decide) (by decide) (by decide),dT (d:=6) (q:=0) (by decide) (by decide) (by decide),dP];decide
theorem HM:kQ 24930= [50,52,57,51,48]:=by
 unfold kQ;rw [if_neg (by decide),dT (d:=0) (q:=2493) (by decide) (by decide) (by decide),dT (d:=3) (q:=249) (by decide) (by decide) (by decide),dT (d:=9) (q:=24) (by decide) (by decide) (by decide),dT (d:=4) (q:=2) (by decide) (by decide) (by decide),dT (d:=2) (q:=0) (by decide) (by decide) (by decide),dP];decide
theorem CS:wM sZ aF [97,98]= [97,98]:=by decide+kernel
theorem Jr:∀t∈ [(97:Int),98],fK sZ aF t=true:=by decide+kernel
theorem I7 (w:World) {v:Nat} (h:bg w v sZ aF):iW aF∧(aI sZ aF).Ok:=by
 obtain⟨w0,x,tp,bp,mp,d,l,uses,hR⟩:=h;exact⟨hR.parts.ok,lY hR.parts⟩
set_option maxHeartbeats 1000000 in
theorem sH (w:World):CP 35 #[] w fun e w'=>e= .returned (.bool true)∧Below w.heap.size w w':=by
 refine aJ (xA w) ?_;refine(j8 w ⟨false,bW,bW,bW,bW,bW⟩ sZ (uV w)).mono ?_;rintro e w1 ⟨u,rfl,b1,hp⟩;rw [if_pos zq,zj]at hp;obtain⟨v,rfl,hV1,hv⟩:=hp;obtain⟨hok,hVok⟩:=I7 w1 hV1;refine⟨_,_,_,rfl,(lF w1 v sZ aF hV1 List.Pairwise.nil 1048576).mono ?_⟩;rintro e w2 ⟨u,rfl,hV2,t2,hu⟩;rw [xj,if_neg (by decide)]at hu;obtain⟨g,rfl,hG,hg⟩:=hu;have b2:Below w.heap.size w w2:=b1.trans (t2.below hv b1.size);have hn:gN sZ aF≤1032:=by rw [jS];decide
 refine⟨_,_,rfl,(qJ w2 g sZ aF hG hn oO.2 1048576).mono ?_⟩;rintro e w3 ⟨b3,_,hu⟩;obtain⟨a,rfl,ha,hA⟩:=hu (by rw [jS];decide);refine⟨_,_,rfl,(pd w3 a g _ hA (by show gN sZ aF+2≤10000;omega) (by show gN sZ aF≤10000;omega)).mono ?_⟩;rintro e w4 ⟨b,f,rfl,hc,hb,_,hab,t4⟩;have hF:=rr hn oO.2 hc;have hN1:=zw hc;have hS:=x7 hn hc;have b4:Below w2.heap.size w2 w4:=b3.trans (t4.below ha b3.size);refine⟨_,rfl,(lv w4 b g _ sZ aF ⟨hb,hG.on b4⟩ hF 3).mono ?_⟩;obtain⟨M,hM⟩:∃M,M=Aut.least (dd sZ aF) f:=⟨_,rfl⟩;rw [←hM]at hF hN1 hS⊢;have hMn:M.n=256:=by rw [hF.n,jS]
 rintro e w5 ⟨b5,_,_,hu⟩;obtain⟨c,rfl,hcs,hC⟩:=hu (by decide) (by rw [hN1];decide);have hclt:=hC.lt;refine⟨_,_,rfl,?_⟩;intro w6 hw6;have b6:Below w5.heap.size w5 w6:=by subst hw6;exact ah _ _
 have hC6:=(hC.then b6).now 0;have hr:=Hs w5 w6 [97,98] _ rfl hw6;have x6:w6.heap[w5.heap.size]? =some (.cells #[.int .i64 97,.int .i64 98] aW (0,0)):=by subst hw6;exact ao _ _
 refine(qn w6 c b g 3 M sZ aF _ hC6 hF (by decide) hS hok hVok (some (nb w5)) 2 [97,98] (fun {q} t=>?_) (by decide)).mono ?_
 ·exact hr.touch t fun _ p hp=>by cases hp;exact fun e=>by have:w5.heap.size=c:=e;omega
 obtain⟨hab1,hab2⟩:=Lc hS hMn;rintro e w7 ⟨r,k,rfl,hR,hC7,t7⟩;have hh:=Jr;obtain⟨rfl,hN7⟩:=((hR.2 (by decide)).2 (fun t ht=>(jz hok t).1 (hh t ht))).2 ((zQ hS hF.n hVok hok hh).1 (by rw [CS];exact hab2));rw [CS,hab1]at hN7;refine⟨_,_,_,_,rfl,?_⟩;intro w8 hw8;have b8:Below w7.heap.size w7 w8:=by subst hw8;exact ah _ _
 have x8:w8.heap[w7.heap.size]? =some (.cells #[bW.v] bS (0,0)):=by subst hw8;exact ao _ _
 refine bR (s:=r) x8 fun w9 x9 N9 B9 _ _=>?_;have b9:=B9 _ _ (Nat.le_refl _) b8;have hN9:=N9 _ _ (hN7.on b8);have hC9:=(hC7.then b9).now 0;have hclt7:=hC7.lt;refine ac.yes rfl ((pg w9 w9 0 c b g 3 M sZ aF hC9 hF (by decide) 2).mono ?_);rintro e w10 ⟨r2,rfl,hN10,hf,t10⟩;have e2:gv M 3 0 2=65536:=by
  unfold gv;rw [if_pos (by rw [hN1];decide)];exact KX hS hMn hS.zero (by decide)
 rw [e2]at hN10;refine⟨_,_,_,rfl,(jw w10 r2 65536 hN10 (Nat.le_trans (nL (k:=1) (by decide) (by decide)) (by decide))).mono ?_⟩;rintro e w11 ⟨rfl,b11⟩;rw [HQ];refine⟨_,rfl,ac.yes (beq_self_eq_true (str [54,53,53,51,54]).toList) ⟨_,_,_,aO (ai b11 (t10.held (by omega) x9)),?_⟩⟩;have hN11:bf w11 r 24930:=by
  refine bf.on ?_ b11;obtain⟨cc,fz,hx⟩:=hC9.typ;exact hN9.past hx (by decide) t10
 refine(jw w11 r 24930 hN11 (Nat.le_trans (nL (k:=1) (by decide) (by decide)) (by decide))).mono ?_;rintro e w12 ⟨rfl,b12⟩;rw [HM];refine⟨_,rfl,ac.yes (beq_self_eq_true (str [50,52,57,51,48]).toList) ⟨rfl,?_⟩⟩;have h5:=b4.trans (b5.mono b4.size);have h7:=(ae h5 b6).trans (t7.below (by have:=b4.size;omega) (ae h5 b6).size);have h9:=h7.trans (b9.mono h7.size);have h10:=h9.trans (t10.below (by have:=b4.size;omega) h9.size);have h11:=h10.trans (b11.mono h10.size);have h12:=h11.trans (b12.mono h11.size);exact b2.trans (h12.mono b2.size)
theorem rP (g:Option Addr) (n:Int) (w:World):CP 55 #[.pointer none,.pointer g,.int .i64 n] w fun e w'=>e= .returned (.tuple #[.pointer none,.int .i64 1])∧w'=w:=by
 refine aJ (kN none g n w) ?_;exact ac.yes rfl ⟨rfl,rfl⟩
theorem rK (a:Addr) (n:Int) (w:World):CP 55 #[.pointer (some a),.pointer none,.int .i64 n] w fun e w'=>e= .returned (.tuple #[.pointer none,.int .i64 1])∧w'=w:=by
 refine aJ (kN (some a) none n w) ?_;exact ac.no rfl (ac.yes rfl ⟨rfl,rfl⟩)
theorem kZ (A:Option Addr) (N C:Nat) (w:World):CP 51 #[.pointer none,.slice A N C] w fun e w'=>e= .returned (.tuple #[.agg #[bW.v],.int .i64 1])∧Below w.heap.size w w':=by
 refine aJ (oV none A N C w) ?_;intro w1 hw1;have b1:Below w.heap.size w w1:=by subst hw1;exact ah _ _
 have x1:w1.heap[w.heap.size]? =some (.cells #[bW.v] bS (0,0)):=by subst hw1;exact ao _ _
 exact ac.yes rfl (bR (s:=bW) x1 fun q' hx' hN' hB' _ _=>⟨_,_,_,aO hx',rfl,hB' _ _ (Nat.le_refl _) b1⟩)
theorem lO (st n:Int) (w:World):CP 41 #[.pointer none,.int .i64 st,.int .i64 n] w fun e w'=>e= .returned (.agg #[bW.v])∧Below w.heap.size w w':=by
 refine aJ (pB none st n w) ?_;intro w1 hw1;have b1:Below w.heap.size w w1:=by subst hw1;exact ah _ _
 have x1:w1.heap[w.heap.size]? =some (.cells #[bW.v] bS (0,0)):=by subst hw1;exact ao _ _
 exact ac.yes rfl (bR (s:=bW) x1 fun q' hx' hN' hB' _ _=>⟨_,_,_,aO hx',rfl,hB' _ _ (Nat.le_refl _) b1⟩)
theorem ql (n:Int) (w:World):CP 45 #[.pointer none,.int .i64 n] w fun e w'=>e= .returned (.agg #[bW.v])∧Below w.heap.size w w':=by
 refine aJ (oY none n w) ?_;intro w1 hw1;have b1:Below w.heap.size w w1:=by subst hw1;exact ah _ _
 have x1:w1.heap[w.heap.size]? =some (.cells #[bW.v] bS (0,0)):=by subst hw1;exact ao _ _
 refine(lO 0 n w1).mono ?_;rintro e w2 ⟨rfl,b2⟩;have b12:=ae b1 b2;exact⟨_,_,_,rfl,bR (s:=bW) (ai b2 x1) fun q' hx' hN' hB' _ _=>⟨_,_,_,aO hx',rfl,hB' _ _ (Nat.le_refl _) b12⟩⟩
theorem pi (n:Int) (k:Sl) (w:World):CP 50 #[.pointer none,.int .i64 n,.agg #[k.v]] w fun e w'=>e= .returned (.tuple #[bW.v,.int .i64 1])∧Below w.heap.size w w':=by
 refine aJ (xN none n k.a k.n k.c w) ?_;intro w1 hw1;have b1:Below w.heap.size w w1:=by subst hw1;exact ah _ _
 exact ac.yes rfl ⟨rfl,b1⟩
theorem ry (A:Option Addr) (N C:Nat) (w:World):CP 52 #[.pointer none,.slice A N C] w fun e w'=>e= .returned (.tuple #[bW.v,.int .i64 1])∧Below w.heap.size w w':=by
 refine aJ (yf none A N C w) ?_;refine(kZ A N C w).mono ?_;rintro e w1 ⟨rfl,b1⟩;refine⟨_,_,_,_,rfl,?_⟩;intro w2 hw2;have b2:Below w1.heap.size w1 w2:=by subst hw2;exact ah _ _
 have x2:w2.heap[w1.heap.size]? =some (.cells #[bW.v] bS (0,0)):=by subst hw2;exact ao _ _
 exact bR (s:=bW) x2 fun q' hx' hN' hB' _ _=>ac.yes rfl ⟨rfl,hB' _ _ b1.size (ae b1 b2)⟩
set_option maxHeartbeats 1000000 in
theorem qj (n state:Int) (w:World):CP 10 #[.int .i64 n,.int .i64 state] w fun e w'=>e= .returned (.bool true)∧Below w.heap.size w w':=by
 refine aJ (yP n state w) ?_;refine(sH w).mono ?_;rintro e w0 ⟨rfl,b0⟩;refine⟨_,rfl,ac.no rfl ((j8 w0 ⟨false,bW,bW,bW,bW,bW⟩ sZ (uV w0)).mono ?_)⟩;rintro e w1 ⟨u,rfl,b1,hp⟩;rw [if_pos zq,zj]at hp;obtain⟨v,rfl,hV1,hv⟩:=hp;refine⟨_,_,_,rfl,(lF w1 v sZ aF hV1 List.Pairwise.nil 1048576).mono ?_⟩;rintro e w2 ⟨u,rfl,hV2,t2,hu⟩;rw [xj,if_neg (by decide)]at hu;obtain⟨g,rfl,hG,hg⟩:=hu;have b2:Below w0.heap.size w0 w2:=b1.trans (t2.below hv b1.size);have hn:gN sZ aF≤1032:=by rw [jS];decide
 refine⟨_,_,rfl,(qJ w2 g sZ aF hG hn oO.2 1048576).mono ?_⟩;rintro e w3 ⟨b3,_,hu⟩;obtain⟨a,rfl,ha,hA⟩:=hu (by rw [jS];decide);refine⟨_,_,rfl,(rP _ n w3).mono ?_⟩;rintro e w4 ⟨rfl,hw4⟩;subst w4;refine⟨_,_,rfl,(rK _ n w3).mono ?_⟩;rintro e w4 ⟨rfl,hw4⟩;subst w4;refine⟨_,_,rfl,(pd w3 a g _ hA (by show gN sZ aF+2≤10000;omega) (by show gN sZ aF≤10000;omega)).mono ?_⟩;rintro e w4 ⟨b,f,rfl,hc,hb,_,hab,t4⟩;have hF:=rr hn oO.2 hc;have hN1:=zw hc;have b4:Below w2.heap.size w2 w4:=b3.trans (t4.below ha b3.size);refine⟨_,rfl,(lv w4 b g _ sZ aF ⟨hb,hG.on b4⟩ hF n).mono ?_⟩;rintro e w5 ⟨b5,h1,h2,h3⟩;rw [hN1]at h2 h3;have hz:∃r0,e= .returned (.tuple #[.pointer r0,.int .i64 (if n>20000 then 5 else if n<0 then 1 else 0)]):=by
  by_cases c1:n<0
  ·rw [if_neg (by omega),if_pos c1];exact⟨_,h1 c1⟩
  ·by_cases c2:n>20000
   ·rw [if_pos c2];exact⟨_,h2 (by omega) (by omega)⟩
   ·rw [if_neg c2,if_neg c1];obtain⟨c,he,_⟩:=h3 (by omega) (by omega);exact⟨_,he⟩
 obtain⟨r0,rfl⟩:=hz;have b05:Below w.heap.size w w5:=by
  have h1:=ae b0 b2;have h2:=ae h1 b4;exact ae h2 b5
 obtain⟨z,hz⟩:∃z:Int,z=if n>20000 then 5 else if n<0 then 1 else 0:=⟨_,rfl⟩
 rw [←hz];refine⟨_,_,rfl,?_⟩;intro J hJ;have go:∀wv:Int,(wv=if n<0 then 1 else 0)→J [.int .i64 wv] w5:=by
  intro wv hwv;refine hJ wv w5 ?_;intro J2 hJ2;have fin:∀y:Int,y=z→J2 [.int .i64 y] w5:=by
   rintro y rfl;refine hJ2 y w5 ?_;intro w6 hw6;have b6:Below w5.heap.size w5 w6:=by subst hw6;exact ah _ _
   refine(kZ _ _ _ w6).mono ?_;rintro e w7 ⟨rfl,b7⟩;refine⟨_,_,_,_,rfl,?_⟩;intro w8 hw8;have b8:Below w7.heap.size w7 w8:=by subst hw8;exact ah _ _
   have x8:w8.heap[w7.heap.size]? =some (.cells #[bW.v] bS (0,0)):=by subst hw8;exact ao _ _
   refine bR (s:=bW) x8 fun w9 x9 N9 B9 _ _=>?_;have b9:=B9 _ _ (Nat.le_refl _) b8;have b59:=ae (ae (ae b05 b6) b7) b9;refine(pi n bW w9).mono ?_;rintro e w10 ⟨rfl,b10⟩;refine⟨_,_,_,_,rfl,?_⟩;intro w11 hw11;have b11:Below w10.heap.size w10 w11:=by subst hw11;exact ah _ _
   refine(ry _ _ _ w11).mono ?_;rintro e w12 ⟨rfl,b12⟩;have hb12:=ae (ae (ae b59 b10) b11) b12;refine⟨_,_,_,_,rfl,ac.yes rfl (ac.yes rfl (ac.yes (beq_self_eq_true _) (ac.yes rfl (ac.yes rfl (ac.yes rfl ((ql n w12).mono ?_))))))⟩;rintro e w13 ⟨rfl,b13⟩;refine⟨_,_,_,rfl,(eH w13 bW 0 (eY w13)).mono ?_⟩;rintro e w14 ⟨rfl,b14⟩;refine⟨_,rfl,ac.yes rfl ((lO state n w14).mono ?_)⟩;rintro e w15 ⟨rfl,b15⟩;refine⟨_,_,_,rfl,(eH w15 bW 0 (eY w15)).mono ?_⟩;rintro e w16 ⟨rfl,b16⟩;exact⟨_,rfl,rfl,ae (ae (ae (ae hb12 b13) b14) b15) b16⟩
  refine ac.mk (fun c=>fin 5 ?_) fun c=>fin wv ?_
  ·rw [hz,if_pos (of_decide_eq_true c)]
  ·rw [hz,if_neg (of_decide_eq_false c),hwv]
 refine ac.mk (fun c=>go 1 ?_) fun c=>go 0 ?_
 ·rw [if_pos (of_decide_eq_true c)]
 ·rw [if_neg (of_decide_eq_false c)]
theorem xK {H:Type} {enc:TypeId×Value→H} {C:Checked} {os:Os} {f:FuncId} {fn:Func} {s:ChangeSpec}
  (own:ownKnob C.prog.godebug=none) (started:os.Started) (noInit:C.prog.inits.idxOf? f=none) (hfn:C.prog.funcs[f]? =some fn)
  (witness:∃(w:World) (tape:Tape) (i:Input),w.os=os∧(w.forCall tape i).Shaped C.prog∧i.vars= []∧Input.okWide C.prog (w.forCall tape i) .any w.heap.size f i∧
   ((s.pre enc C.prog fn [] false (w.forCall tape i).memory i.args∧True)∧sizedMet enc C.prog fn (OpenSpec.ofChange s) false (w.forCall tape i).memory i.args)∧({}:Assume).holds C.prog (lone (Frame.enter C.prog f i.args .normal) [] (w.forCall tape i)))
  (contract:∀(W:World) (base:Nat) (args:Array Value) (ds gs:List (DataW H)) (before:List MemPlace),
   (∀(j:Nat) t v,fn.params[j]? =some t→args[j]? =some v→Value.okWide C.prog W .any base t v)→
   DataW.Whole enc C.prog fn.params.toList s.vars false W args.toList ds gs before→
   (DataW.weightsEach C.prog (fn.params.toList++s.plain.varTypes C.prog) (ds++gs)).all (·≤reachBytes)=true→
   W.ShapedOpen C.prog→
   Calls C.prog f args W fun e W'=>∃v,e= .returned v∧s.post enc C.prog fn false true false false W args v W'):
  ReturnsInHanded {} C os f .any (fun w args=>s.pre enc C.prog fn [] false w args∧sizedMet enc C.prog fn (OpenSpec.ofChange s) false w args) (s.post enc C.prog fn false true false false):=by
 have witness':∃(w:World) (tape:Tape) (i:Input),w.os=os∧(w.forCall tape i).Shaped C.prog∧i.vars= []∧Input.okWide C.prog (w.forCall tape i) .any w.heap.size f i∧
   (s.pre enc C.prog fn [] false (w.forCall tape i).memory i.args∧sizedMet enc C.prog fn (OpenSpec.ofChange s) false (w.forCall tape i).memory i.args)∧({}:Assume).holds C.prog (lone (Frame.enter C.prog f i.args .normal) [] (w.forCall tape i)):=by
  obtain⟨w,tape,i,h1,h2,h3,h4,⟨⟨h5,_⟩,h6⟩,h7⟩:=witness;exact⟨w,tape,i,h1,h2,h3,h4,⟨h5,h6⟩,h7⟩
 refine returnsInHanded_of_calls own started noInit witness' ?_;intro w tape i _ hshape _ hok hpre _;obtain⟨_,_,_,fn',hfn',_,_,_,_,hval⟩:=hok;obtain rfl:fn'=fn:=Option.some.inj (hfn'.symm.trans hfn);obtain⟨⟨ds,gs,before,hw,_⟩,hz⟩:=hpre;refine(contract (w.forCall tape i) w.heap.size i.args ds gs before hval (DataW.Whole.of_heap (w':=w.forCall tape i) (by rfl) hw) (hz.weights hw) hshape).mono ?_;rintro e W' ⟨v,rfl,hp⟩;exact ChangeSpec.post_blind hp
end Go.Proofs.YtdlcfegnaphclaaGreat.Eng
