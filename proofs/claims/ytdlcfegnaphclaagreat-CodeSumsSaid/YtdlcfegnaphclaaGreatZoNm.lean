/- A code: good tokens' number; walked by the engine. -/
import Derived.Test.YtdlcfegnaphclaaGreatZoAf
import Derived.Test.YtdlcfegnaphclaaGreatZoTz
import Derived.Test.YtdlcfegnaphclaaGreatZoVc
set_option linter.unusedVariables false
set_option linter.unusedSimpArgs false
set_option maxRecDepth 100000
namespace Go.Proofs.YtdlcfegnaphclaaGreat.Eng
open Go Go.RowKit
def xJ (s:ar) (T:List aP) (ids:List Int):List Nat:=ids.map fun t=>(oQ s T t).getD 0
theorem Ca {s:ar} {T:List aP} {ids:List Int} (hh:∀t∈ids,gp s T t=true) {i:Nat} (hi:i<ids.length):oQ s T ids[i]=some ((xJ s T ids)[i]'(by unfold xJ;rw [List.length_map];exact hi)):=by
 have h1:=hh _ (List.getElem_mem hi);rw [←B6]at h1;obtain⟨k,hk⟩:=Option.isSome_iff_exists.1 h1;unfold xJ;rw [List.getElem_map,hk];rfl
theorem ka (s:ar) (T:List aP) (ids:List Int):(xJ s T ids).length=ids.length:=List.length_map _
theorem DM {s:ar} {T:List aP} {M:Aut} {S:Nat→Nat→Prop} (hS:vq s T M S) (hn:M.n=gN s T) (hV:(aL s T).Ok) (hok:gf T) {ids:List Int} {ks:List Nat} (hl:ks.length=ids.length) (hk:∀(i:Nat) (h:i<ids.length),oQ s T ids[i]=some (ks[i]'(by omega))):
  ∀i,i≤ids.length→(Aut.Way M 0 (ks.take i)↔∀(j:Nat) (h:j<ids.length),j<i→(aL s T).Has ids[j]∧(aL s T).Canon (ids.take (j+1)))∧(Aut.Way M 0 (ks.take i)→∃x,S x ((ks.take i).foldl M.nxt 0)∧ku s T ids i x):=by
 intro i;induction i with
 |zero=>exact fun _=>⟨⟨fun _ j _ hj=>absurd hj (Nat.not_lt_zero j),fun _=>trivial⟩,fun _=>⟨0,hS.zero,fun j _ hj=>absurd hj (Nat.not_lt_zero j),.inl ⟨rfl,rfl⟩⟩⟩
 |succ i ih=>
  intro hle;have hi:i<ids.length:=by omega
  obtain⟨ih1,ih2⟩:=ih (by omega);have htk:ks.take (i+1)=ks.take i++ [ks[i]]:=by rw [List.take_add_one,List.getElem?_eq_getElem (by omega)];rfl
  have hki:=hk i hi;have hkn:=(dF hki).1;have step:Aut.Way M 0 (ks.take i)→∃x,S x ((ks.take i).foldl M.nxt 0)∧ku s T ids i x∧(M.good (M.nxt ((ks.take i).foldl M.nxt 0) ks[i])=true↔(aL s T).Canon (ids.take (i+1)))∧(aL s T).Has ids[i]∧((aL s T).Canon (ids.take (i+1))→S (ks[i]+1) (M.nxt ((ks.take i).foldl M.nxt 0) ks[i])):=by
   intro hw;obtain⟨x,hx,hG⟩:=ih2 hw;obtain⟨h1,h2⟩:=pc hV hok hG hi hki;have h3:=hS.next x _ ks[i] hx hkn;have h4:=hS.good _ _ h3;refine⟨x,hx,hG,?_,h2,fun hc=>?_⟩
   ·rw [h4,decide_eq_true_eq, ←h1];by_cases hm:dC (gN s T) (lr s T) (dZ s T) x ks[i]=true
    ·rw [if_pos hm];exact iff_of_true hkn hm
    ·rw [if_neg hm];exact iff_of_false (by omega) hm
   ·rw [if_pos (h1.2 hc)]at h3;exact h3
  constructor
  ·rw [htk,Aut.way_append];constructor
   ·rintro⟨hw,_,hg⟩ j hj hji;obtain⟨x,_,_,h1,h2,_⟩:=step hw;by_cases e:j=i
    ·subst e;exact⟨h2,h1.1 hg⟩
    ·exact ih1.1 hw j hj (by omega)
   ·intro hall;have hw:=ih1.2 fun j hj hji=>hall j hj (by omega);obtain⟨x,_,_,h1,h2,_⟩:=step hw;exact⟨hw,by rw [hn];exact hkn,h1.2 (hall i hi (by omega)).2⟩
  ·rw [htk,Aut.way_append,List.foldl_append];rintro⟨hw,_,hg⟩;obtain⟨x,_,hG,h1,h2,h3⟩:=step hw;have hc:=h1.1 hg;exact⟨_,h3 hc,ox hG hi hki h2 hc⟩
theorem BU {s:ar} {T:List aP} {M:Aut} {S:Nat→Nat→Prop} (hS:vq s T M S) (hn:M.n=gN s T) (hV:(aL s T).Ok) (hok:gf T) {ids:List Int} (hh:∀t∈ids,gp s T t=true):Aut.Way M 0 (xJ s T ids)↔rn (aL s T) ids none:=by
 have h:=(DM hS hn hV hok (ka s T ids) (fun i hi=>Ca hh hi) ids.length (Nat.le_refl _)).1;rw [List.take_of_length_le (by rw [ka];exact Nat.le_refl _)]at h;rw [h];exact⟨fun h j hj=>h j hj hj,fun h j hj _=>h j hj⟩
theorem Kk {M:Aut} (hn:M.n≤1032) (m s k:Nat):Aut.via M m s k≤1032^m:=by
 unfold Aut.via;split
 ·exact Nat.le_trans (Aut.goN_le _ _) (Nat.pow_le_pow_left hn m)
 ·exact Nat.zero_le _
theorem Fm {M:Aut} (hn:M.n≤1032) (m s:Nat) {k:Nat} (hk:k≤1032):Aut.sumN (Aut.via M m s) k≤1032^(m+1):=by
 have:=Aut.sumN_le (Kk hn m s) k;rw [Nat.pow_succ,Nat.mul_comm];exact Nat.le_trans this (Nat.mul_le_mul_right _ hk)
theorem FI {M:Aut} (hn:M.n≤1032):∀ {u:List Nat} {L s:Nat},(∀k∈u,k≤1032)→Aut.pre M L s u≤u.length*1032^(L+1)
 | [],L,s,_=>Nat.zero_le _
 |k::u,L,s,h=>by
  have h1:=Fm hn (L-1) s (h k (by simp));have h2:=FI hn (u:=u) (L:=L-1) (s:=M.nxt s k) fun j hj=>h j (by simp [hj]);have h3:(1032:Nat)^(L-1+1)≤1032^(L+1):=Nat.pow_le_pow_right (by decide) (by omega);have h4:u.length*1032^(L-1+1)≤u.length*1032^(L+1):=Nat.mul_le_mul_left _ h3;show Aut.sumN (Aut.via M (L-1) s) k+Aut.pre M (L-1) (M.nxt s k) u≤(u.length+1)*1032^(L+1);rw [Nat.succ_mul];omega
theorem pu {x L:Nat} (h:x≤(L+1)*1032^(L+1)) (hL:L≤20000):(eG 4294967296 x).length≤L+2:=by
 refine pJ dQ (Nat.lt_of_le_of_lt h ?_);have h1:(1032:Nat)^(L+1)≤4294967296^(L+1):=Nat.pow_le_pow_left (by decide) _;have h2:(L+1)*1032^(L+1)≤20001*4294967296^(L+1):=Nat.mul_le_mul (by omega) h1;have h3:20001*4294967296^(L+1) <4294967296*4294967296^(L+1):=Nat.mul_lt_mul_of_pos_right (by decide) (Nat.pow_pos (by decide));rw [show L+2=(L+1)+1 from rfl,Nat.pow_succ 4294967296 (L+1),Nat.mul_comm (4294967296^(L+1))];omega
structure fD (w q:World) (hi c a g L:Nat) (M:Aut) (s:ar) (T:List aP) (Rb Ab Sb Wb tot st:Nat) (want:Int):Prop where
 code:dj w q hi c a g L M s T
 hhi:hi≤q.heap.size
 all:∃l:Sl,q.heap[Ab]? =some (.cells #[l.v] cn (0,0))∧bc q l tot
 state:q.heap[Sb]? =some (.cells #[.int .i64 (st:Int)] bf (0,0))
 want:q.heap[Wb]? =some (.cells #[.int .i64 want] bf (0,0))
 res:q.heap[Rb]? =some (.cells #[bZ.v] cn (0,0))
section
variable {w q q':World} {hi c a g L:Nat} {M:Aut} {s:ar} {T:List aP} {Rb Ab Sb Wb tot st:Nat} {want:Int}
theorem fD.from (h:fD w q hi c a g L M s T Rb Ab Sb Wb tot st want) (f:mQ q q' c a g L M) (t:au c q q') (n1:Ab≠c) (n2:Sb≠c) (n3:Wb≠c) (n4:Rb≠c):fD w q' hi c a g L M s T Rb Ab Sb Wb tot st want:=by
 obtain⟨l,h1,h2⟩:=h.all;obtain⟨d,lc,hx,_⟩:=h.code.cnt;exact⟨f.code h.code h.hhi t,Nat.le_trans h.hhi t.size,⟨l,t.held n1 h1,h2.past hx (by decide) t⟩,t.held n2 h.state,t.held n3 h.want,t.held n4 h.res⟩
theorem fD.on (h:fD w q hi c a g L M s T Rb Ab Sb Wb tot st want) (hb:Below q.heap.size q q'):fD w q' hi c a g L M s T Rb Ab Sb Wb tot st want:=by
 obtain⟨l,h1,h2⟩:=h.all;exact⟨h.code.then hb,Nat.le_trans h.hhi hb.size,⟨l,ah hb h1,h2.on hb⟩,ah hb h.state,ah hb h.want,ah hb h.res⟩
theorem qp {q:World} {b:Nat} {v0:Value} {n:Int} {K:World→Prop} (h:q.heap[b]? =some (.cells #[v0] bf (0,0))) (hk:∀q',q'.heap[b]? =some (.cells #[.int .i64 n] bf (0,0))→au b q q'→(∀B w0,B≤b→Below B w0 q→Below B w0 q')→K q'):
  (Value.int .i64 n).oneCell'=true∧(∃u,q.cell? ⟨b,0,none⟩=some u)∧q.frozen? ⟨b,0,none⟩=false∧∀q',q'=q.setCell ⟨b,0,none⟩ (.int .i64 n)→K q':=
 eX (aV h [.int .i64 n] rfl (fun v hv=>by rw [List.mem_singleton.1 hv];rfl) fun q' h1 h2 h3 h4=>hk q' h1 (cN h4 h2 h3) h4)
set_option maxHeartbeats 1000000 in
theorem vG (h:fD w q hi c a g L M s T Rb Ab Sb Wb tot st want) (a1:w.heap.size≤Ab) (a2:Ab<hi) (s1:w.heap.size≤Sb) (s2:Sb<hi) (n1:Ab≠Sb) (n2:hi≤Wb) (r1:Rb≠Ab) (r2:Rb≠Sb) (id:Int) (nx:Nat) (r:Sl) (v:Nat) (hr:bc q r v) (d1:(eG 4294967296 tot).length≤100000) (d2:(eG 4294967296 v).length≤100000):
  bF fY (.func (.func 99) #[] #[.pointer (some ⟨Wb,0,none⟩),.pointer (some ⟨Sb,0,none⟩),.pointer (some ⟨Ab,0,none⟩)]) [.int .i64 id,.int .i64 (nx:Int),.agg #[r.v]] q fun e q2=>∃b:Bool,e= .returned (.bool b)∧(b=true→id=want∧fD w q2 hi c a g L M s T Rb Ab Sb Wb tot nx want)∧(b=false→id≠want∧fD w q2 hi c a g L M s T Rb Ab Sb Wb (tot+v) st want):=by
 refine bT (by kernel_rfl) ?_;refine aN (AY id (nx:Int) r.a r.n r.c (some ⟨Wb,0,none⟩) (some ⟨Sb,0,none⟩) (some ⟨Ab,0,none⟩) q) ?_;intro w1 hw1;have b1:Below q.heap.size q w1:=by subst hw1;exact af _ _
 have x1:w1.heap[q.heap.size]? =some (.cells #[r.v] cn (0,0)):=by subst hw1;exact ak _ _
 have h1:=h.on b1;obtain⟨l,hl,hN⟩:=h1.all;refine ag.mk _ rfl ⟨_,aK h1.want,ac.mk (fun he=>?_) fun he=>?_⟩
 ·have he:id=want:=by simpa using he
  refine ag.mk _ rfl (qp (n:=(nx:Int)) h1.state fun q' hx t B'=>⟨true,rfl,fun _=>⟨he,h1.code.box h1.state s1 s2 (by decide) t,Nat.le_trans h1.hhi t.size,⟨l,t.held n1 hl,hN.past h1.state (by decide) t⟩,hx,t.held (by omega) h1.want,t.held r2 h1.res⟩,fun h=>(by cases h)⟩)
 ·have he:¬id=want:=by simpa using he
  refine ag.mk _ rfl ⟨_,_,_,aU hl,_,_,_,aU x1,?_⟩;intro w3 hw3;have b3:Below w1.heap.size w1 w3:=by subst hw3;exact af _ _
  have x3:w3.heap[w1.heap.size]? =some (.cells #[r.v] cn (0,0)):=by subst hw3;exact ak _ _
  refine(jH w3 l r tot v (hN.on b3) ((hr.on b1).on b3) d1 d2 (nb w1) 1 (aK x3) (Array.getElem?_eq_some_iff.1 x3).1).mono ?_;rintro e w4 ⟨y,rfl,hy,b4⟩;have h4:=(h1.on b3).on b4;obtain⟨l',hl',hN'⟩:=h4.all;refine⟨y.a,y.n,y.c,rfl,ag.mk _ rfl (cE (s:=y) hl' fun q' hx hN9 hB9 hs9 hz9=>⟨false,rfl,fun h=>(by cases h),fun _=>⟨he,?_⟩⟩)⟩;have t:=cN hB9 hs9 hz9;exact⟨h4.code.box hl' a1 a2 (by decide) t,Nat.le_trans h4.hhi t.size,⟨y,hx,hN9 _ _ hy⟩,t.held (Ne.symm n1) h4.state,t.held (by omega) h4.want,t.held r1 h4.res⟩
end
def Ka (w':World) (M:Aut) (s:ar) (T:List aP) (L:Nat) (ids:List Int) (r:Sl) (k:Int):Prop:=
 (ids.length>L→k=3∧bc w' r 0)∧(ids.length≤L→((¬(∀t∈ids,(aL s T).Has t)→k=4∧bc w' r 0)∧((∀t∈ids,(aL s T).Has t)→(¬rn (aL s T) ids none→k=8∧bc w' r 0)∧(rn (aL s T) ids none→k=0∧bc w' r (Aut.rk M 0 (xJ s T ids))))))
set_option maxHeartbeats 4000000 in
theorem sd (w:World) (c a g L:Nat) (M:Aut) (s:ar) (T:List aP) (S:Nat→Nat→Prop) (h:dj w w 0 c a g L M s T) (hF:gq M s T) (hL:L≤20000) (hS:vq s T M S) (hok:gf T) (hV:(aL s T).Ok) (A:Option Addr) (C:Nat) (ids:List Int) (row:∀ {q:World},au c w q→Rw aQ 1 q A ids) (hl:ids.length≤10000):
  CP 51 #[.pointer (some ⟨c,0,none⟩),.slice A ids.length C] w fun e w'=>∃(r:Sl) (k:Int),e= .returned (.tuple #[.agg #[r.v],.int .i64 k])∧Ka w' M s T L ids r k∧dj w' w' 0 c a g L M s T∧au c w w':=by
 refine aN (zP (some ⟨c,0,none⟩) A ids.length C w) ?_;have hMn:=hF.n;have hfew:=hF.few;intro w1 hw1;have b1:Below w.heap.size w w1:=by subst hw1;exact af _ _
 have z1:w1.heap.size=w.heap.size+1:=by subst hw1;exact av _ _
 have x1:w1.heap[w.heap.size]? =some (.cells #[bZ.v] cn (0,0)):=by subst hw1;exact ak _ _
 have h1:=h.then b1;have hclt:=h.lt;obtain⟨d,l,hx,_⟩:=h1.cnt;have none_:∀ {K:World→Prop},(∀(q':World),q'.heap[w.heap.size]? =some (.cells #[bZ.v] cn (0,0))→bc q' bZ 0→dj q' q' 0 c a g L M s T→au c w q'→K q')→bZ.v.oneCell'=true∧(∃u,w1.cell? ⟨w.heap.size,0,none⟩=some u)∧w1.frozen? ⟨w.heap.size,0,none⟩=false∧∀q',q'=w1.setCell ⟨w.heap.size,0,none⟩ bZ.v→K q':=by
  intro K hk;refine cE (s:=bZ) x1 fun q' hx' hN' hB' _ _=>?_;have hb:=hB' _ _ (Nat.le_refl _) b1;exact hk q' hx' (gJ _) ((h.then hb).now 0) (au.of_below hb)
 refine ac.no rfl (ag.mk _ rfl ⟨_,aj _ _ hx 2,ac.mk (fun c1=>?_) fun c1=>ag.mk _ rfl ⟨_,aj _ _ hx 0,?_⟩⟩)
 ·have c1:=of_decide_eq_true c1;refine none_ fun q' hx' hN hC ht=>⟨_,_,_,aU hx',bZ,3,rfl,⟨fun _=>⟨rfl,hN⟩,fun h=>by omega⟩,hC,ht⟩
 have c1:=of_decide_eq_false c1;refine(A9 w1 a g M h1.on.aut s T h1.on.grid hMn S hS hok hV A C ids (row (au.of_below b1)) hl).mono ?_;rintro e w4 ⟨r0,okb,rfl,hok1,hok2,hw4⟩;subst w4;refine⟨_,_,rfl,ac.mk (fun c2=>?_) fun c2=>?_⟩
 ·have c2:okb=false:=by simpa using c2
  refine none_ fun q' hx' hN hC ht=>⟨_,_,_,aU hx',bZ,4,rfl,⟨fun h=>by omega,fun _=>⟨fun _=>⟨rfl,hN⟩,fun hh=>?_⟩⟩,hC,ht⟩;have:=hok1.2 hh;rw [c2]at this;cases this
 have c2:okb=true:=by simpa using c2
 have hhas:=hok1.1 c2;obtain⟨p,rfl,hp,hgp⟩:=hok2 c2;refine ag.mk _ rfl ⟨_,aj _ _ hx 0,(gW w1 a g M h1.on.aut _).mono ?_⟩;rintro e w6 ⟨rfl,hw6⟩;subst w6;rw [mJ hp];refine⟨_,rfl,ac.mk (fun c3=>?_) fun c3=>?_⟩
 ·have c3:M.good p=false:=by simpa using c3
  refine none_ fun q' hx' hN hC ht=>⟨_,_,_,aU hx',bZ,8,rfl,⟨fun h=>by omega,fun _=>⟨fun hh=>absurd hhas hh,fun _=>⟨fun _=>⟨rfl,hN⟩,fun hf=>?_⟩⟩⟩,hC,ht⟩;rw [hgp.2 hf]at c3;cases c3
 have c3:M.good p=true:=by simpa using c3
 have hfirst:=hgp.1 c3;have hh2:∀t∈ids,gp s T t=true:=fun t ht=>(jJ hok t).2 (hhas t ht);obtain⟨ks,hks⟩:∃ks,ks=xJ s T ids:=⟨_,rfl⟩;have hway:Aut.Way M 0 ks:=by rw [hks];exact(BU hS hMn hV hok hh2).2 hfirst
 have hkl:ks.length=ids.length:=by rw [hks];exact ka s T ids
 have hkat:∀(i:Nat) (h:i<ids.length),oQ s T ids[i]=some (ks[i]'(by omega)):=fun i hi=>by
  subst hks;exact Ca hh2 hi
 have hkb:∀k∈ks,k<gN s T:=fun k hk=>by
  obtain⟨i,hi,rfl⟩:=List.getElem_of_mem hk;exact(dF (hkat i (by omega))).1
 intro w8 hw8 w9 hw9;have b8:Below w1.heap.size w1 w8:=by subst hw8;exact af _ _
 have b9:Below w8.heap.size w8 w9:=by subst hw9;exact af _ _
 have z8:w8.heap.size=w1.heap.size+1:=by subst hw8;exact av _ _
 have z9:w9.heap.size=w8.heap.size+1:=by subst hw9;exact av _ _
 have x8:w9.heap[w1.heap.size]? =some (.cells #[bZ.v] cn (0,0)):=ah b9 (by subst hw8;exact ak _ _);have x9:w9.heap[w8.heap.size]? =some (.cells #[.int .i64 0] bf (0,0)):=by subst hw9;exact ak _ _
 have b89:=ae b8 b9;have b09:=ae b1 b89;refine qp (n:=0) x9 fun w10 x10 t10 B10=>?_;have b10:Below w.heap.size w w10:=B10 _ _ (by omega) b09;have x8':=t10.held (by omega) x8;have xr:=t10.held (by omega) (ah b89 x1);have z10:=t10.size;have hi10:w9.heap.size≤w10.heap.size:=z10;have hst0:∀i,i≤ids.length→(ks.take i).foldl M.nxt 0<M.N:=by
  intro i;induction i with
  |zero=>intro _;exact hF.ok.pos
  |succ i ih=>
   intro hi;rw [List.take_add_one,List.getElem?_eq_getElem (by omega),List.foldl_append];exact hF.ok.lt _ _ (ih (by omega)) (by rw [hMn];exact hkb _ (List.getElem_mem _))
 have wayAt:∀(i:Nat) (hi:i<ids.length),M.good (M.nxt ((ks.take i).foldl M.nxt 0) (ks[i]'(by omega)))=true:=by
  intro i hi;have e:ks=(ks.take i++ [ks[i]'(by omega)])++ks.drop (i+1):=by
   rw [List.append_assoc,List.singleton_append, ←List.drop_eq_getElem_cons,List.take_append_drop]
  have:∀(u v:List Nat) (x:Nat),Aut.Way M x (u++v)→Aut.Way M x u:=by
   intro u;induction u with
   |nil=>exact fun v x _=>trivial
   |cons k u ih=>exact fun v x hw=>⟨hw.1,hw.2.1,ih v _ hw.2.2⟩
  have h2:=this _ _ 0 (by rw [←e];exact hway);exact(Aut.way_append.1 h2).2.2
 intro I hI;have key:=a_ (α:=World) ids.length (fun i q=>dj w q w10.heap.size c a g L M s T∧w10.heap.size≤q.heap.size∧(∃l:Sl,q.heap[w1.heap.size]? =some (.cells #[l.v] cn (0,0))∧bc q l (Aut.pre M ids.length 0 (ks.take i)))∧q.heap[w8.heap.size]? =some (.cells #[.int .i64 (((ks.take i).foldl M.nxt 0:Nat):Int)] bf (0,0))∧q.heap[w.heap.size]? =some (.cells #[bZ.v] cn (0,0))) (fun i q=>I [.int .i64 (i:Int)] q) w10 ⟨(h.now _).then b10,Nat.le_refl _,⟨bZ,x8',gJ _⟩,x10,xr⟩ ?_ ?_
 ·exact key
 ·rintro i hi ih q ⟨hC,hq,⟨l,hlx,hN⟩,hsx,hrx⟩;have hlt:=hC.t;obtain⟨pw,hpw,c0⟩:=bj (row hC.t) hi rfl;refine hI _ q (ac.yes (decide_eq_true (by omega)) (ag.mk pw hpw ⟨by omega,by omega,_,c0,?_⟩));intro w12 hw12;have b12:Below q.heap.size q w12:=by subst hw12;exact af _ _
  have x12:w12.heap[q.heap.size]? =some (.cells #[.int .i64 0] bf (0,0)):=by subst hw12;exact ak _ _
  refine qp (n:=ids[i]) x12 fun w13 x13 t13 B13=>?_;have b13:Below q.heap.size q w13:=B13 _ _ (Nat.le_refl _) b12;have hki:ks[i]'(by omega) <gN s T:=hkb _ (List.getElem_mem _);have hsi:=hst0 i (by omega);obtain⟨st,hst⟩:∃st,st=(ks.take i).foldl M.nxt 0:=⟨_,rfl⟩;obtain⟨tot,htot⟩:∃tot,tot=Aut.pre M ids.length 0 (ks.take i):=⟨_,rfl⟩;obtain⟨left,hleft⟩:∃left,left=ids.length-1-i:=⟨_,rfl⟩;have hg:=wayAt i hi;rw [←hst]at hsx hsi hg;rw [←htot]at hN;have ht1:tot≤i*1032^(ids.length+1):=by
   rw [htot];have:=FI (M:=M) (by omega) (u:=ks.take i) (L:=ids.length) (s:=0) fun k hk=>by have:=hkb k (List.mem_of_mem_take hk);omega
   rwa [List.length_take,Nat.min_eq_left (by omega)]at this
  have ht2:∀k,k≤gN s T→tot+Aut.sumN (Aut.via M left st) k≤(ids.length+1)*1032^(ids.length+1):=by
   intro k hk;have h1:=Fm (M:=M) (by omega) left st (k:=k) (by omega);have h2:(1032:Nat)^(left+1)≤1032^(ids.length+1):=Nat.pow_le_pow_right (by decide) (by omega);have h3:i*1032^(ids.length+1)≤ids.length*1032^(ids.length+1):=Nat.mul_le_mul_right _ (by omega);rw [Nat.succ_mul];omega
  have R13:fD w w13 w10.heap.size c a g L M s T w.heap.size w1.heap.size w8.heap.size q.heap.size tot st ids[i]:=⟨hC.then b13,Nat.le_trans hq b13.size,⟨l,ah b13 hlx,hN.on b13⟩,ah b13 hsx,x13,ah b13 hrx⟩;obtain⟨ki,hkid⟩:∃ki,ki=ks[i]'(by omega):=⟨_,rfl⟩;rw [←hkid]at hki hg;have hplc:oQ s T ids[i]=some ki:=by rw [hkid];exact hkat i hi
  refine⟨_,aK R13.state,Ar.ok64 (by omega) (by omega) (Ar.nat left (by omega) (by omega) ?_)⟩;refine(nG w w10.heap.size c a g L M s T hF hL st left hsi (by omega) _ w13 (fun k q'=>k≤ki∧fD w q' w10.heap.size c a g L M s T w.heap.size w1.heap.size w8.heap.size q.heap.size (tot+Aut.sumN (Aut.via M left st) k) st ids[i]) (fun q'=>fD w q' w10.heap.size c a g L M s T w.heap.size w1.heap.size w8.heap.size q.heap.size (tot+Aut.sumN (Aut.via M left st) ki) (M.nxt st ki) ids[i]) ⟨Nat.zero_le _,R13⟩ (fun k q' h=>h.2.code) ?_ ?_).mono ?_
  ·rintro k q' hk ⟨h1,h3⟩ hb;refine⟨?_,?_⟩
   ·have:k≠ki:=fun e=>by
     rw [e,hg]at hb;cases hb
    omega
   ·have:Aut.via M left st k=0:=by unfold Aut.via;rw [hb];rfl
    show fD w q' _ c a g L M s T _ _ _ _ (tot+(Aut.sumN (Aut.via M left st) k+Aut.via M left st k)) st ids[i];rw [this];exact h3
  ·rintro k q1 hk ⟨h1,h3⟩ hgk r q2 hf ht hNr;have h4:=h3.from hf ht (by omega) (by omega) (by omega) (by omega);have d1:=pu (ht2 k (by omega)) (by omega);have hv:Aut.via M left st k≤(ids.length+1)*1032^(ids.length+1):=by
    have:=ht2 (k+1) (by omega);have e:Aut.sumN (Aut.via M left st) (k+1)=Aut.sumN (Aut.via M left st) k+Aut.via M left st k:=rfl;omega
   have d2:=pu hv (by omega);refine bF.mono (vG h4 (by omega) (by omega) (by omega) (by omega) (by omega) (by omega) (by omega) (by omega) ((bx s T).getD k 0) (M.nxt st k) r _ hNr (by omega) (by omega)) ?_;rintro e q3 ⟨b,rfl,hb1,hb0⟩;have hpk:=tZ hF.rise hk;refine⟨b,rfl,fun hb=>?_,fun hb=>?_⟩
   ·obtain⟨he,hR⟩:=hb1 hb;rw [he,hplc]at hpk;cases hpk;exact hR
   ·obtain⟨he,hR⟩:=hb0 hb;refine⟨?_,?_⟩
    ·have:k≠ki:=fun e=>he (by rw [e];exact(dF hplc).2.1);omega
    ·rw [Nat.add_assoc]at hR;exact hR
  ·rintro e w14 ⟨b,rfl,hQ,hP⟩;cases b with
   |false=>
    have:=(hP rfl).1;omega
   |true=>
    have hR:=hQ rfl;have htk:ks.take (i+1)=ks.take i++ [ki]:=by rw [List.take_add_one,List.getElem?_eq_getElem (by omega),hkid];rfl
    refine⟨_,rfl,Ar.nat (i+1) rfl (by omega) (ih w14 ⟨hR.code,hR.hhi,?_,?_,hR.res⟩)⟩
    ·rw [htk,Aut.pre_snoc, ←htot, ←hst,List.length_take,Nat.min_eq_left (by omega), ←hleft];exact hR.all
    ·rw [htk,List.foldl_append, ←hst];exact hR.state
 ·rintro q ⟨hC,hq,⟨l,hlx,hN⟩,hsx,hrx⟩;refine hI _ q (ac.no (decide_eq_false (by omega)) ⟨_,_,_,aU hlx,cE (s:=l) hrx fun w15 hx15 hN15 hB15 hs15 hz15=>⟨_,_,_,aU hx15,l,0,rfl,⟨fun h=>by omega,fun _=>⟨fun hh=>absurd hhas hh,fun _=>⟨fun hh=>absurd hfirst hh,fun _=>⟨rfl,?_⟩⟩⟩⟩,?_,?_⟩⟩)
  ·have h2:=hN15 _ _ hN;rw [List.take_of_length_le (by omega), ←hkl,Aut.pre_rk,hks]at h2;exact h2
  ·exact(hC.box hrx (Nat.le_refl _) (by omega) (by decide) (cN hB15 hs15 hz15)).now 0
  ·have t:=cN hB15 hs15 hz15;have t0:=hC.t;exact⟨t.os.trans t0.os,t.tape.trans t0.tape,t.output.trans t0.output,Nat.le_trans t0.size t.size,fun j hj hne=>(t.block j (Nat.lt_of_lt_of_le hj t0.size) (by omega)).trans (t0.block j hj hne)⟩
def sZ:ar:={}
theorem Gy:sZ.right=true:=by decide+kernel
theorem G3:dk sZ= .ok aG:=by
 have h:(match dk sZ with | .ok t=>decide (t=aG) | .error _=>false)=true:=by decide+kernel
 cases hx:dk sZ with
 |error q=>rw [hx]at h;cases h
 |ok t=>rw [hx]at h;rw [of_decide_eq_true h]
theorem Gi:(bx sZ aG).length=256:=by decide+kernel
theorem Gc (w:World):dp w ⟨false,bZ,bZ,bZ,bZ,bZ⟩ sZ:=by
 have none_:∀ {α:Type} {enc:α→List Value} {sz:Nat},Rw enc sz w none []:=fun j x hj=>by simp at hj
 exact⟨rfl,rfl,none_,rfl,none_,rfl,none_,rfl,none_,rfl,none_⟩
theorem xI {s:ar} {T:List aP} (hn:gN s T≤1032) {f:Nat→Nat} (hc:Aut.Cls (cZ s T) f):Aut.Stays (Aut.least (cZ s T) f):=by
 intro p hp hb k hk;have hM:=iW (s:=s) (T:=T) hn;have hS:Aut.Sim (cZ s T) f ((Aut.metL (cZ s T) f).getD p 0) p:=⟨Aut.getD_lt hM f hp,hp,rfl⟩;have hk':k< (cZ s T).n:=hk;rw [(hS.next hM hc hk').good hM hc];rw [hS.good hM hc]at hb;have hb':¬(Aut.metL (cZ s T) f).getD p 0≤gN s T:=of_decide_eq_false hb;have:(cZ s T).good ((cZ s T).nxt ((Aut.metL (cZ s T) f).getD p 0) k)=dC (gN s T) (lr s T) (dZ s T) ((Aut.metL (cZ s T) f).getD p 0) k:=gP _ hk';rw [this];unfold dC;rw [if_neg (by omega),if_neg hb']
theorem te {s:ar} {T:List aP} (hn:gN s T≤1032) {f:Nat→Nat} (hc:Aut.Cls (cZ s T) f):(Aut.least (cZ s T) f).N≤gN s T+2:=
 Aut.met_few (iW hn) hc.lt (cZ s T).N
theorem nM {s:ar} {T:List aP} (hn:gN s T≤1032) (hr:qo s T) {f:Nat→Nat} (hc:Aut.Cls (cZ s T) f):gq (Aut.least (cZ s T) f) s T where
 n:=rfl
 few:=hn
 rise:=hr
 ok:=Aut.least_ok (iW hn) hc.lt
 N:=by have:=te hn hc;omega
 stays:=xI hn hc
theorem mL:gN sZ aG=256:=Gi
theorem vr:(∀i:Nat,i<256→(bx sZ aG).getD i 0=(i:Int))∧qo sZ aG:=by decide+kernel
theorem NJ:(aL sZ aG).ms= []:=by decide+kernel
theorem JT:∀i:Nat,i<256→(aL sZ aG).ex (i:Int)= [(i:Int)]:=by decide+kernel
theorem Kt (x y:Int) (hx:0≤x) (hy:0≤y):(aL sZ aG).cut x y=false:=by
 unfold Voc.cut;rw [decide_eq_false (by omega),decide_eq_false (by omega),Bool.false_or,Bool.false_or];show cutB [] [] x y=false;unfold cutB;exact decide_eq_false fun e=>e.1 rfl
theorem Ej:∀Z:List Int,Z≠ []→(∀x∈Z,0≤x)→chop (aL sZ aG).cut Z= [Z]
 | [],h,_=>absurd rfl h
 | [x],_,_=>rfl
 |x::y::r,_,h=>by
  have hx:=h x (by simp);have hy:=h y (by simp);rw [chop,if_neg (by rw [Kt x y hx hy];exact Bool.false_ne_true),Ej (y::r) (by simp) fun z hz=>h z (List.mem_cons_of_mem _ hz)]
theorem IE (Z:List Int) (h:Z≠ []) (h0:∀x∈Z,0≤x):(aL sZ aG).encode Z=Z:=by
 unfold Voc.encode;rw [Ej Z h h0,List.flatMap_cons,List.flatMap_nil,List.append_nil];cases Z with
 |nil=>exact absurd rfl h
 |cons x r=>
  have:=h0 x List.mem_cons_self;show(if x<0 then _ else after (aL sZ aG).ms (aL sZ aG).ms.length (x::r))=_;rw [if_neg (by omega),NJ];rfl
theorem B1 (t:Int):(aL sZ aG).items t=(aL sZ aG).ex t:=rfl
theorem LZ {i:Nat} (hi:i<256):lr sZ aG i=true:=by
 unfold lr;rw [vr.1 i hi];refine decide_eq_true ?_;show(aL sZ aG).encode ((aL sZ aG).itemsAll [(i:Int)])= [(i:Int)];unfold Voc.itemsAll;simp only [List.flatMap_cons,List.flatMap_nil,List.append_nil,B1];rw [JT i hi,IE _ (by simp) (by intro x hx;simp at hx;omega)]
theorem Mk {i j:Nat} (hi:i<256) (hj:j<256):dZ sZ aG i j=true:=by
 unfold dZ;rw [vr.1 i hi,vr.1 j hj];refine decide_eq_true ?_;show(aL sZ aG).encode ((aL sZ aG).itemsAll [(i:Int),(j:Int)])= [(i:Int),(j:Int)];unfold Voc.itemsAll;simp only [List.flatMap_cons,List.flatMap_nil,List.append_nil,B1];rw [JT i hi,JT j hj,IE _ (by simp) (by intro x hx;simp at hx;omega)];rfl
theorem BX {i k:Nat} (hi:i≤256) (hk:k<256):dC 256 (lr sZ aG) (dZ sZ aG) i k=true:=by
 unfold dC;by_cases e:i=0
 ·rw [if_pos e,LZ hk]
 ·rw [if_neg e,if_pos hi,Mk (by omega) hk]
theorem JQ {al:Nat→Bool} {rel:Nat→Nat→Bool} (ha:∀i,i<256→al i=true) (hm:∀i k,i≤256→k<256→dC 256 al rel i k=true) {M:Aut} (hM:M=ez 256 al rel) {f:Nat→Nat} (hc:Aut.Cls M f):(Aut.least M f).N=1:=by
 subst hM;have hact:∀i,i<257→r_ al i=true:=by
  intro i hi;unfold r_;by_cases e:i=0
  ·subst e;rfl
  ·rw [ha _ (by omega)];simp
 have hrow:∀i,i<257→mC 256 al rel i=mC 256 al rel 0:=fun i hi=>rI.2 fun k hk=>by rw [hm _ _ (by omega) hk,hm _ _ (by omega) hk]
 have hone:(kY 256 al rel (256+1)).length=1:=by
  apply Nat.le_antisymm
  ·refine gX (m:=[mC 256 al rel 0]) (hU _) fun r hr=>?_;obtain⟨i,hi,_,rfl⟩:=(gI _ _).1 hr;rw [hrow i hi];exact List.mem_cons_self
  ·refine gX (l:=[mC 256 al rel 0]) (by simp) fun r hr=>?_;rw [List.mem_singleton.1 hr];exact(gI _ _).2 ⟨0,by decide,hact 0 (by decide),rfl⟩
 have hbad:¬DJ 256 al rel (256+1)=true:=by
  intro h;obtain⟨i,k,hi,_,hk,hh⟩:=rL.1 h;rw [hm i k (by omega) hk]at hh;cases hh
 rw [Hz,A6 (n:=256) (by decide) (fun i k hi hk _=>ha k hk) hc,hone,if_neg hbad]
theorem Ht {f:Nat→Nat} (hc:Aut.Cls (cZ sZ aG) f):(Aut.least (cZ sZ aG) f).N=1:=
 JQ (fun i hi=>LZ hi) (fun i k hi hk=>BX hi hk) (by unfold cZ;rw [mL]) hc
theorem E_ (c:Nat):∀n:Nat,Aut.sumN (fun _=>c) n=n*c
 |0=>(Nat.zero_mul c).symm
 |n+1=>by rw [Nat.succ_mul, ←E_ c n];rfl
section
variable {M:Aut} {S:Nat→Nat→Prop}
theorem B_ (hS:vq sZ aG M S) (hn:M.n=256):∀(m x p k:Nat),S x p→x≤256→k<256→Aut.via M m p k=256^m
 |m,x,p,k,h,hx,hk=>by
  have hnx:=hS.next x p k h (by rw [mL];exact hk);rw [mL,if_pos (BX hx hk)]at hnx;have hg:=hS.good _ _ hnx;rw [mL,decide_eq_true (by omega)]at hg;unfold Aut.via;rw [if_pos hg]
  match m with
  |0=>unfold Aut.goN;rw [if_pos hg]
  |m+1=>
   rw [Aut.goN_succ,Aut.sumN_congr (g:=fun _=>256^m) fun j hj=>B_ hS hn m (k+1) _ j hnx (by omega) (by omega),hn];rw [E_,Nat.pow_succ,Nat.mul_comm]
theorem NI (hS:vq sZ aG M S) (hn:M.n=256) {m x p:Nat} (h:S x p) (hx:x≤256):Aut.goN M m p=256^m:=by
 have hg:=hS.good _ _ h;rw [mL,decide_eq_true hx]at hg;cases m with
 |zero=>unfold Aut.goN;rw [if_pos hg]
 |succ m=>
  rw [Aut.goN_succ,Aut.sumN_congr (g:=fun _=>256^m) fun j hj=>B_ hS hn m x _ j h hx (by omega),hn];rw [E_,Nat.pow_succ,Nat.mul_comm]
theorem Og (hS:vq sZ aG M S) (hn:M.n=256):Aut.rk M 0 [97,98]=24930∧Aut.Way M 0 [97,98]:=by
 have h1:=hS.next 0 0 97 hS.zero (by rw [mL];decide);rw [mL,if_pos (BX (by decide) (by decide))]at h1;have g1:=hS.good _ _ h1;rw [mL,decide_eq_true (by decide)]at g1;have h2:=hS.next _ _ 98 h1 (by rw [mL];decide);rw [mL,if_pos (BX (by decide) (by decide))]at h2;have g2:=hS.good _ _ h2;rw [mL,decide_eq_true (by decide)]at g2;refine⟨?_,by omega,g1,by omega,g2,trivial⟩;show Aut.sumN (Aut.via M 1 0) 97+(Aut.sumN (Aut.via M 0 (M.nxt 0 97)) 98+0)=24930;rw [Aut.sumN_congr (g:=fun _=>256^1) fun j hj=>B_ hS hn 1 0 0 j hS.zero (by decide) (by omega),Aut.sumN_congr (g:=fun _=>256^0) fun j hj=>B_ hS hn 0 _ _ j h1 (by decide) (by omega),E_,E_]
end
theorem eB {n d q:Nat} (h:n=d+10*q) (hd:d<10) (h0:n≠0):eG 10 n=(d:Int)::eG 10 q:=by
 have h1:n%10=d:=by omega
 have h2:n/10=q:=by omega
 rw [kL JR h0,h1,h2]
theorem K1:lE 65536= [54,53,53,51,54]:=by
 unfold lE;rw [if_neg (by decide),eB (d:=6) (q:=6553) (by decide) (by decide) (by decide),eB (d:=3) (q:=655) (by decide) (by decide) (by decide),eB (d:=5) (q:=65) (by decide) (by decide) (by decide),eB (d:=5) (q:=6) (by decide) (by decide) (by decide),eB (d:=6) (q:=0) (by decide) (by decide) (by decide),ew];decide
theorem Mr:lE 24930= [50,52,57,51,48]:=by
 unfold lE;rw [if_neg (by decide),eB (d:=0) (q:=2493) (by decide) (by decide) (by decide),eB (d:=3) (q:=249) (by decide) (by decide) (by decide),eB (d:=9) (q:=24) (by decide) (by decide) (by decide),eB (d:=4) (q:=2) (by decide) (by decide) (by decide),eB (d:=2) (q:=0) (by decide) (by decide) (by decide),ew];decide
theorem Fw:xJ sZ aG [97,98]= [97,98]:=by decide+kernel
theorem Ls:∀t∈ [(97:Int),98],gp sZ aG t=true:=by decide+kernel
theorem LM (w:World) {v:Nat} (h:bv w v sZ aG):gf aG∧(aL sZ aG).Ok:=by
 obtain⟨w0,x,tp,bp,mp,d,l,uses,hR⟩:=h;exact⟨hR.parts.ok,nW hR.parts⟩
set_option maxHeartbeats 1000000 in
theorem mO (w:World):CP 35 #[] w fun e w'=>e= .returned (.bool true)∧Below w.heap.size w w':=by
 refine aN (AK w) ?_;refine(kZ w ⟨false,bZ,bZ,bZ,bZ,bZ⟩ sZ (Gc w)).mono ?_;rintro e w1 ⟨u,rfl,b1,hp⟩;rw [if_pos Gy,G3]at hp;obtain⟨v,rfl,hV1,hv⟩:=hp;obtain⟨hok,hVok⟩:=LM w1 hV1;refine⟨_,_,_,rfl,(mK w1 v sZ aG hV1 List.Pairwise.nil 1048576).mono ?_⟩;rintro e w2 ⟨u,rfl,hV2,t2,hu⟩;rw [Gi,if_neg (by decide)]at hu;obtain⟨g,rfl,hG,hg⟩:=hu;have b2:Below w.heap.size w w2:=b1.trans (t2.below hv b1.size);have hn:gN sZ aG≤1032:=by rw [mL];decide
 refine⟨_,_,rfl,(sM w2 g sZ aG hG hn vr.2 1048576).mono ?_⟩;rintro e w3 ⟨b3,_,hu⟩;obtain⟨a,rfl,ha,hA⟩:=hu (by rw [mL];decide);refine⟨_,_,rfl,(AT w3 a g _ hA (by show gN sZ aG+2≤10000;omega) (by show gN sZ aG≤10000;omega)).mono ?_⟩;rintro e w4 ⟨b,f,rfl,hc,hb,_,hab,t4⟩;have hF:=nM hn vr.2 hc;have hN1:=Ht hc;have hS:=Bo hn hc;have b4:Below w2.heap.size w2 w4:=b3.trans (t4.below ha b3.size);refine⟨_,rfl,(mm w4 b g _ sZ aG ⟨hb,hG.on b4⟩ hF 3).mono ?_⟩;obtain⟨M,hM⟩:∃M,M=Aut.least (cZ sZ aG) f:=⟨_,rfl⟩;rw [←hM]at hF hN1 hS⊢;have hMn:M.n=256:=by rw [hF.n,mL]
 rintro e w5 ⟨b5,_,_,hu⟩;obtain⟨c,rfl,hcs,hC⟩:=hu (by decide) (by rw [hN1];decide);have hclt:=hC.lt;refine⟨_,_,rfl,?_⟩;intro w6 hw6;have b6:Below w5.heap.size w5 w6:=by subst hw6;exact af _ _
 have hC6:=(hC.then b6).now 0;have hr:=JX w5 w6 [97,98] _ rfl hw6;have x6:w6.heap[w5.heap.size]? =some (.cells #[.int .i64 97,.int .i64 98] bf (0,0)):=by subst hw6;exact ak _ _
 refine(sd w6 c b g 3 M sZ aG _ hC6 hF (by decide) hS hok hVok (some (nb w5)) 2 [97,98] (fun {q} t=>?_) (by decide)).mono ?_
 ·exact hr.touch t fun _ p hp=>by cases hp;exact fun e=>by have:w5.heap.size=c:=e;omega
 obtain⟨hab1,hab2⟩:=Og hS hMn;rintro e w7 ⟨r,k,rfl,hR,hC7,t7⟩;have hh:=Ls;obtain⟨rfl,hN7⟩:=((hR.2 (by decide)).2 (fun t ht=>(jJ hok t).1 (hh t ht))).2 ((BU hS hF.n hVok hok hh).1 (by rw [Fw];exact hab2));rw [Fw,hab1]at hN7;refine⟨_,_,_,_,rfl,?_⟩;intro w8 hw8;have b8:Below w7.heap.size w7 w8:=by subst hw8;exact af _ _
 have x8:w8.heap[w7.heap.size]? =some (.cells #[bZ.v] cn (0,0)):=by subst hw8;exact ak _ _
 refine cE (s:=r) x8 fun w9 x9 N9 B9 _ _=>?_;have b9:=B9 _ _ (Nat.le_refl _) b8;have hN9:=N9 _ _ (hN7.on b8);have hC9:=(hC7.then b9).now 0;have hclt7:=hC7.lt;refine ac.yes rfl ((rB w9 w9 0 c b g 3 M sZ aG hC9 hF (by decide) 2).mono ?_);rintro e w10 ⟨r2,rfl,hN10,hf,t10⟩;have e2:gm M 3 0 2=65536:=by
  unfold gm;rw [if_pos (by rw [hN1];decide)];exact NI hS hMn hS.zero (by decide)
 rw [e2]at hN10;refine⟨_,_,_,rfl,(jQ w10 r2 65536 hN10 (Nat.le_trans (pJ (k:=1) (by decide) (by decide)) (by decide))).mono ?_⟩;rintro e w11 ⟨rfl,b11⟩;rw [K1];refine⟨_,rfl,ac.yes (beq_self_eq_true (str [54,53,53,51,54]).toList) ⟨_,_,_,aU (ah b11 (t10.held (by omega) x9)),?_⟩⟩;have hN11:bc w11 r 24930:=by
  refine bc.on ?_ b11;obtain⟨cc,fz,hx⟩:=hC9.typ;exact hN9.past hx (by decide) t10
 refine(jQ w11 r 24930 hN11 (Nat.le_trans (pJ (k:=1) (by decide) (by decide)) (by decide))).mono ?_;rintro e w12 ⟨rfl,b12⟩;rw [Mr];refine⟨_,rfl,ac.yes (beq_self_eq_true (str [50,52,57,51,48]).toList) ⟨rfl,?_⟩⟩;have h5:=b4.trans (b5.mono b4.size);have h7:=(ae h5 b6).trans (t7.below (by have:=b4.size;omega) (ae h5 b6).size);have h9:=h7.trans (b9.mono h7.size);have h10:=h9.trans (t10.below (by have:=b4.size;omega) h9.size);have h11:=h10.trans (b11.mono h10.size);have h12:=h11.trans (b12.mono h11.size);exact b2.trans (h12.mono b2.size)
theorem qn:∀ {ms:List (Int×Int)} {es T:List aP} {i:Nat},bU es i ms= .ok T→T.length=es.length+ms.length
 | [],es,T,i,h=>by
  rw [bU]at h;cases h;rfl
 |m::r,es,T,i,h=>by
  rw [bU]at h;cases hq:bP es m with
  |error n=>rw [hq]at h;cases h
  |ok x=>
   rw [hq]at h;have:=qn h;simp only [List.length_append,List.length_cons,List.length_nil]at this⊢;omega
theorem sV (l:List Int):∀i,(fB l i).length≤256+i
 |0=>by show aG.length≤256;simp [aG]
 |i+1=>by
  have ih:=sV l i;rw [fB];split
  ·unfold wA;split
   ·rw [List.length_append,List.length_singleton];omega
   ·omega
  ·omega
theorem C7 {ls:List Int} {cs:List (Int×Int×Int)} {js:List (Int×Int)} {xs:List (Int×Bs)} {T:List aP} (h:dk (someV ls cs js xs)= .ok T):T.length≤286:=by
 have h1:=qn (oW h rfl).1;have h2:(someV ls cs js xs).merges.length=(fB ls 30).length-256:=by
  show(ap (fB ls 30)).length=_;simp [ap]
 have h3:=sV ls 30;have h4:aG.length=256:=by simp [aG]
 omega
theorem dS.touch {w w':World} {a g:Nat} {M:Aut} (h:dS w a g M) {b:Nat} {c:Array Value} {e:TypeId} {fz:Nat×Nat} (hb:w.heap[b]? =some (.cells c e fz)) (t:au b w w') (n1:a≠b) (n2:bf≠e) (n3:dX≠e) (n4:bN≠e):dS w' a g M:=by
 obtain⟨o,next,good,of,rs,d,h1,h2,h3⟩:=h;have own:∀ {B sz n:Nat} {t:TypeId} {u:Value} {xs:List Value},w.ownsRow B t sz u n xs→t≠e→w'.ownsRow B t sz u n xs:=fun ho hne=>gQ hb t ho hne;refine⟨o,next,good,of,rs,d,t.held n1 h1,⟨own h2.onx n3,h2.rl,fun i r hi=>own (h2.each i r hi) n2,own h2.ogd n4,h2.ok⟩,?_⟩;cases o with
 |none=>exact h3
 |some f=>exact⟨h3.1,h3.2.1,h3.2.2.1,own h3.2.2.2 n2⟩
theorem dj.skip {w w':World} {c b g L:Nat} {M:Aut} {s:ar} {T:List aP} (h:dj w w 0 c b g L M s T) {x:Nat} {cc:Array Value} {e:TypeId} {fz:Nat×Nat} (hb:w.heap[x]? =some (.cells cc e fz)) (t:au x w w') (nc:c≠x) (na:b≠x) (n1:ro≠e) (n2:bf≠e) (n3:m'≠e) (n4:gC≠e) (n5:dX≠e) (n6:bN≠e) (n7:iV≠e) (n8:cn≠e) (n9:e≠dO):dj w' w' 0 c b g L M s T:=by
 obtain⟨d,l,hx,hc⟩:=h.cnt;refine⟨au.of_below (Below.refl _ _),⟨h.on0.aut.touch hb t na n2 n5 n6,h.on0.grid.past hb t.block n1 n2 n3 n4⟩,⟨_,_,t.held nc hx⟩,d,l,t.held nc hx,hc.imp id fun⟨e1,B,hB⟩=>⟨e1,B,.inl ?_⟩⟩;rcases hB with hB |⟨_,hB⟩<;>exact hB.past hb t n7 n8 n9
structure MD (w:World) (c b g L:Nat) (y:sj) (s:ar) (T:List aP) (f:Nat→Nat):Prop where
 cls:Aut.Cls (cZ s T) f
 code:∃b1,dj w w 0 c b1 g L (Aut.least (cZ s T) f) s T
 aut:dS w b g (Aut.least (cZ s T) f)
 base:∃w0,lK w0 y s T∧w0.heap.size≤c∧Below w0.heap.size w0 w
 n:gN s T≤292
 pos:0<gN s T
 rise:qo s T
 ok:gf T
 vok:(aL s T).Ok
set_option maxHeartbeats 1000000 in
theorem wx (w:World) (y:DS) (ls:List Int) (cs:List (Int×Int×Int)) (js:List (Int×Int)) (xs:List (Int×Bs)) (h:yv w y ls cs js xs) (L:Nat) (hL:L≤39):
  CP 36 #[y.v,.int .i64 (L:Int)] w fun e w'=>∃c b g r s T f,e= .returned (.tuple #[.pointer (some ⟨c,0,none⟩),.pointer (some ⟨b,0,none⟩),.pointer (some ⟨g,0,none⟩),r.v])∧MD w' c b g L r s T f∧Below w.heap.size w w'∧w.heap.size≤c:=by
 refine aN (Bx y.l.a y.l.n y.l.c y.c.a y.c.n y.c.c y.j.a y.j.n y.j.c y.x.a y.x.n y.x.c (L:Int) w) ?_;intro w1 hw1 w2 hw2;have hb1:Below w.heap.size w w1:=by subst hw1;exact af _ _
 have b2:Below w1.heap.size w1 w2:=by subst hw2;exact af _ _
 have hb2:=ae hb1 b2;have l2:w2.heap[w.heap.size]? =some (.cells y.cells Kb (0,0)):=ah b2 (by subst hw1;exact ak _ _);have z2:w2.heap[w1.heap.size]? =some (.cells CU.cells JY (0,0)):=by subst hw2;exact ak _ _
 have lt1:w.heap.size<w1.heap.size:=by subst hw1;rw [av];omega
 refine⟨_,_,_,_,_,_,_,_,_,_,_,_,J0 l2,?_⟩;refine(vj w2 y ls cs js xs (h.on hb2)).mono ?_;rintro e w3 ⟨u,rfl,v,r,s,T,rfl,hB3,hv,b3,hs,hT⟩;have hlen:T.length≤286:=by rw [hs]at hT;exact C7 hT
 have hb3:=ae hb2 b3;refine⟨_,_,_,_,_,_,_,_,_,_,_,_,_,_,_,_,rfl,?_⟩;intro w4 hw4;refine aT (np CU) (np r) rfl (jx r) w4 hw4 ?_;intro w5 h5 hz5 b5;have hB:=hB3.on b5;have hb5:=ae hb3 b5;have z5:=ah (ae b3 b5) z2;have hz2:=hb2.size;obtain⟨hl,hsq⟩:=Fh hB;refine(mK w5 v s T hB.voc hB.asc 1048576).mono ?_;rintro e w6 ⟨u,rfl,hV6,t6,hu⟩;rw [if_neg (by omega)]at hu;obtain⟨g,rfl,hG,hg⟩:=hu;have hvl:w2.heap.size≤v:=hv;have lt2:w1.heap.size<w2.heap.size:=(Array.getElem?_eq_some_iff.1 z2).1;have b56:Below w2.heap.size w5 w6:=t6.below hvl (ae b3 b5).size;have hb6:Below w.heap.size w w6:=hb5.trans (b56.mono hz2);have z6:w6.heap[w1.heap.size]? =some (.cells CU.cells JY (0,0)):=(b56.block _ lt2).trans z5;have h6:=t6.held (by have:=hB3.voc.lt;omega) h5;have hR6:=hB.rv w6 t6;have hrise:qo s T:=jL hB.asc (by
  obtain⟨w0',x,tp,bp,mp,d,l,uses,hR⟩:=hB.voc;exact hR.now.ids)
 have hn:gN s T≤292:=by
  have:=hB.few;unfold gN;rw [dP];omega
 have hn2:gN s T≤1032:=by omega
 have hmost:¬(((gN s T+2)*gN s T:Nat):Int)>1048576:=by
  have:(gN s T+2)*gN s T≤294*292:=Nat.mul_le_mul (by omega) hn;omega
 have hok:=hB.now.ok;refine⟨_,_,rfl,(sM w6 g s T hG (by omega) hrise 1048576).mono ?_⟩;rintro e w7 ⟨b7,_,hu⟩;obtain⟨a,rfl,ha,o,hA⟩:=hu hmost;refine⟨_,_,rfl,(ko w7 a g _ o hA (by show gN s T+2≤10000;omega) (by show gN s T≤10000;omega)).mono ?_⟩;rintro e w8 ⟨b,f,rfl,_,hc,hb,hA8,hab,t8⟩;have hF:=nM hn2 hrise hc;have hfew:=te hn2 hc;have b68:Below w6.heap.size w6 w8:=b7.trans (t8.below ha b7.size);refine⟨_,rfl,(mm w8 b g _ s T ⟨hb,hG.on b68⟩ hF (L:Int)).mono ?_⟩;rintro e w9 ⟨b9,_,_,hu⟩;obtain⟨M,hM⟩:∃M,M=Aut.least (cZ s T) f:=⟨_,rfl⟩;rw [←hM]at hF hfew hb hu;obtain⟨c,rfl,hcs,hC⟩:=hu (by omega) (by
  have:L*M.N≤39*294:=Nat.mul_le_mul hL (by omega);have e:(L:Int)*(M.N:Int)=((L*M.N:Nat):Int):=by push_cast;rfl
  rw [e];omega)
 have hA7:=hA.lt;have hz8:=t8.size;have hz68:=b68.size;refine⟨_,_,rfl,ac.no rfl (ac.no rfl (ac.no rfl ?_))⟩;intro w10 hw10;have b10:Below w9.heap.size w9 w10:=by subst hw10;exact aM w9
 have b8_10:=ae b9 b10;have h7:=ah b7 h6;have w5lt:w3.heap.size<w6.heap.size:=(Array.getElem?_eq_some_iff.1 h6).1;have h8:=t8.held (by omega) h7;have h10:=ah b8_10 h8;refine⟨_,_,_,_,_,_,_,_,_,_,_,_,_,_,_,Al (x:=r) h10,?_⟩;refine(ko w10 a g _ (some f) (hA8.on b8_10) (by show gN s T+2≤10000;omega) (by show gN s T≤10000;omega)).mono ?_;rintro e w11 ⟨b',f',rfl,hff,_,hb',_,hab',t11⟩;obtain rfl:=hff f rfl;rw [←hM]at hb';have h11:=t11.held (by omega) h10;have hcl:=hC.lt;have hA10:=(hA8.on b8_10);obtain⟨nx,gd,of,rs,d,ha10,_⟩:=hA10;have hz10:=b8_10.size;have hC11:=((hC.then b10).now 0).skip ha10 t11 (by omega) (by omega) (by decide) (by decide) (by decide) (by decide) (by decide) (by decide) (by decide) (by decide) (by decide);have b6_10:Below w6.heap.size w6 w10:=b68.trans (b8_10.mono hz68);have b6_11:Below w6.heap.size w6 w11:=b6_10.trans (t11.below ha b6_10.size);have z11:=ah b6_11 z6;refine⟨_,rfl,Al (x:=r) h11,?_⟩;refine aV z11 (np r) rfl (jx r) ?_;intro w12 h12 hs12 hz12 hB12;have t12:=cN hB12 hs12 hz12;have hb12:Below w.heap.size w w12:=hB12 _ _ (Nat.le_of_lt lt1) (hb6.trans (b6_11.mono hb6.size));have h61:w1.heap.size<w6.heap.size:=(Array.getElem?_eq_some_iff.1 z6).1;refine⟨_,_,_,_,_,_,_,_,_,_,_,_,_,_,_,Al (x:=r) h12,c,b',g,r,s,T,f',rfl,⟨hc,⟨b,?_⟩,?_,?_,hn,?_,hrise,hok,hB.now.vok⟩,hb12,by have:=hb6.size;omega⟩
 ·rw [←hM];exact hC11.skip z11 t12 (by omega) (by omega) (by decide) (by decide) (by decide) (by decide) (by decide) (by decide) (by decide) (by decide) (by decide)
 ·rw [←hM];exact hb'.touch z11 t12 (by omega) (by decide) (by decide) (by decide)
 ·let w0:World:={w6 with heap:=w6.heap.setIfInBounds w1.heap.size (.cells (np r).toArray JY (0,0))};have hz0:w0.heap.size=w6.heap.size:=by simp [w0]
  have same:∀j,j≠w1.heap.size→w0.heap[j]? =w6.heap[j]? :=fun j hj=>by
   show(w6.heap.setIfInBounds w1.heap.size _)[j]? =_;rw [Array.getElem?_setIfInBounds_ne (fun e=>hj e.symm)]
  refine⟨w0,hR6.past z6 (mB CU) (fun j _ hj=>same j hj) (Nat.le_of_eq hz0.symm),by rw [hz0];omega,?_⟩;have hB9':=hB12 0 w11 (Nat.zero_le _) (Below.refl _ _);refine⟨hB9'.os.trans b6_11.os,hB9'.tape.trans b6_11.tape,hB9'.output.trans b6_11.output,by rw [hz0,hz12];exact b6_11.size,fun k hk=>?_⟩;rw [hz0]at hk;by_cases e:k=w1.heap.size
  ·subst e;rw [h12];show _=(w6.heap.setIfInBounds w1.heap.size _)[w1.heap.size]?
   rw [Array.getElem?_setIfInBounds_self_of_lt h61]
  ·rw [same k e,hs12 k e];exact b6_11.block k hk
 ·have:=hok.len;unfold gN;rw [dP];omega
theorem Ky {n:Int} (h:(Lit.int .u8 n).wf=true):0≤n∧n<256:=by
 have h:(decide ((0:Int)≤n)&&decide (n≤255))=true:=h;rw [Bool.and_eq_true,decide_eq_true_eq,decide_eq_true_eq]at h;omega
theorem xk (z:Int):0≤IntKind.wrap .u64 z∧IntKind.wrap .u64 z<18446744073709551616:=by
 simp only [IntKind.wrap,IntKind.signed,IntKind.bits];simp;omega
theorem Kc (k:Int) (N:Nat) (h0:0<N) (hN:N≤1000000):∃n:Nat,n<N∧IntKind.wrap .u64 (N:Int)≠0∧IntKind.wrap .i64 (Int.tmod (IntKind.wrap .u64 k) (IntKind.wrap .u64 (N:Int)))=(n:Int):=by
 have h1:IntKind.wrap .u64 (N:Int)=(N:Int):=dy (by omega);have h2:=xk k;rw [h1];have h3:0≤Int.tmod (IntKind.wrap .u64 k) (N:Int):=Int.tmod_nonneg _ h2.1;have h4:Int.tmod (IntKind.wrap .u64 k) (N:Int) < (N:Int):=Int.tmod_lt_of_pos _ (by omega);refine⟨(Int.tmod (IntKind.wrap .u64 k) (N:Int)).toNat,by omega,by omega,?_⟩;rw [dv (k:=.i64) (by simp [IntKind.min,IntKind.signed,IntKind.bits];omega) (by simp [IntKind.max,IntKind.signed,IntKind.bits];omega)];omega
theorem Mz (m:Nat) (d:Nat) (hd:0<d) (hd2:d≤1000):IntKind.wrap .i64 (Int.tmod (m:Int) (d:Int))=((m%d:Nat):Int):=by
 have h1:Int.tmod (m:Int) (d:Int)=((m%d:Nat):Int):=rfl;have h2:=Nat.mod_lt m hd;rw [h1,dv (k:=.i64) (by simp [IntKind.min,IntKind.signed,IntKind.bits];omega) (by simp [IntKind.max,IntKind.signed,IntKind.bits];omega)]
theorem Dq (x:Int):nm x x=0:=by
 unfold nm;rw [if_neg (by omega),if_neg (by omega)]
theorem Fv {M:Aut} (hn:M.n≤1032) {k L:Nat} (hk:k≤L) (s:Nat):Aut.goN M k s≤1032^L:=
 Nat.le_trans (Aut.goN_le k s) (Nat.le_trans (Nat.pow_le_pow_left hn k) (Nat.pow_le_pow_right (by decide) hk))
theorem EY {M:Aut} (hn:M.n≤1032) {k L:Nat} (hk:k≤L) (hL:L≤100) (s:Nat):(eG 4294967296 (Aut.goN M k s)).length≤200:=
 Nat.le_trans (pu (L:=L) (Nat.le_trans (Fv hn hk s) (Nat.le_trans (Nat.pow_le_pow_right (by decide) (Nat.le_succ L)) (Nat.le_mul_of_pos_left _ (by omega)))) (by omega)) (by omega)
theorem GN {M:Aut} (hs:Aut.Stays M) (hok:M.Ok) {k st:Nat} (hst:st<M.N):Aut.sumN (fun j=>Aut.goN M k (M.nxt st j)) M.n=Aut.goN M (k+1) st:=by
 rw [Aut.goN_succ];refine Aut.sumN_congr fun j hj=>?_;unfold Aut.via;split
 ·rfl
 ·rename_i hb;exact Aut.goN_bad hs (hok.lt _ _ hst hj) (by simpa using hb) k
set_option maxHeartbeats 4000000 in
theorem se (w:World) (y:DS) (ls:List Int) (cs:List (Int×Int×Int)) (js:List (Int×Int)) (xs:List (Int×Bs)) (h:yv w y ls cs js xs) (state:Int) (m:Nat):
  CP 6 #[y.v,.int .i64 state,.int .u8 (m:Int)] w fun e w'=>e= .returned (.bool true)∧Below w.heap.size w w':=by
 refine aN (CZ y.l.a y.l.n y.l.c y.c.a y.c.n y.c.c y.j.a y.j.n y.j.c y.x.a y.x.n y.x.c state (m:Int) w) ?_;intro w1 hw1;have hb1:Below w.heap.size w w1:=by subst hw1;exact af _ _
 have l1:w1.heap[w.heap.size]? =some (.cells y.cells Kb (0,0)):=by subst hw1;exact ak _ _
 refine⟨_,_,_,_,_,_,_,_,_,_,_,_,J0 l1,?_⟩;refine(rZ w1 y ls cs js xs (h.on hb1)).mono ?_;rintro e w2 ⟨c0,rfl,b2⟩;have hb2:=ae hb1 b2;have aw:∀ {q:World},Below w.heap.size w q→CP 35 #[] q fun e w'=>∃b:Bool,e= .returned (.bool b)∧(Ending.returned (Value.bool b)= .returned (.bool true)∧Below w.heap.size w w'):=by
  intro q hq;refine(mO q).mono ?_;rintro e w3 ⟨rfl,b3⟩;exact⟨true,rfl,rfl,ae hq b3⟩
 refine⟨c0,rfl,ac.mk (fun _=>aw hb2) fun _=>?_⟩;refine(mO w2).mono ?_;rintro e w5 ⟨rfl,b5⟩;have hb5:=ae hb2 b5;refine⟨_,rfl,ac.no rfl ⟨_,_,_,_,_,_,_,_,_,_,_,_,J0 (ah b5 (ah b2 l1)),?_⟩⟩;refine(wx w5 y ls cs js xs (h.on hb5) 8 (by decide)).mono ?_;rintro e w6 ⟨c,b,g,r,s,T,f,rfl,hB,b6,hc6⟩;have hb6:=ae hb5 b6;have hn2:gN s T≤1032:=by have:=hB.n;omega
 have hF:=nM hn2 hB.rise hB.cls;obtain⟨⟨b1,hC6⟩,hA6⟩:=(⟨hB.code,hB.aut⟩:_∧_);obtain⟨M,hM⟩:∃M,M=Aut.least (cZ s T) f:=⟨_,rfl⟩;rw [←hM]at hF hC6 hA6;have hMn:M.n≤1032:=by rw [hF.n];exact hn2
 have hpos:=hF.ok.pos;have hfew:=hF.N;refine⟨_,_,_,_,_,_,_,_,_,_,_,_,_,_,_,_,_,_,rfl,?_⟩;intro w7 hw7;refine aT (np CU) (np r) rfl (jx r) w7 hw7 ?_;intro w8 h8 hz8 b8;have hC8:=hC6.then b8;have hA8:=hA6.on b8;have hb8:=ae hb6 b8;have hlt6:=hC6.lt;obtain⟨k',hk'⟩:∃k',k'=m%8:=⟨_,rfl⟩;have hk8:k'<8:=by rw [hk'];exact Nat.mod_lt _ (by decide)
 refine ac.no rfl ⟨by decide,Ar.nat (k'+1) (by rw [show(8:Int)=((8:Nat):Int)from rfl,Mz m 8 (by decide) (by decide), ←hk'];omega) (by omega) ((fo w8 b g M hA8).mono ?_)⟩;rintro e w9 ⟨rfl,hw⟩;subst w9;obtain⟨st,hst,hne,hmod⟩:=Kc state M.N hpos (by omega);refine⟨_,rfl,hne,?_⟩;rw [hmod];intro w10 hw10;have b10:Below w8.heap.size w8 w10:=by subst hw10;exact af _ _
 have x10:w10.heap[w8.heap.size]? =some (.cells #[bZ.v] cn (0,0)):=by subst hw10;exact ak _ _
 refine cE (s:=bZ) x10 fun w11 x11 N11 B11 _ _=>?_;have b11:=B11 _ _ (Nat.le_refl _) b10;have hC8':=hC8.now w11.heap.size;have hclt:=hC8'.lt;have hz11:=b11.size;have from_:∀(x i:Nat),x<M.N→i≤8→gm M 8 (x:Int) (i:Int)=Aut.goN M i x:=by
  intro x i hx hi;unfold gm;rw [if_pos (by omega)];rfl
 have sum_:∀i,i≤gN s T→(eG 4294967296 (Aut.sumN (fun j=>Aut.goN M k' (M.nxt st j)) i)).length≤200:=by
  intro i hi;have h1:Aut.sumN (fun j=>Aut.goN M k' (M.nxt st j)) i≤i*1032^8:=Aut.sumN_le (fun j=>Fv hMn (by omega) _) i;have h2:i*1032^8≤(8+1)*1032^(8+1):=by
   have:i*1032^8≤1032*1032^8:=Nat.mul_le_mul_right _ (by omega);rw [Nat.pow_succ];omega
  exact Nat.le_trans (pu (Nat.le_trans h1 h2) (by decide)) (by decide)
 intro I hI;have key:=a_ (α:=World) (gN s T) (fun i q=>dj w8 q w11.heap.size c b1 g 8 M s T∧dS q b g M∧w11.heap.size≤q.heap.size∧∃l:Sl,q.heap[w8.heap.size]? =some (.cells #[l.v] cn (0,0))∧bc q l (Aut.sumN (fun j=>Aut.goN M k' (M.nxt st j)) i)) (fun i q=>I [.int .i64 (i:Int),.bool false] q) w11 ⟨hC8'.then b11,hA8.on b11,Nat.le_refl _,bZ,x11,gJ _⟩ ?_ ?_
 ·exact key
 ·rintro i hi ih q ⟨hC,hA,hq,l,hlx,hN⟩;refine hI _ false q ((fI q g s T hC.on.grid).mono ?_);rintro e w13 ⟨rfl,hw⟩;subst w13;refine⟨_,rfl,ac.yes (decide_eq_true (by unfold gN at hi;omega)) ((E9 q g s T hC.on.grid i hi).mono ?_)⟩;rintro e w14 ⟨rfl,hw⟩;subst w14;refine⟨_,_,rfl,(jo q b g M hA s T hC.on.grid hF.n _ _).mono ?_⟩;rw [tG hF hst hi];rintro e w15 ⟨rfl,hw⟩;subst w15;have hnx:M.nxt st i<M.N:=hF.ok.lt _ _ hst (by rw [hF.n];exact hi);refine⟨_,_,rfl,ac.no rfl ?_⟩;intro w16 hw16;have b16:Below q.heap.size q w16:=by subst hw16;exact aM q
  have hC16:=hC.then b16;obtain⟨cc,fz,hx16⟩:=(hC16.now 0).typ;refine⟨_,_,_,aU (ah b16 hlx),Ar.nat k' (by omega) (by omega) ((eA w8 w16 w11.heap.size c b1 g 8 M s T hC16 hF (by decide) _ _).mono ?_)⟩;rintro e w17 ⟨r1,rfl,hN1,hf,t⟩;rw [from_ _ _ hnx (by omega)]at hN1;have hC17:=hf.code hC16 (Nat.le_trans hq b16.size) t;have hA17:=(hA.on b16).touch hx16 t (by
   intro e;obtain⟨o,hAw⟩:=hA6;obtain⟨nx,gd,of,rs,d,ha6,_⟩:=hAw;obtain⟨cc6,fz6,hx6⟩:=hC6.typ;rw [e]at ha6;have:=hx6.symm.trans ha6;simp at this;exact absurd this.2.1 (by decide)) (by decide) (by decide) (by decide)
  have l17:=t.held (by omega) (ah b16 hlx);have hN17:bc w17 l _:=(hN.on b16).past hx16 (by decide) t;refine⟨_,_,_,rfl,aU l17,?_⟩;intro w18 hw18;have b18:Below w17.heap.size w17 w18:=by subst hw18;exact af _ _
  have x18:w18.heap[w17.heap.size]? =some (.cells #[r1.v] cn (0,0)):=by subst hw18;exact ak _ _
  refine⟨aU (ah b18 l17),(jH w18 l r1 _ _ (hN17.on b18) (hN1.on b18) (Nat.le_trans (sum_ i (by omega)) (by decide)) (Nat.le_trans (EY hMn (L:=8) (by omega) (by decide) _) (by decide)) (nb w17) 1 (aK x18) (Array.getElem?_eq_some_iff.1 x18).1).mono ?_⟩;rintro e w19 ⟨z,rfl,hz,b19⟩;refine⟨_,_,_,rfl,cE (s:=z) (ah b19 (ah b18 l17)) fun q' hx' hN' hB' hs' hz'=>Ar.nat (i+1) rfl (by omega) (ih q' ?_)⟩;have hb:=ah b19 (ah b18 l17);have tq:=cN hB' hs' hz';have z16:=b16.size;have z17:=t.size;have z18:=b18.size;have z19:=b19.size;refine⟨((hC17.then b18).then b19).box hb (Nat.le_refl _) (by have:=(Array.getElem?_eq_some_iff.1 x11).1;omega) (by decide) tq,((hA17.on b18).on b19).touch hb tq (by
   intro e;obtain⟨o,hAw⟩:=hA8;have:=hAw.lt;omega) (by decide) (by decide) (by decide),by omega,z,hx',hN' _ _ hz⟩
 ·rintro q ⟨hC,hA,hq,l,hlx,hN⟩;refine hI _ false q ((fI q g s T hC.on.grid).mono ?_);rintro e w13 ⟨rfl,hw⟩;subst w13;obtain⟨cc,fz,hxq⟩:=(hC.now 0).typ;refine⟨_,rfl,ac.no (decide_eq_false (by unfold gN;omega)) ((eA w8 q w11.heap.size c b1 g 8 M s T hC hF (by decide) _ ((0:Nat):Int)).mono ?_)⟩;rintro e w21 ⟨r0,rfl,hN0,hf0,t0⟩;rw [from_ st 0 hst (by decide)]at hN0;have hC21:=hf0.code hC hq t0;have nab:b≠c:=by
   intro e;obtain⟨o,hAw⟩:=hA6;obtain⟨nx,gd,of,rs,d,ha6,_⟩:=hAw;obtain⟨cc6,fz6,hx6⟩:=hC6.typ;rw [e]at ha6;have:=hx6.symm.trans ha6;simp at this;exact absurd this.2.1 (by decide)
  have hA21:=hA.touch hxq t0 nab (by decide) (by decide) (by decide);have l21:=t0.held (by omega) hlx;have hN21:bc w21 l _:=hN.past hxq (by decide) t0;refine⟨_,_,_,rfl,?_⟩;intro w22 hw22;have b22:Below w21.heap.size w21 w22:=by subst hw22;exact af _ _
  have x22:w22.heap[w21.heap.size]? =some (.cells #[bZ.v] cn (0,0)):=by subst hw22;exact ak _ _
  refine cE (s:=r0) x22 fun w23 x23 N23 B23 _ _=>?_;have b23:=B23 _ _ (Nat.le_refl _) b22;intro w24 hw24;have b24:Below w23.heap.size w23 w24:=by subst hw24;exact aM w23
  have b2124:=ae b23 b24;have hC24:=hC21.then b2124;have z21:=t0.size;have z24:=b2124.size;have hN0':=N23 _ _ (hN0.on b22);refine⟨_,_,_,aU (ah b2124 l21),(eA w8 w24 w11.heap.size c b1 g 8 M s T hC24 hF (by decide) _ ((k'+1:Nat):Int)).mono ?_⟩;rintro e w25 ⟨r1,rfl,hN1,hf1,t1⟩;rw [from_ st (k'+1) hst (by omega)]at hN1;have hC25:=hf1.code hC24 (by omega) t1;obtain⟨cc4,fz4,hx24⟩:=(hC24.now 0).typ;have l25:=t1.held (by omega) (ah b2124 l21);have hN25:bc w25 l _:=(hN21.on b2124).past hx24 (by decide) t1;have hA25:=(hA21.on b2124).touch hx24 t1 nab (by decide) (by decide) (by decide);have z25:=t1.size;have hlt21:c<w21.heap.size:=by omega
  have x25:=t1.held (by omega) (ah b24 x23);have hN025:bc w25 r0 _:=(hN0'.on b24).past hx24 (by decide) t1;have hall:=GN (k:=k') hF.stays hF.ok hst;rw [hF.n]at hall;rw [hall]at hN25;have dg:=Nat.le_trans (EY hMn (k:=k'+1) (L:=8) (by omega) (by decide) st) (show 200≤100000 by decide);refine⟨_,_,_,rfl,aU l25,(pg w25 r1 l _ _ hN1 hN25 dg dg).mono ?_⟩;rintro e w26 ⟨rfl,b26⟩;rw [Dq];refine⟨_,rfl,ac.yes rfl ⟨_,_,_,aU (ah b26 x25),(gE w26 r0 _ (hN025.on b26)).mono ?_⟩⟩;rintro e w27 ⟨rfl,b27⟩;refine⟨_,rfl,(gW w27 b g M ((hA25.on b26).on b27) _).mono ?_⟩;rintro e w28 ⟨rfl,hw⟩;subst w28;rw [mJ hst];refine⟨_,rfl,?_,?_⟩
  ·cases hg:M.good st with
   |true=>unfold Aut.goN;rw [if_pos hg];rfl
   |false=>unfold Aut.goN;rw [if_neg (by rw [hg];exact Bool.false_ne_true)];rfl
  ·have hC27:=(hC25.then b26).then b27;exact hb8.trans (hC27.t.below (by have:=hb5.size;omega) hb8.size)
theorem BD {H:Type} {enc:TypeId×Value→H} {C:Checked} {os:Os} {f:FuncId} {fn:Func} {s:ChangeSpec}
  (own:ownKnob C.prog.godebug=none) (started:os.Started) (noInit:C.prog.inits.idxOf? f=none) (hfn:C.prog.funcs[f]? =some fn)
  (witness:∃(w:World) (tape:Tape) (i:Input),w.os=os∧(w.forCall tape i).Shaped C.prog∧i.vars= []∧Input.okWide C.prog (w.forCall tape i) .any w.heap.size f i∧
   ((s.pre enc C.prog fn [] false (w.forCall tape i).memory i.args∧True)∧sizedMet enc C.prog fn (OpenSpec.ofChange s) false (w.forCall tape i).memory i.args)∧({}:Assume).holds C.prog (lone (Frame.enter C.prog f i.args .normal) [] (w.forCall tape i)))
  (contract:∀(W:World) (base:Nat) (args:Array Value) (ds gs:List (DataW H)) (before:List MemPlace),
   (∀(j:Nat) t v,fn.params[j]? =some t→args[j]? =some v→Value.okWide C.prog W .any base t v)→
   DataW.Whole enc C.prog fn.params.toList s.vars false W args.toList ds gs before→
   (DataW.weightsEach C.prog (fn.params.toList++s.plain.varTypes C.prog) (ds++gs)).all (·≤reachBytes)=true→
   W.ShapedOpen C.prog→
   Calls C.prog f args W fun e W'=>∃v,e= .returned v∧s.post enc C.prog fn false true false false W args v W'):
  ReturnsInHanded {} C os f .any (fun w args=>s.pre enc C.prog fn [] false w args∧sizedMet enc C.prog fn (OpenSpec.ofChange s) false w args) (s.post enc C.prog fn false true false false):=by
 have witness':∃(w:World) (tape:Tape) (i:Input),w.os=os∧(w.forCall tape i).Shaped C.prog∧i.vars= []∧Input.okWide C.prog (w.forCall tape i) .any w.heap.size f i∧
   (s.pre enc C.prog fn [] false (w.forCall tape i).memory i.args∧sizedMet enc C.prog fn (OpenSpec.ofChange s) false (w.forCall tape i).memory i.args)∧({}:Assume).holds C.prog (lone (Frame.enter C.prog f i.args .normal) [] (w.forCall tape i)):=by
  obtain⟨w,tape,i,h1,h2,h3,h4,⟨⟨h5,_⟩,h6⟩,h7⟩:=witness;exact⟨w,tape,i,h1,h2,h3,h4,⟨h5,h6⟩,h7⟩
 refine returnsInHanded_of_calls own started noInit witness' ?_;intro w tape i _ hshape _ hok hpre _;obtain⟨_,_,_,fn',hfn',_,_,_,_,hval⟩:=hok;obtain rfl:fn'=fn:=Option.some.inj (hfn'.symm.trans hfn);obtain⟨⟨ds,gs,before,hw,_⟩,hz⟩:=hpre;refine(contract (w.forCall tape i) w.heap.size i.args ds gs before hval (DataW.Whole.of_heap (w':=w.forCall tape i) (by rfl) hw) (hz.weights hw) hshape).mono ?_;rintro e W' ⟨v,rfl,hp⟩;exact ChangeSpec.post_blind hp
end Go.Proofs.YtdlcfegnaphclaaGreat.Eng
