/- A code: good tokens' number; walked by the engine. -/
import Derived.Test.YtdlcfegnaphclaaGreatZqAf
import Derived.Test.YtdlcfegnaphclaaGreatZqTz
import Derived.Test.YtdlcfegnaphclaaGreatZqVc
set_option linter.unusedVariables false
set_option linter.unusedSimpArgs false
set_option maxRecDepth 100000
namespace Go.Proofs.YtdlcfegnaphclaaGreat.Eng
open Go Go.RowKit
def tB (s:ar) (T:List aQ) (ids:List Int):List Nat:=ids.map fun t=>(oT s T t).getD 0
theorem DJ {s:ar} {T:List aQ} {ids:List Int} (hh:∀t∈ids,gv s T t=true) {i:Nat} (hi:i<ids.length):oT s T ids[i]=some ((tB s T ids)[i]'(by unfold tB;rw [List.length_map];exact hi)):=by
 have h1:=hh _ (List.getElem_mem hi);rw [←DH]at h1;obtain⟨k,hk⟩:=Option.isSome_iff_exists.1 h1;unfold tB;rw [List.getElem_map,hk];rfl
theorem kJ (s:ar) (T:List aQ) (ids:List Int):(tB s T ids).length=ids.length:=List.length_map _
theorem Fh {s:ar} {T:List aQ} {M:Aut} {S:Nat→Nat→Prop} (hS:Aq s T M S) (hn:M.n=gN s T) (hV:(aF s T).Ok) (hok:gc T) {ids:List Int} {ks:List Nat} (hl:ks.length=ids.length) (hk:∀(i:Nat) (h:i<ids.length),oT s T ids[i]=some (ks[i]'(by omega))):
  ∀i,i≤ids.length→(Aut.Way M 0 (ks.take i)↔∀(j:Nat) (h:j<ids.length),j<i→(aF s T).Has ids[j]∧(aF s T).Canon (ids.take (j+1)))∧(Aut.Way M 0 (ks.take i)→∃x,S x ((ks.take i).foldl M.nxt 0)∧kU s T ids i x):=by
 intro i;induction i with
 |zero=>exact fun _=>⟨⟨fun _ j _ hj=>absurd hj (Nat.not_lt_zero j),fun _=>trivial⟩,fun _=>⟨0,hS.zero,fun j _ hj=>absurd hj (Nat.not_lt_zero j),.inl ⟨rfl,rfl⟩⟩⟩
 |succ i ih=>
  intro hle;have hi:i<ids.length:=by omega
  obtain⟨ih1,ih2⟩:=ih (by omega);have htk:ks.take (i+1)=ks.take i++ [ks[i]]:=by rw [List.take_add_one,List.getElem?_eq_getElem (by omega)];rfl
  have hki:=hk i hi;have hkn:=(dJ hki).1;have step:Aut.Way M 0 (ks.take i)→∃x,S x ((ks.take i).foldl M.nxt 0)∧kU s T ids i x∧(M.good (M.nxt ((ks.take i).foldl M.nxt 0) ks[i])=true↔(aF s T).Canon (ids.take (i+1)))∧(aF s T).Has ids[i]∧((aF s T).Canon (ids.take (i+1))→S (ks[i]+1) (M.nxt ((ks.take i).foldl M.nxt 0) ks[i])):=by
   intro hw;obtain⟨x,hx,hG⟩:=ih2 hw;obtain⟨h1,h2⟩:=pA hV hok hG hi hki;have h3:=hS.next x _ ks[i] hx hkn;have h4:=hS.good _ _ h3;refine⟨x,hx,hG,?_,h2,fun hc=>?_⟩
   ·rw [h4,decide_eq_true_eq, ←h1];by_cases hm:dQ (gN s T) (mT s T) (eu s T) x ks[i]=true
    ·rw [if_pos hm];exact iff_of_true hkn hm
    ·rw [if_neg hm];exact iff_of_false (by omega) hm
   ·rw [if_pos (h1.2 hc)]at h3;exact h3
  constructor
  ·rw [htk,Aut.way_append];constructor
   ·rintro⟨hw,_,hg⟩ j hj hji;obtain⟨x,_,_,h1,h2,_⟩:=step hw;by_cases e:j=i
    ·subst e;exact⟨h2,h1.1 hg⟩
    ·exact ih1.1 hw j hj (by omega)
   ·intro hall;have hw:=ih1.2 fun j hj hji=>hall j hj (by omega);obtain⟨x,_,_,h1,h2,_⟩:=step hw;exact⟨hw,by rw [hn];exact hkn,h1.2 (hall i hi (by omega)).2⟩
  ·rw [htk,Aut.way_append,List.foldl_append];rintro⟨hw,_,hg⟩;obtain⟨x,_,hG,h1,h2,h3⟩:=step hw;have hc:=h1.1 hg;exact⟨_,h3 hc,pR hG hi hki h2 hc⟩
theorem uQ {s:ar} {T:List aQ} {M:Aut} {S:Nat→Nat→Prop} (hS:Aq s T M S) (hn:M.n=gN s T) (hV:(aF s T).Ok) (hok:gc T) {ids:List Int} (hh:∀t∈ids,gv s T t=true):Aut.Way M 0 (tB s T ids)↔ma (aF s T) ids none:=by
 have h:=(Fh hS hn hV hok (kJ s T ids) (fun i hi=>DJ hh hi) ids.length (Nat.le_refl _)).1;rw [List.take_of_length_le (by rw [kJ];exact Nat.le_refl _)]at h;rw [h];exact⟨fun h j hj=>h j hj hj,fun h j hj _=>h j hj⟩
theorem LB {M:Aut} (hn:M.n≤1032) (m s k:Nat):Aut.via M m s k≤1032^m:=by
 unfold Aut.via;split
 ·exact Nat.le_trans (Aut.goN_le _ _) (Nat.pow_le_pow_left hn m)
 ·exact Nat.zero_le _
theorem HG {M:Aut} (hn:M.n≤1032) (m s:Nat) {k:Nat} (hk:k≤1032):Aut.sumN (Aut.via M m s) k≤1032^(m+1):=by
 have:=Aut.sumN_le (LB hn m s) k;rw [Nat.pow_succ,Nat.mul_comm];exact Nat.le_trans this (Nat.mul_le_mul_right _ hk)
theorem Ht {M:Aut} (hn:M.n≤1032):∀ {u:List Nat} {L s:Nat},(∀k∈u,k≤1032)→Aut.pre M L s u≤u.length*1032^(L+1)
 | [],L,s,_=>Nat.zero_le _
 |k::u,L,s,h=>by
  have h1:=HG hn (L-1) s (h k (by simp));have h2:=Ht hn (u:=u) (L:=L-1) (s:=M.nxt s k) fun j hj=>h j (by simp [hj]);have h3:(1032:Nat)^(L-1+1)≤1032^(L+1):=Nat.pow_le_pow_right (by decide) (by omega);have h4:u.length*1032^(L-1+1)≤u.length*1032^(L+1):=Nat.mul_le_mul_left _ h3;show Aut.sumN (Aut.via M (L-1) s) k+Aut.pre M (L-1) (M.nxt s k) u≤(u.length+1)*1032^(L+1);rw [Nat.succ_mul];omega
theorem qF {x L:Nat} (h:x≤(L+1)*1032^(L+1)) (hL:L≤20000):(d' 4294967296 x).length≤L+2:=by
 refine ow dN (Nat.lt_of_le_of_lt h ?_);have h1:(1032:Nat)^(L+1)≤4294967296^(L+1):=Nat.pow_le_pow_left (by decide) _;have h2:(L+1)*1032^(L+1)≤20001*4294967296^(L+1):=Nat.mul_le_mul (by omega) h1;have h3:20001*4294967296^(L+1) <4294967296*4294967296^(L+1):=Nat.mul_lt_mul_of_pos_right (by decide) (Nat.pow_pos (by decide));rw [show L+2=(L+1)+1 from rfl,Nat.pow_succ 4294967296 (L+1),Nat.mul_comm (4294967296^(L+1))];omega
structure fV (w q:World) (hi c a g L:Nat) (M:Aut) (s:ar) (T:List aQ) (Rb Ab Sb Wb tot st:Nat) (want:Int):Prop where
 code:cM w q hi c a g L M s T
 hhi:hi≤q.heap.size
 all:∃l:Sl,q.heap[Ab]? =some (.cells #[l.v] bZ (0,0))∧ba q l tot
 state:q.heap[Sb]? =some (.cells #[.int .i64 (st:Int)] aU (0,0))
 want:q.heap[Wb]? =some (.cells #[.int .i64 want] aU (0,0))
 res:q.heap[Rb]? =some (.cells #[bS.v] bZ (0,0))
section
variable {w q q':World} {hi c a g L:Nat} {M:Aut} {s:ar} {T:List aQ} {Rb Ab Sb Wb tot st:Nat} {want:Int}
theorem fV.from (h:fV w q hi c a g L M s T Rb Ab Sb Wb tot st want) (f:lY q q' c a g L M) (t:aq c q q') (n1:Ab≠c) (n2:Sb≠c) (n3:Wb≠c) (n4:Rb≠c):fV w q' hi c a g L M s T Rb Ab Sb Wb tot st want:=by
 obtain⟨l,h1,h2⟩:=h.all;obtain⟨d,lc,hx,_⟩:=h.code.cnt;exact⟨f.code h.code h.hhi t,Nat.le_trans h.hhi t.size,⟨l,t.held n1 h1,h2.past hx (by decide) t⟩,t.held n2 h.state,t.held n3 h.want,t.held n4 h.res⟩
theorem fV.on (h:fV w q hi c a g L M s T Rb Ab Sb Wb tot st want) (hb:Below q.heap.size q q'):fV w q' hi c a g L M s T Rb Ab Sb Wb tot st want:=by
 obtain⟨l,h1,h2⟩:=h.all;exact⟨h.code.then hb,Nat.le_trans h.hhi hb.size,⟨l,ag hb h1,h2.on hb⟩,ag hb h.state,ag hb h.want,ag hb h.res⟩
theorem kN {q:World} {b:Nat} {v0:Value} {n:Int} {K:World→Prop} (h:q.heap[b]? =some (.cells #[v0] aU (0,0))) (hk:∀q',q'.heap[b]? =some (.cells #[.int .i64 n] aU (0,0))→aq b q q'→(∀B w0,B≤b→Below B w0 q→Below B w0 q')→K q'):
  (Value.int .i64 n).oneCell'=true∧(∃u,q.cell? ⟨b,0,none⟩=some u)∧q.frozen? ⟨b,0,none⟩=false∧∀q',q'=q.setCell ⟨b,0,none⟩ (.int .i64 n)→K q':=
 dU (aW h [.int .i64 n] rfl (fun v hv=>by rw [List.mem_singleton.1 hv];rfl) fun q' h1 h2 h3 h4=>hk q' h1 (cO h4 h2 h3) h4)
set_option maxHeartbeats 1000000 in
theorem yT (h:fV w q hi c a g L M s T Rb Ab Sb Wb tot st want) (a1:w.heap.size≤Ab) (a2:Ab<hi) (s1:w.heap.size≤Sb) (s2:Sb<hi) (n1:Ab≠Sb) (n2:hi≤Wb) (r1:Rb≠Ab) (r2:Rb≠Sb) (id:Int) (nx:Nat) (r:Sl) (v:Nat) (hr:ba q r v) (d1:(d' 4294967296 tot).length≤100000) (d2:(d' 4294967296 v).length≤100000):
  bE gw (.func (.func 99) #[] #[.pointer (some ⟨Wb,0,none⟩),.pointer (some ⟨Sb,0,none⟩),.pointer (some ⟨Ab,0,none⟩)]) [.int .i64 id,.int .i64 (nx:Int),.agg #[r.v]] q fun e q2=>∃b:Bool,e= .returned (.bool b)∧(b=true→id=want∧fV w q2 hi c a g L M s T Rb Ab Sb Wb tot nx want)∧(b=false→id≠want∧fV w q2 hi c a g L M s T Rb Ab Sb Wb (tot+v) st want):=by
 refine bT (by kernel_rfl) ?_;refine aO (Ci id (nx:Int) r.a r.n r.c (some ⟨Wb,0,none⟩) (some ⟨Sb,0,none⟩) (some ⟨Ab,0,none⟩) q) ?_;intro w1 hw1;have b1:Below q.heap.size q w1:=by subst hw1;exact af _ _
 have x1:w1.heap[q.heap.size]? =some (.cells #[r.v] bZ (0,0)):=by subst hw1;exact ak _ _
 have h1:=h.on b1;obtain⟨l,hl,hN⟩:=h1.all;refine ah.mk _ rfl ⟨_,aN h1.want,ac.mk (fun he=>?_) fun he=>?_⟩
 ·have he:id=want:=by simpa using he
  refine ah.mk _ rfl (kN (n:=(nx:Int)) h1.state fun q' hx t B'=>⟨true,rfl,fun _=>⟨he,h1.code.box h1.state s1 s2 (by decide) t,Nat.le_trans h1.hhi t.size,⟨l,t.held n1 hl,hN.past h1.state (by decide) t⟩,hx,t.held (by omega) h1.want,t.held r2 h1.res⟩,fun h=>(by cases h)⟩)
 ·have he:¬id=want:=by simpa using he
  refine ah.mk _ rfl ⟨_,_,_,aJ hl,_,_,_,aJ x1,?_⟩;intro w3 hw3;have b3:Below w1.heap.size w1 w3:=by subst hw3;exact af _ _
  have x3:w3.heap[w1.heap.size]? =some (.cells #[r.v] bZ (0,0)):=by subst hw3;exact ak _ _
  refine(pY w3 l r tot v (hN.on b3) ((hr.on b1).on b3) d1 d2 (nb w1) 1 (aN x3) (Array.getElem?_eq_some_iff.1 x3).1).mono ?_;rintro e w4 ⟨y,rfl,hy,b4⟩;have h4:=(h1.on b3).on b4;obtain⟨l',hl',hN'⟩:=h4.all;refine⟨y.a,y.n,y.c,rfl,ah.mk _ rfl (ce (s:=y) hl' fun q' hx hN9 hB9 hs9 hz9=>⟨false,rfl,fun h=>(by cases h),fun _=>⟨he,?_⟩⟩)⟩;have t:=cO hB9 hs9 hz9;exact⟨h4.code.box hl' a1 a2 (by decide) t,Nat.le_trans h4.hhi t.size,⟨y,hx,hN9 _ _ hy⟩,t.held (Ne.symm n1) h4.state,t.held (by omega) h4.want,t.held r1 h4.res⟩
end
def LA (w':World) (M:Aut) (s:ar) (T:List aQ) (L:Nat) (ids:List Int) (r:Sl) (k:Int):Prop:=
 (ids.length>L→k=3∧ba w' r 0)∧(ids.length≤L→((¬(∀t∈ids,(aF s T).Has t)→k=4∧ba w' r 0)∧((∀t∈ids,(aF s T).Has t)→(¬ma (aF s T) ids none→k=8∧ba w' r 0)∧(ma (aF s T) ids none→k=0∧ba w' r (Aut.rk M 0 (tB s T ids))))))
set_option maxHeartbeats 4000000 in
theorem lS (w:World) (c a g L:Nat) (M:Aut) (s:ar) (T:List aQ) (S:Nat→Nat→Prop) (h:cM w w 0 c a g L M s T) (hF:gl M s T) (hL:L≤20000) (hS:Aq s T M S) (hok:gc T) (hV:(aF s T).Ok) (A:Option Addr) (C:Nat) (ids:List Int) (row:∀ {q:World},aq c w q→Rw aE 1 q A ids) (hl:ids.length≤10000):
  CP 51 #[.pointer (some ⟨c,0,none⟩),.slice A ids.length C] w fun e w'=>∃(r:Sl) (k:Int),e= .returned (.tuple #[.agg #[r.v],.int .i64 k])∧LA w' M s T L ids r k∧cM w' w' 0 c a g L M s T∧aq c w w':=by
 refine aO (B1 (some ⟨c,0,none⟩) A ids.length C w) ?_;have hMn:=hF.n;have hfew:=hF.few;intro w1 hw1;have b1:Below w.heap.size w w1:=by subst hw1;exact af _ _
 have z1:w1.heap.size=w.heap.size+1:=by subst hw1;exact av _ _
 have x1:w1.heap[w.heap.size]? =some (.cells #[bS.v] bZ (0,0)):=by subst hw1;exact ak _ _
 have h1:=h.then b1;have hclt:=h.lt;obtain⟨d,l,hx,_⟩:=h1.cnt;have none_:∀ {K:World→Prop},(∀(q':World),q'.heap[w.heap.size]? =some (.cells #[bS.v] bZ (0,0))→ba q' bS 0→cM q' q' 0 c a g L M s T→aq c w q'→K q')→bS.v.oneCell'=true∧(∃u,w1.cell? ⟨w.heap.size,0,none⟩=some u)∧w1.frozen? ⟨w.heap.size,0,none⟩=false∧∀q',q'=w1.setCell ⟨w.heap.size,0,none⟩ bS.v→K q':=by
  intro K hk;refine ce (s:=bS) x1 fun q' hx' hN' hB' _ _=>?_;have hb:=hB' _ _ (Nat.le_refl _) b1;exact hk q' hx' (jg _) ((h.then hb).now 0) (aq.of_below hb)
 refine ac.no rfl (ah.mk _ rfl ⟨_,aj _ _ hx 2,ac.mk (fun c1=>?_) fun c1=>ah.mk _ rfl ⟨_,aj _ _ hx 0,?_⟩⟩)
 ·have c1:=of_decide_eq_true c1;refine none_ fun q' hx' hN hC ht=>⟨_,_,_,aJ hx',bS,3,rfl,⟨fun _=>⟨rfl,hN⟩,fun h=>by omega⟩,hC,ht⟩
 have c1:=of_decide_eq_false c1;refine(Cy w1 a g M h1.on.aut s T h1.on.grid hMn S hS hok hV A C ids (row (aq.of_below b1)) hl).mono ?_;rintro e w4 ⟨r0,okb,rfl,hok1,hok2,hw4⟩;subst w4;refine⟨_,_,rfl,ac.mk (fun c2=>?_) fun c2=>?_⟩
 ·have c2:okb=false:=by simpa using c2
  refine none_ fun q' hx' hN hC ht=>⟨_,_,_,aJ hx',bS,4,rfl,⟨fun h=>by omega,fun _=>⟨fun _=>⟨rfl,hN⟩,fun hh=>?_⟩⟩,hC,ht⟩;have:=hok1.2 hh;rw [c2]at this;cases this
 have c2:okb=true:=by simpa using c2
 have hhas:=hok1.1 c2;obtain⟨p,rfl,hp,hgp⟩:=hok2 c2;refine ah.mk _ rfl ⟨_,aj _ _ hx 0,(jA w1 a g M h1.on.aut _).mono ?_⟩;rintro e w6 ⟨rfl,hw6⟩;subst w6;rw [qL hp];refine⟨_,rfl,ac.mk (fun c3=>?_) fun c3=>?_⟩
 ·have c3:M.good p=false:=by simpa using c3
  refine none_ fun q' hx' hN hC ht=>⟨_,_,_,aJ hx',bS,8,rfl,⟨fun h=>by omega,fun _=>⟨fun hh=>absurd hhas hh,fun _=>⟨fun _=>⟨rfl,hN⟩,fun hf=>?_⟩⟩⟩,hC,ht⟩;rw [hgp.2 hf]at c3;cases c3
 have c3:M.good p=true:=by simpa using c3
 have hfirst:=hgp.1 c3;have hh2:∀t∈ids,gv s T t=true:=fun t ht=>(jv hok t).2 (hhas t ht);obtain⟨ks,hks⟩:∃ks,ks=tB s T ids:=⟨_,rfl⟩;have hway:Aut.Way M 0 ks:=by rw [hks];exact(uQ hS hMn hV hok hh2).2 hfirst
 have hkl:ks.length=ids.length:=by rw [hks];exact kJ s T ids
 have hkat:∀(i:Nat) (h:i<ids.length),oT s T ids[i]=some (ks[i]'(by omega)):=fun i hi=>by
  subst hks;exact DJ hh2 hi
 have hkb:∀k∈ks,k<gN s T:=fun k hk=>by
  obtain⟨i,hi,rfl⟩:=List.getElem_of_mem hk;exact(dJ (hkat i (by omega))).1
 intro w8 hw8 w9 hw9;have b8:Below w1.heap.size w1 w8:=by subst hw8;exact af _ _
 have b9:Below w8.heap.size w8 w9:=by subst hw9;exact af _ _
 have z8:w8.heap.size=w1.heap.size+1:=by subst hw8;exact av _ _
 have z9:w9.heap.size=w8.heap.size+1:=by subst hw9;exact av _ _
 have x8:w9.heap[w1.heap.size]? =some (.cells #[bS.v] bZ (0,0)):=ag b9 (by subst hw8;exact ak _ _);have x9:w9.heap[w8.heap.size]? =some (.cells #[.int .i64 0] aU (0,0)):=by subst hw9;exact ak _ _
 have b89:=ae b8 b9;have b09:=ae b1 b89;refine kN (n:=0) x9 fun w10 x10 t10 B10=>?_;have b10:Below w.heap.size w w10:=B10 _ _ (by omega) b09;have x8':=t10.held (by omega) x8;have xr:=t10.held (by omega) (ag b89 x1);have z10:=t10.size;have hi10:w9.heap.size≤w10.heap.size:=z10;have hst0:∀i,i≤ids.length→(ks.take i).foldl M.nxt 0<M.N:=by
  intro i;induction i with
  |zero=>intro _;exact hF.ok.pos
  |succ i ih=>
   intro hi;rw [List.take_add_one,List.getElem?_eq_getElem (by omega),List.foldl_append];exact hF.ok.lt _ _ (ih (by omega)) (by rw [hMn];exact hkb _ (List.getElem_mem _))
 have wayAt:∀(i:Nat) (hi:i<ids.length),M.good (M.nxt ((ks.take i).foldl M.nxt 0) (ks[i]'(by omega)))=true:=by
  intro i hi;have e:ks=(ks.take i++ [ks[i]'(by omega)])++ks.drop (i+1):=by
   rw [List.append_assoc,List.singleton_append, ←List.drop_eq_getElem_cons,List.take_append_drop]
  have:∀(u v:List Nat) (x:Nat),Aut.Way M x (u++v)→Aut.Way M x u:=by
   intro u;induction u with
   |nil=>exact fun v x _=>trivial
   |cons k u ih=>exact fun v x hw=>⟨hw.1,hw.2.1,ih v _ hw.2.2⟩
  have h2:=this _ _ 0 (by rw [←e];exact hway);exact(Aut.way_append.1 h2).2.2
 intro I hI;have key:=aV (α:=World) ids.length (fun i q=>cM w q w10.heap.size c a g L M s T∧w10.heap.size≤q.heap.size∧(∃l:Sl,q.heap[w1.heap.size]? =some (.cells #[l.v] bZ (0,0))∧ba q l (Aut.pre M ids.length 0 (ks.take i)))∧q.heap[w8.heap.size]? =some (.cells #[.int .i64 (((ks.take i).foldl M.nxt 0:Nat):Int)] aU (0,0))∧q.heap[w.heap.size]? =some (.cells #[bS.v] bZ (0,0))) (fun i q=>I [.int .i64 (i:Int)] q) w10 ⟨(h.now _).then b10,Nat.le_refl _,⟨bS,x8',jg _⟩,x10,xr⟩ ?_ ?_
 ·exact key
 ·rintro i hi ih q ⟨hC,hq,⟨l,hlx,hN⟩,hsx,hrx⟩;have hlt:=hC.t;obtain⟨pw,hpw,c0⟩:=aS (row hC.t) hi rfl;refine hI _ q (ac.yes (decide_eq_true (by omega)) (ah.mk pw hpw ⟨by omega,by omega,_,c0,?_⟩));intro w12 hw12;have b12:Below q.heap.size q w12:=by subst hw12;exact af _ _
  have x12:w12.heap[q.heap.size]? =some (.cells #[.int .i64 0] aU (0,0)):=by subst hw12;exact ak _ _
  refine kN (n:=ids[i]) x12 fun w13 x13 t13 B13=>?_;have b13:Below q.heap.size q w13:=B13 _ _ (Nat.le_refl _) b12;have hki:ks[i]'(by omega) <gN s T:=hkb _ (List.getElem_mem _);have hsi:=hst0 i (by omega);obtain⟨st,hst⟩:∃st,st=(ks.take i).foldl M.nxt 0:=⟨_,rfl⟩;obtain⟨tot,htot⟩:∃tot,tot=Aut.pre M ids.length 0 (ks.take i):=⟨_,rfl⟩;obtain⟨left,hleft⟩:∃left,left=ids.length-1-i:=⟨_,rfl⟩;have hg:=wayAt i hi;rw [←hst]at hsx hsi hg;rw [←htot]at hN;have ht1:tot≤i*1032^(ids.length+1):=by
   rw [htot];have:=Ht (M:=M) (by omega) (u:=ks.take i) (L:=ids.length) (s:=0) fun k hk=>by have:=hkb k (List.mem_of_mem_take hk);omega
   rwa [List.length_take,Nat.min_eq_left (by omega)]at this
  have ht2:∀k,k≤gN s T→tot+Aut.sumN (Aut.via M left st) k≤(ids.length+1)*1032^(ids.length+1):=by
   intro k hk;have h1:=HG (M:=M) (by omega) left st (k:=k) (by omega);have h2:(1032:Nat)^(left+1)≤1032^(ids.length+1):=Nat.pow_le_pow_right (by decide) (by omega);have h3:i*1032^(ids.length+1)≤ids.length*1032^(ids.length+1):=Nat.mul_le_mul_right _ (by omega);rw [Nat.succ_mul];omega
  have R13:fV w w13 w10.heap.size c a g L M s T w.heap.size w1.heap.size w8.heap.size q.heap.size tot st ids[i]:=⟨hC.then b13,Nat.le_trans hq b13.size,⟨l,ag b13 hlx,hN.on b13⟩,ag b13 hsx,x13,ag b13 hrx⟩;obtain⟨ki,hkid⟩:∃ki,ki=ks[i]'(by omega):=⟨_,rfl⟩;rw [←hkid]at hki hg;have hplc:oT s T ids[i]=some ki:=by rw [hkid];exact hkat i hi
  refine⟨_,aN R13.state,Ar.ok64 (by omega) (by omega) (Ar.nat left (by omega) (by omega) ?_)⟩;refine(jh w w10.heap.size c a g L M s T hF hL st left hsi (by omega) _ w13 (fun k q'=>k≤ki∧fV w q' w10.heap.size c a g L M s T w.heap.size w1.heap.size w8.heap.size q.heap.size (tot+Aut.sumN (Aut.via M left st) k) st ids[i]) (fun q'=>fV w q' w10.heap.size c a g L M s T w.heap.size w1.heap.size w8.heap.size q.heap.size (tot+Aut.sumN (Aut.via M left st) ki) (M.nxt st ki) ids[i]) ⟨Nat.zero_le _,R13⟩ (fun k q' h=>h.2.code) ?_ ?_).mono ?_
  ·rintro k q' hk ⟨h1,h3⟩ hb;refine⟨?_,?_⟩
   ·have:k≠ki:=fun e=>by
     rw [e,hg]at hb;cases hb
    omega
   ·have:Aut.via M left st k=0:=by unfold Aut.via;rw [hb];rfl
    show fV w q' _ c a g L M s T _ _ _ _ (tot+(Aut.sumN (Aut.via M left st) k+Aut.via M left st k)) st ids[i];rw [this];exact h3
  ·rintro k q1 hk ⟨h1,h3⟩ hgk r q2 hf ht hNr;have h4:=h3.from hf ht (by omega) (by omega) (by omega) (by omega);have d1:=qF (ht2 k (by omega)) (by omega);have hv:Aut.via M left st k≤(ids.length+1)*1032^(ids.length+1):=by
    have:=ht2 (k+1) (by omega);have e:Aut.sumN (Aut.via M left st) (k+1)=Aut.sumN (Aut.via M left st) k+Aut.via M left st k:=rfl;omega
   have d2:=qF hv (by omega);refine bE.mono (yT h4 (by omega) (by omega) (by omega) (by omega) (by omega) (by omega) (by omega) (by omega) ((bn s T).getD k 0) (M.nxt st k) r _ hNr (by omega) (by omega)) ?_;rintro e q3 ⟨b,rfl,hb1,hb0⟩;have hpk:=oE hF.rise hk;refine⟨b,rfl,fun hb=>?_,fun hb=>?_⟩
   ·obtain⟨he,hR⟩:=hb1 hb;rw [he,hplc]at hpk;cases hpk;exact hR
   ·obtain⟨he,hR⟩:=hb0 hb;refine⟨?_,?_⟩
    ·have:k≠ki:=fun e=>he (by rw [e];exact(dJ hplc).2.1);omega
    ·rw [Nat.add_assoc]at hR;exact hR
  ·rintro e w14 ⟨b,rfl,hQ,hP⟩;cases b with
   |false=>
    have:=(hP rfl).1;omega
   |true=>
    have hR:=hQ rfl;have htk:ks.take (i+1)=ks.take i++ [ki]:=by rw [List.take_add_one,List.getElem?_eq_getElem (by omega),hkid];rfl
    refine⟨_,rfl,Ar.nat (i+1) rfl (by omega) (ih w14 ⟨hR.code,hR.hhi,?_,?_,hR.res⟩)⟩
    ·rw [htk,Aut.pre_snoc, ←htot, ←hst,List.length_take,Nat.min_eq_left (by omega), ←hleft];exact hR.all
    ·rw [htk,List.foldl_append, ←hst];exact hR.state
 ·rintro q ⟨hC,hq,⟨l,hlx,hN⟩,hsx,hrx⟩;refine hI _ q (ac.no (decide_eq_false (by omega)) ⟨_,_,_,aJ hlx,ce (s:=l) hrx fun w15 hx15 hN15 hB15 hs15 hz15=>⟨_,_,_,aJ hx15,l,0,rfl,⟨fun h=>by omega,fun _=>⟨fun hh=>absurd hhas hh,fun _=>⟨fun hh=>absurd hfirst hh,fun _=>⟨rfl,?_⟩⟩⟩⟩,?_,?_⟩⟩)
  ·have h2:=hN15 _ _ hN;rw [List.take_of_length_le (by omega), ←hkl,Aut.pre_rk,hks]at h2;exact h2
  ·exact(hC.box hrx (Nat.le_refl _) (by omega) (by decide) (cO hB15 hs15 hz15)).now 0
  ·have t:=cO hB15 hs15 hz15;have t0:=hC.t;exact⟨t.os.trans t0.os,t.tape.trans t0.tape,t.output.trans t0.output,Nat.le_trans t0.size t.size,fun j hj hne=>(t.block j (Nat.lt_of_lt_of_le hj t0.size) (by omega)).trans (t0.block j hj hne)⟩
def sZ:ar:={}
theorem Ir:sZ.right=true:=by decide+kernel
theorem Iz:dB sZ= .ok aH:=by
 have h:(match dB sZ with | .ok t=>decide (t=aH) | .error _=>false)=true:=by decide+kernel
 cases hx:dB sZ with
 |error q=>rw [hx]at h;cases h
 |ok t=>rw [hx]at h;rw [of_decide_eq_true h]
theorem Gt:(bn sZ aH).length=256:=by decide+kernel
theorem HD (w:World):dA w ⟨false,bS,bS,bS,bS,bS⟩ sZ:=by
 have none_:∀ {α:Type} {enc:α→List Value} {sz:Nat},Rw enc sz w none []:=fun j x hj=>by simp at hj
 exact⟨rfl,rfl,none_,rfl,none_,rfl,none_,rfl,none_,rfl,none_⟩
theorem yl {s:ar} {T:List aQ} (hn:gN s T≤1032) {f:Nat→Nat} (hc:Aut.Cls (dk s T) f):Aut.Stays (Aut.least (dk s T) f):=by
 intro p hp hb k hk;have hM:=jq (s:=s) (T:=T) hn;have hS:Aut.Sim (dk s T) f ((Aut.metL (dk s T) f).getD p 0) p:=⟨Aut.getD_lt hM f hp,hp,rfl⟩;have hk':k< (dk s T).n:=hk;rw [(hS.next hM hc hk').good hM hc];rw [hS.good hM hc]at hb;have hb':¬(Aut.metL (dk s T) f).getD p 0≤gN s T:=of_decide_eq_false hb;have:(dk s T).good ((dk s T).nxt ((Aut.metL (dk s T) f).getD p 0) k)=dQ (gN s T) (mT s T) (eu s T) ((Aut.metL (dk s T) f).getD p 0) k:=ig _ hk';rw [this];unfold dQ;rw [if_neg (by omega),if_neg hb']
theorem uw {s:ar} {T:List aQ} (hn:gN s T≤1032) {f:Nat→Nat} (hc:Aut.Cls (dk s T) f):(Aut.least (dk s T) f).N≤gN s T+2:=
 Aut.met_few (jq hn) hc.lt (dk s T).N
theorem oZ {s:ar} {T:List aQ} (hn:gN s T≤1032) (hr:lU s T) {f:Nat→Nat} (hc:Aut.Cls (dk s T) f):gl (Aut.least (dk s T) f) s T where
 n:=rfl
 few:=hn
 rise:=hr
 ok:=Aut.least_ok (jq hn) hc.lt
 N:=by have:=uw hn hc;omega
 stays:=yl hn hc
theorem nM:gN sZ aH=256:=Gt
theorem xY:(∀i:Nat,i<256→(bn sZ aH).getD i 0=(i:Int))∧lU sZ aH:=by decide+kernel
theorem Qu:(aF sZ aH).ms= []:=by decide+kernel
theorem LH:∀i:Nat,i<256→(aF sZ aH).ex (i:Int)= [(i:Int)]:=by decide+kernel
theorem OT (x y:Int) (hx:0≤x) (hy:0≤y):(aF sZ aH).cut x y=false:=by
 unfold Voc.cut;rw [decide_eq_false (by omega),decide_eq_false (by omega),Bool.false_or,Bool.false_or];show cutB [] [] x y=false;unfold cutB;exact decide_eq_false fun e=>e.1 rfl
theorem GP:∀Z:List Int,Z≠ []→(∀x∈Z,0≤x)→chop (aF sZ aH).cut Z= [Z]
 | [],h,_=>absurd rfl h
 | [x],_,_=>rfl
 |x::y::r,_,h=>by
  have hx:=h x (by simp);have hy:=h y (by simp);rw [chop,if_neg (by rw [OT x y hx hy];exact Bool.false_ne_true),GP (y::r) (by simp) fun z hz=>h z (List.mem_cons_of_mem _ hz)]
theorem Kq (Z:List Int) (h:Z≠ []) (h0:∀x∈Z,0≤x):(aF sZ aH).encode Z=Z:=by
 unfold Voc.encode;rw [GP Z h h0,List.flatMap_cons,List.flatMap_nil,List.append_nil];cases Z with
 |nil=>exact absurd rfl h
 |cons x r=>
  have:=h0 x List.mem_cons_self;show(if x<0 then _ else after (aF sZ aH).ms (aF sZ aH).ms.length (x::r))=_;rw [if_neg (by omega),Qu];rfl
theorem Dn (t:Int):(aF sZ aH).items t=(aF sZ aH).ex t:=rfl
theorem O9 {i:Nat} (hi:i<256):mT sZ aH i=true:=by
 unfold mT;rw [xY.1 i hi];refine decide_eq_true ?_;show(aF sZ aH).encode ((aF sZ aH).itemsAll [(i:Int)])= [(i:Int)];unfold Voc.itemsAll;simp only [List.flatMap_cons,List.flatMap_nil,List.append_nil,Dn];rw [LH i hi,Kq _ (by simp) (by intro x hx;simp at hx;omega)]
theorem L3 {i j:Nat} (hi:i<256) (hj:j<256):eu sZ aH i j=true:=by
 unfold eu;rw [xY.1 i hi,xY.1 j hj];refine decide_eq_true ?_;show(aF sZ aH).encode ((aF sZ aH).itemsAll [(i:Int),(j:Int)])= [(i:Int),(j:Int)];unfold Voc.itemsAll;simp only [List.flatMap_cons,List.flatMap_nil,List.append_nil,Dn];rw [LH i hi,LH j hj,Kq _ (by simp) (by intro x hx;simp at hx;omega)];rfl
theorem Dv {i k:Nat} (hi:i≤256) (hk:k<256):dQ 256 (mT sZ aH) (eu sZ aH) i k=true:=by
 unfold dQ;by_cases e:i=0
 ·rw [if_pos e,O9 hk]
 ·rw [if_neg e,if_pos hi,L3 (by omega) hk]
theorem Lq {al:Nat→Bool} {rel:Nat→Nat→Bool} (ha:∀i,i<256→al i=true) (hm:∀i k,i≤256→k<256→dQ 256 al rel i k=true) {M:Aut} (hM:M=eS 256 al rel) {f:Nat→Nat} (hc:Aut.Cls M f):(Aut.least M f).N=1:=by
 subst hM;have hact:∀i,i<257→tv al i=true:=by
  intro i hi;unfold tv;by_cases e:i=0
  ·subst e;rfl
  ·rw [ha _ (by omega)];simp
 have hrow:∀i,i<257→nH 256 al rel i=nH 256 al rel 0:=fun i hi=>rr.2 fun k hk=>by rw [hm _ _ (by omega) hk,hm _ _ (by omega) hk]
 have hone:(lP 256 al rel (256+1)).length=1:=by
  apply Nat.le_antisymm
  ·refine ij (m:=[nH 256 al rel 0]) (iE _) fun r hr=>?_;obtain⟨i,hi,_,rfl⟩:=(gY _ _).1 hr;rw [hrow i hi];exact List.mem_cons_self
  ·refine ij (l:=[nH 256 al rel 0]) (by simp) fun r hr=>?_;rw [List.mem_singleton.1 hr];exact(gY _ _).2 ⟨0,by decide,hact 0 (by decide),rfl⟩
 have hbad:¬EH 256 al rel (256+1)=true:=by
  intro h;obtain⟨i,k,hi,_,hk,hh⟩:=tc.1 h;rw [hm i k (by omega) hk]at hh;cases hh
 rw [Jo,CM (n:=256) (by decide) (fun i k hi hk _=>ha k hk) hc,hone,if_neg hbad]
theorem Ic {f:Nat→Nat} (hc:Aut.Cls (dk sZ aH) f):(Aut.least (dk sZ aH) f).N=1:=
 Lq (fun i hi=>O9 hi) (fun i k hi hk=>Dv hi hk) (by unfold dk;rw [nM]) hc
theorem Fp (c:Nat):∀n:Nat,Aut.sumN (fun _=>c) n=n*c
 |0=>(Nat.zero_mul c).symm
 |n+1=>by rw [Nat.succ_mul, ←Fp c n];rfl
section
variable {M:Aut} {S:Nat→Nat→Prop}
theorem DC (hS:Aq sZ aH M S) (hn:M.n=256):∀(m x p k:Nat),S x p→x≤256→k<256→Aut.via M m p k=256^m
 |m,x,p,k,h,hx,hk=>by
  have hnx:=hS.next x p k h (by rw [nM];exact hk);rw [nM,if_pos (Dv hx hk)]at hnx;have hg:=hS.good _ _ hnx;rw [nM,decide_eq_true (by omega)]at hg;unfold Aut.via;rw [if_pos hg]
  match m with
  |0=>unfold Aut.goN;rw [if_pos hg]
  |m+1=>
   rw [Aut.goN_succ,Aut.sumN_congr (g:=fun _=>256^m) fun j hj=>DC hS hn m (k+1) _ j hnx (by omega) (by omega),hn];rw [Fp,Nat.pow_succ,Nat.mul_comm]
theorem Ql (hS:Aq sZ aH M S) (hn:M.n=256) {m x p:Nat} (h:S x p) (hx:x≤256):Aut.goN M m p=256^m:=by
 have hg:=hS.good _ _ h;rw [nM,decide_eq_true hx]at hg;cases m with
 |zero=>unfold Aut.goN;rw [if_pos hg]
 |succ m=>
  rw [Aut.goN_succ,Aut.sumN_congr (g:=fun _=>256^m) fun j hj=>DC hS hn m x _ j h hx (by omega),hn];rw [Fp,Nat.pow_succ,Nat.mul_comm]
theorem PQ (hS:Aq sZ aH M S) (hn:M.n=256):Aut.rk M 0 [97,98]=24930∧Aut.Way M 0 [97,98]:=by
 have h1:=hS.next 0 0 97 hS.zero (by rw [nM];decide);rw [nM,if_pos (Dv (by decide) (by decide))]at h1;have g1:=hS.good _ _ h1;rw [nM,decide_eq_true (by decide)]at g1;have h2:=hS.next _ _ 98 h1 (by rw [nM];decide);rw [nM,if_pos (Dv (by decide) (by decide))]at h2;have g2:=hS.good _ _ h2;rw [nM,decide_eq_true (by decide)]at g2;refine⟨?_,by omega,g1,by omega,g2,trivial⟩;show Aut.sumN (Aut.via M 1 0) 97+(Aut.sumN (Aut.via M 0 (M.nxt 0 97)) 98+0)=24930;rw [Aut.sumN_congr (g:=fun _=>256^1) fun j hj=>DC hS hn 1 0 0 j hS.zero (by decide) (by omega),Aut.sumN_congr (g:=fun _=>256^0) fun j hj=>DC hS hn 0 _ _ j h1 (by decide) (by omega),Fp,Fp]
end
theorem eQ {n d q:Nat} (h:n=d+10*q) (hd:d<10) (h0:n≠0):d' 10 n=(d:Int)::d' 10 q:=by
 have h1:n%10=d:=by omega
 have h2:n/10=q:=by omega
 rw [lj LQ h0,h1,h2]
theorem M8:mF 65536= [54,53,53,51,54]:=by
 unfold mF;rw [if_neg (by decide),eQ (d:=6) (q:=6553) (by decide) (by decide) (by decide),eQ (d:=3) (q:=655) (by decide) (by decide) (by decide),eQ (d:=5) (q:=65) (by decide) (by decide) (by decide),eQ (d:=5) (q:=6) (by decide) (by decide) (by decide),eQ (d:=6) (q:=0) (by decide) (by decide) (by decide),eC];decide
theorem MU:mF 24930= [50,52,57,51,48]:=by
 unfold mF;rw [if_neg (by decide),eQ (d:=0) (q:=2493) (by decide) (by decide) (by decide),eQ (d:=3) (q:=249) (by decide) (by decide) (by decide),eQ (d:=9) (q:=24) (by decide) (by decide) (by decide),eQ (d:=4) (q:=2) (by decide) (by decide) (by decide),eQ (d:=2) (q:=0) (by decide) (by decide) (by decide),eC];decide
theorem GC:tB sZ aH [97,98]= [97,98]:=by decide+kernel
theorem OR:∀t∈ [(97:Int),98],gv sZ aH t=true:=by decide+kernel
theorem OF (w:World) {v:Nat} (h:bB w v sZ aH):gc aH∧(aF sZ aH).Ok:=by
 obtain⟨w0,x,tp,bp,mp,d,l,uses,hR⟩:=h;exact⟨hR.parts.ok,pl hR.parts⟩
set_option maxHeartbeats 1000000 in
theorem oa (w:World):CP 35 #[] w fun e w'=>e= .returned (.bool true)∧Below w.heap.size w w':=by
 refine aO (CO w) ?_;refine(lW w ⟨false,bS,bS,bS,bS,bS⟩ sZ (HD w)).mono ?_;rintro e w1 ⟨u,rfl,b1,hp⟩;rw [if_pos Ir,Iz]at hp;obtain⟨v,rfl,hV1,hv⟩:=hp;obtain⟨hok,hVok⟩:=OF w1 hV1;refine⟨_,_,_,rfl,(nD w1 v sZ aH hV1 List.Pairwise.nil 1048576).mono ?_⟩;rintro e w2 ⟨u,rfl,hV2,t2,hu⟩;rw [Gt,if_neg (by decide)]at hu;obtain⟨g,rfl,hG,hg⟩:=hu;have b2:Below w.heap.size w w2:=b1.trans (t2.below hv b1.size);have hn:gN sZ aH≤1032:=by rw [nM];decide
 refine⟨_,_,rfl,(ux w2 g sZ aH hG hn xY.2 1048576).mono ?_⟩;rintro e w3 ⟨b3,_,hu⟩;obtain⟨a,rfl,ha,hA⟩:=hu (by rw [nM];decide);refine⟨_,_,rfl,(BW w3 a g _ hA (by show gN sZ aH+2≤10000;omega) (by show gN sZ aH≤10000;omega)).mono ?_⟩;rintro e w4 ⟨b,f,rfl,hc,hb,_,hab,t4⟩;have hF:=oZ hn xY.2 hc;have hN1:=Ic hc;have hS:=sA hn hc;have b4:Below w2.heap.size w2 w4:=b3.trans (t4.below ha b3.size);refine⟨_,rfl,(nz w4 b g _ sZ aH ⟨hb,hG.on b4⟩ hF 3).mono ?_⟩;obtain⟨M,hM⟩:∃M,M=Aut.least (dk sZ aH) f:=⟨_,rfl⟩;rw [←hM]at hF hN1 hS⊢;have hMn:M.n=256:=by rw [hF.n,nM]
 rintro e w5 ⟨b5,_,_,hu⟩;obtain⟨c,rfl,hcs,hC⟩:=hu (by decide) (by rw [hN1];decide);have hclt:=hC.lt;refine⟨_,_,rfl,?_⟩;intro w6 hw6;have b6:Below w5.heap.size w5 w6:=by subst hw6;exact af _ _
 have hC6:=(hC.then b6).now 0;have hr:=LW w5 w6 [97,98] _ rfl hw6;have x6:w6.heap[w5.heap.size]? =some (.cells #[.int .i64 97,.int .i64 98] aU (0,0)):=by subst hw6;exact ak _ _
 refine(lS w6 c b g 3 M sZ aH _ hC6 hF (by decide) hS hok hVok (some (nb w5)) 2 [97,98] (fun {q} t=>?_) (by decide)).mono ?_
 ·exact hr.touch t fun _ p hp=>by cases hp;exact fun e=>by have:w5.heap.size=c:=e;omega
 obtain⟨hab1,hab2⟩:=PQ hS hMn;rintro e w7 ⟨r,k,rfl,hR,hC7,t7⟩;have hh:=OR;obtain⟨rfl,hN7⟩:=((hR.2 (by decide)).2 (fun t ht=>(jv hok t).1 (hh t ht))).2 ((uQ hS hF.n hVok hok hh).1 (by rw [GC];exact hab2));rw [GC,hab1]at hN7;refine⟨_,_,_,_,rfl,?_⟩;intro w8 hw8;have b8:Below w7.heap.size w7 w8:=by subst hw8;exact af _ _
 have x8:w8.heap[w7.heap.size]? =some (.cells #[bS.v] bZ (0,0)):=by subst hw8;exact ak _ _
 refine ce (s:=r) x8 fun w9 x9 N9 B9 _ _=>?_;have b9:=B9 _ _ (Nat.le_refl _) b8;have hN9:=N9 _ _ (hN7.on b8);have hC9:=(hC7.then b9).now 0;have hclt7:=hC7.lt;refine ac.yes rfl ((fG w9 w9 0 c b g 3 M sZ aH hC9 hF (by decide) 2).mono ?_);rintro e w10 ⟨r2,rfl,hN10,hf,t10⟩;have e2:fS M 3 0 2=65536:=by
  unfold fS;rw [if_pos (by rw [hN1];decide)];exact Ql hS hMn hS.zero (by decide)
 rw [e2]at hN10;refine⟨_,_,_,rfl,(kI w10 r2 65536 hN10 (Nat.le_trans (ow (k:=1) (by decide) (by decide)) (by decide))).mono ?_⟩;rintro e w11 ⟨rfl,b11⟩;rw [M8];refine⟨_,rfl,ac.yes (beq_self_eq_true (str [54,53,53,51,54]).toList) ⟨_,_,_,aJ (ag b11 (t10.held (by omega) x9)),?_⟩⟩;have hN11:ba w11 r 24930:=by
  refine ba.on ?_ b11;obtain⟨cc,fz,hx⟩:=hC9.typ;exact hN9.past hx (by decide) t10
 refine(kI w11 r 24930 hN11 (Nat.le_trans (ow (k:=1) (by decide) (by decide)) (by decide))).mono ?_;rintro e w12 ⟨rfl,b12⟩;rw [MU];refine⟨_,rfl,ac.yes (beq_self_eq_true (str [50,52,57,51,48]).toList) ⟨rfl,?_⟩⟩;have h5:=b4.trans (b5.mono b4.size);have h7:=(ae h5 b6).trans (t7.below (by have:=b4.size;omega) (ae h5 b6).size);have h9:=h7.trans (b9.mono h7.size);have h10:=h9.trans (t10.below (by have:=b4.size;omega) h9.size);have h11:=h10.trans (b11.mono h10.size);have h12:=h11.trans (b12.mono h11.size);exact b2.trans (h12.mono b2.size)
theorem sl:∀ {ms:List (Int×Int)} {es T:List aQ} {i:Nat},cd es i ms= .ok T→T.length=es.length+ms.length
 | [],es,T,i,h=>by
  rw [cd]at h;cases h;rfl
 |m::r,es,T,i,h=>by
  rw [cd]at h;cases hq:bU es m with
  |error n=>rw [hq]at h;cases h
  |ok x=>
   rw [hq]at h;have:=sl h;simp only [List.length_append,List.length_cons,List.length_nil]at this⊢;omega
theorem uH (l:List Int):∀i,(fT l i).length≤256+i
 |0=>by show aH.length≤256;simp [aH]
 |i+1=>by
  have ih:=uH l i;rw [fT];split
  ·unfold wB;split
   ·rw [List.length_append,List.length_singleton];omega
   ·omega
  ·omega
theorem Ef {ls:List Int} {cs:List (Int×Int×Int)} {js:List (Int×Int)} {xs:List (Int×Bs)} {T:List aQ} (h:dB (someV ls cs js xs)= .ok T):T.length≤286:=by
 have h1:=sl (pB h rfl).1;have h2:(someV ls cs js xs).merges.length=(fT ls 30).length-256:=by
  show(ao (fT ls 30)).length=_;simp [ao]
 have h3:=uH ls 30;have h4:aH.length=256:=by simp [aH]
 omega
theorem eN.touch {w w':World} {a g:Nat} {M:Aut} (h:eN w a g M) {b:Nat} {c:Array Value} {e:TypeId} {fz:Nat×Nat} (hb:w.heap[b]? =some (.cells c e fz)) (t:aq b w w') (n1:a≠b) (n2:aU≠e) (n3:cN≠e) (n4:bR≠e):eN w' a g M:=by
 obtain⟨o,next,good,of,rs,d,h1,h2,h3⟩:=h;have own:∀ {B sz n:Nat} {t:TypeId} {u:Value} {xs:List Value},w.ownsRow B t sz u n xs→t≠e→w'.ownsRow B t sz u n xs:=fun ho hne=>en hb t ho hne;refine⟨o,next,good,of,rs,d,t.held n1 h1,⟨own h2.onx n3,h2.rl,fun i r hi=>own (h2.each i r hi) n2,own h2.ogd n4,h2.ok⟩,?_⟩;cases o with
 |none=>exact h3
 |some f=>exact⟨h3.1,h3.2.1,h3.2.2.1,own h3.2.2.2 n2⟩
theorem cM.skip {w w':World} {c b g L:Nat} {M:Aut} {s:ar} {T:List aQ} (h:cM w w 0 c b g L M s T) {x:Nat} {cc:Array Value} {e:TypeId} {fz:Nat×Nat} (hb:w.heap[x]? =some (.cells cc e fz)) (t:aq x w w') (nc:c≠x) (na:b≠x) (n1:so≠e) (n2:aU≠e) (n3:nk≠e) (n4:gR≠e) (n5:cN≠e) (n6:bR≠e) (n7:ir≠e) (n8:bZ≠e) (n9:e≠dw):cM w' w' 0 c b g L M s T:=by
 obtain⟨d,l,hx,hc⟩:=h.cnt;refine⟨aq.of_below (Below.refl _ _),⟨h.on0.aut.touch hb t na n2 n5 n6,h.on0.grid.past hb t.block n1 n2 n3 n4⟩,⟨_,_,t.held nc hx⟩,d,l,t.held nc hx,hc.imp id fun⟨e1,B,hB⟩=>⟨e1,B,.inl ?_⟩⟩;rcases hB with hB |⟨_,hB⟩<;>exact hB.past hb t n7 n8 n9
structure He (w:World) (c b g L:Nat) (y:oy) (s:ar) (T:List aQ) (f:Nat→Nat):Prop where
 cls:Aut.Cls (dk s T) f
 code:∃b1,cM w w 0 c b1 g L (Aut.least (dk s T) f) s T
 aut:eN w b g (Aut.least (dk s T) f)
 base:∃w0,gQ w0 y s T∧w0.heap.size≤c∧Below w0.heap.size w0 w
 n:gN s T≤292
 pos:0<gN s T
 rise:lU s T
 ok:gc T
 vok:(aF s T).Ok
set_option maxHeartbeats 1000000 in
theorem AR (w:World) (y:Fk) (ls:List Int) (cs:List (Int×Int×Int)) (js:List (Int×Int)) (xs:List (Int×Bs)) (h:wM w y ls cs js xs) (L:Nat) (hL:L≤39):
  CP 36 #[y.v,.int .i64 (L:Int)] w fun e w'=>∃c b g r s T f,e= .returned (.tuple #[.pointer (some ⟨c,0,none⟩),.pointer (some ⟨b,0,none⟩),.pointer (some ⟨g,0,none⟩),r.v])∧He w' c b g L r s T f∧Below w.heap.size w w'∧w.heap.size≤c:=by
 refine aO (BF y.l.a y.l.n y.l.c y.c.a y.c.n y.c.c y.j.a y.j.n y.j.c y.x.a y.x.n y.x.c (L:Int) w) ?_;intro w1 hw1 w2 hw2;have hb1:Below w.heap.size w w1:=by subst hw1;exact af _ _
 have b2:Below w1.heap.size w1 w2:=by subst hw2;exact af _ _
 have hb2:=ae hb1 b2;have l2:w2.heap[w.heap.size]? =some (.cells y.cells LG (0,0)):=ag b2 (by subst hw1;exact ak _ _);have z2:w2.heap[w1.heap.size]? =some (.cells D_.cells Fj (0,0)):=by subst hw2;exact ak _ _
 have lt1:w.heap.size<w1.heap.size:=by subst hw1;rw [av];omega
 refine⟨_,_,_,_,_,_,_,_,_,_,_,_,LL l2,?_⟩;refine(yp w2 y ls cs js xs (h.on hb2)).mono ?_;rintro e w3 ⟨u,rfl,v,r,s,T,rfl,hB3,hv,b3,hs,hT⟩;have hlen:T.length≤286:=by rw [hs]at hT;exact Ef hT
 have hb3:=ae hb2 b3;refine⟨_,_,_,_,_,_,_,_,_,_,_,_,_,_,_,_,rfl,?_⟩;intro w4 hw4;refine aX (oO D_) (oO r) rfl (jO r) w4 hw4 ?_;intro w5 h5 hz5 b5;have hB:=hB3.on b5;have hb5:=ae hb3 b5;have z5:=ag (ae b3 b5) z2;have hz2:=hb2.size;obtain⟨hl,hsq⟩:=F8 hB;refine(nD w5 v s T hB.voc hB.asc 1048576).mono ?_;rintro e w6 ⟨u,rfl,hV6,t6,hu⟩;rw [if_neg (by omega)]at hu;obtain⟨g,rfl,hG,hg⟩:=hu;have hvl:w2.heap.size≤v:=hv;have lt2:w1.heap.size<w2.heap.size:=(Array.getElem?_eq_some_iff.1 z2).1;have b56:Below w2.heap.size w5 w6:=t6.below hvl (ae b3 b5).size;have hb6:Below w.heap.size w w6:=hb5.trans (b56.mono hz2);have z6:w6.heap[w1.heap.size]? =some (.cells D_.cells Fj (0,0)):=(b56.block _ lt2).trans z5;have h6:=t6.held (by have:=hB3.voc.lt;omega) h5;have hR6:=hB.rv w6 t6;have hrise:lU s T:=kn hB.asc (by
  obtain⟨w0',x,tp,bp,mp,d,l,uses,hR⟩:=hB.voc;exact hR.now.ids)
 have hn:gN s T≤292:=by
  have:=hB.few;unfold gN;rw [ek];omega
 have hn2:gN s T≤1032:=by omega
 have hmost:¬(((gN s T+2)*gN s T:Nat):Int)>1048576:=by
  have:(gN s T+2)*gN s T≤294*292:=Nat.mul_le_mul (by omega) hn;omega
 have hok:=hB.now.ok;refine⟨_,_,rfl,(ux w6 g s T hG (by omega) hrise 1048576).mono ?_⟩;rintro e w7 ⟨b7,_,hu⟩;obtain⟨a,rfl,ha,o,hA⟩:=hu hmost;refine⟨_,_,rfl,(kT w7 a g _ o hA (by show gN s T+2≤10000;omega) (by show gN s T≤10000;omega)).mono ?_⟩;rintro e w8 ⟨b,f,rfl,_,hc,hb,hA8,hab,t8⟩;have hF:=oZ hn2 hrise hc;have hfew:=uw hn2 hc;have b68:Below w6.heap.size w6 w8:=b7.trans (t8.below ha b7.size);refine⟨_,rfl,(nz w8 b g _ s T ⟨hb,hG.on b68⟩ hF (L:Int)).mono ?_⟩;rintro e w9 ⟨b9,_,_,hu⟩;obtain⟨M,hM⟩:∃M,M=Aut.least (dk s T) f:=⟨_,rfl⟩;rw [←hM]at hF hfew hb hu;obtain⟨c,rfl,hcs,hC⟩:=hu (by omega) (by
  have:L*M.N≤39*294:=Nat.mul_le_mul hL (by omega);have e:(L:Int)*(M.N:Int)=((L*M.N:Nat):Int):=by push_cast;rfl
  rw [e];omega)
 have hA7:=hA.lt;have hz8:=t8.size;have hz68:=b68.size;refine⟨_,_,rfl,ac.no rfl (ac.no rfl (ac.no rfl ?_))⟩;intro w10 hw10;have b10:Below w9.heap.size w9 w10:=by subst hw10;exact aK w9
 have b8_10:=ae b9 b10;have h7:=ag b7 h6;have w5lt:w3.heap.size<w6.heap.size:=(Array.getElem?_eq_some_iff.1 h6).1;have h8:=t8.held (by omega) h7;have h10:=ag b8_10 h8;refine⟨_,_,_,_,_,_,_,_,_,_,_,_,_,_,_,qw (x:=r) h10,?_⟩;refine(kT w10 a g _ (some f) (hA8.on b8_10) (by show gN s T+2≤10000;omega) (by show gN s T≤10000;omega)).mono ?_;rintro e w11 ⟨b',f',rfl,hff,_,hb',_,hab',t11⟩;obtain rfl:=hff f rfl;rw [←hM]at hb';have h11:=t11.held (by omega) h10;have hcl:=hC.lt;have hA10:=(hA8.on b8_10);obtain⟨nx,gd,of,rs,d,ha10,_⟩:=hA10;have hz10:=b8_10.size;have hC11:=((hC.then b10).now 0).skip ha10 t11 (by omega) (by omega) (by decide) (by decide) (by decide) (by decide) (by decide) (by decide) (by decide) (by decide) (by decide);have b6_10:Below w6.heap.size w6 w10:=b68.trans (b8_10.mono hz68);have b6_11:Below w6.heap.size w6 w11:=b6_10.trans (t11.below ha b6_10.size);have z11:=ag b6_11 z6;refine⟨_,rfl,qw (x:=r) h11,?_⟩;refine aW z11 (oO r) rfl (jO r) ?_;intro w12 h12 hs12 hz12 hB12;have t12:=cO hB12 hs12 hz12;have hb12:Below w.heap.size w w12:=hB12 _ _ (Nat.le_of_lt lt1) (hb6.trans (b6_11.mono hb6.size));have h61:w1.heap.size<w6.heap.size:=(Array.getElem?_eq_some_iff.1 z6).1;refine⟨_,_,_,_,_,_,_,_,_,_,_,_,_,_,_,qw (x:=r) h12,c,b',g,r,s,T,f',rfl,⟨hc,⟨b,?_⟩,?_,?_,hn,?_,hrise,hok,hB.now.vok⟩,hb12,by have:=hb6.size;omega⟩
 ·rw [←hM];exact hC11.skip z11 t12 (by omega) (by omega) (by decide) (by decide) (by decide) (by decide) (by decide) (by decide) (by decide) (by decide) (by decide)
 ·rw [←hM];exact hb'.touch z11 t12 (by omega) (by decide) (by decide) (by decide)
 ·let w0:World:={w6 with heap:=w6.heap.setIfInBounds w1.heap.size (.cells (oO r).toArray Fj (0,0))};have hz0:w0.heap.size=w6.heap.size:=by simp [w0]
  have same:∀j,j≠w1.heap.size→w0.heap[j]? =w6.heap[j]? :=fun j hj=>by
   show(w6.heap.setIfInBounds w1.heap.size _)[j]? =_;rw [Array.getElem?_setIfInBounds_ne (fun e=>hj e.symm)]
  refine⟨w0,hR6.past z6 (nK D_) (fun j _ hj=>same j hj) (Nat.le_of_eq hz0.symm),by rw [hz0];omega,?_⟩;have hB9':=hB12 0 w11 (Nat.zero_le _) (Below.refl _ _);refine⟨hB9'.os.trans b6_11.os,hB9'.tape.trans b6_11.tape,hB9'.output.trans b6_11.output,by rw [hz0,hz12];exact b6_11.size,fun k hk=>?_⟩;rw [hz0]at hk;by_cases e:k=w1.heap.size
  ·subst e;rw [h12];show _=(w6.heap.setIfInBounds w1.heap.size _)[w1.heap.size]?
   rw [Array.getElem?_setIfInBounds_self_of_lt h61]
  ·rw [same k e,hs12 k e];exact b6_11.block k hk
 ·have:=hok.len;unfold gN;rw [ek];omega
theorem Nu {n:Int} (h:(Lit.int .u8 n).wf=true):0≤n∧n<256:=by
 have h:(decide ((0:Int)≤n)&&decide (n≤255))=true:=h;rw [Bool.and_eq_true,decide_eq_true_eq,decide_eq_true_eq]at h;omega
theorem Mn (m:Nat) (d:Nat) (hd:0<d) (hd2:d≤1000):IntKind.wrap .i64 (Int.tmod (m:Int) (d:Int))=((m%d:Nat):Int):=by
 have h1:Int.tmod (m:Int) (d:Int)=((m%d:Nat):Int):=rfl;have h2:=Nat.mod_lt m hd;rw [h1,dc (k:=.i64) (by simp [IntKind.min,IntKind.signed,IntKind.bits];omega) (by simp [IntKind.max,IntKind.signed,IntKind.bits];omega)]
theorem ur (x:Int):j_ x x=0:=by
 unfold j_;rw [if_neg (by omega),if_neg (by omega)]
theorem G1 {M:Aut} (hn:M.n≤1032) {k L:Nat} (hk:k≤L) (s:Nat):Aut.goN M k s≤1032^L:=
 Nat.le_trans (Aut.goN_le k s) (Nat.le_trans (Nat.pow_le_pow_left hn k) (Nat.pow_le_pow_right (by decide) hk))
theorem Lu {M:Aut} (hn:M.n≤1032) {k L:Nat} (hk:k≤L) (hL:L≤100) (s:Nat):(d' 4294967296 (Aut.goN M k s)).length≤200:=
 Nat.le_trans (qF (L:=L) (Nat.le_trans (G1 hn hk s) (Nat.le_trans (Nat.pow_le_pow_right (by decide) (Nat.le_succ L)) (Nat.le_mul_of_pos_left _ (by omega)))) (by omega)) (by omega)
theorem qb {q q':World} {b:Nat} (hg:q.grownBy q' (some b)):aq b q q':=⟨hg.os,hg.tape,hg.output,hg.size,fun k hk hn=>hg.block k hk fun e=>hn (Option.some.inj e)⟩
theorem qc {q q':World} (hg:q.grownBy q' none):Below q.heap.size q q':=⟨hg.os,hg.tape,hg.output,hg.size,fun k hk=>hg.block k hk (by simp)⟩
theorem cM.grown {w0 q q':World} {hi c a g L:Nat} {M:Aut} {s:ar} {T:List aQ} (h:cM w0 q hi c a g L M s T) {row:Option Nat} (hg:q.grownBy q' row) (hr:∀b,row=some b→w0.heap.size≤b∧∃cc e fz,q.heap[b]? =some (.cells cc e fz)∧ir≠e∧bZ≠e∧e≠dw):cM w0 q' hi c a g L M s T:=by
 obtain⟨d,l,hx,hc⟩:=h.cnt;have hlt:=h.lt;have hsz:=h.t.size;have hne:some c≠row:=fun e=>by
  have:=(hr c e.symm).1;omega
 refine⟨⟨hg.os.trans h.t.os,hg.tape.trans h.t.tape,hg.output.trans h.t.output,Nat.le_trans h.t.size hg.size,fun k hk hne2=>(hg.block k (Nat.lt_of_lt_of_le hk h.t.size) fun e=>by have:=(hr k e.symm).1;omega).trans (h.t.block k hk hne2)⟩,h.on0,h.typ,d,l,(hg.block c (by omega) hne).trans hx,hc.imp id fun⟨e1,B,hB⟩=>⟨e1,B,hB.imp id fun⟨h1,h2⟩=>⟨h1,?_⟩⟩⟩;cases row with
 |none=>exact h2.on (qc hg)
 |some b=>
  obtain⟨_,cc,e,fz,hb,n1,n2,n3⟩:=hr b rfl;exact h2.past hb (qb hg) n1 n2 n3
theorem cM.box2 {w0 q q':World} {hi c a g L b:Nat} {M:Aut} {s:ar} {T:List aQ} (h:cM w0 q hi c a g L M s T) {cc:Array Value} {e:TypeId} {fz:Nat×Nat} (hb:q.heap[b]? =some (.cells cc e fz)) (h1:w0.heap.size≤b) (n1:ir≠e) (n2:bZ≠e) (n3:e≠dw) (t:aq b q q'):cM w0 q' hi c a g L M s T:=
 h.grown (row:=some b) ⟨t.os,t.tape,t.output,t.size,fun k hk hn=>t.block k hk fun e=>hn (by rw [e])⟩ fun b' e'=>by cases e';exact⟨h1,cc,e,fz,hb,n1,n2,n3⟩
theorem ba.grown {q q':World} {l:Sl} {n:Nat} (h:ba q l n) {row:Option Nat} (hg:q.grownBy q' row) (hr:∀b,row=some b→∃cc e fz,q.heap[b]? =some (.cells cc e fz)∧e≠dw):ba q' l n:=by
 cases row with
 |none=>exact h.on (qc hg)
 |some b=>
  obtain⟨cc,e,fz,hb,n3⟩:=hr b rfl;exact h.past hb n3 (qb hg)
theorem qB {w:World} {B sz n:Nat} {e:TypeId} {v:Value} {xs:List Value} (h:w.ownsRow B e sz v n xs) {b:Nat} (hb:v.ownBlock=some b):B≤b∧∃cc fz,w.heap[b]? =some (.cells cc e fz):=by
 rcases h.2 with⟨rfl,_⟩ |⟨g,cap,cur,rfl,h1,h2,_⟩
 ·cases hb
 ·cases hb;exact⟨h1,_,_,h2⟩
theorem HN {q:World} {b:Nat} {x s:Sl} {K:World→Prop} (h:q.heap[b]? =some (.cells #[x.v] cN (0,0))) (hk:∀q',q'.heap[b]? =some (.cells #[s.v] cN (0,0))→aq b q q'→K q'):
  s.v.oneCell'=true∧(∃u,q.cell? ⟨b,0,none⟩=some u)∧q.frozen? ⟨b,0,none⟩=false∧∀q',q'=q.setCell ⟨b,0,none⟩ s.v→K q':=
 dU (aW h [s.v] rfl (fun v hv=>by rw [List.mem_singleton.1 hv];rfl) fun q' h1 h2 h3 h4=>hk q' h1 (cO h4 h2 h3))
structure np (w q:World) (hi B c a g L:Nat) (M:Aut) (s:ar) (T:List aQ) (Kb Ob Sb rest st:Nat) (ids:List Int):Prop where
 code:cM w q hi c a g L M s T
 hhi:hi≤q.heap.size
 hB:B≤q.heap.size
 num:∃l:Sl,q.heap[Kb]? =some (.cells #[l.v] bZ (0,0))∧ba q l rest
 state:q.heap[Sb]? =some (.cells #[.int .i64 (st:Int)] aU (0,0))
 out:∃l:Sl,q.heap[Ob]? =some (.cells #[l.v] cN (0,0))∧l.n=ids.length∧q.ownsRow B aU 1 l.v l.n (ids.flatMap aE)
section
variable {w q q':World} {hi B c a g L:Nat} {M:Aut} {s:ar} {T:List aQ} {Kb Ob Sb rest st:Nat} {ids:List Int}
theorem np.from (h:np w q hi B c a g L M s T Kb Ob Sb rest st ids) (f:lY q q' c a g L M) (t:aq c q q') (n1:Kb≠c) (n2:Ob≠c) (n3:Sb≠c):np w q' hi B c a g L M s T Kb Ob Sb rest st ids:=by
 obtain⟨l,h1,h2⟩:=h.num;obtain⟨o,h3,h4,h5⟩:=h.out;obtain⟨d,lc,hx,_⟩:=h.code.cnt;exact⟨f.code h.code h.hhi t,Nat.le_trans h.hhi t.size,Nat.le_trans h.hB t.size,⟨l,t.held n1 h1,h2.past hx (by decide) t⟩,t.held n3 h.state,⟨o,t.held n2 h3,h4,en hx t h5 (by decide)⟩⟩
theorem np.on (h:np w q hi B c a g L M s T Kb Ob Sb rest st ids) (hb:Below q.heap.size q q'):np w q' hi B c a g L M s T Kb Ob Sb rest st ids:=by
 obtain⟨l,h1,h2⟩:=h.num;obtain⟨o,h3,h4,h5⟩:=h.out;exact⟨h.code.then hb,Nat.le_trans h.hhi hb.size,Nat.le_trans h.hB hb.size,⟨l,ag hb h1,h2.on hb⟩,ag hb h.state,⟨o,ag hb h3,h4,aA h5 hb⟩⟩
set_option maxHeartbeats 1000000 in
theorem Ei (h:np w q hi B c a g L M s T Kb Ob Sb rest st ids) (k1:w.heap.size≤Kb) (k2:Kb<hi) (o1:w.heap.size≤Ob) (o2:Ob<B) (s1:w.heap.size≤Sb) (s2:Sb<B) (n1:Kb≠Ob) (n2:Kb≠Sb) (n3:Ob≠Sb) (k3:Kb<B) (hil:ids.length≤100000) (id:Int) (nx:Nat) (r:Sl) (v:Nat) (hr:ba q r v) (d1:(d' 4294967296 rest).length≤100000) (d2:(d' 4294967296 v).length≤100000):
  bE gw (.func (.func 96) #[] #[.pointer (some ⟨Kb,0,none⟩),.pointer (some ⟨Ob,0,none⟩),.pointer (some ⟨Sb,0,none⟩)]) [.int .i64 id,.int .i64 (nx:Int),.agg #[r.v]] q fun e q2=>∃b:Bool,e= .returned (.bool b)∧(b=true→rest<v∧np w q2 hi B c a g L M s T Kb Ob Sb rest nx (ids++ [id]))∧(b=false→v≤rest∧np w q2 hi B c a g L M s T Kb Ob Sb (rest-v) st ids):=by
 refine bT (by kernel_rfl) ?_;refine aO (BN id (nx:Int) r.a r.n r.c (some ⟨Kb,0,none⟩) (some ⟨Ob,0,none⟩) (some ⟨Sb,0,none⟩) q) ?_;intro w1 hw1;have b1:Below q.heap.size q w1:=by subst hw1;exact af _ _
 have x1:w1.heap[q.heap.size]? =some (.cells #[r.v] bZ (0,0)):=by subst hw1;exact ak _ _
 have h1:=h.on b1;obtain⟨l,hl,hN⟩:=h1.num;refine ah.mk _ rfl ⟨_,_,_,aJ hl,_,_,_,aJ x1,(AD w1 l r rest v hN (hr.on b1) d1 d2).mono ?_⟩;rintro e w2 ⟨y,rfl,hy,b2⟩;refine⟨_,_,_,_,rfl,?_⟩;intro w3 hw3;have b3:Below w2.heap.size w2 w3:=by subst hw3;exact af _ _
 have x3:w3.heap[w2.heap.size]? =some (.cells #[bS.v] bZ (0,0)):=by subst hw3;exact ak _ _
 refine ce (s:=y) x3 fun w4 x4 N4 B4 _ _=>?_;have b4:=B4 _ _ (Nat.le_refl _) b3;have h4:=(h1.on b2).on b4;have hy4:=N4 _ _ (hy.on b3);refine ac.mk (fun hv=>?_) fun hv=>?_
 ·have hv:rest<v:=by simpa using hv
  obtain⟨lo,hlo,hln,hown⟩:=h4.out;refine ah.mk _ rfl ⟨_,_,_,aN hlo,?_⟩;intro w5 hw5;obtain⟨a',c',w6,hrun,hown6,hg,_⟩:=nw (P:=Tryz.prog) cN aU (z:=.int .i64 0) (size:=1) (bytes:=8) (by kernel_rfl) (by kernel_rfl) rfl (by decide) hown [.int .i64 id] rfl (fun u hu=>by rw [List.mem_singleton.1 hu];rfl) (by omega) (by omega) h4.hB;have b5:Below w4.heap.size w4 w5:=by subst hw5;exact af _ _
  have h5:=h4.on b5;have hg5:w5.grownBy w6 lo.v.ownBlock:=by rw [hw5];exact hg
  have hown5:=aA hown b5;refine⟨a',lo.n+1,c',w6,by rw [hw5];exact hrun,ah.mk _ rfl ?_⟩;have hz5:=h5.hB;have blk:∀ {k:Nat} {o:Obj},k<B→w5.heap[k]? =some o→w6.heap[k]? =some o:=fun hk ho=>(hg5.block _ (by omega) fun e=>by have:=(qB hown5 e.symm).1;omega).trans ho;have hC6:=h5.code.grown hg5 fun b hb=>by
   obtain⟨g1,cc,fz,g2⟩:=qB hown5 hb;exact⟨by omega,cc,_,fz,g2,by decide,by decide,by decide⟩
  obtain⟨l5,hl5,hN5⟩:=h5.num;have hN6:=hN5.grown hg5 fun b hb=>by
   obtain⟨g1,cc,fz,g2⟩:=qB hown5 hb;exact⟨cc,_,fz,g2,by decide⟩
  have hl6:=blk k3 hl5;have hs6:=blk s2 h5.state;have ho6:=blk o2 (ag b5 hlo);have hzz:=hg5.size;have ob6:∀k,k<B→(Value.slice a' (lo.n+1) c').ownBlock≠some k:=fun k hk e=>by have:=(qB hown6 e).1;omega
  refine kN (n:=(nx:Int)) hs6 fun w7 x7 t7 B7=>ah.mk _ rfl (HN (s:=⟨a',lo.n+1,c'⟩) (t7.held n3 ho6) fun w8 x8 t8=>⟨true,rfl,fun _=>⟨hv,?_⟩,fun h=>(by cases h)⟩);have g7:=t7.size;have g8:=t8.size;have g6:=h5.hhi;have ho7:=t7.held n3 ho6;refine⟨(hC6.box2 hs6 s1 (by decide) (by decide) (by decide) t7).box2 ho7 o1 (by decide) (by decide) (by decide) t8,by omega,by omega,⟨l5,t8.held n1 (t7.held n2 hl6),(hN6.past hs6 (by decide) t7).past ho7 (by decide) t8⟩,t8.held (Ne.symm n3) x7,⟨⟨a',lo.n+1,c'⟩,x8,by show lo.n+1=_;rw [hln,List.length_append];rfl,?_⟩⟩;have:=t8.own (t7.own hown6 (ob6 _ s2)) (ob6 _ o2);rw [List.flatMap_append];exact this
 ·have hv:v≤rest:=by simpa using hv
  obtain⟨l4,hl4,hN4⟩:=h4.num;refine⟨_,_,_,aJ x4,ah.mk _ rfl (ce (s:=y) hl4 fun w5 x5 N5 B5 hs5 hz5=>⟨false,rfl,fun h=>(by cases h),fun _=>⟨hv,?_⟩⟩)⟩;have t:=cO B5 hs5 hz5;obtain⟨lo,hlo,hln,hown⟩:=h4.out;have hh:=h4.hhi;have hh2:=h4.hB;exact⟨h4.code.box hl4 k1 k2 (by decide) t,by omega,by omega,⟨y,x5,N5 _ _ hy4⟩,t.held (Ne.symm n2) h4.state,⟨lo,t.held (Ne.symm n1) hlo,hln,en hl4 t hown (by decide)⟩⟩
end
def co (s:ar) (T:List aQ) (ks:List Nat):List Int:=ks.map fun k=>(bn s T).getD k 0
theorem eZ (s:ar) (T:List aQ) (ks:List Nat):(co s T ks).length=ks.length:=List.length_map _
def PN (w0 w':World) (M:Aut) (s:ar) (T:List aQ) (L:Nat) (n:Int) (kv:Nat) (l:Sl) (z:Int):Prop:=
 ((n<0∨(L:Int) <n)→z=3∧l=bS)∧(0≤n→n≤(L:Int)→(Aut.goN M n.toNat 0≤kv→z=7∧l=bS)∧(kv<Aut.goN M n.toNat 0→z=0∧∃ks:List Nat,ks.length=n.toNat∧Aut.Way M 0 ks∧Aut.rk M 0 ks=kv∧l.n=ks.length∧w'.ownsRow w0.heap.size aU 1 l.v l.n ((co s T ks).flatMap aE)))
theorem DS (x y:Nat):j_ (x:Int) (y:Int)≥0↔y≤x:=by
 unfold j_;split
 ·omega
 ·split<;>omega
set_option maxHeartbeats 4000000 in
theorem jZ (w:World) (c a g L:Nat) (M:Aut) (s:ar) (T:List aQ) (h:cM w w 0 c a g L M s T) (hF:gl M s T) (hL:L≤1000) (n:Int) (k:Sl) (kv:Nat) (hk:ba w k kv) (hd:(d' 4294967296 kv).length≤100000):
  CP 50 #[.pointer (some ⟨c,0,none⟩),.int .i64 n,.agg #[k.v]] w fun e w'=>∃(l:Sl) (z:Int),e= .returned (.tuple #[l.v,.int .i64 z])∧PN w w' M s T L n kv l z∧cM w' w' 0 c a g L M s T∧aq c w w':=by
 refine aO (A6 (some ⟨c,0,none⟩) n k.a k.n k.c w) ?_;have hMn:=hF.n;have hfew:=hF.few;have hpos:=hF.ok.pos;intro w1 hw1;have b1:Below w.heap.size w w1:=by subst hw1;exact af _ _
 have z1:w1.heap.size=w.heap.size+1:=by subst hw1;exact av _ _
 have x1:w1.heap[w.heap.size]? =some (.cells #[k.v] bZ (0,0)):=by subst hw1;exact ak _ _
 have h1:=h.then b1;have hclt:=h.lt;obtain⟨d,lc,hx,_⟩:=h1.cnt;refine ac.no rfl (ac.mk (fun c1=>?_) fun c1=>ah.mk _ rfl ⟨_,aj _ _ hx 2,ac.mk (fun c2=>?_) fun c2=>?_⟩)
 ·have c1:=of_decide_eq_true c1;exact⟨bS,3,rfl,⟨fun _=>⟨rfl,rfl⟩,fun h=>by omega⟩,h1.now 0,aq.of_below b1⟩
 ·have c2:=of_decide_eq_true c2;exact⟨bS,3,rfl,⟨fun _=>⟨rfl,rfl⟩,fun _ h=>by omega⟩,h1.now 0,aq.of_below b1⟩
 have c1:=of_decide_eq_false c1;have c2:=of_decide_eq_false c2;obtain⟨m,rfl⟩:∃m:Nat,n=(m:Int):=⟨n.toNat,by omega⟩;have hmL:m≤L:=by omega
 intro w2 hw2;have b2:Below w1.heap.size w1 w2:=by subst hw2;exact aK w1
 have b12:=ae b1 b2;have hC2:=((h.now w1.heap.size).then b1).then b2;refine⟨_,_,_,aJ (ag b2 x1),(fG w w2 w1.heap.size c a g L M s T hC2 hF (by omega) (m:Int)).mono ?_⟩;rintro e w3 ⟨r,rfl,hNr,hf,t3⟩;have hC3:=hf.code hC2 b2.size t3;have hcnt:fS M L 0 (m:Int)=Aut.goN M m 0:=by
  unfold fS;rw [if_pos (by omega)];rfl
 rw [hcnt]at hNr;obtain⟨d2,lc2,hx2,_⟩:=hC2.cnt;have hk3:ba w3 k kv:=(hk.on b12).past hx2 (by decide) t3;have x3:=t3.held (by omega) (ag b2 x1);have hMn2:M.n≤1032:=by omega
 have dgo:∀(i st:Nat),i≤L→(d' 4294967296 (Aut.goN M i st)).length≤2000:=fun i st hi=>
  Nat.le_trans (qF (L:=L) (Nat.le_trans (G1 hMn2 hi st) (Nat.le_trans (Nat.pow_le_pow_right (by decide) (Nat.le_succ L)) (Nat.le_mul_of_pos_left _ (by omega)))) (by omega)) (by omega)
 refine⟨_,_,_,rfl,aJ x3,(da w3 k r kv _ hk3 hNr hd (Nat.le_trans (dgo m 0 hmL) (by decide))).mono ?_⟩;rintro e w4 ⟨rfl,b4⟩;have hC4:=hC3.then b4;have x4:=ag b4 x3;have hk4:=hk3.on b4;have t14:aq c w w4:=hC4.t;refine⟨_,rfl,ac.mk (fun c3=>?_) fun c3=>?_⟩
 ·have c3:=(DS _ _).1 (of_decide_eq_true c3);exact⟨bS,7,rfl,⟨fun h=>by omega,fun _ _=>⟨fun _=>⟨rfl,rfl⟩,fun h=>by have:kv<Aut.goN M m 0:=h;omega⟩⟩,hC4.now 0,t14⟩
 have c3:kv<Aut.goN M m 0:=Nat.lt_of_not_le fun h=>of_decide_eq_false c3 ((DS _ _).2 h);intro w5 hw5 w6 hw6;have b5:Below w4.heap.size w4 w5:=by subst hw5;exact af _ _
 have b6:Below w5.heap.size w5 w6:=by subst hw6;exact af _ _
 have z5:w5.heap.size=w4.heap.size+1:=by subst hw5;exact av _ _
 have z6:w6.heap.size=w5.heap.size+1:=by subst hw6;exact av _ _
 have x5:w6.heap[w4.heap.size]? =some (.cells #[bS.v] cN (0,0)):=ag b6 (by subst hw5;exact ak _ _);have x6:w6.heap[w5.heap.size]? =some (.cells #[.int .i64 0] aU (0,0)):=by subst hw6;exact ak _ _
 have b56:=ae b5 b6;have hz2:=b2.size;have hz3:=t3.size;have hz4:=b4.size;refine kN (n:=0) x6 fun w7 x7 t7 B7=>?_;have b7:Below w4.heap.size w4 w7:=B7 _ _ (by omega) b56;have hz7:=t7.size;refine Ar.ok64 (by omega) (by omega) ?_;have U0:np w w7 w1.heap.size w6.heap.size c a g L M s T w.heap.size w4.heap.size w5.heap.size kv 0 (co s T []):=
  ⟨hC4.then b7,by omega,hz7,⟨k,ag b7 x4,hk4.on b7⟩,x7,⟨bS,t7.held (by omega) x5,rfl,cZ _ _ _ _⟩⟩
 intro I hI;have key:=aV (α:=World) m (fun i q=>∃(ks:List Nat) (rest:Nat),ks.length=i∧Aut.Way M 0 ks∧np w q w1.heap.size w6.heap.size c a g L M s T w.heap.size w4.heap.size w5.heap.size rest (ks.foldl M.nxt 0) (co s T ks)∧Aut.pre M m 0 ks+rest=kv∧rest<Aut.goN M (m-i) (ks.foldl M.nxt 0)) (fun i q=>I [.int .i64 ((m:Int)-1- (i:Int))] q) w7 ⟨[],kv,rfl,trivial,U0,Nat.zero_add _,c3⟩ ?_ ?_
 ·rw [show(m:Int)-1- ((0:Nat):Int)=(m:Int)-1 by omega]at key;exact key
 ·rintro i hi ih q ⟨ks,rest,hkl,hway,hU,hpre,hrest⟩;obtain⟨st,hst⟩:∃st,st=ks.foldl M.nxt 0:=⟨_,rfl⟩;rw [←hst]at hU hrest;have hstN:st<M.N:=by
   rw [hst];have:∀(u:List Nat) (x:Nat),x<M.N→Aut.Way M x u→u.foldl M.nxt x<M.N:=by
    intro u;induction u with
    |nil=>exact fun x hx _=>hx
    |cons j u ih=>exact fun x hx hw=>ih _ (hF.ok.lt _ _ hx hw.1) hw.2.2
   exact this ks 0 hpos hway
  obtain⟨left,hleft⟩:∃left,left=m-1-i:=⟨_,rfl⟩;have eI:(m:Int)-1- (i:Int)=(left:Int):=by omega
  rw [show m-i=left+1 by omega,Aut.goN_succ]at hrest;obtain⟨j,hj,hj1,hj2⟩:=Aut.pick hrest;rw [hMn]at hj;have hvj:0<Aut.via M left st j:=by
   have:Aut.sumN (Aut.via M left st) (j+1)=Aut.sumN (Aut.via M left st) j+Aut.via M left st j:=rfl;omega
  have hgj:M.good (M.nxt st j)=true:=by
   cases hg:M.good (M.nxt st j)with
   |true=>rfl
   |false=>
    unfold Aut.via at hvj;rw [hg]at hvj;exact absurd hvj (by simp)
  have hkv:rest≤kv:=by omega
  have drest:∀x,x≤rest→(d' 4294967296 x).length≤100000:=fun x hx=>Nat.le_trans (ni (by decide) (Nat.le_trans hx hkv)) hd;rw [eI];refine hI _ q (ac.yes (decide_eq_true (by omega)) ⟨_,aN hU.state,?_⟩);refine(jh w w1.heap.size c a g L M s T hF (by omega) st left hstN (by omega) _ q (fun k q'=>k≤j∧np w q' w1.heap.size w6.heap.size c a g L M s T w.heap.size w4.heap.size w5.heap.size (rest-Aut.sumN (Aut.via M left st) k) st (co s T ks)) (fun q'=>np w q' w1.heap.size w6.heap.size c a g L M s T w.heap.size w4.heap.size w5.heap.size (rest-Aut.sumN (Aut.via M left st) j) (M.nxt st j) (co s T ks++ [(bn s T).getD j 0])) ⟨Nat.zero_le _,hU⟩ (fun k q' h=>h.2.code) ?_ ?_).mono ?_
  ·rintro k q' hk ⟨h1,h3⟩ hb;have hv0:Aut.via M left st k=0:=by unfold Aut.via;rw [hb];rfl
   have:k≠j:=fun e=>by rw [e]at hv0;omega
   refine⟨by omega,?_⟩;show np w q' _ _ c a g L M s T _ _ _ (rest- (Aut.sumN (Aut.via M left st) k+Aut.via M left st k)) st _;rw [hv0];exact h3
  ·rintro k q1 hk ⟨h1,h3⟩ hgk r1 q2 hf1 ht1 hNr1;have h4:=h3.from hf1 ht1 (by omega) (by omega) (by omega);have hle:Aut.sumN (Aut.via M left st) k≤rest:=Nat.le_trans (Aut.sumN_mono h1) hj1;have hvk:Aut.via M left st k=Aut.goN M left (M.nxt st k):=by unfold Aut.via;rw [if_pos hgk]
   refine bE.mono (Ei h4 (Nat.le_refl _) (by omega) (by omega) (by omega) (by omega) (by omega) (by omega) (by omega) (by omega) (by omega) (by rw [eZ];omega) ((bn s T).getD k 0) (M.nxt st k) r1 _ hNr1 (drest _ (Nat.sub_le _ _)) (by rw [hvk];exact Nat.le_trans (dgo left _ (by omega)) (by decide))) ?_;rintro e q3 ⟨b,rfl,hb1,hb0⟩;have hsucc:Aut.sumN (Aut.via M left st) (k+1)=Aut.sumN (Aut.via M left st) k+Aut.via M left st k:=rfl;refine⟨b,rfl,fun hb=>?_,fun hb=>?_⟩
   ·obtain⟨hlt,hR⟩:=hb1 hb;have:k=j:=by
     by_cases e:k=j
     ·exact e
     ·have:Aut.sumN (Aut.via M left st) (k+1)≤Aut.sumN (Aut.via M left st) j:=Aut.sumN_mono (by omega);omega
    subst this;exact hR
   ·obtain⟨hle2,hR⟩:=hb0 hb;refine⟨?_,?_⟩
    ·have:k≠j:=fun e=>by subst e;omega
     omega
    ·rw [hsucc,Nat.sub_add_eq];exact hR
  ·rintro e w8 ⟨b,rfl,hQ,hP⟩;cases b with
   |false=>
    have:=(hP rfl).1;omega
   |true=>
    have hR:=hQ rfl;refine⟨_,rfl,Ar.ok64 (by omega) (by omega) ?_⟩;have e2:(left:Int)-1=(m:Int)-1- ((i+1:Nat):Int):=by omega
    rw [e2];refine ih w8 ⟨ks++ [j],rest-Aut.sumN (Aut.via M left st) j,by rw [List.length_append,hkl];rfl,Aut.way_append.2 ⟨hway,by omega,by rw [←hst];exact hgj⟩,?_,?_,?_⟩
    ·rw [List.foldl_append, ←hst];unfold co;rw [List.map_append];exact hR
    ·rw [Aut.pre_snoc, ←hst,hkl, ←hleft];omega
    ·rw [List.foldl_append, ←hst,show m- (i+1)=left by omega];show _<Aut.goN M left (M.nxt st j);have hvk:Aut.via M left st j=Aut.goN M left (M.nxt st j):=by unfold Aut.via;rw [if_pos hgj]
     rw [←hvk];have:Aut.sumN (Aut.via M left st) (j+1)=Aut.sumN (Aut.via M left st) j+Aut.via M left st j:=rfl;omega
 ·rintro q ⟨ks,rest,hkl,hway,hU,hpre,hrest⟩;obtain⟨lo,hlo,hln,hown⟩:=hU.out;refine hI _ q (ac.no (decide_eq_false (by omega)) ⟨_,_,_,aN hlo,lo,0,rfl,⟨fun h=>by omega,fun _ _=>⟨fun h=>?_,fun _=>⟨rfl,ks,by rw [hkl];rfl,hway,?_,by rw [hln,eZ],?_⟩⟩⟩,hU.code.now 0,hU.code.t⟩)
  ·have:Aut.goN M m 0≤kv:=h;omega
  ·have h0:rest=0:=by
    rw [Nat.sub_self]at hrest;unfold Aut.goN at hrest;split at hrest<;>omega
   rw [h0,Nat.add_zero, ←hkl,Aut.pre_rk]at hpre;exact hpre
  ·exact bD hown (by omega)
theorem BR {M:Aut}:∀ {ks:List Nat} {x:Nat},Aut.Way M x ks→∀k∈ks,k<M.n
 | [],_,_,k,h=>by cases h
 |j::r,x,hw,k,h=>by
  rcases List.mem_cons.1 h with rfl |h
  ·exact hw.1
  ·exact BR hw.2.2 k h
theorem Fc {s:ar} {T:List aQ} (hr:lU s T) {ks:List Nat} (h:∀k∈ks,k<gN s T):tB s T (co s T ks)=ks:=by
 unfold tB co;rw [List.map_map];refine(List.map_congr_left fun k hk=>?_).trans (List.map_id ks);show(oT s T ((bn s T).getD k 0)).getD 0=k;rw [oE hr (h k hk)];rfl
theorem D6 {s:ar} {T:List aQ} (hr:lU s T) {ks:List Nat} (h:∀k∈ks,k<gN s T):∀t∈co s T ks,gv s T t=true:=by
 intro t ht;obtain⟨k,hk,rfl⟩:=List.mem_map.1 ht;exact(dJ (oE hr (h k hk))).2.2
theorem He.rv {w q:World} {c b g L:Nat} {y:oy} {s:ar} {T:List aQ} {f:Nat→Nat} (h:He w c b g L y s T f) (t:aq c w q):gQ q y s T:=by
 obtain⟨w0,h2,h3,h4⟩:=h.base;exact h2.on (h4.trans (t.below h3 h4.size))
section
open Go.ChangeShapes Go.WideShapes
variable {H:Type} {enc0:TypeId×Value→H} {w:World} {base:Nat} {spare:Nat→Bool} {held:Bool}
theorem HU {e:TypeId} (he:Tryz.prog.underlying e=some (.int .u32)):∀n cs' y,DataW.trod enc0 Tryz.prog w base spare held n e cs'=some y→∃m: {x:Int//0≤x∧x<4294967296},cs'=cR m.1:=by
 intro n cs' y h;obtain⟨i,hi,_,hw⟩:=DataW.trod_int he h;have hw:(decide ((0:Int)≤i)&&decide (i≤4294967295))=true:=hw;rw [Bool.and_eq_true,decide_eq_true_eq,decide_eq_true_eq]at hw;exact⟨⟨i,by omega⟩,hi⟩
theorem uA {A:Option Addr} {N C:Nat} {d:DataW H} {p:List MemPlace} (h:DataW.Trod enc0 Tryz.prog w base spare held pS (.slice A N C) d p):∃xs:List Int,N=xs.length∧th 4294967296 xs∧Rw cR 1 w A xs:=by
 obtain⟨fuel,hf⟩:=h;obtain⟨s,xs,e,n,k,c,m,r⟩:=jc (α:={x:Int//0≤x∧x<4294967296}) (enc:=fun x=>cR x.1) (sz:=1) ox (by kernel_rfl) (fun _=>rfl) (Nat.succ_pos _) (HU Tryz.underlying153) hf;obtain⟨sa,sn,sc⟩:=s;simp [Value.cells]at e;obtain⟨rfl,rfl,rfl⟩:=e;refine⟨xs.map (·.1),by rw [List.length_map];exact n,fun x hx=>?_,fun j x hj=>?_⟩
 ·obtain⟨y,_,rfl⟩:=List.mem_map.1 hx;exact y.2
 ·rw [List.getElem?_map]at hj;obtain⟨y,hy,rfl⟩:=Option.map_eq_some_iff.1 hj;exact r j y hy
end
theorem BH:∀ {u v:List Nat} {i a b:Nat},(∀j,j<i→u[j]? =v[j]?)→u[i]? =some a→v[i]? =some b→a<b→Aut.Lex u v
 | [],_,i,a,b,_,hu,_,_=>by simp at hu
 |_::_,[],i,a,b,_,_,hv,_=>by simp at hv
 |x::u,y::v,0,a,b,_,hu,hv,h=>by
  simp at hu hv;subst hu hv;exact .inl h
 |x::u,y::v,i+1,a,b,hs,hu,hv,h=>by
  have h0:=hs 0 (Nat.succ_pos i);simp at h0;subst h0;exact .inr ⟨rfl,BH (i:=i) (fun j hj=>by have:=hs (j+1) (by omega);simpa using this) (by simpa using hu) (by simpa using hv) h⟩
theorem wz {V:Voc} {ids:List Int} (h:ma V ids none):V.Canon ids:=by
 rcases Nat.eq_zero_or_pos ids.length with e |e
 ·rw [List.eq_nil_of_length_eq_zero e];rfl
 ·have:=(h (ids.length-1) (by omega)).2;rwa [Nat.sub_add_cancel e,List.take_length]at this
theorem rF {s:ar} {T:List aQ} {ks:List Nat} {i:Nat} (h:i< (co s T ks).length):(co s T ks)[i]=(bn s T).getD (ks[i]'(by rw [eZ]at h;exact h)) 0:=List.getElem_map (fun k=>(bn s T).getD k 0)
theorem DU {q:World} {A:Option Addr} {xs:List Int} (R:Rw aE 1 q A xs) {p:Addr} (hp:A=some p) {i:Nat} (hi:i<xs.length):q.cell? (p.add (i*1))=some (.int .i64 xs[i]):=by
 obtain⟨p',hp',c⟩:=aS R hi rfl;rw [hp]at hp';cases hp';exact c
theorem rx (x y:Nat):decide (j_ (x:Int) (y:Int) <0)=decide (x<y):=by
 unfold j_;refine decide_eq_decide.2 ?_;split
 ·omega
 ·split<;>omega
theorem De {s:ar} {T:List aQ} (hr:lU s T) {i j:Nat} (hi:i<gN s T) (hj:j<gN s T):(bn s T).getD i 0< (bn s T).getD j 0↔i<j:=by
 have le:∀ {i j:Nat},i<gN s T→j<gN s T→i<j→(bn s T).getD i 0< (bn s T).getD j 0:=fun hi hj h=>by
  rw [eX hi,eX hj];exact List.pairwise_iff_getElem.1 hr _ _ hi hj h
 constructor
 ·intro h;rcases Nat.lt_trichotomy i j with h1 |rfl |h1
  ·exact h1
  ·exact absurd h (Int.lt_irrefl _)
  ·have:=le hj hi h1;omega
 ·exact le hi hj
set_option maxHeartbeats 4000000 in
theorem tw (w:World) (y:Fk) (ls:List Int) (cs:List (Int×Int×Int)) (js:List (Int×Int)) (xs:List (Int×Bs)) (h:wM w y ls cs js xs) (m:Nat) (A1:Option Addr) (C1:Nat) (la:List Int) (ha:Rw cR 1 w A1 la) (ia:th 4294967296 la) (A2:Option Addr) (C2:Nat) (bs:List Int) (hbs:Rw cR 1 w A2 bs) (ib:th 4294967296 bs):
  CP 8 #[y.v,.int .u8 (m:Int),.slice A1 la.length C1,.slice A2 bs.length C2] w fun e w'=>e= .returned (.bool true)∧Below w.heap.size w w':=by
 refine aO (EF y.l.a y.l.n y.l.c y.c.a y.c.n y.c.c y.j.a y.j.n y.j.c y.x.a y.x.n y.x.c (m:Int) A1 la.length C1 A2 bs.length C2 w) ?_;intro w1 hw1;have hb1:Below w.heap.size w w1:=by subst hw1;exact af _ _
 have l1:w1.heap[w.heap.size]? =some (.cells y.cells LG (0,0)):=by subst hw1;exact ak _ _
 refine⟨_,_,_,_,_,_,_,_,_,_,_,_,LL l1,?_⟩;refine(tE w1 y ls cs js xs (h.on hb1)).mono ?_;rintro e w2 ⟨c0,rfl,b2⟩;have hb2:=ae hb1 b2;have aw:∀ {q:World},Below w.heap.size w q→CP 35 #[] q fun e w'=>∃b:Bool,e= .returned (.bool b)∧(Ending.returned (Value.bool b)= .returned (.bool true)∧Below w.heap.size w w'):=by
  intro q hq;refine(oa q).mono ?_;rintro e w3 ⟨rfl,b3⟩;exact⟨true,rfl,rfl,ae hq b3⟩
 refine⟨c0,rfl,ac.mk (fun _=>aw hb2) fun _=>ac.mk (fun _=>aw hb2) fun h10=>ac.mk (fun _=>aw hb2) fun h11=>?_⟩;have h10:=of_decide_eq_false h10;have h11:=of_decide_eq_false h11;refine(oa w2).mono ?_;rintro e w5 ⟨rfl,b5⟩;have hb5:=ae hb2 b5;refine⟨_,rfl,ac.no rfl ⟨_,_,_,_,_,_,_,_,_,_,_,_,LL (ag b5 (ag b2 l1)),?_⟩⟩;refine(AR w5 y ls cs js xs (h.on hb5) 12 (by decide)).mono ?_;rintro e w6 ⟨c,b,g,r,s,T,f,rfl,hB,b6,hc6⟩;have hb6:=ae hb5 b6;have hn2:gN s T≤1032:=by have:=hB.n;omega
 have hF:=oZ hn2 hB.rise hB.cls;have hS:=sA hn2 hB.cls;have hok:=hB.ok;have hV:=hB.vok;have hrise:=hB.rise;obtain⟨b1,hC6⟩:=hB.code;obtain⟨M,hM⟩:∃M,M=Aut.least (dk s T) f:=⟨_,rfl⟩;rw [←hM]at hF hC6 hS;have hMn:M.n≤1032:=by rw [hF.n];exact hn2
 refine⟨_,_,_,_,_,_,_,_,_,_,_,_,_,_,_,_,_,_,rfl,?_⟩;intro w7 hw7;refine aX (oO D_) (oO r) rfl (jO r) w7 hw7 ?_;intro w8 h8 hz8 b8;have hC8:=(hC6.then b8).now 0;have hb8:=ae hb6 b8;have hlt6:=hC6.lt;have hz6:=hb6.size;have hz5:=hb5.size;have hcw:w.heap.size≤c:=by omega
 have rv_:∀ {q:World},aq c w8 q→gQ q r s T∧q.heap[w6.heap.size]? =some (.cells r.cells Fj (0,0)):=fun t=>⟨hB.rv ((aq.of_below b8).trans t),t.held (by omega) h8⟩;have end_:∀ {q:World},aq c w8 q→Below w.heap.size w q:=fun t=>hb8.trans (t.below hcw hb8.size);obtain⟨k,hk⟩:∃k,k=m%13:=⟨_,rfl⟩;have hk13:k≤12:=by have:=Nat.mod_lt m (show 0<13 by decide);omega
 have e13:IntKind.wrap .i64 (Int.tmod (m:Int) 13)=(k:Int):=by rw [hk];exact Mn m 13 (by decide) (by decide)
 rw [e13];obtain⟨pv,hpv⟩:∃pv,pv=cG 4294967296 la:=⟨_,rfl⟩;obtain⟨qv,hqv⟩:∃qv,qv=cG 4294967296 bs:=⟨_,rfl⟩;have few:∀ {l:List Int},th 4294967296 l→l.length≤10→(d' 4294967296 (cG 4294967296 l)).length≤100000:=fun hin hl=>
  Nat.le_trans (ow (by decide) (Nat.lt_of_lt_of_le (DG hin) (Nat.pow_le_pow_right (by decide) hl))) (by decide)
 have dp:(d' 4294967296 pv).length≤100000:=by rw [hpv];exact few ia (by omega)
 have dq:(d' 4294967296 qv).length≤100000:=by rw [hqv];exact few ib (by omega)
 refine ac.no rfl ⟨by decide,(sM w8 A1 C1 la (ha.on hb8) ia (by omega)).mono ?_⟩;rintro e w9 ⟨p,rfl,hp9,b9⟩;rw [←hpv]at hp9;have hb9:=ae hb8 b9;refine⟨_,_,_,rfl,(sM w9 A2 C2 bs (hbs.on hb9) ib (by omega)).mono ?_⟩;rintro e w10 ⟨q,rfl,hq10,b10⟩;rw [←hqv]at hq10;refine⟨_,_,_,rfl,?_⟩;intro w11 hw11 w12 hw12;have b11:Below w10.heap.size w10 w11:=by subst hw11;exact af _ _
 have b12:Below w11.heap.size w11 w12:=by subst hw12;exact af _ _
 have z11:w11.heap.size=w10.heap.size+1:=by subst hw11;exact av _ _
 have x11:w12.heap[w10.heap.size]? =some (.cells #[bS.v] bZ (0,0)):=ag b12 (by subst hw11;exact ak _ _);have x12:w12.heap[w11.heap.size]? =some (.cells #[bS.v] bZ (0,0)):=by subst hw12;exact ak _ _
 have b1012:=ae b11 b12;refine ce (s:=p) x11 fun w13 x13 N13 B13 hs13 hz13=>?_;have b13:=B13 _ _ (Nat.le_refl _) b1012;have y13:=(hs13 w11.heap.size (by omega)).trans x12;refine ce (s:=q) y13 fun w14 y14 N14 B14 hs14 hz14=>?_;have b14:=B14 _ _ (by omega) b13;have x14:=(hs14 w10.heap.size (by omega)).trans x13;have p14:ba w14 p pv:=N14 _ _ (N13 _ _ ((hp9.on b10).on b1012));have q14:ba w14 q qv:=N14 _ _ (N13 _ _ (hq10.on b1012));have b814:=ae (ae b9 b10) b14;have hC14:=(hC8.then b814).now 0;have t14:aq c w8 w14:=aq.of_below b814;have z814:w8.heap.size≤w10.heap.size:=(ae b9 b10).size;have z68:=b8.size;have ncx:w10.heap.size≠c:=by omega
 have ncy:w11.heap.size≠c:=by omega
 have cnt:fS M 12 0 (k:Int)=Aut.goN M k 0:=by
  have:=hF.ok.pos;unfold fS;rw [if_pos (by omega)];rfl
 have dgo:=Nat.le_trans (Lu hMn (k:=k) (L:=39) (by omega) (by decide) 0) (show 200≤100000 by decide);refine⟨_,_,_,aJ x14,(jZ w14 c b1 g 12 M s T hC14 hF (by decide) (k:Int) p pv p14 dp).mono ?_⟩;rintro e w15 ⟨u,z1,rfl,hU1,hC15,t15⟩;have hU1:=hU1.2 (by omega) (by omega);obtain⟨cc14,fz14,hx14⟩:=hC14.typ;have x15:=t15.held ncx x14;have y15:=t15.held ncy y14;have p15:=p14.past hx14 (by decide) t15;have q15:=q14.past hx14 (by decide) t15;refine⟨_,_,_,_,rfl,_,_,_,aJ y15,(jZ w15 c b1 g 12 M s T hC15 hF (by decide) (k:Int) q qv q15 dq).mono ?_⟩;rintro e w16 ⟨v,z2,rfl,hU2,hC16,t16⟩;have hU2:=hU2.2 (by omega) (by omega);obtain⟨cc15,fz15,hx15⟩:=hC15.typ;have x16:=t16.held ncx x15;have y16:=t16.held ncy y15;have p16:=p15.past hx15 (by decide) t16;have q16:=q15.past hx15 (by decide) t16;have t1516:=t15.trans t16;refine⟨_,_,_,_,rfl,?_⟩;intro w17 hw17;have b17:Below w16.heap.size w16 w17:=by subst hw17;exact aK w16
 have hC17:=(hC16.then b17).now 0;obtain⟨cc17,fz17,hx17⟩:=hC17.typ;refine⟨_,_,_,aJ (ag b17 x16),(fG w17 w17 0 c b1 g 12 M s T hC17 hF (by decide) (k:Int)).mono ?_⟩;rintro e w18 ⟨r1,rfl,hN18,hf18,t18⟩;rw [cnt]at hN18;have hC18:=(hf18.code hC17 (Nat.zero_le _) t18).now 0;have x18:=t18.held ncx (ag b17 x16);have y18:=t18.held ncy (ag b17 y16);have p18:=(p16.on b17).past hx17 (by decide) t18;have q18:=(q16.on b17).past hx17 (by decide) t18;refine⟨_,_,_,rfl,aJ x18,(da w18 p r1 _ _ p18 hN18 dp dgo).mono ?_⟩;rintro e w19 ⟨rfl,b19⟩;have is1:(z1==0)=decide (pv<Aut.goN M k 0):=by
  by_cases hlt:pv<Aut.goN M k 0
  ·rw [decide_eq_true hlt,(hU1.2 hlt).1];rfl
  ·rw [decide_eq_false hlt,(hU1.1 (Nat.le_of_not_lt hlt)).1];rfl
 have is2:(z2==0)=decide (qv<Aut.goN M k 0):=by
  by_cases hlt:qv<Aut.goN M k 0
  ·rw [decide_eq_true hlt,(hU2.2 hlt).1];rfl
  ·rw [decide_eq_false hlt,(hU2.1 (Nat.le_of_not_lt hlt)).1];rfl
 have hC19:=(hC18.then b19).now 0;obtain⟨cc19,fz19,hx19⟩:=hC19.typ;refine⟨_,rfl,ac.no (by rw [is1,rx,beq_self_eq_true];rfl) ⟨_,_,_,aJ (ag b19 y18),(fG w19 w19 0 c b1 g 12 M s T hC19 hF (by decide) (k:Int)).mono ?_⟩⟩;rintro e w20 ⟨r2,rfl,hN20,hf20,t20⟩;rw [cnt]at hN20;have hC20:=(hf20.code hC19 (Nat.zero_le _) t20).now 0;have x20:=t20.held ncx (ag b19 x18);have y20:=t20.held ncy (ag b19 y18);have p20:=(p18.on b19).past hx19 (by decide) t20;have q20:=(q18.on b19).past hx19 (by decide) t20;refine⟨_,_,_,rfl,aJ y20,(da w20 q r2 _ _ q20 hN20 dq dgo).mono ?_⟩;rintro e w21 ⟨rfl,b21⟩;have hC21:=(hC20.then b21).now 0;have x21:=ag b21 x20;have y21:=ag b21 y20;have p21:=p20.on b21;have q21:=q20.on b21;have t1621:aq c w16 w21:=(((aq.of_below b17).trans t18).trans (aq.of_below b19)).trans (t20.trans (aq.of_below b21));have t21:aq c w8 w21:=(t14.trans t1516).trans t1621;refine⟨_,rfl,ac.no (by rw [is2,rx,beq_self_eq_true];rfl) (ac.mk (fun c1=>?_) fun c1=>?_)⟩
 ·have c1:z1≠0:=by simpa using c1
  have e7:z1=7:=by
   by_cases hlt:pv<Aut.goN M k 0
   ·exact absurd (hU1.2 hlt).1 c1
   ·exact(hU1.1 (Nat.le_of_not_lt hlt)).1
  exact ac.no (by rw [e7];rfl) (ac.yes (by rw [e7];rfl) ⟨rfl,end_ t21⟩)
 have c1:z1=0:=by simpa using c1
 refine ac.no (by rw [c1];rfl) (ac.mk (fun c2=>⟨rfl,end_ t21⟩) fun c2=>?_);have c2:z2=0:=by simpa using c2
 have hp:pv<Aut.goN M k 0:=Nat.lt_of_not_le fun hh=>by have:=(hU1.1 hh).1;omega
 have hq:qv<Aut.goN M k 0:=Nat.lt_of_not_le fun hh=>by have:=(hU2.1 hh).1;omega
 obtain⟨_,ks1,kl1,kw1,kr1,un,uo⟩:=hU1.2 hp;obtain⟨_,ks2,kl2,kw2,kr2,vn,vo⟩:=hU2.2 hq;have kl1:ks1.length=k:=kl1;have kl2:ks2.length=k:=kl2;have kb1:∀j∈ks1,j<gN s T:=fun j hj=>by rw [←hF.n];exact BR kw1 j hj
 have kb2:∀j∈ks2,j<gN s T:=fun j hj=>by rw [←hF.n];exact BR kw2 j hj
 have hh1:=D6 hrise kb1;have hhas1:∀t∈co s T ks1,(aF s T).Has t:=fun t ht=>(jv hok t).1 (hh1 t ht);have ep:=Fc hrise kb1;have hf1:ma (aF s T) (co s T ks1) none:=(uQ hS hF.n hV hok hh1).1 (by rw [ep];exact kw1);have ul:u.n=(co s T ks1).length:=by rw [un,eZ]
 have vl:v.n=(co s T ks2).length:=by rw [vn,eZ]
 have gl1:(co s T ks1).length=k:=by rw [eZ,kl1]
 have gl2:(co s T ks2).length=k:=by rw [eZ,kl2]
 have rowu:∀ {q':World},aq c w21 q'→Rw aE 1 q' u.a (co s T ks1):=fun t=>(Rw.of_own (en hx15 ((t16.trans t1621).trans t) uo (by decide)) (fun _=>rfl) (by decide)).1;obtain⟨cc16,fz16,hx16⟩:=hC16.typ;have rowv:∀ {q':World},aq c w21 q'→Rw aE 1 q' v.a (co s T ks2):=fun t=>(Rw.of_own (en hx16 (t1621.trans t) vo (by decide)) (fun _=>rfl) (by decide)).1;have hRk:=lS w21 c b1 g 12 M s T _ hC21 hF (by decide) hS hok hV u.a u.c (co s T ks1) rowu (by omega);rw [←ul]at hRk;refine hRk.mono ?_;rintro e w22 ⟨r7,k7,rfl,hR7,hC22,t22⟩;obtain⟨e7,hN22⟩:=((hR7.2 (by omega)).2 hhas1).2 hf1;rw [ep,kr1]at hN22;subst e7;obtain⟨cc21,fz21,hx21⟩:=hC21.typ;have x22:=t22.held ncx x21;have y22:=t22.held ncy y21;have p22:=p21.past hx21 (by decide) t22;have q22:=q21.past hx21 (by decide) t22;refine⟨_,_,_,_,rfl,?_⟩;intro w23 hw23;have b23:Below w22.heap.size w22 w23:=by subst hw23;exact af _ _
 have x23:w23.heap[w22.heap.size]? =some (.cells #[bS.v] bZ (0,0)):=by subst hw23;exact ak _ _
 refine ce (s:=r7) x23 fun w24 x24 N24 B24 _ _=>?_;have b24:=B24 _ _ (Nat.le_refl _) b23;refine ac.no rfl ⟨_,_,_,aJ x24,_,_,_,aJ (ag b24 x22),(da w24 r7 p _ _ (N24 _ _ (hN22.on b23)) (p22.on b24) dp dp).mono ?_⟩;rintro e w25 ⟨rfl,b25⟩;rw [ur];have b2225:=ae b24 b25;have t2125:=t22.trans (aq.of_below b2225);have t25:=t21.trans t2125;refine⟨_,rfl,ac.no rfl ⟨_,_,_,_,_,_,_,_,_,_,_,_,_,_,_,qw (x:=r) (rv_ t25).2,?_⟩⟩;have hcn:=tn w25 r s T (rv_ t25).1 u.a u.c (co s T ks1) (rowu t2125) (by omega) hhas1;rw [←ul]at hcn;refine hcn.mono ?_;rintro e w26 ⟨rfl,b26⟩;have hcan:(aF s T).Canon (co s T ks1):=wz hf1;rw [decide_eq_true hcan];have b2226:=ae b2225 b26;refine⟨_,rfl,ac.no rfl (ac.no (by rw [ul,gl1];simp) (ac.no (by rw [vl,gl2];simp) ?_))⟩;have x26:=ag b2226 x22;have y26:=ag b2226 y22;have p26:=p22.on b2226;have q26:=q22.on b2226;have t2126:=t22.trans (aq.of_below b2226);have t26:=t21.trans t2126;intro I hI;have key:=aV (α:=World) k (fun i q'=>(∀j,j<i→ks1[j]? =ks2[j]?)∧Below w26.heap.size w26 q') (fun i q'=>I [.int .i64 (i:Int),.bool false] q') w26 ⟨fun j hj=>absurd hj (Nat.not_lt_zero j),Below.refl _ _⟩ ?_ ?_
 ·exact key
 ·rintro i hi ih q' ⟨hs,hq'⟩;refine hI _ false q' (ac.yes (decide_eq_true (by omega)) ?_);intro q1 hq1;have bq1:=ae hq' (show Below q'.heap.size q' q1 by subst hq1;exact aK q');have tq1:=t2126.trans (aq.of_below bq1);have i1:i< (co s T ks1).length:=by omega
  have i2:i< (co s T ks2).length:=by omega
  obtain⟨p1,hp1,c3⟩:=aS (rowu tq1) i1 rfl;obtain⟨p2,hp2,c4⟩:=aS (rowv tq1) i2 rfl;have g1:(co s T ks1)[i]=(bn s T).getD (ks1[i]'(by omega)) 0:=rF i1;have g2:(co s T ks2)[i]=(bn s T).getD (ks2[i]'(by omega)) 0:=rF i2;have m1:=kb1 _ (List.getElem_mem (l:=ks1) (n:=i) (by omega));have m2:=kb2 _ (List.getElem_mem (l:=ks2) (n:=i) (by omega));have gt1:=List.getElem?_eq_getElem (l:=ks1) (i:=i) (by omega);have gt2:=List.getElem?_eq_getElem (l:=ks2) (i:=i) (by omega);refine ah.mk p1 hp1 ⟨by omega,by omega,_,c3,ah.mk p2 hp2 ⟨by omega,by omega,_,c4,ac.mk (fun h0=>?_) fun h0=>?_⟩⟩
  ·have h0:¬(co s T ks1)[i]=(co s T ks2)[i]:=by simpa using h0
   intro q2 hq2;have bq2:=ae bq1 (show Below q1.heap.size q1 q2 by subst hq2;exact aK q1);have tq2:=t2126.trans (aq.of_below bq2);refine ah.mk p1 hp1 ⟨by omega,by omega,_,DU (rowu tq2) hp1 i1,ah.mk p2 hp2 ⟨by omega,by omega,_,DU (rowv tq2) hp2 i2,_,_,_,aJ (ag bq2 x26),_,_,_,aJ (ag bq2 y26),(da q2 p q _ _ (p26.on bq2) (q26.on bq2) dp dq).mono ?_⟩⟩;rintro e q3 ⟨rfl,b3⟩;have bq3:=ae bq2 b3;have tq3:=t2126.trans (aq.of_below bq3);refine⟨_,rfl,⟨DU (rowv tq3) hp2 i2,trivial⟩,⟨DU (rowu tq3) hp1 i1,trivial⟩,?_,end_ (t26.trans (aq.of_below bq3))⟩;rw [rx];have key2:(co s T ks1)[i] < (co s T ks2)[i]↔pv<qv:=by
    rw [g1,g2,De hrise m1 m2];constructor
    ·intro hlt;have:=Aut.rk_lex (by omega) kw1 kw2 (BH hs gt1 gt2 hlt);omega
    ·intro hlt;rcases Nat.lt_trichotomy (ks1[i]'(by omega)) (ks2[i]'(by omega))with h1 |h1 |h1
     ·exact h1
     ·exact absurd (by rw [g1,g2,h1]) h0
     ·have:=Aut.rk_lex (by omega) kw2 kw1 (BH (fun j hj=>(hs j hj).symm) gt2 gt1 h1);omega
   rw [decide_eq_decide.2 key2,beq_self_eq_true]
  ·have h0:(co s T ks1)[i]=(co s T ks2)[i]:=by simpa using h0
   refine Ar.nat (i+1) rfl (by omega) (ih q1 ⟨fun j hj=>?_,bq1⟩);by_cases e:j=i
   ·subst e;rw [gt1,gt2];congr 1;rw [g1,g2]at h0;rcases Nat.lt_trichotomy (ks1[j]'(by omega)) (ks2[j]'(by omega))with h1 |h1 |h1
    ·have:=(De hrise m1 m2).2 h1;omega
    ·exact h1
    ·have:=(De hrise m2 m1).2 h1;omega
   ·exact hs j (by omega)
 ·rintro q' ⟨hs,hq'⟩;refine hI _ false q' (ac.no (decide_eq_false (by omega)) ⟨_,_,_,aJ (ag hq' x26),_,_,_,aJ (ag hq' y26),(da q' p q _ _ (p26.on hq') (q26.on hq') dp dq).mono ?_⟩);rintro e q3 ⟨rfl,b3⟩;have ee:ks1=ks2:=by
   apply List.ext_getElem?;intro j;by_cases hj:j<k
   ·exact hs j hj
   ·rw [List.getElem?_eq_none_iff.2 (by omega),List.getElem?_eq_none_iff.2 (by omega)]
  have epq:pv=qv:=by rw [←kr1, ←kr2,ee]
  refine⟨_,rfl,?_,end_ (t26.trans (aq.of_below (ae hq' b3)))⟩;rw [epq,ur];rfl
theorem Bl {H:Type} {enc:TypeId×Value→H} {C:Checked} {os:Os} {f:FuncId} {fn:Func} {s:ChangeSpec}
  (own:ownKnob C.prog.godebug=none) (started:os.Started) (noInit:C.prog.inits.idxOf? f=none) (hfn:C.prog.funcs[f]? =some fn)
  (witness:∃(w:World) (tape:Tape) (i:Input),w.os=os∧(w.forCall tape i).Shaped C.prog∧i.vars= []∧Input.okWide C.prog (w.forCall tape i) .any w.heap.size f i∧
   ((s.pre enc C.prog fn [] false (w.forCall tape i).memory i.args∧True)∧sizedMet enc C.prog fn (OpenSpec.ofChange s) false (w.forCall tape i).memory i.args)∧({}:Assume).holds C.prog (lone (Frame.enter C.prog f i.args .normal) [] (w.forCall tape i)))
  (contract:∀(W:World) (base:Nat) (args:Array Value) (ds gs:List (DataW H)) (before:List MemPlace),
   (∀(j:Nat) t v,fn.params[j]? =some t→args[j]? =some v→Value.okWide C.prog W .any base t v)→
   DataW.Whole enc C.prog fn.params.toList s.vars false W args.toList ds gs before→
   (DataW.weightsEach C.prog (fn.params.toList++s.plain.varTypes C.prog) (ds++gs)).all (·≤reachBytes)=true→
   W.ShapedOpen C.prog→
   Calls C.prog f args W fun e W'=>∃v,e= .returned v∧s.post enc C.prog fn false true false false W args v W'):
  ReturnsInHanded {} C os f .any (fun w args=>s.pre enc C.prog fn [] false w args∧sizedMet enc C.prog fn (OpenSpec.ofChange s) false w args) (s.post enc C.prog fn false true false false):=by
 have witness':∃(w:World) (tape:Tape) (i:Input),w.os=os∧(w.forCall tape i).Shaped C.prog∧i.vars= []∧Input.okWide C.prog (w.forCall tape i) .any w.heap.size f i∧
   (s.pre enc C.prog fn [] false (w.forCall tape i).memory i.args∧sizedMet enc C.prog fn (OpenSpec.ofChange s) false (w.forCall tape i).memory i.args)∧({}:Assume).holds C.prog (lone (Frame.enter C.prog f i.args .normal) [] (w.forCall tape i)):=by
  obtain⟨w,tape,i,h1,h2,h3,h4,⟨⟨h5,_⟩,h6⟩,h7⟩:=witness;exact⟨w,tape,i,h1,h2,h3,h4,⟨h5,h6⟩,h7⟩
 refine returnsInHanded_of_calls own started noInit witness' ?_;intro w tape i _ hshape _ hok hpre _;obtain⟨_,_,_,fn',hfn',_,_,_,_,hval⟩:=hok;obtain rfl:fn'=fn:=Option.some.inj (hfn'.symm.trans hfn);obtain⟨⟨ds,gs,before,hw,_⟩,hz⟩:=hpre;refine(contract (w.forCall tape i) w.heap.size i.args ds gs before hval (DataW.Whole.of_heap (w':=w.forCall tape i) (by rfl) hw) (hz.weights hw) hshape).mono ?_;rintro e W' ⟨v,rfl,hp⟩;exact ChangeSpec.post_blind hp
end Go.Proofs.YtdlcfegnaphclaaGreat.Eng
