/- A code: good tokens' number; walked by the engine. -/
import Derived.Test.YtdlcfegnaphclaaGreatZrAf
import Derived.Test.YtdlcfegnaphclaaGreatZrTz
import Derived.Test.YtdlcfegnaphclaaGreatZrVc
set_option linter.unusedVariables false
set_option linter.unusedSimpArgs false
set_option maxRecDepth 100000
namespace Go.Proofs.YtdlcfegnaphclaaGreat.Eng
open Go Go.RowKit
def xl (s:ar) (T:List aP) (ids:List Int):List Nat:=ids.map fun t=>(oM s T t).getD 0
theorem Cy {s:ar} {T:List aP} {ids:List Int} (hh:∀t∈ids,fM s T t=true) {i:Nat} (hi:i<ids.length):oM s T ids[i]=some ((xl s T ids)[i]'(by unfold xl;rw [List.length_map];exact hi)):=by
 have h1:=hh _ (List.getElem_mem hi);rw [←qb]at h1;obtain⟨k,hk⟩:=Option.isSome_iff_exists.1 h1;unfold xl;rw [List.getElem_map,hk];rfl
theorem jY (s:ar) (T:List aP) (ids:List Int):(xl s T ids).length=ids.length:=List.length_map _
theorem DW {s:ar} {T:List aP} {M:Aut} {S:Nat→Nat→Prop} (hS:rh s T M S) (hn:M.n=gN s T) (hV:(aK s T).Ok) (hok:gz T) {ids:List Int} {ks:List Nat} (hl:ks.length=ids.length) (hk:∀(i:Nat) (h:i<ids.length),oM s T ids[i]=some (ks[i]'(by omega))):
  ∀i,i≤ids.length→(Aut.Way M 0 (ks.take i)↔∀(j:Nat) (h:j<ids.length),j<i→(aK s T).Has ids[j]∧(aK s T).Canon (ids.take (j+1)))∧(Aut.Way M 0 (ks.take i)→∃x,S x ((ks.take i).foldl M.nxt 0)∧jU s T ids i x):=by
 intro i;induction i with
 |zero=>exact fun _=>⟨⟨fun _ j _ hj=>absurd hj (Nat.not_lt_zero j),fun _=>trivial⟩,fun _=>⟨0,hS.zero,fun j _ hj=>absurd hj (Nat.not_lt_zero j),.inl ⟨rfl,rfl⟩⟩⟩
 |succ i ih=>
  intro hle;have hi:i<ids.length:=by omega
  obtain⟨ih1,ih2⟩:=ih (by omega);have htk:ks.take (i+1)=ks.take i++ [ks[i]]:=by rw [List.take_add_one,List.getElem?_eq_getElem (by omega)];rfl
  have hki:=hk i hi;have hkn:=(dp hki).1;have step:Aut.Way M 0 (ks.take i)→∃x,S x ((ks.take i).foldl M.nxt 0)∧jU s T ids i x∧(M.good (M.nxt ((ks.take i).foldl M.nxt 0) ks[i])=true↔(aK s T).Canon (ids.take (i+1)))∧(aK s T).Has ids[i]∧((aK s T).Canon (ids.take (i+1))→S (ks[i]+1) (M.nxt ((ks.take i).foldl M.nxt 0) ks[i])):=by
   intro hw;obtain⟨x,hx,hG⟩:=ih2 hw;obtain⟨h1,h2⟩:=oO hV hok hG hi hki;have h3:=hS.next x _ ks[i] hx hkn;have h4:=hS.good _ _ h3;refine⟨x,hx,hG,?_,h2,fun hc=>?_⟩
   ·rw [h4,decide_eq_true_eq, ←h1];by_cases hm:df (gN s T) (gW s T) (ct s T) x ks[i]=true
    ·rw [if_pos hm];exact iff_of_true hkn hm
    ·rw [if_neg hm];exact iff_of_false (by omega) hm
   ·rw [if_pos (h1.2 hc)]at h3;exact h3
  constructor
  ·rw [htk,Aut.way_append];constructor
   ·rintro⟨hw,_,hg⟩ j hj hji;obtain⟨x,_,_,h1,h2,_⟩:=step hw;by_cases e:j=i
    ·subst e;exact⟨h2,h1.1 hg⟩
    ·exact ih1.1 hw j hj (by omega)
   ·intro hall;have hw:=ih1.2 fun j hj hji=>hall j hj (by omega);obtain⟨x,_,_,h1,h2,_⟩:=step hw;exact⟨hw,by rw [hn];exact hkn,h1.2 (hall i hi (by omega)).2⟩
  ·rw [htk,Aut.way_append,List.foldl_append];rintro⟨hw,_,hg⟩;obtain⟨x,_,hG,h1,h2,h3⟩:=step hw;have hc:=h1.1 hg;exact⟨_,h3 hc,pi hG hi hki h2 hc⟩
theorem C6 {s:ar} {T:List aP} {M:Aut} {S:Nat→Nat→Prop} (hS:rh s T M S) (hn:M.n=gN s T) (hV:(aK s T).Ok) (hok:gz T) {ids:List Int} (hh:∀t∈ids,fM s T t=true):Aut.Way M 0 (xl s T ids)↔qd (aK s T) ids none:=by
 have h:=(DW hS hn hV hok (jY s T ids) (fun i hi=>Cy hh hi) ids.length (Nat.le_refl _)).1;rw [List.take_of_length_le (by rw [jY];exact Nat.le_refl _)]at h;rw [h];exact⟨fun h j hj=>h j hj hj,fun h j hj _=>h j hj⟩
theorem KE {M:Aut} (hn:M.n≤1032) (m s k:Nat):Aut.via M m s k≤1032^m:=by
 unfold Aut.via;split
 ·exact Nat.le_trans (Aut.goN_le _ _) (Nat.pow_le_pow_left hn m)
 ·exact Nat.zero_le _
theorem sum_le {M:Aut} (hn:M.n≤1032) (m s:Nat) {k:Nat} (hk:k≤1032):Aut.sumN (Aut.via M m s) k≤1032^(m+1):=by
 have:=Aut.sumN_le (KE hn m s) k;rw [Nat.pow_succ,Nat.mul_comm];exact Nat.le_trans this (Nat.mul_le_mul_right _ hk)
theorem Gi {M:Aut} (hn:M.n≤1032):∀ {u:List Nat} {L s:Nat},(∀k∈u,k≤1032)→Aut.pre M L s u≤u.length*1032^(L+1)
 | [],L,s,_=>Nat.zero_le _
 |k::u,L,s,h=>by
  have h1:=sum_le hn (L-1) s (h k (by simp));have h2:=Gi hn (u:=u) (L:=L-1) (s:=M.nxt s k) fun j hj=>h j (by simp [hj]);have h3:(1032:Nat)^(L-1+1)≤1032^(L+1):=Nat.pow_le_pow_right (by decide) (by omega);have h4:u.length*1032^(L-1+1)≤u.length*1032^(L+1):=Nat.mul_le_mul_left _ h3;show Aut.sumN (Aut.via M (L-1) s) k+Aut.pre M (L-1) (M.nxt s k) u≤(u.length+1)*1032^(L+1);rw [Nat.succ_mul];omega
theorem uF {x L:Nat} (h:x≤(L+1)*1032^(L+1)) (hL:L≤20000):(dD 4294967296 x).length≤L+2:=by
 refine kT dZ (Nat.lt_of_le_of_lt h ?_);have h1:(1032:Nat)^(L+1)≤4294967296^(L+1):=Nat.pow_le_pow_left (by decide) _;have h2:(L+1)*1032^(L+1)≤20001*4294967296^(L+1):=Nat.mul_le_mul (by omega) h1;have h3:20001*4294967296^(L+1) <4294967296*4294967296^(L+1):=Nat.mul_lt_mul_of_pos_right (by decide) (Nat.pow_pos (by decide));rw [show L+2=(L+1)+1 from rfl,Nat.pow_succ 4294967296 (L+1),Nat.mul_comm (4294967296^(L+1))];omega
structure fW (w q:World) (hi c a g L:Nat) (M:Aut) (s:ar) (T:List aP) (Rb Ab Sb Wb tot st:Nat) (want:Int):Prop where
 code:dx w q hi c a g L M s T
 hhi:hi≤q.heap.size
 all:∃l:Sl,q.heap[Ab]? =some (.cells #[l.v] cD (0,0))∧br q l tot
 state:q.heap[Sb]? =some (.cells #[.int .i64 (st:Int)] bf (0,0))
 want:q.heap[Wb]? =some (.cells #[.int .i64 want] bf (0,0))
 res:q.heap[Rb]? =some (.cells #[bV.v] cD (0,0))
section
variable {w q q':World} {hi c a g L:Nat} {M:Aut} {s:ar} {T:List aP} {Rb Ab Sb Wb tot st:Nat} {want:Int}
theorem fW.from (h:fW w q hi c a g L M s T Rb Ab Sb Wb tot st want) (f:mO q q' c a g L M) (t:au c q q') (n1:Ab≠c) (n2:Sb≠c) (n3:Wb≠c) (n4:Rb≠c):fW w q' hi c a g L M s T Rb Ab Sb Wb tot st want:=by
 obtain⟨l,h1,h2⟩:=h.all;obtain⟨d,lc,hx,_⟩:=h.code.cnt;exact⟨f.code h.code h.hhi t,Nat.le_trans h.hhi t.size,⟨l,t.held n1 h1,h2.past hx (by decide) t⟩,t.held n2 h.state,t.held n3 h.want,t.held n4 h.res⟩
theorem fW.on (h:fW w q hi c a g L M s T Rb Ab Sb Wb tot st want) (hb:Below q.heap.size q q'):fW w q' hi c a g L M s T Rb Ab Sb Wb tot st want:=by
 obtain⟨l,h1,h2⟩:=h.all;exact⟨h.code.then hb,Nat.le_trans h.hhi hb.size,⟨l,ah hb h1,h2.on hb⟩,ah hb h.state,ah hb h.want,ah hb h.res⟩
theorem qh {q:World} {b:Nat} {v0:Value} {n:Int} {K:World→Prop} (h:q.heap[b]? =some (.cells #[v0] bf (0,0))) (hk:∀q',q'.heap[b]? =some (.cells #[.int .i64 n] bf (0,0))→au b q q'→(∀B w0,B≤b→Below B w0 q→Below B w0 q')→K q'):
  (Value.int .i64 n).oneCell'=true∧(∃u,q.cell? ⟨b,0,none⟩=some u)∧q.frozen? ⟨b,0,none⟩=false∧∀q',q'=q.setCell ⟨b,0,none⟩ (.int .i64 n)→K q':=
 fj (aS h [.int .i64 n] rfl (fun v hv=>by rw [List.mem_singleton.1 hv];rfl) fun q' h1 h2 h3 h4=>hk q' h1 (cX h4 h2 h3) h4)
set_option maxHeartbeats 1000000 in
theorem xR (h:fW w q hi c a g L M s T Rb Ab Sb Wb tot st want) (a1:w.heap.size≤Ab) (a2:Ab<hi) (s1:w.heap.size≤Sb) (s2:Sb<hi) (n1:Ab≠Sb) (n2:hi≤Wb) (r1:Rb≠Ab) (r2:Rb≠Sb) (id:Int) (nx:Nat) (r:Sl) (v:Nat) (hr:br q r v) (d1:(dD 4294967296 tot).length≤100000) (d2:(dD 4294967296 v).length≤100000):
  bH gr (.func (.func 99) #[] #[.pointer (some ⟨Wb,0,none⟩),.pointer (some ⟨Sb,0,none⟩),.pointer (some ⟨Ab,0,none⟩)]) [.int .i64 id,.int .i64 (nx:Int),.agg #[r.v]] q fun e q2=>∃b:Bool,e= .returned (.bool b)∧(b=true→id=want∧fW w q2 hi c a g L M s T Rb Ab Sb Wb tot nx want)∧(b=false→id≠want∧fW w q2 hi c a g L M s T Rb Ab Sb Wb (tot+v) st want):=by
 refine bT (by kernel_rfl) ?_;refine aL (BJ id (nx:Int) r.a r.n r.c (some ⟨Wb,0,none⟩) (some ⟨Sb,0,none⟩) (some ⟨Ab,0,none⟩) q) ?_;intro w1 hw1;have b1:Below q.heap.size q w1:=by subst hw1;exact ag _ _
 have x1:w1.heap[q.heap.size]? =some (.cells #[r.v] cD (0,0)):=by subst hw1;exact ak _ _
 have h1:=h.on b1;obtain⟨l,hl,hN⟩:=h1.all;refine af.mk _ rfl ⟨_,aM h1.want,ac.mk (fun he=>?_) fun he=>?_⟩
 ·have he:id=want:=by simpa using he
  refine af.mk _ rfl (qh (n:=(nx:Int)) h1.state fun q' hx t B'=>⟨true,rfl,fun _=>⟨he,h1.code.box h1.state s1 s2 (by decide) t,Nat.le_trans h1.hhi t.size,⟨l,t.held n1 hl,hN.past h1.state (by decide) t⟩,hx,t.held (by omega) h1.want,t.held r2 h1.res⟩,fun h=>(by cases h)⟩)
 ·have he:¬id=want:=by simpa using he
  refine af.mk _ rfl ⟨_,_,_,bc hl,_,_,_,bc x1,?_⟩;intro w3 hw3;have b3:Below w1.heap.size w1 w3:=by subst hw3;exact ag _ _
  have x3:w3.heap[w1.heap.size]? =some (.cells #[r.v] cD (0,0)):=by subst hw3;exact ak _ _
  refine(pv w3 l r tot v (hN.on b3) ((hr.on b1).on b3) d1 d2 (nb w1) 1 (aM x3) (Array.getElem?_eq_some_iff.1 x3).1).mono ?_;rintro e w4 ⟨y,rfl,hy,b4⟩;have h4:=(h1.on b3).on b4;obtain⟨l',hl',hN'⟩:=h4.all;refine⟨y.a,y.n,y.c,rfl,af.mk _ rfl (cU (s:=y) hl' fun q' hx hN9 hB9 hs9 hz9=>⟨false,rfl,fun h=>(by cases h),fun _=>⟨he,?_⟩⟩)⟩;have t:=cX hB9 hs9 hz9;exact⟨h4.code.box hl' a1 a2 (by decide) t,Nat.le_trans h4.hhi t.size,⟨y,hx,hN9 _ _ hy⟩,t.held (Ne.symm n1) h4.state,t.held (by omega) h4.want,t.held r1 h4.res⟩
end
def KU (w':World) (M:Aut) (s:ar) (T:List aP) (L:Nat) (ids:List Int) (r:Sl) (k:Int):Prop:=
 (ids.length>L→k=3∧br w' r 0)∧(ids.length≤L→((¬(∀t∈ids,(aK s T).Has t)→k=4∧br w' r 0)∧((∀t∈ids,(aK s T).Has t)→(¬qd (aK s T) ids none→k=8∧br w' r 0)∧(qd (aK s T) ids none→k=0∧br w' r (Aut.rk M 0 (xl s T ids))))))
set_option maxHeartbeats 4000000 in
theorem sJ (w:World) (c a g L:Nat) (M:Aut) (s:ar) (T:List aP) (S:Nat→Nat→Prop) (h:dx w w 0 c a g L M s T) (hF:gJ M s T) (hL:L≤20000) (hS:rh s T M S) (hok:gz T) (hV:(aK s T).Ok) (A:Option Addr) (C:Nat) (ids:List Int) (row:∀ {q:World},au c w q→Rw aQ 1 q A ids) (hl:ids.length≤10000):
  CP 51 #[.pointer (some ⟨c,0,none⟩),.slice A ids.length C] w fun e w'=>∃(r:Sl) (k:Int),e= .returned (.tuple #[.agg #[r.v],.int .i64 k])∧KU w' M s T L ids r k∧dx w' w' 0 c a g L M s T∧au c w w':=by
 refine aL (BQ (some ⟨c,0,none⟩) A ids.length C w) ?_;have hMn:=hF.n;have hfew:=hF.few;intro w1 hw1;have b1:Below w.heap.size w w1:=by subst hw1;exact ag _ _
 have z1:w1.heap.size=w.heap.size+1:=by subst hw1;exact av _ _
 have x1:w1.heap[w.heap.size]? =some (.cells #[bV.v] cD (0,0)):=by subst hw1;exact ak _ _
 have h1:=h.then b1;have hclt:=h.lt;obtain⟨d,l,hx,_⟩:=h1.cnt;have none_:∀ {K:World→Prop},(∀(q':World),q'.heap[w.heap.size]? =some (.cells #[bV.v] cD (0,0))→br q' bV 0→dx q' q' 0 c a g L M s T→au c w q'→K q')→bV.v.oneCell'=true∧(∃u,w1.cell? ⟨w.heap.size,0,none⟩=some u)∧w1.frozen? ⟨w.heap.size,0,none⟩=false∧∀q',q'=w1.setCell ⟨w.heap.size,0,none⟩ bV.v→K q':=by
  intro K hk;refine cU (s:=bV) x1 fun q' hx' hN' hB' _ _=>?_;have hb:=hB' _ _ (Nat.le_refl _) b1;exact hk q' hx' (iU _) ((h.then hb).now 0) (au.of_below hb)
 refine ac.no rfl (af.mk _ rfl ⟨_,aj _ _ hx 2,ac.mk (fun c1=>?_) fun c1=>af.mk _ rfl ⟨_,aj _ _ hx 0,?_⟩⟩)
 ·have c1:=of_decide_eq_true c1;refine none_ fun q' hx' hN hC ht=>⟨_,_,_,bc hx',bV,3,rfl,⟨fun _=>⟨rfl,hN⟩,fun h=>by omega⟩,hC,ht⟩
 have c1:=of_decide_eq_false c1;refine(Cf w1 a g M h1.on.aut s T h1.on.grid hMn S hS hok hV A C ids (row (au.of_below b1)) hl).mono ?_;rintro e w4 ⟨r0,okb,rfl,hok1,hok2,hw4⟩;subst w4;refine⟨_,_,rfl,ac.mk (fun c2=>?_) fun c2=>?_⟩
 ·have c2:okb=false:=by simpa using c2
  refine none_ fun q' hx' hN hC ht=>⟨_,_,_,bc hx',bV,4,rfl,⟨fun h=>by omega,fun _=>⟨fun _=>⟨rfl,hN⟩,fun hh=>?_⟩⟩,hC,ht⟩;have:=hok1.2 hh;rw [c2]at this;cases this
 have c2:okb=true:=by simpa using c2
 have hhas:=hok1.1 c2;obtain⟨p,rfl,hp,hgp⟩:=hok2 c2;refine af.mk _ rfl ⟨_,aj _ _ hx 0,(jG w1 a g M h1.on.aut _).mono ?_⟩;rintro e w6 ⟨rfl,hw6⟩;subst w6;rw [pK hp];refine⟨_,rfl,ac.mk (fun c3=>?_) fun c3=>?_⟩
 ·have c3:M.good p=false:=by simpa using c3
  refine none_ fun q' hx' hN hC ht=>⟨_,_,_,bc hx',bV,8,rfl,⟨fun h=>by omega,fun _=>⟨fun hh=>absurd hhas hh,fun _=>⟨fun _=>⟨rfl,hN⟩,fun hf=>?_⟩⟩⟩,hC,ht⟩;rw [hgp.2 hf]at c3;cases c3
 have c3:M.good p=true:=by simpa using c3
 have hfirst:=hgp.1 c3;have hh2:∀t∈ids,fM s T t=true:=fun t ht=>(kb hok t).2 (hhas t ht);obtain⟨ks,hks⟩:∃ks,ks=xl s T ids:=⟨_,rfl⟩;have hway:Aut.Way M 0 ks:=by rw [hks];exact(C6 hS hMn hV hok hh2).2 hfirst
 have hkl:ks.length=ids.length:=by rw [hks];exact jY s T ids
 have hkat:∀(i:Nat) (h:i<ids.length),oM s T ids[i]=some (ks[i]'(by omega)):=fun i hi=>by
  subst hks;exact Cy hh2 hi
 have hkb:∀k∈ks,k<gN s T:=fun k hk=>by
  obtain⟨i,hi,rfl⟩:=List.getElem_of_mem hk;exact(dp (hkat i (by omega))).1
 intro w8 hw8 w9 hw9;have b8:Below w1.heap.size w1 w8:=by subst hw8;exact ag _ _
 have b9:Below w8.heap.size w8 w9:=by subst hw9;exact ag _ _
 have z8:w8.heap.size=w1.heap.size+1:=by subst hw8;exact av _ _
 have z9:w9.heap.size=w8.heap.size+1:=by subst hw9;exact av _ _
 have x8:w9.heap[w1.heap.size]? =some (.cells #[bV.v] cD (0,0)):=ah b9 (by subst hw8;exact ak _ _);have x9:w9.heap[w8.heap.size]? =some (.cells #[.int .i64 0] bf (0,0)):=by subst hw9;exact ak _ _
 have b89:=ae b8 b9;have b09:=ae b1 b89;refine qh (n:=0) x9 fun w10 x10 t10 B10=>?_;have b10:Below w.heap.size w w10:=B10 _ _ (by omega) b09;have x8':=t10.held (by omega) x8;have xr:=t10.held (by omega) (ah b89 x1);have z10:=t10.size;have hi10:w9.heap.size≤w10.heap.size:=z10;have hst0:∀i,i≤ids.length→(ks.take i).foldl M.nxt 0<M.N:=by
  intro i;induction i with
  |zero=>intro _;exact hF.ok.pos
  |succ i ih=>
   intro hi;rw [List.take_add_one,List.getElem?_eq_getElem (by omega),List.foldl_append];exact hF.ok.lt _ _ (ih (by omega)) (by rw [hMn];exact hkb _ (List.getElem_mem _))
 have wayAt:∀(i:Nat) (hi:i<ids.length),M.good (M.nxt ((ks.take i).foldl M.nxt 0) (ks[i]'(by omega)))=true:=by
  intro i hi;have e:ks=(ks.take i++ [ks[i]'(by omega)])++ks.drop (i+1):=by
   rw [List.append_assoc,List.singleton_append, ←List.drop_eq_getElem_cons,List.take_append_drop]
  have:∀(u v:List Nat) (x:Nat),Aut.Way M x (u++v)→Aut.Way M x u:=by
   intro u;induction u with
   |nil=>exact fun v x _=>trivial
   |cons k u ih=>exact fun v x hw=>⟨hw.1,hw.2.1,ih v _ hw.2.2⟩
  have h2:=this _ _ 0 (by rw [←e];exact hway);exact(Aut.way_append.1 h2).2.2
 intro I hI;have key:=aX (α:=World) ids.length (fun i q=>dx w q w10.heap.size c a g L M s T∧w10.heap.size≤q.heap.size∧(∃l:Sl,q.heap[w1.heap.size]? =some (.cells #[l.v] cD (0,0))∧br q l (Aut.pre M ids.length 0 (ks.take i)))∧q.heap[w8.heap.size]? =some (.cells #[.int .i64 (((ks.take i).foldl M.nxt 0:Nat):Int)] bf (0,0))∧q.heap[w.heap.size]? =some (.cells #[bV.v] cD (0,0))) (fun i q=>I [.int .i64 (i:Int)] q) w10 ⟨(h.now _).then b10,Nat.le_refl _,⟨bV,x8',iU _⟩,x10,xr⟩ ?_ ?_
 ·exact key
 ·rintro i hi ih q ⟨hC,hq,⟨l,hlx,hN⟩,hsx,hrx⟩;have hlt:=hC.t;obtain⟨pw,hpw,c0⟩:=aZ (row hC.t) hi rfl;refine hI _ q (ac.yes (decide_eq_true (by omega)) (af.mk pw hpw ⟨by omega,by omega,_,c0,?_⟩));intro w12 hw12;have b12:Below q.heap.size q w12:=by subst hw12;exact ag _ _
  have x12:w12.heap[q.heap.size]? =some (.cells #[.int .i64 0] bf (0,0)):=by subst hw12;exact ak _ _
  refine qh (n:=ids[i]) x12 fun w13 x13 t13 B13=>?_;have b13:Below q.heap.size q w13:=B13 _ _ (Nat.le_refl _) b12;have hki:ks[i]'(by omega) <gN s T:=hkb _ (List.getElem_mem _);have hsi:=hst0 i (by omega);obtain⟨st,hst⟩:∃st,st=(ks.take i).foldl M.nxt 0:=⟨_,rfl⟩;obtain⟨tot,htot⟩:∃tot,tot=Aut.pre M ids.length 0 (ks.take i):=⟨_,rfl⟩;obtain⟨left,hleft⟩:∃left,left=ids.length-1-i:=⟨_,rfl⟩;have hg:=wayAt i hi;rw [←hst]at hsx hsi hg;rw [←htot]at hN;have ht1:tot≤i*1032^(ids.length+1):=by
   rw [htot];have:=Gi (M:=M) (by omega) (u:=ks.take i) (L:=ids.length) (s:=0) fun k hk=>by have:=hkb k (List.mem_of_mem_take hk);omega
   rwa [List.length_take,Nat.min_eq_left (by omega)]at this
  have ht2:∀k,k≤gN s T→tot+Aut.sumN (Aut.via M left st) k≤(ids.length+1)*1032^(ids.length+1):=by
   intro k hk;have h1:=sum_le (M:=M) (by omega) left st (k:=k) (by omega);have h2:(1032:Nat)^(left+1)≤1032^(ids.length+1):=Nat.pow_le_pow_right (by decide) (by omega);have h3:i*1032^(ids.length+1)≤ids.length*1032^(ids.length+1):=Nat.mul_le_mul_right _ (by omega);rw [Nat.succ_mul];omega
  have R13:fW w w13 w10.heap.size c a g L M s T w.heap.size w1.heap.size w8.heap.size q.heap.size tot st ids[i]:=⟨hC.then b13,Nat.le_trans hq b13.size,⟨l,ah b13 hlx,hN.on b13⟩,ah b13 hsx,x13,ah b13 hrx⟩;obtain⟨ki,hkid⟩:∃ki,ki=ks[i]'(by omega):=⟨_,rfl⟩;rw [←hkid]at hki hg;have hplc:oM s T ids[i]=some ki:=by rw [hkid];exact hkat i hi
  refine⟨_,aM R13.state,Ar.ok64 (by omega) (by omega) (Ar.nat left (by omega) (by omega) ?_)⟩;refine(nY w w10.heap.size c a g L M s T hF hL st left hsi (by omega) _ w13 (fun k q'=>k≤ki∧fW w q' w10.heap.size c a g L M s T w.heap.size w1.heap.size w8.heap.size q.heap.size (tot+Aut.sumN (Aut.via M left st) k) st ids[i]) (fun q'=>fW w q' w10.heap.size c a g L M s T w.heap.size w1.heap.size w8.heap.size q.heap.size (tot+Aut.sumN (Aut.via M left st) ki) (M.nxt st ki) ids[i]) ⟨Nat.zero_le _,R13⟩ (fun k q' h=>h.2.code) ?_ ?_).mono ?_
  ·rintro k q' hk ⟨h1,h3⟩ hb;refine⟨?_,?_⟩
   ·have:k≠ki:=fun e=>by
     rw [e,hg]at hb;cases hb
    omega
   ·have:Aut.via M left st k=0:=by unfold Aut.via;rw [hb];rfl
    show fW w q' _ c a g L M s T _ _ _ _ (tot+(Aut.sumN (Aut.via M left st) k+Aut.via M left st k)) st ids[i];rw [this];exact h3
  ·rintro k q1 hk ⟨h1,h3⟩ hgk r q2 hf ht hNr;have h4:=h3.from hf ht (by omega) (by omega) (by omega) (by omega);have d1:=uF (ht2 k (by omega)) (by omega);have hv:Aut.via M left st k≤(ids.length+1)*1032^(ids.length+1):=by
    have:=ht2 (k+1) (by omega);have e:Aut.sumN (Aut.via M left st) (k+1)=Aut.sumN (Aut.via M left st) k+Aut.via M left st k:=rfl;omega
   have d2:=uF hv (by omega);refine bH.mono (xR h4 (by omega) (by omega) (by omega) (by omega) (by omega) (by omega) (by omega) (by omega) ((bx s T).getD k 0) (M.nxt st k) r _ hNr (by omega) (by omega)) ?_;rintro e q3 ⟨b,rfl,hb1,hb0⟩;have hpk:=ue hF.rise hk;refine⟨b,rfl,fun hb=>?_,fun hb=>?_⟩
   ·obtain⟨he,hR⟩:=hb1 hb;rw [he,hplc]at hpk;cases hpk;exact hR
   ·obtain⟨he,hR⟩:=hb0 hb;refine⟨?_,?_⟩
    ·have:k≠ki:=fun e=>he (by rw [e];exact(dp hplc).2.1);omega
    ·rw [Nat.add_assoc]at hR;exact hR
  ·rintro e w14 ⟨b,rfl,hQ,hP⟩;cases b with
   |false=>
    have:=(hP rfl).1;omega
   |true=>
    have hR:=hQ rfl;have htk:ks.take (i+1)=ks.take i++ [ki]:=by rw [List.take_add_one,List.getElem?_eq_getElem (by omega),hkid];rfl
    refine⟨_,rfl,Ar.nat (i+1) rfl (by omega) (ih w14 ⟨hR.code,hR.hhi,?_,?_,hR.res⟩)⟩
    ·rw [htk,Aut.pre_snoc, ←htot, ←hst,List.length_take,Nat.min_eq_left (by omega), ←hleft];exact hR.all
    ·rw [htk,List.foldl_append, ←hst];exact hR.state
 ·rintro q ⟨hC,hq,⟨l,hlx,hN⟩,hsx,hrx⟩;refine hI _ q (ac.no (decide_eq_false (by omega)) ⟨_,_,_,bc hlx,cU (s:=l) hrx fun w15 hx15 hN15 hB15 hs15 hz15=>⟨_,_,_,bc hx15,l,0,rfl,⟨fun h=>by omega,fun _=>⟨fun hh=>absurd hhas hh,fun _=>⟨fun hh=>absurd hfirst hh,fun _=>⟨rfl,?_⟩⟩⟩⟩,?_,?_⟩⟩)
  ·have h2:=hN15 _ _ hN;rw [List.take_of_length_le (by omega), ←hkl,Aut.pre_rk,hks]at h2;exact h2
  ·exact(hC.box hrx (Nat.le_refl _) (by omega) (by decide) (cX hB15 hs15 hz15)).now 0
  ·have t:=cX hB15 hs15 hz15;have t0:=hC.t;exact⟨t.os.trans t0.os,t.tape.trans t0.tape,t.output.trans t0.output,Nat.le_trans t0.size t.size,fun j hj hne=>(t.block j (Nat.lt_of_lt_of_le hj t0.size) (by omega)).trans (t0.block j hj hne)⟩
def sZ:ar:={}
theorem Hm:sZ.right=true:=by decide+kernel
theorem Ih:du sZ= .ok aG:=by
 have h:(match du sZ with | .ok t=>decide (t=aG) | .error _=>false)=true:=by decide+kernel
 cases hx:du sZ with
 |error q=>rw [hx]at h;cases h
 |ok t=>rw [hx]at h;rw [of_decide_eq_true h]
theorem Fu:(bx sZ aG).length=256:=by decide+kernel
theorem E6 (w:World):dw w ⟨false,bV,bV,bV,bV,bV⟩ sZ:=by
 have none_:∀ {α:Type} {enc:α→List Value} {sz:Nat},Rw enc sz w none []:=fun j x hj=>by simp at hj
 exact⟨rfl,rfl,none_,rfl,none_,rfl,none_,rfl,none_,rfl,none_⟩
theorem zT {s:ar} {T:List aP} (hn:gN s T≤1032) {f:Nat→Nat} (hc:Aut.Cls (dc s T) f):Aut.Stays (Aut.least (dc s T) f):=by
 intro p hp hb k hk;have hM:=jf (s:=s) (T:=T) hn;have hS:Aut.Sim (dc s T) f ((Aut.metL (dc s T) f).getD p 0) p:=⟨Aut.getD_lt hM f hp,hp,rfl⟩;have hk':k< (dc s T).n:=hk;rw [(hS.next hM hc hk').good hM hc];rw [hS.good hM hc]at hb;have hb':¬(Aut.metL (dc s T) f).getD p 0≤gN s T:=of_decide_eq_false hb;have:(dc s T).good ((dc s T).nxt ((Aut.metL (dc s T) f).getD p 0) k)=df (gN s T) (gW s T) (ct s T) ((Aut.metL (dc s T) f).getD p 0) k:=hU _ hk';rw [this];unfold df;rw [if_neg (by omega),if_neg hb']
theorem sS {s:ar} {T:List aP} (hn:gN s T≤1032) {f:Nat→Nat} (hc:Aut.Cls (dc s T) f):(Aut.least (dc s T) f).N≤gN s T+2:=
 Aut.met_few (jf hn) hc.lt (dc s T).N
theorem oo {s:ar} {T:List aP} (hn:gN s T≤1032) (hr:qm s T) {f:Nat→Nat} (hc:Aut.Cls (dc s T) f):gJ (Aut.least (dc s T) f) s T where
 n:=rfl
 few:=hn
 rise:=hr
 ok:=Aut.least_ok (jf hn) hc.lt
 N:=by have:=sS hn hc;omega
 stays:=zT hn hc
theorem mT:gN sZ aG=256:=Fu
theorem zX:(∀i:Nat,i<256→(bx sZ aG).getD i 0=(i:Int))∧qm sZ aG:=by decide+kernel
theorem Pa:(aK sZ aG).ms= []:=by decide+kernel
theorem KC:∀i:Nat,i<256→(aK sZ aG).ex (i:Int)= [(i:Int)]:=by decide+kernel
theorem L5 (x y:Int) (hx:0≤x) (hy:0≤y):(aK sZ aG).cut x y=false:=by
 unfold Voc.cut;rw [decide_eq_false (by omega),decide_eq_false (by omega),Bool.false_or,Bool.false_or];show cutB [] [] x y=false;unfold cutB;exact decide_eq_false fun e=>e.1 rfl
theorem EJ:∀Z:List Int,Z≠ []→(∀x∈Z,0≤x)→chop (aK sZ aG).cut Z= [Z]
 | [],h,_=>absurd rfl h
 | [x],_,_=>rfl
 |x::y::r,_,h=>by
  have hx:=h x (by simp);have hy:=h y (by simp);rw [chop,if_neg (by rw [L5 x y hx hy];exact Bool.false_ne_true),EJ (y::r) (by simp) fun z hz=>h z (List.mem_cons_of_mem _ hz)]
theorem Iw (Z:List Int) (h:Z≠ []) (h0:∀x∈Z,0≤x):(aK sZ aG).encode Z=Z:=by
 unfold Voc.encode;rw [EJ Z h h0,List.flatMap_cons,List.flatMap_nil,List.append_nil];cases Z with
 |nil=>exact absurd rfl h
 |cons x r=>
  have:=h0 x List.mem_cons_self;show(if x<0 then _ else after (aK sZ aG).ms (aK sZ aG).ms.length (x::r))=_;rw [if_neg (by omega),Pa];rfl
theorem Da (t:Int):(aK sZ aG).items t=(aK sZ aG).ex t:=rfl
theorem L6 {i:Nat} (hi:i<256):gW sZ aG i=true:=by
 unfold gW;rw [zX.1 i hi];refine decide_eq_true ?_;show(aK sZ aG).encode ((aK sZ aG).itemsAll [(i:Int)])= [(i:Int)];unfold Voc.itemsAll;simp only [List.flatMap_cons,List.flatMap_nil,List.append_nil,Da];rw [KC i hi,Iw _ (by simp) (by intro x hx;simp at hx;omega)]
theorem ME {i j:Nat} (hi:i<256) (hj:j<256):ct sZ aG i j=true:=by
 unfold ct;rw [zX.1 i hi,zX.1 j hj];refine decide_eq_true ?_;show(aK sZ aG).encode ((aK sZ aG).itemsAll [(i:Int),(j:Int)])= [(i:Int),(j:Int)];unfold Voc.itemsAll;simp only [List.flatMap_cons,List.flatMap_nil,List.append_nil,Da];rw [KC i hi,KC j hj,Iw _ (by simp) (by intro x hx;simp at hx;omega)];rfl
theorem C0 {i k:Nat} (hi:i≤256) (hk:k<256):df 256 (gW sZ aG) (ct sZ aG) i k=true:=by
 unfold df;by_cases e:i=0
 ·rw [if_pos e,L6 hk]
 ·rw [if_neg e,if_pos hi,ME (by omega) hk]
theorem KP {al:Nat→Bool} {rel:Nat→Nat→Bool} (ha:∀i,i<256→al i=true) (hm:∀i k,i≤256→k<256→df 256 al rel i k=true) {M:Aut} (hM:M=eK 256 al rel) {f:Nat→Nat} (hc:Aut.Cls M f):(Aut.least M f).N=1:=by
 subst hM;have hact:∀i,i<257→sG al i=true:=by
  intro i hi;unfold sG;by_cases e:i=0
  ·subst e;rfl
  ·rw [ha _ (by omega)];simp
 have hrow:∀i,i<257→mW 256 al rel i=mW 256 al rel 0:=fun i hi=>rU.2 fun k hk=>by rw [hm _ _ (by omega) hk,hm _ _ (by omega) hk]
 have hone:(lu 256 al rel (256+1)).length=1:=by
  apply Nat.le_antisymm
  ·refine ic (m:=[mW 256 al rel 0]) (iv _) fun r hr=>?_;obtain⟨i,hi,_,rfl⟩:=(gS _ _).1 hr;rw [hrow i hi];exact List.mem_cons_self
  ·refine ic (l:=[mW 256 al rel 0]) (by simp) fun r hr=>?_;rw [List.mem_singleton.1 hr];exact(gS _ _).2 ⟨0,by decide,hact 0 (by decide),rfl⟩
 have hbad:¬Ek 256 al rel (256+1)=true:=by
  intro h;obtain⟨i,k,hi,_,hk,hh⟩:=qp.1 h;rw [hm i k (by omega) hk]at hh;cases hh
 rw [HJ,AE (n:=256) (by decide) (fun i k hi hk _=>ha k hk) hc,hone,if_neg hbad]
theorem Ic {f:Nat→Nat} (hc:Aut.Cls (dc sZ aG) f):(Aut.least (dc sZ aG) f).N=1:=
 KP (fun i hi=>L6 hi) (fun i k hi hk=>C0 hi hk) (by unfold dc;rw [mT]) hc
theorem GI (c:Nat):∀n:Nat,Aut.sumN (fun _=>c) n=n*c
 |0=>(Nat.zero_mul c).symm
 |n+1=>by rw [Nat.succ_mul, ←GI c n];rfl
section
variable {M:Aut} {S:Nat→Nat→Prop}
theorem CH (hS:rh sZ aG M S) (hn:M.n=256):∀(m x p k:Nat),S x p→x≤256→k<256→Aut.via M m p k=256^m
 |m,x,p,k,h,hx,hk=>by
  have hnx:=hS.next x p k h (by rw [mT];exact hk);rw [mT,if_pos (C0 hx hk)]at hnx;have hg:=hS.good _ _ hnx;rw [mT,decide_eq_true (by omega)]at hg;unfold Aut.via;rw [if_pos hg]
  match m with
  |0=>unfold Aut.goN;rw [if_pos hg]
  |m+1=>
   rw [Aut.goN_succ,Aut.sumN_congr (g:=fun _=>256^m) fun j hj=>CH hS hn m (k+1) _ j hnx (by omega) (by omega),hn];rw [GI,Nat.pow_succ,Nat.mul_comm]
theorem O4 (hS:rh sZ aG M S) (hn:M.n=256) {m x p:Nat} (h:S x p) (hx:x≤256):Aut.goN M m p=256^m:=by
 have hg:=hS.good _ _ h;rw [mT,decide_eq_true hx]at hg;cases m with
 |zero=>unfold Aut.goN;rw [if_pos hg]
 |succ m=>
  rw [Aut.goN_succ,Aut.sumN_congr (g:=fun _=>256^m) fun j hj=>CH hS hn m x _ j h hx (by omega),hn];rw [GI,Nat.pow_succ,Nat.mul_comm]
theorem OZ (hS:rh sZ aG M S) (hn:M.n=256):Aut.rk M 0 [97,98]=24930∧Aut.Way M 0 [97,98]:=by
 have h1:=hS.next 0 0 97 hS.zero (by rw [mT];decide);rw [mT,if_pos (C0 (by decide) (by decide))]at h1;have g1:=hS.good _ _ h1;rw [mT,decide_eq_true (by decide)]at g1;have h2:=hS.next _ _ 98 h1 (by rw [mT];decide);rw [mT,if_pos (C0 (by decide) (by decide))]at h2;have g2:=hS.good _ _ h2;rw [mT,decide_eq_true (by decide)]at g2;refine⟨?_,by omega,g1,by omega,g2,trivial⟩;show Aut.sumN (Aut.via M 1 0) 97+(Aut.sumN (Aut.via M 0 (M.nxt 0 97)) 98+0)=24930;rw [Aut.sumN_congr (g:=fun _=>256^1) fun j hj=>CH hS hn 1 0 0 j hS.zero (by decide) (by omega),Aut.sumN_congr (g:=fun _=>256^0) fun j hj=>CH hS hn 0 _ _ j h1 (by decide) (by omega),GI,GI]
end
theorem d' {n d q:Nat} (h:n=d+10*q) (hd:d<10) (h0:n≠0):dD 10 n=(d:Int)::dD 10 q:=by
 have h1:n%10=d:=by omega
 have h2:n/10=q:=by omega
 rw [kL k_ h0,h1,h2]
theorem LD:jB 65536= [54,53,53,51,54]:=by
 unfold jB;rw [if_neg (by decide),d' (d:=6) (q:=6553) (by decide) (by decide) (by decide),d' (d:=3) (q:=655) (by decide) (by decide) (by decide),d' (d:=5) (q:=65) (by decide) (by decide) (by decide),d' (d:=5) (q:=6) (by decide) (by decide) (by decide),d' (d:=6) (q:=0) (by decide) (by decide) (by decide),dF];decide
theorem M0:jB 24930= [50,52,57,51,48]:=by
 unfold jB;rw [if_neg (by decide),d' (d:=0) (q:=2493) (by decide) (by decide) (by decide),d' (d:=3) (q:=249) (by decide) (by decide) (by decide),d' (d:=9) (q:=24) (by decide) (by decide) (by decide),d' (d:=4) (q:=2) (by decide) (by decide) (by decide),d' (d:=2) (q:=0) (by decide) (by decide) (by decide),dF];decide
theorem G1:xl sZ aG [97,98]= [97,98]:=by decide+kernel
theorem MI:∀t∈ [(97:Int),98],fM sZ aG t=true:=by decide+kernel
theorem N4 (w:World) {v:Nat} (h:bw w v sZ aG):gz aG∧(aK sZ aG).Ok:=by
 obtain⟨w0,x,tp,bp,mp,d,l,uses,hR⟩:=h;exact⟨hR.parts.ok,nO hR.parts⟩
set_option maxHeartbeats 1000000 in
theorem mU (w:World):CP 35 #[] w fun e w'=>e= .returned (.bool true)∧Below w.heap.size w w':=by
 refine aL (Bt w) ?_;refine(lh w ⟨false,bV,bV,bV,bV,bV⟩ sZ (E6 w)).mono ?_;rintro e w1 ⟨u,rfl,b1,hp⟩;rw [if_pos Hm,Ih]at hp;obtain⟨v,rfl,hV1,hv⟩:=hp;obtain⟨hok,hVok⟩:=N4 w1 hV1;refine⟨_,_,_,rfl,(mz w1 v sZ aG hV1 List.Pairwise.nil 1048576).mono ?_⟩;rintro e w2 ⟨u,rfl,hV2,t2,hu⟩;rw [Fu,if_neg (by decide)]at hu;obtain⟨g,rfl,hG,hg⟩:=hu;have b2:Below w.heap.size w w2:=b1.trans (t2.below hv b1.size);have hn:gN sZ aG≤1032:=by rw [mT];decide
 refine⟨_,_,rfl,(sV w2 g sZ aG hG hn zX.2 1048576).mono ?_⟩;rintro e w3 ⟨b3,_,hu⟩;obtain⟨a,rfl,ha,hA⟩:=hu (by rw [mT];decide);refine⟨_,_,rfl,(AL w3 a g _ hA (by show gN sZ aG+2≤10000;omega) (by show gN sZ aG≤10000;omega)).mono ?_⟩;rintro e w4 ⟨b,f,rfl,hc,hb,_,hab,t4⟩;have hF:=oo hn zX.2 hc;have hN1:=Ic hc;have hS:=rE hn hc;have b4:Below w2.heap.size w2 w4:=b3.trans (t4.below ha b3.size);refine⟨_,rfl,(mD w4 b g _ sZ aG ⟨hb,hG.on b4⟩ hF 3).mono ?_⟩;obtain⟨M,hM⟩:∃M,M=Aut.least (dc sZ aG) f:=⟨_,rfl⟩;rw [←hM]at hF hN1 hS⊢;have hMn:M.n=256:=by rw [hF.n,mT]
 rintro e w5 ⟨b5,_,_,hu⟩;obtain⟨c,rfl,hcs,hC⟩:=hu (by decide) (by rw [hN1];decide);have hclt:=hC.lt;refine⟨_,_,rfl,?_⟩;intro w6 hw6;have b6:Below w5.heap.size w5 w6:=by subst hw6;exact ag _ _
 have hC6:=(hC.then b6).now 0;have hr:=KR w5 w6 [97,98] _ rfl hw6;have x6:w6.heap[w5.heap.size]? =some (.cells #[.int .i64 97,.int .i64 98] bf (0,0)):=by subst hw6;exact ak _ _
 refine(sJ w6 c b g 3 M sZ aG _ hC6 hF (by decide) hS hok hVok (some (nb w5)) 2 [97,98] (fun {q} t=>?_) (by decide)).mono ?_
 ·exact hr.touch t fun _ p hp=>by cases hp;exact fun e=>by have:w5.heap.size=c:=e;omega
 obtain⟨hab1,hab2⟩:=OZ hS hMn;rintro e w7 ⟨r,k,rfl,hR,hC7,t7⟩;have hh:=MI;obtain⟨rfl,hN7⟩:=((hR.2 (by decide)).2 (fun t ht=>(kb hok t).1 (hh t ht))).2 ((C6 hS hF.n hVok hok hh).1 (by rw [G1];exact hab2));rw [G1,hab1]at hN7;refine⟨_,_,_,_,rfl,?_⟩;intro w8 hw8;have b8:Below w7.heap.size w7 w8:=by subst hw8;exact ag _ _
 have x8:w8.heap[w7.heap.size]? =some (.cells #[bV.v] cD (0,0)):=by subst hw8;exact ak _ _
 refine cU (s:=r) x8 fun w9 x9 N9 B9 _ _=>?_;have b9:=B9 _ _ (Nat.le_refl _) b8;have hN9:=N9 _ _ (hN7.on b8);have hC9:=(hC7.then b9).now 0;have hclt7:=hC7.lt;refine ac.yes rfl ((dY w9 w9 0 c b g 3 M sZ aG hC9 hF (by decide) 2).mono ?_);rintro e w10 ⟨r2,rfl,hN10,hf,t10⟩;have e2:eH M 3 0 2=65536:=by
  unfold eH;rw [if_pos (by rw [hN1];decide)];exact O4 hS hMn hS.zero (by decide)
 rw [e2]at hN10;refine⟨_,_,_,rfl,(ij w10 r2 65536 hN10 (Nat.le_trans (kT (k:=1) (by decide) (by decide)) (by decide))).mono ?_⟩;rintro e w11 ⟨rfl,b11⟩;rw [LD];refine⟨_,rfl,ac.yes (beq_self_eq_true (str [54,53,53,51,54]).toList) ⟨_,_,_,bc (ah b11 (t10.held (by omega) x9)),?_⟩⟩;have hN11:br w11 r 24930:=by
  refine br.on ?_ b11;obtain⟨cc,fz,hx⟩:=hC9.typ;exact hN9.past hx (by decide) t10
 refine(ij w11 r 24930 hN11 (Nat.le_trans (kT (k:=1) (by decide) (by decide)) (by decide))).mono ?_;rintro e w12 ⟨rfl,b12⟩;rw [M0];refine⟨_,rfl,ac.yes (beq_self_eq_true (str [50,52,57,51,48]).toList) ⟨rfl,?_⟩⟩;have h5:=b4.trans (b5.mono b4.size);have h7:=(ae h5 b6).trans (t7.below (by have:=b4.size;omega) (ae h5 b6).size);have h9:=h7.trans (b9.mono h7.size);have h10:=h9.trans (t10.below (by have:=b4.size;omega) h9.size);have h11:=h10.trans (b11.mono h10.size);have h12:=h11.trans (b12.mono h11.size);exact b2.trans (h12.mono b2.size)
theorem qw:∀ {ms:List (Int×Int)} {es T:List aP} {i:Nat},bU es i ms= .ok T→T.length=es.length+ms.length
 | [],es,T,i,h=>by
  rw [bU]at h;cases h;rfl
 |m::r,es,T,i,h=>by
  rw [bU]at h;cases hq:bP es m with
  |error n=>rw [hq]at h;cases h
  |ok x=>
   rw [hq]at h;have:=qw h;simp only [List.length_append,List.length_cons,List.length_nil]at this⊢;omega
theorem tB (l:List Int):∀i,(fL l i).length≤256+i
 |0=>by show aG.length≤256;simp [aG]
 |i+1=>by
  have ih:=tB l i;rw [fL];split
  ·unfold zc;split
   ·rw [List.length_append,List.length_singleton];omega
   ·omega
  ·omega
theorem DN {ls:List Int} {cs:List (Int×Int×Int)} {js:List (Int×Int)} {xs:List (Int×Bs)} {T:List aP} (h:du (someV ls cs js xs)= .ok T):T.length≤286:=by
 have h1:=qw (oD h rfl).1;have h2:(someV ls cs js xs).merges.length=(fL ls 30).length-256:=by
  show(ap (fL ls 30)).length=_;simp [ap]
 have h3:=tB ls 30;have h4:aG.length=256:=by simp [aG]
 omega
theorem eu.touch {w w':World} {a g:Nat} {M:Aut} (h:eu w a g M) {b:Nat} {c:Array Value} {e:TypeId} {fz:Nat×Nat} (hb:w.heap[b]? =some (.cells c e fz)) (t:au b w w') (n1:a≠b) (n2:bf≠e) (n3:d_≠e) (n4:bN≠e):eu w' a g M:=by
 obtain⟨o,next,good,of,rs,d,h1,h2,h3⟩:=h;have own:∀ {B sz n:Nat} {t:TypeId} {u:Value} {xs:List Value},w.ownsRow B t sz u n xs→t≠e→w'.ownsRow B t sz u n xs:=fun ho hne=>h_ hb t ho hne;refine⟨o,next,good,of,rs,d,t.held n1 h1,⟨own h2.onx n3,h2.rl,fun i r hi=>own (h2.each i r hi) n2,own h2.ogd n4,h2.ok⟩,?_⟩;cases o with
 |none=>exact h3
 |some f=>exact⟨h3.1,h3.2.1,h3.2.2.1,own h3.2.2.2 n2⟩
theorem dx.skip {w w':World} {c b g L:Nat} {M:Aut} {s:ar} {T:List aP} (h:dx w w 0 c b g L M s T) {x:Nat} {cc:Array Value} {e:TypeId} {fz:Nat×Nat} (hb:w.heap[x]? =some (.cells cc e fz)) (t:au x w w') (nc:c≠x) (na:b≠x) (n1:rj≠e) (n2:bf≠e) (n3:mY≠e) (n4:gH≠e) (n5:d_≠e) (n6:bN≠e) (n7:i_≠e) (n8:cD≠e) (n9:e≠dW):dx w' w' 0 c b g L M s T:=by
 obtain⟨d,l,hx,hc⟩:=h.cnt;refine⟨au.of_below (Below.refl _ _),⟨h.on0.aut.touch hb t na n2 n5 n6,h.on0.grid.past hb t.block n1 n2 n3 n4⟩,⟨_,_,t.held nc hx⟩,d,l,t.held nc hx,hc.imp id fun⟨e1,B,hB⟩=>⟨e1,B,.inl ?_⟩⟩;rcases hB with hB |⟨_,hB⟩<;>exact hB.past hb t n7 n8 n9
structure L_ (w:World) (c b g L:Nat) (y:sP) (s:ar) (T:List aP) (f:Nat→Nat):Prop where
 cls:Aut.Cls (dc s T) f
 code:∃b1,dx w w 0 c b1 g L (Aut.least (dc s T) f) s T
 aut:eu w b g (Aut.least (dc s T) f)
 base:∃w0,lU w0 y s T∧w0.heap.size≤c∧Below w0.heap.size w0 w
 n:gN s T≤292
 pos:0<gN s T
 rise:qm s T
 ok:gz T
 vok:(aK s T).Ok
set_option maxHeartbeats 1000000 in
theorem zn (w:World) (y:Eu) (ls:List Int) (cs:List (Int×Int×Int)) (js:List (Int×Int)) (xs:List (Int×Bs)) (h:yX w y ls cs js xs) (L:Nat) (hL:L≤39):
  CP 36 #[y.v,.int .i64 (L:Int)] w fun e w'=>∃c b g r s T f,e= .returned (.tuple #[.pointer (some ⟨c,0,none⟩),.pointer (some ⟨b,0,none⟩),.pointer (some ⟨g,0,none⟩),r.v])∧L_ w' c b g L r s T f∧Below w.heap.size w w'∧w.heap.size≤c:=by
 refine aL (Bl y.l.a y.l.n y.l.c y.c.a y.c.n y.c.c y.j.a y.j.n y.j.c y.x.a y.x.n y.x.c (L:Int) w) ?_;intro w1 hw1 w2 hw2;have hb1:Below w.heap.size w w1:=by subst hw1;exact ag _ _
 have b2:Below w1.heap.size w1 w2:=by subst hw2;exact ag _ _
 have hb2:=ae hb1 b2;have l2:w2.heap[w.heap.size]? =some (.cells y.cells K1 (0,0)):=ah b2 (by subst hw1;exact ak _ _);have z2:w2.heap[w1.heap.size]? =some (.cells DJ.cells K0 (0,0)):=by subst hw2;exact ak _ _
 have lt1:w.heap.size<w1.heap.size:=by subst hw1;rw [av];omega
 refine⟨_,_,_,_,_,_,_,_,_,_,_,_,KJ l2,?_⟩;refine(vJ w2 y ls cs js xs (h.on hb2)).mono ?_;rintro e w3 ⟨u,rfl,v,r,s,T,rfl,hB3,hv,b3,hs,hT⟩;have hlen:T.length≤286:=by rw [hs]at hT;exact DN hT
 have hb3:=ae hb2 b3;refine⟨_,_,_,_,_,_,_,_,_,_,_,_,_,_,_,_,rfl,?_⟩;intro w4 hw4;refine aT (nU DJ) (nU r) rfl (jO r) w4 hw4 ?_;intro w5 h5 hz5 b5;have hB:=hB3.on b5;have hb5:=ae hb3 b5;have z5:=ah (ae b3 b5) z2;have hz2:=hb2.size;obtain⟨hl,hsq⟩:=GN hB;refine(mz w5 v s T hB.voc hB.asc 1048576).mono ?_;rintro e w6 ⟨u,rfl,hV6,t6,hu⟩;rw [if_neg (by omega)]at hu;obtain⟨g,rfl,hG,hg⟩:=hu;have hvl:w2.heap.size≤v:=hv;have lt2:w1.heap.size<w2.heap.size:=(Array.getElem?_eq_some_iff.1 z2).1;have b56:Below w2.heap.size w5 w6:=t6.below hvl (ae b3 b5).size;have hb6:Below w.heap.size w w6:=hb5.trans (b56.mono hz2);have z6:w6.heap[w1.heap.size]? =some (.cells DJ.cells K0 (0,0)):=(b56.block _ lt2).trans z5;have h6:=t6.held (by have:=hB3.voc.lt;omega) h5;have hR6:=hB.rv w6 t6;have hrise:qm s T:=kG hB.asc (by
  obtain⟨w0',x,tp,bp,mp,d,l,uses,hR⟩:=hB.voc;exact hR.now.ids)
 have hn:gN s T≤292:=by
  have:=hB.few;unfold gN;rw [ew];omega
 have hn2:gN s T≤1032:=by omega
 have hmost:¬(((gN s T+2)*gN s T:Nat):Int)>1048576:=by
  have:(gN s T+2)*gN s T≤294*292:=Nat.mul_le_mul (by omega) hn;omega
 have hok:=hB.now.ok;refine⟨_,_,rfl,(sV w6 g s T hG (by omega) hrise 1048576).mono ?_⟩;rintro e w7 ⟨b7,_,hu⟩;obtain⟨a,rfl,ha,o,hA⟩:=hu hmost;refine⟨_,_,rfl,(ka w7 a g _ o hA (by show gN s T+2≤10000;omega) (by show gN s T≤10000;omega)).mono ?_⟩;rintro e w8 ⟨b,f,rfl,_,hc,hb,hA8,hab,t8⟩;have hF:=oo hn2 hrise hc;have hfew:=sS hn2 hc;have b68:Below w6.heap.size w6 w8:=b7.trans (t8.below ha b7.size);refine⟨_,rfl,(mD w8 b g _ s T ⟨hb,hG.on b68⟩ hF (L:Int)).mono ?_⟩;rintro e w9 ⟨b9,_,_,hu⟩;obtain⟨M,hM⟩:∃M,M=Aut.least (dc s T) f:=⟨_,rfl⟩;rw [←hM]at hF hfew hb hu;obtain⟨c,rfl,hcs,hC⟩:=hu (by omega) (by
  have:L*M.N≤39*294:=Nat.mul_le_mul hL (by omega);have e:(L:Int)*(M.N:Int)=((L*M.N:Nat):Int):=by push_cast;rfl
  rw [e];omega)
 have hA7:=hA.lt;have hz8:=t8.size;have hz68:=b68.size;refine⟨_,_,rfl,ac.no rfl (ac.no rfl (ac.no rfl ?_))⟩;intro w10 hw10;have b10:Below w9.heap.size w9 w10:=by subst hw10;exact aO w9
 have b8_10:=ae b9 b10;have h7:=ah b7 h6;have w5lt:w3.heap.size<w6.heap.size:=(Array.getElem?_eq_some_iff.1 h6).1;have h8:=t8.held (by omega) h7;have h10:=ah b8_10 h8;refine⟨_,_,_,_,_,_,_,_,_,_,_,_,_,_,_,AB (x:=r) h10,?_⟩;refine(ka w10 a g _ (some f) (hA8.on b8_10) (by show gN s T+2≤10000;omega) (by show gN s T≤10000;omega)).mono ?_;rintro e w11 ⟨b',f',rfl,hff,_,hb',_,hab',t11⟩;obtain rfl:=hff f rfl;rw [←hM]at hb';have h11:=t11.held (by omega) h10;have hcl:=hC.lt;have hA10:=(hA8.on b8_10);obtain⟨nx,gd,of,rs,d,ha10,_⟩:=hA10;have hz10:=b8_10.size;have hC11:=((hC.then b10).now 0).skip ha10 t11 (by omega) (by omega) (by decide) (by decide) (by decide) (by decide) (by decide) (by decide) (by decide) (by decide) (by decide);have b6_10:Below w6.heap.size w6 w10:=b68.trans (b8_10.mono hz68);have b6_11:Below w6.heap.size w6 w11:=b6_10.trans (t11.below ha b6_10.size);have z11:=ah b6_11 z6;refine⟨_,rfl,AB (x:=r) h11,?_⟩;refine aS z11 (nU r) rfl (jO r) ?_;intro w12 h12 hs12 hz12 hB12;have t12:=cX hB12 hs12 hz12;have hb12:Below w.heap.size w w12:=hB12 _ _ (Nat.le_of_lt lt1) (hb6.trans (b6_11.mono hb6.size));have h61:w1.heap.size<w6.heap.size:=(Array.getElem?_eq_some_iff.1 z6).1;refine⟨_,_,_,_,_,_,_,_,_,_,_,_,_,_,_,AB (x:=r) h12,c,b',g,r,s,T,f',rfl,⟨hc,⟨b,?_⟩,?_,?_,hn,?_,hrise,hok,hB.now.vok⟩,hb12,by have:=hb6.size;omega⟩
 ·rw [←hM];exact hC11.skip z11 t12 (by omega) (by omega) (by decide) (by decide) (by decide) (by decide) (by decide) (by decide) (by decide) (by decide) (by decide)
 ·rw [←hM];exact hb'.touch z11 t12 (by omega) (by decide) (by decide) (by decide)
 ·let w0:World:={w6 with heap:=w6.heap.setIfInBounds w1.heap.size (.cells (nU r).toArray K0 (0,0))};have hz0:w0.heap.size=w6.heap.size:=by simp [w0]
  have same:∀j,j≠w1.heap.size→w0.heap[j]? =w6.heap[j]? :=fun j hj=>by
   show(w6.heap.setIfInBounds w1.heap.size _)[j]? =_;rw [Array.getElem?_setIfInBounds_ne (fun e=>hj e.symm)]
  refine⟨w0,hR6.past z6 (nq DJ) (fun j _ hj=>same j hj) (Nat.le_of_eq hz0.symm),by rw [hz0];omega,?_⟩;have hB9':=hB12 0 w11 (Nat.zero_le _) (Below.refl _ _);refine⟨hB9'.os.trans b6_11.os,hB9'.tape.trans b6_11.tape,hB9'.output.trans b6_11.output,by rw [hz0,hz12];exact b6_11.size,fun k hk=>?_⟩;rw [hz0]at hk;by_cases e:k=w1.heap.size
  ·subst e;rw [h12];show _=(w6.heap.setIfInBounds w1.heap.size _)[w1.heap.size]?
   rw [Array.getElem?_setIfInBounds_self_of_lt h61]
  ·rw [same k e,hs12 k e];exact b6_11.block k hk
 ·have:=hok.len;unfold gN;rw [ew];omega
theorem Nz {n:Int} (h:(Lit.int .u8 n).wf=true):0≤n∧n<256:=by
 have h:(decide ((0:Int)≤n)&&decide (n≤255))=true:=h;rw [Bool.and_eq_true,decide_eq_true_eq,decide_eq_true_eq]at h;omega
theorem Ln (m:Nat) (d:Nat) (hd:0<d) (hd2:d≤1000):IntKind.wrap .i64 (Int.tmod (m:Int) (d:Int))=((m%d:Nat):Int):=by
 have h1:Int.tmod (m:Int) (d:Int)=((m%d:Nat):Int):=rfl;have h2:=Nat.mod_lt m hd;rw [h1,dm (k:=.i64) (by simp [IntKind.min,IntKind.signed,IntKind.bits];omega) (by simp [IntKind.max,IntKind.signed,IntKind.bits];omega)]
theorem D2 (x:Int):oB x x=0:=by
 unfold oB;rw [if_neg (by omega),if_neg (by omega)]
theorem Fj {M:Aut} (hn:M.n≤1032) {k L:Nat} (hk:k≤L) (s:Nat):Aut.goN M k s≤1032^L:=
 Nat.le_trans (Aut.goN_le k s) (Nat.le_trans (Nat.pow_le_pow_left hn k) (Nat.pow_le_pow_right (by decide) hk))
theorem KD {M:Aut} (hn:M.n≤1032) {k L:Nat} (hk:k≤L) (hL:L≤100) (s:Nat):(dD 4294967296 (Aut.goN M k s)).length≤200:=
 Nat.le_trans (uF (L:=L) (Nat.le_trans (Fj hn hk s) (Nat.le_trans (Nat.pow_le_pow_right (by decide) (Nat.le_succ L)) (Nat.le_mul_of_pos_left _ (by omega)))) (by omega)) (by omega)
section
variable {w q q':World} {hi B c a g L:Nat} {M:Aut} {s:ar} {T:List aP} {Kb Ob Sb rest st:Nat} {ids:List Int}
end
section
open Go.ChangeShapes Go.WideShapes
variable {H:Type} {enc0:TypeId×Value→H} {w:World} {base:Nat} {spare:Nat→Bool} {held:Bool}
end
abbrev ub:TypeId:=98
abbrev Fx:TypeId:=180
theorem KK:Tryz.prog.underlying ub=some (.slice lK):=by kernel_rfl
theorem H8:Tryz.prog.underlying Fx=some (.slice ub):=by kernel_rfl
theorem Ib:(Tryz.prog.info? ub).map (fun i=>(i.zero,i.size,i.bytes))=some (some (.slice none 0 0),1,24):=by kernel_rfl
def Eh (n:Int):List Value:=[.int .u8 n]
theorem Dd:xf Eh 1 ub lK 1:=⟨fun _=>rfl,by decide,fun x u hu=>by rw [List.mem_singleton.1 hu];rfl,KK,_,Ey,rfl⟩
structure dH (w:World) (l:Sl) (n:Nat):Prop extends LsAt Eh 1 w l (dD 10 n)where
 ty:oQ lK w l
theorem dH.on {w w':World} {l:Sl} {n:Nat} (h:dH w l n) (hb:Below w.heap.size w w'):dH w' l n:=⟨LsAt.on h.toLsAt hb,h.ty.on hb⟩
theorem dH.keep {w w':World} {l:Sl} {n:Nat} (h:dH w l n) (hk:∀p c fz,l.a=some p→w.heap[p.block]? =some (.cells c lK fz)→w'.heap[p.block]? =w.heap[p.block]?) (hz:w.heap.size≤w'.heap.size):dH w' l n:=by
 refine⟨⟨h.n,fun j x hj=>?_,h.k⟩,fun p hp=>?_⟩
 ·obtain⟨p,hp,hlt,hc⟩:=h.r j x hj;obtain⟨c,fz,hb⟩:=h.ty p hp;refine⟨p,hp,Nat.lt_of_lt_of_le hlt hz,fun k v hv=>?_⟩;rw [←hc k v hv];unfold World.cell?;rw [ax,ax,hk p c fz hp hb]
 ·obtain⟨c,fz,hb⟩:=h.ty p hp;exact⟨c,fz,(hk p c fz hp hb).trans hb⟩
theorem tJ (w:World):dH w bV 0:=by
 refine⟨?_,fun p hp=>by cases hp⟩;rw [dF];exact⟨rfl,fun j x hj=>(by simp at hj),.inl rfl⟩
theorem dH.past {w w':World} {l:Sl} {n b:Nat} {c:Array Value} {e:TypeId} {fz:Nat×Nat} (h:dH w l n) (hb:w.heap[b]? =some (.cells c e fz)) (hT:e≠lK) (t:au b w w'):dH w' l n:=
 h.keep (fun p c fz _ hc=>t.block _ (Array.getElem?_eq_some_iff.1 hc).1 fun e=>by
  rw [e,hb]at hc;cases hc;exact hT rfl) t.size
theorem uc (w:World) (l:Sl) (xs:List Int) (h1:LsAt Eh 1 w l xs) (ht:oQ lK w l) (hc:l.n≤l.c) (hr:z_ 10 xs) (hl:xs.length≤1000000):
  CP 160 #[l.v] w fun e w'=>∃r:Sl,e= .returned r.v∧dH w' r (cQ 10 xs)∧w'=w:=by
 refine aL (vk l.a l.n l.c w) ?_;have hn:=h1.n;have hbase:bh l.a 0 l.c 1=l.a:=by
  unfold bh;by_cases hz:l.c=0
  ·rw [if_pos hz]
  ·rw [if_neg hz];cases l.a with
   |none=>rfl
   |some p=>show some (p.add (0*1))=some p;rw [Nat.zero_mul,ay]
 have out:∀n,n≤xs.length→(∀(j:Nat) (hj:j<xs.length),n≤j→xs[j]=0)→(∀(hk:n-1<xs.length),0<n→xs[n-1]≠0)→dH w ⟨bh l.a 0 l.c 1,n-0,l.c-0⟩ (cQ 10 xs):=by
  intro n hle h0 h2;have e:=zC k_ hr hle h0 h2;rw [hbase];refine⟨?_,ht⟩;rw [←e];refine⟨by rw [List.length_take];show n-0=_;omega,fun j x hj=>h1.r j x ?_,?_⟩
  ·rw [List.getElem?_take]at hj;split at hj
   ·exact hj
   ·cases hj
  ·rcases h1.k with hk |⟨p,hp⟩
   ·have hn0:n=0:=by rw [hk]at hn;have:0=xs.length:=hn;omega
    rw [hn0,hk];exact .inl rfl
   ·exact .inr ⟨p,hp⟩
 intro I hI;have key:∀n,n≤xs.length→(∀(j:Nat) (hj:j<xs.length),n≤j→xs[j]=0)→I [.int .i64 (n:Int)] w:=by
  intro n;induction n with
  |zero=>
   intro _ h0;exact hI _ w (ac.no rfl ⟨by omega,by omega,by omega,trivial,trivial,⟨bh l.a 0 l.c 1,0-0,l.c-0⟩,rfl,out 0 (Nat.zero_le _) h0 (fun _ h=>absurd h (by decide)),rfl⟩)
  |succ n ih=>
   intro hle h0;obtain⟨p,hp,c0⟩:=aZ h1.r (show n<xs.length by omega) rfl;refine hI _ w (ac.yes (decide_eq_true (by omega)) (Ar.nat n (by omega) (by omega) (af.mk p hp ⟨by omega,by omega,_,c0,ac.mk (fun he=>?_) fun he=>?_⟩)))
   ·have he:xs[n]=0:=by simpa using he
    refine Ar.nat n (by omega) (by omega) (ih (by omega) fun j hj hle2=>?_);by_cases e:j=n
    ·subst e;exact he
    ·exact h0 j hj (by omega)
   ·have he:xs[n]≠0:=by simpa using he
    exact⟨by omega,by omega,by omega,trivial,trivial,⟨bh l.a 0 l.c 1,n+1-0,l.c-0⟩,rfl,out (n+1) hle h0 (fun _ _=>he),rfl⟩
 rw [hn];exact key xs.length (Nat.le_refl _) fun j hj hle=>absurd hj (by omega)
theorem kf (w:World):CP 89 #[.int .u64 1] w fun e w'=>∃r:Sl,e= .returned r.v∧dH w' r 1∧Below w.heap.size w w':=by
 refine aL (Aw 1 w) ?_;intro I hI;refine hI none 0 0 1 w (ac.yes rfl ⟨by decide,?_⟩);intro w2 hw2;have e1:IntKind.wrap .u8 (Int.tmod 1 10)=1:=by decide
 rw [e1]at hw2;obtain⟨f,w3,g1,g2,g3,g4,_⟩:=Dd.push (s:=bV) (xs:=([]:List Int)) (cP w w.heap.size lK 1) 1 hw2 rfl (Nat.le_refl _) (by decide) (by decide);have e2:IntKind.wrap .u64 (Int.tdiv 1 10)=0:=by decide
 refine⟨f.a,f.n,f.c,w3,g2,by decide,?_⟩;rw [e2];refine hI _ _ _ 0 w3 (ac.no rfl ⟨f,rfl,⟨?_,gR g3⟩,g4 _ (Below.refl _ _)⟩);have hd:dD 10 1= [1]:=(d' (d:=1) (q:=0) (by decide) (by decide) (by decide)).trans (by rw [dF];rfl);rw [hd];exact LsAt.of_own Dd g3
theorem KL {a b c:Bool} {B E:Prop} (h:a=true∨b=true∨c=true) (hB:B):ac a B (ac b B (ac c B E)):=
 ac.mk (fun _=>hB) fun h1=>ac.mk (fun _=>hB) fun h2=>ac.mk (fun _=>hB) fun h3=>by
  rcases h with h |h |h
  ·rw [h1]at h;cases h
  ·rw [h2]at h;cases h
  ·rw [h3]at h;cases h
theorem BO {x:Nat} (h:x<1000000):IntKind.wrap .i64 (x:Int)=(x:Int):=dm (k:=.i64) (by show(-9223372036854775808:Int)≤_;omega) (by show _≤(9223372036854775807:Int);omega)
theorem LT {x:Nat} (h:x<256):IntKind.wrap .u8 (x:Int)=(x:Int):=dm (k:=.u8) (by show(0:Int)≤_;omega) (by show _≤(255:Int);omega)
set_option maxHeartbeats 1000000 in
theorem pj (w:World) (la lb:Sl) (a b:Nat) (ha:dH w la a) (hb:dH w lb b) (h1:(dD 10 a).length≤1000) (h2:(dD 10 b).length≤1000):
  CP 92 #[la.v,lb.v] w fun e w'=>∃r:Sl,e= .returned r.v∧dH w' r (a+b)∧Below w.heap.size w w':=by
 refine aL (Bv la.a la.n la.c lb.a lb.n lb.c w) ?_;have hna:=ha.n;have hnb:=hb.n;obtain⟨N,hN⟩:∃N,N=max (dD 10 a).length (dD 10 b).length:=⟨_,rfl⟩;have hNa:(dD 10 a).length≤N:=by omega
 have hNb:(dD 10 b).length≤N:=by omega
 have hN1:N≤1000:=by omega
 let Inv (i:Nat) (y:Nat×List Int×Sl×World):Prop:=y.2.1.length=i∧z_ 10 y.2.1∧cQ 10 y.2.1+y.1*10^i=a%10^i+b%10^i∧y.1≤1∧y.2.2.2.ownsRow w.heap.size lK 1 y.2.2.1.v y.2.2.1.n (y.2.1.flatMap Eh)∧Below w.heap.size w y.2.2.2;intro I hI;have round:∀i,i≤2000→∀y,Inv i y→(i<N∨0<y.1)→(∀y',Inv (i+1) y'→I [.int .i64 ((i+1:Nat):Int),.int .i64 (y'.1:Int),y'.2.2.1.v] y'.2.2.2)→I [.int .i64 (i:Int),.int .i64 (y.1:Int),y.2.2.1.v] y.2.2.2:=by
  rintro i hi2 ⟨c,L,f,q⟩ ⟨hL,hin,hv,hc,ho,hq⟩ hor ih;change L.length=i at hL;change z_ 10 L at hin;change cQ 10 L+c*10^i=a%10^i+b%10^i at hv;change c≤1 at hc;change q.ownsRow w.heap.size lK 1 f.v f.n (L.flatMap Eh)at ho;change Below w.heap.size w q at hq;have hfn:f.n=L.length:=(Rw.of_own ho (fun _=>rfl) (by decide)).2;obtain⟨da,hda⟩:∃da,da=a/10^i%10:=⟨_,rfl⟩;obtain⟨db,hdb⟩:∃db,db=b/10^i%10:=⟨_,rfl⟩;have la9:da<10:=by rw [hda];exact Nat.mod_lt _ (by decide)
  have lb9:db<10:=by rw [hdb];exact Nat.mod_lt _ (by decide)
  have zero_:∀x:Nat,¬i< (dD 10 x).length→x/10^i%10=0:=fun x hx=>by rw [(dT k_ (n:=x) (i:=i) (by omega)).1]
  refine hI _ _ f.a f.n f.c q (KL ?_ ?_)
  ·rcases hor with h |h
   ·by_cases h3:i< (dD 10 a).length
    ·exact .inl (decide_eq_true (by omega))
    ·exact .inr (.inl (decide_eq_true (by omega)))
   ·exact .inr (.inr (decide_eq_true (by have:0<c:=h;omega)))
  intro J2 hJ2;have fin2:J2 [.int .i64 ((c+da:Nat):Int)] q:=by
   refine hJ2 _ q ?_;intro J4 hJ4;have fin4:J4 [.int .i64 ((c+da+db:Nat):Int)] q:=by
    refine hJ4 _ q ⟨by decide,?_⟩;obtain⟨s,hs⟩:∃s,s=c+da+db:=⟨_,rfl⟩;rw [←hs];intro w4 hw4;have e1:IntKind.wrap .u8 (Int.tmod (s:Int) 10)=((s%10:Nat):Int):=by
     rw [show Int.tmod (s:Int) 10=((s%10:Nat):Int)from rfl];exact LT (by have:=Nat.mod_lt s (show 0<10 by decide);omega)
    rw [e1]at hw4;obtain⟨f',w5,g1,g2,g3,g4,_⟩:=Dd.push ho ((s%10:Nat):Int) hw4 rfl hq.size (by omega) (by decide);have e2:IntKind.wrap .i64 (Int.tdiv (s:Int) 10)=((s/10:Nat):Int):=by
     rw [show Int.tdiv (s:Int) 10=((s/10:Nat):Int)from rfl];exact BO (by omega)
    refine⟨f'.a,f'.n,f'.c,w5,g2,by decide,Ar.nat (i+1) rfl (by omega) ?_⟩;rw [e2];exact ih (s/10,L++ [((s%10:Nat):Int)],f',w5) ⟨by rw [List.length_append];show _+1=_;omega,kB hin (Nat.mod_lt _ (by decide)),xj hL hv (by rw [hs,hda,hdb];omega),by show s/10≤1;omega,g3,g4 _ hq⟩
   refine ac.mk (fun h=>?_) fun h=>?_
   ·have hlt:i< (dD 10 b).length:=by have:=of_decide_eq_true h;omega
    obtain⟨p,hp,c0⟩:=aZ (dH.on hb hq).r hlt rfl;rw [gL k_ hlt, ←hdb]at c0;exact af.mk p hp ⟨by omega,by omega,_,c0,Ar.nat (c+da+db) (by rw [BO (by omega)];omega) (by omega) fin4⟩
   ·have hlt:¬i< (dD 10 b).length:=by have:=of_decide_eq_false h;omega
    have:db=0:=by rw [hdb];exact zero_ b hlt
    rw [this]at fin4;exact fin4
  refine ac.mk (fun h=>?_) fun h=>?_
  ·have hlt:i< (dD 10 a).length:=by have:=of_decide_eq_true h;omega
   obtain⟨p,hp,c0⟩:=aZ (dH.on ha hq).r hlt rfl;rw [gL k_ hlt, ←hda]at c0;exact af.mk p hp ⟨by omega,by omega,_,c0,Ar.nat (c+da) (by rw [BO (by omega)];omega) (by omega) fin2⟩
  ·have hlt:¬i< (dD 10 a).length:=by have:=of_decide_eq_false h;omega
   have:da=0:=by rw [hda];exact zero_ a hlt
   rw [this]at fin2;exact fin2
 have done:∀i,N≤i→i≤2000→∀y,Inv i y→y.1=0→I [.int .i64 (i:Int),.int .i64 (y.1:Int),y.2.2.1.v] y.2.2.2:=by
  rintro i hiN hi2 ⟨c,L,f,q⟩ ⟨hL,hin,hv,hc,ho,hq⟩ h0;change L.length=i at hL;change z_ 10 L at hin;change cQ 10 L+c*10^i=a%10^i+b%10^i at hv;change q.ownsRow w.heap.size lK 1 f.v f.n (L.flatMap Eh)at ho;change Below w.heap.size w q at hq;change c=0 at h0;subst h0;rw [Nat.zero_mul,Nat.add_zero,(dT k_ (n:=a) (i:=i) (by omega)).2,(dT k_ (n:=b) (i:=i) (by omega)).2]at hv;refine hI _ _ f.a f.n f.c q (ac.no (decide_eq_false (by omega)) (ac.no (decide_eq_false (by omega)) (ac.no rfl ?_)));refine(uc q f L (LsAt.of_own Dd ho) (gR ho) (ut ho) hin (by omega)).mono ?_;rintro e q2 ⟨r,rfl,hR,hw⟩;subst hw;rw [hv]at hR;exact⟨r.a,r.n,r.c,rfl,r,rfl,hR,hq⟩
 have key:=aX (α:=Nat×List Int×Sl×World) N (fun i y=>Inv i y) (fun i y=>I [.int .i64 (i:Int),.int .i64 (y.1:Int),y.2.2.1.v] y.2.2.2) (0,[],bV,w) ⟨rfl,fun x hx=>(by cases hx),by simp [cQ,Nat.mod_one],Nat.zero_le _,cP _ _ _ _,Below.refl _ _⟩ (fun i hi ih y hy=>round i (by omega) y hy (.inl hi) ih) ?_
 ·exact key
 ·intro y hy;by_cases h0:y.1=0
  ·exact done N (Nat.le_refl _) (by omega) y hy h0
  ·refine round N (by omega) y hy (.inr (by omega)) fun y' hy'=>done (N+1) (by omega) (by omega) y' hy' ?_;obtain⟨hL,hin,hv,hc,_⟩:=hy';have ea:=(dT k_ (n:=a) (i:=N) (by omega)).2;have eb:=(dT k_ (n:=b) (i:=N) (by omega)).2;have ea':=(dT k_ (n:=a) (i:=N+1) (by omega)).2;have eb':=(dT k_ (n:=b) (i:=N+1) (by omega)).2;rw [ea',eb']at hv;have l1:a<10^N:=by rw [←ea];exact Nat.mod_lt _ (Nat.pow_pos (by decide))
   have l2:b<10^N:=by rw [←eb];exact Nat.mod_lt _ (Nat.pow_pos (by decide))
   by_cases hz:y'.1=0
   ·exact hz
   ·have h3:1*10^(N+1)≤y'.1*10^(N+1):=Nat.mul_le_mul_right _ (by omega);rw [Nat.pow_succ]at h3 hv;omega
theorem G6 {d:Nat} (h:d<10):((mr (d:Int)).toNat:Int)=48+(d:Int):=by
 unfold mr;rw [UInt8.toNat_ofNat'];show(((48+d)%2^8:Nat):Int)=_;omega
theorem Hc (b:UInt8) (w:World):(convert jW iT (.slice (some (nb w)) 1 1)).run Tryz.prog (w.alloc (.cells #[.int .u8 b.toNat] lK))= .ok (.string (str [b])) (w.alloc (.cells #[.int .u8 b.toNat] lK)):=
 iC (P:=Tryz.prog) mC Gh ud (base:=w.heap.size) (fA (w:=w) (n:=1) [.int .u8 b.toNat] rfl (by decide) (Nat.le_refl _))
set_option maxHeartbeats 1000000 in
theorem sC (w:World) (l:Sl) (n:Nat) (h:dH w l n) (hl:(dD 10 n).length≤1000):
  CP 47 #[l.v] w fun e w'=>e= .returned (.string (str (jB n)))∧Below w.heap.size w w':=by
 refine aL (BY l.a l.n l.c w) ?_;have hn:=h.n;intro I hI;have key:=aX (α:=World) (dD 10 n).length (fun i q=>Below w.heap.size w q) (fun i q=>I [.int .i64 (i:Int),.string (str (((dD 10 n).take i).map mr).reverse)] q) w (Below.refl _ _) ?_ ?_
 ·exact key
 ·intro i hi ih q hq;obtain⟨p,hp,c0⟩:=aZ (dH.on h hq).r hi rfl;rw [gL k_ hi]at c0;obtain⟨d,hd⟩:∃d,d=n/10^i%10:=⟨_,rfl⟩;have hd9:d<10:=by rw [hd];exact Nat.mod_lt _ (by decide)
  rw [←hd]at c0;refine hI _ _ q (ac.yes (decide_eq_true (by omega)) (af.mk p hp ⟨by omega,by omega,_,c0,Ar.ok (k:=.u8) (by show(0:Int)≤_;omega) (by show _≤(255:Int);omega) ?_⟩));intro w2 hw2;rw [←G6 hd9]at hw2;have b2:Below q.heap.size q w2:=by subst hw2;exact ag _ _
  refine⟨_,w2,by rw [hw2];exact Hc _ q,?_,Ar.nat (i+1) rfl (by omega) ?_⟩
  ·show(((1:Nat)+(((dD 10 n).take i).map mr).reverse.toArray.size:Nat):Int)≤(9223372036854775807:Int);simp;omega
  ·rw [mg];have e: [mr (d:Int)]++(((dD 10 n).take i).map mr).reverse=(((dD 10 n).take (i+1)).map mr).reverse:=by
    rw [List.take_add_one,List.getElem?_eq_getElem hi,gL k_ hi, ←hd,List.map_append,List.reverse_append];rfl
   rw [e];exact ih w2 (ae hq b2)
 ·intro q hq;rw [List.take_length];refine hI _ _ q (ac.no (decide_eq_false (by omega)) (ac.mk (fun h0=>?_) fun h0=>?_))
  ·rw [show(⟨#[]⟩:ByteArray)=str []from rfl,cn,cn,beq_iff_eq,List.reverse_eq_nil_iff,List.map_eq_nil_iff,CY k_]at h0;subst h0;exact⟨rfl,hq⟩
  ·have h0:n≠0:=fun e=>by
    subst e;rw [dF]at h0;rw [show(⟨#[]⟩:ByteArray)=str []from rfl,cn,cn]at h0;cases h0
   unfold jB;rw [if_neg h0];exact⟨rfl,hq⟩
theorem yP (f g:Nat→Nat):∀n,Aut.sumN (fun i=>f i+g i) n=Aut.sumN f n+Aut.sumN g n
 |0=>rfl
 |n+1=>by
  show Aut.sumN (fun i=>f i+g i) n+(f n+g n)=(Aut.sumN f n+f n)+(Aut.sumN g n+g n);rw [yP f g n];omega
theorem tK (f:Nat→Nat→Nat) (n:Nat):∀m,Aut.sumN (fun i=>Aut.sumN (f i) n) m=Aut.sumN (fun j=>Aut.sumN (fun i=>f i j) m) n
 |0=>(Aut.sumN_zero fun _ _=>rfl).symm
 |m+1=>by
  show Aut.sumN (fun i=>Aut.sumN (f i) n) m+Aut.sumN (f m) n=Aut.sumN (fun j=>Aut.sumN (fun i=>f i j) m+f m j) n;rw [tK f n m,yP]
def eQ (s:ar) (T:List aP):Nat→Nat→Nat
 |0,_=>0
 |1,i=>if gW s T i=true then 1 else 0
 |k+2,i=>Aut.sumN (fun j=>if ct s T j i=true then eQ s T (k+1) j else 0) (gN s T)
section
variable {s:ar} {T:List aP} {M:Aut} {S:Nat→Nat→Prop}
theorem JP (hS:rh s T M S) {m x p k:Nat} (h:S x p) (hk:k<gN s T):Aut.via M m p k=if df (gN s T) (gW s T) (ct s T) x k=true then Aut.goN M m (M.nxt p k)else 0:=by
 have hnx:=hS.next x p k h hk;have hg:=hS.good _ _ hnx;unfold Aut.via;by_cases hm:df (gN s T) (gW s T) (ct s T) x k=true
 ·rw [if_pos hm]at hg⊢;rw [hg,decide_eq_true (by omega)];rfl
 ·rw [if_neg hm]at hg⊢;rw [hg,decide_eq_false (by omega)];rfl
theorem JF (hS:rh s T M S) {x p k:Nat} (h:S x p) (hk:k<gN s T):Aut.via M 0 p k=if df (gN s T) (gW s T) (ct s T) x k=true then 1 else 0:=by
 have hnx:=hS.next x p k h hk;have hg:=hS.good _ _ hnx;rw [JP hS h hk];by_cases hm:df (gN s T) (gW s T) (ct s T) x k=true
 ·rw [if_pos hm]at hg;rw [if_pos hm,if_pos hm];unfold Aut.goN;rw [hg,decide_eq_true (by omega)];rfl
 ·rw [if_neg hm,if_neg hm]
theorem Gw (hS:rh s T M S) (hn:M.n=gN s T) {k:Nat} (h1:1≤k) (h2:k≤2):Aut.goN M k 0=Aut.sumN (eQ s T k) (gN s T):=by
 rcases(show k=1∨k=2 by omega)with rfl |rfl
 ·rw [Aut.goN_succ,hn];refine Aut.sumN_congr fun j hj=>?_;rw [JF hS hS.zero hj];rfl
 ·rw [Aut.goN_succ,hn];have e:∀j,j<gN s T→Aut.via M 1 0 j=Aut.sumN (fun i=>if ct s T j i=true then eQ s T 1 j else 0) (gN s T):=by
   intro j hj;have hnx:=hS.next 0 0 j hS.zero hj;rw [JP hS hS.zero hj];have hm0:df (gN s T) (gW s T) (ct s T) 0 j=gW s T j:=rfl;rw [hm0]at hnx⊢;by_cases ha:gW s T j=true
   ·rw [if_pos ha]at hnx⊢;rw [Aut.goN_succ,hn];refine Aut.sumN_congr fun i hi=>?_;rw [JF hS hnx hi];have hm:df (gN s T) (gW s T) (ct s T) (j+1) i=ct s T j i:=by
     unfold df;rw [if_neg (by omega),if_pos (by omega)];rfl
    rw [hm];have hc:eQ s T 1 j=1:=by show(if gW s T j=true then 1 else 0)=1;rw [if_pos ha]
    rw [hc]
   ·rw [if_neg ha];refine(Aut.sumN_zero fun i hi=>?_).symm;have hc:eQ s T 1 j=0:=by show(if gW s T j=true then 1 else 0)=0;rw [if_neg ha]
    rw [hc];split<;>rfl
  rw [Aut.sumN_congr e,tK];rfl
theorem uj (hn:gN s T≤292) {k:Nat} (hk:k≤2) (i:Nat):eQ s T k i≤292:=by
 rcases(show k=0∨k=1∨k=2 by omega)with rfl |rfl |rfl
 ·exact Nat.zero_le _
 ·show(if gW s T i=true then 1 else 0)≤292;split<;>omega
 ·have:=Aut.sumN_le (f:=fun j=>if ct s T j i=true then eQ s T 1 j else 0) (c:=1) (fun j=>by
   show(if ct s T j i=true then(if gW s T j=true then 1 else 0)else 0)≤1;split
   ·split<;>omega
   ·omega) (gN s T)
  show Aut.sumN (fun j=>if ct s T j i=true then eQ s T 1 j else 0) (gN s T)≤292;omega
end
theorem nk (w:World) (n:Nat) (hn:n≤1000000):(Instr.makeSlice Fx (.int .i64 n) (.int .i64 n)).run Tryz.prog w= .ok (.slice (some (nb w)) n n) (w.alloc (.cells (Array.replicate n (.slice none 0 0)) ub)):=by
 obtain⟨i,hi,hz,hs,hb⟩:=info_parts Ib;have:=Go.run_make (P:=Tryz.prog) w Fx ub i (.slice none 0 0) H8 hi hz .i64 .i64 (n:Int) (n:Int) (by omega) (Int.le_refl _) (by rw [hb];omega) (by omega);rw [this];congr 3;rw [hs];apply Array.ext
 ·rw [size_madeCells];simp
 ·intro j h1 h2;simp only [madeCells,Array.getElem_map,Array.getElem_range,Array.getElem_replicate];show(#[Value.slice none 0 0]:Array Value)[j%1]! =_;rw [Nat.mod_one];rfl
def eh (w:World) (B:Nat) (r:Sl) (N:Nat) (f:Nat→Nat):Prop:=∃ks:List Sl,ks.length=N∧w.ownsRow B ub 1 r.v r.n (ks.flatMap jR)∧∀(j:Nat) (h:j<ks.length),dH w ks[j] (f j)
theorem eh.on {w w':World} {B N:Nat} {r:Sl} {f:Nat→Nat} (h:eh w B r N f) (hb:Below w.heap.size w w'):eh w' B r N f:=by
 obtain⟨ks,h1,h2,h3⟩:=h;exact⟨ks,h1,aE h2 hb,fun j hj=>(h3 j hj).on hb⟩
theorem eh.congr {w:World} {B N:Nat} {r:Sl} {f f':Nat→Nat} (h:eh w B r N f) (he:∀j,j<N→f' j=f j):eh w B r N f':=by
 obtain⟨ks,h1,h2,h3⟩:=h;exact⟨ks,h1,h2,fun j hj=>by rw [he j (by omega)];exact h3 j hj⟩
theorem qC (w:World) (n:Nat) (hn:n≤1000000) {f:Nat→Nat} (hf:∀j,j<n→f j=0):eh (w.alloc (.cells (Array.replicate n (.slice none 0 0)) ub)) w.heap.size ⟨some (nb w),n,n⟩ n f:=by
 refine⟨List.replicate n bV,List.length_replicate,qa (enc:=jR) (x:=bV) rfl ub w n hn,fun j hj=>?_⟩;rw [List.getElem_replicate,hf j (by simpa using hj)];exact tJ _
theorem nZ {q:World} {B N:Nat} {r:Sl} {f:Nat→Nat} (h:eh q B r N f) {i:Nat} (hi:i<N):∃(p:Addr) (x:Sl),r.a=some p∧q.cell? (p.add (i*1))=some (.slice x.a x.n x.c)∧dH q x (f i):=by
 obtain⟨ks,h1,h2,h3⟩:=h;obtain⟨p,hp,c0⟩:=aZ (Rw.of_own h2 (fun _=>rfl) (by decide)).1 (show i<ks.length by omega) rfl;exact⟨p,ks[i],hp,c0,h3 i (by omega)⟩
theorem rJ {q:World} {B b n i v:Nat} {r:Sl} {f f':Nat→Nat} (h:eh q B ⟨some ⟨b,0,none⟩,n,n⟩ n f) (hi:i<n) (hr:dH q r v) (hf:∀j,j<n→f' j=if j=i then v else f j) {K:World→Prop} (hk:∀q',eh q' B ⟨some ⟨b,0,none⟩,n,n⟩ n f'→(∀B0 w0,B0≤B→Below B0 w0 q→Below B0 w0 q')→K q'):
  r.v.oneCell'=true∧(∃u,q.cell? ((⟨b,0,none⟩:Addr).add (i*1))=some u)∧q.frozen? ((⟨b,0,none⟩:Addr).add (i*1))=false∧∀q',q'=q.setCell ((⟨b,0,none⟩:Addr).add (i*1)) r.v→K q':=by
 obtain⟨ks,h1,h2,h3⟩:=h;obtain⟨c,fz,hb⟩:=fX h2;refine ux (enc:=jR) (fun _=>rfl) CB h2 h1.symm (by omega) r rfl fun q' o t B'=>hk q' ⟨ks.set i r,by rw [List.length_set];exact h1,o,fun j hj=>?_⟩ B';rw [List.length_set]at hj;rw [hf j (by omega)];by_cases e:j=i
 ·subst e;rw [if_pos rfl,List.getElem_set_self];exact hr.past hb (by decide) t
 ·rw [if_neg e,List.getElem_set_ne (fun h=>e h.symm)];exact(h3 j hj).past hb (by decide) t
set_option maxHeartbeats 4000000 in
theorem zH (w:World) (g:Nat) (s:ar) (T:List aP) (hG:ja w g s T) (hn:gN s T≤292) (k:Nat) (hk:k≤2):
  CP 48 #[.pointer (some ⟨g,0,none⟩),.int .i64 (k:Int)] w fun e w'=>∃r:Sl,e= .returned r.v∧dH w' r (if k=0 then 1 else Aut.sumN (eQ s T k) (gN s T))∧Below w.heap.size w w':=by
 refine aL (Cc (some ⟨g,0,none⟩) (k:Int) w) ?_;refine ac.mk (fun c0=>(kf w).mono ?_) fun c0=>(dt w g s T hG).mono ?_
 ·have c0:k=0:=by simpa using c0
  rintro e w1 ⟨r,rfl,hr,b⟩;exact⟨_,_,_,rfl,r,rfl,by rw [if_pos c0];exact hr,b⟩
 have c0:k≠0:=by simpa using c0
 rw [if_neg c0];obtain⟨n,hgn⟩:∃n,n=gN s T:=⟨_,rfl⟩;have hgl:(bx s T).length=n:=hgn.symm;have hn1:n≤292:=by omega
 rintro e w2 ⟨rfl,hw⟩;subst w2;rw [hgl, ←hgn];refine⟨_,rfl,_,_,_,_,nk w n (by omega),?_⟩;have dg:∀ {x:Nat},x≤1000000→(dD 10 x).length≤1000:=fun h=>Nat.le_trans (kT (k:=7) (by decide) (Nat.lt_of_le_of_lt h (by decide))) (by decide);intro I hI;have key:=aX (α:=Sl×World) k (fun i y=>eh y.2 w.heap.size y.1 n (eQ s T i)∧Below w.heap.size w y.2) (fun i y=>I [.int .i64 (i:Int),y.1.v] y.2) (⟨some (nb w),n,n⟩,_) ⟨qC w n (by omega) fun j _=>rfl,ag _ _⟩ ?_ ?_
 ·exact key
 ·rintro kk hkk ih ⟨l,q⟩ ⟨hl,hq⟩;change eh q w.heap.size l n (eQ s T kk)at hl;change Below w.heap.size w q at hq;have hGq:=hG.on hq;refine hI _ l.a l.n l.c q (ac.yes (decide_eq_true (by omega)) ((dt q g s T hGq).mono ?_));rintro e w5 ⟨rfl,hw⟩;subst w5;rw [hgl];refine⟨_,rfl,_,_,_,_,nk q n (by omega),?_⟩;intro I2 hI2;have key2:=aX (α:=World) n (fun i q'=>eh q' q.heap.size ⟨some (nb q),n,n⟩ n (fun j=>if j<i then eQ s T (kk+1) j else 0)∧Below q.heap.size q q') (fun i q'=>I2 [.int .i64 (i:Int)] q') _ ⟨qC q n (by omega) fun j _=>if_neg (Nat.not_lt_zero j),ag _ _⟩ ?_ ?_
  ·exact key2
  ·rintro i hi ih2 q' ⟨hr,hq'⟩;have hGq':=hGq.on hq';refine hI2 _ q' ((dt q' g s T hGq').mono ?_);rintro e w8 ⟨rfl,hw⟩;subst w8;rw [hgl];refine⟨_,rfl,ac.yes (decide_eq_true (by omega)) ?_⟩;intro J hJ;have fin:∀q'',eh q'' q.heap.size ⟨some (nb q),n,n⟩ n (fun j=>if j<i+1 then eQ s T (kk+1) j else 0)→Below q.heap.size q q''→J [] q'':=fun q'' h1 h2=>hJ q'' (Ar.nat (i+1) rfl (by omega) (ih2 q'' ⟨h1,h2⟩));refine(Br q' g s T hGq' i (by omega)).mono ?_;rintro e w10 ⟨rfl,hw⟩;subst w10;refine⟨_,_,rfl,ac.mk (fun hk0=>?_) fun hk0=>?_⟩
   ·have hk0:kk=0:=by simpa using hk0
    subst hk0;intro J2 hJ2;refine(oN q' g s T hGq' (by omega) _).mono ?_;rintro e w12 ⟨rfl,hw⟩;subst w12;rw [FU (show i<gN s T by omega)];refine⟨_,rfl,ac.mk (fun ha=>(kf q').mono ?_) fun ha=>hJ2 q' (fin q' (hr.congr fun j hj=>?_) hq')⟩
    ·rintro e w13 ⟨x,rfl,hx,b13⟩;refine⟨_,_,_,rfl,af.mk (nb q) rfl ⟨by omega,by omega,rJ (hr.on b13) hi hx (fun j hj=>?_) fun q2 h2 B2=>hJ2 q2 (fin q2 h2 (B2 _ _ (Nat.le_refl _) (ae hq' b13)))⟩⟩;by_cases e:j=i
     ·subst e;rw [if_pos rfl,if_pos (by omega)];show(if gW s T j=true then 1 else 0)=1;rw [if_pos ha]
     ·rw [if_neg e];by_cases h2:j<i
      ·rw [if_pos h2,if_pos (by omega)]
      ·rw [if_neg h2,if_neg (by omega)]
    ·have ha:¬gW s T i=true:=by rw [ha];exact Bool.false_ne_true
     by_cases e:j=i
     ·subst e;rw [if_pos (by omega),if_neg (by omega)];show(if gW s T j=true then 1 else 0)=0;rw [if_neg ha]
     ·by_cases h2:j<i
      ·rw [if_pos h2,if_pos (by omega)]
      ·rw [if_neg h2,if_neg (by omega)]
   ·have hk0:kk≠0:=by simpa using hk0
    have hcol:∀t,eQ s T (kk+1) t=Aut.sumN (fun j=>if ct s T j t=true then eQ s T kk j else 0) n:=by
     obtain⟨k3,rfl⟩:∃k3,kk=k3+1:=⟨kk-1,by omega⟩;intro t;rw [hgn];rfl
    intro I3 hI3;have key3:=aX (α:=World) n (fun j q2=>eh q2 q.heap.size ⟨some (nb q),n,n⟩ n (fun t=>if t<i then eQ s T (kk+1) t else if t=i then Aut.sumN (fun j=>if ct s T j i=true then eQ s T kk j else 0) j else 0)∧Below q.heap.size q q2) (fun j q2=>I3 [.int .i64 (j:Int)] q2) q' ⟨hr.congr fun t ht=>?_,hq'⟩ ?_ ?_
    ·exact key3
    ·by_cases h2:t<i
     ·rw [if_pos h2,if_pos h2]
     ·rw [if_neg h2,if_neg h2];split<;>rfl
    ·rintro j hj ih3 q2 ⟨hr2,hq2⟩;have hG2:=hGq.on hq2;refine hI3 _ q2 ((dt q2 g s T hG2).mono ?_);rintro e w16 ⟨rfl,hw⟩;subst w16;rw [hgl];refine⟨_,rfl,ac.yes (decide_eq_true (by omega)) ?_⟩;intro J3 hJ3;have fin3:∀q3,eh q3 q.heap.size ⟨some (nb q),n,n⟩ n (fun t=>if t<i then eQ s T (kk+1) t else if t=i then Aut.sumN (fun j=>if ct s T j i=true then eQ s T kk j else 0) (j+1)else 0)→Below q.heap.size q q3→J3 [] q3:=fun q3 h1 h2=>hJ3 q3 (Ar.nat (j+1) rfl (by omega) (ih3 q3 ⟨h1,h2⟩));refine(Br q2 g s T hG2 j (by omega)).mono ?_;rintro e w18 ⟨rfl,hw⟩;subst w18;refine⟨_,_,rfl,(Dj q2 g s T hG2 (by omega) _ _).mono ?_⟩;rintro e w19 ⟨rfl,hw⟩;subst w19;rw [Ik (show j<gN s T by omega) (show i<gN s T by omega)];have sum_le:∀m,m≤n→Aut.sumN (fun j=>if ct s T j i=true then eQ s T kk j else 0) m≤292*292:=by
      intro m hm;have h1:=Aut.sumN_le (f:=fun j=>if ct s T j i=true then eQ s T kk j else 0) (c:=292) (fun j=>by
       show(if ct s T j i=true then eQ s T kk j else 0)≤292;split
       ·exact uj (by omega) (by omega) j
       ·omega) m
      have h2:m*292≤292*292:=Nat.mul_le_mul_right _ (by omega);omega
     refine⟨_,rfl,ac.mk (fun hb=>?_) fun hb=>fin3 q2 (hr2.congr fun t ht=>?_) hq2⟩
     ·intro w20 hw20;have b20:Below q2.heap.size q2 w20:=by subst hw20;exact aO q2
      have hr20:=hr2.on b20;have hq20:=ae hq2 b20;obtain⟨p1,x1,hp1,c1,d1⟩:=nZ hr20 hi;obtain⟨p2,x2,hp2,c2,d2⟩:=nZ (hl.on hq20) hj;rw [if_neg (Nat.lt_irrefl i),if_pos rfl]at d1;refine af.mk p1 hp1 ⟨by omega,by omega,_,_,_,c1,af.mk p2 hp2 ⟨by omega,by
       obtain⟨ks,k1,k2,_⟩:=hl;have:=(Rw.of_own k2 (fun _=>rfl) (by decide)).2;omega,_,_,_,c2,(pj w20 x1 x2 _ _ d1 d2 (dg (by have:=sum_le j (by omega);omega)) (dg (by have:=uj (s:=s) (T:=T) (by omega) (show kk≤2 by omega) j;omega))).mono ?_⟩⟩
      rintro e w21 ⟨x,rfl,hx,b21⟩;refine⟨_,_,_,rfl,af.mk (nb q) rfl ⟨by omega,by omega,rJ (hr20.on b21) hi hx (fun t ht=>?_) fun q3 h3 B3=>fin3 q3 h3 (B3 _ _ (Nat.le_refl _) (ae hq20 b21))⟩⟩;by_cases e:t=i
      ·subst e;rw [if_neg (Nat.lt_irrefl t),if_pos rfl,if_pos rfl];show Aut.sumN _ j+(if ct s T j t=true then eQ s T kk j else 0)=_;rw [if_pos hb]
      ·rw [if_neg e,if_neg e,if_neg e]
     ·have hb:¬ct s T j i=true:=by rw [hb];exact Bool.false_ne_true
      by_cases h2:t<i
      ·rw [if_pos h2,if_pos h2]
      ·rw [if_neg h2,if_neg h2];by_cases e:t=i
       ·rw [if_pos e,if_pos e];show Aut.sumN _ j+(if ct s T j i=true then eQ s T kk j else 0)=_;rw [if_neg hb,Nat.add_zero]
       ·rw [if_neg e,if_neg e]
    ·rintro q2 ⟨hr2,hq2⟩;refine hI3 _ q2 ((dt q2 g s T (hGq.on hq2)).mono ?_);rintro e w16 ⟨rfl,hw⟩;subst w16;rw [hgl];refine⟨_,rfl,ac.no (decide_eq_false (by omega)) (fin q2 (hr2.congr fun t ht=>?_) hq2)⟩;by_cases h2:t<i
     ·rw [if_pos h2,if_pos (by omega)]
     ·rw [if_neg h2];by_cases e:t=i
      ·subst e;rw [if_pos rfl,if_pos (by omega),hcol]
      ·rw [if_neg e,if_neg (by omega)]
  ·rintro q' ⟨hr,hq'⟩;refine hI2 _ q' ((dt q' g s T (hGq.on hq')).mono ?_);rintro e w8 ⟨rfl,hw⟩;subst w8;rw [hgl];refine⟨_,rfl,ac.no (decide_eq_false (by omega)) (Ar.nat (kk+1) rfl (by omega) (ih (⟨some (nb q),n,n⟩,q') ⟨?_,hq.trans (hq'.mono hq.size)⟩))⟩;obtain⟨ks,k1,k2,k3⟩:=hr.congr (f':=eQ s T (kk+1)) fun j hj=>(if_pos hj).symm;exact⟨ks,k1,bG k2 hq.size,k3⟩
 ·rintro⟨l,q⟩ ⟨hl,hq⟩;change eh q w.heap.size l n (eQ s T k)at hl;change Below w.heap.size w q at hq;have hln:l.n=n:=by
   obtain⟨ks,k1,k2,_⟩:=hl;have:=(Rw.of_own k2 (fun _=>rfl) (by decide)).2;omega
  refine hI _ l.a l.n l.c q (ac.no (decide_eq_false (by omega)) ?_);rw [hln];intro I4 hI4;have sum_le:∀m,m≤n→Aut.sumN (eQ s T k) m≤292*292:=by
   intro m hm;have h1:=Aut.sumN_le (f:=eQ s T k) (c:=292) (fun j=>uj (by omega) hk j) m;have h2:m*292≤292*292:=Nat.mul_le_mul_right _ (by omega);omega
  have key4:=aX (α:=Sl×World) n (fun i y=>dH y.2 y.1 (Aut.sumN (eQ s T k) i)∧Below q.heap.size q y.2) (fun i y=>I4 [.int .i64 (i:Int),y.1.v] y.2) (bV,q) ⟨tJ q,Below.refl _ _⟩ ?_ ?_
  ·exact key4
  ·rintro i hi ih ⟨x,q2⟩ ⟨hx,hq2⟩;change dH q2 x (Aut.sumN (eQ s T k) i)at hx;change Below q.heap.size q q2 at hq2;obtain⟨p1,x1,hp1,c1,d1⟩:=nZ (hl.on hq2) hi;refine hI4 _ x.a x.n x.c q2 (ac.yes (decide_eq_true (by omega)) (af.mk p1 hp1 ⟨by omega,by omega,_,_,_,c1,(pj q2 x x1 _ _ hx d1 (dg (by have:=sum_le i (by omega);omega)) (dg (by have:=uj (s:=s) (T:=T) (by omega) hk i;omega))).mono ?_⟩));rintro e w24 ⟨z,rfl,hz,b24⟩;exact⟨_,_,_,rfl,Ar.nat (i+1) rfl (by omega) (ih (z,w24) ⟨hz,ae hq2 b24⟩)⟩
  ·rintro⟨x,q2⟩ ⟨hx,hq2⟩;exact hI4 _ x.a x.n x.c q2 (ac.no (decide_eq_false (by omega)) ⟨x,rfl,hx,hq.trans (hq2.mono hq.size)⟩)
set_option maxHeartbeats 4000000 in
theorem pF (w:World) (y:Eu) (ls:List Int) (cs:List (Int×Int×Int)) (js:List (Int×Int)) (xs:List (Int×Bs)) (h:yX w y ls cs js xs) (m:Nat):
  CP 7 #[y.v,.int .u8 (m:Int)] w fun e w'=>e= .returned (.bool true)∧Below w.heap.size w w':=by
 refine aL (DB y.l.a y.l.n y.l.c y.c.a y.c.n y.c.c y.j.a y.j.n y.j.c y.x.a y.x.n y.x.c (m:Int) w) ?_;intro w1 hw1;have hb1:Below w.heap.size w w1:=by subst hw1;exact ag _ _
 have l1:w1.heap[w.heap.size]? =some (.cells y.cells K1 (0,0)):=by subst hw1;exact ak _ _
 refine⟨_,_,_,_,_,_,_,_,_,_,_,_,KJ l1,?_⟩;refine(sQ w1 y ls cs js xs (h.on hb1)).mono ?_;rintro e w2 ⟨c0,rfl,b2⟩;have hb2:=ae hb1 b2;have aw:∀ {q:World},Below w.heap.size w q→CP 35 #[] q fun e w'=>∃b:Bool,e= .returned (.bool b)∧(Ending.returned (Value.bool b)= .returned (.bool true)∧Below w.heap.size w w'):=by
  intro q hq;refine(mU q).mono ?_;rintro e w3 ⟨rfl,b3⟩;exact⟨true,rfl,rfl,ae hq b3⟩
 refine⟨c0,rfl,ac.mk (fun _=>aw hb2) fun _=>?_⟩;refine(mU w2).mono ?_;rintro e w5 ⟨rfl,b5⟩;have hb5:=ae hb2 b5;refine⟨_,rfl,ac.no rfl ⟨_,_,_,_,_,_,_,_,_,_,_,_,KJ (ah b5 (ah b2 l1)),?_⟩⟩;refine(zn w5 y ls cs js xs (h.on hb5) 5 (by decide)).mono ?_;rintro e w6 ⟨c,b,g,r,s,T,f,rfl,hB,b6,hc6⟩;have hb6:=ae hb5 b6;have hn2:gN s T≤1032:=by have:=hB.n;omega
 have hF:=oo hn2 hB.rise hB.cls;have hS:=rE hn2 hB.cls;obtain⟨⟨b1,hC6⟩,hA6⟩:=(⟨hB.code,hB.aut⟩:_∧_);obtain⟨M,hM⟩:∃M,M=Aut.least (dc s T) f:=⟨_,rfl⟩;rw [←hM]at hF hC6 hA6 hS;have hMn:M.n≤1032:=by rw [hF.n];exact hn2
 have hpos:=hF.ok.pos;have hg0:M.good 0=true:=by
  rw [hS.good 0 0 hS.zero];exact decide_eq_true (Nat.zero_le _)
 refine⟨_,_,_,_,_,_,_,_,_,_,_,_,_,_,_,_,_,_,rfl,?_⟩;intro w7 hw7;refine aT (nU DJ) (nU r) rfl (jO r) w7 hw7 ?_;intro w8 h8 hz8 b8;have hC8:=(hC6.then b8).now 0;have hA8:=hA6.on b8;have hb8:=ae hb6 b8;have hcw:w.heap.size≤c:=by have:=hb5.size;omega
 obtain⟨cc8,fz8,hx8⟩:=hC8.typ;have nab:b≠c:=by
  intro e;obtain⟨o,hAw⟩:=hA8;obtain⟨nx,gd,of,rs,d,ha8,_⟩:=hAw;rw [e]at ha8;have:=hx8.symm.trans ha8;simp at this;exact absurd this.2.1 (by decide)
 have aut_:∀ {q:World},au c w8 q→eu q b g M:=fun t=>hA8.touch hx8 t nab (by decide) (by decide) (by decide);obtain⟨k,hk⟩:∃k,k=m%3:=⟨_,rfl⟩;have hk3:k≤2:=by have:=Nat.mod_lt m (show 0<3 by decide);omega
 have e3:IntKind.wrap .i64 (Int.tmod (m:Int) 3)=(k:Int):=by rw [hk];exact Ln m 3 (by decide) (by decide)
 rw [e3];have cnt:eH M 5 0 (k:Int)=Aut.goN M k 0:=by
  unfold eH;rw [if_pos (by omega)];rfl
 have hgo:Aut.goN M k 0≤1032^2:=Fj hMn hk3 0;have dgo:=Nat.le_trans (KD hMn (k:=k) (L:=39) (by omega) (by decide) 0) (show 200≤10000 by decide);have dgo5:=Nat.le_trans dgo (show 10000≤100000 by decide);have heq:(if k=0 then 1 else Aut.sumN (eQ s T k) (gN s T))=Aut.goN M k 0:=by
  by_cases h0:k=0
  ·subst h0;rw [if_pos rfl];unfold Aut.goN;rw [if_pos hg0]
  ·rw [if_neg h0,Gw hS hF.n (by omega) hk3]
 refine ac.no rfl ⟨by decide,(dY w8 w8 0 c b1 g 5 M s T hC8 hF (by decide) (k:Int)).mono ?_⟩;rintro e w9 ⟨r1,rfl,hN9,hf9,t9⟩;rw [cnt]at hN9;have hC9:=(hf9.code hC8 (Nat.zero_le _) t9).now 0;refine⟨_,_,_,rfl,(ij w9 r1 _ hN9 dgo).mono ?_⟩;rintro e w10 ⟨rfl,b10⟩;have hC10:=(hC9.then b10).now 0;refine⟨_,rfl,(zH w10 g s T hC10.on.grid hB.n k hk3).mono ?_⟩;rintro e w11 ⟨d,rfl,hd,b11⟩;rw [heq]at hd;refine⟨_,_,_,rfl,(sC w11 d _ hd (Nat.le_trans (kT (k:=7) (by decide) (Nat.lt_of_le_of_lt hgo (by decide))) (by decide))).mono ?_⟩;rintro e w12 ⟨rfl,b12⟩;have b912:=ae (ae b10 b11) b12;have hC12:=(hC9.then b912).now 0;have t12:au c w8 w12:=t9.trans (au.of_below b912);refine⟨_,rfl,ac.yes (beq_self_eq_true _) ((f_ w12 w12 0 c b1 g 5 M s T hC12 hF (by decide) 0 (k:Int)).mono ?_)⟩;rintro e w13 ⟨r3,rfl,hN13,hf13,t13⟩;rw [cnt]at hN13;have hC13:=(hf13.code hC12 (Nat.zero_le _) t13).now 0;obtain⟨cc13,fz13,hx13⟩:=hC13.typ;refine⟨_,_,_,rfl,(dY w13 w13 0 c b1 g 5 M s T hC13 hF (by decide) (k:Int)).mono ?_⟩;rintro e w14 ⟨r4,rfl,hN14,hf14,t14⟩;rw [cnt]at hN14;have hC14:=(hf14.code hC13 (Nat.zero_le _) t14).now 0;refine⟨_,_,_,rfl,(pA w14 r3 r4 _ _ (hN13.past hx13 (by decide) t14) hN14 dgo5 dgo5).mono ?_⟩;rintro e w15 ⟨rfl,b15⟩;rw [D2];have hC15:=(hC14.then b15).now 0;have t15:au c w8 w15:=((t12.trans t13).trans t14).trans (au.of_below b15);refine⟨_,rfl,ac.yes rfl ((fB w15 b g M (aut_ t15)).mono ?_)⟩;rintro e w16 ⟨rfl,hw⟩;subst w16;refine⟨_,rfl,(f_ w15 w15 0 c b1 g 5 M s T hC15 hF (by decide) (M.N:Int) (k:Int)).mono ?_⟩;rintro e w17 ⟨r5,rfl,hN17,hf17,t17⟩;rw [show eH M 5 (M.N:Int) (k:Int)=0 by unfold eH;rw [if_neg (by omega)]]at hN17;have hC17:=(hf17.code hC15 (Nat.zero_le _) t17).now 0;refine⟨_,_,_,rfl,(eB w17 r5 0 hN17).mono ?_⟩;rintro e w18 ⟨rfl,b18⟩;have hC18:=(hC17.then b18).now 0;refine⟨_,rfl,ac.yes rfl ((dY w18 w18 0 c b1 g 5 M s T hC18 hF (by decide) (-1)).mono ?_)⟩;rintro e w19 ⟨r6,rfl,hN19,hf19,t19⟩;rw [show eH M 5 0 (-1)=0 by unfold eH;rw [if_neg (by omega)]]at hN19;have hC19:=(hf19.code hC18 (Nat.zero_le _) t19).now 0;refine⟨_,_,_,rfl,(eB w19 r6 0 hN19).mono ?_⟩;rintro e w20 ⟨rfl,b20⟩;have hC20:=(hC19.then b20).now 0;refine⟨_,rfl,ac.yes rfl ((dY w20 w20 0 c b1 g 5 M s T hC20 hF (by decide) 6).mono ?_)⟩;rintro e w21 ⟨r7,rfl,hN21,hf21,t21⟩;rw [show eH M 5 0 6=0 by unfold eH;rw [if_neg (by omega)]]at hN21;refine⟨_,_,_,rfl,(eB w21 r7 0 hN21).mono ?_⟩;rintro e w22 ⟨rfl,b22⟩;refine⟨_,rfl,rfl,?_⟩;have t22:=((((t15.trans t17).trans (au.of_below b18)).trans t19).trans (au.of_below b20)).trans (t21.trans (au.of_below b22));exact hb8.trans (t22.below hcw hb8.size)
theorem Cm {H:Type} {enc:TypeId×Value→H} {C:Checked} {os:Os} {f:FuncId} {fn:Func} {s:ChangeSpec}
  (own:ownKnob C.prog.godebug=none) (started:os.Started) (noInit:C.prog.inits.idxOf? f=none) (hfn:C.prog.funcs[f]? =some fn)
  (witness:∃(w:World) (tape:Tape) (i:Input),w.os=os∧(w.forCall tape i).Shaped C.prog∧i.vars= []∧Input.okWide C.prog (w.forCall tape i) .any w.heap.size f i∧
   ((s.pre enc C.prog fn [] false (w.forCall tape i).memory i.args∧True)∧sizedMet enc C.prog fn (OpenSpec.ofChange s) false (w.forCall tape i).memory i.args)∧({}:Assume).holds C.prog (lone (Frame.enter C.prog f i.args .normal) [] (w.forCall tape i)))
  (contract:∀(W:World) (base:Nat) (args:Array Value) (ds gs:List (DataW H)) (before:List MemPlace),
   (∀(j:Nat) t v,fn.params[j]? =some t→args[j]? =some v→Value.okWide C.prog W .any base t v)→
   DataW.Whole enc C.prog fn.params.toList s.vars false W args.toList ds gs before→
   (DataW.weightsEach C.prog (fn.params.toList++s.plain.varTypes C.prog) (ds++gs)).all (·≤reachBytes)=true→
   W.ShapedOpen C.prog→
   Calls C.prog f args W fun e W'=>∃v,e= .returned v∧s.post enc C.prog fn false true false false W args v W'):
  ReturnsInHanded {} C os f .any (fun w args=>s.pre enc C.prog fn [] false w args∧sizedMet enc C.prog fn (OpenSpec.ofChange s) false w args) (s.post enc C.prog fn false true false false):=by
 have witness':∃(w:World) (tape:Tape) (i:Input),w.os=os∧(w.forCall tape i).Shaped C.prog∧i.vars= []∧Input.okWide C.prog (w.forCall tape i) .any w.heap.size f i∧
   (s.pre enc C.prog fn [] false (w.forCall tape i).memory i.args∧sizedMet enc C.prog fn (OpenSpec.ofChange s) false (w.forCall tape i).memory i.args)∧({}:Assume).holds C.prog (lone (Frame.enter C.prog f i.args .normal) [] (w.forCall tape i)):=by
  obtain⟨w,tape,i,h1,h2,h3,h4,⟨⟨h5,_⟩,h6⟩,h7⟩:=witness;exact⟨w,tape,i,h1,h2,h3,h4,⟨h5,h6⟩,h7⟩
 refine returnsInHanded_of_calls own started noInit witness' ?_;intro w tape i _ hshape _ hok hpre _;obtain⟨_,_,_,fn',hfn',_,_,_,_,hval⟩:=hok;obtain rfl:fn'=fn:=Option.some.inj (hfn'.symm.trans hfn);obtain⟨⟨ds,gs,before,hw,_⟩,hz⟩:=hpre;refine(contract (w.forCall tape i) w.heap.size i.args ds gs before hval (DataW.Whole.of_heap (w':=w.forCall tape i) (by rfl) hw) (hz.weights hw) hshape).mono ?_;rintro e W' ⟨v,rfl,hp⟩;exact ChangeSpec.post_blind hp
end Go.Proofs.YtdlcfegnaphclaaGreat.Eng
