/- A code: good tokens' number; walked by the engine. -/
import Derived.Test.YtdlcfegnaphclaaGreatZpAf
import Derived.Test.YtdlcfegnaphclaaGreatZpTz
import Derived.Test.YtdlcfegnaphclaaGreatZpVc
set_option linter.unusedVariables false
set_option linter.unusedSimpArgs false
set_option maxRecDepth 100000
namespace Go.Proofs.YtdlcfegnaphclaaGreat.Eng
open Go Go.RowKit
def kw (s:ar) (T:List aP) (ids:List Int):List Nat:=ids.map fun t=>(oK s T t).getD 0
theorem Du {s:ar} {T:List aP} {ids:List Int} (hh:∀t∈ids,di s T t=true) {i:Nat} (hi:i<ids.length):oK s T ids[i]=some ((kw s T ids)[i]'(by unfold kw;rw [List.length_map];exact hi)):=by
 have h1:=hh _ (List.getElem_mem hi);rw [←vw]at h1;obtain⟨k,hk⟩:=Option.isSome_iff_exists.1 h1;unfold kw;rw [List.getElem_map,hk];rfl
theorem gD (s:ar) (T:List aP) (ids:List Int):(kw s T ids).length=ids.length:=List.length_map _
theorem Fa {s:ar} {T:List aP} {M:Aut} {S:Nat→Nat→Prop} (hS:vc s T M S) (hn:M.n=gN s T) (hV:(az s T).Ok) (hok:fW T) {ids:List Int} {ks:List Nat} (hl:ks.length=ids.length) (hk:∀(i:Nat) (h:i<ids.length),oK s T ids[i]=some (ks[i]'(by omega))):
  ∀i,i≤ids.length→(Aut.Way M 0 (ks.take i)↔∀(j:Nat) (h:j<ids.length),j<i→(az s T).Has ids[j]∧(az s T).Canon (ids.take (j+1)))∧(Aut.Way M 0 (ks.take i)→∃x,S x ((ks.take i).foldl M.nxt 0)∧lg s T ids i x):=by
 intro i;induction i with
 |zero=>exact fun _=>⟨⟨fun _ j _ hj=>absurd hj (Nat.not_lt_zero j),fun _=>trivial⟩,fun _=>⟨0,hS.zero,fun j _ hj=>absurd hj (Nat.not_lt_zero j),.inl ⟨rfl,rfl⟩⟩⟩
 |succ i ih=>
  intro hle;have hi:i<ids.length:=by omega
  obtain⟨ih1,ih2⟩:=ih (by omega);have htk:ks.take (i+1)=ks.take i++ [ks[i]]:=by rw [List.take_add_one,QW (by omega)];rfl
  have hki:=hk i hi;have hkn:=(dr hki).1;have step:Aut.Way M 0 (ks.take i)→∃x,S x ((ks.take i).foldl M.nxt 0)∧lg s T ids i x∧(M.good (M.nxt ((ks.take i).foldl M.nxt 0) ks[i])=true↔(az s T).Canon (ids.take (i+1)))∧(az s T).Has ids[i]∧((az s T).Canon (ids.take (i+1))→S (ks[i]+1) (M.nxt ((ks.take i).foldl M.nxt 0) ks[i])):=by
   intro hw;obtain⟨x,hx,hG⟩:=ih2 hw;obtain⟨h1,h2⟩:=qf hV hok hG hi hki;have h3:=hS.next x _ ks[i] hx hkn;have h4:=hS.good _ _ h3;refine⟨x,hx,hG,?_,h2,fun hc=>?_⟩
   ·rw [h4,decide_eq_true_eq, ←h1];by_cases hm:dN (gN s T) (mZ s T) (d' s T) x ks[i]=true
    ·rw [if_pos hm];exact iff_of_true hkn hm
    ·rw [if_neg hm];exact iff_of_false (by omega) hm
   ·rw [if_pos (h1.2 hc)]at h3;exact h3
  constructor
  ·rw [htk,Aut.way_append];constructor
   ·rintro⟨hw,_,hg⟩ j hj hji;obtain⟨x,_,_,h1,h2,_⟩:=step hw;by_cases e:j=i
    ·subst e;exact⟨h2,h1.1 hg⟩
    ·exact ih1.1 hw j hj (by omega)
   ·intro hall;have hw:=ih1.2 fun j hj hji=>hall j hj (by omega);obtain⟨x,_,_,h1,h2,_⟩:=step hw;exact⟨hw,by rw [hn];exact hkn,h1.2 (hall i hi (by omega)).2⟩
  ·rw [htk,Aut.way_append,List.foldl_append];rintro⟨hw,_,hg⟩;obtain⟨x,_,hG,h1,h2,h3⟩:=step hw;have hc:=h1.1 hg;exact⟨_,h3 hc,qn hG hi hki h2 hc⟩
theorem nL {s:ar} {T:List aP} {M:Aut} {S:Nat→Nat→Prop} (hS:vc s T M S) (hn:M.n=gN s T) (hV:(az s T).Ok) (hok:fW T) {ids:List Int} (hh:∀t∈ids,di s T t=true):Aut.Way M 0 (kw s T ids)↔fR (az s T) ids none:=by
 have h:=(Fa hS hn hV hok (gD s T ids) (fun i hi=>Du hh hi) ids.length (Q0 _)).1;rw [List.take_of_length_le (by rw [gD];exact Q0 _)]at h;rw [h];exact⟨fun h j hj=>h j hj hj,fun h j hj _=>h j hj⟩
theorem LU {M:Aut} (hn:M.n≤1032) (m s k:Nat):Aut.via M m s k≤1032^m:=by
 unfold Aut.via;split
 ·exact QU (Aut.goN_le _ _) (Nat.pow_le_pow_left hn m)
 ·exact Nat.zero_le _
theorem Hh {M:Aut} (hn:M.n≤1032) (m s:Nat) {k:Nat} (hk:k≤1032):Aut.sumN (Aut.via M m s) k≤1032^(m+1):=by
 have:=Aut.sumN_le (LU hn m s) k;rw [Nat.pow_succ,Nat.mul_comm];exact QU this (Nat.mul_le_mul_right _ hk)
theorem Hn {M:Aut} (hn:M.n≤1032):∀ {u:List Nat} {L s:Nat},(∀k∈u,k≤1032)→Aut.pre M L s u≤u.length*1032^(L+1)
 | [],L,s,_=>Nat.zero_le _
 |k::u,L,s,h=>by
  have h1:=Hh hn (L-1) s (h k (by simp));have h2:=Hn hn (u:=u) (L:=L-1) (s:=M.nxt s k) fun j hj=>h j (by simp [hj]);have h3:(1032:Nat)^(L-1+1)≤1032^(L+1):=Nat.pow_le_pow_right (by decide) (by omega);have h4:u.length*1032^(L-1+1)≤u.length*1032^(L+1):=Nat.mul_le_mul_left _ h3;show Aut.sumN (Aut.via M (L-1) s) k+Aut.pre M (L-1) (M.nxt s k) u≤(u.length+1)*1032^(L+1);rw [Nat.succ_mul];omega
theorem ow {x L:Nat} (h:x≤(L+1)*1032^(L+1)) (hL:L≤20000):(dY 4294967296 x).length≤L+2:=by
 refine jH dJ (Nat.lt_of_le_of_lt h ?_);have h1:(1032:Nat)^(L+1)≤4294967296^(L+1):=Nat.pow_le_pow_left (by decide) _;have h2:(L+1)*1032^(L+1)≤20001*4294967296^(L+1):=Nat.mul_le_mul (by omega) h1;have h3:20001*4294967296^(L+1) <4294967296*4294967296^(L+1):=Nat.mul_lt_mul_of_pos_right (by decide) (Nat.pow_pos (by decide));rw [show L+2=(L+1)+1 from rfl,Nat.pow_succ 4294967296 (L+1),Nat.mul_comm (4294967296^(L+1))];omega
structure fZ (w q:World) (hi c a g L:Nat) (M:Aut) (s:ar) (T:List aP) (Rb Ab Sb Wb tot st:Nat) (want:Int):Prop where
 code:cD w q hi c a g L M s T
 hhi:hi≤q.heap.size
 all:∃l:Sl,q.heap[Ab]? =some (.cells #[l.v] bU (0,0))∧aZ q l tot
 state:q.heap[Sb]? =some (.cells #[.int .i64 (st:Int)] aV (0,0))
 want:q.heap[Wb]? =some (.cells #[.int .i64 want] aV (0,0))
 res:q.heap[Rb]? =some (.cells #[bO.v] bU (0,0))
section
variable {w q q':World} {hi c a g L:Nat} {M:Aut} {s:ar} {T:List aP} {Rb Ab Sb Wb tot st:Nat} {want:Int}
theorem fZ.from (h:fZ w q hi c a g L M s T Rb Ab Sb Wb tot st want) (f:lY q q' c a g L M) (t:ap c q q') (n1:Ab≠c) (n2:Sb≠c) (n3:Wb≠c) (n4:Rb≠c):fZ w q' hi c a g L M s T Rb Ab Sb Wb tot st want:=by
 obtain⟨l,h1,h2⟩:=h.all;obtain⟨d,lc,hx,_⟩:=h.code.cnt;exact⟨f.code h.code h.hhi t,QU h.hhi t.size,⟨l,t.held n1 h1,h2.past hx (by decide) t⟩,t.held n2 h.state,t.held n3 h.want,t.held n4 h.res⟩
theorem fZ.on (h:fZ w q hi c a g L M s T Rb Ab Sb Wb tot st want) (hb:Below q.heap.size q q'):fZ w q' hi c a g L M s T Rb Ab Sb Wb tot st want:=by
 obtain⟨l,h1,h2⟩:=h.all;exact⟨h.code.then hb,QU h.hhi hb.size,⟨l,ag hb h1,h2.on hb⟩,ag hb h.state,ag hb h.want,ag hb h.res⟩
theorem kr {q:World} {b:Nat} {v0:Value} {n:Int} {K:World→Prop} (h:q.heap[b]? =some (.cells #[v0] aV (0,0))) (hk:∀q',q'.heap[b]? =some (.cells #[.int .i64 n] aV (0,0))→ap b q q'→(∀B w0,B≤b→Below B w0 q→Below B w0 q')→K q'):
  (Value.int .i64 n).oneCell'=true∧(∃u,q.cell? ⟨b,0,none⟩=some u)∧q.frozen? ⟨b,0,none⟩=false∧∀q',q'=q.setCell ⟨b,0,none⟩ (.int .i64 n)→K q':=
 dS (aW h [.int .i64 n] rfl (fun v hv=>by rw [List.mem_singleton.1 hv];rfl) fun q' h1 h2 h3 h4=>hk q' h1 (cM h4 h2 h3) h4)
set_option maxHeartbeats 1000000 in
theorem wY (h:fZ w q hi c a g L M s T Rb Ab Sb Wb tot st want) (a1:w.heap.size≤Ab) (a2:Ab<hi) (s1:w.heap.size≤Sb) (s2:Sb<hi) (n1:Ab≠Sb) (n2:hi≤Wb) (r1:Rb≠Ab) (r2:Rb≠Sb) (id:Int) (nx:Nat) (r:Sl) (v:Nat) (hr:aZ q r v) (d1:(dY 4294967296 tot).length≤100000) (d2:(dY 4294967296 v).length≤100000):
  bF gE (.func (.func 99) #[] #[.pointer (some ⟨Wb,0,none⟩),.pointer (some ⟨Sb,0,none⟩),.pointer (some ⟨Ab,0,none⟩)]) [.int .i64 id,.int .i64 (nx:Int),.agg #[r.v]] q fun e q2=>∃b:Bool,e= .returned (.bool b)∧(b=true→id=want∧fZ w q2 hi c a g L M s T Rb Ab Sb Wb tot nx want)∧(b=false→id≠want∧fZ w q2 hi c a g L M s T Rb Ab Sb Wb (tot+v) st want):=by
 refine bT (by kernel_rfl) ?_;refine aO (BH id (nx:Int) r.a r.n r.c (some ⟨Wb,0,none⟩) (some ⟨Sb,0,none⟩) (some ⟨Ab,0,none⟩) q) ?_;intro w1 hw1;have b1:Below q.heap.size q w1:=by subst hw1;exact af _ _
 have x1:w1.heap[q.heap.size]? =some (.cells #[r.v] bU (0,0)):=by subst hw1;exact ak _ _
 have h1:=h.on b1;obtain⟨l,hl,hN⟩:=h1.all;refine ah.mk _ rfl ⟨_,aL h1.want,ac.mk (fun he=>?_) fun he=>?_⟩
 ·have he:id=want:=by simpa using he
  refine ah.mk _ rfl (kr (n:=(nx:Int)) h1.state fun q' hx t B'=>⟨true,rfl,fun _=>⟨he,h1.code.box h1.state s1 s2 (by decide) t,QU h1.hhi t.size,⟨l,t.held n1 hl,hN.past h1.state (by decide) t⟩,hx,t.held (by omega) h1.want,t.held r2 h1.res⟩,fun h=>(by cases h)⟩)
 ·have he:¬id=want:=by simpa using he
  refine ah.mk _ rfl ⟨_,_,_,aH hl,_,_,_,aH x1,?_⟩;intro w3 hw3;have b3:Below w1.heap.size w1 w3:=by subst hw3;exact af _ _
  have x3:w3.heap[w1.heap.size]? =some (.cells #[r.v] bU (0,0)):=by subst hw3;exact ak _ _
  refine(gA w3 l r tot v (hN.on b3) ((hr.on b1).on b3) d1 d2 (nb w1) 1 (aL x3) (QV.1 x3).1).mono ?_;rintro e w4 ⟨y,rfl,hy,b4⟩;have h4:=(h1.on b3).on b4;obtain⟨l',hl',hN'⟩:=h4.all;refine⟨y.a,y.n,y.c,rfl,ah.mk _ rfl (cq (s:=y) hl' fun q' hx hN9 hB9 hs9 hz9=>⟨false,rfl,fun h=>(by cases h),fun _=>⟨he,?_⟩⟩)⟩;have t:=cM hB9 hs9 hz9;exact⟨h4.code.box hl' a1 a2 (by decide) t,QU h4.hhi t.size,⟨y,hx,hN9 _ _ hy⟩,t.held (Ne.symm n1) h4.state,t.held (by omega) h4.want,t.held r1 h4.res⟩
end
def LR (w':World) (M:Aut) (s:ar) (T:List aP) (L:Nat) (ids:List Int) (r:Sl) (k:Int):Prop:=
 (ids.length>L→k=3∧aZ w' r 0)∧(ids.length≤L→((¬(∀t∈ids,(az s T).Has t)→k=4∧aZ w' r 0)∧((∀t∈ids,(az s T).Has t)→(¬fR (az s T) ids none→k=8∧aZ w' r 0)∧(fR (az s T) ids none→k=0∧aZ w' r (Aut.rk M 0 (kw s T ids))))))
set_option maxHeartbeats 4000000 in
theorem gw (w:World) (c a g L:Nat) (M:Aut) (s:ar) (T:List aP) (S:Nat→Nat→Prop) (h:cD w w 0 c a g L M s T) (hF:fH M s T) (hL:L≤20000) (hS:vc s T M S) (hok:fW T) (hV:(az s T).Ok) (A:Option Addr) (C:Nat) (ids:List Int) (row:∀ {q:World},ap c w q→Rw aC 1 q A ids) (hl:ids.length≤10000):
  CP 51 #[.pointer (some ⟨c,0,none⟩),.slice A ids.length C] w fun e w'=>∃(r:Sl) (k:Int),e= .returned (.tuple #[.agg #[r.v],.int .i64 k])∧LR w' M s T L ids r k∧cD w' w' 0 c a g L M s T∧ap c w w':=by
 refine aO (BQ (some ⟨c,0,none⟩) A ids.length C w) ?_;have hMn:=hF.n;have hfew:=hF.few;intro w1 hw1;have b1:Below w.heap.size w w1:=by subst hw1;exact af _ _
 have z1:w1.heap.size=w.heap.size+1:=by subst hw1;exact av _ _
 have x1:w1.heap[w.heap.size]? =some (.cells #[bO.v] bU (0,0)):=by subst hw1;exact ak _ _
 have h1:=h.then b1;have hclt:=h.lt;obtain⟨d,l,hx,_⟩:=h1.cnt;have none_:∀ {K:World→Prop},(∀(q':World),q'.heap[w.heap.size]? =some (.cells #[bO.v] bU (0,0))→aZ q' bO 0→cD q' q' 0 c a g L M s T→ap c w q'→K q')→bO.v.oneCell'=true∧(∃u,w1.cell? ⟨w.heap.size,0,none⟩=some u)∧w1.frozen? ⟨w.heap.size,0,none⟩=false∧∀q',q'=w1.setCell ⟨w.heap.size,0,none⟩ bO.v→K q':=by
  intro K hk;refine cq (s:=bO) x1 fun q' hx' hN' hB' _ _=>?_;have hb:=hB' _ _ (Q0 _) b1;exact hk q' hx' (jr _) ((h.then hb).now 0) (ap.of_below hb)
 refine ac.no rfl (ah.mk _ rfl ⟨_,aj _ _ hx 2,ac.mk (fun c1=>?_) fun c1=>ah.mk _ rfl ⟨_,aj _ _ hx 0,?_⟩⟩)
 ·have c1:=QQ c1;refine none_ fun q' hx' hN hC ht=>⟨_,_,_,aH hx',bO,3,rfl,⟨fun _=>⟨rfl,hN⟩,fun h=>by omega⟩,hC,ht⟩
 have c1:=QX c1;refine(Cy w1 a g M h1.on.aut s T h1.on.grid hMn S hS hok hV A C ids (row (ap.of_below b1)) hl).mono ?_;rintro e w4 ⟨r0,okb,rfl,hok1,hok2,hw4⟩;subst w4;refine⟨_,_,rfl,ac.mk (fun c2=>?_) fun c2=>?_⟩
 ·have c2:okb=false:=by simpa using c2
  refine none_ fun q' hx' hN hC ht=>⟨_,_,_,aH hx',bO,4,rfl,⟨fun h=>by omega,fun _=>⟨fun _=>⟨rfl,hN⟩,fun hh=>?_⟩⟩,hC,ht⟩;have:=hok1.2 hh;rw [c2]at this;cases this
 have c2:okb=true:=by simpa using c2
 have hhas:=hok1.1 c2;obtain⟨p,rfl,hp,hgp⟩:=hok2 c2;refine ah.mk _ rfl ⟨_,aj _ _ hx 0,(jO w1 a g M h1.on.aut _).mono ?_⟩;rintro e w6 ⟨rfl,hw6⟩;subst w6;rw [qC hp];refine⟨_,rfl,ac.mk (fun c3=>?_) fun c3=>?_⟩
 ·have c3:M.good p=false:=by simpa using c3
  refine none_ fun q' hx' hN hC ht=>⟨_,_,_,aH hx',bO,8,rfl,⟨fun h=>by omega,fun _=>⟨fun hh=>absurd hhas hh,fun _=>⟨fun _=>⟨rfl,hN⟩,fun hf=>?_⟩⟩⟩,hC,ht⟩;rw [hgp.2 hf]at c3;cases c3
 have c3:M.good p=true:=by simpa using c3
 have hfirst:=hgp.1 c3;have hh2:∀t∈ids,di s T t=true:=fun t ht=>(eA hok t).2 (hhas t ht);obtain⟨ks,hks⟩:∃ks,ks=kw s T ids:=⟨_,rfl⟩;have hway:Aut.Way M 0 ks:=by rw [hks];exact(nL hS hMn hV hok hh2).2 hfirst
 have hkl:ks.length=ids.length:=by rw [hks];exact gD s T ids
 have hkat:∀(i:Nat) (h:i<ids.length),oK s T ids[i]=some (ks[i]'(by omega)):=fun i hi=>by
  subst hks;exact Du hh2 hi
 have hkb:∀k∈ks,k<gN s T:=fun k hk=>by
  obtain⟨i,hi,rfl⟩:=List.getElem_of_mem hk;exact(dr (hkat i (by omega))).1
 intro w8 hw8 w9 hw9;have b8:Below w1.heap.size w1 w8:=by subst hw8;exact af _ _
 have b9:Below w8.heap.size w8 w9:=by subst hw9;exact af _ _
 have z8:w8.heap.size=w1.heap.size+1:=by subst hw8;exact av _ _
 have z9:w9.heap.size=w8.heap.size+1:=by subst hw9;exact av _ _
 have x8:w9.heap[w1.heap.size]? =some (.cells #[bO.v] bU (0,0)):=ag b9 (by subst hw8;exact ak _ _);have x9:w9.heap[w8.heap.size]? =some (.cells #[.int .i64 0] aV (0,0)):=by subst hw9;exact ak _ _
 have b89:=ae b8 b9;have b09:=ae b1 b89;refine kr (n:=0) x9 fun w10 x10 t10 B10=>?_;have b10:Below w.heap.size w w10:=B10 _ _ (by omega) b09;have x8':=t10.held (by omega) x8;have xr:=t10.held (by omega) (ag b89 x1);have z10:=t10.size;have hi10:w9.heap.size≤w10.heap.size:=z10;have hst0:∀i,i≤ids.length→(ks.take i).foldl M.nxt 0<M.N:=by
  intro i;induction i with
  |zero=>intro _;exact hF.ok.pos
  |succ i ih=>
   intro hi;rw [List.take_add_one,QW (by omega),List.foldl_append];exact hF.ok.lt _ _ (ih (by omega)) (by rw [hMn];exact hkb _ (List.getElem_mem _))
 have wayAt:∀(i:Nat) (hi:i<ids.length),M.good (M.nxt ((ks.take i).foldl M.nxt 0) (ks[i]'(by omega)))=true:=by
  intro i hi;have e:ks=(ks.take i++ [ks[i]'(by omega)])++ks.drop (i+1):=by
   rw [List.append_assoc,List.singleton_append, ←List.drop_eq_getElem_cons,List.take_append_drop]
  have:∀(u v:List Nat) (x:Nat),Aut.Way M x (u++v)→Aut.Way M x u:=by
   intro u;induction u with
   |nil=>exact fun v x _=>trivial
   |cons k u ih=>exact fun v x hw=>⟨hw.1,hw.2.1,ih v _ hw.2.2⟩
  have h2:=this _ _ 0 (by rw [←e];exact hway);exact(Aut.way_append.1 h2).2.2
 intro I hI;have key:=aU (α:=World) ids.length (fun i q=>cD w q w10.heap.size c a g L M s T∧w10.heap.size≤q.heap.size∧(∃l:Sl,q.heap[w1.heap.size]? =some (.cells #[l.v] bU (0,0))∧aZ q l (Aut.pre M ids.length 0 (ks.take i)))∧q.heap[w8.heap.size]? =some (.cells #[.int .i64 (((ks.take i).foldl M.nxt 0:Nat):Int)] aV (0,0))∧q.heap[w.heap.size]? =some (.cells #[bO.v] bU (0,0))) (fun i q=>I [.int .i64 (i:Int)] q) w10 ⟨(h.now _).then b10,Q0 _,⟨bO,x8',jr _⟩,x10,xr⟩ ?_ ?_
 ·exact key
 ·rintro i hi ih q ⟨hC,hq,⟨l,hlx,hN⟩,hsx,hrx⟩;have hlt:=hC.t;obtain⟨pw,hpw,c0⟩:=aS (row hC.t) hi rfl;refine hI _ q (ac.yes (QY (by omega)) (ah.mk pw hpw ⟨by omega,by omega,_,c0,?_⟩));intro w12 hw12;have b12:Below q.heap.size q w12:=by subst hw12;exact af _ _
  have x12:w12.heap[q.heap.size]? =some (.cells #[.int .i64 0] aV (0,0)):=by subst hw12;exact ak _ _
  refine kr (n:=ids[i]) x12 fun w13 x13 t13 B13=>?_;have b13:Below q.heap.size q w13:=B13 _ _ (Q0 _) b12;have hki:ks[i]'(by omega) <gN s T:=hkb _ (List.getElem_mem _);have hsi:=hst0 i (by omega);obtain⟨st,hst⟩:∃st,st=(ks.take i).foldl M.nxt 0:=⟨_,rfl⟩;obtain⟨tot,htot⟩:∃tot,tot=Aut.pre M ids.length 0 (ks.take i):=⟨_,rfl⟩;obtain⟨left,hleft⟩:∃left,left=ids.length-1-i:=⟨_,rfl⟩;have hg:=wayAt i hi;rw [←hst]at hsx hsi hg;rw [←htot]at hN;have ht1:tot≤i*1032^(ids.length+1):=by
   rw [htot];have:=Hn (M:=M) (by omega) (u:=ks.take i) (L:=ids.length) (s:=0) fun k hk=>by have:=hkb k (List.mem_of_mem_take hk);omega
   rwa [List.length_take,Nat.min_eq_left (by omega)]at this
  have ht2:∀k,k≤gN s T→tot+Aut.sumN (Aut.via M left st) k≤(ids.length+1)*1032^(ids.length+1):=by
   intro k hk;have h1:=Hh (M:=M) (by omega) left st (k:=k) (by omega);have h2:(1032:Nat)^(left+1)≤1032^(ids.length+1):=Nat.pow_le_pow_right (by decide) (by omega);have h3:i*1032^(ids.length+1)≤ids.length*1032^(ids.length+1):=Nat.mul_le_mul_right _ (by omega);rw [Nat.succ_mul];omega
  have R13:fZ w w13 w10.heap.size c a g L M s T w.heap.size w1.heap.size w8.heap.size q.heap.size tot st ids[i]:=⟨hC.then b13,QU hq b13.size,⟨l,ag b13 hlx,hN.on b13⟩,ag b13 hsx,x13,ag b13 hrx⟩;obtain⟨ki,hkid⟩:∃ki,ki=ks[i]'(by omega):=⟨_,rfl⟩;rw [←hkid]at hki hg;have hplc:oK s T ids[i]=some ki:=by rw [hkid];exact hkat i hi
  refine⟨_,aL R13.state,Ar.ok64 (by omega) (by omega) (Ar.nat left (by omega) (by omega) ?_)⟩;refine(jB w w10.heap.size c a g L M s T hF hL st left hsi (by omega) _ w13 (fun k q'=>k≤ki∧fZ w q' w10.heap.size c a g L M s T w.heap.size w1.heap.size w8.heap.size q.heap.size (tot+Aut.sumN (Aut.via M left st) k) st ids[i]) (fun q'=>fZ w q' w10.heap.size c a g L M s T w.heap.size w1.heap.size w8.heap.size q.heap.size (tot+Aut.sumN (Aut.via M left st) ki) (M.nxt st ki) ids[i]) ⟨Nat.zero_le _,R13⟩ (fun k q' h=>h.2.code) ?_ ?_).mono ?_
  ·rintro k q' hk ⟨h1,h3⟩ hb;refine⟨?_,?_⟩
   ·have:k≠ki:=fun e=>by
     rw [e,hg]at hb;cases hb
    omega
   ·have:Aut.via M left st k=0:=by unfold Aut.via;rw [hb];rfl
    show fZ w q' _ c a g L M s T _ _ _ _ (tot+(Aut.sumN (Aut.via M left st) k+Aut.via M left st k)) st ids[i];rw [this];exact h3
  ·rintro k q1 hk ⟨h1,h3⟩ hgk r q2 hf ht hNr;have h4:=h3.from hf ht (by omega) (by omega) (by omega) (by omega);have d1:=ow (ht2 k (by omega)) (by omega);have hv:Aut.via M left st k≤(ids.length+1)*1032^(ids.length+1):=by
    have:=ht2 (k+1) (by omega);have e:Aut.sumN (Aut.via M left st) (k+1)=Aut.sumN (Aut.via M left st) k+Aut.via M left st k:=rfl;omega
   have d2:=ow hv (by omega);refine bF.mono (wY h4 (by omega) (by omega) (by omega) (by omega) (by omega) (by omega) (by omega) (by omega) ((bD s T).getD k 0) (M.nxt st k) r _ hNr (by omega) (by omega)) ?_;rintro e q3 ⟨b,rfl,hb1,hb0⟩;have hpk:=oP hF.rise hk;refine⟨b,rfl,fun hb=>?_,fun hb=>?_⟩
   ·obtain⟨he,hR⟩:=hb1 hb;rw [he,hplc]at hpk;cases hpk;exact hR
   ·obtain⟨he,hR⟩:=hb0 hb;refine⟨?_,?_⟩
    ·have:k≠ki:=fun e=>he (by rw [e];exact(dr hplc).2.1);omega
    ·rw [Nat.add_assoc]at hR;exact hR
  ·rintro e w14 ⟨b,rfl,hQ,hP⟩;cases b with
   |false=>
    have:=(hP rfl).1;omega
   |true=>
    have hR:=hQ rfl;have htk:ks.take (i+1)=ks.take i++ [ki]:=by rw [List.take_add_one,QW (by omega),hkid];rfl
    refine⟨_,rfl,Ar.nat (i+1) rfl (by omega) (ih w14 ⟨hR.code,hR.hhi,?_,?_,hR.res⟩)⟩
    ·rw [htk,Aut.pre_snoc, ←htot, ←hst,List.length_take,Nat.min_eq_left (by omega), ←hleft];exact hR.all
    ·rw [htk,List.foldl_append, ←hst];exact hR.state
 ·rintro q ⟨hC,hq,⟨l,hlx,hN⟩,hsx,hrx⟩;refine hI _ q (ac.no (QZ (by omega)) ⟨_,_,_,aH hlx,cq (s:=l) hrx fun w15 hx15 hN15 hB15 hs15 hz15=>⟨_,_,_,aH hx15,l,0,rfl,⟨fun h=>by omega,fun _=>⟨fun hh=>absurd hhas hh,fun _=>⟨fun hh=>absurd hfirst hh,fun _=>⟨rfl,?_⟩⟩⟩⟩,?_,?_⟩⟩)
  ·have h2:=hN15 _ _ hN;rw [List.take_of_length_le (by omega), ←hkl,Aut.pre_rk,hks]at h2;exact h2
  ·exact(hC.box hrx (Q0 _) (by omega) (by decide) (cM hB15 hs15 hz15)).now 0
  ·have t:=cM hB15 hs15 hz15;have t0:=hC.t;exact⟨t.os.trans t0.os,t.tape.trans t0.tape,t.output.trans t0.output,QU t0.size t.size,fun j hj hne=>(t.block j (Nat.lt_of_lt_of_le hj t0.size) (by omega)).trans (t0.block j hj hne)⟩
def sZ:ar:={}
theorem Ih:sZ.right=true:=by decide+kernel
theorem Ib:dx sZ= .ok aK:=by
 have h:(match dx sZ with | .ok t=>decide (t=aK) | .error _=>false)=true:=by decide+kernel
 cases hx:dx sZ with
 |error q=>rw [hx]at h;cases h
 |ok t=>rw [hx]at h;rw [QQ h]
theorem FH:(bD sZ aK).length=256:=by decide+kernel
theorem Fx (w:World):dw w ⟨false,bO,bO,bO,bO,bO⟩ sZ:=by
 have none_:∀ {α:Type} {enc:α→List Value} {sz:Nat},Rw enc sz w none []:=fun j x hj=>by simp at hj
 exact⟨rfl,rfl,none_,rfl,none_,rfl,none_,rfl,none_,rfl,none_⟩
theorem wg {s:ar} {T:List aP} (hn:gN s T≤1032) {f:Nat→Nat} (hc:Aut.Cls (dg s T) f):Aut.Stays (Aut.least (dg s T) f):=by
 intro p hp hb k hk;have hM:=jl (s:=s) (T:=T) hn;have hS:Aut.Sim (dg s T) f ((Aut.metL (dg s T) f).getD p 0) p:=⟨Aut.getD_lt hM f hp,hp,rfl⟩;have hk':k< (dg s T).n:=hk;rw [(hS.next hM hc hk').good hM hc];rw [hS.good hM hc]at hb;have hb':¬(Aut.metL (dg s T) f).getD p 0≤gN s T:=QX hb;have:(dg s T).good ((dg s T).nxt ((Aut.metL (dg s T) f).getD p 0) k)=dN (gN s T) (mZ s T) (d' s T) ((Aut.metL (dg s T) f).getD p 0) k:=iv _ hk';rw [this];unfold dN;rw [if_neg (by omega),if_neg hb']
theorem uH {s:ar} {T:List aP} (hn:gN s T≤1032) {f:Nat→Nat} (hc:Aut.Cls (dg s T) f):(Aut.least (dg s T) f).N≤gN s T+2:=
 Aut.met_few (jl hn) hc.lt (dg s T).N
theorem oU {s:ar} {T:List aP} (hn:gN s T≤1032) (hr:nU s T) {f:Nat→Nat} (hc:Aut.Cls (dg s T) f):fH (Aut.least (dg s T) f) s T where
 n:=rfl
 few:=hn
 rise:=hr
 ok:=Aut.least_ok (jl hn) hc.lt
 N:=by have:=uH hn hc;omega
 stays:=wg hn hc
theorem nB:gN sZ aK=256:=FH
theorem xE:(∀i:Nat,i<256→(bD sZ aK).getD i 0=(i:Int))∧nU sZ aK:=by decide+kernel
theorem Ps:(az sZ aK).ms= []:=by decide+kernel
theorem Lt:∀i:Nat,i<256→(az sZ aK).ex (i:Int)= [(i:Int)]:=by decide+kernel
theorem Ph (x y:Int) (hx:0≤x) (hy:0≤y):(az sZ aK).cut x y=false:=by
 unfold Voc.cut;rw [QZ (by omega),QZ (by omega),Bool.false_or,Bool.false_or];show cutB [] [] x y=false;unfold cutB;exact QZ fun e=>e.1 rfl
theorem Fn:∀Z:List Int,Z≠ []→(∀x∈Z,0≤x)→chop (az sZ aK).cut Z= [Z]
 | [],h,_=>absurd rfl h
 | [x],_,_=>rfl
 |x::y::r,_,h=>by
  have hx:=h x (by simp);have hy:=h y (by simp);rw [chop,if_neg (by rw [Ph x y hx hy];exact Bool.false_ne_true),Fn (y::r) (by simp) fun z hz=>h z (List.mem_cons_of_mem _ hz)]
theorem JE (Z:List Int) (h:Z≠ []) (h0:∀x∈Z,0≤x):(az sZ aK).encode Z=Z:=by
 unfold Voc.encode;rw [Fn Z h h0,List.flatMap_cons,List.flatMap_nil,List.append_nil];cases Z with
 |nil=>exact absurd rfl h
 |cons x r=>
  have:=h0 x List.mem_cons_self;show(if x<0 then _ else after (az sZ aK).ms (az sZ aK).ms.length (x::r))=_;rw [if_neg (by omega),Ps];rfl
theorem DJ (t:Int):(az sZ aK).items t=(az sZ aK).ex t:=rfl
theorem OQ {i:Nat} (hi:i<256):mZ sZ aK i=true:=by
 unfold mZ;rw [xE.1 i hi];refine QY ?_;show(az sZ aK).encode ((az sZ aK).itemsAll [(i:Int)])= [(i:Int)];unfold Voc.itemsAll;simp only [List.flatMap_cons,List.flatMap_nil,List.append_nil,DJ];rw [Lt i hi,JE _ (by simp) (by intro x hx;simp at hx;omega)]
theorem Pe {i j:Nat} (hi:i<256) (hj:j<256):d' sZ aK i j=true:=by
 unfold d';rw [xE.1 i hi,xE.1 j hj];refine QY ?_;show(az sZ aK).encode ((az sZ aK).itemsAll [(i:Int),(j:Int)])= [(i:Int),(j:Int)];unfold Voc.itemsAll;simp only [List.flatMap_cons,List.flatMap_nil,List.append_nil,DJ];rw [Lt i hi,Lt j hj,JE _ (by simp) (by intro x hx;simp at hx;omega)];rfl
theorem DY {i k:Nat} (hi:i≤256) (hk:k<256):dN 256 (mZ sZ aK) (d' sZ aK) i k=true:=by
 unfold dN;by_cases e:i=0
 ·rw [if_pos e,OQ hk]
 ·rw [if_neg e,if_pos hi,Pe (by omega) hk]
theorem L1 {al:Nat→Bool} {rel:Nat→Nat→Bool} (ha:∀i,i<256→al i=true) (hm:∀i k,i≤256→k<256→dN 256 al rel i k=true) {M:Aut} (hM:M=eO 256 al rel) {f:Nat→Nat} (hc:Aut.Cls M f):(Aut.least M f).N=1:=by
 subst hM;have hact:∀i,i<257→tB al i=true:=by
  intro i hi;unfold tB;by_cases e:i=0
  ·subst e;rfl
  ·rw [ha _ (by omega)];simp
 have hrow:∀i,i<257→nr 256 al rel i=nr 256 al rel 0:=fun i hi=>rM.2 fun k hk=>by rw [hm _ _ (by omega) hk,hm _ _ (by omega) hk]
 have hone:(lT 256 al rel (256+1)).length=1:=by
  apply Nat.le_antisymm
  ·refine ix (m:=[nr 256 al rel 0]) (iL _) fun r hr=>?_;obtain⟨i,hi,_,rfl⟩:=(ii _ _).1 hr;rw [hrow i hi];exact List.mem_cons_self
  ·refine ix (l:=[nr 256 al rel 0]) (by simp) fun r hr=>?_;rw [List.mem_singleton.1 hr];exact(ii _ _).2 ⟨0,by decide,hact 0 (by decide),rfl⟩
 have hbad:¬Fg 256 al rel (256+1)=true:=by
  intro h;obtain⟨i,k,hi,_,hk,hh⟩:=sl.1 h;rw [hm i k (by omega) hk]at hh;cases hh
 rw [Iy,Dq (n:=256) (by decide) (fun i k hi hk _=>ha k hk) hc,hone,if_neg hbad]
theorem IQ {f:Nat→Nat} (hc:Aut.Cls (dg sZ aK) f):(Aut.least (dg sZ aK) f).N=1:=
 L1 (fun i hi=>OQ hi) (fun i k hi hk=>DY hi hk) (by unfold dg;rw [nB]) hc
theorem Fu (c:Nat):∀n:Nat,Aut.sumN (fun _=>c) n=n*c
 |0=>(Nat.zero_mul c).symm
 |n+1=>by rw [Nat.succ_mul, ←Fu c n];rfl
section
variable {M:Aut} {S:Nat→Nat→Prop}
theorem Dt (hS:vc sZ aK M S) (hn:M.n=256):∀(m x p k:Nat),S x p→x≤256→k<256→Aut.via M m p k=256^m
 |m,x,p,k,h,hx,hk=>by
  have hnx:=hS.next x p k h (by rw [nB];exact hk);rw [nB,if_pos (DY hx hk)]at hnx;have hg:=hS.good _ _ hnx;rw [nB,QY (by omega)]at hg;unfold Aut.via;rw [if_pos hg]
  match m with
  |0=>unfold Aut.goN;rw [if_pos hg]
  |m+1=>
   rw [Aut.goN_succ,Aut.sumN_congr (g:=fun _=>256^m) fun j hj=>Dt hS hn m (k+1) _ j hnx (by omega) (by omega),hn];rw [Fu,Nat.pow_succ,Nat.mul_comm]
theorem Qg (hS:vc sZ aK M S) (hn:M.n=256) {m x p:Nat} (h:S x p) (hx:x≤256):Aut.goN M m p=256^m:=by
 have hg:=hS.good _ _ h;rw [nB,QY hx]at hg;cases m with
 |zero=>unfold Aut.goN;rw [if_pos hg]
 |succ m=>
  rw [Aut.goN_succ,Aut.sumN_congr (g:=fun _=>256^m) fun j hj=>Dt hS hn m x _ j h hx (by omega),hn];rw [Fu,Nat.pow_succ,Nat.mul_comm]
theorem PR (hS:vc sZ aK M S) (hn:M.n=256):Aut.rk M 0 [97,98]=24930∧Aut.Way M 0 [97,98]:=by
 have h1:=hS.next 0 0 97 hS.zero (by rw [nB];decide);rw [nB,if_pos (DY (by decide) (by decide))]at h1;have g1:=hS.good _ _ h1;rw [nB,QY (by decide)]at g1;have h2:=hS.next _ _ 98 h1 (by rw [nB];decide);rw [nB,if_pos (DY (by decide) (by decide))]at h2;have g2:=hS.good _ _ h2;rw [nB,QY (by decide)]at g2;refine⟨?_,by omega,g1,by omega,g2,trivial⟩;show Aut.sumN (Aut.via M 1 0) 97+(Aut.sumN (Aut.via M 0 (M.nxt 0 97)) 98+0)=24930;rw [Aut.sumN_congr (g:=fun _=>256^1) fun j hj=>Dt hS hn 1 0 0 j hS.zero (by decide) (by omega),Aut.sumN_congr (g:=fun _=>256^0) fun j hj=>Dt hS hn 0 _ _ j h1 (by decide) (by omega),Fu,Fu]
end
theorem eR {n d q:Nat} (h:n=d+10*q) (hd:d<10) (h0:n≠0):dY 10 n=(d:Int)::dY 10 q:=by
 have h1:n%10=d:=by omega
 have h2:n/10=q:=by omega
 rw [lp Lz h0,h1,h2]
theorem Ny:mI 65536= [54,53,53,51,54]:=by
 unfold mI;rw [if_neg (by decide),eR (d:=6) (q:=6553) (by decide) (by decide) (by decide),eR (d:=3) (q:=655) (by decide) (by decide) (by decide),eR (d:=5) (q:=65) (by decide) (by decide) (by decide),eR (d:=5) (q:=6) (by decide) (by decide) (by decide),eR (d:=6) (q:=0) (by decide) (by decide) (by decide),ez];decide
theorem Mx:mI 24930= [50,52,57,51,48]:=by
 unfold mI;rw [if_neg (by decide),eR (d:=0) (q:=2493) (by decide) (by decide) (by decide),eR (d:=3) (q:=249) (by decide) (by decide) (by decide),eR (d:=9) (q:=24) (by decide) (by decide) (by decide),eR (d:=4) (q:=2) (by decide) (by decide) (by decide),eR (d:=2) (q:=0) (by decide) (by decide) (by decide),ez];decide
theorem GB:kw sZ aK [97,98]= [97,98]:=by decide+kernel
theorem Nn:∀t∈ [(97:Int),98],di sZ aK t=true:=by decide+kernel
theorem Nu (w:World) {v:Nat} (h:bC w v sZ aK):fW aK∧(az sZ aK).Ok:=by
 obtain⟨w0,x,tp,bp,mp,d,l,uses,hR⟩:=h;exact⟨hR.parts.ok,pA hR.parts⟩
set_option maxHeartbeats 1000000 in
theorem nj (w:World):CP 35 #[] w fun e w'=>e= .returned (.bool true)∧Below w.heap.size w w':=by
 refine aO (CM w) ?_;refine(ma w ⟨false,bO,bO,bO,bO,bO⟩ sZ (Fx w)).mono ?_;rintro e w1 ⟨u,rfl,b1,hp⟩;rw [if_pos Ih,Ib]at hp;obtain⟨v,rfl,hV1,hv⟩:=hp;obtain⟨hok,hVok⟩:=Nu w1 hV1;refine⟨_,_,_,rfl,(nv w1 v sZ aK hV1 List.Pairwise.nil 1048576).mono ?_⟩;rintro e w2 ⟨u,rfl,hV2,t2,hu⟩;rw [FH,if_neg (by decide)]at hu;obtain⟨g,rfl,hG,hg⟩:=hu;have b2:Below w.heap.size w w2:=b1.trans (t2.below hv b1.size);have hn:gN sZ aK≤1032:=by rw [nB];decide
 refine⟨_,_,rfl,(tT w2 g sZ aK hG hn xE.2 1048576).mono ?_⟩;rintro e w3 ⟨b3,_,hu⟩;obtain⟨a,rfl,ha,hA⟩:=hu (by rw [nB];decide);refine⟨_,_,rfl,(Ct w3 a g _ hA (by show gN sZ aK+2≤10000;omega) (by show gN sZ aK≤10000;omega)).mono ?_⟩;rintro e w4 ⟨b,f,rfl,hc,hb,_,hab,t4⟩;have hF:=oU hn xE.2 hc;have hN1:=IQ hc;have hS:=qW hn hc;have b4:Below w2.heap.size w2 w4:=b3.trans (t4.below ha b3.size);refine⟨_,rfl,(oD w4 b g _ sZ aK ⟨hb,hG.on b4⟩ hF 3).mono ?_⟩;obtain⟨M,hM⟩:∃M,M=Aut.least (dg sZ aK) f:=⟨_,rfl⟩;rw [←hM]at hF hN1 hS⊢;have hMn:M.n=256:=by rw [hF.n,nB]
 rintro e w5 ⟨b5,_,_,hu⟩;obtain⟨c,rfl,hcs,hC⟩:=hu (by decide) (by rw [hN1];decide);have hclt:=hC.lt;refine⟨_,_,rfl,?_⟩;intro w6 hw6;have b6:Below w5.heap.size w5 w6:=by subst hw6;exact af _ _
 have hC6:=(hC.then b6).now 0;have hr:=LM w5 w6 [97,98] _ rfl hw6;have x6:w6.heap[w5.heap.size]? =some (.cells #[.int .i64 97,.int .i64 98] aV (0,0)):=by subst hw6;exact ak _ _
 refine(gw w6 c b g 3 M sZ aK _ hC6 hF (by decide) hS hok hVok (some (nb w5)) 2 [97,98] (fun {q} t=>?_) (by decide)).mono ?_
 ·exact hr.touch t fun _ p hp=>by cases hp;exact fun e=>by have:w5.heap.size=c:=e;omega
 obtain⟨hab1,hab2⟩:=PR hS hMn;rintro e w7 ⟨r,k,rfl,hR,hC7,t7⟩;have hh:=Nn;obtain⟨rfl,hN7⟩:=((hR.2 (by decide)).2 (fun t ht=>(eA hok t).1 (hh t ht))).2 ((nL hS hF.n hVok hok hh).1 (by rw [GB];exact hab2));rw [GB,hab1]at hN7;refine⟨_,_,_,_,rfl,?_⟩;intro w8 hw8;have b8:Below w7.heap.size w7 w8:=by subst hw8;exact af _ _
 have x8:w8.heap[w7.heap.size]? =some (.cells #[bO.v] bU (0,0)):=by subst hw8;exact ak _ _
 refine cq (s:=r) x8 fun w9 x9 N9 B9 _ _=>?_;have b9:=B9 _ _ (Q0 _) b8;have hN9:=N9 _ _ (hN7.on b8);have hC9:=(hC7.then b9).now 0;have hclt7:=hC7.lt;refine ac.yes rfl ((fP w9 w9 0 c b g 3 M sZ aK hC9 hF (by decide) 2).mono ?_);rintro e w10 ⟨r2,rfl,hN10,hf,t10⟩;have e2:fV M 3 0 2=65536:=by
  unfold fV;rw [if_pos (by rw [hN1];decide)];exact Qg hS hMn hS.zero (by decide)
 rw [e2]at hN10;refine⟨_,_,_,rfl,(kP w10 r2 65536 hN10 (QU (jH (k:=1) (by decide) (by decide)) (by decide))).mono ?_⟩;rintro e w11 ⟨rfl,b11⟩;rw [Ny];refine⟨_,rfl,ac.yes (beq_self_eq_true (str [54,53,53,51,54]).toList) ⟨_,_,_,aH (ag b11 (t10.held (by omega) x9)),?_⟩⟩;have hN11:aZ w11 r 24930:=by
  refine aZ.on ?_ b11;obtain⟨cc,fz,hx⟩:=hC9.typ;exact hN9.past hx (by decide) t10
 refine(kP w11 r 24930 hN11 (QU (jH (k:=1) (by decide) (by decide)) (by decide))).mono ?_;rintro e w12 ⟨rfl,b12⟩;rw [Mx];refine⟨_,rfl,ac.yes (beq_self_eq_true (str [50,52,57,51,48]).toList) ⟨rfl,?_⟩⟩;have h5:=b4.trans (b5.mono b4.size);have h7:=(ae h5 b6).trans (t7.below (by have:=b4.size;omega) (ae h5 b6).size);have h9:=h7.trans (b9.mono h7.size);have h10:=h9.trans (t10.below (by have:=b4.size;omega) h9.size);have h11:=h10.trans (b11.mono h10.size);have h12:=h11.trans (b12.mono h11.size);exact b2.trans (h12.mono b2.size)
theorem sS:∀ {ms:List (Int×Int)} {es T:List aP} {i:Nat},cd es i ms= .ok T→T.length=es.length+ms.length
 | [],es,T,i,h=>by
  rw [cd]at h;cases h;rfl
 |m::r,es,T,i,h=>by
  rw [cd]at h;cases hq:bV es m with
  |error n=>rw [hq]at h;cases h
  |ok x=>
   rw [hq]at h;have:=sS h;simp only [List.length_append,List.length_cons,List.length_nil]at this⊢;omega
theorem uz (l:List Int):∀i,(fT l i).length≤256+i
 |0=>by show aK.length≤256;simp [aK]
 |i+1=>by
  have ih:=uz l i;rw [fT];split
  ·unfold zd;split
   ·rw [List.length_append,List.length_singleton];omega
   ·omega
  ·omega
theorem D9 {ls:List Int} {cs:List (Int×Int×Int)} {js:List (Int×Int)} {xs:List (Int×Bs)} {T:List aP} (h:dx (someV ls cs js xs)= .ok T):T.length≤286:=by
 have h1:=sS (qe h rfl).1;have h2:(someV ls cs js xs).merges.length=(fT ls 30).length-256:=by
  show(ao (fT ls 30)).length=_;simp [ao]
 have h3:=uz ls 30;have h4:aK.length=256:=by simp [aK]
 omega
theorem eL.touch {w w':World} {a g:Nat} {M:Aut} (h:eL w a g M) {b:Nat} {c:Array Value} {e:TypeId} {fz:Nat×Nat} (hb:w.heap[b]? =some (.cells c e fz)) (t:ap b w w') (n1:a≠b) (n2:aV≠e) (n3:cJ≠e) (n4:bS≠e):eL w' a g M:=by
 obtain⟨o,next,good,of,rs,d,h1,h2,h3⟩:=h;have own:∀ {B sz n:Nat} {t:TypeId} {u:Value} {xs:List Value},w.ownsRow B t sz u n xs→t≠e→w'.ownsRow B t sz u n xs:=fun ho hne=>eP hb t ho hne;refine⟨o,next,good,of,rs,d,t.held n1 h1,⟨own h2.onx n3,h2.rl,fun i r hi=>own (h2.each i r hi) n2,own h2.ogd n4,h2.ok⟩,?_⟩;cases o with
 |none=>exact h3
 |some f=>exact⟨h3.1,h3.2.1,h3.2.2.1,own h3.2.2.2 n2⟩
theorem cD.skip {w w':World} {c b g L:Nat} {M:Aut} {s:ar} {T:List aP} (h:cD w w 0 c b g L M s T) {x:Nat} {cc:Array Value} {e:TypeId} {fz:Nat×Nat} (hb:w.heap[x]? =some (.cells cc e fz)) (t:ap x w w') (nc:c≠x) (na:b≠x) (n1:rA≠e) (n2:aV≠e) (n3:nQ≠e) (n4:gR≠e) (n5:cJ≠e) (n6:bS≠e) (n7:il≠e) (n8:bU≠e) (n9:e≠dB):cD w' w' 0 c b g L M s T:=by
 obtain⟨d,l,hx,hc⟩:=h.cnt;refine⟨ap.of_below (Below.refl _ _),⟨h.on0.aut.touch hb t na n2 n5 n6,h.on0.grid.past hb t.block n1 n2 n3 n4⟩,⟨_,_,t.held nc hx⟩,d,l,t.held nc hx,hc.imp id fun⟨e1,B,hB⟩=>⟨e1,B,.inl ?_⟩⟩;rcases hB with hB |⟨_,hB⟩<;>exact hB.past hb t n7 n8 n9
structure Hr (w:World) (c b g L:Nat) (y:mR) (s:ar) (T:List aP) (f:Nat→Nat):Prop where
 cls:Aut.Cls (dg s T) f
 code:∃b1,cD w w 0 c b1 g L (Aut.least (dg s T) f) s T
 aut:eL w b g (Aut.least (dg s T) f)
 base:∃w0,fY w0 y s T∧w0.heap.size≤c∧Below w0.heap.size w0 w
 n:gN s T≤292
 pos:0<gN s T
 rise:nU s T
 ok:fW T
 vok:(az s T).Ok
set_option maxHeartbeats 1000000 in
theorem wI (w:World) (y:Fm) (ls:List Int) (cs:List (Int×Int×Int)) (js:List (Int×Int)) (xs:List (Int×Bs)) (h:xL w y ls cs js xs) (L:Nat) (hL:L≤39):
  CP 36 #[y.v,.int .i64 (L:Int)] w fun e w'=>∃c b g r s T f,e= .returned (.tuple #[.pointer (some ⟨c,0,none⟩),.pointer (some ⟨b,0,none⟩),.pointer (some ⟨g,0,none⟩),r.v])∧Hr w' c b g L r s T f∧Below w.heap.size w w'∧w.heap.size≤c:=by
 refine aO (Co y.l.a y.l.n y.l.c y.c.a y.c.n y.c.c y.j.a y.j.n y.j.c y.x.a y.x.n y.x.c (L:Int) w) ?_;intro w1 hw1 w2 hw2;have hb1:Below w.heap.size w w1:=by subst hw1;exact af _ _
 have b2:Below w1.heap.size w1 w2:=by subst hw2;exact af _ _
 have hb2:=ae hb1 b2;have l2:w2.heap[w.heap.size]? =some (.cells y.cells Lx (0,0)):=ag b2 (by subst hw1;exact ak _ _);have z2:w2.heap[w1.heap.size]? =some (.cells Ea.cells Ds (0,0)):=by subst hw2;exact ak _ _
 have lt1:w.heap.size<w1.heap.size:=by subst hw1;rw [av];omega
 refine⟨_,_,_,_,_,_,_,_,_,_,_,_,LS l2,?_⟩;refine(zr w2 y ls cs js xs (h.on hb2)).mono ?_;rintro e w3 ⟨u,rfl,v,r,s,T,rfl,hB3,hv,b3,hs,hT⟩;have hlen:T.length≤286:=by rw [hs]at hT;exact D9 hT
 have hb3:=ae hb2 b3;refine⟨_,_,_,_,_,_,_,_,_,_,_,_,_,_,_,_,rfl,?_⟩;intro w4 hw4;refine aX (oX Ea) (oX r) rfl (jK r) w4 hw4 ?_;intro w5 h5 hz5 b5;have hB:=hB3.on b5;have hb5:=ae hb3 b5;have z5:=ag (ae b3 b5) z2;have hz2:=hb2.size;obtain⟨hl,hsq⟩:=F3 hB;refine(nv w5 v s T hB.voc hB.asc 1048576).mono ?_;rintro e w6 ⟨u,rfl,hV6,t6,hu⟩;rw [if_neg (by omega)]at hu;obtain⟨g,rfl,hG,hg⟩:=hu;have hvl:w2.heap.size≤v:=hv;have lt2:w1.heap.size<w2.heap.size:=(QV.1 z2).1;have b56:Below w2.heap.size w5 w6:=t6.below hvl (ae b3 b5).size;have hb6:Below w.heap.size w w6:=hb5.trans (b56.mono hz2);have z6:w6.heap[w1.heap.size]? =some (.cells Ea.cells Ds (0,0)):=(b56.block _ lt2).trans z5;have h6:=t6.held (by have:=hB3.voc.lt;omega) h5;have hR6:=hB.rv w6 t6;have hrise:nU s T:=kN hB.asc (by
  obtain⟨w0',x,tp,bp,mp,d,l,uses,hR⟩:=hB.voc;exact hR.now.ids)
 have hn:gN s T≤292:=by
  have:=hB.few;unfold gN;rw [ew];omega
 have hn2:gN s T≤1032:=by omega
 have hmost:¬(((gN s T+2)*gN s T:Nat):Int)>1048576:=by
  have:(gN s T+2)*gN s T≤294*292:=Nat.mul_le_mul (by omega) hn;omega
 have hok:=hB.now.ok;refine⟨_,_,rfl,(tT w6 g s T hG (by omega) hrise 1048576).mono ?_⟩;rintro e w7 ⟨b7,_,hu⟩;obtain⟨a,rfl,ha,o,hA⟩:=hu hmost;refine⟨_,_,rfl,(lh w7 a g _ o hA (by show gN s T+2≤10000;omega) (by show gN s T≤10000;omega)).mono ?_⟩;rintro e w8 ⟨b,f,rfl,_,hc,hb,hA8,hab,t8⟩;have hF:=oU hn2 hrise hc;have hfew:=uH hn2 hc;have b68:Below w6.heap.size w6 w8:=b7.trans (t8.below ha b7.size);refine⟨_,rfl,(oD w8 b g _ s T ⟨hb,hG.on b68⟩ hF (L:Int)).mono ?_⟩;rintro e w9 ⟨b9,_,_,hu⟩;obtain⟨M,hM⟩:∃M,M=Aut.least (dg s T) f:=⟨_,rfl⟩;rw [←hM]at hF hfew hb hu;obtain⟨c,rfl,hcs,hC⟩:=hu (by omega) (by
  have:L*M.N≤39*294:=Nat.mul_le_mul hL (by omega);have e:(L:Int)*(M.N:Int)=((L*M.N:Nat):Int):=by push_cast;rfl
  rw [e];omega)
 have hA7:=hA.lt;have hz8:=t8.size;have hz68:=b68.size;refine⟨_,_,rfl,ac.no rfl (ac.no rfl (ac.no rfl ?_))⟩;intro w10 hw10;have b10:Below w9.heap.size w9 w10:=by subst hw10;exact aI w9
 have b8_10:=ae b9 b10;have h7:=ag b7 h6;have w5lt:w3.heap.size<w6.heap.size:=(QV.1 h6).1;have h8:=t8.held (by omega) h7;have h10:=ag b8_10 h8;refine⟨_,_,_,_,_,_,_,_,_,_,_,_,_,_,_,ko (x:=r) h10,?_⟩;refine(lh w10 a g _ (some f) (hA8.on b8_10) (by show gN s T+2≤10000;omega) (by show gN s T≤10000;omega)).mono ?_;rintro e w11 ⟨b',f',rfl,hff,_,hb',_,hab',t11⟩;obtain rfl:=hff f rfl;rw [←hM]at hb';have h11:=t11.held (by omega) h10;have hcl:=hC.lt;have hA10:=(hA8.on b8_10);obtain⟨nx,gd,of,rs,d,ha10,_⟩:=hA10;have hz10:=b8_10.size;have hC11:=((hC.then b10).now 0).skip ha10 t11 (by omega) (by omega) (by decide) (by decide) (by decide) (by decide) (by decide) (by decide) (by decide) (by decide) (by decide);have b6_10:Below w6.heap.size w6 w10:=b68.trans (b8_10.mono hz68);have b6_11:Below w6.heap.size w6 w11:=b6_10.trans (t11.below ha b6_10.size);have z11:=ag b6_11 z6;refine⟨_,rfl,ko (x:=r) h11,?_⟩;refine aW z11 (oX r) rfl (jK r) ?_;intro w12 h12 hs12 hz12 hB12;have t12:=cM hB12 hs12 hz12;have hb12:Below w.heap.size w w12:=hB12 _ _ (Nat.le_of_lt lt1) (hb6.trans (b6_11.mono hb6.size));have h61:w1.heap.size<w6.heap.size:=(QV.1 z6).1;refine⟨_,_,_,_,_,_,_,_,_,_,_,_,_,_,_,ko (x:=r) h12,c,b',g,r,s,T,f',rfl,⟨hc,⟨b,?_⟩,?_,?_,hn,?_,hrise,hok,hB.now.vok⟩,hb12,by have:=hb6.size;omega⟩
 ·rw [←hM];exact hC11.skip z11 t12 (by omega) (by omega) (by decide) (by decide) (by decide) (by decide) (by decide) (by decide) (by decide) (by decide) (by decide)
 ·rw [←hM];exact hb'.touch z11 t12 (by omega) (by decide) (by decide) (by decide)
 ·let w0:World:={w6 with heap:=w6.heap.setIfInBounds w1.heap.size (.cells (oX r).toArray Ds (0,0))};have hz0:w0.heap.size=w6.heap.size:=by simp [w0]
  have same:∀j,j≠w1.heap.size→w0.heap[j]? =w6.heap[j]? :=fun j hj=>by
   show(w6.heap.setIfInBounds w1.heap.size _)[j]? =_;rw [Array.getElem?_setIfInBounds_ne (fun e=>hj e.symm)]
  refine⟨w0,hR6.past z6 (oH Ea) (fun j _ hj=>same j hj) (Nat.le_of_eq hz0.symm),by rw [hz0];omega,?_⟩;have hB9':=hB12 0 w11 (Nat.zero_le _) (Below.refl _ _);refine⟨hB9'.os.trans b6_11.os,hB9'.tape.trans b6_11.tape,hB9'.output.trans b6_11.output,by rw [hz0,hz12];exact b6_11.size,fun k hk=>?_⟩;rw [hz0]at hk;by_cases e:k=w1.heap.size
  ·subst e;rw [h12];show _=(w6.heap.setIfInBounds w1.heap.size _)[w1.heap.size]?
   rw [Array.getElem?_setIfInBounds_self_of_lt h61]
  ·rw [same k e,hs12 k e];exact b6_11.block k hk
 ·have:=hok.len;unfold gN;rw [ew];omega
theorem Mb {n:Int} (h:(Lit.int .u8 n).wf=true):0≤n∧n<256:=by
 have h:(decide ((0:Int)≤n)&&decide (n≤255))=true:=h;rw [Bool.and_eq_true,decide_eq_true_eq,decide_eq_true_eq]at h;omega
theorem N7 (m:Nat) (d:Nat) (hd:0<d) (hd2:d≤1000):IntKind.wrap .i64 (Int.tmod (m:Int) (d:Int))=((m%d:Nat):Int):=by
 have h1:Int.tmod (m:Int) (d:Int)=((m%d:Nat):Int):=rfl;have h2:=Nat.mod_lt m hd;rw [h1,cZ (k:=.i64) (by simp [IntKind.min,IntKind.signed,IntKind.bits];omega) (by simp [IntKind.max,IntKind.signed,IntKind.bits];omega)]
theorem tY (x:Int):ku x x=0:=by
 unfold ku;rw [if_neg (by omega),if_neg (by omega)]
theorem CF {M:Aut} (hn:M.n≤1032) {k L:Nat} (hk:k≤L) (s:Nat):Aut.goN M k s≤1032^L:=
 QU (Aut.goN_le k s) (QU (Nat.pow_le_pow_left hn k) (Nat.pow_le_pow_right (by decide) hk))
theorem LD {M:Aut} (hn:M.n≤1032) {k L:Nat} (hk:k≤L) (hL:L≤100) (s:Nat):(dY 4294967296 (Aut.goN M k s)).length≤200:=
 QU (ow (L:=L) (QU (CF hn hk s) (QU (Nat.pow_le_pow_right (by decide) (Nat.le_succ L)) (Nat.le_mul_of_pos_left _ (by omega)))) (by omega)) (by omega)
theorem pU {q q':World} {b:Nat} (hg:q.grownBy q' (some b)):ap b q q':=⟨hg.os,hg.tape,hg.output,hg.size,fun k hk hn=>hg.block k hk fun e=>hn (Option.some.inj e)⟩
theorem pG {q q':World} (hg:q.grownBy q' none):Below q.heap.size q q':=⟨hg.os,hg.tape,hg.output,hg.size,fun k hk=>hg.block k hk (by simp)⟩
theorem cD.grown {w0 q q':World} {hi c a g L:Nat} {M:Aut} {s:ar} {T:List aP} (h:cD w0 q hi c a g L M s T) {row:Option Nat} (hg:q.grownBy q' row) (hr:∀b,row=some b→w0.heap.size≤b∧∃cc e fz,q.heap[b]? =some (.cells cc e fz)∧il≠e∧bU≠e∧e≠dB):cD w0 q' hi c a g L M s T:=by
 obtain⟨d,l,hx,hc⟩:=h.cnt;have hlt:=h.lt;have hsz:=h.t.size;have hne:some c≠row:=fun e=>by
  have:=(hr c e.symm).1;omega
 refine⟨⟨hg.os.trans h.t.os,hg.tape.trans h.t.tape,hg.output.trans h.t.output,QU h.t.size hg.size,fun k hk hne2=>(hg.block k (Nat.lt_of_lt_of_le hk h.t.size) fun e=>by have:=(hr k e.symm).1;omega).trans (h.t.block k hk hne2)⟩,h.on0,h.typ,d,l,(hg.block c (by omega) hne).trans hx,hc.imp id fun⟨e1,B,hB⟩=>⟨e1,B,hB.imp id fun⟨h1,h2⟩=>⟨h1,?_⟩⟩⟩;cases row with
 |none=>exact h2.on (pG hg)
 |some b=>
  obtain⟨_,cc,e,fz,hb,n1,n2,n3⟩:=hr b rfl;exact h2.past hb (pU hg) n1 n2 n3
theorem cD.box2 {w0 q q':World} {hi c a g L b:Nat} {M:Aut} {s:ar} {T:List aP} (h:cD w0 q hi c a g L M s T) {cc:Array Value} {e:TypeId} {fz:Nat×Nat} (hb:q.heap[b]? =some (.cells cc e fz)) (h1:w0.heap.size≤b) (n1:il≠e) (n2:bU≠e) (n3:e≠dB) (t:ap b q q'):cD w0 q' hi c a g L M s T:=
 h.grown (row:=some b) ⟨t.os,t.tape,t.output,t.size,fun k hk hn=>t.block k hk fun e=>hn (by rw [e])⟩ fun b' e'=>by cases e';exact⟨h1,cc,e,fz,hb,n1,n2,n3⟩
theorem aZ.grown {q q':World} {l:Sl} {n:Nat} (h:aZ q l n) {row:Option Nat} (hg:q.grownBy q' row) (hr:∀b,row=some b→∃cc e fz,q.heap[b]? =some (.cells cc e fz)∧e≠dB):aZ q' l n:=by
 cases row with
 |none=>exact h.on (pG hg)
 |some b=>
  obtain⟨cc,e,fz,hb,n3⟩:=hr b rfl;exact h.past hb n3 (pU hg)
theorem qG {w:World} {B sz n:Nat} {e:TypeId} {v:Value} {xs:List Value} (h:w.ownsRow B e sz v n xs) {b:Nat} (hb:v.ownBlock=some b):B≤b∧∃cc fz,w.heap[b]? =some (.cells cc e fz):=by
 rcases h.2 with⟨rfl,_⟩ |⟨g,cap,cur,rfl,h1,h2,_⟩
 ·cases hb
 ·cases hb;exact⟨h1,_,_,h2⟩
theorem Gz {q:World} {b:Nat} {x s:Sl} {K:World→Prop} (h:q.heap[b]? =some (.cells #[x.v] cJ (0,0))) (hk:∀q',q'.heap[b]? =some (.cells #[s.v] cJ (0,0))→ap b q q'→K q'):
  s.v.oneCell'=true∧(∃u,q.cell? ⟨b,0,none⟩=some u)∧q.frozen? ⟨b,0,none⟩=false∧∀q',q'=q.setCell ⟨b,0,none⟩ s.v→K q':=
 dS (aW h [s.v] rfl (fun v hv=>by rw [List.mem_singleton.1 hv];rfl) fun q' h1 h2 h3 h4=>hk q' h1 (cM h4 h2 h3))
structure nX (w q:World) (hi B c a g L:Nat) (M:Aut) (s:ar) (T:List aP) (Kb Ob Sb rest st:Nat) (ids:List Int):Prop where
 code:cD w q hi c a g L M s T
 hhi:hi≤q.heap.size
 hB:B≤q.heap.size
 num:∃l:Sl,q.heap[Kb]? =some (.cells #[l.v] bU (0,0))∧aZ q l rest
 state:q.heap[Sb]? =some (.cells #[.int .i64 (st:Int)] aV (0,0))
 out:∃l:Sl,q.heap[Ob]? =some (.cells #[l.v] cJ (0,0))∧l.n=ids.length∧q.ownsRow B aV 1 l.v l.n (ids.flatMap aC)
section
variable {w q q':World} {hi B c a g L:Nat} {M:Aut} {s:ar} {T:List aP} {Kb Ob Sb rest st:Nat} {ids:List Int}
theorem nX.from (h:nX w q hi B c a g L M s T Kb Ob Sb rest st ids) (f:lY q q' c a g L M) (t:ap c q q') (n1:Kb≠c) (n2:Ob≠c) (n3:Sb≠c):nX w q' hi B c a g L M s T Kb Ob Sb rest st ids:=by
 obtain⟨l,h1,h2⟩:=h.num;obtain⟨o,h3,h4,h5⟩:=h.out;obtain⟨d,lc,hx,_⟩:=h.code.cnt;exact⟨f.code h.code h.hhi t,QU h.hhi t.size,QU h.hB t.size,⟨l,t.held n1 h1,h2.past hx (by decide) t⟩,t.held n3 h.state,⟨o,t.held n2 h3,h4,eP hx t h5 (by decide)⟩⟩
theorem nX.on (h:nX w q hi B c a g L M s T Kb Ob Sb rest st ids) (hb:Below q.heap.size q q'):nX w q' hi B c a g L M s T Kb Ob Sb rest st ids:=by
 obtain⟨l,h1,h2⟩:=h.num;obtain⟨o,h3,h4,h5⟩:=h.out;exact⟨h.code.then hb,QU h.hhi hb.size,QU h.hB hb.size,⟨l,ag hb h1,h2.on hb⟩,ag hb h.state,⟨o,ag hb h3,h4,aB h5 hb⟩⟩
set_option maxHeartbeats 1000000 in
theorem Fe (h:nX w q hi B c a g L M s T Kb Ob Sb rest st ids) (k1:w.heap.size≤Kb) (k2:Kb<hi) (o1:w.heap.size≤Ob) (o2:Ob<B) (s1:w.heap.size≤Sb) (s2:Sb<B) (n1:Kb≠Ob) (n2:Kb≠Sb) (n3:Ob≠Sb) (k3:Kb<B) (hil:ids.length≤100000) (id:Int) (nx:Nat) (r:Sl) (v:Nat) (hr:aZ q r v) (d1:(dY 4294967296 rest).length≤100000) (d2:(dY 4294967296 v).length≤100000):
  bF gE (.func (.func 96) #[] #[.pointer (some ⟨Kb,0,none⟩),.pointer (some ⟨Ob,0,none⟩),.pointer (some ⟨Sb,0,none⟩)]) [.int .i64 id,.int .i64 (nx:Int),.agg #[r.v]] q fun e q2=>∃b:Bool,e= .returned (.bool b)∧(b=true→rest<v∧nX w q2 hi B c a g L M s T Kb Ob Sb rest nx (ids++ [id]))∧(b=false→v≤rest∧nX w q2 hi B c a g L M s T Kb Ob Sb (rest-v) st ids):=by
 refine bT (by kernel_rfl) ?_;refine aO (Cg id (nx:Int) r.a r.n r.c (some ⟨Kb,0,none⟩) (some ⟨Ob,0,none⟩) (some ⟨Sb,0,none⟩) q) ?_;intro w1 hw1;have b1:Below q.heap.size q w1:=by subst hw1;exact af _ _
 have x1:w1.heap[q.heap.size]? =some (.cells #[r.v] bU (0,0)):=by subst hw1;exact ak _ _
 have h1:=h.on b1;obtain⟨l,hl,hN⟩:=h1.num;refine ah.mk _ rfl ⟨_,_,_,aH hl,_,_,_,aH x1,(As w1 l r rest v hN (hr.on b1) d1 d2).mono ?_⟩;rintro e w2 ⟨y,rfl,hy,b2⟩;refine⟨_,_,_,_,rfl,?_⟩;intro w3 hw3;have b3:Below w2.heap.size w2 w3:=by subst hw3;exact af _ _
 have x3:w3.heap[w2.heap.size]? =some (.cells #[bO.v] bU (0,0)):=by subst hw3;exact ak _ _
 refine cq (s:=y) x3 fun w4 x4 N4 B4 _ _=>?_;have b4:=B4 _ _ (Q0 _) b3;have h4:=(h1.on b2).on b4;have hy4:=N4 _ _ (hy.on b3);refine ac.mk (fun hv=>?_) fun hv=>?_
 ·have hv:rest<v:=by simpa using hv
  obtain⟨lo,hlo,hln,hown⟩:=h4.out;refine ah.mk _ rfl ⟨_,_,_,aL hlo,?_⟩;intro w5 hw5;obtain⟨a',c',w6,hrun,hown6,hg,_⟩:=nD (P:=Tryz.prog) cJ aV (z:=.int .i64 0) (size:=1) (bytes:=8) (by kernel_rfl) (by kernel_rfl) rfl (by decide) hown [.int .i64 id] rfl (fun u hu=>by rw [List.mem_singleton.1 hu];rfl) (by omega) (by omega) h4.hB;have b5:Below w4.heap.size w4 w5:=by subst hw5;exact af _ _
  have h5:=h4.on b5;have hg5:w5.grownBy w6 lo.v.ownBlock:=by rw [hw5];exact hg
  have hown5:=aB hown b5;refine⟨a',lo.n+1,c',w6,by rw [hw5];exact hrun,ah.mk _ rfl ?_⟩;have hz5:=h5.hB;have blk:∀ {k:Nat} {o:Obj},k<B→w5.heap[k]? =some o→w6.heap[k]? =some o:=fun hk ho=>(hg5.block _ (by omega) fun e=>by have:=(qG hown5 e.symm).1;omega).trans ho;have hC6:=h5.code.grown hg5 fun b hb=>by
   obtain⟨g1,cc,fz,g2⟩:=qG hown5 hb;exact⟨by omega,cc,_,fz,g2,by decide,by decide,by decide⟩
  obtain⟨l5,hl5,hN5⟩:=h5.num;have hN6:=hN5.grown hg5 fun b hb=>by
   obtain⟨g1,cc,fz,g2⟩:=qG hown5 hb;exact⟨cc,_,fz,g2,by decide⟩
  have hl6:=blk k3 hl5;have hs6:=blk s2 h5.state;have ho6:=blk o2 (ag b5 hlo);have hzz:=hg5.size;have ob6:∀k,k<B→(Value.slice a' (lo.n+1) c').ownBlock≠some k:=fun k hk e=>by have:=(qG hown6 e).1;omega
  refine kr (n:=(nx:Int)) hs6 fun w7 x7 t7 B7=>ah.mk _ rfl (Gz (s:=⟨a',lo.n+1,c'⟩) (t7.held n3 ho6) fun w8 x8 t8=>⟨true,rfl,fun _=>⟨hv,?_⟩,fun h=>(by cases h)⟩);have g7:=t7.size;have g8:=t8.size;have g6:=h5.hhi;have ho7:=t7.held n3 ho6;refine⟨(hC6.box2 hs6 s1 (by decide) (by decide) (by decide) t7).box2 ho7 o1 (by decide) (by decide) (by decide) t8,by omega,by omega,⟨l5,t8.held n1 (t7.held n2 hl6),(hN6.past hs6 (by decide) t7).past ho7 (by decide) t8⟩,t8.held (Ne.symm n3) x7,⟨⟨a',lo.n+1,c'⟩,x8,by show lo.n+1=_;rw [hln,List.length_append];rfl,?_⟩⟩;have:=t8.own (t7.own hown6 (ob6 _ s2)) (ob6 _ o2);rw [List.flatMap_append];exact this
 ·have hv:v≤rest:=by simpa using hv
  obtain⟨l4,hl4,hN4⟩:=h4.num;refine⟨_,_,_,aH x4,ah.mk _ rfl (cq (s:=y) hl4 fun w5 x5 N5 B5 hs5 hz5=>⟨false,rfl,fun h=>(by cases h),fun _=>⟨hv,?_⟩⟩)⟩;have t:=cM B5 hs5 hz5;obtain⟨lo,hlo,hln,hown⟩:=h4.out;have hh:=h4.hhi;have hh2:=h4.hB;exact⟨h4.code.box hl4 k1 k2 (by decide) t,by omega,by omega,⟨y,x5,N5 _ _ hy4⟩,t.held (Ne.symm n2) h4.state,⟨lo,t.held (Ne.symm n1) hlo,hln,eP hl4 t hown (by decide)⟩⟩
end
def dm (s:ar) (T:List aP) (ks:List Nat):List Int:=ks.map fun k=>(bD s T).getD k 0
theorem jN (s:ar) (T:List aP) (ks:List Nat):(dm s T ks).length=ks.length:=List.length_map _
def Qe (w0 w':World) (M:Aut) (s:ar) (T:List aP) (L:Nat) (n:Int) (kv:Nat) (l:Sl) (z:Int):Prop:=
 ((n<0∨(L:Int) <n)→z=3∧l=bO)∧(0≤n→n≤(L:Int)→(Aut.goN M n.toNat 0≤kv→z=7∧l=bO)∧(kv<Aut.goN M n.toNat 0→z=0∧∃ks:List Nat,ks.length=n.toNat∧Aut.Way M 0 ks∧Aut.rk M 0 ks=kv∧l.n=ks.length∧w'.ownsRow w0.heap.size aV 1 l.v l.n ((dm s T ks).flatMap aC)))
theorem uV (x y:Nat):ku (x:Int) (y:Int)≥0↔y≤x:=by
 unfold ku;split
 ·omega
 ·split<;>omega
set_option maxHeartbeats 4000000 in
theorem ke (w:World) (c a g L:Nat) (M:Aut) (s:ar) (T:List aP) (h:cD w w 0 c a g L M s T) (hF:fH M s T) (hL:L≤1000) (n:Int) (k:Sl) (kv:Nat) (hk:aZ w k kv) (hd:(dY 4294967296 kv).length≤100000):
  CP 50 #[.pointer (some ⟨c,0,none⟩),.int .i64 n,.agg #[k.v]] w fun e w'=>∃(l:Sl) (z:Int),e= .returned (.tuple #[l.v,.int .i64 z])∧Qe w w' M s T L n kv l z∧cD w' w' 0 c a g L M s T∧ap c w w':=by
 refine aO (A0 (some ⟨c,0,none⟩) n k.a k.n k.c w) ?_;have hMn:=hF.n;have hfew:=hF.few;have hpos:=hF.ok.pos;intro w1 hw1;have b1:Below w.heap.size w w1:=by subst hw1;exact af _ _
 have z1:w1.heap.size=w.heap.size+1:=by subst hw1;exact av _ _
 have x1:w1.heap[w.heap.size]? =some (.cells #[k.v] bU (0,0)):=by subst hw1;exact ak _ _
 have h1:=h.then b1;have hclt:=h.lt;obtain⟨d,lc,hx,_⟩:=h1.cnt;refine ac.no rfl (ac.mk (fun c1=>?_) fun c1=>ah.mk _ rfl ⟨_,aj _ _ hx 2,ac.mk (fun c2=>?_) fun c2=>?_⟩)
 ·have c1:=QQ c1;exact⟨bO,3,rfl,⟨fun _=>⟨rfl,rfl⟩,fun h=>by omega⟩,h1.now 0,ap.of_below b1⟩
 ·have c2:=QQ c2;exact⟨bO,3,rfl,⟨fun _=>⟨rfl,rfl⟩,fun _ h=>by omega⟩,h1.now 0,ap.of_below b1⟩
 have c1:=QX c1;have c2:=QX c2;obtain⟨m,rfl⟩:∃m:Nat,n=(m:Int):=⟨n.toNat,by omega⟩;have hmL:m≤L:=by omega
 intro w2 hw2;have b2:Below w1.heap.size w1 w2:=by subst hw2;exact aI w1
 have b12:=ae b1 b2;have hC2:=((h.now w1.heap.size).then b1).then b2;refine⟨_,_,_,aH (ag b2 x1),(fP w w2 w1.heap.size c a g L M s T hC2 hF (by omega) (m:Int)).mono ?_⟩;rintro e w3 ⟨r,rfl,hNr,hf,t3⟩;have hC3:=hf.code hC2 b2.size t3;have hcnt:fV M L 0 (m:Int)=Aut.goN M m 0:=by
  unfold fV;rw [if_pos (by omega)];rfl
 rw [hcnt]at hNr;obtain⟨d2,lc2,hx2,_⟩:=hC2.cnt;have hk3:aZ w3 k kv:=(hk.on b12).past hx2 (by decide) t3;have x3:=t3.held (by omega) (ag b2 x1);have hMn2:M.n≤1032:=by omega
 have dgo:∀(i st:Nat),i≤L→(dY 4294967296 (Aut.goN M i st)).length≤2000:=fun i st hi=>
  QU (ow (L:=L) (QU (CF hMn2 hi st) (QU (Nat.pow_le_pow_right (by decide) (Nat.le_succ L)) (Nat.le_mul_of_pos_left _ (by omega)))) (by omega)) (by omega)
 refine⟨_,_,_,rfl,aH x3,(dR w3 k r kv _ hk3 hNr hd (QU (dgo m 0 hmL) (by decide))).mono ?_⟩;rintro e w4 ⟨rfl,b4⟩;have hC4:=hC3.then b4;have x4:=ag b4 x3;have hk4:=hk3.on b4;have t14:ap c w w4:=hC4.t;refine⟨_,rfl,ac.mk (fun c3=>?_) fun c3=>?_⟩
 ·have c3:=(uV _ _).1 (QQ c3);exact⟨bO,7,rfl,⟨fun h=>by omega,fun _ _=>⟨fun _=>⟨rfl,rfl⟩,fun h=>by have:kv<Aut.goN M m 0:=h;omega⟩⟩,hC4.now 0,t14⟩
 have c3:kv<Aut.goN M m 0:=Nat.lt_of_not_le fun h=>QX c3 ((uV _ _).2 h);intro w5 hw5 w6 hw6;have b5:Below w4.heap.size w4 w5:=by subst hw5;exact af _ _
 have b6:Below w5.heap.size w5 w6:=by subst hw6;exact af _ _
 have z5:w5.heap.size=w4.heap.size+1:=by subst hw5;exact av _ _
 have z6:w6.heap.size=w5.heap.size+1:=by subst hw6;exact av _ _
 have x5:w6.heap[w4.heap.size]? =some (.cells #[bO.v] cJ (0,0)):=ag b6 (by subst hw5;exact ak _ _);have x6:w6.heap[w5.heap.size]? =some (.cells #[.int .i64 0] aV (0,0)):=by subst hw6;exact ak _ _
 have b56:=ae b5 b6;have hz2:=b2.size;have hz3:=t3.size;have hz4:=b4.size;refine kr (n:=0) x6 fun w7 x7 t7 B7=>?_;have b7:Below w4.heap.size w4 w7:=B7 _ _ (by omega) b56;have hz7:=t7.size;refine Ar.ok64 (by omega) (by omega) ?_;have U0:nX w w7 w1.heap.size w6.heap.size c a g L M s T w.heap.size w4.heap.size w5.heap.size kv 0 (dm s T []):=
  ⟨hC4.then b7,by omega,hz7,⟨k,ag b7 x4,hk4.on b7⟩,x7,⟨bO,t7.held (by omega) x5,rfl,c_ _ _ _ _⟩⟩
 intro I hI;have key:=aU (α:=World) m (fun i q=>∃(ks:List Nat) (rest:Nat),ks.length=i∧Aut.Way M 0 ks∧nX w q w1.heap.size w6.heap.size c a g L M s T w.heap.size w4.heap.size w5.heap.size rest (ks.foldl M.nxt 0) (dm s T ks)∧Aut.pre M m 0 ks+rest=kv∧rest<Aut.goN M (m-i) (ks.foldl M.nxt 0)) (fun i q=>I [.int .i64 ((m:Int)-1- (i:Int))] q) w7 ⟨[],kv,rfl,trivial,U0,Nat.zero_add _,c3⟩ ?_ ?_
 ·rw [show(m:Int)-1- ((0:Nat):Int)=(m:Int)-1 by omega]at key;exact key
 ·rintro i hi ih q ⟨ks,rest,hkl,hway,hU,hpre,hrest⟩;obtain⟨st,hst⟩:∃st,st=ks.foldl M.nxt 0:=⟨_,rfl⟩;rw [←hst]at hU hrest;have hstN:st<M.N:=by
   rw [hst];have:∀(u:List Nat) (x:Nat),x<M.N→Aut.Way M x u→u.foldl M.nxt x<M.N:=by
    intro u;induction u with
    |nil=>exact fun x hx _=>hx
    |cons j u ih=>exact fun x hx hw=>ih _ (hF.ok.lt _ _ hx hw.1) hw.2.2
   exact this ks 0 hpos hway
  obtain⟨left,hleft⟩:∃left,left=m-1-i:=⟨_,rfl⟩;have eI:(m:Int)-1- (i:Int)=(left:Int):=by omega
  rw [show m-i=left+1 by omega,Aut.goN_succ]at hrest;obtain⟨j,hj,hj1,hj2⟩:=Aut.pick hrest;rw [hMn]at hj;have hvj:0<Aut.via M left st j:=by
   have:Aut.sumN (Aut.via M left st) (j+1)=Aut.sumN (Aut.via M left st) j+Aut.via M left st j:=rfl;omega
  have hgj:M.good (M.nxt st j)=true:=by
   cases hg:M.good (M.nxt st j)with
   |true=>rfl
   |false=>
    unfold Aut.via at hvj;rw [hg]at hvj;exact absurd hvj (by simp)
  have hkv:rest≤kv:=by omega
  have drest:∀x,x≤rest→(dY 4294967296 x).length≤100000:=fun x hx=>QU (ju (by decide) (QU hx hkv)) hd;rw [eI];refine hI _ q (ac.yes (QY (by omega)) ⟨_,aL hU.state,?_⟩);refine(jB w w1.heap.size c a g L M s T hF (by omega) st left hstN (by omega) _ q (fun k q'=>k≤j∧nX w q' w1.heap.size w6.heap.size c a g L M s T w.heap.size w4.heap.size w5.heap.size (rest-Aut.sumN (Aut.via M left st) k) st (dm s T ks)) (fun q'=>nX w q' w1.heap.size w6.heap.size c a g L M s T w.heap.size w4.heap.size w5.heap.size (rest-Aut.sumN (Aut.via M left st) j) (M.nxt st j) (dm s T ks++ [(bD s T).getD j 0])) ⟨Nat.zero_le _,hU⟩ (fun k q' h=>h.2.code) ?_ ?_).mono ?_
  ·rintro k q' hk ⟨h1,h3⟩ hb;have hv0:Aut.via M left st k=0:=by unfold Aut.via;rw [hb];rfl
   have:k≠j:=fun e=>by rw [e]at hv0;omega
   refine⟨by omega,?_⟩;show nX w q' _ _ c a g L M s T _ _ _ (rest- (Aut.sumN (Aut.via M left st) k+Aut.via M left st k)) st _;rw [hv0];exact h3
  ·rintro k q1 hk ⟨h1,h3⟩ hgk r1 q2 hf1 ht1 hNr1;have h4:=h3.from hf1 ht1 (by omega) (by omega) (by omega);have hle:Aut.sumN (Aut.via M left st) k≤rest:=QU (Aut.sumN_mono h1) hj1;have hvk:Aut.via M left st k=Aut.goN M left (M.nxt st k):=by unfold Aut.via;rw [if_pos hgk]
   refine bF.mono (Fe h4 (Q0 _) (by omega) (by omega) (by omega) (by omega) (by omega) (by omega) (by omega) (by omega) (by omega) (by rw [jN];omega) ((bD s T).getD k 0) (M.nxt st k) r1 _ hNr1 (drest _ (Nat.sub_le _ _)) (by rw [hvk];exact QU (dgo left _ (by omega)) (by decide))) ?_;rintro e q3 ⟨b,rfl,hb1,hb0⟩;have hsucc:Aut.sumN (Aut.via M left st) (k+1)=Aut.sumN (Aut.via M left st) k+Aut.via M left st k:=rfl;refine⟨b,rfl,fun hb=>?_,fun hb=>?_⟩
   ·obtain⟨hlt,hR⟩:=hb1 hb;have:k=j:=by
     by_cases e:k=j
     ·exact e
     ·have:Aut.sumN (Aut.via M left st) (k+1)≤Aut.sumN (Aut.via M left st) j:=Aut.sumN_mono (by omega);omega
    subst this;exact hR
   ·obtain⟨hle2,hR⟩:=hb0 hb;refine⟨?_,?_⟩
    ·have:k≠j:=fun e=>by subst e;omega
     omega
    ·rw [hsucc,Nat.sub_add_eq];exact hR
  ·rintro e w8 ⟨b,rfl,hQ,hP⟩;cases b with
   |false=>
    have:=(hP rfl).1;omega
   |true=>
    have hR:=hQ rfl;refine⟨_,rfl,Ar.ok64 (by omega) (by omega) ?_⟩;have e2:(left:Int)-1=(m:Int)-1- ((i+1:Nat):Int):=by omega
    rw [e2];refine ih w8 ⟨ks++ [j],rest-Aut.sumN (Aut.via M left st) j,by rw [List.length_append,hkl];rfl,Aut.way_append.2 ⟨hway,by omega,by rw [←hst];exact hgj⟩,?_,?_,?_⟩
    ·rw [List.foldl_append, ←hst];unfold dm;rw [List.map_append];exact hR
    ·rw [Aut.pre_snoc, ←hst,hkl, ←hleft];omega
    ·rw [List.foldl_append, ←hst,show m- (i+1)=left by omega];show _<Aut.goN M left (M.nxt st j);have hvk:Aut.via M left st j=Aut.goN M left (M.nxt st j):=by unfold Aut.via;rw [if_pos hgj]
     rw [←hvk];have:Aut.sumN (Aut.via M left st) (j+1)=Aut.sumN (Aut.via M left st) j+Aut.via M left st j:=rfl;omega
 ·rintro q ⟨ks,rest,hkl,hway,hU,hpre,hrest⟩;obtain⟨lo,hlo,hln,hown⟩:=hU.out;refine hI _ q (ac.no (QZ (by omega)) ⟨_,_,_,aL hlo,lo,0,rfl,⟨fun h=>by omega,fun _ _=>⟨fun h=>?_,fun _=>⟨rfl,ks,by rw [hkl];rfl,hway,?_,by rw [hln,jN],?_⟩⟩⟩,hU.code.now 0,hU.code.t⟩)
  ·have:Aut.goN M m 0≤kv:=h;omega
  ·have h0:rest=0:=by
    rw [Nat.sub_self]at hrest;unfold Aut.goN at hrest;split at hrest<;>omega
   rw [h0,Nat.add_zero, ←hkl,Aut.pre_rk]at hpre;exact hpre
  ·exact bw hown (by omega)
def Lu (w0 w':World) (M:Aut) (s:ar) (T:List aP) (L:Nat) (ids:List Int) (l:Sl) (z:Int):Prop:=
 (ids.length>L→z=3∧l=bO)∧(ids.length≤L→((¬(∀t∈ids,(az s T).Has t)→z=4∧l=bO)∧((∀t∈ids,(az s T).Has t)→(¬fR (az s T) ids none→z=8∧l=bO)∧(fR (az s T) ids none→(Aut.goN M ids.length 0≤Aut.rk M 0 (kw s T ids)+1→z=9∧l=bO)∧(Aut.rk M 0 (kw s T ids)+1<Aut.goN M ids.length 0→z=0∧∃ks:List Nat,ks.length=ids.length∧Aut.Way M 0 ks∧Aut.rk M 0 ks=Aut.rk M 0 (kw s T ids)+1∧l.n=ks.length∧w'.ownsRow w0.heap.size aV 1 l.v l.n ((dm s T ks).flatMap aC))))))
theorem wa {M:Aut} (hn:M.n≤1032) {ks:List Nat} (hg:M.good 0=true) (hw:Aut.Way M 0 ks) {L:Nat} (hl:ks.length≤L) (hL:L≤1000):(dY 4294967296 (Aut.rk M 0 ks)).length≤2000∧(dY 4294967296 (Aut.rk M 0 ks+1)).length≤2000∧Aut.rk M 0 ks<Aut.goN M ks.length 0:=by
 have h1:=Aut.rk_lt hg hw;have h2:(dY 4294967296 (Aut.goN M ks.length 0)).length≤2000:=
  QU (ow (L:=L) (QU (CF hn hl 0) (QU (Nat.pow_le_pow_right (by decide) (Nat.le_succ L)) (Nat.le_mul_of_pos_left _ (by omega)))) (by omega)) (by omega)
 exact⟨QU (ju (by decide) (Nat.le_of_lt h1)) h2,QU (ju (by decide) h1) h2,h1⟩
set_option maxHeartbeats 1000000 in
theorem tG (w:World) (c a g L:Nat) (M:Aut) (s:ar) (T:List aP) (S:Nat→Nat→Prop) (h:cD w w 0 c a g L M s T) (hF:fH M s T) (hL:L≤1000) (hS:vc s T M S) (hok:fW T) (hV:(az s T).Ok) (A:Option Addr) (C:Nat) (ids:List Int) (row:∀ {q:World},ap c w q→Rw aC 1 q A ids) (hl:ids.length≤10000):
  CP 52 #[.pointer (some ⟨c,0,none⟩),.slice A ids.length C] w fun e w'=>∃(l:Sl) (z:Int),e= .returned (.tuple #[l.v,.int .i64 z])∧Lu w w' M s T L ids l z∧cD w' w' 0 c a g L M s T∧ap c w w':=by
 refine aO (Bt (some ⟨c,0,none⟩) A ids.length C w) ?_;have hMn2:M.n≤1032:=by have:=hF.n;have:=hF.few;omega
 have hclt:=h.lt;have hg0:M.good 0=true:=by
  rw [hS.good 0 0 hS.zero];exact QY (Nat.zero_le _)
 refine(gw w c a g L M s T S h hF (by omega) hS hok hV A C ids row hl).mono ?_;rintro e w1 ⟨r,k,rfl,hR,hC1,t1⟩;have hz1:=t1.size;refine⟨_,_,_,_,rfl,?_⟩;intro w2 hw2;have b2:Below w1.heap.size w1 w2:=by subst hw2;exact af _ _
 have x2:w2.heap[w1.heap.size]? =some (.cells #[bO.v] bU (0,0)):=by subst hw2;exact ak _ _
 refine cq (s:=r) x2 fun w3 x3 N3 B3 _ _=>?_;have b3:=B3 _ _ (Q0 _) b2;have hC3:=(hC1.then b3).now 0;have t3:=t1.trans (ap.of_below b3);refine ac.mk (fun hk=>?_) fun hk=>?_
 ·have hk:k≠0:=by simpa using hk
  refine⟨bO,k,rfl,⟨fun h=>⟨(hR.1 h).1,rfl⟩,fun h=>⟨fun h2=>⟨((hR.2 h).1 h2).1,rfl⟩,fun h2=>⟨fun h3=>⟨(((hR.2 h).2 h2).1 h3).1,rfl⟩,fun h3=>absurd (((hR.2 h).2 h2).2 h3).1 hk⟩⟩⟩,hC3,t3⟩
 have hk:k=0:=by simpa using hk
 subst hk;have hle:ids.length≤L:=Nat.le_of_not_lt fun h=>by have:=(hR.1 h).1;omega
 have hhas:∀t∈ids,(az s T).Has t:=Classical.byContradiction fun h=>by have:=((hR.2 hle).1 h).1;omega
 have hfirst:fR (az s T) ids none:=Classical.byContradiction fun h=>by have:=(((hR.2 hle).2 hhas).1 h).1;omega
 have hN1:=(((hR.2 hle).2 hhas).2 hfirst).2;have hh2:∀t∈ids,di s T t=true:=fun t ht=>(eA hok t).2 (hhas t ht);have hway:=(nL hS hF.n hV hok hh2).2 hfirst;obtain⟨ks,hks⟩:∃ks,ks=kw s T ids:=⟨_,rfl⟩;have hkl:ks.length=ids.length:=by rw [hks];exact gD s T ids
 rw [←hks]at hway hN1;obtain⟨d1,d2,hlt⟩:=wa hMn2 hg0 hway (by omega) hL;have hN3:=N3 _ _ (hN1.on b2);intro w4 hw4;have b4:Below w3.heap.size w3 w4:=by subst hw4;exact aI w3
 refine⟨_,_,_,aH (ag b4 x3),(iE w4 1 (by decide)).mono ?_⟩;rintro e w5 ⟨o,rfl,hN5,b5⟩;have x5:=ag b5 (ag b4 x3);refine⟨_,_,_,rfl,aH x5,?_⟩;intro w6 hw6;have b6:Below w5.heap.size w5 w6:=by subst hw6;exact af _ _
 have x6:w6.heap[w5.heap.size]? =some (.cells #[o.v] bU (0,0)):=by subst hw6;exact ak _ _
 refine⟨aH (ag b6 x5),(gA w6 r o _ 1 (((hN3.on b4).on b5).on b6) (hN5.on b6) (QU d1 (by decide)) (QU (jH (k:=1) (by decide) (by decide)) (by decide)) (nb w5) 1 (aL x6) (QV.1 x6).1).mono ?_⟩;rintro e w7 ⟨y,rfl,hy,b7⟩;have b37:=ae (ae (ae b4 b5) b6) b7;have hC7:=(hC3.then b37).now 0;have t7:=t3.trans (ap.of_below b37);refine⟨_,_,_,rfl,(ke w7 c a g L M s T hC7 hF hL (ids.length:Int) y _ hy (QU d2 (by decide))).mono ?_⟩;rintro e w8 ⟨l,z,rfl,hU,hC8,t8⟩;have hU2:=hU.2 (by omega) (by omega);have ec:((ids.length:Int)).toNat=ids.length:=rfl;rw [ec]at hU2;have hz7:=t7.size;refine⟨_,_,_,_,rfl,ac.mk (fun hz=>?_) fun hz=>?_⟩
 ·have hz:z=7:=by simpa using hz
  refine⟨bO,9,rfl,⟨fun h=>by omega,fun _=>⟨fun h2=>absurd hhas h2,fun _=>⟨fun h3=>absurd hfirst h3,fun _=>⟨fun _=>⟨rfl,rfl⟩,fun h=>?_⟩⟩⟩⟩,hC8,t7.trans t8⟩;rw [←hks]at h;have:=(hU2.2 h).1;omega
 ·have hz:¬z=7:=by simpa using hz
  refine⟨l,z,rfl,⟨fun h=>by omega,fun _=>⟨fun h2=>absurd hhas h2,fun _=>⟨fun h3=>absurd hfirst h3,fun _=>⟨fun h=>?_,fun h=>?_⟩⟩⟩⟩,hC8,t7.trans t8⟩
  ·rw [←hks]at h;exact absurd (hU2.1 h).1 hz
  ·rw [←hks]at h⊢;obtain⟨h0,k2,g1,g2,g3,g4,g5⟩:=hU2.2 h;exact⟨h0,k2,g1,g2,g3,g4,bw g5 hz7⟩
theorem GP {M:Aut}:∀ {ks:List Nat} {x:Nat},Aut.Way M x ks→∀k∈ks,k<M.n
 | [],_,_,k,h=>by cases h
 |j::r,x,hw,k,h=>by
  rcases List.mem_cons.1 h with rfl |h
  ·exact hw.1
  ·exact GP hw.2.2 k h
theorem EW {s:ar} {T:List aP} (hr:nU s T) {ks:List Nat} (h:∀k∈ks,k<gN s T):kw s T (dm s T ks)=ks:=by
 unfold kw dm;rw [List.map_map];refine(List.map_congr_left fun k hk=>?_).trans (List.map_id ks);show(oK s T ((bD s T).getD k 0)).getD 0=k;rw [oP hr (h k hk)];rfl
theorem En {s:ar} {T:List aP} {ids:List Int} (hh:∀t∈ids,di s T t=true):dm s T (kw s T ids)=ids:=by
 unfold kw dm;rw [List.map_map];refine(List.map_congr_left fun t ht=>?_).trans (List.map_id ids);show(bD s T).getD ((oK s T t).getD 0) 0=t;have h1:=hh t ht;rw [←vw]at h1;obtain⟨k,hk⟩:=Option.isSome_iff_exists.1 h1;rw [hk];exact(dr hk).2.1
theorem El {s:ar} {T:List aP} (hr:nU s T) {ks:List Nat} (h:∀k∈ks,k<gN s T):∀t∈dm s T ks,di s T t=true:=by
 intro t ht;obtain⟨k,hk,rfl⟩:=List.mem_map.1 ht;exact(dr (oP hr (h k hk))).2.2
theorem Ii {s:ar} {T:List aP} {ids:List Int} (h:∀t∈ids,di s T t=true):rK s T ids<0:=by
 unfold rK;rw [gB fun j hj=>by rw [h _ (List.getElem_mem hj)];rfl];decide
theorem Fc {x y:Nat} (h:x<y):¬ku (x:Int) (y:Int)≥0:=by
 rw [uV];omega
theorem Hr.rv {w q:World} {c b g L:Nat} {y:mR} {s:ar} {T:List aP} {f:Nat→Nat} (h:Hr w c b g L y s T f) (t:ap c w q):fY q y s T:=by
 obtain⟨w0,h2,h3,h4⟩:=h.base;exact h2.on (h4.trans (t.below h3 h4.size))
set_option maxHeartbeats 4000000 in
theorem sL (w:World) (y:Fm) (ls:List Int) (cs:List (Int×Int×Int)) (js:List (Int×Int)) (xs:List (Int×Bs)) (h:xL w y ls cs js xs) (A:Option Addr) (C:Nat) (ids:List Int) (hr:Rw aC 1 w A ids) (hC:ids.length≤C) (m:Nat):
  CP 9 #[y.v,.slice A ids.length C,.int .u8 (m:Int)] w fun e w'=>e= .returned (.bool true)∧Below w.heap.size w w':=by
 refine aO (Ec y.l.a y.l.n y.l.c y.c.a y.c.n y.c.c y.j.a y.j.n y.j.c y.x.a y.x.n y.x.c A ids.length C (m:Int) w) ?_;intro w1 hw1;have hb1:Below w.heap.size w w1:=by subst hw1;exact af _ _
 have l1:w1.heap[w.heap.size]? =some (.cells y.cells Lx (0,0)):=by subst hw1;exact ak _ _
 refine⟨_,_,_,_,_,_,_,_,_,_,_,_,LS l1,?_⟩;refine(tM w1 y ls cs js xs (h.on hb1)).mono ?_;rintro e w2 ⟨c0,rfl,b2⟩;have hb2:=ae hb1 b2;have aw:∀ {q:World},Below w.heap.size w q→CP 35 #[] q fun e w'=>∃b:Bool,e= .returned (.bool b)∧(Ending.returned (Value.bool b)= .returned (.bool true)∧Below w.heap.size w w'):=by
  intro q hq;refine(nj q).mono ?_;rintro e w3 ⟨rfl,b3⟩;exact⟨true,rfl,rfl,ae hq b3⟩
 refine⟨c0,rfl,ac.mk (fun _=>aw hb2) fun _=>ac.mk (fun _=>aw hb2) fun h30=>?_⟩;have h30:=QX h30;have hil:ids.length≤30:=by omega
 refine(nj w2).mono ?_;rintro e w5 ⟨rfl,b5⟩;have hb5:=ae hb2 b5;obtain⟨L,hLm⟩:∃L,L=m%40:=⟨_,rfl⟩;have e40:IntKind.wrap .i64 (Int.tmod (m:Int) 40)=(L:Int):=by rw [hLm];exact N7 m 40 (by decide) (by decide)
 have hL:L≤39:=by have:=Nat.mod_lt m (show 0<40 by decide);omega
 refine⟨_,rfl,ac.no rfl ⟨_,_,_,_,_,_,_,_,_,_,_,_,LS (ag b5 (ag b2 l1)),by decide,?_⟩⟩;rw [e40];refine(wI w5 y ls cs js xs (h.on hb5) L hL).mono ?_;rintro e w6 ⟨c,b,g,r,s,T,f,rfl,hB,b6,hc6⟩;have hb6:=ae hb5 b6;have hn2:gN s T≤1032:=by have:=hB.n;omega
 have hF:=oU hn2 hB.rise hB.cls;have hS:=qW hn2 hB.cls;have hok:=hB.ok;have hV:=hB.vok;have hrise:=hB.rise;obtain⟨b1,hC6⟩:=hB.code;obtain⟨M,hM⟩:∃M,M=Aut.least (dg s T) f:=⟨_,rfl⟩;rw [←hM]at hF hC6 hS;have hMn:M.n≤1032:=by rw [hF.n];exact hn2
 have hg0:M.good 0=true:=by
  rw [hS.good 0 0 hS.zero];exact QY (Nat.zero_le _)
 refine⟨_,_,_,_,_,_,_,_,_,_,_,_,_,_,_,_,_,_,rfl,?_⟩;intro w7 hw7;refine aX (oX Ea) (oX r) rfl (jK r) w7 hw7 ?_;intro w8 h8 hz8 b8;have hC8:=(hC6.then b8).now 0;have hb8:=ae hb6 b8;have hlt6:=hC6.lt;have hz6:=hb6.size;have hz5:=hb5.size;have hcw:w.heap.size≤c:=by omega
 have row_:∀ {q q':World},ap c w8 q→ap c q q'→Rw aC 1 q' A ids:=fun t t'=>hr.on ((hb8.trans (t.below hcw hb8.size)).trans (t'.below hcw (by have:=hb8.size;have:=t.size;omega)));have rv_:∀ {q:World},ap c w8 q→fY q r s T∧q.heap[w6.heap.size]? =some (.cells r.cells Ds (0,0)):=fun t=>⟨hB.rv ((ap.of_below b8).trans t),t.held (by omega) h8⟩;have end_:∀ {q:World},ap c w8 q→Below w.heap.size w q:=fun t=>hb8.trans (t.below hcw hb8.size);refine ac.no rfl ((gw w8 c b1 g L M s T _ hC8 hF (by omega) hS hok hV A C ids (row_ (ap.of_below (Below.refl _ _))) (by omega)).mono ?_);rintro e w10 ⟨n,k,rfl,hR,hC10,t10⟩;have z10:=t10.size;refine⟨_,_,_,_,rfl,?_⟩;intro w11 hw11;have b11:Below w10.heap.size w10 w11:=by subst hw11;exact af _ _
 have x11:w11.heap[w10.heap.size]? =some (.cells #[bO.v] bU (0,0)):=by subst hw11;exact ak _ _
 refine cq (s:=n) x11 fun w12 x12 N12 B12 _ _=>?_;have b12:=B12 _ _ (Q0 _) b11;have hC12:=(hC10.then b12).now 0;have t12:=t10.trans (ap.of_below b12);refine(tG w12 c b1 g L M s T _ hC12 hF (by omega) hS hok hV A C ids (row_ t12) (by omega)).mono ?_;rintro e w13 ⟨u,z,rfl,hX,hC13,t13⟩;have t13':=t12.trans t13;have n13:∀v,aZ w10 n v→aZ w13 n v:=fun v hv=>by
  obtain⟨cc,fz,hx⟩:=hC12.typ;exact(N12 _ _ (hv.on b11)).past hx (by decide) t13
 have x13:=t13.held (by omega) x12;have z13:=t13'.size;refine⟨_,_,_,_,rfl,?_⟩;intro J hJ;have bad:∀(want:Int) (q:World),want≠0→k=want→z=want→aZ w10 n 0→u=bO→Below w13.heap.size w13 q→J [.int .i64 want] q:=by
  intro want q h0 e1 e2 hN e3 hq;refine hJ want q (ac.no (by rw [e1];simp) (ac.yes (by simpa using h0) ⟨_,_,_,aH (ag hq x13),(gW q n 0 ((n13 0 hN).on hq)).mono ?_⟩));rintro e w15 ⟨rfl,b15⟩;refine⟨_,rfl,ac.yes rfl (ac.yes (by rw [e3];rfl) ⟨?_,end_ ((t13'.trans (ap.of_below hq)).trans (ap.of_below b15))⟩)⟩;rw [e2,beq_self_eq_true]
 refine⟨by decide,?_⟩;refine ac.mk (fun c1=>?_) fun c1=>?_
 ·have c1:ids.length>L:=by have:=QQ c1;omega
  obtain⟨e1,hN⟩:=hR.1 c1;obtain⟨e2,e3⟩:=hX.1 c1;exact bad 3 w13 (by decide) e1 e2 hN e3 (Below.refl _ _)
 have c1:ids.length≤L:=by have:=QX c1;omega
 refine⟨_,_,_,_,_,_,_,_,_,_,_,_,_,_,_,ko (x:=r) (rv_ t13').2,(yQ w13 r s T (rv_ t13').1 A C ids (row_ t13' (ap.of_below (Below.refl _ _))) (by omega)).mono ?_⟩;rintro e w14 ⟨rfl,b14⟩;refine⟨_,rfl,ac.mk (fun c2=>?_) fun c2=>?_⟩
 ·have c2:¬∀t∈ids,(az s T).Has t:=fun hh=>by
   have:=Ii (s:=s) (T:=T) (ids:=ids) fun t ht=>(eA hok t).2 (hh t ht);have:=QQ c2;omega
  obtain⟨e1,hN⟩:=(hR.2 c1).1 c2;obtain⟨e2,e3⟩:=(hX.2 c1).1 c2;exact bad 4 w14 (by decide) e1 e2 hN e3 b14
 have hh2:∀t∈ids,di s T t=true:=Cu (QX c2);have hhas:∀t∈ids,(az s T).Has t:=fun t ht=>(eA hok t).1 (hh2 t ht);have t14:=t13'.trans (ap.of_below b14);refine⟨_,_,_,_,_,_,_,_,_,_,_,_,_,_,_,ko (x:=r) (rv_ t14).2,(lS w14 r s T (rv_ t14).1 A C ids (row_ t14 (ap.of_below (Below.refl _ _))) hC (by omega)).mono ?_⟩;rintro e w15 ⟨o,rfl,ho,b15⟩;have b1315:=ae b14 b15;refine⟨_,rfl,ac.mk (fun c3=>?_) fun c3=>?_⟩
 ·have c3:¬fR (az s T) ids none:=fun hf=>by
   have e:=mc ho hf;subst e;exact absurd (QQ c3) (by decide)
  obtain⟨e1,hN⟩:=((hR.2 c1).2 hhas).1 c3;obtain⟨e2,e3⟩:=((hX.2 c1).2 hhas).1 c3;exact bad 8 w15 (by decide) e1 e2 hN e3 b1315
 have hfirst:fR (az s T) ids none:=by
  cases o with
  |none=>exact ho
  |some i=>
   have:=QX c3;exact absurd (show(0:Int)≤((i:Nat):Int)from Int.natCast_nonneg i) this
 obtain⟨e1,hN⟩:=((hR.2 c1).2 hhas).2 hfirst;obtain⟨hX1,hX2⟩:=((hX.2 c1).2 hhas).2 hfirst;obtain⟨ks,hks⟩:∃ks,ks=kw s T ids:=⟨_,rfl⟩;have hkl:ks.length=ids.length:=by rw [hks];exact gD s T ids
 have hway:Aut.Way M 0 ks:=by rw [hks];exact(nL hS hF.n hV hok hh2).2 hfirst
 rw [←hks]at hN hX1 hX2;obtain⟨d1,d2,hlt⟩:=wa hMn hg0 hway (L:=L) (by omega) (by omega);rw [hkl]at hlt;have d1':=QU d1 (show 2000≤100000 by decide);have d2':=QU d2 (show 2000≤100000 by decide);have dgo:=QU (LD hMn (k:=ids.length) (L:=39) (by omega) (by decide) 0) (show 200≤100000 by decide);have cnt:fV M L 0 (ids.length:Int)=Aut.goN M ids.length 0:=by
  have:=hF.ok.pos;unfold fV;rw [if_pos (by omega)];rfl
 have hC15:=(hC13.then b1315).now 0;have t15:=t13'.trans (ap.of_below b1315);refine hJ 0 w15 (ac.no (by rw [e1];rfl) (ac.no rfl ⟨_,_,_,aH (ag b1315 x13),(ke w15 c b1 g L M s T hC15 hF (by omega) (ids.length:Int) n _ ((n13 _ hN).on b1315) d1').mono ?_⟩));rintro e w16 ⟨l2,z2,rfl,hU,hC16,t16⟩;obtain⟨hz2,k2,k2l,k2w,k2r,l2n,l2o⟩:=(hU.2 (by omega) (by omega)).2 hlt;have ek:k2=ks:=Aut.rk_inj (by rw [k2l,hkl];rfl) k2w hway k2r;subst ek;have eg:dm s T k2=ids:=by rw [hks];exact En hh2
 rw [eg]at l2o;refine⟨_,_,_,_,rfl,?_⟩;intro w17 hw17;have b17:Below w16.heap.size w16 w17:=by subst hw17;exact aI w16
 have t17:=(t15.trans t16).trans (ap.of_below b17);have hR2:=Rw.of_own (aB l2o b17) (fun _=>rfl) (by decide);have hi:=uY w17 l2.a A l2.c C ids ids hR2.1 (row_ t17 (ap.of_below (Below.refl _ _))) (by omega);rw [←hR2.2]at hi;refine ac.no (by rw [hz2];rfl) ?_;have hi':CP 28 #[.slice l2.a l2.n l2.c,.slice A ids.length C] w17 fun e w'=>e= .returned (.bool true)∧Below w17.heap.size w17 w':=by
  have e5:=hR2.2;rw [e5]at hi⊢;simpa using hi
 refine hi'.mono ?_;rintro e w18 ⟨rfl,b18⟩;have b1618:=ae b17 b18;have hC18:=(hC16.then b1618).now 0;have t18:=t17.trans (ap.of_below b18);have n16:aZ w16 n (Aut.rk M 0 k2):=by
  obtain⟨cc,fz,hx⟩:=hC15.typ;exact((n13 _ hN).on b1315).past hx (by decide) t16
 have x16:=t16.held (by have:=b1315.size;omega) (ag b1315 x13);have x18:=ag b1618 x16;have n18:=n16.on b1618;obtain⟨cc8,fz8,hx18⟩:=hC18.typ;refine⟨_,rfl,ac.no rfl ⟨_,_,_,aH x18,(fP w18 w18 0 c b1 g L M s T hC18 hF (by omega) (ids.length:Int)).mono ?_⟩⟩;rintro e w19 ⟨r9,rfl,hN9,hf9,t19⟩;rw [cnt]at hN9;have hC19:=(hf9.code hC18 (Nat.zero_le _) t19).now 0;have x19:=t19.held (by have:=t18.size;omega) x18;have n19:=n18.past hx18 (by decide) t19;refine⟨_,_,_,rfl,aH x19,(dR w19 n r9 _ _ n19 hN9 d1' dgo).mono ?_⟩;rintro e w20 ⟨rfl,b20⟩;have hC20:=(hC19.then b20).now 0;have x20:=ag b20 x19;have n20:=n19.on b20;have t20:=(t18.trans t19).trans (ap.of_below b20);refine⟨_,rfl,ac.no (QZ (Fc hlt)) (ac.mk (fun c4=>?_) fun c4=>?_)⟩
 ·-- the last one
  have c4:z≠0:=by simpa using c4
  have hle:Aut.goN M ids.length 0≤Aut.rk M 0 k2+1:=Nat.le_of_not_lt fun hh=>c4 (hX2 hh).1;have hz9:=(hX1 hle).1;have heq:Aut.goN M ids.length 0=Aut.rk M 0 k2+1:=by omega
  intro w21 hw21;have b21:Below w20.heap.size w20 w21:=by subst hw21;exact aI w20
  refine ac.yes (by rw [hz9];rfl) ⟨_,_,_,aH (ag b21 x20),(iE w21 1 (by decide)).mono ?_⟩;rintro e w22 ⟨o1,rfl,hN22,b22⟩;refine⟨_,_,_,rfl,aH (ag b22 (ag b21 x20)),?_⟩;intro w23 hw23;have b23:Below w22.heap.size w22 w23:=by subst hw23;exact af _ _
  have x23:w23.heap[w22.heap.size]? =some (.cells #[o1.v] bU (0,0)):=by subst hw23;exact ak _ _
  refine⟨aH (ag b23 (ag b22 (ag b21 x20))),(gA w23 n o1 _ 1 (((n20.on b21).on b22).on b23) (hN22.on b23) d1' (QU (jH (k:=1) (by decide) (by decide)) (by decide)) (nb w22) 1 (aL x23) (QV.1 x23).1).mono ?_⟩;rintro e w24 ⟨s1,rfl,hN24,b24⟩;have b2024:=ae (ae (ae b21 b22) b23) b24;have hC24:=(hC20.then b2024).now 0;obtain⟨cc,fz,hx24⟩:=hC24.typ;refine⟨_,_,_,rfl,(fP w24 w24 0 c b1 g L M s T hC24 hF (by omega) (ids.length:Int)).mono ?_⟩;rintro e w25 ⟨r5,rfl,hN25,hf5,t25⟩;rw [cnt,heq]at hN25;have n25:=hN24.past hx24 (by decide) t25;refine⟨_,_,_,rfl,(dR w25 s1 r5 _ _ n25 hN25 d2' d2').mono ?_⟩;rintro e w26 ⟨rfl,b26⟩;rw [tY];exact⟨_,rfl,rfl,end_ (((t20.trans (ap.of_below b2024)).trans t25).trans (ap.of_below b26))⟩
 ·-- one behind it
  have c4:z=0:=by simpa using c4
  have hgo:Aut.rk M 0 k2+1<Aut.goN M ids.length 0:=Nat.lt_of_not_le fun hh=>by
   have:=(hX1 hh).1;omega
  obtain⟨_,k3,k3l,k3w,k3r,un,uo⟩:=hX2 hgo;have k3b:∀k∈k3,k<gN s T:=fun k hk=>by rw [←hF.n];exact GP k3w k hk
  have hh3:=El hrise k3b;have hhas3:∀t∈dm s T k3,(az s T).Has t:=fun t ht=>(eA hok t).1 (hh3 t ht);have ep:=EW hrise k3b;have hf3:fR (az s T) (dm s T k3) none:=(nL hS hF.n hV hok hh3).1 (by rw [ep];exact k3w);have gl:(dm s T k3).length=ids.length:=by rw [jN,k3l]
  have ul:u.n=(dm s T k3).length:=by rw [un,jN]
  have uo_:∀ {q:World},ap c w13 q→w13.heap.size≤q.heap.size→q.ownsRow w12.heap.size aV 1 u.v u.n ((dm s T k3).flatMap aC):=fun t _=>by
   obtain⟨cc,fz,hx⟩:=hC13.typ;exact eP hx t uo (by decide)
  have t1320:ap c w13 w20:=(((ap.of_below b1315).trans t16).trans (ap.of_below b1618)).trans (t19.trans (ap.of_below b20));have row3:∀ {q:World},ap c w20 q→Rw aC 1 q u.a (dm s T k3):=fun t=>(Rw.of_own (uo_ (t1320.trans t) (t1320.trans t).size) (fun _=>rfl) (by decide)).1;have hRk:=gw w20 c b1 g L M s T _ hC20 hF (by omega) hS hok hV u.a u.c (dm s T k3) row3 (by omega);rw [←ul]at hRk;refine hRk.mono ?_;rintro e w27 ⟨r7,k7,rfl,hR7,hC27,t27⟩;obtain⟨e7,hN27⟩:=((hR7.2 (by omega)).2 hhas3).2 hf3;rw [ep,k3r]at hN27;subst e7;refine⟨_,_,_,_,rfl,?_⟩;intro w28 hw28;have b28:Below w27.heap.size w27 w28:=by subst hw28;exact af _ _
  have x28:w28.heap[w27.heap.size]? =some (.cells #[bO.v] bU (0,0)):=by subst hw28;exact ak _ _
  refine cq (s:=r7) x28 fun w29 x29 N29 B29 _ _=>?_;have b29:=B29 _ _ (Q0 _) b28;intro w30 hw30;have b30:Below w29.heap.size w29 w30:=by subst hw30;exact aI w29
  have b2730:=ae b29 b30;obtain⟨cc20,fz20,hx20⟩:=hC20.typ;have z20:=t20.size;have x27:=t27.held (by omega) x20;have n27:=n20.past hx20 (by decide) t27;have x30:=ag b2730 x27;have y30:=ag b30 x29;refine ac.yes rfl ⟨_,_,_,aH y30,_,_,_,aH x30,(iE w30 1 (by decide)).mono ?_⟩;rintro e w31 ⟨o1,rfl,hN31,b31⟩;refine⟨_,_,_,rfl,aH (ag b31 x30),aH (ag b31 y30),?_⟩;intro w32 hw32;have b32:Below w31.heap.size w31 w32:=by subst hw32;exact af _ _
  have x32:w32.heap[w31.heap.size]? =some (.cells #[o1.v] bU (0,0)):=by subst hw32;exact ak _ _
  refine⟨aH (ag b32 (ag b31 x30)),aH (ag b32 (ag b31 y30)),(gA w32 n o1 _ 1 (((n27.on b2730).on b31).on b32) (hN31.on b32) d1' (QU (jH (k:=1) (by decide) (by decide)) (by decide)) (nb w31) 1 (aL x32) (QV.1 x32).1).mono ?_⟩;rintro e w33 ⟨s1,rfl,hN33,b33⟩;have b3033:=ae (ae b31 b32) b33;have n7:aZ w33 r7 _:=((N29 _ _ (hN27.on b28)).on b30).on b3033;refine⟨_,_,_,rfl,aH (ag b3033 y30),(dR w33 r7 s1 _ _ n7 hN33 d2' d2').mono ?_⟩;rintro e w34 ⟨rfl,b34⟩;rw [tY];have b2734:=ae (ae b2730 b3033) b34;have t34:=(t20.trans t27).trans (ap.of_below b2734);refine⟨_,rfl,ac.yes rfl (ac.yes (by rw [ul,gl];exact beq_self_eq_true _) ⟨_,_,_,_,_,_,_,_,_,_,_,_,_,_,_,ko (x:=r) (rv_ t34).2,?_⟩)⟩;have uo34:=uo_ ((t1320.trans t27).trans (ap.of_below b2734)) ((t1320.trans t27).trans (ap.of_below b2734)).size;have huc:u.n≤u.c:=by
   obtain⟨a',c',e,h2⟩:=jt uo34;cases u;cases e;exact h2
  have hfr:=lS w34 r s T (rv_ t34).1 u.a u.c (dm s T k3) (Rw.of_own uo34 (fun _=>rfl) (by decide)).1 (by omega) (by omega);rw [←ul]at hfr;refine hfr.mono ?_;rintro e w35 ⟨o3,rfl,ho3,b35⟩;have:=mc ho3 hf3;subst this;exact⟨_,rfl,rfl,end_ (t34.trans (ap.of_below b35))⟩
theorem BT {H:Type} {enc:TypeId×Value→H} {C:Checked} {os:Os} {f:FuncId} {fn:Func} {s:ChangeSpec}
  (own:ownKnob C.prog.godebug=none) (started:os.Started) (noInit:C.prog.inits.idxOf? f=none) (hfn:C.prog.funcs[f]? =some fn)
  (witness:∃(w:World) (tape:Tape) (i:Input),w.os=os∧(w.forCall tape i).Shaped C.prog∧i.vars= []∧Input.okWide C.prog (w.forCall tape i) .any w.heap.size f i∧
   ((s.pre enc C.prog fn [] false (w.forCall tape i).memory i.args∧True)∧sizedMet enc C.prog fn (OpenSpec.ofChange s) false (w.forCall tape i).memory i.args)∧({}:Assume).holds C.prog (lone (Frame.enter C.prog f i.args .normal) [] (w.forCall tape i)))
  (contract:∀(W:World) (base:Nat) (args:Array Value) (ds gs:List (DataW H)) (before:List MemPlace),
   (∀(j:Nat) t v,fn.params[j]? =some t→args[j]? =some v→Value.okWide C.prog W .any base t v)→
   DataW.Whole enc C.prog fn.params.toList s.vars false W args.toList ds gs before→
   (DataW.weightsEach C.prog (fn.params.toList++s.plain.varTypes C.prog) (ds++gs)).all (·≤reachBytes)=true→
   W.ShapedOpen C.prog→
   Calls C.prog f args W fun e W'=>∃v,e= .returned v∧s.post enc C.prog fn false true false false W args v W'):
  ReturnsInHanded {} C os f .any (fun w args=>s.pre enc C.prog fn [] false w args∧sizedMet enc C.prog fn (OpenSpec.ofChange s) false w args) (s.post enc C.prog fn false true false false):=by
 have witness':∃(w:World) (tape:Tape) (i:Input),w.os=os∧(w.forCall tape i).Shaped C.prog∧i.vars= []∧Input.okWide C.prog (w.forCall tape i) .any w.heap.size f i∧
   (s.pre enc C.prog fn [] false (w.forCall tape i).memory i.args∧sizedMet enc C.prog fn (OpenSpec.ofChange s) false (w.forCall tape i).memory i.args)∧({}:Assume).holds C.prog (lone (Frame.enter C.prog f i.args .normal) [] (w.forCall tape i)):=by
  obtain⟨w,tape,i,h1,h2,h3,h4,⟨⟨h5,_⟩,h6⟩,h7⟩:=witness;exact⟨w,tape,i,h1,h2,h3,h4,⟨h5,h6⟩,h7⟩
 refine returnsInHanded_of_calls own started noInit witness' ?_;intro w tape i _ hshape _ hok hpre _;obtain⟨_,_,_,fn',hfn',_,_,_,_,hval⟩:=hok;obtain rfl:fn'=fn:=Option.some.inj (hfn'.symm.trans hfn);obtain⟨⟨ds,gs,before,hw,_⟩,hz⟩:=hpre;refine(contract (w.forCall tape i) w.heap.size i.args ds gs before hval (DataW.Whole.of_heap (w':=w.forCall tape i) (by rfl) hw) (hz.weights hw) hshape).mono ?_;rintro e W' ⟨v,rfl,hp⟩;exact ChangeSpec.post_blind hp
end Go.Proofs.YtdlcfegnaphclaaGreat.Eng
