/- The least automaton, and what is reached, walked by the engine. -/
import Derived.Test.YtdlcfegnaphclaaGreatZrTz
import Derived.Laws.CopyRow
import Derived.Test.YtdlcfegnaphclaaGreatZrNc
import Derived.Maps.RangeRun
set_option linter.unusedVariables false
set_option linter.unusedSimpArgs false
set_option maxRecDepth 100000
namespace Go.Proofs.YtdlcfegnaphclaaGreat.Eng
open Go Go.RowKit
open Aut (metF metL scan visit)
structure jK (w:World) (B b g:Nat) (M:Aut) (nx gd:Sl) (rs:List Sl) (m j:Nat):Prop where
 blk:w.heap[b]? =some (.cells (uq g nx gd 0 0 bV) dI (0,0))
 onx:w.ownsRow B d_ 1 nx.v nx.n (rs.flatMap ro)
 rl:rs.length=m
 each:∀(i:Nat) (r:Sl),rs[i]? =some r→w.ownsRow B bf 1 r.v r.n (fI ((List.range M.n).map (M.nxt i)))
 ogd:w.ownsRow B bN 1 gd.v gd.n (((List.range j).map M.good).flatMap dM)
theorem jK.on {w w':World} {B b g:Nat} {M:Aut} {nx gd:Sl} {rs:List Sl} {m j:Nat} (h:jK w B b g M nx gd rs m j) (hb:Below w.heap.size w w'):jK w' B b g M nx gd rs m j:=
 ⟨ah hb h.blk,aE h.onx hb,h.rl,fun i r hr=>aE (h.each i r hr) hb,aE h.ogd hb⟩
theorem jK.pushRow {w:World} {B b g:Nat} {M:Aut} {nx gd:Sl} {rs:List Sl} {m j:Nat} (h:jK w B b g M nx gd rs m j) (hBb:B≤b) {r:Sl} (hr:w.ownsRow B bf 1 r.v r.n (fI ((List.range M.n).map (M.nxt m)))) {w1:World} (hw1:w1=w.alloc (.cells #[r.v] d_)) (hB:B≤w.heap.size) (hm:m≤100000):
  ∃(nx':Sl) (w2:World),(Builtin.append_ #[kA,kA] kA #[.slice nx.a nx.n nx.c,.slice (some (nb w)) 1 1]).run Tryz.prog w1= .ok (.slice nx'.a nx'.n nx'.c) w2∧(∃u,w2.cell? ((⟨b,0,none⟩:Addr).add 1)=some u)∧w2.frozen? ((⟨b,0,none⟩:Addr).add 1)=false∧∀w3,w3=w2.setCell ((⟨b,0,none⟩:Addr).add 1) nx'.v→jK w3 B b g M nx' gd (rs++ [r]) (m+1) j∧(∀w0,Below B w0 w→Below B w0 w3)∧∀ {k:Nat} {c:Array Value} {e:TypeId} {fz:Nat×Nat},w.heap[k]? =some (.cells c e fz)→e≠d_→e≠dI→w3.heap[k]? =some (.cells c e fz):=by
 have hnn:=(LsAt.of_own nu h.onx).n;have hrl:=h.rl;obtain⟨nx',w2,e1,e2,e3,e4,e5⟩:=nu.push h.onx r hw1 rfl hB (by omega) (by decide);have y1:w2.heap[b]? =some (.cells (uq g nx gd 0 0 bV) dI (0,0)):=(e5 b (Array.getElem?_eq_some_iff.1 h.blk).1 (az h.onx h.blk (by decide))).trans h.blk;refine⟨nx',w2,e2,⟨_,by rw [aV y1];rfl⟩,be y1,?_⟩;intro w3 hw3;have hs:∀j,j≠b→w3.heap[j]? =w2.heap[j]? :=by
  intro j hj;subst hw3;exact aq (by rw [ax];exact hj)
 have same:∀ {B sz n:Nat} {e:TypeId} {u:Value} {xs:List Value},w.ownsRow B e sz u n xs→e≠d_→e≠dI→w3.ownsRow B e sz u n xs:=by
  intro B sz n e u xs ho h1 h2;refine aN ho fun k hk=>?_;rw [hs k fun e=>az ho h.blk h2 (by rw [hk,e])];exact e5 k (b_ ho k hk).2 (bW ho h.onx h1 k hk)
 refine⟨⟨by subst hw3;exact bL y1 _,aN e3 fun k hk=>hs k fun e=>az e3 y1 (by decide) (by rw [hk,e]),by simp;omega,?_,same h.ogd (by decide) (by decide)⟩,fun w0 h0=>by subst hw3;exact bJ (e4 _ h0) hBb _,?_⟩
 ·intro i r' hi;by_cases hcl:i<rs.length
  ·rw [List.getElem?_append_left hcl]at hi;exact same (h.each i r' hi) (by decide) (by decide)
  ·have hci:i=m:=by
    have:=(List.getElem?_eq_some_iff.1 hi).1;simp at this;omega
   subst hci;rw [List.getElem?_append_right (by omega),hrl,Nat.sub_self]at hi;cases hi;exact same hr (by decide) (by decide)
 ·intro k c e fz hk h1 h2;have hkb:k≠b:=by
   rintro rfl;rw [h.blk]at hk;cases hk;exact h2 rfl
  rw [hs k hkb,e5 k (Array.getElem?_eq_some_iff.1 hk).1 (az h.onx hk fun e=>h1 e.symm)];exact hk
theorem jK.pushGood {w:World} {B b g:Nat} {M:Aut} {nx gd:Sl} {rs:List Sl} {m j:Nat} (h:jK w B b g M nx gd rs m j) (hBb:B≤b) {v:Bool} (hv:v=M.good j) {w1:World} (hw1:w1=w.alloc (.cells #[.bool v] bN)) (hB:B≤w.heap.size) (hj:j≤100000):
  ∃(gd':Sl) (w2:World),(Builtin.append_ #[jC,jC] jC #[.slice gd.a gd.n gd.c,.slice (some (nb w)) 1 1]).run Tryz.prog w1= .ok (.slice gd'.a gd'.n gd'.c) w2∧(∃u,w2.cell? ((⟨b,0,none⟩:Addr).add 2)=some u)∧w2.frozen? ((⟨b,0,none⟩:Addr).add 2)=false∧∀w3,w3=w2.setCell ((⟨b,0,none⟩:Addr).add 2) gd'.v→jK w3 B b g M nx gd' rs m (j+1)∧(∀w0,Below B w0 w→Below B w0 w3):=by
 have hnn:=(LsAt.of_own Ds h.ogd).n;rw [List.length_map,List.length_range]at hnn;obtain⟨gd',w2,e1,e2,e3,e4,e5⟩:=Ds.push h.ogd v hw1 rfl hB (by omega) (by decide);have y1:w2.heap[b]? =some (.cells (uq g nx gd 0 0 bV) dI (0,0)):=(e5 b (Array.getElem?_eq_some_iff.1 h.blk).1 (az h.ogd h.blk (by decide))).trans h.blk;refine⟨gd',w2,e2,⟨_,by rw [aV y1];rfl⟩,be y1,?_⟩;intro w3 hw3;have hs:∀j,j≠b→w3.heap[j]? =w2.heap[j]? :=by
  intro j hj;subst hw3;exact aq (by rw [ax];exact hj)
 have same:∀ {B sz n:Nat} {e:TypeId} {u:Value} {xs:List Value},w.ownsRow B e sz u n xs→e≠bN→e≠dI→w3.ownsRow B e sz u n xs:=by
  intro B sz n e u xs ho h1 h2;refine aN ho fun k hk=>?_;rw [hs k fun e=>az ho h.blk h2 (by rw [hk,e])];exact e5 k (b_ ho k hk).2 (bW ho h.ogd h1 k hk)
 refine⟨⟨by subst hw3;exact bL y1 _,same h.onx (by decide) (by decide),h.rl,fun i r hr=>same (h.each i r hr) (by decide) (by decide),?_⟩,fun w0 h0=>by subst hw3;exact bJ (e4 _ h0) hBb _⟩;rw [List.range_succ,List.map_append,List.map_cons,List.map_nil, ←hv];exact aN e3 fun k hk=>hs k fun e=>az e3 y1 (by decide) (by rw [hk,e])
theorem jK.done {w:World} {B b g:Nat} {M:Aut} {nx gd:Sl} {rs:List Sl} (h:jK w B b g M nx gd rs M.N M.N) (hok:M.Ok):lV w b g M none:=
 ⟨nx,gd,bV,rs,0,h.blk,⟨bG h.onx (Nat.zero_le _),h.rl,fun i r hr=>bG (h.each i r hr) (Nat.zero_le _),bG h.ogd (Nat.zero_le _),hok⟩,rfl,rfl⟩
theorem sM (w:World) (ob:Nat) {eo:TypeId} (of:Sl) (f:Nat→Nat) (n:Nat) (ho:w.heap[ob]? =some (.cells #[of.v] eo (0,0))) (hl:of.n=n) (hr:Rw aQ 1 w of.a (((List.range n).map f).map fun i:Nat=>(i:Int))) (s:Nat) (hs:s<n):
  CP 109 #[.int .i64 (s:Int),.pointer (some ⟨ob,0,none⟩)] w fun e w'=>e= .returned (.int .i64 ((f s:Nat):Int))∧w'=w:=by
 refine aL (xm s (some ⟨ob,0,none⟩) w) ?_;obtain⟨p,hp,c⟩:=gU hr hs;exact af.mk _ rfl ⟨_,_,_,bC ho,af.mk p hp ⟨by omega,by omega,_,c,rfl,rfl⟩⟩
theorem GB {l:List Nat} {x:Nat} (h:x∈l):l.idxOf? x=some (l.idxOf x):=by
 induction l with
 |nil=>cases h
 |cons y l ih=>
  rw [List.idxOf?_cons,List.idxOf_cons];by_cases e:y=x
  ·simp [e]
  ·have:x∈l:=by
    rcases List.mem_cons.1 h with h |h
    ·exact absurd h.symm e
    ·exact h
   have hb:(y==x)=false:=by simpa using e
   simp [hb,ih this]
set_option maxHeartbeats 1000000 in
theorem ka (w:World) (a g:Nat) (M:Aut) (o:Option (Nat→Nat)) (h:lV w a g M o) (hN:M.N≤10000) (hn:M.n≤10000):
  CP 56 #[.pointer (some ⟨a,0,none⟩)] w fun e w'=>∃(b:Nat) (f:Nat→Nat),e= .returned (.pointer (some ⟨b,0,none⟩))∧(∀f0,o=some f0→f=f0)∧Aut.Cls M f∧eu w' b g (Aut.least M f)∧lV w' a g M (some f)∧w.heap.size≤b∧au a w w':=by
 refine aL (AQ (some ⟨a,0,none⟩) w) ?_;refine ac.no rfl ((Bw w a g M o h hN hn).mono ?_);rintro e w1 ⟨of,f,rfl,hof,hofn,hofr,hA,t1⟩;have hc:Aut.Cls M f:=by
  obtain⟨_,_,_,_,_,_,_,_,h,_⟩:=hA;exact h
 obtain⟨next,good,of',rs0,d,hblk,hM⟩:=hA.blk;have hok:=hM.ok;have hal:=hA.lt;refine⟨_,_,_,rfl,?_⟩;intro w2 hw2;refine gT hw2 rfl ?_;intro w3 o3 b3;have hM3:=hM.on b3;refine(Fm w3 a (ah b3 hblk) M next good rs0 hM3 rfl hN hn _ f hc.lt fun s hs z hz=>bT (by kernel_rfl) (sM z w1.heap.size of f M.N (ah hz o3) hofn ((hofr.on b3).on hz) s hs)).mono ?_;rintro e w4 ⟨l,m,rfl,hln,hlo,hm,b4⟩;have hb4:=ae b3 b4;have hA4:=hA.on hb4;refine⟨_,_,_,_,rfl,af.mk _ rfl ⟨_,by rw [ko (ah hb4 hblk)];rfl,?_⟩⟩;intro w5 hw5;have b5:Below w4.heap.size w4 w5:=by subst hw5;exact ag _ _
 obtain⟨M',hM'⟩:∃M',M'=Aut.least M f:=⟨_,rfl⟩;have hok':M'.Ok:=by rw [hM'];exact Aut.least_ok hok hc.lt
 have hN':M'.N=(metL M f).length:=by rw [hM'];rfl
 have hn':M'.n=M.n:=by rw [hM'];rfl
 have hfew:=Aut.met_few hok hc.lt M.N;change(metL M f).length≤M.N at hfew;have start:jK w5 w4.heap.size w4.heap.size g M' bV bV [] 0 0:=⟨by subst hw5;exact ak _ _,cS _ _ _ _ ro,rfl,(by intro i r h;cases h),cS _ _ _ _ dM⟩;have hl1:w1.heap.size<w4.heap.size:=(Array.getElem?_eq_some_iff.1 (ah b4 o3)).1;intro I hI;let Inv (p:Nat) (q:World):Prop:=∃nx gd rs,jK q w4.heap.size w4.heap.size g M' nx gd rs p p∧Below w4.heap.size w4 q;have key:=aX (α:=World) M'.N Inv (fun p q=>I [.int .i64 (p:Int)] q) w5 ⟨bV,bV,[],start,b5⟩ ?_ ?_
 ·exact key
 ·rintro p hp ih q ⟨nx,gd,rs,R,hB⟩;have hpl:p< (metL M f).length:=by omega
  obtain⟨s,hs⟩:∃s,s=(metL M f)[p]:=⟨_,rfl⟩;have hsN:s<M.N:=by rw [hs];exact(Aut.met_mid hok f).lt _ (List.getElem_mem hpl)
  have hsD:(metL M f).getD p 0=s:=by rw [Aut.getD_at hpl,hs]
  have hnxt:∀k,M'.nxt p k=((metL M f).map f).idxOf (f (M.nxt s k)):=by
   intro k;rw [hM'];show((metL M f).map f).idxOf (f (M.nxt ((metL M f).getD p 0) k))=_;rw [hsD]
  have hgd:M'.good p=M.good s:=by
   rw [hM'];show M.good ((metL M f).getD p 0)=_;rw [hsD]
  have hlsq:=(LsAt.of_own fK (xs:=(metL M f).map fun i:Nat=>(i:Int)) hlo).r.on hB;obtain⟨p0,hp0,c0⟩:=aZ hlsq (show p< ((metL M f).map fun i:Nat=>(i:Int)).length by simpa using hpl) (v:=.int .i64 ((s:Nat):Int)) (by simp [aQ,hs]);have hrl:s<rs0.length:=by rw [hM.rl];exact hsN
  have hMq:=(hM.on hb4).on hB;have hbq:=ah hB (ah hb4 hblk);obtain⟨p2,hp2,c2,hrn,_⟩:=hMq.rowAt hsN hrl;have hnl:=hM.len;refine hI _ _ (ac.yes (decide_eq_true (by omega)) (af.mk p0 hp0 ⟨by omega,by omega,_,c0,af.mk _ rfl ⟨_,_,_,by rw [ko hbq];rfl,af.mk p2 hp2 ⟨by omega,by omega,_,_,_,c2,?_⟩⟩⟩));intro I2 hI2;have key2:=aX (α:=Sl×World) M.n (fun k y=>y.2.ownsRow q.heap.size bf 1 y.1.v y.1.n (fI ((List.range k).map (M'.nxt p)))∧y.1.n=k∧Below q.heap.size q y.2) (fun k y=>I2 [.int .i64 (k:Int),y.1.v] y.2) (bV,q) ⟨cS _ _ _ _ aQ,rfl,Below.refl _ _⟩ ?_ ?_
  ·exact key2
  ·rintro k hk ih2 ⟨t,z⟩ ⟨hto,htn,hBz⟩;change z.ownsRow q.heap.size bf 1 t.v t.n _ at hto;change t.n=k at htn;change Below q.heap.size q z at hBz;have hB4z:Below w4.heap.size w4 z:=ae hB hBz;obtain⟨_,_,_,_,hrr⟩:=(hMq.on hBz).rowAt hsN hrl;obtain⟨p3,hp3,c3⟩:=gU hrr hk;obtain⟨x,hx⟩:∃x,x=M.nxt s k:=⟨_,rfl⟩;have hxN:x<M.N:=by rw [hx];exact hok.lt s k hsN hk
   rw [←hx]at c3;have oz:=ah hB4z (ah b4 o3);obtain⟨p4,hp4,c4⟩:=gU (((hofr.on b3).on b4).on hB4z) hxN;have hmem:f x∈(metL M f).map f:=by
    rw [hx];exact Aut.met_in hok hc.lt (j:=p) (by rw [List.getElem?_eq_getElem hpl,hs]) hk
   have hlk:=sY nl uE eE (hm.on hB4z) ((f x:Nat):Int);rw [nJ,GB hmem]at hlk;refine hI2 _ t.a t.n t.c z (ac.yes (decide_eq_true (by omega)) (af.mk p3 hp3 ⟨by omega,by omega,_,c3,_,_,_,bC oz,af.mk p4 hp4 ⟨by omega,by omega,_,c4,_,z,hlk,?_⟩⟩));intro z1 hz1;obtain⟨t',z2,e1,e2,e3,e4,_⟩:=fK.push (xs:=((List.range k).map (M'.nxt p)).map fun i:Nat=>(i:Int)) hto ((((metL M f).map f).idxOf (f x):Nat):Int) hz1 rfl hBz.size (by omega) (by decide);refine⟨t'.a,t'.n,t'.c,z2,e2,Ar.nat (k+1) rfl (by omega) (ih2 (t',z2) ⟨?_,by show t'.n=k+1;omega,e4 _ hBz⟩)⟩;rw [List.range_succ,List.map_append,List.map_cons,List.map_nil,s_,hnxt k, ←hx];exact e3
  ·rintro⟨t,z⟩ ⟨hto,htn,hBz⟩;change z.ownsRow q.heap.size bf 1 t.v t.n _ at hto;change Below q.heap.size q z at hBz;have hB4z:Below w4.heap.size w4 z:=ae hB hBz;have Rz:=R.on hBz;rw [←hn']at hto;refine hI2 _ t.a t.n t.c z (ac.no (decide_eq_false (by omega)) ⟨_,_,_,by rw [aV Rz.blk];rfl,?_⟩);intro z1 hz1;obtain⟨nx',z2,e2,u2,f2,k2⟩:=Rz.pushRow (Nat.le_refl _) (bG hto hB.size) hz1 hB4z.size (by omega);refine⟨nx'.a,nx'.n,nx'.c,z2,e2,rfl,u2,f2,?_⟩;intro z3 hz3;obtain⟨R3,bz3,_⟩:=k2 z3 hz3;have hB3:=bz3 _ hB4z;intro z4 hz4;have b34:Below z3.heap.size z3 z4:=by subst hz4;exact aO z3
   have R4:=R3.on b34;have hB4':=ae hB3 b34;have hM4:=(hM.on hb4).on hB4';obtain⟨p5,hp5,c5⟩:=hM4.good hsN;refine⟨_,_,_,by rw [aV R4.blk];rfl,af.mk _ rfl ⟨_,_,_,by rw [ko (ah hB4' (ah hb4 hblk))];rfl,af.mk p5 hp5 ⟨by omega,by omega,_,c5,?_⟩⟩⟩;intro z5 hz5;obtain⟨gd',z6,e6,u6,f6,k6⟩:=R4.pushGood (Nat.le_refl _) hgd.symm hz5 hB4'.size (by omega);have b45:Below z4.heap.size z4 z5:=by subst hz5;exact ag _ _
   refine⟨⟨by rw [aV (R4.on b45).blk];rfl,trivial⟩,gd'.a,gd'.n,gd'.c,z6,e6,rfl,u6,f6,?_⟩;intro z7 hz7;obtain⟨R7,bz7⟩:=k6 z7 hz7;exact Ar.nat (p+1) rfl (by omega) (ih z7 ⟨nx',gd',_,R7,bz7 _ hB4'⟩)
 ·rintro q ⟨nx,gd,rs,R,hB⟩;have hw1:w.heap.size≤w1.heap.size:=t1.size;refine hI _ _ (ac.no (decide_eq_false (by omega)) ⟨w4.heap.size,f,rfl,fun f0 h=>(hof f0 h).1,hc,⟨none,?_⟩,hA4.on hB,by omega,(t1.trans (au.of_below hb4)).trans (au.of_below hB)⟩);rw [←hM'];exact R.done hok'
theorem AL (w:World) (a g:Nat) (M:Aut) (h:eu w a g M) (hN:M.N≤10000) (hn:M.n≤10000):
  CP 56 #[.pointer (some ⟨a,0,none⟩)] w fun e w'=>∃(b:Nat) (f:Nat→Nat),e= .returned (.pointer (some ⟨b,0,none⟩))∧Aut.Cls M f∧eu w' b g (Aut.least M f)∧eu w' a g M∧w.heap.size≤b∧au a w w':=by
 obtain⟨o,h⟩:=h;refine(ka w a g M o h hN hn).mono ?_;rintro e w' ⟨b,f,rfl,_,h1,h2,h3,h4,h5⟩;exact⟨b,f,rfl,h1,h2,⟨_,h3⟩,h4,h5⟩
section
variable {A:Option Addr} {C:Nat} {l:List Int}
end
theorem DI (c:Nat) (hc:c<4294967296) (w:World):CP 163 #[.int .u64 1,.int .u64 (c:Int)] w fun e w'=>e= .returned (.tuple #[.int .u64 0,.int .u64 (c:Int)])∧w'=w:=by
 have hm:CP 209 #[.int .u64 1,.int .u64 (c:Int)] w fun e w'=>e= .returned (.tuple #[.int .u64 0,.int .u64 (c:Int)])∧w'=w:=by
  refine aL (yB 1 c w) ?_;unfold IU Ar;have a1:IntKind.wrap .u64 ((BitVec.ofInt (IntKind.bits .u64) (1:Int)&&&BitVec.ofInt (IntKind.bits .u64) 4294967295).toNat:Int)=1:=by decide
  have a2:IntKind.wrap .u64 ((BitVec.ofInt (IntKind.bits .u64) (c:Int)&&&BitVec.ofInt (IntKind.bits .u64) 4294967295).toNat:Int)=(c:Int):=by
   have:=LK c 4294967295 (by omega) (by decide);rw [show(c&&&4294967295:Nat)=c from by have:=Nat.and_two_pow_sub_one_eq_mod c 32;rw [show(2^32-1:Nat)=4294967295 by decide]at this;rw [this];exact Nat.mod_eq_of_lt hc]at this;exact this
  have a3:Int.fdiv (1:Int) (2^(min (32:Int).toNat (IntKind.bits .u64)))=0:=by decide
  have a4:Int.fdiv (c:Int) (2^(min (32:Int).toNat (IntKind.bits .u64)))=0:=by
   have:=O' c 32 (by decide);rw [show c/2^32=0 from Nat.div_eq_of_lt hc]at this;exact this
  have wc:IntKind.wrap .u64 (c:Int)=(c:Int):=jl c (by omega);have w0:IntKind.wrap .u64 (0:Int)=0:=by decide
  have z0:Int.fdiv (0:Int) (2^(min (32:Int).toNat (IntKind.bits .u64)))=0:=by decide
  have z1:IntKind.wrap .u64 ((BitVec.ofInt (IntKind.bits .u64) (0:Int)&&&BitVec.ofInt (IntKind.bits .u64) 4294967295).toNat:Int)=0:=by decide
  simp only [a1,a2,a3,a4,Int.one_mul,Int.zero_mul,Int.mul_zero,Int.zero_add,Int.add_zero,wc,w0,z0,z1];repeat first |trivial |exact⟨rfl,rfl⟩ |refine⟨by decide,?_⟩
 refine aL (yo 1 c w) ?_;refine hm.mono ?_;rintro e w1 ⟨rfl,hw⟩;exact⟨_,_,rfl,rfl,hw⟩
theorem my {B g:Nat} {w0 w:World} (hb:Below B w0 w) (hg:B≤g) (cs:Array Value):Below B w0 (w.setRow g cs):=
 hb.trans ⟨rfl,rfl,rfl,by rw [size_setRow];exact Nat.le_refl _,fun k hk=>setRow_other w g k cs (by omega)⟩
theorem yG (w:World) (A:Option Addr) (C N:Nat) (h1:1≤C) (hx:Rw dM 1 w A [true]) (hN:1≤N) (hN2:N≤1000000):
  CP 106 #[.slice A 1 C,.int .i64 (N:Int)] w fun e w'=>∃l:Sl,e= .returned l.v∧l.n=N∧w'.ownsRow w.heap.size bN 1 l.v l.n ((List.replicate N true).flatMap dM)∧Below w.heap.size w w':=by
 refine aL (zU A 1 C N w) ?_;intro J1 hJ1;refine ac.no (decide_eq_false (by omega)) (hJ1 _ ?_);have hwN:IntKind.wrap .u64 (N:Int)=(N:Int):=jl N (by omega);rw [hwN];refine(DI N (by omega) w).mono ?_;rintro e w1 ⟨rfl,hw⟩;subst w1;refine⟨_,_,rfl,?_⟩;intro J2 hJ2;refine ac.no rfl (ac.no (decide_eq_false (by omega)) (hJ2 _ ?_));have hwi:IntKind.wrap .i64 (N:Int)=(N:Int):=dm (by show(-9223372036854775808:Int)≤_;omega) (by show _≤(9223372036854775807:Int);omega);rw [hwi];refine⟨_,_,_,_,lE w N hN2,?_⟩;have b1:=ag w (.cells (Array.replicate N (.bool false)) bN);have o1:(w.alloc (.cells (Array.replicate N (.bool false)) bN)).heap[w.heap.size]? =some (.cells (Array.replicate N (.bool false)) bN (0,0)):=ak _ _;obtain⟨w1,hw1⟩:∃w1,w1=w.alloc (.cells (Array.replicate N (.bool false)) bN):=⟨_,rfl⟩;rw [←hw1]at b1 o1;rw [←hw1];let cur (m:Nat):List Value:=List.replicate m (.bool true)++List.replicate (N-m) (.bool false);have clen:∀m,m≤N→(cur m).length=N:=by intro m hm;simp [cur];omega
 have info1:(Tryz.prog.info? bN).map (·.size)=some 1:=by
  obtain⟨i,hi,_,hs,_⟩:=zK;rw [hi];exact congrArg some hs
 have hst:∀(q:World) (m k:Nat),m+k≤N→q.heap[w.heap.size]? =some (.cells (cur m).toArray bN (0,0))→(q.setRow w.heap.size (((cur m).toArray.toList.take m++List.replicate k (Value.bool true))++(cur m).toArray.toList.drop (m+(List.replicate k (Value.bool true)).length)).toArray).heap[w.heap.size]? =some (.cells (cur (m+k)).toArray bN (0,0)):=by
  intro q m k hm hq;rw [setRow_heap _ _ _ _ _ _ hq];congr 3;simp only [cur,List.length_replicate];rw [List.take_append_of_le_length (by simp),List.take_of_length_le (by simp),List.drop_append,List.length_replicate,List.drop_eq_nil_of_le (by simp),List.nil_append,List.drop_replicate,List.replicate_append_replicate];congr 2;omega
 have k1:w1.heap[w.heap.size]? =some (.cells (cur 0).toArray bN (0,0)):=by
  rw [o1,show(cur 0).toArray=Array.replicate N (.bool false) by simp [cur]]
 obtain⟨p,hp,_,hc⟩:=(hx.on b1) 0 true rfl;have c0:=hc 0 _ rfl;rw [Nat.zero_mul,ay,ay]at c0;subst hp;have cp1:=run_copy_row Tryz.prog w1 jC jC bf bN w.heap.size 0 N N p 1 C (cur 0).toArray bN (List.replicate 1 (.bool true)) AU info1 k1 (by rw [List.length_replicate];show 1=min 1 N;omega) (by
  intro j v hj
  match j,hj with
  |0,hj=>cases hj;rw [ay];exact c0) (by simp [clen 0 (Nat.zero_le _)];omega) (by intro v hv;simp at hv;subst hv;rfl)
 have k2:=hst w1 0 1 (by omega) k1;refine⟨_,_,cp1,?_⟩;intro I hI;have loop:∀(d m:Nat) (q:World),N-m≤d→1≤m→m≤N→q.heap[w.heap.size]? =some (.cells (cur m).toArray bN (0,0))→Below w.heap.size w q→I [.int .i64 (m:Int)] q:=by
  have fin:∀(q:World),q.heap[w.heap.size]? =some (.cells (cur N).toArray bN (0,0))→Below w.heap.size w q→I [.int .i64 (N:Int)] q:=by
   intro q hq hB;refine hI _ _ (ac.no (decide_eq_false (by omega)) ⟨⟨some (nb w),N,N⟩,rfl,rfl,⟨by simp [dM],.inr ⟨w.heap.size,N,_,rfl,Nat.le_refl _,hq,Nat.le_refl _,by unfold maxLen;omega,by simp [cur],?_⟩⟩,hB⟩);simp [cur,dM,List.flatMap_replicate]
  intro d;induction d with
  |zero=>
   intro m q hd h1m hmN hq hB;obtain rfl:m=N:=by omega
   exact fin q hq hB
  |succ d ihd=>
   intro m q hd h1m hmN hq hB;by_cases e:m=N
   ·subst e;exact fin q hq hB
   obtain⟨k,hk⟩:∃k,k=min m (N-m):=⟨_,rfl⟩;have hkp:1≤k∧m+k≤N∧k≤m:=by omega
   refine hI _ _ (ac.yes (decide_eq_true (by omega)) ?_);intro q1 hq1;have bq:Below q.heap.size q q1:=by subst hq1;exact aO q
   have hq':=ah bq hq;have hB1:=ae hB bq;refine⟨by omega,by omega,trivial,trivial,trivial,by omega,by omega,by omega,trivial,trivial,?_⟩;have es:bh (some (nb w)) ((m:Int)).toNat (((N:Nat):Int)).toNat 1=some ⟨w.heap.size,m,none⟩:=by
    unfold bh;rw [if_neg (by omega)];show some ((nb w).add (m*1))=_;rw [aC,Nat.mul_one,Nat.zero_add]
   have ed:bh (some (nb w)) (0:Int).toNat (((N:Nat):Int)).toNat 1=some ⟨w.heap.size,0,none⟩:=by
    unfold bh;rw [if_neg (by omega)];show some ((nb w).add (0*1))=_;rw [Nat.zero_mul,ay]
   rw [es,ed];have cp:=run_copy_row Tryz.prog q1 jC jC bf bN w.heap.size m (((N:Nat):Int).toNat- (m:Int).toNat) (((N:Nat):Int).toNat- (m:Int).toNat) ⟨w.heap.size,0,none⟩ ((m:Int).toNat- (0:Int).toNat) (((N:Nat):Int).toNat- (0:Int).toNat) (cur m).toArray bN (List.replicate k (.bool true)) AU info1 hq' (by
    rw [List.length_replicate,hk];show min m (N-m)=min (m-0) (N-m);rw [Nat.sub_zero]) (by
    intro j v hj;rw [List.getElem?_replicate]at hj;split at hj
    ·next hjk=>
     cases hj;rw [aj _ _ hq'];simp only [List.getElem?_toArray,cur];rw [List.getElem?_append_left (by simp;omega),List.getElem?_replicate,if_pos (by omega)]
    ·cases hj) (by simp [clen m hmN];omega) (by intro v hv;rw [(List.mem_replicate.1 hv).2];rfl)
   have k3:=hst q1 m k (by omega) hq';refine⟨_,_,cp,?_⟩;rw [List.length_replicate];refine Ar.nat (m+k) (by omega) (by omega) (ihd (m+k) _ (by omega) (by omega) (by omega) ?_ (my hB1 (Nat.le_refl _) _));rw [List.length_replicate]at k3;exact k3
 exact loop N 1 _ (by omega) (Nat.le_refl _) hN k2 (my b1 (Nat.le_refl _) _)
abbrev Pv:TypeId:=32
abbrev CE:TypeId:=47
abbrev Mz:TypeId:=133
def dc (s:ar) (T:List aP):Aut:=eK (gN s T) (gW s T) (ct s T)
abbrev Dr (b:Nat):Value:=.func (.func 100) #[] #[.pointer (some ⟨b,0,none⟩)]
theorem lX (w:World) (gb g:Nat) {ec:TypeId} (s:ar) (T:List aP) (h:ja w g s T) (hc:w.heap[gb]? =some (.cells #[.pointer (some ⟨g,0,none⟩)] ec (0,0))) (i:Nat) (hi:i<gN s T):
  CP 100 #[.int .i64 (i:Int),.pointer (some ⟨gb,0,none⟩)] w fun e w'=>e= .returned (.int .i64 ((bx s T).getD i 0))∧w'=w:=by
 refine aL (wK i (some ⟨gb,0,none⟩) w) ?_;refine af.mk _ rfl ⟨_,bC hc,(Br w g s T h i hi).mono ?_⟩;rintro e w1 ⟨rfl,hw⟩;exact⟨_,_,rfl,rfl,hw⟩
theorem sB (w:World) (gb fb g:Nat) {ec ef:TypeId} (s:ar) (T:List aP) (h:ja w g s T) (hn:gN s T≤1032) (hc:w.heap[gb]? =some (.cells #[.pointer (some ⟨g,0,none⟩)] ec (0,0))) (hf:w.heap[fb]? =some (.cells #[Dr gb] ef (0,0))) (i:Nat) (hi:i<gN s T):
  CP 102 #[.int .i64 (i:Int),.pointer (some ⟨gb,0,none⟩),.pointer (some ⟨fb,0,none⟩)] w fun e w'=>e= .returned (.bool (gW s T i))∧Below w.heap.size w w':=by
 refine aL (xI i (some ⟨gb,0,none⟩) (some ⟨fb,0,none⟩) w) ?_;intro w1 hw1;have b1:Below w.heap.size w w1:=by subst hw1;exact aO w
 have hc1:=ah b1 hc;refine af.mk _ rfl ⟨_,bC hc1,af.mk _ rfl ⟨_,bC (ah b1 hf),(show bH gr (Dr gb) [.int .i64 (i:Int)] w1 _ from bT (by kernel_rfl) (lX w1 gb g s T (h.on b1) hc1 i hi)).mono ?_⟩⟩;rintro e w2 ⟨rfl,hw⟩;subst w2;refine⟨_,rfl,⟨bC hc1,trivial⟩,(oN w1 g s T (h.on b1) hn _).mono ?_⟩;rintro e w3 ⟨rfl,hw⟩;subst w3;rw [FU hi];exact⟨_,rfl,rfl,b1⟩
theorem xB (w:World) (rb:Nat) {er:TypeId} (r:Sl) (n:Nat) (p:Nat→Bool) (hr:Rw dd 1 w r.a (bu n p)) (hl:r.n=(bu n p).length) (hn:n≤100000) (hb:w.heap[rb]? =some (.cells #[r.v] er (0,0))) (i:Nat) (hi:i<n):
  CP 104 #[.int .i64 (i:Int),.pointer (some ⟨rb,0,none⟩)] w fun e w'=>e= .returned (.bool (p i))∧Below w.heap.size w w':=by
 refine aL (wH i (some ⟨rb,0,none⟩) w) ?_;unfold I8;rw [CA i (by omega),FN];rw [cK]at hl;have hk:i/64< (n+63)/64:=by omega
 obtain⟨q,hq,_,hc⟩:=hr _ _ (oL n p hk);have c0:=hc 0 _ rfl;rw [ay]at c0;refine af.mk _ rfl ⟨_,_,_,bC hb,by decide,af.mk q hq ⟨by omega,by omega,_,c0,by decide,by omega,?_,Below.refl _ _⟩⟩;rw [C8 _ _ (nM _ _ _) (Nat.mod_lt _ (by decide)),oH n p hi]
theorem AT (i:Nat) (w:World):CP 105 #[.int .i64 (i:Int)] w fun e w'=>e= .returned (.bool false)∧Below w.heap.size w w':=
 aR (yg i w (fun u w'=>u= .bool false∧Below w.heap.size w w') ⟨rfl,Below.refl _ _⟩) (by rintro v w' ⟨rfl,h⟩;exact⟨rfl,h⟩)
theorem E4 {n:Nat} {al:Nat→Bool} {rel:Nat→Nat→Bool} {m:Nat→Bool} {i:Nat} (h:∀k,k<n→m k=df n al rel i k):((List.range n).map fun k=>((if m k then k+1 else n+1:Nat):Int)).flatMap aQ=fI ((List.range (eK n al rel).n).map ((eK n al rel).nxt i)):=by
 unfold fI;rw [List.map_map];congr 1;apply List.map_congr_left;intro k hk;show((if m k then k+1 else n+1:Nat):Int)=((if df n al rel i k then k+1 else n+1:Nat):Int);rw [h k (List.mem_range.1 hk)]
theorem jK.put {w:World} {B b g:Nat} {M:Aut} {nx gd:Sl} {rs:List Sl} {m j:Nat} (h:jK w B b g M nx gd rs m j) {k:Nat} {c:Array Value} (hk:w.heap[k]? =some (.cells c CE (0,0))) (u:Value):jK (w.setCell ⟨k,0,none⟩ u) B b g M nx gd rs m j:=by
 have hkb:b≠k:=by
  rintro rfl;rw [h.blk]at hk;cases hk
 exact⟨(aq hkb).trans h.blk,bB h.onx u (az h.onx hk (by decide)),h.rl,fun i r hr=>bB (h.each i r hr) u (az (h.each i r hr) hk (by decide)),bB h.ogd u (az h.ogd hk (by decide))⟩
set_option maxHeartbeats 4000000 in
theorem sV (w:World) (g:Nat) (s:ar) (T:List aP) (h:ja w g s T) (hn:gN s T≤1032) (hr:qm s T) (most:Int):
  CP 54 #[.pointer (some ⟨g,0,none⟩),.int .i64 most] w fun e w'=>Below w.heap.size w w'∧((((gN s T+2)*gN s T:Nat):Int)>most→e= .returned (.tuple #[.pointer none,.int .i64 5]))∧(¬(((gN s T+2)*gN s T:Nat):Int)>most→∃a,e= .returned (.tuple #[.pointer (some ⟨a,0,none⟩),.int .i64 0])∧w.heap.size≤a∧eu w' a g (dc s T)):=by
 let R:Value→World→Prop:=fun u w'=>Below w.heap.size w w'∧((((gN s T+2)*gN s T:Nat):Int)>most→u= .tuple #[.pointer none,.int .i64 5])∧(¬(((gN s T+2)*gN s T:Nat):Int)>most→∃a,u= .tuple #[.pointer (some ⟨a,0,none⟩),.int .i64 0]∧w.heap.size≤a∧eu w' a g (dc s T));refine aR (Bx (some ⟨g,0,none⟩) most w R ?_) (by rintro v w' ⟨h1,h2,h3⟩;exact⟨h1,fun e=>by rw [h2 e],fun e=>by obtain⟨a,rfl,h⟩:=h3 e;exact⟨a,rfl,h⟩⟩);intro w1 hw1;have b1:Below w.heap.size w w1:=by subst hw1;exact ag _ _
 have l1:w1.heap[w.heap.size]? =some (.cells #[.pointer (some ⟨g,0,none⟩)] Pv (0,0)):=by subst hw1;exact ak _ _
 have s1:w.heap.size<w1.heap.size:=(Array.getElem?_eq_some_iff.1 l1).1;refine⟨_,bC l1,(dt w1 g s T (h.on b1)).mono ?_⟩;rintro e w2 ⟨rfl,hw⟩;subst w2;obtain⟨n,hgn⟩:∃n,n=gN s T:=⟨_,rfl⟩;have hgl:(bx s T).length=n:=hgn.symm;have hn2:n≤1032:=by omega
 have hmul:(n+2)*n≤1034*1032:=Nat.mul_le_mul (by omega) hn2;rw [hgl];refine⟨_,rfl,_,bC l1,ac.no rfl (Ar.nat (n+2) rfl (by omega) (Ar.nat ((n+2)*n) (by simp) (by omega) (ac.mk (fun hm=>?_) fun hm=>?_)))⟩
 ·have hm:=of_decide_eq_true hm;rw [hgn]at hm;exact⟨b1,fun _=>rfl,fun h=>absurd hm h⟩
 have hm:=of_decide_eq_false hm;rw [hgn]at hm;refine⟨_,bC l1,?_⟩;intro w3 hw3;have b3:Below w1.heap.size w1 w3:=by subst hw3;exact ag _ _
 obtain⟨M,hM⟩:∃M,M=dc s T:=⟨_,rfl⟩;have hMn:M.n=n:=by rw [hM,hgn];rfl
 have hMN:M.N=n+2:=by rw [hM,hgn];rfl
 have R3:jK w3 w1.heap.size w1.heap.size g M bV bV [] 0 0:=⟨by subst hw3;exact ak _ _,cS _ _ _ _ ro,rfl,(by intro i r h;cases h),cS _ _ _ _ dM⟩;refine Ar.nat (n+1) rfl (by omega) ?_;intro w4 hw4;refine gT hw4 rfl ?_;intro w5 l5 b5;intro w6 hw6;have b6:Below w5.heap.size w5 w6:=by subst hw6;exact aO w5
 have b36:=ae b5 b6;have b16:=ae b3 b36;have hb6:=ae b1 b16;have R6:=R3.on b36;have f6:=ah b6 l5;have g6:=ah b16 l1;have h6:=h.on hb6;have hall:∀(f:Nat→Bool) (i:Nat),(∀k,k<n→f k=df (gN s T) (gW s T) (ct s T) i k)→((List.range n).map fun k=>((if f k then k+1 else n+1:Nat):Int)).flatMap aQ=fI ((List.range M.n).map (M.nxt i)):=by
  intro f i hf;rw [hM,hgn];exact E4 (by rw [←hgn]at hf⊢;exact hf)
 refine⟨bV.a,bV.n,bV.c,by rw [aV R6.blk];rfl,(lQ w6 n (n+1) _ (gW s T) (by omega) fun k hk q hq=>bT (by kernel_rfl) (sB q w.heap.size w3.heap.size g s T (h6.on hq) hn (ah hq g6) (ah hq f6) k (by omega))).mono ?_⟩;rintro e w7 ⟨l,rfl,hl,hlo,b7⟩;have R7:=R6.on b7;refine⟨l.a,l.n,l.c,rfl,⟨by rw [aV R7.blk];rfl,trivial⟩,?_⟩;intro w8 hw8;have b8:Below w7.heap.size w7 w8:=by subst hw8;exact ag _ _
 have b17:=ae b16 b7;have f7:=ah b7 f6;have hs1:w1.heap.size≤w6.heap.size:=b16.size;obtain⟨nx,w9,e9,u9,z9,k9⟩:=R7.pushRow (Nat.le_refl _) (r:=l) (by rw [←hall (gW s T) 0 (fun k _=>rfl)];exact bG hlo hs1) hw8 b17.size (by omega);refine⟨⟨by rw [aV (R7.on b8).blk];rfl,trivial⟩,nx.a,nx.n,nx.c,w9,e9,rfl,u9,z9,?_⟩;intro w10 hw10;obtain⟨R10,B10,K10⟩:=k9 w10 hw10;have f10:=K10 f7 (by decide) (by decide);have b110:=B10 w1 b17;intro I hI;let Inv (i:Nat) (q:World):Prop:=∃nx rs,jK q w1.heap.size w1.heap.size g M nx bV rs (i+1) 0∧Below w1.heap.size w1 q∧q.heap[w3.heap.size]? =some (.cells #[Dr w.heap.size] Mz (0,0));have key:=aX (α:=World) n Inv (fun i q=>I [.int .i64 (i:Int)] q) w10 ⟨nx,_,R10,b110,f10⟩ ?_ ?_
 ·exact key
 ·rintro i hi ih q ⟨nx,rs,Rq,Bq,fq⟩;have hi':i<gN s T:=by omega
  have tail:∀(z:World) (rb:Nat) (r:Sl),z.heap[rb]? =some (.cells #[r.v] CE (0,0))→Rw dd 1 z r.a (bu n (ct s T i))→r.n=(bu n (ct s T i)).length→jK z w1.heap.size w1.heap.size g M nx bV rs (i+1) 0→Below w1.heap.size w1 z→z.heap[w3.heap.size]? =some (.cells #[Dr w.heap.size] Mz (0,0))→
    ∀w17:World,w17=z.drew→
           ∃lA_18:Option Addr,∃lN_19:Nat,∃lC_20:Nat,w17.cell? ((nb w1).add 1)=some (Value.slice lA_18 lN_19 lC_20)∧
           CP 101 #[Value.int .i64 (n:Int),Value.int .i64 ((n+1:Nat):Int),Value.func (.func 104) #[] #[Value.pointer (some ⟨rb,0,none⟩)]] w17 (fun e18 w18=>
           ∃lA_21:Option Addr,∃lN_22:Nat,∃lC_23:Nat,e18= .returned (Value.slice lA_21 lN_22 lC_23)∧
           (w18.cell? ((nb w1).add 1)=some (Value.slice lA_18 lN_19 lC_20)∧True)∧
           ∀w19:World,w19=w18.alloc (.cells #[Value.slice lA_21 lN_22 lC_23] d_)→
           (w19.cell? ((nb w1).add 1)=some (Value.slice lA_18 lN_19 lC_20)∧True)∧
           ∃lA_24:Option Addr,∃lN_25:Nat,∃lC_26:Nat,∃w20:World,(Builtin.append_ #[kA,kA] kA #[Value.slice lA_18 lN_19 lC_20,Value.slice (some (nb w18)) 1 1]).run Tryz.prog w19= .ok (Value.slice lA_24 lN_25 lC_26) w20∧
           (Value.slice lA_24 lN_25 lC_26).oneCell'=true∧(∃u,w20.cell? ((nb w1).add 1)=some u)∧w20.frozen? ((nb w1).add 1)=false∧
           ∀w21:World,w21=(w20.setCell ((nb w1).add 1) (Value.slice lA_24 lN_25 lC_26))→
           Ar .i64 ((i:Int)+1) (fun n_27=>I [Value.int .i64 n_27] w21)):=by
   intro z rb r hz hrw hrl Rz Bz fz w17 hw17;have bd:Below z.heap.size z w17:=by subst hw17;exact aO z
   have Rd:=Rz.on bd;refine⟨nx.a,nx.n,nx.c,by rw [aV Rd.blk];rfl,(lQ w17 n (n+1) _ (ct s T i) (by omega) fun k hk q hq=>bT (by kernel_rfl) (xB q rb r n (ct s T i) ((hrw.on bd).on hq) hrl (by omega) (ah hq (ah bd hz)) k hk)).mono ?_⟩;rintro e w18 ⟨l,rfl,hl,hlo,b18⟩;have R18:=Rd.on b18;refine⟨l.a,l.n,l.c,rfl,⟨by rw [aV R18.blk];rfl,trivial⟩,?_⟩;intro w19 hw19;have b19:Below w18.heap.size w18 w19:=by subst hw19;exact ag _ _
   have Bd:=ae Bz bd;have B18:=ae Bd b18;have f18:=ah b18 (ah bd fz);obtain⟨nx',w20,e20,u20,z20,k20⟩:=R18.pushRow (Nat.le_refl _) (r:=l) (by
    rw [←hall (ct s T i) (i+1) (fun k _=>by
     unfold df;rw [if_neg (by omega),if_pos (by omega)];rfl)]
    exact bG hlo Bd.size) hw19 B18.size (by omega)
   refine⟨⟨by rw [aV (R18.on b19).blk];rfl,trivial⟩,nx'.a,nx'.n,nx'.c,w20,e20,rfl,u20,z20,?_⟩;intro w21 hw21;obtain⟨R21,B21,K21⟩:=k20 w21 hw21;exact Ar.nat (i+1) rfl (by omega) (ih w21 ⟨nx',_,R21,B21 w1 B18,K21 f18 (by decide) (by decide)⟩)
  refine hI _ _ (ac.yes (decide_eq_true (by omega)) ?_);intro w12 hw12;have b12:Below q.heap.size q w12:=by subst hw12;exact aO q
  have B12:=ae Bq b12;have R12:=Rq.on b12;have f12:=ah b12 fq;have g12:=ah B12 l1;have h12:ja w12 g s T:=(h.on b1).on B12;have rowOf:∀(z:World),ja z g s T→CP 103 #[.pointer (some ⟨g,0,none⟩),.int .i64 ((bx s T).getD i 0)] z fun e z'=>∃r:Sl,e= .returned r.v∧Rw dd 1 z' r.a (bu n (ct s T i))∧r.n=(bu n (ct s T i)).length∧z'.ownsRow z.heap.size gH 1 r.v r.n ((bu n (ct s T i)).flatMap dd)∧Below z.heap.size z z':=by
   intro z hz;refine(DM z g s T hz hn _).mono ?_;rintro e z' ⟨bz,⟨hno,_⟩ |⟨k,l,hk,rfl,ho⟩⟩
   ·rw [ue hr hi']at hno;cases hno
   ·rw [ue hr hi']at hk;cases hk;rw [hgl]at ho;have hls:=LsAt.of_own qZ ho;exact⟨l,rfl,hls.r,hls.n,ho,bz⟩
  refine⟨_,bC g12,_,bC f12,(show bH gr (Dr w.heap.size) [.int .i64 (i:Int)] w12 _ from bT (by kernel_rfl) (lX w12 w.heap.size g s T h12 g12 i hi')).mono ?_,?_⟩
  ·rintro e w13 ⟨rfl,hw⟩;subst w13;refine⟨_,rfl,⟨bC g12,trivial⟩,(rowOf w12 h12).mono ?_,?_⟩
   ·rintro e w14 ⟨r,rfl,hrw,hrl,_,b14⟩;refine⟨_,_,_,rfl,?_⟩;intro w15 hw15;refine gT hw15 rfl ?_;intro w16 l16 b16';exact tail w16 w14.heap.size r l16 (hrw.on b16') hrl ((R12.on b14).on b16') (ae (ae B12 b14) b16') (ah b16' (ah b14 f12))
   ·intro w22 hw22;have b22:Below w12.heap.size w12 w22:=by subst hw22;exact ag _ _
    have o22:w22.heap[w12.heap.size]? =some (.cells #[.slice none 0 0] CE (0,0)):=by subst hw22;exact ak _ _
    refine⟨⟨bC (ah b22 g12),trivial⟩,(rowOf w22 (h12.on b22)).mono ?_⟩;rintro e w23 ⟨r,rfl,hrw,hrl,hro,b23⟩;have o23:=ah b23 o22;have b1223:=ae b22 b23;refine⟨_,_,_,rfl,rfl,⟨_,bC o23⟩,bo o23,?_⟩;intro w24 hw24;have hrl':=hrl;subst hw24;have hb24:Below w1.heap.size w1 (w23.setCell (nb w12) r.v):=(ae B12 b1223).setCell (p:=⟨w12.heap.size,0,none⟩) B12.size _;have hne:w3.heap.size≠w12.heap.size:=by have:=(Array.getElem?_eq_some_iff.1 f12).1;omega
    exact tail _ w12.heap.size r (bD o23 r.v) (LsAt.of_own qZ (bB hro r.v (az hro o23 (by decide)))).r hrl ((R12.on b1223).put o23 _) hb24 ((aq (show w3.heap.size≠(nb w12).block from hne)).trans (ah b1223 f12))
  ·intro w30 hw30;have b30:Below w12.heap.size w12 w30:=by subst hw30;exact ag _ _
   have o30:w30.heap[w12.heap.size]? =some (.cells #[.slice none 0 0] CE (0,0)):=by subst hw30;exact ak _ _
   have g30:=ah b30 g12;refine⟨⟨bC (ah b30 f12),trivial⟩,⟨bC g30,trivial⟩,(show bH gr (Dr w.heap.size) [.int .i64 (i:Int)] w30 _ from bT (by kernel_rfl) (lX w30 w.heap.size g s T (h12.on b30) g30 i hi')).mono ?_⟩;rintro e w31 ⟨rfl,hw⟩;subst w31;refine⟨_,rfl,⟨bC g30,trivial⟩,(rowOf w30 (h12.on b30)).mono ?_⟩;rintro e w32 ⟨r,rfl,hrw,hrl,hro,b32⟩;have o32:=ah b32 o30;have b1232:=ae b30 b32;refine⟨_,_,_,rfl,rfl,⟨_,bC o32⟩,bo o32,?_⟩;intro w33 hw33;subst hw33;have hb33:Below w1.heap.size w1 (w32.setCell (nb w12) r.v):=(ae B12 b1232).setCell (p:=⟨w12.heap.size,0,none⟩) B12.size _;have hne:w3.heap.size≠w12.heap.size:=by have:=(Array.getElem?_eq_some_iff.1 f12).1;omega
   exact tail _ w12.heap.size r (bD o32 r.v) (LsAt.of_own qZ (bB hro r.v (az hro o32 (by decide)))).r hrl ((R12.on b1232).put o32 _) hb33 ((aq (show w3.heap.size≠(nb w12).block from hne)).trans (ah b1232 f12))
 ·rintro q ⟨nx,rs,Rq,Bq,fq⟩;refine hI _ _ (ac.no (decide_eq_false (by omega)) ?_);intro w39 hw39;have b39:Below q.heap.size q w39:=by subst hw39;exact aO q
  have R39:=Rq.on b39;have B39:=ae Bq b39;refine⟨nx.a,nx.n,nx.c,by rw [aV R39.blk];rfl,(lQ w39 n (n+1) _ (fun _=>false) (by omega) fun k hk z hz=>bT (by kernel_rfl) (AT k z)).mono ?_⟩;rintro e w40 ⟨l,rfl,hl,hlo,b40⟩;have R40:=R39.on b40;have B40:=ae B39 b40;refine⟨l.a,l.n,l.c,rfl,⟨by rw [aV R40.blk];rfl,trivial⟩,?_⟩;intro w41 hw41;have b41:Below w40.heap.size w40 w41:=by subst hw41;exact ag _ _
  obtain⟨nx',w42,e42,u42,z42,k42⟩:=R40.pushRow (Nat.le_refl _) (r:=l) (by
   rw [←hall (fun _=>false) (n+1) (fun k _=>by
    unfold df;rw [if_neg (by omega),if_neg (by omega)])]
   exact bG hlo B39.size) hw41 B40.size (by omega)
  refine⟨⟨by rw [aV (R40.on b41).blk];rfl,trivial⟩,nx'.a,nx'.n,nx'.c,w42,e42,rfl,u42,z42,?_⟩;intro w43 hw43;obtain⟨R43,B43,_⟩:=k42 w43 hw43;have B43:=B43 w1 B40;intro w44 hw44;have b44:Below w43.heap.size w43 w44:=by subst hw44;exact ag _ _
  have hx:Rw dM 1 w44 (some (nb w43)) [true]:=by
   have o:w44.ownsRow 0 bN 1 (.slice (some (nb w43)) 1 1) 1 ([true].flatMap dM):=by subst hw44;exact fA _ rfl (by decide) (Nat.zero_le _)
   exact(LsAt.of_own (l:=⟨some (nb w43),1,1⟩) Ds o).r
  refine Ar.nat (n+2) rfl (by omega) ((yG w44 _ 1 (n+2) (Nat.le_refl _) hx (by omega) (by omega)).mono ?_);rintro e w45 ⟨gd,rfl,hgd,hgo,b45⟩;have b4345:=ae b44 b45;have R45:=R43.on b4345;have B45:=ae B43 b4345;refine⟨gd.a,gd.n,gd.c,rfl,rfl,⟨_,by rw [aV R45.blk];rfl⟩,be R45.blk,?_⟩;intro w46 hw46;have k46:w46.heap[w1.heap.size]? =some (.cells (uq g nx' gd 0 0 bV) dI (0,0)):=by subst hw46;exact bL R45.blk _
  have same46:∀ {B sz n:Nat} {e:TypeId} {u:Value} {xs:List Value},w45.ownsRow B e sz u n xs→e≠dI→w46.ownsRow B e sz u n xs:=by
   intro B sz n e u xs ho hne;subst hw46;exact bB ho _ (by rw [ax];exact az ho R45.blk hne)
  have B46:Below w1.heap.size w1 w46:=by subst hw46;exact bJ B45 (Nat.le_refl _) _
  have go46:=same46 hgo (by decide);obtain⟨ga,hga⟩:∃ga,gd.a=some ga:=by
   obtain⟨p,hp,_⟩:=(LsAt.of_own Ds go46).r 0 true (by simp [List.getElem?_replicate]);exact⟨p,hp⟩
  obtain⟨u,fz,k⟩:=fP (l:=gd) (enc:=dM) (sz:=1) (fun _=>rfl) (by decide) go46 (by simp [hgd]) hga (i:=n+1) (x:=true) (by simp [List.getElem?_replicate]) (k:=0) (by decide) false (.bool false) rfl;rw [ay]at u fz k;refine⟨_,_,_,by rw [aV k46];rfl,af.mk ga hga ⟨by omega,by omega,rfl,u,fz,?_⟩⟩;intro w47 hw47;obtain⟨o47,s47,z47,b47⟩:=k w47 hw47;have ne47:gd.v.ownBlock≠some w1.heap.size:=az go46 k46 (by decide);have same47:∀ {B sz n:Nat} {e:TypeId} {u:Value} {xs:List Value},w46.ownsRow B e sz u n xs→e≠bN→w47.ownsRow B e sz u n xs:=fun ho hne=>aN ho fun j hj=>s47 j (bW ho go46 hne j hj);have hgood:((List.replicate (n+2) true).set (n+1) false)=(List.range M.N).map M.good:=by
   rw [hMN,hM];apply List.ext_getElem?;intro j;by_cases hj:j<n+2
   ·rw [List.getElem?_set,List.getElem?_map,List.getElem?_range hj];show _=some (decide (j≤gN s T));rw [←hgn];by_cases e:n+1=j
    ·subst e;simp
    ·rw [if_neg e,List.getElem?_replicate,if_pos hj,decide_eq_true (by omega)]
   ·rw [List.getElem?_eq_none_iff.2 (by simp;omega),List.getElem?_eq_none_iff.2 (by simp;omega)]
  rw [hgood]at o47;have hbf:Below w1.heap.size w1 w47:=b47 _ _ (by have:=b17.size;have:=(ae B43 b44).size;omega) B46;refine⟨ae b1 hbf,fun h=>absurd h hm,fun _=>⟨w1.heap.size,rfl,Nat.le_of_lt s1,?_⟩⟩;rw [←hM];have hok:M.Ok:=by rw [hM];exact pR (by omega)
  refine⟨none,nx',gd,bV,_,0,(s47 _ ne47).trans k46,⟨bG (same47 (same46 R45.onx (by decide)) (by decide)) (Nat.zero_le _),by rw [R45.rl,hMN],fun i r hi=>bG (same47 (same46 (R45.each i r hi) (by decide)) (by decide)) (Nat.zero_le _),bG o47 (Nat.zero_le _),hok⟩,rfl,rfl⟩
theorem jG (w:World) (a g:Nat) (M:Aut) (h:eu w a g M) (x:Int):
  CP 44 #[.pointer (some ⟨a,0,none⟩),.int .i64 x] w fun e w'=>e= .returned (.bool (decide (0≤x∧x< (M.N:Int))&&M.good x.toNat))∧w'=w:=by
 refine aL (AO (some ⟨a,0,none⟩) x w) ?_;refine(tL w a g M h x).mono ?_;rintro e w1 ⟨rfl,hw⟩;subst w1;refine⟨_,rfl,ac.mk (fun h0=>?_) fun h0=>⟨by rw [h0];rfl,rfl⟩⟩;have h1:=of_decide_eq_true h0;obtain⟨o,h⟩:=h;obtain⟨next,good,of,rs,d,hb,hM⟩:=h.blk;have hl:=hM.len.2;obtain⟨p,hp,c⟩:=hM.good (show x.toNat<M.N by omega);refine af.mk _ rfl ⟨_,_,_,by rw [ko hb];rfl,af.mk p hp ⟨by omega,by omega,_,c,by rw [h0];rfl,rfl⟩⟩
def tg (M:Aut) (s:ar) (T:List aP) (x id:Int):Value:=
 match(if 0≤x∧x< (M.N:Int)then oM s T id else none)with
 |some k=>.tuple #[.int .i64 ((M.nxt x.toNat k:Nat):Int),.bool true]
 |none=>.tuple #[.int .i64 0,.bool false]
theorem ma (w:World) (a g:Nat) (M:Aut) (h:eu w a g M) (s:ar) (T:List aP) (hG:ja w g s T) (hn:M.n=gN s T) (x id:Int):
  CP 39 #[.pointer (some ⟨a,0,none⟩),.int .i64 x,.int .i64 id] w fun e w'=>e= .returned (tg M s T x id)∧w'=w:=by
 refine aL (BB (some ⟨a,0,none⟩) x id w) ?_;refine(tL w a g M h x).mono ?_;rintro e w1 ⟨rfl,hw⟩;subst w1;refine⟨_,rfl,ac.mk (fun h0=>?_) fun h0=>?_⟩
 ·have h0:=of_decide_eq_false ((Bool.not_eq_true' _).mp h0);unfold tg;rw [if_neg h0];exact⟨rfl,rfl⟩
 have h0:=of_decide_eq_true ((Bool.not_eq_false' _).mp h0);obtain⟨o,h⟩:=h;obtain⟨next,good,of,rs,d,hb,hM⟩:=h.blk;have hl:=hM.len.1;unfold tg;rw [if_pos h0];refine af.mk _ rfl ⟨_,by rw [ko hb];rfl,(gp w g s T hG id).mono ?_⟩;rintro e w2 ⟨rfl,hw⟩;subst w2;refine⟨_,_,rfl,ac.mk (fun h1=>?_) fun h1=>?_⟩
 ·cases hp:oM s T id with
  |none=>exact⟨rfl,rfl⟩
  |some k=>rw [hp]at h1;cases h1
 ·cases hp:oM s T id with
  |none=>rw [hp]at h1;cases h1
  |some k=>
   have hk:k<M.n:=by rw [hn];exact(dp hp).1
   obtain⟨p,r,hp1,c1,hrn,hr⟩:=hM.row (show x.toNat<M.N by omega);obtain⟨p2,hp2,c2⟩:=gU hr hk;refine af.mk _ rfl ⟨_,_,_,by rw [ko hb];rfl,af.mk p hp1 ⟨by omega,by omega,_,_,_,c1,af.mk p2 hp2 ⟨?_,?_,_,c2,rfl,rfl⟩⟩⟩
   ·show(0:Int)≤((k:Nat):Int);omega
   ·show((k:Nat):Int) <_;omega
def jU (s:ar) (T:List aP) (ids:List Int) (i x:Nat):Prop:=
 (∀(j:Nat) (h:j<ids.length),j<i→(aK s T).Has ids[j]∧(aK s T).Canon (ids.take (j+1)))∧((i=0∧x=0)∨∃(h:i-1<ids.length) (k:Nat),0<i∧oM s T ids[i-1]=some k∧x=k+1)
theorem oO {s:ar} {T:List aP} {ids:List Int} {i x k:Nat} (hV:(aK s T).Ok) (hok:gz T) (h:jU s T ids i x) (hi:i<ids.length) (hk:oM s T ids[i]=some k):
  (df (gN s T) (gW s T) (ct s T) x k=true↔(aK s T).Canon (ids.take (i+1)))∧(aK s T).Has ids[i]:=by
 obtain⟨hk1,hk2,hk3⟩:=dp hk;have hh:=(kb hok _).1 hk3;refine⟨?_,hh⟩;have htk:ids.take (i+1)=ids.take i++ [ids[i]]:=by rw [List.take_add_one,List.getElem?_eq_getElem hi];rfl
 rcases h.2 with⟨rfl,rfl⟩ |⟨hp,k',hi0,hk',rfl⟩
 ·rw [htk,List.take_zero,List.nil_append];show gW s T k=true↔_;unfold gW;rw [hk2,decide_eq_true_iff]
 ·obtain⟨j,rfl⟩:∃j,i=j+1:=⟨i-1,by omega⟩;simp only [Nat.add_sub_cancel]at hk' hp;obtain⟨hk1',hk2',hk3'⟩:=dp hk';have hj:=h.1 j (by omega) (by omega);have htk2:ids.take (j+1)=ids.take j++ [ids[j]]:=by rw [List.take_add_one,List.getElem?_eq_getElem (by omega)];rfl
  have hha:∀t∈ids.take j++ [ids[j]],(aK s T).Has t:=by
   intro t ht;rw [←htk2]at ht;obtain⟨m,hm,rfl⟩:=List.mem_take_iff_getElem.1 ht;exact(h.1 m (by omega) (by omega)).1
  have hc2:=hj.2;rw [htk2]at hc2;have m1:=Voc.canon_more hV hha hc2 hh;have m2:(aK s T).Canon [ids[j],ids[j+1]]↔(aK s T).Canon [ids[j+1]]∧(aK s T).Pair ids[j] ids[j+1]:=Voc.canon_more hV (init:=[]) (l:=ids[j]) (t:=ids[j+1]) (fun x hx=>by rw [List.nil_append,List.mem_singleton]at hx;rw [hx];exact hj.1) (Voc.canon_append hV hha hc2).2 hh;rw [htk,htk2,m1, ←m2];unfold df;rw [if_neg (by omega),if_pos (by unfold gN;omega)];show ct s T (k'+1-1) k=true↔_;rw [Nat.add_sub_cancel];unfold ct;rw [hk2,hk2',decide_eq_true_iff]
theorem pi {s:ar} {T:List aP} {ids:List Int} {i x k:Nat} (h:jU s T ids i x) (hi:i<ids.length) (hk:oM s T ids[i]=some k) (hh:(aK s T).Has ids[i]) (hc:(aK s T).Canon (ids.take (i+1))):jU s T ids (i+1) (k+1):=by
 refine⟨fun j hj hji=>?_,.inr ⟨by simpa using hi,k,by omega,by simpa using hk,rfl⟩⟩;by_cases e:j=i
 ·subst e;exact⟨hh,hc⟩
 ·exact h.1 j hj (by omega)
structure rh (s:ar) (T:List aP) (M:Aut) (S:Nat→Nat→Prop):Prop where
 zero:S 0 0
 lt:∀x p,S x p→x<gN s T+2∧p<M.N
 good:∀x p,S x p→M.good p=decide (x≤gN s T)
 next:∀x p k,S x p→k<gN s T→S (if df (gN s T) (gW s T) (ct s T) x k then k+1 else gN s T+1) (M.nxt p k)
theorem jU.le {s:ar} {T:List aP} {ids:List Int} {i x:Nat} (h:jU s T ids i x):x≤gN s T:=by
 rcases h.2 with⟨_,rfl⟩ |⟨_,k,_,hk,rfl⟩
 ·exact Nat.zero_le _
 ·have:=(dp hk).1;unfold gN;omega
theorem Cf (w:World) (a g:Nat) (M:Aut) (h:eu w a g M) (s:ar) (T:List aP) (hG:ja w g s T) (hn:M.n=gN s T) (S:Nat→Nat→Prop) (hS:rh s T M S) (hok:gz T) (hV:(aK s T).Ok) (A:Option Addr) (C:Nat) (ids:List Int) (hr:Rw aQ 1 w A ids) (hl:ids.length≤10000):
  CP 98 #[.pointer (some ⟨a,0,none⟩),.slice A ids.length C] w fun e w'=>∃(r:Int) (ok:Bool),e= .returned (.tuple #[.int .i64 r,.bool ok])∧(ok=true↔∀t∈ids,(aK s T).Has t)∧(ok=true→∃p:Nat,r=(p:Int)∧p<M.N∧(M.good p=true↔qd (aK s T) ids none))∧w'=w:=by
 refine aL (Ao (some ⟨a,0,none⟩) A ids.length C w) ?_;intro I hI;have key:=aX (α:=Nat×World) ids.length (fun i y=>(∃x,S x y.1∧(∀(j:Nat) (h:j<ids.length),j<i→(aK s T).Has ids[j])∧(jU s T ids i x∨(x=gN s T+1∧¬qd (aK s T) ids none)))∧y.2=w) (fun i y=>∀y5 y4,I [.int .i64 (i:Int),.int .i64 (y.1:Int),.bool y5,.int .i64 y4] y.2) (0,w) ⟨⟨0,hS.zero,fun j _ hj=>absurd hj (Nat.not_lt_zero j),.inl ⟨fun j _ hj=>absurd hj (Nat.not_lt_zero j),.inl ⟨rfl,rfl⟩⟩⟩,rfl⟩ ?_ ?_
 ·exact key _ _
 ·rintro i hi ih ⟨p,q⟩ ⟨⟨x,hxp,hall,hx⟩,hq⟩ y5 y4;change q=w at hq;subst q;change S x p at hxp;obtain⟨hx2,hpN⟩:=hS.lt _ _ hxp;obtain⟨pa,hpa,c0⟩:=aZ hr hi rfl;refine hI _ _ _ _ _ (ac.yes (decide_eq_true (by omega)) (af.mk pa hpa ⟨by omega,by omega,_,c0,(ma w a g M h s T hG hn (p:Int) ids[i]).mono ?_⟩));rintro e w2 ⟨rfl,hw⟩;subst w2;unfold tg;rw [if_pos ⟨by omega,by omega⟩];cases hk:oM s T ids[i]with
  |none=>
   refine⟨_,_,rfl,ac.yes rfl ⟨0,false,rfl,⟨fun e=>(by cases e),fun e=>?_⟩,fun e=>(by cases e),rfl⟩⟩;have:=(kb hok _).2 (e _ (List.getElem_mem hi));rw [wx hk]at this;cases this
  |some k=>
   have hkn:k<gN s T:=(dp hk).1;have hhas:(aK s T).Has ids[i]:=(kb hok _).1 (dp hk).2.2;have hnx:=hS.next _ _ _ hxp hkn;refine⟨_,_,rfl,ac.no rfl (Ar.nat (i+1) rfl (by omega) (ih (M.nxt p k,w) ⟨⟨_,hnx,fun j hj hji=>?_,?_⟩,rfl⟩ _ _))⟩
   ·by_cases e:j=i
    ·subst e;exact hhas
    ·exact hall j hj (by omega)
   ·rcases hx with hx |⟨rfl,hno⟩
    ·obtain⟨hmay,_⟩:=oO hV hok hx hi hk;cases hm:df (gN s T) (gW s T) (ct s T) x k with
     |true=>exact .inl (pi hx hi hk hhas (hmay.1 hm))
     |false=>
      refine .inr ⟨rfl,fun e=>?_⟩;rw [hmay.2 (e i hi).2]at hm;cases hm
    ·refine .inr ⟨?_,hno⟩;have:df (gN s T) (gW s T) (ct s T) (gN s T+1) k=false:=by
      unfold df;rw [if_neg (by omega),if_neg (by omega)]
     rw [this];rfl
 ·rintro⟨p,q⟩ ⟨⟨x,hxp,hall,hx⟩,hq⟩ y5 y4;change q=w at hq;subst q;change S x p at hxp;refine hI _ _ _ _ _ (ac.no (decide_eq_false (by omega)) ⟨(p:Int),true,rfl,⟨fun _ t ht=>?_,fun _=>rfl⟩,fun _=>⟨p,rfl,(hS.lt _ _ hxp).2,?_⟩,rfl⟩)
  ·obtain⟨j,hj,rfl⟩:=List.mem_iff_getElem.1 ht;exact hall j hj hj
  ·rw [hS.good _ _ hxp];rcases hx with hx |⟨rfl,hno⟩
   ·exact⟨fun _ j hj=>hx.1 j hj hj,fun _=>decide_eq_true hx.le⟩
   ·exact⟨fun e=>absurd (of_decide_eq_true e) (by omega),fun e=>absurd e hno⟩
theorem jf {s:ar} {T:List aP} (hn:gN s T≤1032):(dc s T).Ok:=pR (by omega)
theorem rE {s:ar} {T:List aP} (hn:gN s T≤1032) {f:Nat→Nat} (hc:Aut.Cls (dc s T) f):rh s T (Aut.least (dc s T) f) (Aut.Sim (dc s T) f)where
 zero:=Aut.Sim.zero (jf hn) f
 lt:=fun x p h=>⟨h.hx,h.hp⟩
 good:=fun x p h=>h.good (jf hn) hc
 next:=fun x p k h hk=>h.next (jf hn) hc hk
theorem ja.past {w w':World} {g:Nat} {s:ar} {T:List aP} (h:ja w g s T) {b:Nat} {c:Array Value} {e:TypeId} {fz:Nat×Nat} (hb:w.heap[b]? =some (.cells c e fz)) (hs:∀j,j<w.heap.size→j≠b→w'.heap[j]? =w.heap[j]?) (n1:rj≠e) (n2:bf≠e) (n3:mY≠e) (n4:gH≠e):ja w' g s T:=by
 obtain⟨ids,rows,alone,mb,rs,hR⟩:=h;have own:∀ {B sz n:Nat} {t:TypeId} {u:Value} {xs:List Value},w.ownsRow B t sz u n xs→t≠e→w'.ownsRow B t sz u n xs:=fun ho hne=>aN ho fun k hk=>hs k (b_ ho k hk).2 fun e2=>az ho hb hne (by rw [hk,e2]);refine⟨ids,rows,alone,mb,rs,(hs g (Array.getElem?_eq_some_iff.1 hR.blk).1 ?_).trans hR.blk,own hR.oi n2,hR.map.same (hs mb hR.map.lt ?_),own hR.orows n3,hR.rl,fun i r hi=>own (hR.each i r hi) n4,own hR.oal n4⟩
 ·rintro rfl;have:=hR.blk;rw [hb]at this;cases this;exact n1 rfl
 ·rintro rfl;obtain⟨es,k,hm,_⟩:=hR.map;rw [hb]at hm;cases hm
theorem eu.skip {w w':World} {a g:Nat} {M:Aut} (h:eu w a g M) {b:Nat} {c:Array Value} {e:TypeId} {fz:Nat×Nat} (hb:w.heap[b]? =some (.cells c e fz)) (hs:∀j,j<w.heap.size→j≠b→w'.heap[j]? =w.heap[j]?) (n1:dI≠e) (n2:bf≠e) (n3:d_≠e) (n4:bN≠e):eu w' a g M:=by
 obtain⟨o,next,good,of,rs,d,h1,h2,h3⟩:=h;have own:∀ {B sz n:Nat} {t:TypeId} {u:Value} {xs:List Value},w.ownsRow B t sz u n xs→t≠e→w'.ownsRow B t sz u n xs:=fun ho hne=>aN ho fun k hk=>hs k (b_ ho k hk).2 fun e2=>az ho hb hne (by rw [hk,e2]);refine⟨o,next,good,of,rs,d,(hs a (Array.getElem?_eq_some_iff.1 h1).1 ?_).trans h1,⟨own h2.onx n3,h2.rl,fun i r hi=>own (h2.each i r hi) n2,own h2.ogd n4,h2.ok⟩,?_⟩
 ·rintro rfl;rw [hb]at h1;cases h1;exact n1 rfl
 ·cases o with
  |none=>exact h3
  |some f=>exact⟨h3.1,h3.2.1,h3.2.2.1,own h3.2.2.2 n2⟩
theorem HJ (M:Aut) (f:Nat→Nat):(Aut.least M f).N=(Aut.metL M f).length:=rfl
abbrev fE:TypeId:=172
abbrev jk:TypeId:=253
abbrev gl (a g L:Nat) (d m:Int) (l:Sl):Array Value:=#[.pointer (some ⟨a,0,none⟩),.pointer (some ⟨g,0,none⟩),.int .i64 (L:Int),.int .u32 d,.int .i32 m,.int .u32 0,l.v]
structure ii (w:World) (a g:Nat) (M:Aut) (s:ar) (T:List aP):Prop where
 aut:eu w a g M
 grid:ja w g s T
theorem ii.on {w w':World} {a g:Nat} {M:Aut} {s:ar} {T:List aP} (h:ii w a g M s T) (hb:Below w.heap.size w w'):ii w' a g M s T:=⟨h.aut.on hb,h.grid.on hb⟩
theorem ii.past {w w':World} {a g:Nat} {M:Aut} {s:ar} {T:List aP} (h:ii w a g M s T) {b:Nat} {c:Array Value} {fz:Nat×Nat} (hb:w.heap[b]? =some (.cells c fE fz)) (hs:∀j,j<w.heap.size→j≠b→w'.heap[j]? =w.heap[j]?):ii w' a g M s T:=
 ⟨h.aut.skip hb hs (by decide) (by decide) (by decide) (by decide),h.grid.past hb hs (by decide) (by decide) (by decide) (by decide)⟩
structure gJ (M:Aut) (s:ar) (T:List aP):Prop where
 n:M.n=gN s T
 few:gN s T≤1032
 rise:qm s T
 ok:M.Ok
 N:M.N≤10000
 stays:Aut.Stays M
theorem nK {κ:Type} [DecidableEq κ] {k:κ}:∀ {m:List (κ×Value)} {j i:Nat} {x:Value},dE k m j=some (i,x)→∃d,i=j+d∧m[d]? =some (k,x)
 | [],j,i,x,h=>by cases h
 |p::r,j,i,x,h=>by
  rw [dE]at h;split at h
  ·rename_i he;cases h;exact⟨0,rfl,by simp [he]⟩
  ·obtain⟨d,h1,h2⟩:=nK h;exact⟨d+1,by omega,by simpa using h2⟩
theorem E9 {P:Program} {kt et t:TypeId} (K:hD P kt Int ba) (ht:P.underlying t=some (.map kt et)) {w:World} {r:Nat} {m:List (Int×Value)} (h:eI ba w r m) {i:Nat} {k:Int} {v0:Value} (hi:dE k m 0=some (i,v0)) (v:Value):
  ∃w',(Instr.mapUpdate t (.map (some r)) (ba k) v).run P w= .ok () w'∧eI ba w' r (m.set i (k,v))∧(∀j,j≠r→w'.heap[j]? =w.heap[j]?)∧w'.heap.size=w.heap.size∧(∀B w0,B≤r→Below B w0 w→Below B w0 w'):=by
 obtain⟨es,clock,hb,hm,hst,hnd⟩:=h;have hlt:=(Array.getElem?_eq_some_iff.1 hb).1;obtain⟨d,hd,hmd⟩:=nK hi;have hd:i=d:=by omega
 subst hd;have hg:∀j:Nat,(es[j]?).map (fun x:MapEntry=>(x.key,x.val))=(m[j]?).map (fun p:Int×Value=>(ba p.1,p.2)):=fun j=>by
  have:=congrArg (fun l:List (Value×Value)=>l[j]?) hm;simpa using this
 have hei:∃x,es[i]? =some x∧x.key=ba k:=by
  have:=hg i;rw [hmd]at this;cases hx:es[i]? with
  |none=>rw [hx]at this;cases this
  |some x=>
   rw [hx]at this;simp only [Option.map_some,Option.some.injEq,Prod.mk.injEq]at this;exact⟨x,rfl,this.1⟩
 obtain⟨x,hx,hxk⟩:=hei;refine⟨{w with heap:=w.heap.setIfInBounds r (.map (es.modify i fun e=>{e with key:=ba k,val:=v}) clock)},?_,?_,?_,by simp,?_⟩
 ·unfold Instr.mapUpdate;have hs:Instr.sameBits 10000 (ba k) (ba k)=true:=by simp [Instr.sameBits,ba]
  have hk:(Instr.keyThatStays (((es[i]?).map (·.key)).getD (ba k)) (ba k)).run P w= .ok (ba k) w:=by
   rw [hx];show(Instr.keyThatStays x.key (ba k)).run P w=_;rw [hxk];unfold Instr.keyThatStays;rw [if_pos hs];rfl
  simp only [Sem.run_bind,run_underlying ht,Result.andThen,fg hb,K.check,K.find k es.toList m w hm,hi,hk];exact jb _ hb
 ·refine⟨es.modify i fun e=>{e with key:=ba k,val:=v},clock,by simp [hlt],?_,fun y hy=>?_,?_⟩
  ·apply List.ext_getElem?;intro j;rw [List.getElem?_map,List.getElem?_map,Array.getElem?_toList,Array.getElem?_modify,List.getElem?_set];by_cases hj:i=j
   ·subst hj;have hlen:i<m.length:=(List.getElem?_eq_some_iff.1 hmd).1;rw [if_pos rfl,if_pos rfl,if_pos hlen,hx];rfl
   ·rw [if_neg hj,if_neg hj];exact hg j
  ·obtain⟨j,hj⟩:=List.getElem?_of_mem hy;rw [Array.getElem?_toList,Array.getElem?_modify]at hj;split at hj
   ·cases he:es[j]? with
    |none=>rw [he]at hj;cases hj
    |some z=>
     rw [he]at hj;cases hj;exact hst z (List.mem_of_getElem? (by rw [Array.getElem?_toList];exact he))
   ·exact hst y (List.mem_of_getElem? (by rw [Array.getElem?_toList];exact hj))
  ·have:(es.modify i fun e=>{e with key:=ba k,val:=v}).toList.map (·.born)=es.toList.map (·.born):=by
    apply List.ext_getElem?;intro j;rw [List.getElem?_map,List.getElem?_map,Array.getElem?_toList,Array.getElem?_toList,Array.getElem?_modify];split
    ·cases es[j]? <;>rfl
    ·rfl
   rw [this];exact hnd
 ·intro j hj;simp [Array.getElem?_setIfInBounds_ne (fun e=>hj e.symm)]
 ·intro B w0 hB h0;exact h0.trans ⟨rfl,rfl,rfl,by simp,fun j hj=>by simp [Array.getElem?_setIfInBounds_ne (show r≠j by omega)]⟩
def pz (L:List (Nat×Nat)) (G:Nat→Nat):Nat:=(L.map fun p=>p.2*G p.1).sum
def fm (L:List (Nat×Nat)):List (Int×Value):=L.map fun p=>((p.1:Int),.int .u32 (p.2:Int))
structure tA (M:Aut) (st i:Nat) (L:List (Nat×Nat)):Prop where
 nodup:(L.map (·.1)).Nodup
 lt:∀p∈L,p.1<M.N∧p.2≤i
 sum:∀G,pz L G=Aut.sumN (fun k=>if M.good (M.nxt st k)then G (M.nxt st k)else 0) i
theorem DA {L:List (Nat×Nat)} {x:Nat}:ez (x:Int) (fm L)=none↔x∉L.map (·.1):=by
 rw [ox];unfold fm;constructor
 ·intro h hm;obtain⟨p,hp,rfl⟩:=List.mem_map.1 hm;exact h _ (List.mem_map.2 ⟨p,hp,rfl⟩) rfl
 ·intro h q hq e;obtain⟨p,hp,rfl⟩:=List.mem_map.1 hq;have e:(p.1:Int)=(x:Int):=e;exact h (List.mem_map.2 ⟨p,hp,by omega⟩)
theorem wI:∀ {L:List (Nat×Nat)} {i x c:Nat} (G:Nat→Nat),L[i]? =some (x,c)→pz (L.set i (x,c+1)) G=pz L G+G x
 | [],i,x,c,G,h=>by cases h
 |p::L,0,x,c,G,h=>by
  cases h;show(c+1)*G x+pz L G=c*G x+pz L G+G x;rw [Nat.succ_mul];omega
 |p::L,i+1,x,c,G,h=>by
  have ih:=wI (L:=L) (i:=i) G (by simpa using h);show p.2*G p.1+pz (L.set i (x,c+1)) G=p.2*G p.1+pz L G+G x;omega
theorem GZ {L:List (Nat×Nat)} {i x c:Nat}:(fm L).set i ((x:Int),.int .u32 (c:Int))=fm (L.set i (x,c)):=by
 unfold fm;rw [List.map_set]
theorem Hh {L:List (Nat×Nat)} {i x c c':Nat} (h:L[i]? =some (x,c)):(L.set i (x,c')).map (·.1)=L.map (·.1):=by
 apply List.ext_getElem?;intro j;rw [List.getElem?_map,List.getElem?_map,List.getElem?_set];split
 ·rename_i e;subst e;split
  ·rw [h];rfl
  ·rename_i hn;exact absurd (List.getElem?_eq_some_iff.1 h).1 hn
 ·rfl
theorem pU:Tryz.prog.underlying jk=some (.map bf dW):=by kernel_rfl
theorem BE:hD Tryz.prog bf Int ba:=vN (by kernel_rfl)
theorem HF:(Tryz.prog.info? dW).map (·.zero)=some (some (.int .u32 0)):=by kernel_rfl
theorem Dx {M:Aut} {st i:Nat} {L:List (Nat×Nat)} (h:tA M st i L) (hg:M.good (M.nxt st i)=true) (hN:M.nxt st i<M.N) (hi:i≤100000) {w:World} {r:Nat} (hm:eI ba w r (fm L)):
  ∃n:Nat,n≤i∧(Instr.lookup jk (.map (some r)) (.int .i64 ((M.nxt st i:Nat):Int)) false).run Tryz.prog w= .ok (.int .u32 (n:Int)) w∧∃w' L',(Instr.mapUpdate jk (.map (some r)) (.int .i64 ((M.nxt st i:Nat):Int)) (.int .u32 ((n+1:Nat):Int))).run Tryz.prog w= .ok () w'∧tA M st (i+1) L'∧eI ba w' r (fm L')∧(∀j,j≠r→w'.heap[j]? =w.heap[j]?)∧w'.heap.size=w.heap.size∧(∀B w0,B≤r→Below B w0 w→Below B w0 w'):=by
 obtain⟨x,hx⟩:∃x,x=M.nxt st i:=⟨_,rfl⟩;have hsum:∀G,Aut.sumN (fun k=>if M.good (M.nxt st k)then G (M.nxt st k)else 0) (i+1)=pz L G+G x:=fun G=>by
  show Aut.sumN _ i+(if M.good (M.nxt st i)then G (M.nxt st i)else 0)=_;rw [if_pos hg,h.sum,hx]
 rw [←hx]at hN⊢;have hlk:=sY BE pU HF hm.is (x:Int);cases hl:dE (x:Int) (fm L) 0 with
 |none=>
  have hl0:=fa (x:Int) (fm L) 0;rw [hl]at hl0;have hl0:ez (x:Int) (fm L)=none:=hl0.symm;rw [hl0]at hlk;obtain⟨w',h1,h2,h3,h4,h5⟩:=Df BE pU hm (x:Int) (.int .u32 ((0+1:Nat):Int)) hl0;refine⟨0,Nat.zero_le _,hlk,w',L++ [(x,1)],h1,⟨?_,fun p hp=>?_,fun G=>?_⟩,?_,h3,h4,h5⟩
  ·rw [List.map_append,List.nodup_append];refine⟨h.nodup,by simp,fun a ha b hb e=>?_⟩;rw [List.map_singleton,List.mem_singleton]at hb;subst e hb;exact DA.1 hl0 ha
  ·rcases List.mem_append.1 hp with hp |hp
   ·have:=h.lt p hp;omega
   ·rw [List.mem_singleton.1 hp];exact⟨hN,by show 1≤i+1;omega⟩
  ·rw [hsum];unfold pz;rw [List.map_append,List.sum_append];simp
  ·have:fm (L++ [(x,1)])=fm L++ [((x:Int),.int .u32 ((0+1:Nat):Int))]:=by simp [fm]
   rw [this];exact h2
 |some q=>
  obtain⟨j,v0⟩:=q;obtain⟨d,hd,hmd⟩:=nK hl;have hd:j=d:=by omega
  subst hd;have hLj:∃c,L[j]? =some (x,c)∧v0= .int .u32 (c:Int):=by
   unfold fm at hmd;rw [List.getElem?_map]at hmd;cases hq:L[j]? with
   |none=>rw [hq]at hmd;cases hmd
   |some p=>
    rw [hq]at hmd;simp only [Option.map_some,Option.some.injEq,Prod.mk.injEq]at hmd;exact⟨p.2,by rw [show x=p.1 by omega],hmd.2.symm⟩
  obtain⟨c,hc,rfl⟩:=hLj;have hmem:=List.mem_of_getElem? hc;have hci:c≤i:=(h.lt _ hmem).2;have hl0:=fa (x:Int) (fm L) 0;rw [hl]at hl0;have hl0:ez (x:Int) (fm L)=some (.int .u32 (c:Int)):=hl0.symm;rw [hl0]at hlk;obtain⟨w',h1,h2,h3,h4,h5⟩:=E9 BE pU hm hl (.int .u32 ((c+1:Nat):Int));refine⟨c,hci,hlk,w',L.set j (x,c+1),h1,⟨?_,fun p hp=>?_,fun G=>?_⟩,?_,h3,h4,h5⟩
  ·rw [Hh hc];exact h.nodup
  ·rcases List.mem_or_eq_of_mem_set hp with hp |rfl
   ·have:=h.lt p hp;omega
   ·exact⟨hN,by show c+1≤i+1;omega⟩
  ·rw [hsum,wI G hc]
  ·rw [←GZ];exact h2
theorem px (w:World) (c a g L:Nat) (d m:Int) (l:Sl) (s:ar) (T:List aP) (hx:w.heap[c]? =some (.cells (gl a g L d m l) fE (0,0))) (hG:ja w g s T) (k:Nat) (hk:k<gN s T):
  CP 161 #[.pointer (some ⟨c,0,none⟩),.int .i64 (k:Int)] w fun e w'=>e= .returned (.int .i64 ((bx s T).getD k 0))∧w'=w:=by
 refine aL (xa (some ⟨c,0,none⟩) (k:Int) w) ?_;refine af.mk _ rfl ⟨_,aj _ _ hx 1,(zy w g s T hG (k:Int)).mono ?_⟩;rintro e w1 ⟨rfl,hw⟩;subst w1;unfold gN at hk;rw [if_pos ⟨by omega,by omega⟩];exact⟨_,_,rfl,rfl,rfl⟩
theorem CS {M:Aut} {s:ar} {T:List aP} (hF:gJ M s T) {st k:Nat} (hst:st<M.N) (hk:k<gN s T):tg M s T (st:Int) ((bx s T).getD k 0)= .tuple #[.int .i64 ((M.nxt st k:Nat):Int),.bool true]:=by
 unfold tg;rw [if_pos ⟨by omega,by omega⟩,ue hF.rise hk];rfl
theorem pK {M:Aut} {p:Nat} (hp:p<M.N):(decide (0≤(p:Int)∧(p:Int) < (M.N:Int))&&M.good ((p:Int)).toNat)=M.good p:=by
 rw [decide_eq_true (by omega),Bool.true_and];rfl
set_option maxHeartbeats 1000000 in
theorem rY (w:World) (c a g L:Nat) (d m:Int) (l:Sl) (M:Aut) (s:ar) (T:List aP) (hx:w.heap[c]? =some (.cells (gl a g L d m l) fE (0,0))) (hO:ii w a g M s T) (hF:gJ M s T) (st:Nat) (hst:st<M.N):
  CP 156 #[.pointer (some ⟨c,0,none⟩),.int .i64 (st:Int)] w fun e w'=>∃(r:Nat) (E:List (Nat×Nat)),e= .returned (.map (some r))∧tA M st M.n E∧eI ba w' r (fm E)∧w.heap.size≤r∧Below w.heap.size w w':=by
 refine aL (xd (some ⟨c,0,none⟩) (st:Int) w) ?_;have b1:=ag w (.map #[] 0);obtain⟨w1,hw1⟩:∃w1,w1=w.alloc (.map #[] 0):=⟨_,rfl⟩;have m1:eI ba w1 w.heap.size (fm []):=by rw [hw1];exact DT w
 rw [←hw1]at b1;refine⟨_,w1,by rw [hw1];exact Eng.fo _,af.mk _ rfl ⟨_,aj _ _ (ah b1 hx) 1,(dt w1 g s T (hO.grid.on b1)).mono ?_⟩⟩;rintro e w2 ⟨rfl,hw2⟩;subst w2;have hfew:=hF.few;have hlen:(bx s T).length=gN s T:=rfl;refine⟨_,rfl,?_⟩;rw [hlen];intro I hI;have key:=aX (α:=List (Nat×Nat)×World) (gN s T) (fun i y=>tA M st i y.1∧eI ba y.2 w.heap.size (fm y.1)∧Below w.heap.size w y.2) (fun i y=>I [.int .i64 (i:Int)] y.2) ([],w1) ⟨⟨by simp,fun p hp=>(by cases hp),fun G=>rfl⟩,m1,b1⟩ ?_ ?_
 ·exact key
 ·rintro i hi ih ⟨E,q⟩ ⟨hE,hm,hq⟩;change tA M st i E at hE;change eI ba q w.heap.size (fm E)at hm;change Below w.heap.size w q at hq;refine hI _ q (ac.yes (decide_eq_true (by omega)) ?_);intro J hJ w5 hw5;have b5:Below q.heap.size q w5:=by subst hw5;exact aO q
  have hq5:=ae hq b5;have hx5:=ah hq5 hx;have hO5:=hO.on hq5;have hm5:eI ba w5 w.heap.size (fm E):=hm.same (b5.block _ hm.lt);refine af.mk _ rfl ⟨_,aj _ _ hx5 0,(px w5 c a g L d m l s T hx5 hO5.grid i hi).mono ?_⟩;rintro e w6 ⟨rfl,hw6⟩;subst w6;refine⟨_,rfl,⟨aj _ _ hx5 0,trivial⟩,(ma w5 a g M hO5.aut s T hO5.grid hF.n (st:Int) _).mono ?_⟩;rintro e w7 ⟨rfl,hw7⟩;subst w7;have hlt:M.nxt st i<M.N:=hF.ok.lt _ _ hst (by rw [hF.n];exact hi);rw [CS hF hst hi];refine⟨_,_,rfl,ac.yes rfl (af.mk _ rfl ⟨_,aj _ _ hx5 0,(jG w5 a g M hO5.aut _).mono ?_⟩)⟩;rintro e w8 ⟨rfl,hw8⟩;subst w8;rw [pK hlt];refine⟨_,rfl,ac.mk (fun hg=>?_) fun hg=>?_⟩
  ·obtain⟨n,hn,h1,w',E',h2,hE',hm',h3,h4,h5⟩:=Dx hE hg hlt (by omega) hm5;exact⟨_,w5,h1,Ar.u32 (n+1) (by omega) (by omega) ⟨w',h2,hJ w' (Ar.nat (i+1) rfl (by omega) (ih (E',w') ⟨hE',hm',h5 _ _ (Nat.le_refl _) hq5⟩))⟩⟩
  ·refine hJ w5 (Ar.nat (i+1) rfl (by omega) (ih (E,w5) ⟨⟨hE.nodup,fun p hp=>?_,fun G=>?_⟩,hm5,hq5⟩))
   ·have:=hE.lt p hp;omega
   ·show _=Aut.sumN _ i+(if M.good (M.nxt st i)then G (M.nxt st i)else 0);rw [hE.sum,if_neg (by rw [hg];simp),Nat.add_zero]
 ·rintro⟨E,q⟩ ⟨hE,hm,hq⟩;refine hI _ q (ac.no (decide_eq_false (by omega)) ⟨_,E,rfl,?_,hm,Nat.le_refl _,hq⟩);rw [hF.n];exact hE
abbrev i_:TypeId:=166
abbrev qD:TypeId:=168
abbrev Bg:TypeId:=252
theorem Ho:Tryz.prog.underlying i_=some (.slice cD):=by kernel_rfl
theorem EN:Tryz.prog.underlying qD=some (.slice i_):=by kernel_rfl
theorem G7:Tryz.prog.underlying Bg=some (.slice jk):=by kernel_rfl
theorem Hl:(Tryz.prog.info? cD).map (fun i=>(i.zero,i.size,i.bytes))=some (some (.agg #[.slice none 0 0]),1,24):=by kernel_rfl
theorem Gs:(Tryz.prog.info? i_).map (fun i=>(i.zero,i.size,i.bytes))=some (some (.slice none 0 0),1,24):=by kernel_rfl
theorem FR:(Tryz.prog.info? jk).map (fun i=>(i.zero,i.size,i.bytes))=some (some (.map none),1,8):=by kernel_rfl
def jR (r:Sl):List Value:=[r.v]
def CQ (r:Option Nat):List Value:=[.map r]
theorem Hx:xf jR 1 qD i_ 24:=⟨fun _=>rfl,by decide,fun x u hu=>by rw [List.mem_singleton.1 hu];rfl,EN,_,Gs,rfl⟩
theorem mG (w:World) (n:Nat) (hn:n≤1000000):(Instr.makeSlice i_ (.int .i64 n) (.int .i64 n)).run Tryz.prog w= .ok (.slice (some (nb w)) n n) (w.alloc (.cells (Array.replicate n (.slice none 0 0)) cD)):=by
 obtain⟨i,hi,hz,hs,hb⟩:=info_parts Hl;have:=Go.run_make (P:=Tryz.prog) w i_ cD i (.agg #[.slice none 0 0]) Ho hi hz .i64 .i64 (n:Int) (n:Int) (by omega) (Int.le_refl _) (by rw [hb];omega) (by omega);rw [this];congr 3;rw [hs];apply Array.ext
 ·rw [size_madeCells];simp
 ·intro j h1 h2;simp only [madeCells,Array.getElem_map,Array.getElem_range,Array.getElem_replicate];show((Value.agg #[.slice none 0 0]).cells:Array Value)[j%1]! =_;rw [Nat.mod_one];rfl
theorem uI (w:World) (n:Nat) (hn:n≤1000000):(Instr.makeSlice Bg (.int .i64 n) (.int .i64 n)).run Tryz.prog w= .ok (.slice (some (nb w)) n n) (w.alloc (.cells (Array.replicate n (.map none)) jk)):=by
 obtain⟨i,hi,hz,hs,hb⟩:=info_parts FR;have:=Go.run_make (P:=Tryz.prog) w Bg jk i (.map none) G7 hi hz .i64 .i64 (n:Int) (n:Int) (by omega) (Int.le_refl _) (by rw [hb];omega) (by omega);rw [this];congr 3;rw [hs];apply Array.ext
 ·rw [size_madeCells];simp
 ·intro j h1 h2;simp only [madeCells,Array.getElem_map,Array.getElem_range,Array.getElem_replicate];show(#[Value.map none]:Array Value)[j%1]! =_;rw [Nat.mod_one];rfl
theorem qa {α:Type} {enc:α→List Value} {x:α} {v:Value} (hx:enc x= [v]) (e:TypeId) (w:World) (n:Nat) (hn:n≤1000000):(w.alloc (.cells (Array.replicate n v) e)).ownsRow w.heap.size e 1 (.slice (some (nb w)) n n) n ((List.replicate n x).flatMap enc):=by
 have h1:=fA (w:=w) (e:=e) (n:=n) (List.replicate n v) (by simp) hn (Nat.le_refl w.heap.size);have h2:(List.replicate n x).flatMap enc=List.replicate n v:=by
  clear h1 hn;induction n with
  |zero=>rfl
  |succ n ih=>rw [List.replicate_succ,List.flatMap_cons,ih,hx];rfl
 rw [h2];simpa using h1
theorem ux {q:World} {B:Nat} {e:TypeId} {α:Type} {enc:α→List Value} (h1:∀x,(enc x).length=1) (h2:∀x,∀u∈enc x,u.oneCell'=true) {b n:Nat} {xs:List α} (ho:q.ownsRow B e 1 (.slice (some ⟨b,0,none⟩) n n) n (xs.flatMap enc)) (hn:n=xs.length) {i:Nat} (hi:i<xs.length) (x:α) {v:Value} (hv:enc x= [v]) {K:World→Prop}
  (hk:∀q',q'.ownsRow B e 1 (.slice (some ⟨b,0,none⟩) n n) n ((xs.set i x).flatMap enc)→au b q q'→(∀B0 w0,B0≤B→Below B0 w0 q→Below B0 w0 q')→K q'):
  v.oneCell'=true∧(∃u,q.cell? ((⟨b,0,none⟩:Addr).add (i*1))=some u)∧q.frozen? ((⟨b,0,none⟩:Addr).add (i*1))=false∧∀q',q'=q.setCell ((⟨b,0,none⟩:Addr).add (i*1)) v→K q':=by
 have hst:=jF (enc:=enc) h1 Nat.one_pos h2 (l:=⟨some ⟨b,0,none⟩,n,n⟩) ho hn rfl i hi x (k:=K) (fun q' a1 a2 a3 a4=>hk q' a1 (by
  have h0:=a4 0 q (Nat.zero_le _) (Below.refl _ _);exact⟨h0.os,h0.tape,h0.output,by omega,fun k _ hne=>a2 k fun he=>hne (by simpa [Value.ownBlock,Sl.v]using he.symm)⟩) a4)
 rw [hv]at hst;exact fj hst
theorem Ir (c:Nat):((⟨c,0,none⟩:Addr).add 3).add 3=(⟨c,0,none⟩:Addr).add 6:=by rw [Addr.add_add]
theorem Ad {q:World} {c a g L:Nat} {d m:Int} {l l':Sl} {K:World→Prop} (hx:q.heap[c]? =some (.cells (gl a g L d m l) fE (0,0))) (hk:∀q',q'.heap[c]? =some (.cells (gl a g L d m l') fE (0,0))→au c q q'→K q'):
  l'.v.oneCell'=true∧(∃u,q.cell? (((⟨c,0,none⟩:Addr).add 3).add 3)=some u)∧q.frozen? (((⟨c,0,none⟩:Addr).add 3).add 3)=false∧∀q',q'=q.setCell (((⟨c,0,none⟩:Addr).add 3).add 3) l'.v→K q':=by
 rw [Ir];refine⟨rfl,⟨_,aV hx⟩,be hx,?_⟩;rintro q' rfl;refine hk _ (bL hx _) ?_;have h0:=bJ (j:=6) (Below.refl 0 q) (Nat.zero_le c) l'.v;refine⟨h0.os,h0.tape,h0.output,h0.size,fun k _ hne=>?_⟩;rw [aC];refine aq ?_;first |exact hne |exact fun e=>hne e.symm
theorem jE {q:World} {c a g L:Nat} {d m:Int} {l:Sl} (hx:q.heap[c]? =some (.cells (gl a g L d m l) fE (0,0))):q.cell? (((⟨c,0,none⟩:Addr).add 3).add 3)=some (.slice l.a l.n l.c):=by
 rw [Ir,aj _ _ hx];rfl
def eT (w:World) (B:Nat) (r:Sl) (N:Nat) (f:Nat→Nat):Prop:=∃ks:List Sl,ks.length=N∧w.ownsRow B cD 1 r.v r.n (ks.flatMap jR)∧∀(j:Nat) (h:j<ks.length),br w ks[j] (f j)
theorem eT.on {w w':World} {B N:Nat} {r:Sl} {f:Nat→Nat} (h:eT w B r N f) (hb:Below w.heap.size w w'):eT w' B r N f:=by
 obtain⟨ks,h1,h2,h3⟩:=h;exact⟨ks,h1,aE h2 hb,fun j hj=>(h3 j hj).on hb⟩
theorem br.past {w w':World} {l:Sl} {n b:Nat} {c:Array Value} {e:TypeId} {fz:Nat×Nat} (h:br w l n) (hb:w.heap[b]? =some (.cells c e fz)) (hT:e≠dW) (t:au b w w'):br w' l n:=
 h.keep (fun p c fz _ hc=>t.block _ (Array.getElem?_eq_some_iff.1 hc).1 fun e=>by
  rw [e,hb]at hc;cases hc;exact hT rfl) t.size
theorem eT.past {w w':World} {B N b:Nat} {r:Sl} {f:Nat→Nat} (h:eT w B r N f) {c:Array Value} {e:TypeId} {fz:Nat×Nat} (hb:w.heap[b]? =some (.cells c e fz)) (t:au b w w') (h1:cD≠e) (h2:e≠dW):eT w' B r N f:=by
 obtain⟨ks,g1,g2,g3⟩:=h;exact⟨ks,g1,h_ hb t g2 h1,fun j hj=>(g3 j hj).past hb h2 t⟩
def sm (w:World) (B:Nat) (l:Sl) (M:Aut) (m:Nat):Prop:=∃rs:List Sl,rs.length=m∧w.ownsRow B i_ 1 l.v l.n (rs.flatMap jR)∧∀(i:Nat) (h:i<rs.length),eT w B rs[i] M.N (M.goN i)
theorem sm.on {w w':World} {B m:Nat} {l:Sl} {M:Aut} (h:sm w B l M m) (hb:Below w.heap.size w w'):sm w' B l M m:=by
 obtain⟨rs,h1,h2,h3⟩:=h;exact⟨rs,h1,aE h2 hb,fun i hi=>(h3 i hi).on hb⟩
theorem sm.past {w w':World} {B m b:Nat} {l:Sl} {M:Aut} (h:sm w B l M m) {c:Array Value} {e:TypeId} {fz:Nat×Nat} (hb:w.heap[b]? =some (.cells c e fz)) (t:au b w w') (h0:i_≠e) (h1:cD≠e) (h2:e≠dW):sm w' B l M m:=by
 obtain⟨rs,g1,g2,g3⟩:=h;exact⟨rs,g1,h_ hb t g2 h0,fun i hi=>(g3 i hi).past hb t h1 h2⟩
theorem sm.push {w:World} {B m:Nat} {l r:Sl} {M:Aut} (h:sm w B l M m) (hr:eT w B r M.N (M.goN m)) (hB:B≤w.heap.size) (hm:m≤1000000) {w1:World} (hw:w1=w.alloc (.cells #[r.v] i_)):
  ∃(l':Sl) (w2:World),(Builtin.append_ #[qD,qD] qD #[.slice l.a l.n l.c,.slice (some (nb w)) 1 1]).run Tryz.prog w1= .ok (.slice l'.a l'.n l'.c) w2∧sm w2 B l' M (m+1)∧(∀w0,Below B w0 w→Below B w0 w2)∧(∀(k:Nat) (c:Array Value) (e:TypeId) (fz:Nat×Nat),w.heap[k]? =some (Obj.cells c e fz)→e≠i_→w2.heap[k]? =w.heap[k]?)∧(∀(k:Nat) (es:Array MapEntry) (c:Nat),w.heap[k]? =some (Obj.map es c)→w2.heap[k]? =w.heap[k]?):=by
 obtain⟨rs,h1,h2,h3⟩:=h;have hln:l.n=rs.length:=(Rw.of_own h2 (fun _=>rfl) (by decide)).2;obtain⟨f,w2,e1,e2,e3,e4,e5⟩:=Hx.push h2 r hw rfl hB (by omega) (by decide);have keep:∀(k:Nat) (c:Array Value) (e:TypeId) (fz:Nat×Nat),w.heap[k]? =some (Obj.cells c e fz)→e≠i_→w2.heap[k]? =w.heap[k]? :=fun k c e fz hk he=>e5 k (Array.getElem?_eq_some_iff.1 hk).1 (az h2 hk (fun h=>he h.symm));have hz:=(e4 w ((Below.refl _ w).mono hB)).size;have move:∀ {r:Sl} {f:Nat→Nat},eT w B r M.N f→eT w2 B r M.N f:=by
  rintro r f ⟨ks,g1,g2,g3⟩;refine⟨ks,g1,aN g2 fun k hk=>?_,fun j hj=>(g3 j hj).keep (fun p c fz _ hc=>keep _ c dW fz hc (by decide)) hz⟩;obtain⟨c,fz,hc⟩:∃c fz,w.heap[k]? =some (.cells c cD fz):=by
   rcases g2.2 with⟨hv,_⟩ |⟨g,cap,cur,hv,_,hg,_⟩
   ·rw [hv]at hk;cases hk
   ·rw [hv]at hk;cases hk;exact⟨_,_,hg⟩
  exact keep k c cD fz hc (by decide)
 refine⟨f,w2,e2,⟨rs++ [r],by rw [List.length_append,h1];rfl,e3,fun i hi=>?_⟩,e4,keep,fun k es c hk=>e5 k (Array.getElem?_eq_some_iff.1 hk).1 fun he=>?_⟩
 ·rw [List.length_append]at hi;by_cases hlt:i<rs.length
  ·rw [List.getElem_append_left hlt];exact move (h3 i hlt)
  ·have:i=m:=by simp at hi;omega
   subst this;rw [List.getElem_append_right (by omega)];simp only [h1,Nat.sub_self,List.getElem_cons_zero];exact move hr
 ·rcases h2.2 with⟨hv,_⟩ |⟨g,cap,cur,hv,_,hg,_⟩
  ·rw [hv]at he;cases he
  ·rw [hv]at he;cases he;rw [hk]at hg;cases hg
def nm (w:World) (B b:Nat) (M:Aut) (i:Nat):Prop:=∃ms:List (Option Nat),ms.length=M.N∧w.ownsRow B jk 1 (.slice (some ⟨b,0,none⟩) M.N M.N) M.N (ms.flatMap CQ)∧∀(j:Nat) (h:j<ms.length),j<i→∃r E,ms[j]=some r∧tA M j M.n E∧eI ba w r (fm E)
theorem nm.on {w w':World} {B b i:Nat} {M:Aut} (h:nm w B b M i) (hb:Below w.heap.size w w'):nm w' B b M i:=by
 obtain⟨ms,h1,h2,h3⟩:=h;refine⟨ms,h1,aE h2 hb,fun j hj hji=>?_⟩;obtain⟨r,E,e1,e2,e3⟩:=h3 j hj hji;exact⟨r,E,e1,e2,e3.same (hb.block _ e3.lt)⟩
theorem nm.past {w w':World} {B b i k:Nat} {M:Aut} (h:nm w B b M i) {c:Array Value} {e:TypeId} {fz:Nat×Nat} (hb:w.heap[k]? =some (.cells c e fz)) (t:au k w w') (he:jk≠e):nm w' B b M i:=by
 obtain⟨ms,h1,h2,h3⟩:=h;refine⟨ms,h1,h_ hb t h2 he,fun j hj hji=>?_⟩;obtain⟨r,E,e1,e2,e3⟩:=h3 j hj hji;refine⟨r,E,e1,e2,e3.same (t.block _ e3.lt ?_)⟩;rintro rfl;obtain⟨es,c',hm,_⟩:=e3;rw [hb]at hm;cases hm
def oK (G:Nat→Nat) (e:MapEntry):Nat:=match e.key,e.val with
 | .int _ k,.int _ m=>m.toNat*G k.toNat
 |_,_=>0
def dL (G:Nat→Nat) (seen:Array Nat) (l:List MapEntry):Nat:=((l.filter fun e=>seen.contains e.born).map (oK G)).sum
theorem uC (G:Nat→Nat) (l:List MapEntry):dL G #[] l=0:=by
 unfold dL;rw [List.filter_eq_nil_iff.2 (by simp)];rfl
theorem nw (G:Nat→Nat) (seen:Array Nat):∀ {l:List MapEntry} {e:MapEntry},(l.map (·.born)).Nodup→e∈l→seen.contains e.born=false→dL G (seen.push e.born) l=dL G seen l+oK G e
 | [],e,_,h,_=>by cases h
 |x::l,e,hn,hm,hs=>by
  rw [List.map_cons,List.nodup_cons]at hn;unfold dL;rw [List.filter_cons,List.filter_cons];rcases List.mem_cons.1 hm with rfl |hm
  ·have same:l.filter (fun y=>(seen.push e.born).contains y.born)=l.filter (fun y=>seen.contains y.born):=by
    apply List.filter_congr;intro y hy;rw [contains_push];have:y.born≠e.born:=fun h=>hn.1 (by rw [←h];exact List.mem_map.2 ⟨y,hy,rfl⟩);simp [this]
   rw [if_pos (by rw [contains_push];simp),if_neg (by rw [hs];simp),same,List.map_cons,List.sum_cons];omega
  ·have ih:=nw G seen hn.2 hm hs;unfold dL at ih;have hne:x.born≠e.born:=fun h=>hn.1 (by rw [h];exact List.mem_map.2 ⟨e,hm,rfl⟩);by_cases hx:seen.contains x.born=true
   ·rw [if_pos (by rw [contains_push,hx];rfl),if_pos hx,List.map_cons,List.map_cons,List.sum_cons,List.sum_cons,ih];omega
   ·have hx:seen.contains x.born=false:=by simpa using hx
    rw [if_neg (by rw [contains_push,hx];simp [hne]),if_neg (by rw [hx];simp),ih]
theorem py {G:Nat→Nat} {seen:Array Nat} {l:List MapEntry} {E:List (Nat×Nat)} (h:∀e∈l,seen.contains e.born=true) (hm:l.map (fun x=>(x.key,x.val))=(fm E).map (fun p=>(ba p.1,p.2))):dL G seen l=pz E G:=by
 unfold dL;rw [List.filter_eq_self.2 h];clear h;induction E generalizing l with
 |nil=>
  have:l= []:=by
   cases l with
   |nil=>rfl
   |cons x l=>simp [fm]at hm
  subst this;rfl
 |cons p E ih=>
  cases l with
  |nil=>simp [fm]at hm
  |cons x l=>
   have hm2:(x.key,x.val)::l.map (fun x=>(x.key,x.val))=(ba (p.1:Int),Value.int .u32 (p.2:Int))::(fm E).map (fun p=>(ba p.1,p.2)):=hm;rw [List.cons.injEq,Prod.mk.injEq]at hm2;rw [List.map_cons,List.sum_cons,ih hm2.2];have:oK G x=p.2*G p.1:=by
    unfold oK;rw [hm2.1.1,hm2.1.2];rfl
   rw [this];rfl
theorem FJ {l:List MapEntry} {E:List (Nat×Nat)} (hm:l.map (fun x=>(x.key,x.val))=(fm E).map (fun p=>(ba p.1,p.2))) {e:MapEntry} (he:e∈l):∃p∈E,e.key= .int .i64 (p.1:Int)∧e.val= .int .u32 (p.2:Int):=by
 have:(e.key,e.val)∈l.map (fun x:MapEntry=>(x.key,x.val)):=List.mem_map.2 ⟨e,he,rfl⟩;rw [hm]at this;obtain⟨q,hq,e1⟩:=List.mem_map.1 this;unfold fm at hq;obtain⟨p,hp,rfl⟩:=List.mem_map.1 hq;rw [Prod.mk.injEq]at e1;exact⟨p,hp,e1.1.symm,e1.2.symm⟩
theorem rM (G:Nat→Nat) (seen:Array Nat):∀l:List MapEntry,dL G seen l≤(l.map (oK G)).sum
 | []=>Nat.le_refl _
 |x::l=>by
  have ih:=rM G seen l;unfold dL at ih⊢;rw [List.filter_cons,List.map_cons,List.sum_cons];split
  ·rw [List.map_cons,List.sum_cons];omega
  ·omega
theorem iU (w:World):br w bV 0:=by
 refine⟨?_,fun p hp=>by cases hp⟩;rw [dF];exact⟨rfl,fun j x hj=>(by simp at hj),.inl rfl⟩
theorem kT {b x k:Nat} (hb:2≤b) (h:x<b^k):(dD b x).length≤k:=Nat.le_of_not_lt fun hlt=>by
 have:=(gG hb x k).1 hlt;omega
theorem Cx {M:Aut} (hn:M.n≤1032) (i s:Nat):(dD 4294967296 (M.goN i s)).length≤i+1:=by
 refine kT dZ (Nat.lt_of_le_of_lt (Aut.goN_le i s) ?_);have h1:M.n^i≤4294967296^i:=Nat.pow_le_pow_left (by omega) i;have h2:4294967296^i<4294967296^(i+1):=Nat.pow_lt_pow_right (by decide) (by omega);omega
theorem fX {w:World} {B b n:Nat} {e:TypeId} {sz:Nat} {xs:List Value} (h:w.ownsRow B e sz (.slice (some ⟨b,0,none⟩) n n) n xs):∃c fz,w.heap[b]? =some (.cells c e fz):=gR (l:=⟨some ⟨b,0,none⟩,n,n⟩) h _ rfl
theorem CB (x:Sl):∀u∈jR x,u.oneCell'=true:=fun u hu=>by rw [List.mem_singleton.1 hu];rfl
theorem H9 (x:Option Nat):∀u∈CQ x,u.oneCell'=true:=fun u hu=>by rw [List.mem_singleton.1 hu];rfl
structure gK (w:World) (B b N:Nat) (ks:List Sl) (f:Nat→Nat):Prop where
 len:ks.length=N
 own:w.ownsRow B cD 1 (.slice (some ⟨b,0,none⟩) N N) N (ks.flatMap jR)
 nat:∀(j:Nat) (h:j<ks.length),br w ks[j] (f j)
theorem gK.on {w w':World} {B b N:Nat} {ks:List Sl} {f:Nat→Nat} (h:gK w B b N ks f) (hb:Below w.heap.size w w'):gK w' B b N ks f:=⟨h.len,aE h.own hb,fun j hj=>(h.nat j hj).on hb⟩
theorem gK.past {w w':World} {B b N k:Nat} {ks:List Sl} {f:Nat→Nat} (h:gK w B b N ks f) {c:Array Value} {e:TypeId} {fz:Nat×Nat} (hb:w.heap[k]? =some (.cells c e fz)) (t:au k w w') (h1:cD≠e) (h2:e≠dW):gK w' B b N ks f:=⟨h.len,h_ hb t h.own h1,fun j hj=>(h.nat j hj).past hb h2 t⟩
theorem gK.row {w:World} {B b N:Nat} {ks:List Sl} {f:Nat→Nat} (h:gK w B b N ks f):eT w B ⟨some ⟨b,0,none⟩,N,N⟩ N f:=⟨ks,h.len,h.own,h.nat⟩
theorem gK.congr {w:World} {B b N:Nat} {ks:List Sl} {f f':Nat→Nat} (h:gK w B b N ks f) (hf:∀j,j<N→f j=f' j):gK w B b N ks f':=⟨h.len,h.own,fun j hj=>by rw [←hf j (by rw [←h.len];exact hj)];exact h.nat j hj⟩
theorem gK.put {w:World} {B b N:Nat} {ks:List Sl} {f:Nat→Nat} (h:gK w B b N ks f) {i:Nat} (hi:i<N) {x:Sl} {n:Nat} (hx:br w x n) {K:World→Prop} (hk:∀w',gK w' B b N (ks.set i x) (fun j=>if j=i then n else f j)→au b w w'→(∀B0 w0,B0≤B→Below B0 w0 w→Below B0 w0 w')→K w'):
  x.v.oneCell'=true∧(∃u,w.cell? ((⟨b,0,none⟩:Addr).add (i*1))=some u)∧w.frozen? ((⟨b,0,none⟩:Addr).add (i*1))=false∧∀w',w'=w.setCell ((⟨b,0,none⟩:Addr).add (i*1)) x.v→K w':=by
 obtain⟨c,fz,hb⟩:=fX h.own;refine ux (fun _=>rfl) CB h.own h.len.symm (by rw [h.len];exact hi) x rfl fun w' o t B'=>hk w' ⟨by rw [List.length_set];exact h.len,o,fun j hj=>?_⟩ t B';rw [List.length_set]at hj;rw [List.getElem_set];by_cases e:i=j
 ·subst e;rw [if_pos rfl,if_pos rfl];exact hx.past hb (by decide) t
 ·rw [if_neg e,if_neg (fun h=>e h.symm)];exact(h.nat j hj).past hb (by decide) t
theorem gK.cell {w:World} {B b N:Nat} {ks:List Sl} {f:Nat→Nat} (h:gK w B b N ks f) {i:Nat} (hi:i<N):∃k:Sl,w.cell? ((⟨b,0,none⟩:Addr).add (i*1))=some (.slice k.a k.n k.c)∧br w k (f i):=by
 have hl:i<ks.length:=by rw [h.len];exact hi
 have hr:=(Rw.of_own (enc:=jR) (sz:=1) (s:=⟨some ⟨b,0,none⟩,N,N⟩) h.own (fun _=>rfl) Nat.one_pos).1;obtain⟨p,hp,c0⟩:=aZ hr hl rfl;cases hp;exact⟨ks[i],c0,h.nat i hl⟩
set_option maxHeartbeats 4000000 in
theorem sO (w:World) (c a g L:Nat) (M:Aut) (s:ar) (T:List aP) (hx:w.heap[c]? =some (.cells (gl a g L 0 1 bV) fE (0,0))) (hO:ii w a g M s T) (hF:gJ M s T) (hL:L≤20000):
  CP 84 #[.pointer (some ⟨c,0,none⟩)] w fun e w'=>e= .returned (.tuple #[])∧∃l,w'.heap[c]? =some (.cells (gl a g L 0 1 l) fE (0,0))∧sm w' w.heap.size l M (L+1)∧au c w w':=by
 refine aL (Av (some ⟨c,0,none⟩) w) ?_;have hN:=hF.N;have hfew:=hF.few;have hMn:=hF.n;have hclt:c<w.heap.size:=(Array.getElem?_eq_some_iff.1 hx).1;refine af.mk _ rfl ⟨_,aj _ _ hx 0,(fB w a g M hO.aut).mono ?_⟩;rintro e w1 ⟨rfl,hw1⟩;subst w1;obtain⟨w2,hw2⟩:∃w2,w2=w.alloc (.cells (Array.replicate M.N (.slice none 0 0)) cD):=⟨_,rfl⟩;have b2:Below w.heap.size w w2:=by rw [hw2];exact ag _ _
 have o2:=qa (enc:=jR) (x:=bV) rfl cD w M.N (by omega);rw [←hw2]at o2;obtain⟨w3,hw3⟩:∃w3,w3=w2.alloc (.cells (Array.replicate M.N (.map none)) jk):=⟨_,rfl⟩;have b3:Below w2.heap.size w2 w3:=by rw [hw3];exact ag _ _
 have o3:=qa (enc:=CQ) (x:=none) rfl jk w2 M.N (by omega);rw [←hw3]at o3;have z2:=b2.size;have hb3:=ae b2 b3;refine⟨_,rfl,_,_,_,w2,by rw [hw2];exact mG w M.N (by omega),_,_,_,w3,by rw [hw3];exact uI w2 M.N (by omega),?_⟩;intro I hI;have key:=aX (α:=List Sl×World) M.N (fun i y=>gK y.2 w.heap.size w.heap.size M.N y.1 (fun j=>if j<i then M.goN 0 j else 0)∧nm y.2 w.heap.size w2.heap.size M i∧Below w.heap.size w y.2) (fun i y=>I [.int .i64 (i:Int)] y.2) (List.replicate M.N bV,w3) ⟨⟨by simp,aE o2 b3,fun j hj=>?_⟩,⟨List.replicate M.N none,by simp,bG o3 z2,fun j _ h=>absurd h (Nat.not_lt_zero j)⟩,hb3⟩ ?_ ?_
 ·exact key
 ·simp only [List.getElem_replicate];rw [if_neg (Nat.not_lt_zero j)];exact iU _
 ·rintro i hi ih ⟨ks,q⟩ ⟨hR,hLd,hq⟩;change gK q w.heap.size w.heap.size M.N ks (fun j=>if j<i then M.goN 0 j else 0)at hR;change nm q w.heap.size w2.heap.size M i at hLd;change Below w.heap.size w q at hq;refine hI _ q (ac.yes (decide_eq_true (by omega)) ?_);intro J hJ;refine(rY q c a g L 0 1 bV M s T (ah hq hx) (hO.on hq) hF i hi).mono ?_;rintro e w6 ⟨r,E,rfl,hE,hm,hr,b6⟩;have hR6:=hR.on b6;have hLd6:=hLd.on b6;have hq6:=ae hq b6;obtain⟨ms,m1,m2,m3⟩:=hLd6;obtain⟨cb,fzb,hblk⟩:=fX m2;refine⟨_,rfl,af.mk _ rfl ⟨by omega,by omega,ux (fun _=>rfl) H9 m2 m1.symm (show i<ms.length by omega) (some r) rfl fun w7 o7 t7 B7=>?_⟩⟩;have hq7:Below w.heap.size w w7:=B7 _ _ (Nat.le_refl _) hq6;have hR7:=hR6.past hblk t7 (by decide) (by decide);have mapKeep:∀ {r:Nat} {E:List (Nat×Nat)},eI ba w6 r (fm E)→eI ba w7 r (fm E):=by
   intro r E h;refine h.same (t7.block _ h.lt ?_);rintro rfl;obtain⟨es,c',hm',_⟩:=h;rw [hblk]at hm';cases hm'
  have hLd7:nm w7 w.heap.size w2.heap.size M (i+1):=by
   refine⟨ms.set i (some r),by rw [List.length_set];exact m1,o7,fun j hj hji=>?_⟩;rw [List.length_set]at hj;rw [List.getElem_set];by_cases e:i=j
   ·subst e;rw [if_pos rfl];exact⟨r,E,rfl,hE,mapKeep hm⟩
   ·rw [if_neg e];obtain⟨r',E',e1,e2,e3⟩:=m3 j hj (by omega);exact⟨r',E',e1,e2,mapKeep e3⟩
  refine af.mk _ rfl ⟨_,aj _ _ (ah hq7 hx) 0,(jG w7 a g M (hO.on hq7).aut _).mono ?_⟩;rintro e w8 ⟨rfl,hw8⟩;subst w8;rw [pK hi];refine⟨_,rfl,ac.mk (fun hg=>?_) fun hg=>?_⟩
  ·refine(wL w7 1 (by decide)).mono ?_;rintro e w9 ⟨k,rfl,hk,b9⟩;refine⟨k.a,k.n,k.c,rfl,af.mk _ rfl ⟨by omega,by omega,(hR7.on b9).put hi (x:=k) hk fun w10 hR10 t10 B10=>hJ w10 (Ar.nat (i+1) rfl (by omega) (ih (ks.set i k,w10) ⟨hR10.congr fun j hj=>?_,?_,B10 _ _ (Nat.le_refl _) (ae hq7 b9)⟩))⟩⟩
   ·by_cases e:j=i
    ·subst e;rw [if_pos rfl,if_pos (by omega)];unfold Aut.goN;rw [hg];rfl
    ·rw [if_neg e];by_cases h:j<i
     ·rw [if_pos h,if_pos (by omega)]
     ·rw [if_neg h,if_neg (by omega)]
   ·obtain⟨cf,ff,hfb⟩:=fX (hR7.on b9).own;exact(hLd7.on b9).past hfb t10 (by decide)
  ·refine hJ w7 (Ar.nat (i+1) rfl (by omega) (ih (ks,w7) ⟨hR7.congr fun j hj=>?_,hLd7,hq7⟩));by_cases e:j=i
   ·subst e;rw [if_neg (by omega),if_pos (by omega)];unfold Aut.goN;rw [hg];rfl
   ·by_cases h:j<i
    ·rw [if_pos h,if_pos (by omega)]
    ·rw [if_neg h,if_neg (by omega)]
 ·rintro⟨ks,q⟩ ⟨hR,hLd,hq⟩;change gK q w.heap.size w.heap.size M.N ks (fun j=>if j<M.N then M.goN 0 j else 0)at hR;change nm q w.heap.size w2.heap.size M M.N at hLd;change Below w.heap.size w q at hq;have hR:=hR.congr (f':=M.goN 0) fun j hj=>if_pos hj;refine hI _ q (ac.no (decide_eq_false (by omega)) ?_);have hxq:=ah hq hx;refine af.mk _ rfl ⟨_,_,_,jE hxq,?_⟩;intro w11 hw11;obtain⟨l1,w12,e12,hC12,hB12,keep,keepM⟩:=sm.push (B:=w.heap.size) (m:=0) (l:=bV) (M:=M) ⟨[],rfl,cS _ _ _ _ jR,fun i hi=>absurd hi (Nat.not_lt_zero i)⟩ hR.row hq.size (Nat.zero_le _) hw11;have b12:=hB12 w hq;have hx12:=ah b12 hx;have leadKeep:∀ {q q':World},(∀(k:Nat) (c:Array Value) (e:TypeId) (fz:Nat×Nat),q.heap[k]? =some (Obj.cells c e fz)→e≠i_→q'.heap[k]? =q.heap[k]?)→(∀(k:Nat) (es:Array MapEntry) (c:Nat),q.heap[k]? =some (Obj.map es c)→q'.heap[k]? =q.heap[k]?)→nm q w.heap.size w2.heap.size M M.N→nm q' w.heap.size w2.heap.size M M.N:=by
   rintro q q' keep keepM ⟨ms,m1,m2,m3⟩;obtain⟨cb,fzb,hblk⟩:=fX m2;refine⟨ms,m1,aN m2 fun k hk=>?_,fun j hj hji=>?_⟩
   ·have hk:w2.heap.size=k:=by simpa [Value.ownBlock]using hk
    subst hk;exact keep _ cb jk fzb hblk (by decide)
   ·obtain⟨r,E,e1,e2,e3⟩:=m3 j hj hji;refine⟨r,E,e1,e2,e3.same ?_⟩;obtain⟨es,c',hm',_⟩:=e3;exact keepM _ _ _ hm'
  refine⟨l1.a,l1.n,l1.c,w12,e12,af.mk _ rfl (Ad hx12 fun w13 x13 t13=>?_)⟩;have hC13:=hC12.past hx12 t13 (by decide) (by decide) (by decide);have hL13:=(leadKeep keep keepM hLd).past hx12 t13 (by decide);have t013:au c w w13:=(au.of_below b12).trans t13;intro I2 hI2;have key2:=aX (α:=Sl×World) L (fun i y=>y.2.heap[c]? =some (.cells (gl a g L 0 1 y.1) fE (0,0))∧sm y.2 w.heap.size y.1 M (i+1)∧nm y.2 w.heap.size w2.heap.size M M.N∧au c w y.2) (fun i y=>I2 [.int .i64 ((i+1:Nat):Int)] y.2) (l1,w13) ⟨x13,hC13,hL13,t013⟩ ?_ ?_
  ·exact key2
  ·rintro i hi ih ⟨l,q⟩ ⟨hxq,hC,hLd,tq⟩;change q.heap[c]? =some (.cells (gl a g L 0 1 l) fE (0,0))at hxq;change sm q w.heap.size l M (i+1)at hC;change nm q w.heap.size w2.heap.size M M.N at hLd;change au c w q at tq;have hzq:=tq.size;obtain⟨w15,hw15⟩:∃w15,w15=q.alloc (.cells (Array.replicate M.N (.slice none 0 0)) cD):=⟨_,rfl⟩;have b15:Below q.heap.size q w15:=by rw [hw15];exact ag _ _
   have o15:=qa (enc:=jR) (x:=bV) rfl cD q M.N (by omega);rw [←hw15]at o15;refine hI2 _ q (af.mk _ rfl ⟨_,aj _ _ hxq 2,ac.yes (decide_eq_true (by omega)) ⟨_,_,_,w15,by rw [hw15];exact mG q M.N (by omega),?_⟩⟩);intro I3 hI3;have key3:=aX (α:=List Sl×World) M.N (fun j y=>gK y.2 q.heap.size q.heap.size M.N y.1 (fun t=>if t<j then M.goN (i+1) t else 0)∧Below q.heap.size q y.2) (fun j y=>I3 [.int .i64 (j:Int)] y.2) (List.replicate M.N bV,w15) ⟨⟨by simp,o15,fun j hj=>?_⟩,b15⟩ ?_ ?_
   ·exact key3
   ·simp only [List.getElem_replicate];rw [if_neg (Nat.not_lt_zero j)];exact iU _
   ·rintro j hj ihj ⟨ks,z⟩ ⟨hR,hz⟩;change gK z q.heap.size q.heap.size M.N ks (fun t=>if t<j then M.goN (i+1) t else 0)at hR;change Below q.heap.size q z at hz;obtain⟨ms,m1,m2,m3⟩:=hLd.on hz;obtain⟨r,E,e1,hE,hm⟩:=m3 j (by omega) hj;obtain⟨p,hp,c0⟩:=aZ (Rw.of_own (enc:=CQ) (sz:=1) (s:=⟨some ⟨w2.heap.size,0,none⟩,M.N,M.N⟩) m2 (fun _=>rfl) Nat.one_pos).1 (show j<ms.length by omega) rfl;cases hp;rw [e1]at c0;obtain⟨es,clock,hmb,hkv,hborn,hbn⟩:=hm;have hsum:pz E (M.goN i)=M.goN (i+1) j:=by rw [hE.sum,Aut.goN_succ];rfl
    have hall:∀seen,dL (M.goN i) seen es.toList≤M.goN (i+1) j:=by
     intro seen;have h1:=rM (M.goN i) seen es.toList;have h2:(es.toList.map (oK (M.goN i))).sum=pz E (M.goN i):=by
      have:=py (G:=M.goN i) (seen:=(es.toList.map (·.born)).toArray) (l:=es.toList) (E:=E) (fun e he=>by simp;exact⟨e,by simpa using he,rfl⟩) hkv;rw [←this];unfold dL;rw [List.filter_eq_self.2 (fun e he=>by simp;exact⟨e,by simpa using he,rfl⟩)]
     omega
    refine hI3 _ z (ac.yes (decide_eq_true (by omega)) (af.mk _ rfl ⟨by omega,by omega,_,c0,_,_,run_range_map z jk bf dW r es clock pU hmb,?_⟩));intro I4 hI4;have hzs:=hz.size;have loop:∀(k:Nat) (seen:Array Nat) (ks':List Sl) (v:World),(leftOf es seen).size≤k→v.heap[z.heap.size]? =some (.mapIter (some r) clock seen clock)→gK v q.heap.size q.heap.size M.N ks' (fun t=>if t=j then dL (M.goN i) seen es.toList else if t<j then M.goN (i+1) t else 0)→Below q.heap.size q v→v.heap[r]? =some (.map es clock)→I4 [] v:=by
     intro k;induction k with
     |zero=>
      intro seen ks' v hk hit hRv hv hmv;refine hI4 v (.inl ?_);rcases run_next_at (P:=Tryz.prog) v 0 z.heap.size r clock clock seen es clock hit hmv hborn (Nat.le_refl _)with⟨h0,hrun⟩ |⟨e,he,_⟩
      ·refine⟨false,v,hrun,false,rfl,ac.no rfl (Ar.nat (j+1) rfl (by omega) (ihj (ks',v) ⟨hRv.congr fun t ht=>?_,hv⟩))⟩;by_cases e:t=j
       ·subst e;rw [if_pos rfl,if_pos (by omega),py (all_seen es seen h0) hkv,hsum]
       ·rw [if_neg e];by_cases h:t<j
        ·rw [if_pos h,if_pos (by omega)]
        ·rw [if_neg h,if_neg (by omega)]
      ·have:=List.length_pos_of_mem he;rw [Array.length_toList]at this;omega
     |succ k ihk=>
      intro seen ks' v hk hit hRv hv hmv;rcases run_next_at (P:=Tryz.prog) v 0 z.heap.size r clock clock seen es clock hit hmv hborn (Nat.le_refl _)with⟨h0,hrun⟩ |⟨e,he,v1,hv1,hrun⟩
      ·exact ihk seen ks' v (by omega) hit hRv hv hmv
      ·obtain⟨heE,heN⟩:=mem_left he;obtain⟨p,hpE,hke,hve⟩:=FJ hkv heE;have hpN:=hE.lt p hpE;have b1:Below v.heap.size v v1:=by
        rcases hv1 with rfl |rfl
        ·exact Below.refl _ _
        ·exact aO _
       have hpl:z.heap.size<v1.heap.size:=Nat.lt_of_lt_of_le (Array.getElem?_eq_some_iff.1 hit).1 b1.size;obtain⟨v7,hv7⟩:∃v7,Go.ChangeMaps.setBlock v1 z.heap.size (.mapIter (some r) clock (seen.push e.born) clock)=v7:=⟨_,rfl⟩;rw [hv7]at hrun;have z7:v7.heap.size=v1.heap.size:=by subst hv7;simp [Go.ChangeMaps.setBlock]
       have o7:∀j,j≠z.heap.size→v7.heap[j]? =v1.heap[j]? :=by
        intro j hj;subst hv7;simp [Go.ChangeMaps.setBlock,Array.getElem?_setIfInBounds_ne (fun e=>hj e.symm)]
       have p7:v7.heap[z.heap.size]? =some (.mapIter (some r) clock (seen.push e.born) clock):=by
        subst hv7;simp [Go.ChangeMaps.setBlock,hpl]
       have hit1:=(b1.block _ (Array.getElem?_eq_some_iff.1 hit).1).trans hit;have t7:au z.heap.size v1 v7:=⟨by subst hv7;rfl,by subst hv7;rfl,by subst hv7;rfl,Nat.le_of_eq z7.symm,fun k _ hk=>o7 k hk⟩;have hR1:=hRv.on b1;have cellsKeep:∀(k:Nat) (c:Array Value) (e:TypeId) (fz:Nat×Nat),v1.heap[k]? =some (Obj.cells c e fz)→v7.heap[k]? =v1.heap[k]? :=fun k c e fz hk=>o7 k fun he=>by
        rw [he,hit1]at hk;cases hk
       have hR7:gK v7 q.heap.size q.heap.size M.N ks' (fun t=>if t=j then dL (M.goN i) seen es.toList else if t<j then M.goN (i+1) t else 0):=by
        obtain⟨cb,fb,hb⟩:=fX hR1.own;refine⟨hR1.len,aN hR1.own fun k hk=>?_,fun t ht=>(hR1.nat t ht).keep (fun p c fz _ hc=>cellsKeep _ _ _ _ hc) t7.size⟩;have hk:q.heap.size=k:=by simpa [Value.ownBlock]using hk
        subst hk;exact cellsKeep _ _ _ _ hb
       have hq7:Below q.heap.size q v7:=(ae hv b1).trans (t7.below hzs (ae hv b1).size |>.mono (Nat.le_refl _));have m7:v7.heap[r]? =some (.map es clock):=by
        rw [o7 _ (fun he=>by rw [he,hit]at hmv;cases hmv),b1.block _ (Array.getElem?_eq_some_iff.1 hmv).1];exact hmv
       have hent:=run_entry_at (P:=Tryz.prog) v7 z.heap.size r clock seen es clock e p7 m7 heE hbn;refine hI4 v (.inr ⟨true,e.key,e.val,v7,hrun,true,rfl,ac.yes rfl ⟨_,_,v7,hent,_,hke,_,hve,?_⟩⟩);intro v8 hv8;have b8:Below v7.heap.size v7 v8:=by subst hv8;exact aO v7
       have hq8:=ae hq7 b8;have hR8:=hR7.on b8;obtain⟨kj,cj,hkj⟩:=hR8.cell hj;rw [if_pos rfl]at hkj;obtain⟨rs,r1,r2,r3⟩:=hC.on hq8;have hrs:=Rw.of_own r2 (fun _=>rfl) (by decide);obtain⟨p9,hp9,c9⟩:=aZ hrs.1 (show i<rs.length by omega) rfl;obtain⟨kk,q1,q2,q3⟩:=r3 i (by omega);have hkk:=Rw.of_own q2 (fun _=>rfl) (by decide);obtain⟨p10,hp10,c10⟩:=aZ hkk.1 (show p.1<kk.length by omega) rfl;have hnat:=q3 p.1 (by omega);have hln:l.n=rs.length:=hrs.2;have hrn:(rs[i]).n=kk.length:=hkk.2;refine af.mk _ rfl ⟨by omega,by omega,kj.a,kj.n,kj.c,⟨cj,trivial⟩,af.mk _ rfl ⟨_,_,_,jE (ah hq8 hxq),Ar.nat i (by omega) (by omega) (af.mk p9 hp9 ⟨by omega,by omega,(rs[i]).a,(rs[i]).n,(rs[i]).c,c9,af.mk p10 hp10 ⟨by omega,by omega,(kk[p.1]).a,(kk[p.1]).n,(kk[p.1]).c,⟨c10,trivial⟩,?_⟩⟩)⟩⟩;have hgl:=Cx (M:=M) (by omega) i p.1;refine(sq v8 kk[p.1] (M.goN i p.1) p.2 hnat (by omega) (by omega)).mono ?_;rintro e' v9 ⟨x,rfl,hx9,b9⟩;have hR9:=hR8.on b9;obtain⟨kj',cj',_⟩:=hR9.cell hj;have cj9:v9.cell? ((⟨q.heap.size,0,none⟩:Addr).add (j*1))=some (.slice kj.a kj.n kj.c):=by
        obtain⟨cb,fb,hb⟩:=fX hR8.own;rw [←cj];unfold World.cell?;rw [ax,b9.block _ (Array.getElem?_eq_some_iff.1 hb).1]
       refine⟨x.a,x.n,x.c,rfl,⟨cj9,trivial⟩,?_⟩;intro v10 hv10;have b10:Below v9.heap.size v9 v10:=by subst hv10;exact ag _ _
       have x10:v10.heap[v9.heap.size]? =some (.cells #[x.v] cD (0,0)):=by subst hv10;exact ak _ _
       have cj10:v10.cell? ((⟨q.heap.size,0,none⟩:Addr).add (j*1))=some (.slice kj.a kj.n kj.c):=by
        obtain⟨cb,fb,hb⟩:=fX hR9.own;rw [←cj9];unfold World.cell?;rw [ax,b10.block _ (Array.getElem?_eq_some_iff.1 hb).1]
       have hterm:oK (M.goN i) e=M.goN i p.1*p.2:=by
        unfold oK;rw [hke,hve];exact Nat.mul_comm _ _
       have hpush:=nw (M.goN i) seen hbn heE heN;have hle1:=hall (seen.push e.born);rw [hpush,hterm]at hle1;have hd:=Cx (M:=M) (by omega) (i+1) j;have hd1:=sj dZ (show dL (M.goN i) seen es.toList≤M.goN (i+1) j by omega);have hd2:=sj dZ (show M.goN i p.1*p.2≤M.goN (i+1) j by omega);refine⟨⟨cj10,trivial⟩,(pv v10 kj x _ _ ((hkj.on b9).on b10) (hx9.on b10) (by omega) (by omega) (nb v9) 1 (aM x10) (Array.getElem?_eq_some_iff.1 x10).1).mono ?_⟩;rintro e' v11 ⟨y,rfl,hy,b11⟩;have b811:=ae b9 (ae b10 b11);have hR11:=hR8.on b811;refine⟨y.a,y.n,y.c,rfl,af.mk _ rfl ⟨by omega,by omega,hR11.put hj (x:=y) hy fun v12 hR12 t12 B12=>?_⟩⟩;have p12:v12.heap[z.heap.size]? =some (.mapIter (some r) clock (seen.push e.born) clock):=by
        obtain⟨cb,fb,hb⟩:=fX hR11.own;have h11:=ah b811 (ah b8 p7);rw [t12.block _ (Array.getElem?_eq_some_iff.1 h11).1 (fun he=>by rw [he,hb]at h11;cases h11)];exact h11
       have m12:v12.heap[r]? =some (.map es clock):=by
        obtain⟨cb,fb,hb⟩:=fX hR11.own;have h11:=ah b811 (ah b8 m7);rw [t12.block _ (Array.getElem?_eq_some_iff.1 h11).1 (fun he=>by rw [he,hb]at h11;cases h11)];exact h11
       refine ihk (seen.push e.born) (ks'.set j y) v12 ?_ p12 (hR12.congr fun t ht=>?_) (B12 _ _ (Nat.le_refl _) (ae hq8 b811)) m12
       ·have:=left_shrinks es seen e he;omega
       ·by_cases e':t=j
        ·rw [if_pos e',if_pos e',hpush,hterm]
        ·rw [if_neg e',if_neg e',if_neg e']
    have b17:=ag z (.mapIter (some r) clock #[] clock);refine loop _ #[] ks _ (Nat.le_refl _) (ak _ _) ((hR.on b17).congr fun t ht=>?_) (ae hz b17) (ah b17 hmb);by_cases e:t=j
    ·subst e;rw [if_pos rfl,if_neg (by omega),uC]
    ·rw [if_neg e]
   ·rintro⟨ks,z⟩ ⟨hR,hz⟩;change gK z q.heap.size q.heap.size M.N ks (fun t=>if t<M.N then M.goN (i+1) t else 0)at hR;change Below q.heap.size q z at hz;have hR:=hR.congr (f':=M.goN (i+1)) fun j hj=>if_pos hj;refine hI3 _ z (ac.no (decide_eq_false (by omega)) (af.mk _ rfl ⟨_,_,_,jE (ah hz hxq),?_⟩));intro w33 hw33;have tz:au c w z:=tq.trans (au.of_below hz);have hRow:eT z w.heap.size ⟨some ⟨q.heap.size,0,none⟩,M.N,M.N⟩ M.N (M.goN (i+1)):=⟨ks,hR.len,bG hR.own hzq,hR.nat⟩;obtain⟨l2,w34,e34,hC34,hB34,keep,keepM⟩:=(hC.on hz).push hRow tz.size (by omega) hw33;have hx34:w34.heap[c]? =some (.cells (gl a g L 0 1 l) fE (0,0)):=(keep _ _ _ _ (ah hz hxq) (by decide)).trans (ah hz hxq);have t34:au c w w34:=by
     have hb:=hB34 z ((Below.refl _ z).mono tz.size);exact⟨hb.os.trans tz.os,hb.tape.trans tz.tape,hb.output.trans tz.output,Nat.le_trans tz.size hb.size,fun k hk hne=>(hb.block k hk).trans (tz.block k hk hne)⟩
    refine⟨l2.a,l2.n,l2.c,w34,e34,af.mk _ rfl (Ad hx34 fun w35 x35 t35=>Ar.nat (i+1+1) rfl (by omega) (ih (l2,w35) ⟨x35,hC34.past hx34 t35 (by decide) (by decide) (by decide),(leadKeep keep keepM (hLd.on hz)).past hx34 t35 (by decide),t34.trans t35⟩))⟩
  ·rintro⟨l,q⟩ ⟨hxq,hC,hLd,tq⟩;change q.heap[c]? =some (.cells (gl a g L 0 1 l) fE (0,0))at hxq;exact hI2 _ q (af.mk _ rfl ⟨_,aj _ _ hxq 2,ac.no (decide_eq_false (by omega)) ⟨rfl,l,hxq,hC,tq⟩⟩)
set_option maxHeartbeats 1600000 in
theorem yZ (v:Nat) (w:World) (K:World→Prop)
  (hfind:CP 84 #[.pointer (some ⟨v,0,none⟩)] (w.setCell ⟨v,4,none⟩ (.int .i32 1)) fun e w'=>e= .returned (.tuple #[])∧K w')
  (hK:∀w',K w'→w'.cell? ⟨v,3,none⟩=some (.int .u32 0)∧w'.frozen? ⟨v,3,none⟩=false∧w'.cell? ⟨v,4,none⟩=some (.int .i32 1)∧w'.frozen? ⟨v,4,none⟩=false)
  (h0:w.cell? ⟨v,3,none⟩=some (.int .u32 0)) (h1:w.cell? ⟨v,4,none⟩=some (.int .i32 0)) (f0:w.frozen? ⟨v,3,none⟩=false) (f1:w.frozen? ⟨v,4,none⟩=false):
  CP 155 #[.pointer (some ⟨v,3,none⟩),.func (.func 84) #[.pointer (some ⟨v,0,none⟩)] #[]] w fun e w'=>e= .returned (.tuple #[])∧∃w2,K w2∧w'=(w2.drew.setCell ⟨v,3,none⟩ (.int .u32 1)).setCell ⟨v,4,none⟩ (.int .i32 0):=by
 have hl:=run_call_load (P:=Tryz.prog) Tryz.func204 (by kernel_rfl) (by kernel_rfl) (by kernel_rfl) .u32 (by kernel_rfl) (w:=w.setCell ⟨v,4,none⟩ (.int .i32 1)) (a:=⟨v,3,none⟩) (x:=0) ((World.cell?_setCell_other _ ⟨v,4,none⟩ ⟨v,3,none⟩ _ (by simp)).trans h0);have hnot:∀(x:Bool) (w:World),(Op.unary .not (.bool x)).run Tryz.prog w= .ok (.bool (!x)) w:=fun _ _=>rfl
 go_enter_defers Tryz.func155,Tryz.ntmps155
 go_wp2_with (go_at_call 205;refine(ow ⟨v,4,none⟩ _ (by go_simp) (by go_simp)).mono ?_;rintro e w' ⟨rfl,rfl⟩)
 go_wp2_with (first |(go_at_call 84;refine hfind.mono ?_;rintro e w' ⟨rfl,hk⟩) |go_in)
 obtain⟨k0,k1,k2,k3⟩:=hK _ hk;refine leaves_cons (f:=207) (args:=#[.pointer (some ⟨v,3,none⟩),.bool true]) (by simp) (by simp [go_sem]) ?_;refine(mn ⟨v,3,none⟩ (.int .u32 0) .returning _ k0 k1).mono ?_;rintro e u' w'' ⟨rfl,rfl,rfl⟩;refine leaves_cons (f:=206) (args:=#[.pointer (some ⟨v,4,none⟩)]) (by simp [settle]) (by simp [go_sem]) ?_;refine(kd ⟨v,4,none⟩ _ _ ?_ ?_).mono ?_
 ·refine(World.cell?_setCell_other _ ⟨v,3,none⟩ ⟨v,4,none⟩ _ (by simp)).trans ?_;rw [World.cell?_drew];exact k2
 ·simp [k3]
 rintro e u' w'' ⟨rfl,rfl,rfl⟩;simp [Leaves,settle,results,Tryz.results155];exact⟨_,hk,rfl⟩
set_option maxHeartbeats 1600000 in
theorem DG (v:Nat) (w:World) (K:World→Prop)
  (hfind:CP 84 #[.pointer (some ⟨v,0,none⟩)] (w.setCell ⟨v,4,none⟩ (.int .i32 1)) fun e w'=>e= .returned (.tuple #[])∧K w')
  (hK:∀w',K w'→w'.cell? ⟨v,3,none⟩=some (.int .u32 0)∧w'.frozen? ⟨v,3,none⟩=false∧w'.cell? ⟨v,4,none⟩=some (.int .i32 1)∧w'.frozen? ⟨v,4,none⟩=false)
  (h0:w.cell? ⟨v,3,none⟩=some (.int .u32 0)) (h1:w.cell? ⟨v,4,none⟩=some (.int .i32 0)) (f0:w.frozen? ⟨v,3,none⟩=false) (f1:w.frozen? ⟨v,4,none⟩=false):
  CP 83 #[.pointer (some ⟨v,3,none⟩),.func (.func 84) #[.pointer (some ⟨v,0,none⟩)] #[]] w fun e w'=>e= .returned (.tuple #[])∧∃w2,K w2∧w'=(w2.drew.setCell ⟨v,3,none⟩ (.int .u32 1)).setCell ⟨v,4,none⟩ (.int .i32 0):=by
 have hl:=run_call_load (P:=Tryz.prog) Tryz.func204 (by kernel_rfl) (by kernel_rfl) (by kernel_rfl) .u32 (by kernel_rfl) h0;have hnot:∀(x:Bool) (w:World),(Op.unary .not (.bool x)).run Tryz.prog w= .ok (.bool (!x)) w:=fun _ _=>rfl
 go_enter Tryz.func83,Tryz.ntmps83
 go_wp2_with (first |(go_at_call 155;refine(yZ v w K hfind hK h0 h1 f0 f1).mono ?_;rintro e w' ⟨rfl,hk⟩) |(go_at_call 154;go_in))
 go_end0
 exact⟨rfl,hk⟩
theorem KY {w:World} {a:Nat} {e:TypeId} {c:Array Value} (h:w.heap[a]? =some (.cells c e (0,0))) (j:Nat) (u:Value):
  (w.setCell ⟨a,j,none⟩ u).heap[a]? =some (.cells (c.setIfInBounds j u) e (0,0))∧au a w (w.setCell ⟨a,j,none⟩ u):=
 ⟨bD h u,⟨rfl,rfl,rfl,by rw [aU];exact Nat.le_refl _,fun k _ hk=>aq hk⟩⟩
theorem eT.box {w w':World} {B N b:Nat} {r:Sl} {f:Nat→Nat} (h:eT w B r N f) {c:Array Value} {e:TypeId} {fz:Nat×Nat} (hb:w.heap[b]? =some (.cells c e fz)) (t:au b w w') (hB:b<B) (h2:e≠dW):eT w' B r N f:=by
 obtain⟨ks,g1,g2,g3⟩:=h;exact⟨ks,g1,t.own g2 fun he=>by have:=b_ g2 _ he;omega,fun j hj=>(g3 j hj).past hb h2 t⟩
theorem sm.box {w w':World} {B m b:Nat} {l:Sl} {M:Aut} (h:sm w B l M m) {c:Array Value} {e:TypeId} {fz:Nat×Nat} (hb:w.heap[b]? =some (.cells c e fz)) (t:au b w w') (hB:b<B) (h2:e≠dW):sm w' B l M m:=by
 obtain⟨rs,g1,g2,g3⟩:=h;exact⟨rs,g1,t.own g2 fun he=>by have:=b_ g2 _ he;omega,fun i hi=>(g3 i hi).box hb t hB h2⟩
structure dx (w0 w:World) (hi c a g L:Nat) (M:Aut) (s:ar) (T:List aP):Prop where
 t:au c w0 w
 on0:ii w0 a g M s T
 typ:∃cc fz,w0.heap[c]? =some (.cells cc fE fz)
 cnt:∃d l,w.heap[c]? =some (.cells (gl a g L d 0 l) fE (0,0))∧((d=0∧l=bV)∨(d=1∧∃B,sm w0 B l M (L+1)∨(hi≤B∧sm w B l M (L+1))))
theorem dx.lt {w0 w:World} {hi c a g L:Nat} {M:Aut} {s:ar} {T:List aP} (h:dx w0 w hi c a g L M s T):c<w0.heap.size:=by
 obtain⟨cc,fz,hc⟩:=h.typ;exact(Array.getElem?_eq_some_iff.1 hc).1
theorem dx.on {w0 w:World} {hi c a g L:Nat} {M:Aut} {s:ar} {T:List aP} (h:dx w0 w hi c a g L M s T):ii w a g M s T:=by
 obtain⟨cc,fz,hc⟩:=h.typ;exact h.on0.past hc h.t.block
theorem dx.then {w0 w w':World} {hi c a g L:Nat} {M:Aut} {s:ar} {T:List aP} (h:dx w0 w hi c a g L M s T) (hb:Below w.heap.size w w'):dx w0 w' hi c a g L M s T:=by
 obtain⟨d,l,hx,hc⟩:=h.cnt;refine⟨h.t.trans (au.of_below hb),h.on0,h.typ,d,l,ah hb hx,hc.imp id fun⟨e,B,hB⟩=>⟨e,B,hB.imp id fun⟨h1,h2⟩=>⟨h1,h2.on hb⟩⟩⟩
theorem dx.box {w0 w w':World} {hi c a g L b:Nat} {M:Aut} {s:ar} {T:List aP} (h:dx w0 w hi c a g L M s T) {cc:Array Value} {e:TypeId} {fz:Nat×Nat} (hb:w.heap[b]? =some (.cells cc e fz)) (h1:w0.heap.size≤b) (h2:b<hi) (he:e≠dW) (t:au b w w'):dx w0 w' hi c a g L M s T:=by
 obtain⟨d,l,hx,hc⟩:=h.cnt;have hlt:=h.lt;refine⟨⟨t.os.trans h.t.os,t.tape.trans h.t.tape,t.output.trans h.t.output,Nat.le_trans h.t.size t.size,fun k hk hne=>(t.block k (Nat.lt_of_lt_of_le hk h.t.size) (by omega)).trans (h.t.block k hk hne)⟩,h.on0,h.typ,d,l,t.held (by omega) hx,hc.imp id fun⟨e',B,hB⟩=>⟨e',B,hB.imp id fun⟨g1,g2⟩=>⟨g1,g2.box hb t (by omega) he⟩⟩⟩
theorem dx.now {w0 w:World} {hi c a g L:Nat} {M:Aut} {s:ar} {T:List aP} (h:dx w0 w hi c a g L M s T) (hi':Nat):dx w w hi' c a g L M s T:=by
 obtain⟨d,l,hx,hc⟩:=h.cnt;obtain⟨cc,fz,h0⟩:=h.typ;refine⟨au.of_below (Below.refl _ _),h.on,⟨_,_,hx⟩,d,l,hx,hc.imp id fun⟨e,B,hB⟩=>⟨e,B,.inl ?_⟩⟩;rcases hB with hB |⟨_,hB⟩
 ·exact hB.past h0 h.t (by decide) (by decide) (by decide)
 ·exact hB
def mO (w w':World) (c a g L:Nat) (M:Aut):Prop:=Below w.heap.size w w'∨∃l B,w'.heap[c]? =some (.cells (gl a g L 1 0 l) fE (0,0))∧w.heap.size<B∧sm w' B l M (L+1)
theorem mO.code {w0 w w':World} {hi c a g L:Nat} {M:Aut} {s:ar} {T:List aP} (f:mO w w' c a g L M) (h:dx w0 w hi c a g L M s T) (hh:hi≤w.heap.size) (t:au c w w'):dx w0 w' hi c a g L M s T:=by
 rcases f with hb |⟨l,B,hx,hB,hC⟩
 ·exact h.then hb
 ·exact⟨h.t.trans t,h.on0,h.typ,1,l,hx,.inr ⟨rfl,B,.inr ⟨by omega,hC⟩⟩⟩
def eH (M:Aut) (L:Nat) (st n:Int):Nat:=if 0≤n∧n≤(L:Int)∧0≤st∧st< (M.N:Int)then M.goN n.toNat st.toNat else 0
set_option maxHeartbeats 2000000 in
theorem f_ (w0 w:World) (hi c a g L:Nat) (M:Aut) (s:ar) (T:List aP) (h:dx w0 w hi c a g L M s T) (hF:gJ M s T) (hL:L≤20000) (st n:Int):
  CP 41 #[.pointer (some ⟨c,0,none⟩),.int .i64 st,.int .i64 n] w fun e w'=>∃r:Sl,e= .returned (.agg #[r.v])∧br w' r (eH M L st n)∧mO w w' c a g L M∧au c w w':=by
 refine aL (Cr (some ⟨c,0,none⟩) st n w) ?_;intro w1 hw1;have b1:Below w.heap.size w w1:=by subst hw1;exact ag _ _
 have z1:w1.heap.size=w.heap.size+1:=by subst hw1;exact av _ _
 have x1:w1.heap[w.heap.size]? =some (.cells #[bV.v] cD (0,0)):=by subst hw1;exact ak _ _
 have h1:=h.then b1;have hlt:=h.lt;have htz:=h.t.size;obtain⟨d,l,hx,hc⟩:=h1.cnt;have none_:∀ {K:World→Prop},eH M L st n=0→(∀(q':World) (r:Sl),q'.heap[w.heap.size]? =some (.cells #[r.v] cD (0,0))→br q' r (eH M L st n)→mO w q' c a g L M→au c w q'→r=bV→K q')→bV.v.oneCell'=true∧(∃u,w1.cell? ⟨w.heap.size,0,none⟩=some u)∧w1.frozen? ⟨w.heap.size,0,none⟩=false∧∀q',q'=w1.setCell ⟨w.heap.size,0,none⟩ bV.v→K q':=by
  intro K h0 hk;refine cU (s:=bV) x1 fun q' hx' hN' hB' _ _=>?_;have hb:=hB' _ _ (Nat.le_refl _) b1;exact hk q' bV hx' (by rw [h0];exact iU _) (.inl hb) (au.of_below hb) rfl
 refine ac.no rfl (ac.mk (fun c1=>?_) fun c1=>af.mk _ rfl ⟨_,aj _ _ hx 2,ac.mk (fun c2=>?_) fun c2=>ac.mk (fun c3=>?_) fun c3=>af.mk _ rfl ⟨_,aj _ _ hx 0,(fB w1 a g M h1.on.aut).mono ?_⟩⟩)
 ·have c1:=of_decide_eq_true c1;refine none_ (by unfold eH;rw [if_neg (by omega)]) fun q' r hx' hN hC ht hr=>?_;subst hr;exact⟨_,_,_,bc hx',bV,rfl,hN,hC,ht⟩
 ·have c2:=of_decide_eq_true c2;refine none_ (by unfold eH;rw [if_neg (by omega)]) fun q' r hx' hN hC ht hr=>?_;subst hr;exact⟨_,_,_,bc hx',bV,rfl,hN,hC,ht⟩
 ·have c3:=of_decide_eq_true c3;refine none_ (by unfold eH;rw [if_neg (by omega)]) fun q' r hx' hN hC ht hr=>?_;subst hr;exact⟨_,_,_,bc hx',bV,rfl,hN,hC,ht⟩
 rintro e w6 ⟨rfl,hw6⟩;subst w6;have c1:=of_decide_eq_false c1;have c2:=of_decide_eq_false c2;have c3:=of_decide_eq_false c3;refine⟨_,rfl,ac.mk (fun c4=>?_) fun c4=>?_⟩
 ·have c4:=of_decide_eq_true c4;refine none_ (by unfold eH;rw [if_neg (by omega)]) fun q' r hx' hN hC ht hr=>?_;subst hr;exact⟨_,_,_,bc hx',bV,rfl,hN,hC,ht⟩
 have c4:=of_decide_eq_false c4;obtain⟨k,rfl⟩:∃k:Nat,n=(k:Int):=⟨n.toNat,by omega⟩;obtain⟨x,rfl⟩:∃x:Nat,st=(x:Int):=⟨st.toNat,by omega⟩;have hv:eH M L (x:Int) (k:Int)=M.goN k x:=by
  unfold eH;rw [if_pos (by omega)];rfl
 have e3:((⟨c,0,none⟩:Addr).add 3).add 0=⟨c,3,none⟩:=by rw [aC,aC]
 refine af.mk _ rfl ?_;rw [e3,hv];have rest:∀(q:World) (l:Sl) (B:Nat),q.heap[c]? =some (.cells (gl a g L 1 0 l) fE (0,0))→sm q B l M (L+1)→au c w1 q→(∀q',(∃cc fz,q.heap[w.heap.size]? =some (.cells cc cD fz)∧au w.heap.size q q')→mO w q' c a g L M)→
   af (some ⟨c,0,none⟩) fun pa_17=>∃lA:Option Addr,∃lN lC:Nat,q.cell? ((pa_17.add 3).add 3)=some (Value.slice lA lN lC)∧af lA fun pa_18=>(0:Int)≤(k:Int)∧(k:Int) < ((lN:Nat):Int)∧
    ∃lA_19:Option Addr,∃lN_20 lC_21:Nat,q.cell? (pa_18.add (((k:Int)).toNat*1))=some (Value.slice lA_19 lN_20 lC_21)∧af lA_19 fun pa_22=>(0:Int)≤(x:Int)∧(x:Int) < ((lN_20:Nat):Int)∧
     ∃g0A:Option Addr,∃g0N g0C:Nat,(q.cell? (pa_22.add (((x:Int)).toNat*1))=some (Value.slice g0A g0N g0C)∧True)∧(Value.slice g0A g0N g0C).oneCell'=true∧(∃u,q.cell? (nb w)=some u)∧q.frozen? (nb w)=false∧
      ∀w9:World,w9=q.setCell (nb w) (Value.slice g0A g0N g0C)→∃res0A:Option Addr,∃res0N res0C:Nat,(w9.cell? (nb w)=some (Value.slice res0A res0N res0C)∧True)∧
       (∃r:Sl,Ending.returned (Value.agg #[Value.slice res0A res0N res0C])= .returned (.agg #[r.v])∧br w9 r (M.goN k x)∧mO w w9 c a g L M∧au c w w9):=by
  intro q l B hxq hC ht hW;obtain⟨rs,r1,r2,r3⟩:=hC;have hrs:=Rw.of_own r2 (fun _=>rfl) (by decide);obtain⟨p9,hp9,c9⟩:=aZ hrs.1 (show k<rs.length by omega) rfl;obtain⟨kk,q1,q2,q3⟩:=r3 k (by omega);have hkk:=Rw.of_own q2 (fun _=>rfl) (by decide);obtain⟨p10,hp10,c10⟩:=aZ hkk.1 (show x<kk.length by omega) rfl;have hnat:=q3 x (by omega);have hln:l.n=rs.length:=hrs.2;have hrn:(rs[k]).n=kk.length:=hkk.2;have xq:q.heap[w.heap.size]? =some (.cells #[bV.v] cD (0,0)):=ht.held (by omega) x1;refine af.mk _ rfl ⟨_,_,_,jE hxq,af.mk p9 hp9 ⟨by omega,by omega,(rs[k]).a,(rs[k]).n,(rs[k]).c,c9,af.mk p10 hp10 ⟨by omega,by omega,(kk[x]).a,(kk[x]).n,(kk[x]).c,⟨c10,trivial⟩,cU (s:=kk[x]) xq fun w9 hx9 hN9 hB9 hs9 hz9=>⟨_,_,_,bc hx9,kk[x],rfl,hN9 _ _ hnat,hW w9 ⟨_,_,xq,cX hB9 hs9 hz9⟩,?_⟩⟩⟩⟩;have t2:=(au.of_below (v:=c) b1).trans ht;exact⟨(cX hB9 hs9 hz9).os.trans t2.os,(cX hB9 hs9 hz9).tape.trans t2.tape,(cX hB9 hs9 hz9).output.trans t2.output,by have:=t2.size;omega,fun j hj hne=>(hs9 j (by omega)).trans (t2.block j hj hne)⟩
 rcases hc with⟨rfl,rfl⟩ |⟨rfl,B,hB⟩
 ·obtain⟨y2,t2⟩:=KY hx 4 (.int .i32 1);have hO2:=h1.on.past hx t2.block;refine(DG c w1 (fun w'=>∃l,w'.heap[c]? =some (.cells (gl a g L 0 1 l) fE (0,0))∧sm w' (w1.setCell ⟨c,4,none⟩ (.int .i32 1)).heap.size l M (L+1)∧au c (w1.setCell ⟨c,4,none⟩ (.int .i32 1)) w') (sO _ c a g L M s T y2 hO2 hF hL) ?_ (aM hx) (aM hx) (bo hx) (bo hx)).mono ?_
  ·rintro w' ⟨l',hb',_⟩;exact⟨aM hb',bo hb',aM hb',bo hb'⟩
  ·rintro e w8 ⟨rfl,wf,⟨l',hbf,hCf,tf⟩,hw8⟩;refine⟨rfl,?_⟩;have hbd:wf.drew.heap[c]? =some (.cells (gl a g L 0 1 l') fE (0,0)):=hbf;obtain⟨y4,t4⟩:=KY hbd 3 (.int .u32 1);obtain⟨y5,t5⟩:=KY y4 4 (.int .i32 0);rw [←hw8]at y5 t5;have hz2:(w1.setCell ⟨c,4,none⟩ (.int .i32 1)).heap.size=w1.heap.size:=aU _ _ _;rw [hz2]at hCf;have tt:au c wf w8:=((au.of_below (aO wf)).trans t4).trans t5;have hC8:=hCf.past hbf tt (by decide) (by decide) (by decide);have t8:au c w1 w8:=(t2.trans tf).trans tt;refine rest w8 l' _ y5 hC8 t8 ?_;rintro q' ⟨cc,fz,hbb,tb⟩;exact .inr ⟨l',w1.heap.size,tb.held (by omega) y5,by omega,hC8.box hbb tb (by omega) (by decide)⟩
 ·have hCw:sm w1 B l M (L+1):=by
   obtain⟨cc,fz,h0⟩:=h1.typ;rcases hB with hB |⟨_,hB⟩
   ·exact hB.past h0 h1.t (by decide) (by decide) (by decide)
   ·exact hB
  refine(nX ⟨c,3,none⟩ 1 (by decide) _ w1 (aM hx)).mono ?_;rintro e w8 ⟨rfl,hw⟩;subst hw;refine⟨rfl,rest w8 l B hx hCw (au.of_below (Below.refl _ _)) ?_⟩;rintro q' ⟨cc,fz,hbb,tb⟩;exact .inl ⟨tb.os.trans b1.os,tb.tape.trans b1.tape,tb.output.trans b1.output,Nat.le_trans b1.size tb.size,fun j hj=>(tb.block j (by omega) (by omega)).trans (b1.block j hj)⟩
theorem dY (w0 w:World) (hi c a g L:Nat) (M:Aut) (s:ar) (T:List aP) (h:dx w0 w hi c a g L M s T) (hF:gJ M s T) (hL:L≤20000) (n:Int):
  CP 45 #[.pointer (some ⟨c,0,none⟩),.int .i64 n] w fun e w'=>∃r:Sl,e= .returned (.agg #[r.v])∧br w' r (eH M L 0 n)∧mO w w' c a g L M∧au c w w':=by
 refine aL (B6 (some ⟨c,0,none⟩) n w) ?_;intro w1 hw1;have b1:Below w.heap.size w w1:=by subst hw1;exact ag _ _
 have z1:w1.heap.size=w.heap.size+1:=by subst hw1;exact av _ _
 have x1:w1.heap[w.heap.size]? =some (.cells #[bV.v] cD (0,0)):=by subst hw1;exact ak _ _
 have hlt:=h.lt;have htz:=h.t.size;refine(f_ w0 w1 hi c a g L M s T (h.then b1) hF hL 0 n).mono ?_;rintro e w2 ⟨r,rfl,hN,hf,t2⟩;have x2:=t2.held (by omega) x1;refine⟨r.a,r.n,r.c,rfl,cU (s:=r) x2 fun w3 hx3 hN3 hB3 hs3 hz3=>⟨_,_,_,bc hx3,r,rfl,hN3 _ _ hN,?_,?_⟩⟩
 ·rcases hf with hb |⟨l,B,hx,hB,hC⟩
  ·exact .inl (hB3 _ _ (Nat.le_refl _) (ae b1 hb))
  ·have t3:=cX hB3 hs3 hz3;exact .inr ⟨l,B,t3.held (by omega) hx,by omega,hC.box x2 t3 (by omega) (by decide)⟩
 ·have t12:=(au.of_below (v:=c) b1).trans t2;have t3:=cX hB3 hs3 hz3;exact⟨t3.os.trans t12.os,t3.tape.trans t12.tape,t3.output.trans t12.output,by have:=t12.size;omega,fun j hj hne=>(hs3 j (by omega)).trans (t12.block j hj hne)⟩
theorem mD (w:World) (a g:Nat) (M:Aut) (s:ar) (T:List aP) (hO:ii w a g M s T) (hF:gJ M s T) (n:Int):
  CP 55 #[.pointer (some ⟨a,0,none⟩),.pointer (some ⟨g,0,none⟩),.int .i64 n] w fun e w'=>Below w.heap.size w w'∧(n<0→e= .returned (.tuple #[.pointer none,.int .i64 1]))∧(0≤n→n*M.N>20000→e= .returned (.tuple #[.pointer none,.int .i64 5]))∧(0≤n→n*M.N≤20000→∃c,e= .returned (.tuple #[.pointer (some ⟨c,0,none⟩),.int .i64 0])∧w.heap.size≤c∧dx w' w' 0 c a g n.toNat M s T):=by
 have hpos:=hF.ok.pos;have hN:=hF.N;refine aL (BV (some ⟨a,0,none⟩) (some ⟨g,0,none⟩) n w) ?_;refine ac.no rfl (ac.no rfl (ac.mk (fun h0=>?_) fun h0=>(fB w a g M hO.aut).mono ?_))
 ·have h0:=of_decide_eq_true h0;exact⟨Below.refl _ _,fun _=>rfl,fun h=>by omega,fun h=>by omega⟩
 have h0:=of_decide_eq_false h0;rintro e w1 ⟨rfl,hw⟩;subst w1;have ediv:IntKind.wrap .i64 (Int.tdiv 20000 (M.N:Int))=((20000/M.N:Nat):Int):=by
  have:Int.tdiv 20000 (M.N:Int)=((20000/M.N:Nat):Int):=rfl;rw [this];have h5:=Nat.div_le_self 20000 M.N;clear this;generalize 20000/M.N=d at h5⊢;exact dm (by show(-9223372036854775808:Int)≤_;omega) (by show _≤(9223372036854775807:Int);omega)
 obtain⟨k,rfl⟩:∃k:Nat,n=(k:Int):=⟨n.toNat,by omega⟩;have hiff:k≤20000/M.N↔k*M.N≤20000:=Nat.le_div_iff_mul_le hpos;refine⟨_,rfl,by omega,?_⟩;rw [ediv];refine ac.mk (fun h1=>?_) fun h1=>?_
 ·have h1:=of_decide_eq_true h1;have h2:¬k*M.N≤20000:=fun h=>by
   have:=hiff.2 h;omega
  refine⟨Below.refl _ _,fun h=>by omega,fun _ _=>rfl,fun _ h=>?_⟩;rw [←Int.natCast_mul]at h;omega
 ·have h1:=of_decide_eq_false h1;have h2:k*M.N≤20000:=hiff.1 (by omega);intro w2 hw2;have b2:Below w.heap.size w w2:=by subst hw2;exact ag _ _
  have x2:w2.heap[w.heap.size]? =some (.cells (gl a g k 0 0 bV) fE (0,0)):=by subst hw2;exact ak _ _
  refine⟨b2,fun h=>by omega,fun _ h=>?_,fun _ _=>⟨_,rfl,Nat.le_refl _,au.of_below (Below.refl _ _),hO.on b2,⟨_,_,x2⟩,0,bV,x2,.inl ⟨rfl,rfl⟩⟩⟩;rw [←Int.natCast_mul]at h;omega
set_option maxHeartbeats 1000000 in
theorem nY (w0:World) (hi c a g L:Nat) (M:Aut) (s:ar) (T:List aP) (hF:gJ M s T) (hL:L≤20000) (st left:Nat) (hst:st<M.N) (hleft:left≤L) (enough:Value) (w:World) (P:Nat→World→Prop) (Q:World→Prop) (hP:P 0 w)
  (code:∀k q,P k q→dx w0 q hi c a g L M s T)
  (skip:∀k q,k<gN s T→P k q→M.good (M.nxt st k)=false→P (k+1) q)
  (step:∀k q,k<gN s T→P k q→M.good (M.nxt st k)=true→∀(r:Sl) (q':World),mO q q' c a g L M→au c q q'→br q' r (Aut.via M left st k)→bH gr enough [.int .i64 ((bx s T).getD k 0),.int .i64 ((M.nxt st k:Nat):Int),.agg #[r.v]] q' fun e q2=>∃b:Bool,e= .returned (.bool b)∧(b=true→Q q2)∧(b=false→P (k+1) q2)):
  CP 95 #[.pointer (some ⟨c,0,none⟩),.int .i64 (st:Int),.int .i64 (left:Int),enough] w fun e w'=>∃b:Bool,e= .returned (.bool b)∧(b=true→Q w')∧(b=false→P (gN s T) w'):=by
 refine aL (BM (some ⟨c,0,none⟩) (st:Int) (left:Int) enough w) ?_;obtain⟨d,l,hx,_⟩:=(code 0 w hP).cnt;have hfew:=hF.few;refine af.mk _ rfl ⟨_,aj _ _ hx 1,(dt w g s T (code 0 w hP).on.grid).mono ?_⟩;rintro e w1 ⟨rfl,hw⟩;subst w1;have hlen:(bx s T).length=gN s T:=rfl;refine⟨_,rfl,?_⟩;rw [hlen];intro I hI;have key:=aX (α:=World) (gN s T) (fun k q=>P k q) (fun k q=>∀y,I [.int .i64 (k:Int),.bool y] q) w hP ?_ ?_
 ·exact key _
 ·intro k hk ih q hq y;have hC:=code k q hq;have hO:=hC.on;obtain⟨d,l,hx,_⟩:=hC.cnt;refine hI _ y q (ac.yes (decide_eq_true (by omega)) ((px q c a g L d 0 l s T hx hO.grid k hk).mono ?_));rintro e w3 ⟨rfl,hw⟩;subst w3;refine⟨_,rfl,af.mk _ rfl ⟨_,aj _ _ hx 0,(ma q a g M hO.aut s T hO.grid hF.n (st:Int) _).mono ?_⟩⟩;rintro e w4 ⟨rfl,hw⟩;subst w4;have hlt:M.nxt st k<M.N:=hF.ok.lt _ _ hst (by rw [hF.n];exact hk);rw [CS hF hst hk];refine⟨_,_,rfl,ac.yes rfl (af.mk _ rfl ⟨_,aj _ _ hx 0,(jG q a g M hO.aut _).mono ?_⟩)⟩;rintro e w5 ⟨rfl,hw⟩;subst w5;rw [pK hlt];refine⟨_,rfl,ac.mk (fun hg=>?_) fun hg=>Ar.nat (k+1) rfl (by omega) (ih q (skip k q hk hq hg) y)⟩;refine(f_ w0 q hi c a g L M s T hC hF hL _ (left:Int)).mono ?_;rintro e w6 ⟨r,rfl,hN,hf,t⟩;have hv:eH M L ((M.nxt st k:Nat):Int) (left:Int)=Aut.via M left st k:=by
   unfold eH Aut.via;rw [if_pos (by omega),hg];rfl
  rw [hv]at hN;refine⟨r.a,r.n,r.c,rfl,(step k q hk hq hg r w6 hf t hN).mono ?_⟩;rintro e w7 ⟨b,rfl,h1,h2⟩;refine⟨_,rfl,ac.mk (fun hb=>⟨true,rfl,fun _=>h1 hb,fun h=>(by cases h)⟩) fun hb=>Ar.nat (k+1) rfl (by omega) (ih w7 (h2 hb) y)⟩
 ·intro q hq y;exact hI _ y q (ac.no (decide_eq_false (by omega)) ⟨false,rfl,fun h=>(by cases h),fun _=>hq⟩)
end Go.Proofs.YtdlcfegnaphclaaGreat.Eng
