/- The grid of a vocabulary, walked by the engine. -/
import Derived.Test.YtdlcfegnaphclaaGreatZqRj
import Derived.Test.YtdlcfegnaphclaaGreatZqSp
import Derived.Test.YtdlcfegnaphclaaGreatZqTab
import Derived.Test.YtdlcfegnaphclaaGreatZqRa
set_option linter.unusedVariables false
set_option linter.unusedSimpArgs false
set_option maxRecDepth 100000
namespace Go.Proofs.YtdlcfegnaphclaaGreat.Eng
open Go Go.RowKit
theorem Cb (w:World) (v:Nat) (s:ar) (T:List aQ) (hV:bB w v s T) (a b:Int) (ha:(aF s T).Has a) (hb:(aF s T).Has b):
  CP 76 #[.pointer (some ⟨v,0,none⟩),.int .i64 a,.int .i64 b] w fun e w'=>e= .returned (.bool (decide ((aF s T).Canon [a,b])))∧bB w' v s T∧aq v w w':=by
 refine aT (BL (some ⟨v,0,none⟩) a b w (fun u w'=>u= .bool (decide ((aF s T).Canon [a,b]))∧bB w' v s T∧aq v w w') ?_) (by rintro v w' ⟨rfl,h⟩;exact⟨rfl,h⟩);have parts:∀ {q:World},bB q v s T→∃x tp bp mp,cH q s T x tp bp mp∧∃c,nf q v c tp bp mp:=by
  rintro q ⟨w0,x,tp,bp,mp,d,l,uses,hR⟩;exact⟨x,tp,bp,mp,hR.now,_,hR.vblk⟩
 obtain⟨x,tp,bp,mp,hP,_⟩:=parts hV;have hok:=pl hP;have hab:∀t∈ [a]++ [b],(aF s T).Has t:=by
  intro t ht;simp at ht;rcases ht with rfl |rfl
  ·exact ha
  ·exact hb
 refine(my w v s T hV a).mono ?_;rintro e w1 ⟨rfl,hV1,t1⟩;refine⟨_,rfl,ac.mk (fun h1=>?_) fun h1=>⟨?_,hV1,t1⟩⟩
 ·have ca:=(iu hP ha).1 h1;refine(my w1 v s T hV1 b).mono ?_;rintro e w2 ⟨rfl,hV2,t2⟩;have t12:=t1.trans t2;refine⟨_,rfl,ac.mk (fun h2=>?_) fun h2=>⟨?_,hV2,t12⟩⟩
  ·have cb:=(iu hP hb).1 h2;obtain⟨x2,tp2,bp2,mp2,hP2,c2,hB2⟩:=parts hV2;refine(AV hB2 hP2 a b ha hb ca cb).mono ?_;rintro e w3 ⟨r,rfl,hr,b3⟩;refine⟨r,rfl,?_,hV2.on b3,t12.trans (aq.of_below b3)⟩;have hm:=Voc.canon_more hok (init:=[]) (l:=a) (t:=b) (fun x hx=>by simp at hx;rw [hx];exact ha) ca hb;congr 1;have hm2:(aF s T).Canon [a,b]↔(aF s T).Canon [b]∧(aF s T).Pair a b:=hm;cases r with
   |true=>exact(decide_eq_true (hm2.2 ⟨cb,hr.1 rfl⟩)).symm
   |false=>exact(decide_eq_false fun e=>by have:=hr.2 (hm2.1 e).2;cases this).symm
  ·rw [decide_eq_false fun e=>?_];have:=(iu hP hb).2 (Voc.canon_append hok (P:=[a]) (Q:=[b]) hab e).2;rw [h2]at this;cases this
 ·rw [decide_eq_false fun e=>?_];have:=(iu hP ha).2 (Voc.canon_append hok (P:=[a]) (Q:=[b]) hab e).1;rw [h1]at this;cases this
abbrev so:TypeId:=132
abbrev K5:TypeId:=129
theorem IP:Tryz.prog.underlying K5=some (.slice nk):=by kernel_rfl
theorem IC:(Tryz.prog.info? nk).map (fun i=>(i.zero,i.size,i.bytes))=some (some (.slice none 0 0),1,24):=by kernel_rfl
def rO (r:Sl):List Value:=[r.v]
theorem Gs:xT rO 1 K5 nk 24:=⟨fun _=>rfl,by decide,fun x u hu=>by rw [List.mem_singleton.1 hu];rfl,IP,_,IC,rfl⟩
def tL (G:List Int):List (Int×Value):=G.zipIdx.map fun x=>(x.1,.int .i64 (x.2:Int))
theorem Ff (G:List Int) (x:Int):tL (G++ [x])=tL G++ [(x,.int .i64 (G.length:Int))]:=by simp [tL,List.zipIdx_append]
theorem uy (G:List Int) (k:Int):ez k (tL G)=(G.idxOf? k).map fun i:Nat=>Value.int .i64 (i:Int):=by
 have:=gX (fun x:Int=>x) k G 0;simp only [Nat.zero_add,List.map_id']at this;exact this
def mT (s:ar) (T:List aQ) (i:Nat):Bool:=decide ((aF s T).Canon [(bn s T).getD i 0])
def eu (s:ar) (T:List aQ) (i k:Nat):Bool:=decide ((aF s T).Canon [(bn s T).getD i 0,(bn s T).getD k 0])
structure kV (w:World) (g:Nat) (G:List Int) (al:Nat→Bool) (rel:Nat→Nat→Bool) (ids rows alone:Sl) (mb:Nat) (rs:List Sl) (m:Nat):Prop where
 blk:w.heap[g]? =some (.cells #[ids.v,.map (some mb),rows.v,alone.v] so (0,0))
 oi:w.ownsRow 0 aU 1 ids.v ids.n (G.flatMap aE)
 map:bC bj w mb (tL G)
 orows:w.ownsRow 0 nk 1 rows.v rows.n (rs.flatMap rO)
 rl:rs.length=m
 each:∀(i:Nat) (r:Sl),rs[i]? =some r→w.ownsRow 0 gR 1 r.v r.n ((bx G.length (rel i)).flatMap dj)
 oal:w.ownsRow 0 gR 1 alone.v alone.n ((bx G.length al).flatMap dj)
def rK (w:World) (g:Nat) (G:List Int) (al:Nat→Bool) (rel:Nat→Nat→Bool):Prop:=∃ids rows alone mb rs,kV w g G al rel ids rows alone mb rs G.length
theorem kV.on {w w':World} {g:Nat} {G:List Int} {al:Nat→Bool} {rel:Nat→Nat→Bool} {ids rows alone:Sl} {mb:Nat} {rs:List Sl} {m:Nat} (h:kV w g G al rel ids rows alone mb rs m) (hb:Below w.heap.size w w'):kV w' g G al rel ids rows alone mb rs m:=
 ⟨ag hb h.blk,aA h.oi hb,h.map.on hb,aA h.orows hb,h.rl,fun i r hr=>aA (h.each i r hr) hb,aA h.oal hb⟩
theorem rK.on {w w':World} {g:Nat} {G:List Int} {al:Nat→Bool} {rel:Nat→Nat→Bool} (h:rK w g G al rel) (hb:Below w.heap.size w w'):rK w' g G al rel:=by
 obtain⟨ids,rows,alone,mb,rs,h⟩:=h;exact⟨ids,rows,alone,mb,rs,h.on hb⟩
theorem bB.typed {w:World} {v:Nat} {s:ar} {T:List aQ} (h:bB w v s T):∃c,w.heap[v]? =some (.cells c dK (0,0)):=by
 obtain⟨w0,x,tp,bp,mp,d,l,uses,hR⟩:=h;exact⟨_,hR.blk⟩
theorem bB.ne_cells {w:World} {v:Nat} {s:ar} {T:List aQ} (h:bB w v s T) {k:Nat} {c:Array Value} {e:TypeId} {fz:Nat×Nat} (hk:w.heap[k]? =some (.cells c e fz)) (he:e≠dK):k≠v:=by
 obtain⟨c',hc⟩:=h.typed;rintro rfl;rw [hc]at hk;cases hk;exact he rfl
theorem bB.ne_map {w:World} {v:Nat} {s:ar} {T:List aQ} (h:bB w v s T) {κ:Type} [DecidableEq κ] {kv:κ→Value} {r:Nat} {m:List (κ×Value)} (hm:bC kv w r m):r≠v:=by
 obtain⟨c',hc⟩:=h.typed;rintro rfl;obtain⟨es,k,hk,_⟩:=hm;rw [hc]at hk;cases hk
theorem kV.touch {w w':World} {g:Nat} {G:List Int} {al:Nat→Bool} {rel:Nat→Nat→Bool} {ids rows alone:Sl} {mb:Nat} {rs:List Sl} {m:Nat} (h:kV w g G al rel ids rows alone mb rs m) {v:Nat} {s:ar} {T:List aQ} (hV:bB w v s T) (t:aq v w w'):kV w' g G al rel ids rows alone mb rs m:=
 ⟨t.held (hV.ne_cells h.blk (by decide)) h.blk,hV.own_touch t h.oi (by decide),h.map.same (t.block mb h.map.lt (hV.ne_map h.map)),hV.own_touch t h.orows (by decide),h.rl,fun i r hr=>hV.own_touch t (h.each i r hr) (by decide),hV.own_touch t h.oal (by decide)⟩
theorem gZ {w2 w3:World} {x u:Value} {e:TypeId} (hw:w3=w2.alloc (.cells #[x] e)) (hu:u.oneCell'=true) {k:World→Prop} (hk:∀w4,w4.heap[w2.heap.size]? =some (.cells #[u] e (0,0))→Below w2.heap.size w2 w4→k w4):u.oneCell'=true∧(∃y,w3.cell? (nb w2)=some y)∧w3.frozen? (nb w2)=false∧∀w4,w4=w3.setCell (nb w2) u→k w4:=
 dU (aX [x] [u] rfl (by intro y hy;rw [List.mem_singleton.1 hy];exact hu) w3 hw fun w4 h4 _ b4=>hk w4 h4 b4)
theorem bF {w:World} {b:Nat} {x:Value} {e:TypeId} {fz:Nat×Nat} (h:w.heap[b]? =some (.cells #[x] e fz)):w.cell? ⟨b,0,none⟩=some x:=aN h
theorem eX {α:Type} {l:List α} {i:Nat} (h:i<l.length) (d:α):l.getD i d=l[i]:=by simp [List.getD,h]
theorem rN {s:ar} {T:List aQ} (h1:gc T) (h2:s.right=true):256≤(bn s T).length∧(bn s T).length≤1032:=by
 have:=h1.most;have:=h1.len;have:=gf (iJ h2).2.2.2.1;rw [ek];omega
theorem aq.put {v d j:Nat} {a b:World} (t:aq v a b) (hd:a.heap.size≤d) (u:Value):aq v a (b.setCell ((⟨d,0,none⟩:Addr).add j) u):=
 ⟨t.os,t.tape,t.output,by rw [aY];exact t.size,fun k hk hv=>by rw [au (by rw [ay];show k≠d;omega)];exact t.block k hk hv⟩
theorem bB.put {w:World} {v d j:Nat} {s:ar} {T:List aQ} (h:bB w v s T) {c:Array Value} {e:TypeId} (hd:w.heap[d]? =some (.cells c e (0,0))) (he:bR≠e) (hv:v<d) (u:Value):bB (w.setCell ((⟨d,0,none⟩:Addr).add j) u) v s T:=by
 obtain⟨w0,x,tp,bp,mp,q,l,uses,hR⟩:=h;have hlt:=hR.lt;refine⟨w0,x,tp,bp,mp,q,l,uses,hR.parts,bM hR.below (by omega) u,hlt,by rw [au (by rw [ay];show v≠d;omega)];exact hR.blk,?_⟩;rcases hR.once with h |⟨h1,h2,h3⟩
 ·exact .inl h
 ·exact .inr ⟨h1,h2,bG h3 u (by rw [ay];exact az h3 hd he)⟩
theorem bB.growE {w w':World} {v:Nat} {s:ar} {T:List aQ} (h:bB w v s T) {B:Nat} (hb:Below B w w') (hv:v<B) {B' n sz:Nat} {e:TypeId} {u:Value} {xs:List Value} (ho:w.ownsRow B' e sz u n xs) (he:bR≠e) (hk:∀k,k<w.heap.size→u.ownBlock≠some k→w'.heap[k]? =w.heap[k]?):bB w' v s T:=by
 obtain⟨w0,x,tp,bp,mp,d,l,uses,hR⟩:=h;have hlt:=hR.lt;refine⟨w0,x,tp,bp,mp,d,l,uses,hR.parts,hR.below.trans (hb.mono (by omega)),hlt,by rw [hb.block v hv];exact hR.blk,?_⟩;rcases hR.once with h |⟨h1,h2,h3⟩
 ·exact .inl h
 ·exact .inr ⟨h1,h2,aR h3 fun k hk3=>hk k (cm h3 k hk3).2 (bQ h3 ho he k hk3)⟩
theorem Fb (w:World) (v:Nat) (s:ar) (T:List aQ) (hV:bB w v s T) (t:Int) (ht:(aF s T).Has t):
  CP 73 #[.pointer (some ⟨v,0,none⟩),.int .i64 t] w fun e w'=>e= .returned (.bool (decide ((aF s T).Canon [t])))∧bB w' v s T∧aq v w w':=by
 have hP:∃x tp bp mp,cH w s T x tp bp mp:=by
  obtain⟨w0,x,tp,bp,mp,d,l,uses,hR⟩:=hV;exact⟨x,tp,bp,mp,hR.now⟩
 obtain⟨x,tp,bp,mp,hP⟩:=hP;refine(my w v s T hV t).mono ?_;rintro e w1 ⟨rfl,h⟩;refine⟨?_,h⟩;congr 2;have:=iu hP ht;cases ha:gE s T t with
 |true=>exact(decide_eq_true (this.1 ha)).symm
 |false=>exact(decide_eq_false fun e=>by rw [this.2 e]at ha;cases ha).symm
theorem EX (w:World) (v:Nat) (s:ar) (T:List aQ) (hV:bB w v s T) (b0 b1:Nat) {e0 e1:TypeId} (ids:Sl) (G:List Int) (h0:w.heap[b0]? =some (.cells #[.pointer (some ⟨v,0,none⟩)] e0 (0,0))) (h1:w.heap[b1]? =some (.cells #[ids.v] e1 (0,0))) (oi:w.ownsRow 0 aU 1 ids.v ids.n (G.flatMap aE)) (hG:∀t∈G,(aF s T).Has t) (i:Nat) (hi:i<G.length):
  CP 72 #[.int .i64 (i:Int),.pointer (some ⟨b0,0,none⟩),.pointer (some ⟨b1,0,none⟩)] w fun e w'=>e= .returned (.bool (decide ((aF s T).Canon [G.getD i 0])))∧bB w' v s T∧aq v w w':=by
 refine aO (Bj i (some ⟨b0,0,none⟩) (some ⟨b1,0,none⟩) w) ?_;intro w1 hw1;have b1':Below w.heap.size w w1:=by subst hw1;exact aK w
 have hls:=LsAt.of_own cY (aA oi b1');have hn:=hls.n;obtain⟨p,hp,c0⟩:=aS hls.r hi rfl;refine ah.mk _ rfl ⟨_,bF (ag b1' h0),ah.mk _ rfl ⟨ids.a,ids.n,ids.c,bF (ag b1' h1),ah.mk p hp ⟨by omega,by omega,_,c0,?_⟩⟩⟩;refine(Fb w1 v s T (hV.on b1') G[i] (hG _ (List.getElem_mem hi))).mono ?_;rintro e w2 ⟨rfl,hV2,t2⟩;refine⟨_,rfl,?_,hV2,(aq.of_below b1').trans t2⟩;rw [eX hi]
theorem El (w:World) (v:Nat) (s:ar) (T:List aQ) (hV:bB w v s T) (cg ci cv ca cids:Nat) {eg ei ev ea ed:TypeId} (g:Nat) (ids rows alone:Sl) (mb:Nat) (rs:List Sl) (m i k:Nat) (hb:v<cg∧v<ci∧v<cv∧v<ca∧v<cids)
  (hR:kV w g (bn s T) (mT s T) (eu s T) ids rows alone mb rs m) (hgh:∀t∈bn s T,(aF s T).Has t) (hgl:(bn s T).length≤1032)
  (h0:w.heap[cg]? =some (.cells #[.pointer (some ⟨g,0,none⟩)] eg (0,0))) (h1:w.heap[ci]? =some (.cells #[.int .i64 (i:Int)] ei (0,0))) (h2:w.heap[cv]? =some (.cells #[.pointer (some ⟨v,0,none⟩)] ev (0,0))) (h3:w.heap[ca]? =some (.cells #[.int .i64 ((bn s T).getD i 0)] ea (0,0))) (h4:w.heap[cids]? =some (.cells #[ids.v] ed (0,0)))
  (hi:i< (bn s T).length) (hk:k< (bn s T).length):
  CP 74 #[.int .i64 (k:Int),.pointer (some ⟨cg,0,none⟩),.pointer (some ⟨ci,0,none⟩),.pointer (some ⟨cv,0,none⟩),.pointer (some ⟨ca,0,none⟩),.pointer (some ⟨cids,0,none⟩)] w fun e w'=>e= .returned (.bool (eu s T i k))∧bB w' v s T∧aq v w w':=by
 refine aO (Bm k (some ⟨cg,0,none⟩) (some ⟨ci,0,none⟩) (some ⟨cv,0,none⟩) (some ⟨ca,0,none⟩) (some ⟨cids,0,none⟩) w) ?_;have hP:∃x tp bp mp,cH w s T x tp bp mp:=by
  obtain⟨w0,x,tp,bp,mp,d,l,uses,hR⟩:=hV;exact⟨x,tp,bp,mp,hR.now⟩
 obtain⟨x,tp,bp,mp,hP⟩:=hP;have hok:=pl hP;have hA:(aF s T).Has ((bn s T).getD i 0):=by rw [eX hi];exact hgh _ (List.getElem_mem hi)
 have hB:(aF s T).Has ((bn s T).getD k 0):=by rw [eX hk];exact hgh _ (List.getElem_mem hk)
 have hpair:eu s T i k=true→mT s T i=true∧mT s T k=true:=by
  intro h;have:=Voc.canon_append hok (P:=[(bn s T).getD i 0]) (Q:=[(bn s T).getD k 0]) (by
   intro t ht;simp only [List.cons_append,List.nil_append,List.mem_cons,List.not_mem_nil,or_false]at ht;rcases ht with rfl |rfl
   ·exact hA
   ·exact hB) (of_decide_eq_true h)
  exact⟨decide_eq_true this.1,decide_eq_true this.2⟩
 intro w1 hw1;have b1':Below w.heap.size w w1:=by subst hw1;exact aK w
 have t1:aq v w w1:=aq.of_below b1';have hR1:=hR.on b1';have hV1:=hV.on b1';have al1:=LsAt.of_own sS hR1.oal;refine ah.mk _ rfl ⟨_,bF (ag b1' h0),ah.mk _ rfl ⟨alone.a,alone.n,alone.c,by rw [a_ hR1.blk];rfl,ah.mk _ rfl ⟨_,bF (ag b1' h1),?_⟩⟩⟩;refine(kd w1 alone.a alone.n alone.c _ (mT s T) al1.r al1.n (by omega) i hi).mono ?_;rintro e w2 ⟨rfl,hw2⟩;rw [hw2];refine⟨_,rfl,ac.mk (fun ha=>?_) fun ha=>⟨?_,hV1,t1⟩⟩
 ·refine ah.mk _ rfl ⟨_,bF (ag b1' h0),ah.mk _ rfl ⟨alone.a,alone.n,alone.c,by rw [a_ hR1.blk];rfl,?_⟩⟩;refine(kd w1 alone.a alone.n alone.c _ (mT s T) al1.r al1.n (by omega) k hk).mono ?_;rintro e w3 ⟨rfl,hw3⟩;rw [hw3];refine⟨_,rfl,ac.mk (fun hb=>?_) fun hb=>⟨?_,hV1,t1⟩⟩
  ·have hls:=LsAt.of_own cY hR1.oi;have hn:=hls.n;obtain⟨p,hp,c0⟩:=aS hls.r hk rfl;refine ah.mk _ rfl ⟨_,bF (ag b1' h2),ah.mk _ rfl ⟨_,bF (ag b1' h3),ah.mk _ rfl ⟨ids.a,ids.n,ids.c,bF (ag b1' h4),ah.mk p hp ⟨by omega,by omega,_,c0,?_⟩⟩⟩⟩;rw [←eX hk 0];refine(Cb w1 v s T hV1 _ _ hA hB).mono ?_;rintro e w4 ⟨rfl,hV4,t4⟩;exact⟨_,rfl,rfl,hV4,t1.trans t4⟩
  ·cases hr:eu s T i k with
   |false=>rfl
   |true=>rw [(hpair hr).2]at hb;cases hb
 ·cases hr:eu s T i k with
  |false=>rfl
  |true=>rw [(hpair hr).1]at ha;cases ha
theorem eF {w:World} {B:Nat} {e:TypeId} {sz n:Nat} {u:Value} {xs:List Value} (h:w.ownsRow B e sz u n xs) {κ:Type} [DecidableEq κ] {kv:κ→Value} {r:Nat} {m:List (κ×Value)} (hm:bC kv w r m):u.ownBlock≠some r:=by
 obtain⟨es,k,hk,_⟩:=hm;intro hb;rcases h.2 with⟨rfl,_⟩ |⟨g,cap,cur,rfl,_,hg,_⟩
 ·cases hb
 ·cases hb;rw [hk]at hg;cases hg
theorem EA {q w1 w2:World} {x y u z:Value} {e e':TypeId} (h1:w1=q.alloc (.cells #[x] e)) (h2:w2=w1.alloc (.cells #[y] e')) (hu:u.oneCell'=true) (hz:z.oneCell'=true) {k:World→Prop} (hk:∀w4,w4.heap[q.heap.size]? =some (.cells #[u] e (0,0))→w4.heap[w1.heap.size]? =some (.cells #[z] e' (0,0))→Below q.heap.size q w4→k w4):
  u.oneCell'=true∧(∃a,w2.cell? (nb q)=some a)∧w2.frozen? (nb q)=false∧∀w3,w3=w2.setCell (nb q) u→z.oneCell'=true∧(∃a,w3.cell? (nb w1)=some a)∧w3.frozen? (nb w1)=false∧∀w4,w4=w3.setCell (nb w1) z→k w4:=by
 have b1:Below q.heap.size q w1:=by subst h1;exact af _ _
 have a1:w1.heap[q.heap.size]? =some (.cells #[x] e (0,0)):=by subst h1;exact ak _ _
 have b2:Below w1.heap.size w1 w2:=by subst h2;exact af _ _
 have a2:w2.heap[w1.heap.size]? =some (.cells #[y] e' (0,0)):=by subst h2;exact ak _ _
 have a12:=ag b2 a1;have hlt:q.heap.size<w1.heap.size:=(Array.getElem?_eq_some_iff.1 a1).1;have b02:=ae b1 b2;refine⟨hu,⟨_,aN a12⟩,bv a12,?_⟩;intro w3 h3;have a13:w3.heap[q.heap.size]? =some (.cells #[u] e (0,0)):=by subst h3;exact bI a12 u
 have a23:w3.heap[w1.heap.size]? =some (.cells #[y] e' (0,0)):=by subst h3;rw [au (by show w1.heap.size≠q.heap.size;omega)];exact a2
 have b03:Below q.heap.size q w3:=by subst h3;exact b02.setCell (p:=nb q) (Nat.le_refl _) u
 refine⟨hz,⟨_,aN a23⟩,bv a23,?_⟩;intro w4 h4;refine hk w4 ?_ ?_ ?_
 ·subst h4;rw [au (by show q.heap.size≠w1.heap.size;omega)];exact a13
 ·subst h4;exact bI a23 z
 ·subst h4;exact b03.setCell (p:=nb w1) (Nat.le_of_lt hlt) z
def JS (w:World) (v:Nat) (s:ar) (T:List aQ) (most:Int) (u:Value) (w':World):Prop:=bB w' v s T∧aq v w w'∧(if(((bn s T).length*(bn s T).length:Nat):Int)>most then u= .tuple #[.pointer none,.int .i64 5]else ∃g,u= .tuple #[.pointer (some ⟨g,0,none⟩),.int .i64 0]∧rK w' g (bn s T) (mT s T) (eu s T)∧w.heap.size≤g)
set_option maxHeartbeats 2000000 in
theorem nD (w:World) (v:Nat) (s:ar) (T:List aQ) (hV:bB w v s T) (hasc:(s.specials.map (·.1)).Pairwise (·< ·)) (most:Int):
  CP 32 #[.pointer (some ⟨v,0,none⟩),.int .i64 most] w fun e w'=>∃u,e= .returned u∧JS w v s T most u w':=by
 refine CN (some ⟨v,0,none⟩) most w (JS w v s T most) ?_;have hgb:256≤(bn s T).length∧(bn s T).length≤1032∧(∀t∈bn s T,(aF s T).Has t)∧(bn s T).Pairwise (·< ·):=by
  obtain⟨w0,x,tp,bp,mp,d,l,uses,hR⟩:=hV;have hP:=hR.now;exact⟨(rN hP.ok hP.right).1,(rN hP.ok hP.right).2,fun t ht=>(Ia hP t).1 ((og s T t).1 ht),kn hasc hP.ids⟩
 obtain⟨hg1,hg2,hgh,hgr⟩:=hgb;intro w1 hw1;have b1:Below w.heap.size w w1:=by subst hw1;exact af _ _
 have l1:w1.heap[w.heap.size]? =some (.cells #[.pointer (some ⟨v,0,none⟩)] 69 (0,0)):=by subst hw1;exact ak _ _
 refine⟨_,bF l1,?_⟩;have hV1:=hV.on b1;refine(wI w1 v s T hV1 hasc).mono ?_;rintro e w2 ⟨ids,rfl,oids,b2⟩;refine⟨_,_,_,rfl,?_⟩;intro w3 hw3;refine gZ hw3 rfl ?_;intro w4 l4 b4;have b24:=ae b2 b4;have b14:=ae b1 b24;have oids4:=bD (aA oids b4) (Nat.zero_le _);have hin:=(LsAt.of_own cY oids4).n;have l14:=ag b24 l1;have hV4:=hV.on b14;refine⟨_,bF l14,ac.no rfl ⟨ids.a,ids.n,ids.c,bF l4,ids.a,ids.n,ids.c,bF l4,Ar.nat ((bn s T).length*(bn s T).length) (by rw [hin];simp) (by
  have:(bn s T).length*(bn s T).length≤1032*1032:=Nat.mul_le_mul hg2 hg2;omega) (ac.mk (fun hm=>⟨hV4,aq.of_below b14,?_⟩) fun hm=>?_)⟩⟩
 ·rw [if_pos (of_decide_eq_true hm)]
 have hm:=of_decide_eq_false hm;obtain⟨G,hG⟩:∃G,G=bn s T:=⟨_,rfl⟩;rw [←hG]at oids4 hin hg1 hg2 hgh hgr hm;obtain⟨n,hn⟩:∃n,n=G.length:=⟨_,rfl⟩;rw [←hn]at hin;refine⟨ids.a,ids.n,ids.c,bF l4,_,_,fE _,?_⟩;have b5:=af w4 (.map #[] 0);have m5:bC bj (w4.alloc (.map #[] 0)) w4.heap.size (tL []):=iG w4;obtain⟨w5,hw5⟩:∃w5,w5=w4.alloc (.map #[] 0):=⟨_,rfl⟩;rw [←hw5]at b5 m5;rw [←hw5];intro w6 hw6 w7 hw7;have b6:Below w5.heap.size w5 w6:=by subst hw6;exact af _ _
 have g6:w6.heap[w5.heap.size]? =some (.cells #[ids.v,.map (some w4.heap.size),bS.v,bS.v] so (0,0)):=by subst hw6;exact ak _ _
 refine gZ hw7 rfl ?_;intro w8 l8 b8;have b58:=ae b6 b8;have b48:=ae b5 b58;have b08:=ae b14 b48;have hz4:=b14.size;have hz5:=b5.size;have lt4:w4.heap.size<w5.heap.size:=m5.lt;have lt6:w5.heap.size<w6.heap.size:=(Array.getElem?_eq_some_iff.1 g6).1;have lt8:w6.heap.size<w8.heap.size:=(Array.getElem?_eq_some_iff.1 l8).1;have lt2:w2.heap.size<w4.heap.size:=(Array.getElem?_eq_some_iff.1 l4).1;have lt1:w.heap.size<w4.heap.size:=(Array.getElem?_eq_some_iff.1 l14).1;have hvl:=hV.lt;have boxes:∀ {q:World},Below (w4.heap.size) w8 q→q.heap[w.heap.size]? =some (.cells #[.pointer (some ⟨v,0,none⟩)] 69 (0,0))∧q.heap[w2.heap.size]? =some (.cells #[ids.v] cN (0,0)):=by
  intro q hq;exact⟨Below.keeps hq lt1 (ag b48 l14),Below.keeps hq lt2 (ag b48 l4)⟩
 refine⟨ids.a,ids.n,ids.c,bF (ag b48 l4),?_⟩;have oids8:=aA oids4 b48;have idsLt:∀k,ids.v.ownBlock=some k→k<w4.heap.size:=fun k hk=>(cm oids4 k hk).2;intro I hI;let Inv (i:Nat) (q:World):Prop:=bC bj q w4.heap.size (tL (G.take i))∧(∀j,j≠w4.heap.size→q.heap[j]? =w8.heap[j]?)∧q.heap.size=w8.heap.size∧Below w4.heap.size w4 q;have key:=aV (α:=World) n Inv (fun i q=>I [.int .i64 (i:Int)] q) w8 ⟨by rw [List.take_zero];exact m5.on b58,fun _ _=>rfl,rfl,b48⟩ ?_ ?_
 ·exact key
 ·rintro i hi ih q ⟨hmap,hs,hz,hB⟩;have hiG:i<G.length:=by omega
  have oq:q.ownsRow 0 aU 1 ids.v ids.n (G.flatMap aE):=aR oids8 fun k hk=>hs k (by have:=idsLt k hk;omega);obtain⟨p,hp,c0⟩:=aS (LsAt.of_own cY oq).r hiG rfl;have hlook:ez G[i] (tL (G.take i))=none:=by
   rw [uy,List.idxOf?_eq_none_iff.2]
   ·rfl
   ·intro hmem;obtain⟨j,hj,e⟩:=List.mem_take_iff_getElem.1 hmem;have:=List.pairwise_iff_getElem.1 hgr j i (by omega) hiG (by omega);omega
  obtain⟨q',hr',hm',hs',hz',hB'⟩:=fA nW nJ hmap G[i] (.int .i64 (i:Int)) hlook;refine hI _ _ (ac.yes (by simp;omega) (ah.mk p hp ⟨by omega,by omega,_,c0,_,bF (by rw [hs w6.heap.size (by omega)];exact l8),ah.mk _ rfl ⟨_,aj _ _ (by rw [hs w5.heap.size (by omega)];exact ag b8 g6) 1,q',hr',Ar.nat (i+1) rfl (by omega) (ih q' ⟨?_,fun j hj=>by rw [hs' j hj,hs j hj],by rw [hz',hz],hB' _ _ (Nat.le_refl _) hB⟩)⟩⟩));have e:tL (G.take (i+1))=tL (G.take i)++ [(G[i],.int .i64 (i:Int))]:=by
   rw [List.take_add_one,List.getElem?_eq_getElem hiG];have:=Ff (G.take i) G[i];rw [List.length_take,Nat.min_eq_left (by omega)]at this;exact this
  rw [e];exact hm'
 ·rintro q ⟨hmap,hs,hz,hB⟩;rw [List.take_of_length_le (by omega)]at hmap;refine hI _ _ (ac.no (by simp;omega) ?_);intro w11 hw11;have b11:Below q.heap.size q w11:=by subst hw11;exact aK q
  have hq8:Below w4.heap.size w8 q:=⟨by rw [hB.os, ←b48.os],by rw [hB.tape, ←b48.tape],by rw [hB.output, ←b48.output],by rw [hz];exact Nat.le_refl _,fun k hk=>hs k (by omega)⟩;have hq8':Below w4.heap.size w8 w11:=hq8.trans (b11.mono (by have:=hq8.size;omega));have hV11:bB w11 v s T:=(hV4.on b5 |> fun h5=>(hV4.on ⟨hB.os,hB.tape,hB.output,hB.size,hB.block⟩)).on b11;have t11:aq v w w11:=(aq.of_below b14).trans (aq.of_below (hB.trans (b11.mono hB.size)));have g11:=ag b11 (show q.heap[w5.heap.size]? =some (.cells #[ids.v,.map (some w4.heap.size),bS.v,bS.v] so (0,0)) by rw [hs _ (by omega)];exact ag b8 g6);have lg11:=ag b11 (show q.heap[w6.heap.size]? =_ by rw [hs _ (by omega)];exact l8);have bx11:=boxes hq8';have m11:=hmap.on b11;have o11:w11.ownsRow 0 aU 1 ids.v ids.n (G.flatMap aE):=aA (aR oids8 fun k hk=>hs k (by have:=idsLt k hk;omega)) b11;subst hG;have bxL:w.heap.size<w11.heap.size∧w2.heap.size<w11.heap.size∧w6.heap.size<w11.heap.size∧w5.heap.size<w11.heap.size:=⟨(Array.getElem?_eq_some_iff.1 bx11.1).1,(Array.getElem?_eq_some_iff.1 bx11.2).1,(Array.getElem?_eq_some_iff.1 lg11).1,(Array.getElem?_eq_some_iff.1 g11).1⟩;have sz2:w.heap.size≤w2.heap.size:=Nat.le_trans b1.size b2.size;refine⟨_,bF lg11,ids.a,ids.n,ids.c,bF bx11.2,?_⟩;refine(uj w11 ids.n _ (fun i=>mT s T i) v s T hV11 (by omega) ?_).mono ?_
  ·intro i hi q hVq tq;refine bT (by kernel_rfl) ?_;exact EX q v s T hVq w.heap.size w2.heap.size ids (bn s T) (tq.held (by omega) bx11.1) (tq.held (by omega) bx11.2) (hV11.own_touch tq o11 (by decide)) hgh i (by omega)
  rintro e w12 ⟨al,rfl,oal,hV12,t12⟩;rw [hin,hn]at oal;have lg12:=t12.held (by omega) lg11;have g12:=t12.held (by omega) g11;have x12:=t12.held (by omega) bx11.1;have y12:=t12.held (by omega) bx11.2;have o12:=hV11.own_touch t12 o11 (by decide);have m12:=m11.same (t12.block _ m11.lt (by omega));refine⟨al.a,al.n,al.c,rfl,⟨bF lg12,trivial⟩,ah.mk _ rfl ⟨rfl,⟨_,by rw [a_ g12];rfl⟩,bk g12,?_⟩⟩;intro w13 hw13;have g13:w13.heap[w5.heap.size]? =some (.cells #[ids.v,.map (some w4.heap.size),bS.v,al.v] so (0,0)):=by subst hw13;exact bO g12 _
  have hs13:∀j,j≠w5.heap.size→w13.heap[j]? =w12.heap[j]? :=by
   intro j hj;subst hw13;exact au (by rw [ay];exact hj)
  have hV13:bB w13 v s T:=by subst hw13;exact hV12.put g12 (by decide) (by omega) _
  have t13:aq v w w13:=by subst hw13;exact(t11.trans t12).put (by omega) _
  have lg13:w13.heap[w6.heap.size]? =_:=(hs13 _ (by omega)).trans lg12;have x13:w13.heap[w.heap.size]? =_:=(hs13 _ (by omega)).trans x12;have y13:w13.heap[w2.heap.size]? =_:=(hs13 _ (by omega)).trans y12;have hR13:kV w13 w5.heap.size (bn s T) (mT s T) (eu s T) ids bS al w4.heap.size [] 0:=
   ⟨g13,aR o12 fun k hk=>hs13 k fun e=>az o12 g12 (by decide) (by rw [hk,e]),m12.same (hs13 _ (by omega)),ct _ _ _ _ rO,rfl,(by intro i r h;cases h),aR (bD oal (Nat.zero_le _)) fun k hk=>hs13 k fun e=>az oal g12 (by decide) (by rw [hk,e])⟩
  refine⟨ids.a,ids.n,ids.c,bF y13,?_⟩;intro I2 hI2;let Inv2 (i:Nat) (q:World):Prop:=∃rows rs,kV q w5.heap.size (bn s T) (mT s T) (eu s T) ids rows al w4.heap.size rs i∧q.ownsRow w.heap.size nk 1 rows.v rows.n (rs.flatMap rO)∧bB q v s T∧aq v w q∧q.heap[w6.heap.size]? =some (.cells #[.pointer (some (nb w5))] 32 (0,0))∧q.heap[w.heap.size]? =some (.cells #[.pointer (some ⟨v,0,none⟩)] 69 (0,0))∧q.heap[w2.heap.size]? =some (.cells #[ids.v] cN (0,0));have key2:=aV (α:=World) n Inv2 (fun i q=>I2 [.int .i64 (i:Int)] q) w13 ⟨bS,[],hR13,ct _ _ _ _ rO,hV13,t13,lg13,x13,y13⟩ ?_ ?_
  ·exact key2
  ·rintro i hi ih z ⟨rows,rs,hR,orow,hVz,tz,lgz,xz,yz⟩;have hiG:i< (bn s T).length:=by omega
   have zb:w.heap.size<z.heap.size∧w2.heap.size<z.heap.size∧w6.heap.size<z.heap.size∧w5.heap.size<z.heap.size:=⟨(Array.getElem?_eq_some_iff.1 xz).1,(Array.getElem?_eq_some_iff.1 yz).1,(Array.getElem?_eq_some_iff.1 lgz).1,(Array.getElem?_eq_some_iff.1 hR.blk).1⟩;have hlz:=LsAt.of_own cY hR.oi;obtain⟨p,hp,c0⟩:=aS hlz.r hiG rfl;have hnz:=hlz.n;refine hI2 _ _ (ac.yes (by simp;omega) (ah.mk p hp ⟨by omega,by omega,_,c0,?_⟩));intro w15 hw15 w16 hw16;refine EA hw15 hw16 rfl rfl ?_;intro w18 bi18 ba18 b18;have zs15:z.heap.size<w15.heap.size:=by subst hw15;rw [av];omega
   intro w19 hw19;have b19':Below w18.heap.size w18 w19:=by subst hw19;exact aK w18
   have b19:=ae b18 b19';have bi19:=ag b19' bi18;have ba19:=ag b19' ba18;have hR19:=hR.on b19;have hV19:=hVz.on b19;have lg19:=ag b19 lgz;have x19:=ag b19 xz;have y19:=ag b19 yz;have or19:=aA orow b19;have t19:aq v w w19:=tz.then_off b19 tz.size;refine⟨_,bF lg19,_,bF lg19,ah.mk _ rfl ⟨rows.a,rows.n,rows.c,by rw [a_ hR19.blk];rfl,ids.a,ids.n,ids.c,bF y19,?_⟩⟩;refine(uj w19 ids.n _ (fun k=>eu s T i k) v s T hV19 (by omega) ?_).mono ?_
   ·intro k hk q hVq tq;refine bT (by kernel_rfl) ?_;refine El q v s T hVq w6.heap.size z.heap.size w.heap.size w15.heap.size w2.heap.size w5.heap.size ids rows al w4.heap.size rs i i k ⟨by omega,by omega,by omega,by omega,by omega⟩ (hR19.touch hV19 tq) hgh hg2 (tq.held (by omega) lg19) (tq.held (by omega) bi19) (tq.held (by omega) x19) (tq.held (by omega) (by rw [eX hiG];exact ba19)) (tq.held (by omega) y19) hiG (by omega)
   rintro e w20 ⟨r,rfl,orw,hV20,t20⟩;rw [hin,hn]at orw;have hR20:=hR19.touch hV19 t20;have lg20:=t20.held (by omega) lg19;have x20:=t20.held (by omega) x19;have y20:=t20.held (by omega) y19;have or20:=hV19.own_touch t20 or19 (by decide);refine⟨r.a,r.n,r.c,rfl,⟨by rw [a_ hR20.blk];rfl,trivial⟩,⟨bF lg20,trivial⟩,⟨bF lg20,trivial⟩,?_⟩;intro w21 hw21;have b21:Below w20.heap.size w20 w21:=by subst hw21;exact af _ _
   have lg21:=ag b21 lg20;have wb:w.heap.size≤w20.heap.size:=(t19.trans t20).size;obtain⟨rows',w22,hn22,hrun,own22,hB22,hk22⟩:=Gs.push or20 r hw21 rfl wb (by have:=(LsAt.of_own Gs or20).n;have:=hR.rl;omega) (by decide);refine⟨⟨by rw [a_ (ag b21 hR20.blk)];rfl,trivial⟩,⟨bF lg21,trivial⟩,⟨bF lg21,trivial⟩,rows'.a,rows'.n,rows'.c,w22,hrun,?_⟩;have kp:∀ {k:Nat} {o:Obj},w20.heap[k]? =some o→rows.v.ownBlock≠some k→w22.heap[k]? =some o:=fun {k o} h hne=>(hk22 k (Array.getElem?_eq_some_iff.1 h).1 hne).trans h;have lg22:=kp lg20 (az or20 lg20 (by decide));have x22:=kp x20 (az or20 x20 (by decide));have y22:=kp y20 (az or20 y20 (by decide));have g22:=kp hR20.blk (az or20 hR20.blk (by decide));have B22:=hB22 w20 (Below.refl _ _);have hV22:=hV20.growE B22 hvl or20 (by decide) hk22;have t22:aq v w w22:=(t19.trans t20).then_off B22 (Nat.le_refl _);refine⟨⟨bF lg22,trivial⟩,ah.mk _ rfl ⟨rfl,⟨_,by rw [a_ g22];rfl⟩,bk g22,?_⟩⟩;intro w23 hw23;have hs23:∀j,j≠w5.heap.size→w23.heap[j]? =w22.heap[j]? :=by
    intro j hj;subst hw23;exact au (by rw [ay];exact hj)
   have same:∀ {B sz n:Nat} {e:TypeId} {u:Value} {xs:List Value},w20.ownsRow B e sz u n xs→e≠nk→e≠so→w23.ownsRow B e sz u n xs:=by
    intro B sz n e u xs h h1 h2;refine aR h fun k hk=>?_;rw [hs23 k fun e=>az h hR20.blk h2 (by rw [hk,e])];exact hk22 k (cm h k hk).2 (bQ h or20 h1 k hk)
   have own23:w23.ownsRow w.heap.size nk 1 rows'.v rows'.n ((rs++ [r]).flatMap rO):=aR own22 fun k hk=>hs23 k fun e=>az own22 g22 (by decide) (by rw [hk,e]);refine Ar.nat (i+1) rfl (by omega) (ih w23 ⟨rows',rs++ [r],?_,own23,?_,?_,(hs23 _ (by omega)).trans lg22,(hs23 _ (by omega)).trans x22,(hs23 _ (by omega)).trans y22⟩)
   ·refine⟨by subst hw23;exact bO g22 _,same hR20.oi (by decide) (by decide),?_,bD own23 (Nat.zero_le _),by have:=hR.rl;simp;omega,?_,same hR20.oal (by decide) (by decide)⟩
    ·exact hR20.map.same ((hs23 _ (by omega)).trans (hk22 _ hR20.map.lt (eF or20 hR20.map)))
    ·intro j r' hj;have hrl:=hR.rl;by_cases h:j<rs.length
     ·rw [List.getElem?_append_left h]at hj;exact same (hR20.each j r' hj) (by decide) (by decide)
     ·have hji:j=i:=by
       have:=(List.getElem?_eq_some_iff.1 hj).1;simp at this;omega
      subst hji;rw [List.getElem?_append_right (by omega),hrl,Nat.sub_self]at hj;cases hj;exact same (bD orw (Nat.zero_le _)) (by decide) (by decide)
   ·subst hw23;exact hV22.put g22 (by decide) (by omega) _
   ·subst hw23;exact t22.put (by omega) _
  ·rintro z ⟨rows,rs,hR,orow,hVz,tz,lgz,xz,yz⟩;rw [hn]at hR;refine hI2 _ _ (ac.no (by simp;omega) ⟨_,bF lgz,hVz,tz,?_⟩);rw [if_neg (by have:=hm;rw [hn]at*;omega)];exact⟨w5.heap.size,rfl,⟨ids,rows,al,w4.heap.size,rs,hR⟩,by omega⟩
def cnt:Nat→Nat→Nat
 |0,_=>0
 |k+1,x=>x%2+cnt k (x/2)
def s1 (x:Nat):Nat:=(x/2&&&6148914691236517205)+(x&&&6148914691236517205)
def s2 (x:Nat):Nat:=(x/4&&&3689348814741910323)+(x&&&3689348814741910323)
def s3 (x:Nat):Nat:=x/16+x
def s4 (x:Nat):Nat:=(x&&&1085102592571150095)+(x&&&1085102592571150095)/256
def s5 (x:Nat):Nat:=x+x/65536
theorem PP (x k:Nat) (hk:k≤64):Int.fdiv (x:Int) (2^(min (k:Int).toNat (IntKind.bits .u64)))=((x/2^k:Nat):Int):=by
 show Int.fdiv (x:Int) (2^(min k 64))=_;rw [Nat.min_eq_left hk,Int.fdiv_eq_ediv_of_nonneg _ (Int.pow_nonneg (by decide))];simp
theorem MY (x m:Nat) (hx:x<2^64) (hm:m<2^64):IntKind.wrap .u64 ((BitVec.ofInt (IntKind.bits .u64) (x:Int)&&&BitVec.ofInt (IntKind.bits .u64) (m:Int)).toNat:Int)=((x&&&m:Nat):Int):=by
 show IntKind.wrap .u64 ((BitVec.ofInt 64 (x:Int)&&&BitVec.ofInt 64 (m:Int)).toNat:Int)=_;rw [BitVec.toNat_and,fg _ hx,fg _ hm];exact jt _ (Nat.lt_of_le_of_lt Nat.and_le_left hx)
abbrev ka (w:World) (g:Nat) (s:ar) (T:List aQ):Prop:=rK w g (bn s T) (mT s T) (eu s T)
def oT (s:ar) (T:List aQ) (id:Int):Option Nat:=(bn s T).idxOf? id
theorem CJ {l:List Int} {a:Int} {i:Nat} (h:l.idxOf? a=some i):∃h:i<l.length,l[i]=a:=by
 have:=List.findIdx?_eq_some_iff_getElem.1 h;obtain⟨h1,h2,_⟩:=this;exact⟨h1,by simpa using h2⟩
theorem dJ {s:ar} {T:List aQ} {id:Int} {i:Nat} (h:oT s T id=some i):i< (bn s T).length∧(bn s T).getD i 0=id∧gv s T id=true:=by
 obtain⟨h1,h2⟩:=CJ h;exact⟨h1,by rw [eX h1];exact h2,(og s T id).1 (by rw [←h2];exact List.getElem_mem h1)⟩
theorem Ac {s:ar} {T:List aQ} {id:Int} (h:oT s T id=none):gv s T id=false:=by
 have h1:=List.idxOf?_eq_none_iff.1 h;cases hh:gv s T id with
 |false=>rfl
 |true=>exact absurd ((og s T id).2 hh) h1
theorem DH {s:ar} {T:List aQ} (id:Int):(oT s T id).isSome=gv s T id:=by
 cases h:oT s T id with
 |none=>exact(Ac h).symm
 |some i=>exact(dJ h).2.2.symm
def NJ (s:ar) (T:List aQ) (id:Int):Bool:=gv s T id&&decide ((aF s T).Canon [id])
theorem L5:(Tryz.prog.info? aU).map (·.zero)=some (some (.int .i64 0)):=by kernel_rfl
theorem kw (w:World) (g:Nat) (s:ar) (T:List aQ) (h:ka w g s T) (id:Int):
  CP 20 #[.pointer (some ⟨g,0,none⟩),.int .i64 id] w fun e w'=>e= .returned (.tuple #[.int .i64 (((oT s T id).getD 0:Nat):Int),.bool (oT s T id).isSome])∧w'=w:=by
 refine aO (Bo (some ⟨g,0,none⟩) id w) ?_;obtain⟨ids,rows,alone,mb,rs,hR⟩:=h;refine ac.no rfl (ah.mk _ rfl ⟨some mb,by rw [a_ hR.blk];rfl,?_⟩);have hl:=fJ nW nJ L5 hR.map id;rw [uy]at hl;have e:((((bn s T).idxOf? id).map fun i:Nat=>Value.int .i64 (i:Int)).getD (.int .i64 0))= .int .i64 (((oT s T id).getD 0:Nat):Int):=by
  show _=Value.int .i64 ((((bn s T).idxOf? id).getD 0:Nat):Int);cases(bn s T).idxOf? id<;>rfl
 rw [e,Option.isSome_map]at hl;exact⟨_,_,w,hl,rfl,rfl⟩
theorem wF (w:World) (g:Nat) (s:ar) (T:List aQ) (h:ka w g s T) (hn:(bn s T).length≤1032) (id:Int):
  CP 90 #[.pointer (some ⟨g,0,none⟩),.int .i64 id] w fun e w'=>e= .returned (.bool (NJ s T id))∧w'=w:=by
 refine aO (BU (some ⟨g,0,none⟩) id w) ?_;refine(kw w g s T h id).mono ?_;rintro e w1 ⟨rfl,rfl⟩;obtain⟨ids,rows,alone,mb,rs,hR⟩:=h;refine⟨_,_,rfl,ac.mk (fun h1=>?_) fun h1=>⟨?_,rfl⟩⟩
 ·obtain⟨i,hi⟩:=Option.isSome_iff_exists.1 h1;obtain⟨hi1,hi2,hi3⟩:=dJ hi;have al1:=LsAt.of_own sS hR.oal;refine ah.mk _ rfl ⟨alone.a,alone.n,alone.c,by rw [a_ hR.blk];rfl,?_⟩;rw [hi];refine(kd w1 alone.a alone.n alone.c _ (mT s T) al1.r al1.n (by omega) i hi1).mono ?_;rintro e w2 ⟨rfl,rfl⟩;refine⟨_,rfl,?_,rfl⟩;unfold NJ mT;rw [hi2,hi3,Bool.true_and]
 ·rw [DH]at h1;unfold NJ;rw [h1,Bool.false_and]
theorem ID {s:ar} {T:List aQ} {w:World} {g:Nat} {ids rows alone:Sl} {mb:Nat} {rs:List Sl} (hR:kV w g (bn s T) (mT s T) (eu s T) ids rows alone mb rs (bn s T).length) (i:Nat) (hi:i< (bn s T).length):∃(p:Addr) (r:Sl),rows.a=some p∧i<rows.n∧w.cell? (p.add (i*1))=some (.slice r.a r.n r.c)∧LsAt dj 1 w r (bx (bn s T).length (eu s T i)):=by
 have hls:=LsAt.of_own Gs hR.orows;have hl:=hR.rl;have hi2:i<rs.length:=by omega
 obtain⟨p,hp,c0⟩:=aS hls.r hi2 (v:=rs[i].v) rfl;exact⟨p,rs[i],hp,by rw [hls.n];exact hi2,c0,LsAt.of_own sS (hR.each i _ (List.getElem?_eq_getElem hi2))⟩
theorem jF (w:World) (g:Nat) (s:ar) (T:List aQ) (h:ka w g s T):
  CP 19 #[.pointer (some ⟨g,0,none⟩)] w fun e w'=>e= .returned (.int .i64 (((bn s T).length:Nat):Int))∧w'=w:=by
 refine aO (C8 (some ⟨g,0,none⟩) w) ?_;obtain⟨ids,rows,alone,mb,rs,hR⟩:=h;refine ac.no rfl (ah.mk _ rfl ⟨ids.a,ids.n,ids.c,by rw [a_ hR.blk];rfl,?_,rfl⟩);rw [(LsAt.of_own cY hR.oi).n]
theorem zL (w:World) (g:Nat) (s:ar) (T:List aQ) (h:ka w g s T) (place:Int):
  CP 38 #[.pointer (some ⟨g,0,none⟩),.int .i64 place] w fun e w'=>e= .returned (if 0≤place∧place< ((bn s T).length:Int)then .tuple #[.int .i64 ((bn s T).getD place.toNat 0),.bool true]else .tuple #[.int .i64 0,.bool false])∧w'=w:=by
 refine aT (BG (some ⟨g,0,none⟩) place w (fun u w'=>u=(if 0≤place∧place< ((bn s T).length:Int)then .tuple #[.int .i64 ((bn s T).getD place.toNat 0),.bool true]else .tuple #[.int .i64 0,.bool false])∧w'=w) ?_) (by rintro v w' ⟨rfl,h⟩;exact⟨rfl,h⟩);refine ac.mk (fun h1=>⟨?_,rfl⟩) fun h1=>?_
 ·rw [if_neg (by have:=of_decide_eq_true h1;omega)]
 have h1:=of_decide_eq_false h1;refine(jF w g s T h).mono ?_;rintro e w1 ⟨rfl,rfl⟩;refine⟨_,rfl,ac.mk (fun h2=>⟨?_,rfl⟩) fun h2=>?_⟩
 ·rw [if_neg (by have:=of_decide_eq_true h2;omega)]
 have h2:=of_decide_eq_false h2;obtain⟨ids,rows,alone,mb,rs,hR⟩:=h;obtain⟨i,rfl⟩:∃i:Nat,place=i:=⟨place.toNat,by omega⟩;have hi:i< (bn s T).length:=by omega
 have hls:=LsAt.of_own cY hR.oi;obtain⟨p,hp,c0⟩:=aS hls.r hi rfl;have:=hls.n;refine ah.mk _ rfl ⟨ids.a,ids.n,ids.c,by rw [a_ hR.blk];rfl,ah.mk p hp ⟨by omega,by omega,_,c0,?_,rfl⟩⟩;rw [if_pos ⟨by omega,by omega⟩];show _=Value.tuple #[.int .i64 ((bn s T).getD i 0),.bool true];rw [eX hi]
theorem zp (w:World) (a:Option Addr) (c:Nat) (xs:List Int) (hr:Rw dj 1 w a xs) (hl:xs.length≤1000000000):
  CP 162 #[.slice a xs.length c] w fun e w'=>∃s:Sl,e= .returned s.v∧s.n=xs.length∧w'.ownsRow w.heap.size gR 1 s.v s.n (xs.flatMap dj)∧Below w.heap.size w w':=by
 refine aO (yM a xs.length c w) ?_;refine ac.mk (fun h0=>?_) fun h0=>?_
 ·have hx:xs= []:=by
   cases xs with
   |nil=>rfl
   |cons x t=>
    obtain⟨p,hp,_⟩:=hr 0 x rfl;rw [hp]at h0;cases h0
  subst hx;exact⟨⟨none,0,0⟩,rfl,rfl,cZ _ _ _ _,Below.refl _ _⟩
 ·obtain⟨p,rfl⟩:∃p,a=some p:=by
   cases a with
   |none=>cases h0
   |some p=>exact⟨p,rfl⟩
  intro w1 hw1;obtain⟨A,C,w2,h2,h3,h4⟩:=ic (enc:=dj) (sz:=1) (fun _=>rfl) (by decide) (fun x u hu=>by rw [List.mem_singleton.1 hu];rfl) nk gR CL vT rfl w ⟨some p,xs.length,c⟩ xs (.inr ⟨p,rfl⟩) hr rfl (by simp only;omega) (by simp only;omega) w1 hw1;exact⟨A,xs.length,C,w2,h2,⟨A,xs.length,C⟩,rfl,rfl,h3,h4⟩
theorem D3 (w:World) (g:Nat) (s:ar) (T:List aQ) (h:ka w g s T) (hn:(bn s T).length≤1032) (id:Int):
  CP 103 #[.pointer (some ⟨g,0,none⟩),.int .i64 id] w fun e w'=>Below w.heap.size w w'∧((oT s T id=none∧e= .returned (.slice none 0 0))∨∃i l,oT s T id=some i∧e= .returned (Sl.v l)∧w'.ownsRow w.heap.size gR 1 l.v l.n ((bx (bn s T).length (eu s T i)).flatMap dj)):=by
 refine aT (yZ (some ⟨g,0,none⟩) id w (fun u w'=>Below w.heap.size w w'∧((oT s T id=none∧u= .slice none 0 0)∨∃i l,oT s T id=some i∧u=Sl.v l∧w'.ownsRow w.heap.size gR 1 l.v l.n ((bx (bn s T).length (eu s T i)).flatMap dj))) ?_) (by rintro v w' ⟨h1,⟨h2,rfl⟩ |⟨i,l,h2,rfl,h3⟩⟩;exact⟨h1,.inl ⟨h2,rfl⟩⟩;exact⟨h1,.inr ⟨i,l,h2,rfl,h3⟩⟩);refine(kw w g s T h id).mono ?_;rintro e w1 ⟨rfl,rfl⟩;obtain⟨ids,rows,alone,mb,rs,hR⟩:=h;refine⟨_,_,rfl,ac.mk (fun h1=>⟨Below.refl _ _,.inl ⟨?_,rfl⟩⟩) fun h1=>?_⟩
 ·cases hp:oT s T id with
  |none=>rfl
  |some i=>rw [hp]at h1;cases h1
 ·obtain⟨i,hi⟩:=Option.isSome_iff_exists.1 (by simpa using h1);obtain⟨hi1,hi2,hi3⟩:=dJ hi;obtain⟨p,r,hp,hin,hc,hls⟩:=ID hR i hi1;rw [hi];refine ah.mk _ rfl ⟨rows.a,rows.n,rows.c,by rw [a_ hR.blk];rfl,ah.mk p hp ⟨by omega,by show((i:Nat):Int) <_;omega,r.a,r.n,r.c,hc,?_⟩⟩;rw [hls.n];refine(zp w1 r.a r.c _ hls.r (by rw [cW];omega)).mono ?_;rintro e w2 ⟨l,rfl,hl,ho,b2⟩;exact⟨l.a,l.n,l.c,rfl,b2,.inr ⟨i,l,rfl,rfl,ho⟩⟩
def ma (V:Voc) (ids:List Int):Option Nat→Prop
 |none=>∀(i:Nat) (h:i<ids.length),V.Has ids[i]∧V.Canon (ids.take (i+1))
 |some k=>(∀(i:Nat) (h:i<ids.length),i<k→V.Has ids[i]∧V.Canon (ids.take (i+1)))∧∃h:k<ids.length,¬(V.Has ids[k]∧V.Canon (ids.take (k+1)))
theorem jv {s:ar} {T:List aQ} (hok:gc T) (t:Int):gv s T t=true↔(aF s T).Has t:=by
 unfold gv;rw [decide_eq_true_eq,gV hok];exact Or.comm
theorem LW (w w1:World) (xs:List Int) (c:Array Value) (hc:c=(xs.map fun n=>Value.int .i64 n).toArray) (hw1:w1=w.alloc (.cells c aU)):Rw aE 1 w1 (some (nb w)) xs:=by
 intro j x hj;have l1:w1.heap[w.heap.size]? =some (.cells c aU (0,0)):=by subst hw1;exact ak _ _
 refine⟨nb w,rfl,(Array.getElem?_eq_some_iff.1 l1).1,fun k v hk=>?_⟩
 match k,hk with
 |0,hk=>
  cases hk;rw [ax,Nat.mul_one,aj _ _ l1,hc];simp [hj]
theorem F8 {w:World} {v:Nat} {y:oy} {s:ar} {T:List aQ} (h:A9 w v y s T):(bn s T).length≤1006∧(((bn s T).length*(bn s T).length:Nat):Int)≤1048576:=by
 have h1:=h.now.ok.most;have h2:=h.few;have h3:=h.ids;have hT:T.length≤1000:=h1;have hl:(bn s T).length≤1006:=by rw [ek];omega
 refine⟨hl,?_⟩;have:(bn s T).length*(bn s T).length≤1006*1006:=Nat.mul_le_mul hl hl;omega
open Go Go.Value
def QD (a:OA) (b c:Nat) (d:OA) (f g:Nat) (h:OA) (i j:Nat) (k:OA) (l m:Nat) (n:Int) (o:OA) (p q:Nat) (r:OA) (s t:Nat) (w:World) (R:RW):Prop:=
 ∀x,x=w.alloc (.cells #[slice a b c,slice d f g,slice h i j,slice k l m] 27)→
 ∃y z a1 b1 c1 d1 e1 f1 g1 h1 i1 j1,(x.cell? (nb w)=some (slice y z a1)∧x.cell? ((nb w).add 1)=some (slice b1 c1 d1)∧x.cell? ((nb w).add 2)=some (slice e1 f1 g1)∧x.cell? ((nb w).add 3)=some (slice h1 i1 j1)∧True)∧
 CP 11 #[agg #[slice y z a1,slice b1 c1 d1,slice e1 f1 g1,slice h1 i1 j1]] x (fun k1 l1=>
 ∃m1,k1= .returned (int .i64 m1)∧
 ac (decide (m1>0))
 (CP 35 #[] l1 (fun n1 o1=>
 ∃p1,n1= .returned (bool p1)∧
 R (bool p1) o1))
 (ac (decide ((p:Int)>10))
 (CP 35 #[] l1 (fun q1 r1=>
 ∃s1,q1= .returned (bool s1)∧
 R (bool s1) r1))
 (ac (decide ((s:Int)>10))
 (CP 35 #[] l1 (fun t1 u1=>
 ∃v1,t1= .returned (bool v1)∧
 R (bool v1) u1))
 (CP 35 #[] l1 (fun x1 y1=>
 ∃z1,x1= .returned (bool z1)∧
 ac (!z1)
 (CP 35 #[] y1 (fun a2 b2=>
 ∃c2,a2= .returned (bool c2)∧
 R (bool c2) b2))
 (∃d2 e2 f2 g2 h2 i2 j2 k2 l2 m2 n2 o2,(y1.cell? (nb w)=some (slice d2 e2 f2)∧y1.cell? ((nb w).add 1)=some (slice g2 h2 i2)∧y1.cell? ((nb w).add 2)=some (slice j2 k2 l2)∧y1.cell? ((nb w).add 3)=some (slice m2 n2 o2)∧True)∧
 CP 36 #[agg #[slice d2 e2 f2,slice g2 h2 i2,slice j2 k2 l2,slice m2 n2 o2],int .i64 12] y1 (fun p2 q2=>
 ∃r2 s2 t2 u2 v2 x2 y2 z2 a3 b3 c3 d3 e3 f3 g3 h3 i3 j3,p2= .returned (tuple #[pointer r2,pointer s2,pointer t2,agg #[slice u2 v2 x2,slice y2 z2 a3,slice b3 c3 d3,slice e3 f3 g3,slice h3 i3 j3]])∧
 ∀k3,k3=q2.alloc (.cells #[slice none 0 0,slice none 0 0,slice none 0 0,slice none 0 0,slice none 0 0] 40)→
 aC k3 (nb q2) (fun l3=>
 ac (Option.isNone r2)
 (R (bool false) l3)
 ((13:Int)≠0∧
 CP 49 #[slice o p q] l3 (fun m3 n3=>
 ∃o3 p3 q3,m3= .returned (agg #[slice o3 p3 q3])∧
 CP 49 #[slice r s t] n3 (fun r3 s3=>
 ∃t3 u3 v3,r3= .returned (agg #[slice t3 u3 v3])∧
 ∀x3,x3=s3.alloc (.cells #[slice none 0 0] 88)→
 ∀y3,y3=x3.alloc (.cells #[slice none 0 0] 88)→
 (slice o3 p3 q3).oneCell'=true∧(∃u,y3.cell? (nb s3)=some u)∧y3.frozen? (nb s3)=false∧
 ∀z3,z3=(y3.setCell (nb s3) (slice o3 p3 q3))→
 (slice t3 u3 v3).oneCell'=true∧(∃u,z3.cell? (nb x3)=some u)∧z3.frozen? (nb x3)=false∧
 ∀a4,a4=(z3.setCell (nb x3) (slice t3 u3 v3))→
 ∃b4 c4 d4,(a4.cell? (nb s3)=some (slice b4 c4 d4)∧True)∧
 CP 50 #[pointer r2,int .i64 (IntKind.wrap .i64 (Int.tmod n 13)),agg #[slice b4 c4 d4]] a4 (fun e4 f4=>
 ∃g4 h4 i4 j4,e4= .returned (tuple #[slice g4 h4 i4,int .i64 j4])∧
 ∃k4 l4 m4,(f4.cell? (nb x3)=some (slice k4 l4 m4)∧True)∧
 CP 50 #[pointer r2,int .i64 (IntKind.wrap .i64 (Int.tmod n 13)),agg #[slice k4 l4 m4]] f4 (fun n4 o4=>
 ∃p4 q4 r4 s4,n4= .returned (tuple #[slice p4 q4 r4,int .i64 s4])∧
 ∀t4,t4=o4.drew→
 ∃u4 v4 x4,(t4.cell? (nb s3)=some (slice u4 v4 x4)∧True)∧
 CP 45 #[pointer r2,int .i64 (IntKind.wrap .i64 (Int.tmod n 13))] t4 (fun y4 z4=>
 ∃a5 b5 c5,y4= .returned (agg #[slice a5 b5 c5])∧
 (z4.cell? (nb s3)=some (slice u4 v4 x4)∧True)∧
 CP 42 #[agg #[slice u4 v4 x4],agg #[slice a5 b5 c5]] z4 (fun d5 e5=>
 ∃f5,d5= .returned (int .i64 f5)∧
 ac (!((j4==0)==(decide (f5<0))))
 (R (bool false) e5)
 (∃g5 h5 i5,(e5.cell? (nb x3)=some (slice g5 h5 i5)∧True)∧
 CP 45 #[pointer r2,int .i64 (IntKind.wrap .i64 (Int.tmod n 13))] e5 (fun j5 k5=>
 ∃l5 m5 n5,j5= .returned (agg #[slice l5 m5 n5])∧
 (k5.cell? (nb x3)=some (slice g5 h5 i5)∧True)∧
 CP 42 #[agg #[slice g5 h5 i5],agg #[slice l5 m5 n5]] k5 (fun o5 p5=>
 ∃q5,o5= .returned (int .i64 q5)∧
 ac (!((s4==0)==(decide (q5<0))))
 (R (bool false) p5)
 (ac (j4 != 0)
 (ac (j4 != 7)
 (R (bool false) p5)
 (ac (j4 != 0)
 (R (bool true) p5)
 (ac (s4 != 0)
 (R (bool true) p5)
 (CP 51 #[pointer r2,slice g4 h4 i4] p5 (fun r5 s5=>
 ∃t5 u5 v5 x5,r5= .returned (tuple #[agg #[slice t5 u5 v5],int .i64 x5])∧
 ∀y5,y5=s5.alloc (.cells #[slice none 0 0] 88)→
 (slice t5 u5 v5).oneCell'=true∧(∃u,y5.cell? (nb s5)=some u)∧y5.frozen? (nb s5)=false∧
 ∀z5,z5=(y5.setCell (nb s5) (slice t5 u5 v5))→
 ac (x5 != 0)
 (R (bool false) z5)
 (∃a6 b6 c6,(z5.cell? (nb s5)=some (slice a6 b6 c6)∧True)∧
 ∃d6 e6 f6,(z5.cell? (nb s3)=some (slice d6 e6 f6)∧True)∧
 CP 42 #[agg #[slice a6 b6 c6],agg #[slice d6 e6 f6]] z5 (fun g6 h6=>
 ∃i6,g6= .returned (int .i64 i6)∧
 ac (i6 != 0)
 (R (bool false) h6)
 (∃j6 k6 l6 m6 n6 o6 p6 q6 r6 s6 t6 u6 v6 x6 y6,(h6.cell? (nb q2)=some (slice j6 k6 l6)∧h6.cell? ((nb q2).add 1)=some (slice m6 n6 o6)∧h6.cell? ((nb q2).add 2)=some (slice p6 q6 r6)∧h6.cell? ((nb q2).add 3)=some (slice s6 t6 u6)∧h6.cell? ((nb q2).add 4)=some (slice v6 x6 y6)∧True)∧
 CP 29 #[agg #[slice j6 k6 l6,slice m6 n6 o6,slice p6 q6 r6,slice s6 t6 u6,slice v6 x6 y6],slice g4 h4 i4] h6 (fun z6 a7=>
 ∃b7,z6= .returned (bool b7)∧
 ac (!b7)
 (R (bool false) a7)
 (ac ((h4:Int) != (IntKind.wrap .i64 (Int.tmod n 13)))
 (R (bool false) a7)
 (ac ((q4:Int) != (IntKind.wrap .i64 (Int.tmod n 13)))
 (R (bool false) a7)
 (∀c7:KW,(∀(d7:Int) (e7:Bool) (f7:World),(ac (decide (d7< (IntKind.wrap .i64 (Int.tmod n 13))))
 (∀g7,g7=f7.drew→
 ah g4 (fun h7=>
 (0:Int)≤d7∧d7< (h4:Int)∧
 ∃i7,g7.cell? (h7.add (d7.toNat*1))=some (int .i64 i7)∧
 ah p4 (fun j7=>
 (0:Int)≤d7∧d7< (q4:Int)∧
 ∃k7,g7.cell? (j7.add (d7.toNat*1))=some (int .i64 k7)∧
 ac (i7 != k7)
 (∀l7,l7=g7.drew→
 ah g4 (fun m7=>
 (0:Int)≤d7∧d7< (h4:Int)∧
 ∃n7,l7.cell? (m7.add (d7.toNat*1))=some (int .i64 n7)∧
 ah p4 (fun o7=>
 (0:Int)≤d7∧d7< (q4:Int)∧
 ∃p7,l7.cell? (o7.add (d7.toNat*1))=some (int .i64 p7)∧
 ∃q7 r7 s7,(l7.cell? (nb s3)=some (slice q7 r7 s7)∧True)∧
 ∃t7 u7 v7,(l7.cell? (nb x3)=some (slice t7 u7 v7)∧True)∧
 CP 42 #[agg #[slice q7 r7 s7],agg #[slice t7 u7 v7]] l7 (fun x7 y7=>
 ∃z7,x7= .returned (int .i64 z7)∧
 (y7.cell? (o7.add (d7.toNat*1))=some (int .i64 p7)∧True)∧
 (y7.cell? (m7.add (d7.toNat*1))=some (int .i64 n7)∧True)∧
 R (bool ((decide (n7<p7))==(decide (z7<0)))) y7))))
 (Ar .i64 (d7+1) (fun a8=>
 c7 [int .i64 a8,bool e7] g7)))))
 (∃b8 c8 d8,(f7.cell? (nb s3)=some (slice b8 c8 d8)∧True)∧
 ∃e8 f8 g8,(f7.cell? (nb x3)=some (slice e8 f8 g8)∧True)∧
 CP 42 #[agg #[slice b8 c8 d8],agg #[slice e8 f8 g8]] f7 (fun h8 i8=>
 ∃j8,h8= .returned (int .i64 j8)∧
 R (bool (j8==0)) i8)))→c7 [int .i64 d7,bool e7] f7)→
 c7 [int .i64 0,bool false] a7))))))))))))
 (ac (j4 != 0)
 (R (bool true) p5)
 (ac (s4 != 0)
 (R (bool true) p5)
 (CP 51 #[pointer r2,slice g4 h4 i4] p5 (fun k8 l8=>
 ∃m8 n8 o8 p8,k8= .returned (tuple #[agg #[slice m8 n8 o8],int .i64 p8])∧
 ∀q8,q8=l8.alloc (.cells #[slice none 0 0] 88)→
 (slice m8 n8 o8).oneCell'=true∧(∃u,q8.cell? (nb l8)=some u)∧q8.frozen? (nb l8)=false∧
 ∀r8,r8=(q8.setCell (nb l8) (slice m8 n8 o8))→
 ac (p8 != 0)
 (R (bool false) r8)
 (∃s8 t8 v8,(r8.cell? (nb l8)=some (slice s8 t8 v8)∧True)∧
 ∃x8 y8 z8,(r8.cell? (nb s3)=some (slice x8 y8 z8)∧True)∧
 CP 42 #[agg #[slice s8 t8 v8],agg #[slice x8 y8 z8]] r8 (fun a9 b9=>
 ∃c9,a9= .returned (int .i64 c9)∧
 ac (c9 != 0)
 (R (bool false) b9)
 (∃d9 e9 f9 g9 h9 i9 j9 k9 l9 m9 n9 o9 p9 q9 r9,(b9.cell? (nb q2)=some (slice d9 e9 f9)∧b9.cell? ((nb q2).add 1)=some (slice g9 h9 i9)∧b9.cell? ((nb q2).add 2)=some (slice j9 k9 l9)∧b9.cell? ((nb q2).add 3)=some (slice m9 n9 o9)∧b9.cell? ((nb q2).add 4)=some (slice p9 q9 r9)∧True)∧
 CP 29 #[agg #[slice d9 e9 f9,slice g9 h9 i9,slice j9 k9 l9,slice m9 n9 o9,slice p9 q9 r9],slice g4 h4 i4] b9 (fun s9 t9=>
 ∃u9,s9= .returned (bool u9)∧
 ac (!u9)
 (R (bool false) t9)
 (ac ((h4:Int) != (IntKind.wrap .i64 (Int.tmod n 13)))
 (R (bool false) t9)
 (ac ((q4:Int) != (IntKind.wrap .i64 (Int.tmod n 13)))
 (R (bool false) t9)
 (∀v9:KW,(∀(x9:Int) (y9:Bool) (z9:World),(ac (decide (x9< (IntKind.wrap .i64 (Int.tmod n 13))))
 (∀a10,a10=z9.drew→
 ah g4 (fun b10=>
 (0:Int)≤x9∧x9< (h4:Int)∧
 ∃c10,a10.cell? (b10.add (x9.toNat*1))=some (int .i64 c10)∧
 ah p4 (fun d10=>
 (0:Int)≤x9∧x9< (q4:Int)∧
 ∃e10,a10.cell? (d10.add (x9.toNat*1))=some (int .i64 e10)∧
 ac (c10 != e10)
 (∀f10,f10=a10.drew→
 ah g4 (fun g10=>
 (0:Int)≤x9∧x9< (h4:Int)∧
 ∃h10,f10.cell? (g10.add (x9.toNat*1))=some (int .i64 h10)∧
 ah p4 (fun i10=>
 (0:Int)≤x9∧x9< (q4:Int)∧
 ∃j10,f10.cell? (i10.add (x9.toNat*1))=some (int .i64 j10)∧
 ∃k10 l10 m10,(f10.cell? (nb s3)=some (slice k10 l10 m10)∧True)∧
 ∃n10 o10 p10,(f10.cell? (nb x3)=some (slice n10 o10 p10)∧True)∧
 CP 42 #[agg #[slice k10 l10 m10],agg #[slice n10 o10 p10]] f10 (fun q10 r10=>
 ∃s10,q10= .returned (int .i64 s10)∧
 (r10.cell? (i10.add (x9.toNat*1))=some (int .i64 j10)∧True)∧
 (r10.cell? (g10.add (x9.toNat*1))=some (int .i64 h10)∧True)∧
 R (bool ((decide (h10<j10))==(decide (s10<0)))) r10))))
 (Ar .i64 (x9+1) (fun t10=>
 v9 [int .i64 t10,bool y9] a10)))))
 (∃u10 v10 x10,(z9.cell? (nb s3)=some (slice u10 v10 x10)∧True)∧
 ∃y10 z10 a11,(z9.cell? (nb x3)=some (slice y10 z10 a11)∧True)∧
 CP 42 #[agg #[slice u10 v10 x10],agg #[slice y10 z10 a11]] z9 (fun b11 c11=>
 ∃d11,b11= .returned (int .i64 d11)∧
 R (bool (d11==0)) c11)))→v9 [int .i64 x9,bool y9] z9)→
 v9 [int .i64 0,bool false] t9))))))))))))))))))))))) [slice u2 v2 x2,slice y2 z2 a3,slice b3 c3 d3,slice e3 f3 g3,slice h3 i3 j3] 0)))))))
theorem EF (a:OA) (b c:Nat) (d:OA) (f g:Nat) (h:OA) (i j:Nat) (k:OA) (l m:Nat) (n:Int) (o:OA) (p q:Nat) (r:OA) (s t:Nat) (w:World) (R:RW) (hh:QD a b c d f g h i j k l m n o p q r s t w R):CR 8 #[agg #[slice a b c,slice d f g,slice h i j,slice k l m],int .u8 n,slice o p q,slice r s t] w R:=
 aD (fn:=Tryz.f8) (by kernel_rfl) (by kernel_rfl) (by kernel_rfl) (by kernel_rfl) (by kernel_rfl) hh
def Pq (w:World) (R:RW):Prop:=
 CP 31 #[agg #[bool false,slice none 0 0,slice none 0 0,slice none 0 0,slice none 0 0,slice none 0 0]] w (fun a b=>
 ∃c d f,a= .returned (tuple #[pointer c,int .i64 d,int .i64 f])∧
 CP 32 #[pointer c,int .i64 1048576] b (fun g h=>
 ∃i j,g= .returned (tuple #[pointer i,int .i64 j])∧
 CP 54 #[pointer i,int .i64 1048576] h (fun k l=>
 ∃m n,k= .returned (tuple #[pointer m,int .i64 n])∧
 CP 56 #[pointer m] l (fun o p=>
 ∃q,o= .returned (pointer q)∧
 CP 55 #[pointer q,pointer i,int .i64 3] p (fun r s=>
 ∃t x,r= .returned (tuple #[pointer t,int .i64 x])∧
 ∀y,y=s.alloc (.cells #[int .i64 97,int .i64 98] 3)→
 CP 51 #[pointer t,slice (some (nb s)) 2 2] y (fun z a1=>
 ∃b1 c1 d1 e1,z= .returned (tuple #[agg #[slice b1 c1 d1],int .i64 e1])∧
 ∀f1,f1=a1.alloc (.cells #[slice none 0 0] 88)→
 (slice b1 c1 d1).oneCell'=true∧(∃u,f1.cell? (nb a1)=some u)∧f1.frozen? (nb a1)=false∧
 ∀g1,g1=(f1.setCell (nb a1) (slice b1 c1 d1))→
 ac (x==0)
 (CP 45 #[pointer t,int .i64 2] g1 (fun h1 i1=>
 ∃j1 k1 l1,h1= .returned (agg #[slice j1 k1 l1])∧
 CP 46 #[agg #[slice j1 k1 l1]] i1 (fun m1 n1=>
 ∃o1,m1= .returned (string o1)∧
 ac (o1.toList==(⟨#[54,53,53,51,54]⟩:ByteArray).toList)
 (∃p1 q1 r1,(n1.cell? (nb a1)=some (slice p1 q1 r1)∧True)∧
 CP 46 #[agg #[slice p1 q1 r1]] n1 (fun s1 t1=>
 ∃u1,s1= .returned (string u1)∧
 ac (u1.toList==(⟨#[50,52,57,51,48]⟩:ByteArray).toList)
 (R (bool (e1==0)) t1)
 (R (bool false) t1)))
 (R (bool false) n1))))
 (R (bool false) g1)))))))
theorem CO (w:World) (R:RW) (hh:Pq w R):CR 35 #[] w R:=
 aD (fn:=Tryz.f35) (by kernel_rfl) (by kernel_rfl) (by kernel_rfl) (by kernel_rfl) (by kernel_rfl) hh
def P_ (a:OA) (b c:Nat) (d:OA) (f g:Nat) (h:OA) (i j:Nat) (k:OA) (l m:Nat) (n:Int) (w:World) (R:RW):Prop:=
 ∀o,o=w.alloc (.cells #[slice a b c,slice d f g,slice h i j,slice k l m] 27)→
 ∀p,p=o.alloc (.cells #[slice none 0 0,slice none 0 0,slice none 0 0,slice none 0 0,slice none 0 0] 40)→
 ∃q r s t u x y z a1 b1 c1 d1,(p.cell? (nb w)=some (slice q r s)∧p.cell? ((nb w).add 1)=some (slice t u x)∧p.cell? ((nb w).add 2)=some (slice y z a1)∧p.cell? ((nb w).add 3)=some (slice b1 c1 d1)∧True)∧
 CP 58 #[agg #[slice q r s,slice t u x,slice y z a1,slice b1 c1 d1]] p (fun e1 f1=>
 ∃g1 h1 i1 j1 k1 l1 m1 n1 o1 p1 q1 r1 s1 t1 u1 v1,e1= .returned (tuple #[pointer g1,agg #[slice h1 i1 j1,slice k1 l1 m1,slice n1 o1 p1,slice q1 r1 s1,slice t1 u1 v1]])∧
 ∀x1,x1=f1.alloc (.cells #[slice none 0 0,slice none 0 0,slice none 0 0,slice none 0 0,slice none 0 0] 40)→
 aC x1 (nb f1) (fun y1=>
 CP 32 #[pointer g1,int .i64 1048576] y1 (fun z1 a2=>
 ∃b2 c2,z1= .returned (tuple #[pointer b2,int .i64 c2])∧
 CP 54 #[pointer b2,int .i64 1048576] a2 (fun d2 e2=>
 ∃f2 g2,d2= .returned (tuple #[pointer f2,int .i64 g2])∧
 CP 56 #[pointer f2] e2 (fun h2 i2=>
 ∃j2,h2= .returned (pointer j2)∧
 CP 55 #[pointer j2,pointer b2,int .i64 n] i2 (fun k2 l2=>
 ∃m2 n2,k2= .returned (tuple #[pointer m2,int .i64 n2])∧
 ac (c2 != 0)
 (∀o2,o2=l2.drew→
 ∃p2 q2 r2 s2 t2 u2 v2 x2 y2 z2 a3 b3 c3 d3 e3,(o2.cell? (nb f1)=some (slice p2 q2 r2)∧o2.cell? ((nb f1).add 1)=some (slice s2 t2 u2)∧o2.cell? ((nb f1).add 2)=some (slice v2 x2 y2)∧o2.cell? ((nb f1).add 3)=some (slice z2 a3 b3)∧o2.cell? ((nb f1).add 4)=some (slice c3 d3 e3)∧True)∧
 aC o2 (nb o) (fun f3=>
 ∃g3 h3 i3 j3 k3 l3 m3 n3 o3 p3 q3 r3 s3 t3 u3,(f3.cell? (nb o)=some (slice g3 h3 i3)∧f3.cell? ((nb o).add 1)=some (slice j3 k3 l3)∧f3.cell? ((nb o).add 2)=some (slice m3 n3 o3)∧f3.cell? ((nb o).add 3)=some (slice p3 q3 r3)∧f3.cell? ((nb o).add 4)=some (slice s3 t3 u3)∧True)∧
 R (tuple #[pointer none,pointer none,pointer none,agg #[slice g3 h3 i3,slice j3 k3 l3,slice m3 n3 o3,slice p3 q3 r3,slice s3 t3 u3]]) f3) [slice p2 q2 r2,slice s2 t2 u2,slice v2 x2 y2,slice z2 a3 b3,slice c3 d3 e3] 0)
 (ac (g2 != 0)
 (∀v3,v3=l2.drew→
 ∃x3 y3 z3 a4 b4 c4 d4 e4 f4 g4 h4 i4 j4 k4 l4,(v3.cell? (nb f1)=some (slice x3 y3 z3)∧v3.cell? ((nb f1).add 1)=some (slice a4 b4 c4)∧v3.cell? ((nb f1).add 2)=some (slice d4 e4 f4)∧v3.cell? ((nb f1).add 3)=some (slice g4 h4 i4)∧v3.cell? ((nb f1).add 4)=some (slice j4 k4 l4)∧True)∧
 aC v3 (nb o) (fun m4=>
 ∃n4 o4 p4 q4 r4 s4 t4 u4 v4 x4 y4 z4 a5 b5 c5,(m4.cell? (nb o)=some (slice n4 o4 p4)∧m4.cell? ((nb o).add 1)=some (slice q4 r4 s4)∧m4.cell? ((nb o).add 2)=some (slice t4 u4 v4)∧m4.cell? ((nb o).add 3)=some (slice x4 y4 z4)∧m4.cell? ((nb o).add 4)=some (slice a5 b5 c5)∧True)∧
 R (tuple #[pointer none,pointer none,pointer none,agg #[slice n4 o4 p4,slice q4 r4 s4,slice t4 u4 v4,slice x4 y4 z4,slice a5 b5 c5]]) m4) [slice x3 y3 z3,slice a4 b4 c4,slice d4 e4 f4,slice g4 h4 i4,slice j4 k4 l4] 0)
 (ac (n2 != 0)
 (∀d5,d5=l2.drew→
 ∃e5 f5 g5 h5 i5 j5 k5 l5 m5 n5 o5 p5 q5 r5 s5,(d5.cell? (nb f1)=some (slice e5 f5 g5)∧d5.cell? ((nb f1).add 1)=some (slice h5 i5 j5)∧d5.cell? ((nb f1).add 2)=some (slice k5 l5 m5)∧d5.cell? ((nb f1).add 3)=some (slice n5 o5 p5)∧d5.cell? ((nb f1).add 4)=some (slice q5 r5 s5)∧True)∧
 aC d5 (nb o) (fun t5=>
 ∃u5 v5 x5 y5 z5 a6 b6 c6 d6 e6 f6 g6 h6 i6 j6,(t5.cell? (nb o)=some (slice u5 v5 x5)∧t5.cell? ((nb o).add 1)=some (slice y5 z5 a6)∧t5.cell? ((nb o).add 2)=some (slice b6 c6 d6)∧t5.cell? ((nb o).add 3)=some (slice e6 f6 g6)∧t5.cell? ((nb o).add 4)=some (slice h6 i6 j6)∧True)∧
 R (tuple #[pointer none,pointer none,pointer none,agg #[slice u5 v5 x5,slice y5 z5 a6,slice b6 c6 d6,slice e6 f6 g6,slice h6 i6 j6]]) t5) [slice e5 f5 g5,slice h5 i5 j5,slice k5 l5 m5,slice n5 o5 p5,slice q5 r5 s5] 0)
 (∀k6,k6=l2.drew→
 ∃l6 m6 n6 o6 p6 q6 r6 s6 t6 u6 v6 x6 y6 z6 a7,(k6.cell? (nb f1)=some (slice l6 m6 n6)∧k6.cell? ((nb f1).add 1)=some (slice o6 p6 q6)∧k6.cell? ((nb f1).add 2)=some (slice r6 s6 t6)∧k6.cell? ((nb f1).add 3)=some (slice u6 v6 x6)∧k6.cell? ((nb f1).add 4)=some (slice y6 z6 a7)∧True)∧
 CP 56 #[pointer f2] k6 (fun b7 c7=>
 ∃d7,b7= .returned (pointer d7)∧
 (c7.cell? (nb f1)=some (slice l6 m6 n6)∧c7.cell? ((nb f1).add 1)=some (slice o6 p6 q6)∧c7.cell? ((nb f1).add 2)=some (slice r6 s6 t6)∧c7.cell? ((nb f1).add 3)=some (slice u6 v6 x6)∧c7.cell? ((nb f1).add 4)=some (slice y6 z6 a7)∧True)∧
 aC c7 (nb o) (fun e7=>
 ∃f7 g7 h7 i7 j7 k7 l7 m7 n7 o7 p7 q7 r7 s7 t7,(e7.cell? (nb o)=some (slice f7 g7 h7)∧e7.cell? ((nb o).add 1)=some (slice i7 j7 k7)∧e7.cell? ((nb o).add 2)=some (slice l7 m7 n7)∧e7.cell? ((nb o).add 3)=some (slice o7 p7 q7)∧e7.cell? ((nb o).add 4)=some (slice r7 s7 t7)∧True)∧
 R (tuple #[pointer m2,pointer d7,pointer b2,agg #[slice f7 g7 h7,slice i7 j7 k7,slice l7 m7 n7,slice o7 p7 q7,slice r7 s7 t7]]) e7) [slice l6 m6 n6,slice o6 p6 q6,slice r6 s6 t6,slice u6 v6 x6,slice y6 z6 a7] 0))))))))) [slice h1 i1 j1,slice k1 l1 m1,slice n1 o1 p1,slice q1 r1 s1,slice t1 u1 v1] 0)
theorem BF (a:OA) (b c:Nat) (d:OA) (f g:Nat) (h:OA) (i j:Nat) (k:OA) (l m:Nat) (n:Int) (w:World) (R:RW) (hh:P_ a b c d f g h i j k l m n w R):CR 36 #[agg #[slice a b c,slice d f g,slice h i j,slice k l m],int .i64 n] w R:=
 aD (fn:=Tryz.f36) (by kernel_rfl) (by kernel_rfl) (by kernel_rfl) (by kernel_rfl) (by kernel_rfl) hh
def PU (a:OA) (b c:Nat) (d:OA) (f g:Nat) (w:World) (R:RW):Prop:=
 ∀h,h=w.alloc (.cells #[slice a b c] 88)→
 ∀i,i=h.alloc (.cells #[slice none 0 0] 88)→
 ∀j:KW,(∀(k:Int) (l:World),(ac (decide (k< (f:Int)))
 (ah d (fun m=>
 (0:Int)≤k∧k< (f:Int)∧
 ∃n o p,(l.cell? (m.add (k.toNat*1))=some (slice n o p)∧True)∧
 ∀q,q=l.alloc (.cells #[slice none 0 0] 88)→
 (slice n o p).oneCell'=true∧(∃u,q.cell? (nb l)=some u)∧q.frozen? (nb l)=false∧
 ∀r,r=(q.setCell (nb l) (slice n o p))→
 ∃s t x,(r.cell? (nb w)=some (slice s t x)∧True)∧
 ∃y z a1,(r.cell? (nb l)=some (slice y z a1)∧True)∧
 CP 82 #[agg #[slice s t x],agg #[slice y z a1]] r (fun b1 c1=>
 ∃d1 e1 f1,b1= .returned (agg #[slice d1 e1 f1])∧
 (slice d1 e1 f1).oneCell'=true∧(∃u,c1.cell? (nb w)=some u)∧c1.frozen? (nb w)=false∧
 ∀g1,g1=(c1.setCell (nb w) (slice d1 e1 f1))→
 Ar .i64 (k+1) (fun h1=>
 j [int .i64 h1] g1))))
 (∃i1 j1 k1,(l.cell? (nb w)=some (slice i1 j1 k1)∧True)∧
 (slice i1 j1 k1).oneCell'=true∧(∃u,l.cell? (nb h)=some u)∧l.frozen? (nb h)=false∧
 ∀l1,l1=(l.setCell (nb h) (slice i1 j1 k1))→
 ∃m1 n1 o1,(l1.cell? (nb h)=some (slice m1 n1 o1)∧True)∧
 R (agg #[slice m1 n1 o1]) l1))→j [int .i64 k] l)→
 j [int .i64 0] i
theorem Ce (a:OA) (b c:Nat) (d:OA) (f g:Nat) (w:World) (R:RW) (hh:PU a b c d f g w R):CR 40 #[agg #[slice a b c],slice d f g] w R:=
 aD (fn:=Tryz.f40) (by kernel_rfl) (by kernel_rfl) (by kernel_rfl) (by kernel_rfl) (by kernel_rfl) hh
def PZ (a:OA) (b c:Int) (w:World) (R:RW):Prop:=
 ∀d,d=w.alloc (.cells #[slice none 0 0] 88)→
 ac (Option.isNone a)
 ((slice none 0 0).oneCell'=true∧(∃u,d.cell? (nb w)=some u)∧d.frozen? (nb w)=false∧
 ∀f,f=(d.setCell (nb w) (slice none 0 0))→
 ∃g h i,(f.cell? (nb w)=some (slice g h i)∧True)∧
 R (agg #[slice g h i]) f)
 (ac (decide (c<0))
 ((slice none 0 0).oneCell'=true∧(∃u,d.cell? (nb w)=some u)∧d.frozen? (nb w)=false∧
 ∀j,j=(d.setCell (nb w) (slice none 0 0))→
 ∃k l m,(j.cell? (nb w)=some (slice k l m)∧True)∧
 R (agg #[slice k l m]) j)
 (ah a (fun n=>
 ∃o,d.cell? (n.add 2)=some (int .i64 o)∧
 ac (decide (c>o))
 ((slice none 0 0).oneCell'=true∧(∃u,d.cell? (nb w)=some u)∧d.frozen? (nb w)=false∧
 ∀p,p=(d.setCell (nb w) (slice none 0 0))→
 ∃q r s,(p.cell? (nb w)=some (slice q r s)∧True)∧
 R (agg #[slice q r s]) p)
 (ac (decide (b<0))
 ((slice none 0 0).oneCell'=true∧(∃u,d.cell? (nb w)=some u)∧d.frozen? (nb w)=false∧
 ∀t,t=(d.setCell (nb w) (slice none 0 0))→
 ∃x y z,(t.cell? (nb w)=some (slice x y z)∧True)∧
 R (agg #[slice x y z]) t)
 (ah a (fun a1=>
 ∃b1,d.cell? (a1.add 0)=some (pointer b1)∧
 CP 37 #[pointer b1] d (fun c1 d1=>
 ∃e1,c1= .returned (int .i64 e1)∧
 ac (decide (b≥e1))
 ((slice none 0 0).oneCell'=true∧(∃u,d1.cell? (nb w)=some u)∧d1.frozen? (nb w)=false∧
 ∀f1,f1=(d1.setCell (nb w) (slice none 0 0))→
 ∃g1 h1 i1,(f1.cell? (nb w)=some (slice g1 h1 i1)∧True)∧
 R (agg #[slice g1 h1 i1]) f1)
 (ah a (fun j1=>
 CP 83 #[pointer (some ((j1.add 3).add 0)),func (.func 84) #[pointer a] #[]] d1 (fun k1 l1=>
 k1= .returned (tuple #[])∧
 ah a (fun m1=>
 ∃n1 o1 p1,l1.cell? ((m1.add 3).add 3)=some (slice n1 o1 p1)∧
 ah n1 (fun q1=>
 (0:Int)≤c∧c< (o1:Int)∧
 ∃r1 s1 t1,l1.cell? (q1.add (c.toNat*1))=some (slice r1 s1 t1)∧
 ah r1 (fun u1=>
 (0:Int)≤b∧b< (s1:Int)∧
 ∃v1 x1 y1,(l1.cell? (u1.add (b.toNat*1))=some (slice v1 x1 y1)∧True)∧
 (slice v1 x1 y1).oneCell'=true∧(∃u,l1.cell? (nb w)=some u)∧l1.frozen? (nb w)=false∧
 ∀z1,z1=(l1.setCell (nb w) (slice v1 x1 y1))→
 ∃a2 b2 c2,(z1.cell? (nb w)=some (slice a2 b2 c2)∧True)∧
 R (agg #[slice a2 b2 c2]) z1)))))))))))))
theorem Bp (a:OA) (b c:Int) (w:World) (R:RW) (hh:PZ a b c w R):CR 41 #[pointer a,int .i64 b,int .i64 c] w R:=
 aD (fn:=Tryz.f41) (by kernel_rfl) (by kernel_rfl) (by kernel_rfl) (by kernel_rfl) (by kernel_rfl) hh
def Po (a:OA) (b c:Nat) (d:OA) (f g:Nat) (w:World) (R:RW):Prop:=
 ∀h,h=w.alloc (.cells #[slice a b c] 88)→
 ∀i,i=h.alloc (.cells #[slice d f g] 88)→
 ∃j k l,i.cell? ((nb w).add 0)=some (slice j k l)∧
 ∃m n o,i.cell? ((nb h).add 0)=some (slice m n o)∧
 CP 85 #[int .i64 (k:Int),int .i64 (n:Int)] i (fun p q=>
 ∃r,p= .returned (int .i64 r)∧
 ac (r != 0)
 (R (int .i64 r) q)
 (∃s t u,q.cell? ((nb w).add 0)=some (slice s t u)∧
 Ar .i64 ((t:Int)-1) (fun x=>
 ∀y:KW,(∀(z a1:Int) (b1:World),(ac (decide (z≥0))
 (∀c1,c1=b1.drew→
 ∃d1 e1 f1,c1.cell? ((nb w).add 0)=some (slice d1 e1 f1)∧
 ah d1 (fun g1=>
 (0:Int)≤z∧z< (e1:Int)∧
 ∃h1,c1.cell? (g1.add (z.toNat*1))=some (int .u32 h1)∧
 ∃i1 j1 k1,c1.cell? ((nb h).add 0)=some (slice i1 j1 k1)∧
 ah i1 (fun l1=>
 (0:Int)≤z∧z< (j1:Int)∧
 ∃m1,c1.cell? (l1.add (z.toNat*1))=some (int .u32 m1)∧
 CP 86 #[int .u32 h1,int .u32 m1] c1 (fun n1 o1=>
 ∃p1,n1= .returned (int .i64 p1)∧
 ac (p1 != 0)
 (R (int .i64 p1) o1)
 (Ar .i64 (z-1) (fun q1=>
 y [int .i64 q1,int .i64 a1] o1))))))
 (R (int .i64 0) b1))→y [int .i64 z,int .i64 a1] b1)→
 y [int .i64 x,int .i64 0] q)))
theorem BV (a:OA) (b c:Nat) (d:OA) (f g:Nat) (w:World) (R:RW) (hh:Po a b c d f g w R):CR 42 #[agg #[slice a b c],agg #[slice d f g]] w R:=
 aD (fn:=Tryz.f42) (by kernel_rfl) (by kernel_rfl) (by kernel_rfl) (by kernel_rfl) (by kernel_rfl) hh
def PA (a:OA) (b c:Nat) (w:World) (R:RW):Prop:=
 ∀d,d=w.alloc (.cells #[slice a b c] 88)→
 ∃f g h,d.cell? ((nb w).add 0)=some (slice f g h)∧
 R (bool ((g:Int)==0)) d
theorem A_ (a:OA) (b c:Nat) (w:World) (R:RW) (hh:PA a b c w R):CR 43 #[agg #[slice a b c]] w R:=
 aD (fn:=Tryz.f43) (by kernel_rfl) (by kernel_rfl) (by kernel_rfl) (by kernel_rfl) (by kernel_rfl) hh
def PD (a:OA) (b:Int) (w:World) (R:RW):Prop:=
 ∀c,c=w.alloc (.cells #[slice none 0 0] 88)→
 CP 41 #[pointer a,int .i64 0,int .i64 b] c (fun d f=>
 ∃g h i,d= .returned (agg #[slice g h i])∧
 (slice g h i).oneCell'=true∧(∃u,f.cell? (nb w)=some u)∧f.frozen? (nb w)=false∧
 ∀j,j=(f.setCell (nb w) (slice g h i))→
 ∃k l m,(j.cell? (nb w)=some (slice k l m)∧True)∧
 R (agg #[slice k l m]) j)
theorem BT (a:OA) (b:Int) (w:World) (R:RW) (hh:PD a b w R):CR 45 #[pointer a,int .i64 b] w R:=
 aD (fn:=Tryz.f45) (by kernel_rfl) (by kernel_rfl) (by kernel_rfl) (by kernel_rfl) (by kernel_rfl) hh
def Pr (a:OA) (b c:Nat) (w:World) (R:RW):Prop:=
 ∀d,d=w.alloc (.cells #[slice a b c] 88)→
 ∃f g h,(d.cell? (nb w)=some (slice f g h)∧True)∧
 CP 43 #[agg #[slice f g h]] d (fun i j=>
 ∃k,i= .returned (bool k)∧
 ac k
 (R (string ⟨#[48]⟩) j)
 (∀l:KW,(∀(m:OA) (n o:Nat) (p:World),(∃q r s,(p.cell? (nb w)=some (slice q r s)∧True)∧
 CP 43 #[agg #[slice q r s]] p (fun t x=>
 ∃y,t= .returned (bool y)∧
 ac (!y)
 (∃z a1 b1,(x.cell? (nb w)=some (slice z a1 b1)∧True)∧
 CP 87 #[agg #[slice z a1 b1],int .u32 1000000000] x (fun c1 d1=>
 ∃e1 f1 g1 h1,c1= .returned (tuple #[agg #[slice e1 f1 g1],int .u32 h1])∧
 ∀i1,i1=d1.alloc (.cells #[slice none 0 0] 88)→
 (slice e1 f1 g1).oneCell'=true∧(∃u,i1.cell? (nb d1)=some u)∧i1.frozen? (nb d1)=false∧
 ∀j1,j1=(i1.setCell (nb d1) (slice e1 f1 g1))→
 ∀k1:KW,(∀(l1 m1:Int) (n1:OA) (o1 p1:Nat) (q1:World),(ac (decide (l1<9))
 (ac (decide (m1>0))
 ((10:Int)≠0∧
 Ar .u32 ((48:Int)+(Int.tmod m1 10)) (fun r1=>
 ∀s1,s1=q1.alloc (.cells #[int .u8 (IntKind.wrap .u8 r1)] 5)→
 ∃t1 u1 v1 x1,(Builtin.append_ #[97,97] 97 #[slice n1 o1 p1,slice (some (nb q1)) 1 1]).run Tryz.prog s1= .ok (slice t1 u1 v1) x1∧
 (10:Int)≠0∧
 Ar .i64 (l1+1) (fun y1=>
 k1 [int .i64 y1,int .u32 (IntKind.wrap .u32 (Int.tdiv m1 10)),slice t1 u1 v1] x1)))
 (∃z1 a2 b2,(q1.cell? (nb d1)=some (slice z1 a2 b2)∧True)∧
 CP 43 #[agg #[slice z1 a2 b2]] q1 (fun c2 d2=>
 ∃e2,c2= .returned (bool e2)∧
 ac (!e2)
 ((10:Int)≠0∧
 Ar .u32 ((48:Int)+(Int.tmod m1 10)) (fun f2=>
 ∀g2,g2=d2.alloc (.cells #[int .u8 (IntKind.wrap .u8 f2)] 5)→
 ∃h2 i2 j2 k2,(Builtin.append_ #[97,97] 97 #[slice n1 o1 p1,slice (some (nb d2)) 1 1]).run Tryz.prog g2= .ok (slice h2 i2 j2) k2∧
 (10:Int)≠0∧
 Ar .i64 (l1+1) (fun l2=>
 k1 [int .i64 l2,int .u32 (IntKind.wrap .u32 (Int.tdiv m1 10)),slice h2 i2 j2] k2)))
 (∃m2 n2 o2,(d2.cell? (nb d1)=some (slice m2 n2 o2)∧True)∧
 (slice m2 n2 o2).oneCell'=true∧(∃u,d2.cell? (nb w)=some u)∧d2.frozen? (nb w)=false∧
 ∀p2,p2=(d2.setCell (nb w) (slice m2 n2 o2))→
 l [slice n1 o1 p1] p2))))
 (∃q2 r2 s2,(q1.cell? (nb d1)=some (slice q2 r2 s2)∧True)∧
 (slice q2 r2 s2).oneCell'=true∧(∃u,q1.cell? (nb w)=some u)∧q1.frozen? (nb w)=false∧
 ∀t2,t2=(q1.setCell (nb w) (slice q2 r2 s2))→
 l [slice n1 o1 p1] t2))→k1 [int .i64 l1,int .u32 m1,slice n1 o1 p1] q1)→
 k1 [int .i64 0,int .u32 h1,slice m n o] j1))
 (CP 88 #[slice m n o] x (fun u2 v2=>
 u2= .returned (tuple #[])∧
 ∃x2 y2,(convert 97 9 (slice m n o)).run Tryz.prog v2= .ok (string x2) y2∧
 R (string x2) y2))))→l [slice m n o] p)→
 l [slice none 0 0] j))
theorem BX (a:OA) (b c:Nat) (w:World) (R:RW) (hh:Pr a b c w R):CR 46 #[agg #[slice a b c]] w R:=
 aD (fn:=Tryz.f46) (by kernel_rfl) (by kernel_rfl) (by kernel_rfl) (by kernel_rfl) (by kernel_rfl) hh
def PF (a:OA) (b c:Nat) (w:World) (R:RW):Prop:=
 ∀d,d=w.alloc (.cells #[slice none 0 0] 88)→
 CP 94 #[slice a b c] d (fun f g=>
 ∃h i j,f= .returned (slice h i j)∧
 CP 93 #[slice h i j] g (fun k l=>
 ∃m n o,k= .returned (agg #[slice m n o])∧
 (slice m n o).oneCell'=true∧(∃u,l.cell? (nb w)=some u)∧l.frozen? (nb w)=false∧
 ∀p,p=(l.setCell (nb w) (slice m n o))→
 ∃q r s,(p.cell? (nb w)=some (slice q r s)∧True)∧
 R (agg #[slice q r s]) p))
theorem CX (a:OA) (b c:Nat) (w:World) (R:RW) (hh:PF a b c w R):CR 49 #[slice a b c] w R:=
 aD (fn:=Tryz.f49) (by kernel_rfl) (by kernel_rfl) (by kernel_rfl) (by kernel_rfl) (by kernel_rfl) hh
def P9 (a:OA) (b:Int) (c:OA) (d f:Nat) (w:World) (R:RW):Prop:=
 ∀g,g=w.alloc (.cells #[slice c d f] 88)→
 ac (Option.isNone a)
 (R (tuple #[slice none 0 0,int .i64 1]) g)
 (ac (decide (b<0))
 (R (tuple #[slice none 0 0,int .i64 3]) g)
 (ah a (fun h=>
 ∃i,g.cell? (h.add 2)=some (int .i64 i)∧
 ac (decide (b>i))
 (R (tuple #[slice none 0 0,int .i64 3]) g)
 (∀j,j=g.drew→
 ∃k l m,(j.cell? (nb w)=some (slice k l m)∧True)∧
 CP 45 #[pointer a,int .i64 b] j (fun n o=>
 ∃p q r,n= .returned (agg #[slice p q r])∧
 (o.cell? (nb w)=some (slice k l m)∧True)∧
 CP 42 #[agg #[slice k l m],agg #[slice p q r]] o (fun s t=>
 ∃x,s= .returned (int .i64 x)∧
 ac (decide (x≥0))
 (R (tuple #[slice none 0 0,int .i64 7]) t)
 (∀y,y=t.alloc (.cells #[slice none 0 0] 28)→
 ∀z,z=y.alloc (.cells #[int .i64 0] 3)→
 (int .i64 0).oneCell'=true∧(∃u,z.cell? (nb y)=some u)∧z.frozen? (nb y)=false∧
 ∀a1,a1=(z.setCell (nb y) (int .i64 0))→
 Ar .i64 (b-1) (fun b1=>
 ∀c1:KW,(∀(d1:Int) (e1:World),(ac (decide (d1≥0))
 (∃f1,e1.cell? (nb y)=some (int .i64 f1)∧
 CP 95 #[pointer a,int .i64 f1,int .i64 d1,func (.func 96) #[] #[pointer (some (nb w)),pointer (some (nb t)),pointer (some (nb y))]] e1 (fun g1 h1=>
 ∃i1,g1= .returned (bool i1)∧
 Ar .i64 (d1-1) (fun j1=>
 c1 [int .i64 j1] h1)))
 (∃k1 l1 m1,e1.cell? (nb t)=some (slice k1 l1 m1)∧
 R (tuple #[slice k1 l1 m1,int .i64 0]) e1))→c1 [int .i64 d1] e1)→
 c1 [int .i64 b1] a1))))))))
theorem A6 (a:OA) (b:Int) (c:OA) (d f:Nat) (w:World) (R:RW) (hh:P9 a b c d f w R):CR 50 #[pointer a,int .i64 b,agg #[slice c d f]] w R:=
 aD (fn:=Tryz.f50) (by kernel_rfl) (by kernel_rfl) (by kernel_rfl) (by kernel_rfl) (by kernel_rfl) hh
def Pp (a b:OA) (c d:Nat) (w:World) (R:RW):Prop:=
 ∀f,f=w.alloc (.cells #[slice none 0 0] 88)→
 ac (Option.isNone a)
 ((slice none 0 0).oneCell'=true∧(∃u,f.cell? (nb w)=some u)∧f.frozen? (nb w)=false∧
 ∀g,g=(f.setCell (nb w) (slice none 0 0))→
 ∃h i j,(g.cell? (nb w)=some (slice h i j)∧True)∧
 R (tuple #[agg #[slice h i j],int .i64 1]) g)
 (ah a (fun k=>
 ∃l,f.cell? (k.add 2)=some (int .i64 l)∧
 ac (decide ((c:Int)>l))
 ((slice none 0 0).oneCell'=true∧(∃u,f.cell? (nb w)=some u)∧f.frozen? (nb w)=false∧
 ∀m,m=(f.setCell (nb w) (slice none 0 0))→
 ∃n o p,(m.cell? (nb w)=some (slice n o p)∧True)∧
 R (tuple #[agg #[slice n o p],int .i64 3]) m)
 (ah a (fun q=>
 ∃r,f.cell? (q.add 0)=some (pointer r)∧
 CP 98 #[pointer r,slice b c d] f (fun s t=>
 ∃x y,s= .returned (tuple #[int .i64 x,bool y])∧
 ac (!y)
 ((slice none 0 0).oneCell'=true∧(∃u,t.cell? (nb w)=some u)∧t.frozen? (nb w)=false∧
 ∀z,z=(t.setCell (nb w) (slice none 0 0))→
 ∃a1 b1 c1,(z.cell? (nb w)=some (slice a1 b1 c1)∧True)∧
 R (tuple #[agg #[slice a1 b1 c1],int .i64 4]) z)
 (ah a (fun d1=>
 ∃e1,t.cell? (d1.add 0)=some (pointer e1)∧
 CP 44 #[pointer e1,int .i64 x] t (fun f1 g1=>
 ∃h1,f1= .returned (bool h1)∧
 ac (!h1)
 ((slice none 0 0).oneCell'=true∧(∃u,g1.cell? (nb w)=some u)∧g1.frozen? (nb w)=false∧
 ∀i1,i1=(g1.setCell (nb w) (slice none 0 0))→
 ∃j1 k1 l1,(i1.cell? (nb w)=some (slice j1 k1 l1)∧True)∧
 R (tuple #[agg #[slice j1 k1 l1],int .i64 8]) i1)
 (∀m1,m1=g1.alloc (.cells #[slice none 0 0] 88)→
 ∀n1,n1=m1.alloc (.cells #[int .i64 0] 3)→
 (int .i64 0).oneCell'=true∧(∃u,n1.cell? (nb m1)=some u)∧n1.frozen? (nb m1)=false∧
 ∀o1,o1=(n1.setCell (nb m1) (int .i64 0))→
 ∀p1:KW,(∀(q1:Int) (r1:World),(ac (decide (q1< (c:Int)))
 (ah b (fun s1=>
 (0:Int)≤q1∧q1< (c:Int)∧
 ∃t1,r1.cell? (s1.add (q1.toNat*1))=some (int .i64 t1)∧
 ∀u1,u1=r1.alloc (.cells #[int .i64 0] 3)→
 (int .i64 t1).oneCell'=true∧(∃u,u1.cell? (nb r1)=some u)∧u1.frozen? (nb r1)=false∧
 ∀v1,v1=(u1.setCell (nb r1) (int .i64 t1))→
 ∃x1,v1.cell? (nb m1)=some (int .i64 x1)∧
 Ar .i64 ((c:Int)-1) (fun y1=>
 Ar .i64 (y1-q1) (fun z1=>
 CP 95 #[pointer a,int .i64 x1,int .i64 z1,func (.func 99) #[] #[pointer (some (nb r1)),pointer (some (nb m1)),pointer (some (nb g1))]] v1 (fun a2 b2=>
 ∃c2,a2= .returned (bool c2)∧
 Ar .i64 (q1+1) (fun d2=>
 p1 [int .i64 d2] b2))))))
 (∃e2 f2 g2,(r1.cell? (nb g1)=some (slice e2 f2 g2)∧True)∧
 (slice e2 f2 g2).oneCell'=true∧(∃u,r1.cell? (nb w)=some u)∧r1.frozen? (nb w)=false∧
 ∀h2,h2=(r1.setCell (nb w) (slice e2 f2 g2))→
 ∃i2 j2 k2,(h2.cell? (nb w)=some (slice i2 j2 k2)∧True)∧
 R (tuple #[agg #[slice i2 j2 k2],int .i64 0]) h2))→p1 [int .i64 q1] r1)→
 p1 [int .i64 0] o1)))))))))
theorem B1 (a b:OA) (c d:Nat) (w:World) (R:RW) (hh:Pp a b c d w R):CR 51 #[pointer a,slice b c d] w R:=
 aD (fn:=Tryz.f51) (by kernel_rfl) (by kernel_rfl) (by kernel_rfl) (by kernel_rfl) (by kernel_rfl) hh
def Qe (a:Int) (w:World) (R:RW):Prop:=
 ∀b,b=w.alloc (.cells #[slice none 0 0] 88)→
 (0:Int)≤32∧
 ∀c,c=b.alloc (.cells #[int .u32 (IntKind.wrap .u32 a),int .u32 (IntKind.wrap .u32 (Int.fdiv a (2^(min (32:Int).toNat (IntKind.bits .u64)))))] 153)→
 CP 93 #[slice (some (nb b)) 2 2] c (fun d f=>
 ∃g h i,d= .returned (agg #[slice g h i])∧
 (slice g h i).oneCell'=true∧(∃u,f.cell? (nb w)=some u)∧f.frozen? (nb w)=false∧
 ∀j,j=(f.setCell (nb w) (slice g h i))→
 ∃k l m,(j.cell? (nb w)=some (slice k l m)∧True)∧
 R (agg #[slice k l m]) j)
theorem Cf (a:Int) (w:World) (R:RW) (hh:Qe a w R):CR 53 #[int .u64 a] w R:=
 aD (fn:=Tryz.f53) (by kernel_rfl) (by kernel_rfl) (by kernel_rfl) (by kernel_rfl) (by kernel_rfl) hh
def Pz (a b:OA) (c:Int) (w:World) (R:RW):Prop:=
 ac (Option.isNone a)
 (R (tuple #[pointer none,int .i64 1]) w)
 (ac (Option.isNone b)
 (R (tuple #[pointer none,int .i64 1]) w)
 (ac (decide (c<0))
 (R (tuple #[pointer none,int .i64 1]) w)
 (CP 37 #[pointer a] w (fun d f=>
 ∃g,d= .returned (int .i64 g)∧
 g≠0∧
 ac (decide (c>(IntKind.wrap .i64 (Int.tdiv 20000 g))))
 (R (tuple #[pointer none,int .i64 5]) f)
 (∀h,h=f.alloc (.cells #[pointer a,pointer b,int .i64 c,int .u32 0,int .i32 0,int .u32 0,slice none 0 0] 172)→
 R (tuple #[pointer (some (nb f)),int .i64 0]) h)))))
theorem CH (a b:OA) (c:Int) (w:World) (R:RW) (hh:Pz a b c w R):CR 55 #[pointer a,pointer b,int .i64 c] w R:=
 aD (fn:=Tryz.f55) (by kernel_rfl) (by kernel_rfl) (by kernel_rfl) (by kernel_rfl) (by kernel_rfl) hh
def Qn (a:OA) (b c:Nat) (d:OA) (f g:Nat) (w:World) (R:RW):Prop:=
 ∀h,h=w.alloc (.cells #[slice a b c] 88)→
 ∀i,i=h.alloc (.cells #[slice d f g] 88)→
 ∀j,j=i.alloc (.cells #[slice none 0 0] 88)→
 ∃k l m,j.cell? ((nb w).add 0)=some (slice k l m)∧
 ∃n o p,j.cell? ((nb h).add 0)=some (slice n o p)∧
 ∃q r,(Builtin.max_ #[3,3] 3 #[int .i64 (l:Int),int .i64 (o:Int)]).run Tryz.prog j= .ok (int .i64 q) r∧
 Ar .i64 (q+1) (fun s=>
 ∃t x y z,(Instr.makeSlice 86 (int .i64 0) (int .i64 s)).run Tryz.prog r= .ok (slice t x y) z∧
 ∀a1:KW,(∀(b1 c1:Int) (d1:OA) (e1 f1:Nat) (g1:World),(ac (decide (b1<q))
 (∀h1,h1=g1.drew→
 ∃i1 j1 k1,(h1.cell? (nb w)=some (slice i1 j1 k1)∧True)∧
 ∃l1 m1 n1,(h1.cell? (nb h)=some (slice l1 m1 n1)∧True)∧
 CP 153 #[agg #[slice i1 j1 k1],int .i64 b1] h1 (fun o1 p1=>
 ∃q1,o1= .returned (int .u32 q1)∧
 (p1.cell? (nb h)=some (slice l1 m1 n1)∧True)∧
 CP 153 #[agg #[slice l1 m1 n1],int .i64 b1] p1 (fun r1 s1=>
 ∃t1,r1= .returned (int .u32 t1)∧
 Ar .u64 ((IntKind.wrap .u64 q1:Int)+(IntKind.wrap .u64 t1)) (fun u1=>
 Ar .u64 (u1+c1) (fun v1=>
 ∀x1,x1=s1.alloc (.cells #[int .u32 (IntKind.wrap .u32 v1)] 153)→
 ∃y1 z1 a2 b2,(Builtin.append_ #[86,86] 86 #[slice d1 e1 f1,slice (some (nb s1)) 1 1]).run Tryz.prog x1= .ok (slice y1 z1 a2) b2∧
 (0:Int)≤32∧
 Ar .i64 (b1+1) (fun c2=>
 a1 [int .i64 c2,int .u64 (Int.fdiv v1 (2^(min (32:Int).toNat (IntKind.bits .u64)))),slice y1 z1 a2] b2))))))
 (∀d2,d2=g1.alloc (.cells #[int .u32 (IntKind.wrap .u32 c1)] 153)→
 ∃e2 f2 g2 h2,(Builtin.append_ #[86,86] 86 #[slice d1 e1 f1,slice (some (nb g1)) 1 1]).run Tryz.prog d2= .ok (slice e2 f2 g2) h2∧
 CP 93 #[slice e2 f2 g2] h2 (fun i2 j2=>
 ∃k2 l2 m2,i2= .returned (agg #[slice k2 l2 m2])∧
 (slice k2 l2 m2).oneCell'=true∧(∃u,j2.cell? (nb i)=some u)∧j2.frozen? (nb i)=false∧
 ∀n2,n2=(j2.setCell (nb i) (slice k2 l2 m2))→
 ∃o2 p2 q2,(n2.cell? (nb i)=some (slice o2 p2 q2)∧True)∧
 R (agg #[slice o2 p2 q2]) n2)))→a1 [int .i64 b1,int .u64 c1,slice d1 e1 f1] g1)→
 a1 [int .i64 0,int .u64 0,slice t x y] z)
theorem BD (a:OA) (b c:Nat) (d:OA) (f g:Nat) (w:World) (R:RW) (hh:Qn a b c d f g w R):CR 82 #[agg #[slice a b c],agg #[slice d f g]] w R:=
 aD (fn:=Tryz.f82) (by kernel_rfl) (by kernel_rfl) (by kernel_rfl) (by kernel_rfl) (by kernel_rfl) hh
def Qi (a:OA) (w:World) (R:RW):Prop:=
 ah a (fun b=>
 ∃c,w.cell? (b.add 0)=some (pointer c)∧
 CP 37 #[pointer c] w (fun d f=>
 ∃g,d= .returned (int .i64 g)∧
 ∃h i j k,(Instr.makeSlice 166 (int .i64 g) (int .i64 g)).run Tryz.prog f= .ok (slice h i j) k∧
 ∃l m n o,(Instr.makeSlice 252 (int .i64 g) (int .i64 g)).run Tryz.prog k= .ok (slice l m n) o∧
 ∀p:KW,(∀(q:Int) (r:World),(ac (decide (q<g))
 (∀s:KW,(∀t:World,(Ar .i64 (q+1) (fun x=>
 p [int .i64 x] t))→s [] t)→
 CP 156 #[pointer a,int .i64 q] r (fun y z=>
 ∃a1,y= .returned (map a1)∧
 ah l (fun b1=>
 (0:Int)≤q∧q< (m:Int)∧
 (map a1).oneCell'=true∧(∃u,z.cell? (b1.add (q.toNat*1))=some u)∧z.frozen? (b1.add (q.toNat*1))=false∧
 ∀c1,c1=(z.setCell (b1.add (q.toNat*1)) (map a1))→
 ah a (fun d1=>
 ∃e1,c1.cell? (d1.add 0)=some (pointer e1)∧
 CP 44 #[pointer e1,int .i64 q] c1 (fun f1 g1=>
 ∃h1,f1= .returned (bool h1)∧
 ac h1
 (CP 53 #[int .u64 1] g1 (fun i1 j1=>
 ∃k1 l1 m1,i1= .returned (agg #[slice k1 l1 m1])∧
 ah h (fun n1=>
 (0:Int)≤q∧q< (i:Int)∧
 (slice k1 l1 m1).oneCell'=true∧(∃u,j1.cell? (n1.add (q.toNat*1))=some u)∧j1.frozen? (n1.add (q.toNat*1))=false∧
 ∀o1,o1=(j1.setCell (n1.add (q.toNat*1)) (slice k1 l1 m1))→
 s [] o1)))
 (s [] g1))))))
 (ah a (fun p1=>
 ∃q1 r1 s1,r.cell? ((p1.add 3).add 3)=some (slice q1 r1 s1)∧
 ∀t1,t1=r.alloc (.cells #[slice h i j] 166)→
 ∃u1 v1 x1 y1,(Builtin.append_ #[168,168] 168 #[slice q1 r1 s1,slice (some (nb r)) 1 1]).run Tryz.prog t1= .ok (slice u1 v1 x1) y1∧
 ah a (fun z1=>
 (slice u1 v1 x1).oneCell'=true∧(∃u,y1.cell? ((z1.add 3).add 3)=some u)∧y1.frozen? ((z1.add 3).add 3)=false∧
 ∀a2,a2=(y1.setCell ((z1.add 3).add 3) (slice u1 v1 x1))→
 ∀b2:KW,(∀(c2:Int) (d2:World),(ah a (fun e2=>
 ∃f2,d2.cell? (e2.add 2)=some (int .i64 f2)∧
 ac (decide (c2≤f2))
 (∃g2 h2 i2 j2,(Instr.makeSlice 166 (int .i64 g) (int .i64 g)).run Tryz.prog d2= .ok (slice g2 h2 i2) j2∧
 ∀k2:KW,(∀(l2:Int) (m2:World),(ac (decide (l2<g))
 (ah l (fun n2=>
 (0:Int)≤l2∧l2< (m:Int)∧
 ∃o2,m2.cell? (n2.add (l2.toNat*1))=some (map o2)∧
 ∃p2 q2,(Instr.range 253 (map o2)).run Tryz.prog m2= .ok (pointer p2) q2∧
 ∀r2:KW,(∀s2:World,((∃t2 u2,(Instr.next (pointer p2) false 0).run Tryz.prog s2= .ok (tuple #[bool t2]) u2∧
 ∃v2,bool t2=bool v2∧
 ac v2
 (∃x2 y2 z2,(Instr.entry (pointer p2)).run Tryz.prog u2= .ok (tuple #[x2,y2]) z2∧
 ∃a3,x2=int .i64 a3∧
 ∃b3,y2=int .u32 b3∧
 ∀c3,c3=z2.drew→
 ah g2 (fun d3=>
 (0:Int)≤l2∧l2< (h2:Int)∧
 ∃e3 f3 g3,(c3.cell? (d3.add (l2.toNat*1))=some (slice e3 f3 g3)∧True)∧
 ah a (fun h3=>
 ∃i3 j3 k3,c3.cell? ((h3.add 3).add 3)=some (slice i3 j3 k3)∧
 Ar .i64 (c2-1) (fun l3=>
 ah i3 (fun m3=>
 (0:Int)≤l3∧l3< (j3:Int)∧
 ∃n3 o3 p3,c3.cell? (m3.add (l3.toNat*1))=some (slice n3 o3 p3)∧
 ah n3 (fun q3=>
 (0:Int)≤a3∧a3< (o3:Int)∧
 ∃r3 s3 t3,(c3.cell? (q3.add (a3.toNat*1))=some (slice r3 s3 t3)∧True)∧
 CP 157 #[agg #[slice r3 s3 t3],int .u32 b3] c3 (fun u3 v3=>
 ∃x3 y3 z3,u3= .returned (agg #[slice x3 y3 z3])∧
 (v3.cell? (d3.add (l2.toNat*1))=some (slice e3 f3 g3)∧True)∧
 ∀a4,a4=v3.alloc (.cells #[slice x3 y3 z3] 88)→
 (a4.cell? (d3.add (l2.toNat*1))=some (slice e3 f3 g3)∧True)∧
 CP 40 #[agg #[slice e3 f3 g3],slice (some (nb v3)) 1 1] a4 (fun b4 c4=>
 ∃d4 e4 f4,b4= .returned (agg #[slice d4 e4 f4])∧
 ah g2 (fun g4=>
 (0:Int)≤l2∧l2< (h2:Int)∧
 (slice d4 e4 f4).oneCell'=true∧(∃u,c4.cell? (g4.add (l2.toNat*1))=some u)∧c4.frozen? (g4.add (l2.toNat*1))=false∧
 ∀h4,h4=(c4.setCell (g4.add (l2.toNat*1)) (slice d4 e4 f4))→
 r2 [] h4)))))))))
 (Ar .i64 (l2+1) (fun i4=>
 k2 [int .i64 i4] u2)))∨
 (∃j4 k4 l4 m4,(Instr.next (pointer p2) false 0).run Tryz.prog s2= .ok (tuple #[bool j4,k4,l4]) m4∧
 ∃n4,bool j4=bool n4∧
 ac n4
 (∃o4 p4 q4,(Instr.entry (pointer p2)).run Tryz.prog m4= .ok (tuple #[o4,p4]) q4∧
 ∃r4,o4=int .i64 r4∧
 ∃s4,p4=int .u32 s4∧
 ∀t4,t4=q4.drew→
 ah g2 (fun u4=>
 (0:Int)≤l2∧l2< (h2:Int)∧
 ∃v4 x4 y4,(t4.cell? (u4.add (l2.toNat*1))=some (slice v4 x4 y4)∧True)∧
 ah a (fun z4=>
 ∃a5 b5 c5,t4.cell? ((z4.add 3).add 3)=some (slice a5 b5 c5)∧
 Ar .i64 (c2-1) (fun d5=>
 ah a5 (fun e5=>
 (0:Int)≤d5∧d5< (b5:Int)∧
 ∃f5 g5 h5,t4.cell? (e5.add (d5.toNat*1))=some (slice f5 g5 h5)∧
 ah f5 (fun i5=>
 (0:Int)≤r4∧r4< (g5:Int)∧
 ∃j5 k5 l5,(t4.cell? (i5.add (r4.toNat*1))=some (slice j5 k5 l5)∧True)∧
 CP 157 #[agg #[slice j5 k5 l5],int .u32 s4] t4 (fun m5 n5=>
 ∃o5 p5 q5,m5= .returned (agg #[slice o5 p5 q5])∧
 (n5.cell? (u4.add (l2.toNat*1))=some (slice v4 x4 y4)∧True)∧
 ∀r5,r5=n5.alloc (.cells #[slice o5 p5 q5] 88)→
 (r5.cell? (u4.add (l2.toNat*1))=some (slice v4 x4 y4)∧True)∧
 CP 40 #[agg #[slice v4 x4 y4],slice (some (nb n5)) 1 1] r5 (fun s5 t5=>
 ∃u5 v5 x5,s5= .returned (agg #[slice u5 v5 x5])∧
 ah g2 (fun y5=>
 (0:Int)≤l2∧l2< (h2:Int)∧
 (slice u5 v5 x5).oneCell'=true∧(∃u,t5.cell? (y5.add (l2.toNat*1))=some u)∧t5.frozen? (y5.add (l2.toNat*1))=false∧
 ∀z5,z5=(t5.setCell (y5.add (l2.toNat*1)) (slice u5 v5 x5))→
 r2 [] z5)))))))))
 (Ar .i64 (l2+1) (fun a6=>
 k2 [int .i64 a6] m4))))→r2 [] s2)→
 r2 [] q2))
 (ah a (fun b6=>
 ∃c6 d6 e6,m2.cell? ((b6.add 3).add 3)=some (slice c6 d6 e6)∧
 ∀f6,f6=m2.alloc (.cells #[slice g2 h2 i2] 166)→
 ∃g6 h6 i6 j6,(Builtin.append_ #[168,168] 168 #[slice c6 d6 e6,slice (some (nb m2)) 1 1]).run Tryz.prog f6= .ok (slice g6 h6 i6) j6∧
 ah a (fun k6=>
 (slice g6 h6 i6).oneCell'=true∧(∃u,j6.cell? ((k6.add 3).add 3)=some u)∧j6.frozen? ((k6.add 3).add 3)=false∧
 ∀l6,l6=(j6.setCell ((k6.add 3).add 3) (slice g6 h6 i6))→
 Ar .i64 (c2+1) (fun m6=>
 b2 [int .i64 m6] l6)))))→k2 [int .i64 l2] m2)→
 k2 [int .i64 0] j2)
 (R (tuple #[]) d2)))→b2 [int .i64 c2] d2)→
 b2 [int .i64 1] a2))))→p [int .i64 q] r)→
 p [int .i64 0] o))
theorem Cr (a:OA) (w:World) (R:RW) (hh:Qi a w R):CR 84 #[pointer a] w R:=
 mZ Lz (fn:=Tryz.f84) (by kernel_rfl) (body:=vW Tryz.f84) (by kernel_rfl) (by kernel_rfl) (by kernel_rfl) (Eq.mp (by kernel_rfl) hh)
def P0 (a b:Int) (w:World) (R:RW):Prop:=
 CP 158 #[int .i64 a] w (fun c d=>
 ∃f,c= .returned (bool f)∧
 CP 158 #[int .i64 b] d (fun g h=>
 ∃i,g= .returned (bool i)∧
 ac f
 (ac i
 (R (int .i64 0) h)
 (R (int .i64 (-1)) h))
 (ac i
 (R (int .i64 1) h)
 (ac (decide (a<b))
 (R (int .i64 (-1)) h)
 (ac (decide (a>b))
 (R (int .i64 1) h)
 (R (int .i64 0) h))))))
theorem B_ (a b:Int) (w:World) (R:RW) (hh:P0 a b w R):CR 85 #[int .i64 a,int .i64 b] w R:=
 aD (fn:=Tryz.f85) (by kernel_rfl) (by kernel_rfl) (by kernel_rfl) (by kernel_rfl) (by kernel_rfl) hh
def PJ (a b:Int) (w:World) (R:RW):Prop:=
 CP 159 #[int .u32 a] w (fun c d=>
 ∃f,c= .returned (bool f)∧
 CP 159 #[int .u32 b] d (fun g h=>
 ∃i,g= .returned (bool i)∧
 ac f
 (ac i
 (R (int .i64 0) h)
 (R (int .i64 (-1)) h))
 (ac i
 (R (int .i64 1) h)
 (ac (decide (a<b))
 (R (int .i64 (-1)) h)
 (ac (decide (a>b))
 (R (int .i64 1) h)
 (R (int .i64 0) h))))))
theorem Cz (a b:Int) (w:World) (R:RW) (hh:PJ a b w R):CR 86 #[int .u32 a,int .u32 b] w R:=
 aD (fn:=Tryz.f86) (by kernel_rfl) (by kernel_rfl) (by kernel_rfl) (by kernel_rfl) (by kernel_rfl) hh
def Ps (a:OA) (b c:Nat) (d:Int) (w:World) (R:RW):Prop:=
 ∀f,f=w.alloc (.cells #[slice a b c] 88)→
 ∀g,g=f.alloc (.cells #[slice none 0 0] 88)→
 ac (d==0)
 ((slice none 0 0).oneCell'=true∧(∃u,g.cell? (nb f)=some u)∧g.frozen? (nb f)=false∧
 ∀h,h=(g.setCell (nb f) (slice none 0 0))→
 ∃i j k,(h.cell? (nb f)=some (slice i j k)∧True)∧
 R (tuple #[agg #[slice i j k],int .u32 0]) h)
 (∃l m n,g.cell? ((nb w).add 0)=some (slice l m n)∧
 ∃o p q r,(Instr.makeSlice 86 (int .i64 (m:Int)) (int .i64 (m:Int))).run Tryz.prog g= .ok (slice o p q) r∧
 ∃s t x,r.cell? ((nb w).add 0)=some (slice s t x)∧
 Ar .i64 ((t:Int)-1) (fun y=>
 ∀z:KW,(∀(a1 b1:Int) (c1:World),(ac (decide (a1≥0))
 ((0:Int)≤32∧
 ∃d1 e1 f1,c1.cell? ((nb w).add 0)=some (slice d1 e1 f1)∧
 ah d1 (fun g1=>
 (0:Int)≤a1∧a1< (e1:Int)∧
 ∃h1,c1.cell? (g1.add (a1.toNat*1))=some (int .u32 h1)∧
 (IntKind.wrap .u64 d:Int)≠0∧
 ah o (fun i1=>
 (0:Int)≤a1∧a1< (p:Int)∧
 (int .u32 (IntKind.wrap .u32 (IntKind.wrap .u64 (Int.tdiv (IntKind.wrap .u64 ((BitVec.ofInt (IntKind.bits .u64) (IntKind.wrap .u64 (b1*2^(min (32:Int).toNat (IntKind.bits .u64))))|||BitVec.ofInt (IntKind.bits .u64) (IntKind.wrap .u64 h1)).toNat:Int)) (IntKind.wrap .u64 d))))).oneCell'=true∧(∃u,c1.cell? (i1.add (a1.toNat*1))=some u)∧c1.frozen? (i1.add (a1.toNat*1))=false∧
 ∀j1,j1=(c1.setCell (i1.add (a1.toNat*1)) (int .u32 (IntKind.wrap .u32 (IntKind.wrap .u64 (Int.tdiv (IntKind.wrap .u64 ((BitVec.ofInt (IntKind.bits .u64) (IntKind.wrap .u64 (b1*2^(min (32:Int).toNat (IntKind.bits .u64))))|||BitVec.ofInt (IntKind.bits .u64) (IntKind.wrap .u64 h1)).toNat:Int)) (IntKind.wrap .u64 d))))))→
 (IntKind.wrap .u64 d:Int)≠0∧
 Ar .i64 (a1-1) (fun k1=>
 z [int .i64 k1,int .u64 (Int.tmod (IntKind.wrap .u64 ((BitVec.ofInt (IntKind.bits .u64) (IntKind.wrap .u64 (b1*2^(min (32:Int).toNat (IntKind.bits .u64))))|||BitVec.ofInt (IntKind.bits .u64) (IntKind.wrap .u64 h1)).toNat:Int)) (IntKind.wrap .u64 d))] j1))))
 (CP 93 #[slice o p q] c1 (fun l1 m1=>
 ∃n1 o1 p1,l1= .returned (agg #[slice n1 o1 p1])∧
 (slice n1 o1 p1).oneCell'=true∧(∃u,m1.cell? (nb f)=some u)∧m1.frozen? (nb f)=false∧
 ∀q1,q1=(m1.setCell (nb f) (slice n1 o1 p1))→
 ∃r1 s1 t1,(q1.cell? (nb f)=some (slice r1 s1 t1)∧True)∧
 R (tuple #[agg #[slice r1 s1 t1],int .u32 (IntKind.wrap .u32 b1)]) q1)))→z [int .i64 a1,int .u64 b1] c1)→
 z [int .i64 y,int .u64 0] r))
theorem CD (a:OA) (b c:Nat) (d:Int) (w:World) (R:RW) (hh:Ps a b c d w R):CR 87 #[agg #[slice a b c],int .u32 d] w R:=
 aD (fn:=Tryz.f87) (by kernel_rfl) (by kernel_rfl) (by kernel_rfl) (by kernel_rfl) (by kernel_rfl) hh
def Qa (a:OA) (b c:Nat) (w:World) (R:RW):Prop:=
 Ar .i64 ((b:Int)-1) (fun d=>
 ∀f:KW,(∀(g h:Int) (i:World),(ac (decide (h<g))
 (∀j,j=i.drew→
 ah a (fun k=>
 (0:Int)≤g∧g< (b:Int)∧
 ∃l,j.cell? (k.add (g.toNat*1))=some (int .u8 l)∧
 ah a (fun m=>
 (0:Int)≤h∧h< (b:Int)∧
 ∃n,j.cell? (m.add (h.toNat*1))=some (int .u8 n)∧
 ah a (fun o=>
 (0:Int)≤h∧h< (b:Int)∧
 (int .u8 l).oneCell'=true∧(∃u,j.cell? (o.add (h.toNat*1))=some u)∧j.frozen? (o.add (h.toNat*1))=false∧
 ∀p,p=(j.setCell (o.add (h.toNat*1)) (int .u8 l))→
 ah a (fun q=>
 (0:Int)≤g∧g< (b:Int)∧
 (int .u8 n).oneCell'=true∧(∃u,p.cell? (q.add (g.toNat*1))=some u)∧p.frozen? (q.add (g.toNat*1))=false∧
 ∀r,r=(p.setCell (q.add (g.toNat*1)) (int .u8 n))→
 Ar .i64 (h+1) (fun s=>
 Ar .i64 (g-1) (fun t=>
 f [int .i64 t,int .i64 s] r)))))))
 (R (tuple #[]) i))→f [int .i64 g,int .i64 h] i)→
 f [int .i64 d,int .i64 0] w)
theorem A0 (a:OA) (b c:Nat) (w:World) (R:RW) (hh:Qa a b c w R):CR 88 #[slice a b c] w R:=
 aD (fn:=Tryz.f88) (by kernel_rfl) (by kernel_rfl) (by kernel_rfl) (by kernel_rfl) (by kernel_rfl) hh
def Qo (a:OA) (b c:Nat) (w:World) (R:RW):Prop:=
 ∀d,d=w.alloc (.cells #[slice none 0 0] 88)→
 ∀f:KW,(∀(g:Int) (h:World),(ac (decide (g>0))
 (Ar .i64 (g-1) (fun i=>
 ah a (fun j=>
 (0:Int)≤i∧i< (b:Int)∧
 ∃k,h.cell? (j.add (i.toNat*1))=some (int .u32 k)∧
 ac (k==0)
 (Ar .i64 (g-1) (fun l=>
 f [int .i64 l] h))
 ((0:Int)≤(0:Int)∧(0:Int)≤g∧g≤g∧g≤(c:Int)∧True∧
 (slice (bJ a (0:Int).toNat g.toNat 1) (g.toNat- (0:Int).toNat) (g.toNat- (0:Int).toNat)).oneCell'=true∧(∃u,h.cell? (nb w)=some u)∧h.frozen? (nb w)=false∧
 ∀m,m=(h.setCell (nb w) (slice (bJ a (0:Int).toNat g.toNat 1) (g.toNat- (0:Int).toNat) (g.toNat- (0:Int).toNat)))→
 ∃n o p,(m.cell? (nb w)=some (slice n o p)∧True)∧
 R (agg #[slice n o p]) m))))
 ((0:Int)≤(0:Int)∧(0:Int)≤g∧g≤g∧g≤(c:Int)∧True∧
 (slice (bJ a (0:Int).toNat g.toNat 1) (g.toNat- (0:Int).toNat) (g.toNat- (0:Int).toNat)).oneCell'=true∧(∃u,h.cell? (nb w)=some u)∧h.frozen? (nb w)=false∧
 ∀q,q=(h.setCell (nb w) (slice (bJ a (0:Int).toNat g.toNat 1) (g.toNat- (0:Int).toNat) (g.toNat- (0:Int).toNat)))→
 ∃r s t,(q.cell? (nb w)=some (slice r s t)∧True)∧
 R (agg #[slice r s t]) q))→f [int .i64 g] h)→
 f [int .i64 (b:Int)] d
theorem CA (a:OA) (b c:Nat) (w:World) (R:RW) (hh:Qo a b c w R):CR 93 #[slice a b c] w R:=
 aD (fn:=Tryz.f93) (by kernel_rfl) (by kernel_rfl) (by kernel_rfl) (by kernel_rfl) (by kernel_rfl) hh
def Qr (a:OA) (b c:Nat) (w:World) (R:RW):Prop:=
 ac (Option.isNone a)
 (R (slice none 0 0) w)
 (∀d,d=w.alloc (.cells #[] 153)→
 ∃f g h i,(Builtin.append_ #[86,86] 86 #[slice (some (nb w)) 0 0,slice a b c]).run Tryz.prog d= .ok (slice f g h) i∧
 R (slice f g h) i)
theorem CC (a:OA) (b c:Nat) (w:World) (R:RW) (hh:Qr a b c w R):CR 94 #[slice a b c] w R:=
 aD (fn:=Tryz.f94) (by kernel_rfl) (by kernel_rfl) (by kernel_rfl) (by kernel_rfl) (by kernel_rfl) hh
def Qp (a:OA) (b c:Int) (d:Value) (w:World) (R:RW):Prop:=
 ah a (fun f=>
 ∃g,w.cell? (f.add 1)=some (pointer g)∧
 CP 19 #[pointer g] w (fun h i=>
 ∃j,h= .returned (int .i64 j)∧
 ∀k:KW,(∀(l:Int) (m:Bool) (n:World),(ac (decide (l<j))
 (CP 161 #[pointer a,int .i64 l] n (fun o p=>
 ∃q,o= .returned (int .i64 q)∧
 ah a (fun r=>
 ∃s,p.cell? (r.add 0)=some (pointer s)∧
 CP 39 #[pointer s,int .i64 b,int .i64 q] p (fun t u=>
 ∃x y,t= .returned (tuple #[int .i64 x,bool y])∧
 ac y
 (ah a (fun z=>
 ∃a1,u.cell? (z.add 0)=some (pointer a1)∧
 CP 44 #[pointer a1,int .i64 x] u (fun b1 c1=>
 ∃d1,b1= .returned (bool d1)∧
 ac d1
 (CP 41 #[pointer a,int .i64 x,int .i64 c] c1 (fun e1 f1=>
 ∃g1 h1 i1,e1= .returned (agg #[slice g1 h1 i1])∧
 bE gw d [int .i64 q,int .i64 x,agg #[slice g1 h1 i1]] f1 (fun j1 k1=>
 ∃l1,j1= .returned (bool l1)∧
 ac l1
 (R (bool true) k1)
 (Ar .i64 (l+1) (fun m1=>
 k [int .i64 m1,bool m] k1)))))
 (Ar .i64 (l+1) (fun n1=>
 k [int .i64 n1,bool m] c1)))))
 (Ar .i64 (l+1) (fun o1=>
 k [int .i64 o1,bool m] u))))))
 (R (bool false) n))→k [int .i64 l,bool m] n)→
 k [int .i64 0,bool false] i))
theorem BY (a:OA) (b c:Int) (d:Value) (w:World) (R:RW) (hh:Qp a b c d w R):CR 95 #[pointer a,int .i64 b,int .i64 c,d] w R:=
 aD (fn:=Tryz.f95) (by kernel_rfl) (by kernel_rfl) (by kernel_rfl) (by kernel_rfl) (by kernel_rfl) hh
def PO (a b:Int) (c:OA) (d f:Nat) (g h i:OA) (w:World) (R:RW):Prop:=
 ∀j,j=w.alloc (.cells #[slice c d f] 88)→
 ah g (fun k=>
 ∃l m n,(j.cell? k=some (slice l m n)∧True)∧
 ∃o p q,(j.cell? (nb w)=some (slice o p q)∧True)∧
 CP 97 #[agg #[slice l m n],agg #[slice o p q]] j (fun r s=>
 ∃t x y z,r= .returned (tuple #[agg #[slice t x y],bool z])∧
 ∀a1,a1=s.alloc (.cells #[slice none 0 0] 88)→
 (slice t x y).oneCell'=true∧(∃u,a1.cell? (nb s)=some u)∧a1.frozen? (nb s)=false∧
 ∀b1,b1=(a1.setCell (nb s) (slice t x y))→
 ac (!z)
 (ah h (fun c1=>
 ∃d1 e1 f1,b1.cell? c1=some (slice d1 e1 f1)∧
 ∀g1,g1=b1.alloc (.cells #[int .i64 a] 3)→
 ∃h1 i1 j1 k1,(Builtin.append_ #[28,28] 28 #[slice d1 e1 f1,slice (some (nb b1)) 1 1]).run Tryz.prog g1= .ok (slice h1 i1 j1) k1∧
 ah i (fun l1=>
 (int .i64 b).oneCell'=true∧(∃u,k1.cell? l1=some u)∧k1.frozen? l1=false∧
 ∀m1,m1=(k1.setCell l1 (int .i64 b))→
 ah h (fun n1=>
 (slice h1 i1 j1).oneCell'=true∧(∃u,m1.cell? n1=some u)∧m1.frozen? n1=false∧
 ∀o1,o1=(m1.setCell n1 (slice h1 i1 j1))→
 R (bool true) o1))))
 (∃p1 q1 r1,(b1.cell? (nb s)=some (slice p1 q1 r1)∧True)∧
 ah g (fun s1=>
 (slice p1 q1 r1).oneCell'=true∧(∃u,b1.cell? s1=some u)∧b1.frozen? s1=false∧
 ∀t1,t1=(b1.setCell s1 (slice p1 q1 r1))→
 R (bool false) t1))))
theorem BN (a b:Int) (c:OA) (d f:Nat) (g h i:OA) (w:World) (R:RW) (hh:PO a b c d f g h i w R):CR 96 #[int .i64 a,int .i64 b,agg #[slice c d f],pointer g,pointer h,pointer i] w R:=
 aD (fn:=Tryz.f96) (by kernel_rfl) (by kernel_rfl) (by kernel_rfl) (by kernel_rfl) (by kernel_rfl) hh
def P6 (a:OA) (b c:Nat) (d:OA) (f g:Nat) (w:World) (R:RW):Prop:=
 ∀h,h=w.alloc (.cells #[slice a b c] 88)→
 ∀i,i=h.alloc (.cells #[slice d f g] 88)→
 ∀j,j=i.alloc (.cells #[slice none 0 0] 88)→
 ∃k l m,(j.cell? (nb w)=some (slice k l m)∧True)∧
 ∃n o p,(j.cell? (nb h)=some (slice n o p)∧True)∧
 CP 42 #[agg #[slice k l m],agg #[slice n o p]] j (fun q r=>
 ∃s,q= .returned (int .i64 s)∧
 ac (decide (s<0))
 ((slice none 0 0).oneCell'=true∧(∃u,r.cell? (nb i)=some u)∧r.frozen? (nb i)=false∧
 ∀t,t=(r.setCell (nb i) (slice none 0 0))→
 ∃x y z,(t.cell? (nb i)=some (slice x y z)∧True)∧
 R (tuple #[agg #[slice x y z],bool false]) t)
 (∃a1 b1 c1,r.cell? ((nb w).add 0)=some (slice a1 b1 c1)∧
 ∃d1 e1 f1 g1,(Instr.makeSlice 86 (int .i64 0) (int .i64 (b1:Int))).run Tryz.prog r= .ok (slice d1 e1 f1) g1∧
 ∃h1 i1 j1,g1.cell? ((nb w).add 0)=some (slice h1 i1 j1)∧
 ∀k1:KW,(∀(l1 m1:Int) (n1:OA) (o1 p1:Nat) (q1:World),(ac (decide (l1< (i1:Int)))
 (∀r1,r1=q1.drew→
 ∃s1 t1 u1,r1.cell? ((nb w).add 0)=some (slice s1 t1 u1)∧
 ah s1 (fun v1=>
 (0:Int)≤l1∧l1< (t1:Int)∧
 ∃x1,r1.cell? (v1.add (l1.toNat*1))=some (int .u32 x1)∧
 ∃y1 z1 a2,(r1.cell? (nb h)=some (slice y1 z1 a2)∧True)∧
 CP 153 #[agg #[slice y1 z1 a2],int .i64 l1] r1 (fun b2 c2=>
 ∃d2,b2= .returned (int .u32 d2)∧
 (c2.cell? (v1.add (l1.toNat*1))=some (int .u32 x1)∧True)∧
 (c2.cell? ((nb w).add 0)=some (slice s1 t1 u1)∧True)∧
 Ar .u64 ((IntKind.wrap .u64 x1:Int)- (IntKind.wrap .u64 d2)) (fun e2=>
 Ar .u64 (e2-m1) (fun f2=>
 ∀g2,g2=c2.alloc (.cells #[int .u32 (IntKind.wrap .u32 f2)] 153)→
 ∃h2 i2 j2 k2,(Builtin.append_ #[86,86] 86 #[slice n1 o1 p1,slice (some (nb c2)) 1 1]).run Tryz.prog g2= .ok (slice h2 i2 j2) k2∧
 (0:Int)≤32∧
 Ar .i64 (l1+1) (fun l2=>
 k1 [int .i64 l2,int .u64 (IntKind.wrap .u64 ((BitVec.ofInt (IntKind.bits .u64) (Int.fdiv f2 (2^(min (32:Int).toNat (IntKind.bits .u64))))&&&BitVec.ofInt (IntKind.bits .u64) 1).toNat:Int)),slice h2 i2 j2] k2))))))
 (CP 93 #[slice n1 o1 p1] q1 (fun m2 n2=>
 ∃o2 p2 q2,m2= .returned (agg #[slice o2 p2 q2])∧
 (slice o2 p2 q2).oneCell'=true∧(∃u,n2.cell? (nb i)=some u)∧n2.frozen? (nb i)=false∧
 ∀r2,r2=(n2.setCell (nb i) (slice o2 p2 q2))→
 ∃s2 t2 u2,(r2.cell? (nb i)=some (slice s2 t2 u2)∧True)∧
 R (tuple #[agg #[slice s2 t2 u2],bool true]) r2)))→k1 [int .i64 l1,int .u64 m1,slice n1 o1 p1] q1)→
 k1 [int .i64 0,int .u64 0,slice d1 e1 f1] g1))
theorem B3 (a:OA) (b c:Nat) (d:OA) (f g:Nat) (w:World) (R:RW) (hh:P6 a b c d f g w R):CR 97 #[agg #[slice a b c],agg #[slice d f g]] w R:=
 aD (fn:=Tryz.f97) (by kernel_rfl) (by kernel_rfl) (by kernel_rfl) (by kernel_rfl) (by kernel_rfl) hh
def Pt (a b:Int) (c:OA) (d f:Nat) (g h i:OA) (w:World) (R:RW):Prop:=
 ∀j,j=w.alloc (.cells #[slice c d f] 88)→
 ah g (fun k=>
 ∃l,j.cell? k=some (int .i64 l)∧
 ac (a==l)
 (ah h (fun m=>
 (int .i64 b).oneCell'=true∧(∃u,j.cell? m=some u)∧j.frozen? m=false∧
 ∀n,n=(j.setCell m (int .i64 b))→
 R (bool true) n))
 (ah i (fun o=>
 ∃p q r,(j.cell? o=some (slice p q r)∧True)∧
 ∃s t x,(j.cell? (nb w)=some (slice s t x)∧True)∧
 ∀y,y=j.alloc (.cells #[slice s t x] 88)→
 CP 40 #[agg #[slice p q r],slice (some (nb j)) 1 1] y (fun z a1=>
 ∃b1 c1 d1,z= .returned (agg #[slice b1 c1 d1])∧
 ah i (fun e1=>
 (slice b1 c1 d1).oneCell'=true∧(∃u,a1.cell? e1=some u)∧a1.frozen? e1=false∧
 ∀f1,f1=(a1.setCell e1 (slice b1 c1 d1))→
 R (bool false) f1)))))
theorem Ci (a b:Int) (c:OA) (d f:Nat) (g h i:OA) (w:World) (R:RW) (hh:Pt a b c d f g h i w R):CR 99 #[int .i64 a,int .i64 b,agg #[slice c d f],pointer g,pointer h,pointer i] w R:=
 aD (fn:=Tryz.f99) (by kernel_rfl) (by kernel_rfl) (by kernel_rfl) (by kernel_rfl) (by kernel_rfl) hh
def My (a:OA) (b c:Nat) (d:Int) (w:World) (R:RW):Prop:=
 ∀f,f=w.alloc (.cells #[slice a b c] 88)→
 ∃g h i,f.cell? ((nb w).add 0)=some (slice g h i)∧
 ac (decide (d≥(h:Int)))
 (R (int .u32 0) f)
 (∃j k l,f.cell? ((nb w).add 0)=some (slice j k l)∧
 ah j (fun m=>
 (0:Int)≤d∧d< (k:Int)∧
 ∃n,f.cell? (m.add (d.toNat*1))=some (int .u32 n)∧
 R (int .u32 n) f))
theorem AX (a:OA) (b c:Nat) (d:Int) (w:World) (R:RW) (hh:My a b c d w R):CR 153 #[agg #[slice a b c],int .i64 d] w R:=
 aD (fn:=Tryz.f153) (by kernel_rfl) (by kernel_rfl) (by kernel_rfl) (by kernel_rfl) (by kernel_rfl) hh
def M2 (a:OA) (b:Int) (w:World) (R:RW):Prop:=
 ∃c d,(Instr.makeMap 253 none).run Tryz.prog w= .ok (map c) d∧
 ah a (fun f=>
 ∃g,d.cell? (f.add 1)=some (pointer g)∧
 CP 19 #[pointer g] d (fun h i=>
 ∃j,h= .returned (int .i64 j)∧
 ∀k:KW,(∀(l:Int) (m:World),(ac (decide (l<j))
 (∀n:KW,(∀o:World,(Ar .i64 (l+1) (fun p=>
 k [int .i64 p] o))→n [] o)→
 ∀q,q=m.drew→
 ah a (fun r=>
 ∃s,q.cell? (r.add 0)=some (pointer s)∧
 CP 161 #[pointer a,int .i64 l] q (fun t u=>
 ∃x,t= .returned (int .i64 x)∧
 (u.cell? (r.add 0)=some (pointer s)∧True)∧
 CP 39 #[pointer s,int .i64 b,int .i64 x] u (fun y z=>
 ∃a1 b1,y= .returned (tuple #[int .i64 a1,bool b1])∧
 ac b1
 (ah a (fun c1=>
 ∃d1,z.cell? (c1.add 0)=some (pointer d1)∧
 CP 44 #[pointer d1,int .i64 a1] z (fun e1 f1=>
 ∃g1,e1= .returned (bool g1)∧
 ac g1
 (∃h1 i1,(Instr.lookup 253 (map c) (int .i64 a1) false).run Tryz.prog f1= .ok (int .u32 h1) i1∧
 Ar .u32 (h1+1) (fun j1=>
 ∃k1,(Instr.mapUpdate 253 (map c) (int .i64 a1) (int .u32 j1)).run Tryz.prog i1= .ok () k1∧
 n [] k1))
 (n [] f1))))
 (n [] z)))))
 (R (map c) m))→k [int .i64 l] m)→
 k [int .i64 0] i))
theorem wm (a:OA) (b:Int) (w:World) (R:RW) (hh:M2 a b w R):CR 156 #[pointer a,int .i64 b] w R:=
 aD (fn:=Tryz.f156) (by kernel_rfl) (by kernel_rfl) (by kernel_rfl) (by kernel_rfl) (by kernel_rfl) hh
def L7 (a:OA) (b c:Nat) (d:Int) (w:World) (R:RW):Prop:=
 ∀f,f=w.alloc (.cells #[slice a b c] 88)→
 ∀g,g=f.alloc (.cells #[slice none 0 0] 88)→
 ∃h i j,g.cell? ((nb w).add 0)=some (slice h i j)∧
 Ar .i64 ((i:Int)+1) (fun k=>
 ∃l m n o,(Instr.makeSlice 86 (int .i64 0) (int .i64 k)).run Tryz.prog g= .ok (slice l m n) o∧
 ∃p q r,o.cell? ((nb w).add 0)=some (slice p q r)∧
 ∀s:KW,(∀(t x:Int) (y:OA) (z a1:Nat) (b1:World),(ac (decide (t< (q:Int)))
 (ah p (fun c1=>
 (0:Int)≤t∧t< (q:Int)∧
 ∃d1,b1.cell? (c1.add (t.toNat*1))=some (int .u32 d1)∧
 Ar .u64 ((IntKind.wrap .u64 d1:Int)*(IntKind.wrap .u64 d)) (fun e1=>
 Ar .u64 (e1+x) (fun f1=>
 ∀g1,g1=b1.alloc (.cells #[int .u32 (IntKind.wrap .u32 f1)] 153)→
 ∃h1 i1 j1 k1,(Builtin.append_ #[86,86] 86 #[slice y z a1,slice (some (nb b1)) 1 1]).run Tryz.prog g1= .ok (slice h1 i1 j1) k1∧
 (0:Int)≤32∧
 Ar .i64 (t+1) (fun l1=>
 s [int .i64 l1,int .u64 (Int.fdiv f1 (2^(min (32:Int).toNat (IntKind.bits .u64)))),slice h1 i1 j1] k1)))))
 (∀m1,m1=b1.alloc (.cells #[int .u32 (IntKind.wrap .u32 x)] 153)→
 ∃n1 o1 p1 q1,(Builtin.append_ #[86,86] 86 #[slice y z a1,slice (some (nb b1)) 1 1]).run Tryz.prog m1= .ok (slice n1 o1 p1) q1∧
 CP 93 #[slice n1 o1 p1] q1 (fun r1 s1=>
 ∃t1 u1 v1,r1= .returned (agg #[slice t1 u1 v1])∧
 (slice t1 u1 v1).oneCell'=true∧(∃u,s1.cell? (nb f)=some u)∧s1.frozen? (nb f)=false∧
 ∀x1,x1=(s1.setCell (nb f) (slice t1 u1 v1))→
 ∃y1 z1 a2,(x1.cell? (nb f)=some (slice y1 z1 a2)∧True)∧
 R (agg #[slice y1 z1 a2]) x1)))→s [int .i64 t,int .u64 x,slice y z a1] b1)→
 s [int .i64 0,int .u64 0,slice l m n] o)
theorem yC (a:OA) (b c:Nat) (d:Int) (w:World) (R:RW) (hh:L7 a b c d w R):CR 157 #[agg #[slice a b c],int .u32 d] w R:=
 aD (fn:=Tryz.f157) (by kernel_rfl) (by kernel_rfl) (by kernel_rfl) (by kernel_rfl) (by kernel_rfl) hh
def Me (a:Int) (w:World) (R:RW):Prop:=
 R (bool (a != a)) w
theorem Az (a:Int) (w:World) (R:RW) (hh:Me a w R):CR 159 #[int .u32 a] w R:=
 aD (fn:=Tryz.f159) (by kernel_rfl) (by kernel_rfl) (by kernel_rfl) (by kernel_rfl) (by kernel_rfl) hh
def Mc (a:OA) (b:Int) (w:World) (R:RW):Prop:=
 ah a (fun c=>
 ∃d,w.cell? (c.add 1)=some (pointer d)∧
 CP 38 #[pointer d,int .i64 b] w (fun f g=>
 ∃h i,f= .returned (tuple #[int .i64 h,bool i])∧
 R (int .i64 h) g))
theorem xx (a:OA) (b:Int) (w:World) (R:RW) (hh:Mc a b w R):CR 161 #[pointer a,int .i64 b] w R:=
 aD (fn:=Tryz.f161) (by kernel_rfl) (by kernel_rfl) (by kernel_rfl) (by kernel_rfl) (by kernel_rfl) hh
def d' (b n:Nat):List Int:=if h:2≤b∧n≠0 then((n%b:Nat):Int)::d' b (n/b)else []
termination_by n
decreasing_by exact Nat.div_lt_self (by omega) (by omega)
def cG (b:Nat):List Int→Nat
 | []=>0
 |x::r=>x.toNat+b*cG b r
def th (b:Nat) (l:List Int):Prop:=∀x∈l,0≤x∧x< (b:Int)
section
variable {b:Nat}
theorem eC:d' b 0= []:=by unfold d';simp
theorem lj (hb:2≤b) {n:Nat} (h:n≠0):d' b n=((n%b:Nat):Int)::d' b (n/b):=by
 rw [d',dif_pos ⟨hb,h⟩]
theorem Gq (hb:2≤b) (n:Nat):cG b (d' b n)=n:=by
 induction n using Nat.strongRecOn with
 |ind n ih=>
  by_cases h:n=0
  ·subst h;rw [eC];rfl
  ·rw [lj hb h];show(((n%b:Nat):Int)).toNat+b*cG b (d' b (n/b))=n;rw [ih _ (Nat.div_lt_self (by omega) (by omega)),Int.toNat_natCast];exact Nat.mod_add_div n b
theorem FJ (hb:2≤b) (n i:Nat):(d' b n)[i]? =if b^i≤n then some ((n/b^i%b:Nat):Int)else none:=by
 induction i generalizing n with
 |zero=>
  by_cases h:n=0
  ·subst h;rw [eC];simp
  ·rw [lj hb h,if_pos (by simp;omega)];simp
 |succ i ih=>
  by_cases h:n=0
  ·subst h;rw [eC,if_neg (by have:=Nat.pow_pos (a:=b) (n:=i+1) (by omega);omega)];simp
  ·rw [lj hb h,List.getElem?_cons_succ,ih];have e:b^i≤n/b↔b^(i+1)≤n:=by
    rw [Nat.le_div_iff_mul_le (by omega),Nat.pow_succ]
   rw [Nat.div_div_eq_div_mul,Nat.mul_comm b, ←Nat.pow_succ];simp only [e]
theorem gJ (hb:2≤b) (n i:Nat):i< (d' b n).length↔b^i≤n:=by
 have h:=FJ hb n i;by_cases hi:b^i≤n
 ·rw [if_pos hi]at h;exact iff_of_true (List.getElem?_eq_some_iff.1 h).1 hi
 ·rw [if_neg hi]at h;exact iff_of_false (by have:=List.getElem?_eq_none_iff.1 h;omega) hi
theorem jN (hb:2≤b) {n i:Nat} (h:i< (d' b n).length):(d' b n)[i]=((n/b^i%b:Nat):Int):=by
 have e:=FJ hb n i;rw [if_pos ((gJ hb n i).1 h),List.getElem?_eq_getElem h]at e;exact Option.some.inj e
theorem iw (hb:2≤b) {n i:Nat} (h:(d' b n).length≤i):n/b^i=0∧n%b^i=n:=by
 have:n<b^i:=Nat.lt_of_not_le fun hh=>by
  have:=(gJ hb n i).2 hh;omega
 exact⟨Nat.div_eq_of_lt this,Nat.mod_eq_of_lt this⟩
theorem Jl (hb:2≤b) {n:Nat}:d' b n= []↔n=0:=by
 constructor
 ·intro h;have:=Gq hb n;rw [h]at this;exact this.symm
 ·rintro rfl;exact eC
theorem DN (hb:2≤b):∀l:List Int,th b l→(∀x,l.getLast?=some x→x≠0)→d' b (cG b l)=l
 | [],_,_=>eC
 |x::r,hr,hl=>by
  have hx:=hr x (by simp);have ih:d' b (cG b r)=r:=DN hb r (fun y hy=>hr y (by simp [hy])) fun y hy=>by
   cases r with
   |nil=>cases hy
   |cons z r=>exact hl y (by rw [List.getLast?_cons_cons];exact hy)
  have hne:x.toNat+b*cG b r≠0:=by
   intro h0;have h1:x=0:=by omega
   have h2:b*cG b r=0:=by omega
   have h3:cG b r=0:=by
    rcases Nat.mul_eq_zero.1 h2 with h |h
    ·omega
    ·exact h
   rw [h3,eC]at ih;rw [←ih]at hl;exact hl x rfl h1
  show d' b (x.toNat+b*cG b r)=x::r;rw [lj hb hne,Nat.add_mul_mod_self_left,Nat.mod_eq_of_lt (by omega),Nat.add_mul_div_left _ _ (by omega),Nat.div_eq_of_lt (by omega),Nat.zero_add,ih];congr 1;omega
theorem fr (l r:List Int):cG b (l++r)=cG b l+b^l.length*cG b r:=by
 induction l with
 |nil=>simp [cG]
 |cons x l ih=>
  rw [List.cons_append];show x.toNat+b*cG b (l++r)=x.toNat+b*cG b l+b^(l.length+1)*cG b r;rw [ih,Nat.mul_add,Nat.pow_succ,Nat.mul_comm (b^l.length) b,Nat.mul_assoc];omega
theorem kM (x:Nat):cG b [(x:Int)]=x:=by simp [cG]
theorem sU:∀l:List Int,(∀x∈l,x=0)→cG b l=0
 | [],_=>rfl
 |x::r,h=>by
  show x.toNat+b*cG b r=0;rw [h x (by simp),sU r fun y hy=>h y (by simp [hy])];simp
theorem ni (hb:2≤b) {m n:Nat} (h:m≤n):(d' b m).length≤(d' b n).length:=by
 refine Nat.le_of_not_lt fun hlt=>?_;have:=(gJ hb m _).1 hlt;have:=(gJ hb n (d' b n).length).2 (by omega);omega
theorem Fx (hb:2≤b) {l:List Int} (hr:th b l) {k:Nat} (hk:k≤l.length) (h0:∀(j:Nat) (hj:j<l.length),k≤j→l[j]=0) (h1:∀(hk:k-1<l.length),0<k→l[k-1]≠0):l.take k=d' b (cG b l):=by
 have e:cG b l=cG b (l.take k):=by
  conv=>lhs;rw [←List.take_append_drop k l]
  rw [fr,sU (l.drop k),Nat.mul_zero,Nat.add_zero];intro x hx;obtain⟨j,hj,rfl⟩:=List.getElem_of_mem hx;rw [List.getElem_drop];rw [List.length_drop]at hj;exact h0 _ (by omega) (by omega)
 rw [e,DN hb]
 ·intro x hx;exact hr x (List.mem_of_mem_take hx)
 ·intro x hx;rw [List.getLast?_eq_getElem?,List.length_take,Nat.min_eq_left hk,List.getElem?_take]at hx;split at hx
  ·rename_i hlt;rw [List.getElem?_eq_getElem (by omega)]at hx;cases hx;exact h1 (by omega) (by omega)
  ·cases hx
theorem kG {l:List Int} (h:th b l) {x:Nat} (hx:x<b):th b (l++ [(x:Int)]):=by
 intro y hy;rcases List.mem_append.1 hy with hy |hy
 ·exact h y hy
 ·rw [List.mem_singleton.1 hy];omega
theorem DG {l:List Int} (h:th b l):cG b l<b^l.length:=by
 induction l with
 |nil=>exact Nat.one_pos
 |cons x r ih=>
  have hx:=h x (by simp);have hr:=ih fun y hy=>h y (by simp [hy]);show x.toNat+b*cG b r<b^(r.length+1);rw [Nat.pow_succ,Nat.mul_comm (b^r.length) b];have:b*cG b r+b≤b*b^r.length:=by
   rw [←Nat.mul_succ];exact Nat.mul_le_mul_left _ hr
  omega
theorem FW {L:List Int} {i x y c:Nat} (hL:L.length=i) (hI:cG b L+c*b^i=x%b^i+y%b^i) {s:Nat} (hs:s=x/b^i%b+y/b^i%b+c):cG b (L++ [((s%b:Nat):Int)])+s/b*b^(i+1)=x%b^(i+1)+y%b^(i+1):=by
 rw [fr,kM,hL,Nat.mod_pow_succ,Nat.mod_pow_succ];have e:s=s%b+b*(s/b):=(Nat.mod_add_div s b).symm;have e2:b^i*(s%b)+s/b*b^(i+1)=b^i*s:=by
  conv=>rhs;rw [e]
  rw [Nat.mul_add,Nat.pow_succ,Nat.mul_comm (s/b),Nat.mul_assoc]
 have e3:b^i*s=b^i*(x/b^i%b)+b^i*(y/b^i%b)+c*b^i:=by
  rw [hs,Nat.mul_add,Nat.mul_add,Nat.mul_comm (b^i) c]
 omega
theorem BZ {L:List Int} {i x n c:Nat} (hL:L.length=i) (hI:cG b L+c*b^i=x%b^i*n) {s:Nat} (hs:s=x/b^i%b*n+c):cG b (L++ [((s%b:Nat):Int)])+s/b*b^(i+1)=x%b^(i+1)*n:=by
 rw [fr,kM,hL,Nat.mod_pow_succ];have e:s=s%b+b*(s/b):=(Nat.mod_add_div s b).symm;have e2:b^i*(s%b)+s/b*b^(i+1)=b^i*s:=by
  conv=>rhs;rw [e]
  rw [Nat.mul_add,Nat.pow_succ,Nat.mul_comm (s/b),Nat.mul_assoc]
 have e3:b^i*s=b^i*(x/b^i%b)*n+c*b^i:=by
  rw [hs,Nat.mul_add,Nat.mul_comm (b^i) c,Nat.mul_assoc]
 rw [Nat.add_mul];omega
theorem Gi {L:List Int} {i x y o:Nat} (hL:L.length=i) (hI:cG b L+y%b^i=x%b^i+o*b^i) {d o':Nat} (hd:d+(y/b^i%b+o)=x/b^i%b+o'*b):cG b (L++ [(d:Int)])+y%b^(i+1)=x%b^(i+1)+o'*b^(i+1):=by
 rw [fr,kM,hL,Nat.mod_pow_succ,Nat.mod_pow_succ];have e:=congrArg (fun t=>b^i*t) hd;simp only [Nat.mul_add]at e;have e2:b^i*(o'*b)=o'*b^(i+1):=by rw [Nat.pow_succ, ←Nat.mul_assoc,Nat.mul_comm (b^i) o',Nat.mul_assoc]
 have e3:b^i*o=o*b^i:=Nat.mul_comm _ _;omega
theorem vH (x i:Nat):x/b^i=b*(x/b^(i+1))+x/b^i%b:=by
 rw [Nat.pow_succ, ←Nat.div_div_eq_div_mul];exact(Nat.div_add_mod (x/b^i) b).symm
theorem Ek (hb:2≤b) {x n i rest q:Nat} (hn:0<n) (hI:q*n+rest=x/b^(i+1)) (hr:rest<n) {s:Nat} (hs:s=rest*b+x/b^i%b):(b*q+s/n)*n+s%n=x/b^i∧s%n<n∧s/n<b:=by
 refine⟨?_,Nat.mod_lt _ hn,?_⟩
 ·rw [vH x i, ←hI,Nat.add_mul,Nat.add_assoc,Nat.mul_comm (s/n) n,Nat.div_add_mod,hs,Nat.mul_add,Nat.mul_assoc,Nat.mul_comm rest b];omega
 ·rw [Nat.div_lt_iff_lt_mul hn,hs];have h1:=Nat.mod_lt (x/b^i) (show 0<b by omega);have h2:rest*b+b≤n*b:=by
   rw [←Nat.succ_mul];exact Nat.mul_le_mul_right _ hr
  rw [Nat.mul_comm b n];omega
theorem AA {x y i:Nat} (hI:x/b^(i+1)=y/b^(i+1)):(x/b^i%b<y/b^i%b→x<y)∧(x/b^i%b=y/b^i%b→x/b^i=y/b^i):=by
 have ex:=vH (b:=b) x i;have ey:=vH (b:=b) y i;rw [hI]at ex;refine⟨fun h=>?_,fun h=>by omega⟩;have h1:x/b^i<y/b^i:=by omega
 refine Nat.lt_of_not_le fun h2=>?_;have:=Nat.div_le_div_right (c:=b^i) h2;omega
theorem D0 (hb:2≤b) {x y:Nat} (h:(d' b x).length< (d' b y).length):x<y:=by
 have h1:=(gJ hb y _).1 h;have h2:¬b^(d' b x).length≤x:=fun hh=>by
  have:=(gJ hb x _).2 hh;omega
 omega
end
abbrev bZ:TypeId:=88
abbrev dw:TypeId:=153
abbrev pS:TypeId:=86
theorem ox:Tryz.prog.underlying pS=some (.slice dw):=by kernel_rfl
theorem qS:(Tryz.prog.info? dw).map (fun i=>(i.zero,i.size,i.bytes))=some (some (.int .u32 0),1,4):=by kernel_rfl
def cR (n:Int):List Value:=[.int .u32 n]
theorem lB:xT cR 1 pS dw 4:=⟨fun _=>rfl,by decide,fun x u hu=>by rw [List.mem_singleton.1 hu];rfl,ox,_,qS,rfl⟩
theorem dN:2≤4294967296:=by decide
def t_ (e:TypeId) (w:World) (l:Sl):Prop:=∀p,l.a=some p→∃c fz,w.heap[p.block]? =some (.cells c e fz)
theorem t_.on {e:TypeId} {w w':World} {l:Sl} (h:t_ e w l) (hb:Below w.heap.size w w'):t_ e w' l:=fun p hp=>by
 obtain⟨c,fz,hc⟩:=h p hp;exact⟨c,fz,ag hb hc⟩
theorem g_ {w:World} {B:Nat} {e:TypeId} {sz:Nat} {l:Sl} {xs:List Value} (h:w.ownsRow B e sz l.v l.n xs):t_ e w l:=by
 intro p hp;obtain⟨la,ln,lc⟩:=l;rcases h.2 with⟨hv,_⟩ |⟨g,cap,cur,hv,_,hg,_⟩
 ·cases hv;cases hp
 ·cases hv;cases hp;exact⟨_,_,hg⟩
structure ba (w:World) (l:Sl) (n:Nat):Prop extends LsAt cR 1 w l (d' 4294967296 n)where
 ty:t_ dw w l
theorem ba.on {w w':World} {l:Sl} {n:Nat} (h:ba w l n) (hb:Below w.heap.size w w'):ba w' l n:=⟨LsAt.on h.toLsAt hb,h.ty.on hb⟩
theorem ba.keep {w w':World} {l:Sl} {n:Nat} (h:ba w l n) (hk:∀p c fz,l.a=some p→w.heap[p.block]? =some (.cells c dw fz)→w'.heap[p.block]? =w.heap[p.block]?) (hz:w.heap.size≤w'.heap.size):ba w' l n:=by
 refine⟨⟨h.n,fun j x hj=>?_,h.k⟩,fun p hp=>?_⟩
 ·obtain⟨p,hp,hlt,hc⟩:=h.r j x hj;obtain⟨c,fz,hb⟩:=h.ty p hp;refine⟨p,hp,Nat.lt_of_lt_of_le hlt hz,fun k v hv=>?_⟩;rw [←hc k v hv];unfold World.cell?;rw [ay,ay,hk p c fz hp hb]
 ·obtain⟨c,fz,hb⟩:=h.ty p hp;exact⟨c,fz,(hk p c fz hp hb).trans hb⟩
theorem ba.put {w w':World} {l s:Sl} {n b:Nat} {T:TypeId} {fz:Nat×Nat} (h:ba w l n) (hb:w.heap[b]? =some (.cells #[s.v] T fz)) (hT:T≠dw) (hne:∀j,j≠b→w'.heap[j]? =w.heap[j]?) (hz:w.heap.size≤w'.heap.size):ba w' l n:=
 h.keep (fun p c fz _ hc=>hne _ fun e=>by
  rw [e,hb]at hc;cases hc;exact hT rfl) hz
theorem ce {q:World} {b:Nat} {x s:Sl} {K:World→Prop} (h:q.heap[b]? =some (.cells #[x.v] bZ (0,0))) (hk:∀q',q'.heap[b]? =some (.cells #[s.v] bZ (0,0))→(∀l n,ba q l n→ba q' l n)→(∀B w0,B≤b→Below B w0 q→Below B w0 q')→(∀j,j≠b→q'.heap[j]? =q.heap[j]?)→q'.heap.size=q.heap.size→K q'):
  s.v.oneCell'=true∧(∃u,q.cell? ⟨b,0,none⟩=some u)∧q.frozen? ⟨b,0,none⟩=false∧∀q',q'=q.setCell ⟨b,0,none⟩ s.v→K q':=
 dU (aW h [s.v] rfl (fun v hv=>by rw [List.mem_singleton.1 hv];rfl) fun q' h1 h2 h3 h4=>hk q' h1 (fun l n hn=>hn.put h (by decide) h2 (by omega)) h4 h2 h3)
theorem aJ {w:World} {b:Nat} {x:Sl} {T:TypeId} {fz:Nat×Nat} (h:w.heap[b]? =some (.cells #[x.v] T fz)):w.cell? ⟨b,0,none⟩=some (.slice x.a x.n x.c)∧True:=⟨aN h,trivial⟩
theorem cn {w:World} {b:Nat} {x:Sl} {T:TypeId} {fz:Nat×Nat} (h:w.heap[b]? =some (.cells #[x.v] T fz)):w.cell? ((⟨b,0,none⟩:Addr).add 0)=some (.slice x.a x.n x.c):=by rw [aj _ _ h];rfl
theorem Rw.head {α:Type} {enc:α→List Value} {sz:Nat} {w:World} {a:Option Addr} {xs:List α} (h:Rw enc sz w a xs) (n:Nat):Rw enc sz w (bJ a 0 n sz) (xs.take n):=by
 intro j x hj;have hlt:j<n:=by
  have:=(List.getElem?_eq_some_iff.1 hj).1;rw [List.length_take]at this;omega
 obtain⟨p,rfl,hp,hc⟩:=h.take n j x hj;unfold bJ;rw [if_neg (by omega)];refine⟨p.add (0*sz),rfl,by rw [ay];exact hp,fun k v hk=>?_⟩;rw [Addr.add_add p,Nat.zero_mul,Nat.zero_add];exact hc k v hk
theorem Ar.u64 {z:Int} {F:Int→Prop} (n:Nat) (hz:z=(n:Int)) (hn:n<18446744073709551616) (h:F (n:Int)):Ar .u64 z F:=by
 subst hz;exact Ar.ok (k:=.u64) (by show(0:Int)≤_;omega) (by show _≤(18446744073709551615:Int);omega) h
theorem dH (x:Nat):IntKind.wrap .u32 (x:Int)=((x%4294967296:Nat):Int):=by
 simp [IntKind.wrap,IntKind.bits,IntKind.signed]
theorem dg {x:Nat} (h:x<18446744073709551616):IntKind.wrap .u64 (x:Int)=(x:Int):=dc (by show(0:Int)≤_;omega) (by show _≤(18446744073709551615:Int);omega)
theorem F5 (x:Nat):Int.fdiv (x:Int) (2^(min (32:Int).toNat (IntKind.bits .u64)))=((x/4294967296:Nat):Int):=by
 rw [show(2:Int)^(min (32:Int).toNat (IntKind.bits .u64))=((4294967296:Nat):Int) by decide,Int.fdiv_eq_ediv_of_nonneg _ (by omega)];rfl
theorem mq (w:World) (c:Nat) (hc:c≤1000000):∃w1,(Instr.makeSlice pS (.int .i64 0) (.int .i64 (c:Int))).run Tryz.prog w= .ok (.slice (some (nb w)) 0 c) w1∧w1.ownsRow w.heap.size dw 1 (.slice (some (nb w)) 0 c) 0 (([]:List Int).flatMap cR)∧Below w.heap.size w w1:=by
 obtain⟨i,hi,hz,hs,hb⟩:=info_parts qS;have:=Go.run_make (P:=Tryz.prog) w pS dw i (.int .u32 0) ox hi hz .i64 .i64 0 (c:Int) (by omega) (by omega) (by rw [hb];omega) (by omega);refine⟨_,this,?_,af _ _⟩;refine⟨rfl,.inr ⟨w.heap.size,c,_,rfl,Nat.le_refl _,ak _ _,Nat.zero_le _,by unfold maxLen;omega,?_,by simp⟩⟩;rw [size_madeCells,hs];simp
theorem eJ (w:World) (l:Sl) (xs:List Int) (h:LsAt cR 1 w l xs) (ht:t_ dw w l) (hc:l.n≤l.c) (hr:th 4294967296 xs) (hl:xs.length≤1000000):
  CP 93 #[l.v] w fun e w'=>∃r:Sl,e= .returned (.agg #[r.v])∧ba w' r (cG 4294967296 xs)∧Below w.heap.size w w':=by
 refine aO (CA l.a l.n l.c w) ?_;intro w1 hw1;have b1:Below w.heap.size w w1:=by subst hw1;exact af _ _
 have x1:w1.heap[w.heap.size]? =some (.cells #[bS.v] bZ (0,0)):=by subst hw1;exact ak _ _
 have h1:=LsAt.on h b1;have hn:=h.n;have out:∀n,n≤xs.length→(∀(j:Nat) (hj:j<xs.length),n≤j→xs[j]=0)→(∀(hk:n-1<xs.length),0<n→xs[n-1]≠0)→ba w1 ⟨bJ l.a 0 n 1,n-0,n-0⟩ (cG 4294967296 xs):=by
  intro n hn h0 h2;have e:=Fx dN hr hn h0 h2;refine⟨?_,fun p hp=>?_⟩;rotate_left
  ·unfold bJ at hp;by_cases hz:n=0
   ·rw [if_pos hz]at hp;exact ht.on b1 p hp
   ·rw [if_neg hz]at hp;obtain⟨p',hp',rfl⟩:=Option.map_eq_some_iff.1 hp;rw [ay];exact ht.on b1 p' hp'
  rw [←e];refine⟨by rw [List.length_take];show n-0=_;omega,h1.r.head n,?_⟩;unfold bJ;by_cases hz:n=0
  ·subst hz;rw [if_pos rfl];cases l.a with
   |none=>exact .inl rfl
   |some p=>exact .inr ⟨p,rfl⟩
  ·rw [if_neg hz];obtain⟨p,hp,_⟩:=aS h1.r (show 0<xs.length by omega) rfl;rw [hp];exact .inr ⟨_,rfl⟩
 intro I hI;have key:∀n,n≤xs.length→(∀(j:Nat) (hj:j<xs.length),n≤j→xs[j]=0)→I [.int .i64 (n:Int)] w1:=by
  intro n;induction n with
  |zero=>
   intro _ h0;refine hI _ w1 (ac.no rfl ⟨by omega,by omega,by omega,by omega,trivial,ce (s:=⟨bJ l.a 0 0 1,0-0,0-0⟩) x1 fun q' hx hN hB _ _=>⟨_,_,_,aJ hx,⟨bJ l.a 0 0 1,0-0,0-0⟩,rfl,hN _ _ (out 0 (Nat.zero_le _) h0 (fun _ h=>absurd h (by decide))),hB _ _ (Nat.le_refl _) b1⟩⟩)
  |succ n ih=>
   intro hle h0;obtain⟨p,hp,c0⟩:=aS h1.r (show n<xs.length by omega) rfl;refine hI _ w1 (ac.yes (decide_eq_true (by omega)) (Ar.nat n (by omega) (by omega) (ah.mk p hp ⟨by omega,by omega,_,c0,ac.mk (fun he=>?_) fun he=>?_⟩)))
   ·have he:xs[n]=0:=by simpa using he
    refine Ar.nat n (by omega) (by omega) (ih (by omega) fun j hj hle2=>?_);by_cases e:j=n
    ·subst e;exact he
    ·exact h0 j hj (by omega)
   ·have he:xs[n]≠0:=by simpa using he
    exact⟨by omega,by omega,by omega,by omega,trivial,ce (s:=⟨bJ l.a 0 (n+1) 1,n+1-0,n+1-0⟩) x1 fun q' hx hN hB _ _=>⟨_,_,_,aJ hx,⟨bJ l.a 0 (n+1) 1,n+1-0,n+1-0⟩,rfl,hN _ _ (out (n+1) hle h0 (fun _ _=>he)),hB _ _ (Nat.le_refl _) b1⟩⟩
 rw [hn];exact key xs.length (Nat.le_refl _) fun j hj hle=>absurd hj (by omega)
theorem xL (w:World) (n:Nat) (hn:n<18446744073709551616):
  CP 53 #[.int .u64 (n:Int)] w fun e w'=>∃r:Sl,e= .returned (.agg #[r.v])∧ba w' r n∧Below w.heap.size w w':=by
 refine aO (Cf (n:Int) w) ?_;intro w1 hw1;have b1:Below w.heap.size w w1:=by subst hw1;exact af _ _
 have x1:w1.heap[w.heap.size]? =some (.cells #[bS.v] bZ (0,0)):=by subst hw1;exact ak _ _
 refine⟨by decide,?_⟩;intro w2 hw2;rw [F5,dH,dH]at hw2;have b2:Below w1.heap.size w1 w2:=by subst hw2;exact af _ _
 have l2:w2.heap[w1.heap.size]? =some (.cells #[.int .u32 ((n%4294967296:Nat):Int),.int .u32 ((n/4294967296%4294967296:Nat):Int)] dw (0,0)):=by subst hw2;exact ak _ _
 have hls:LsAt cR 1 w2 ⟨some (nb w1),2,2⟩ [((n%4294967296:Nat):Int),((n/4294967296%4294967296:Nat):Int)]:=by
  refine⟨rfl,fun j x hj=>?_,.inr ⟨_,rfl⟩⟩;refine⟨nb w1,rfl,(Array.getElem?_eq_some_iff.1 l2).1,fun k v hk=>?_⟩
  match k,hk with
  |0,hk=>
   cases hk;rw [ax,Nat.mul_one,aj _ _ l2]
   match j,hj with
   |0,hj=>cases hj;rfl
   |1,hj=>cases hj;rfl
 have hin:th 4294967296 [((n%4294967296:Nat):Int),((n/4294967296%4294967296:Nat):Int)]:=by
  intro x hx;simp only [List.mem_cons,List.not_mem_nil,or_false]at hx;rcases hx with rfl |rfl<;>omega
 have hv:cG 4294967296 [((n%4294967296:Nat):Int),((n/4294967296%4294967296:Nat):Int)]=n:=by
  simp only [cG,Int.toNat_natCast];omega
 refine(eJ w2 ⟨some (nb w1),2,2⟩ _ hls (fun p hp=>by cases hp;exact⟨_,_,l2⟩) (Nat.le_refl _) hin (by simp)).mono ?_;rintro e w3 ⟨r,rfl,hN,b3⟩;rw [hv]at hN;have b23:=ae b2 b3;refine⟨r.a,r.n,r.c,rfl,ce (s:=r) (ag b23 x1) fun q' hx hN' hB _ _=>⟨_,_,_,aJ hx,r,rfl,hN' _ _ hN,hB _ _ (Nat.le_refl _) (ae b1 b23)⟩⟩
theorem vS (w:World) (a:Option Addr) (c:Nat) (xs:List Int) (hr:Rw cR 1 w a xs) (hl:xs.length≤1000000000):
  CP 94 #[.slice a xs.length c] w fun e w'=>∃s:Sl,e= .returned s.v∧s.n=xs.length∧w'.ownsRow w.heap.size dw 1 s.v s.n (xs.flatMap cR)∧Below w.heap.size w w':=by
 refine aO (CC a xs.length c w) ?_;refine ac.mk (fun h0=>?_) fun h0=>?_
 ·have hx:xs= []:=by
   cases xs with
   |nil=>rfl
   |cons x t=>
    obtain⟨p,hp,_⟩:=hr 0 x rfl;rw [hp]at h0;cases h0
  subst hx;exact⟨⟨none,0,0⟩,rfl,rfl,cZ _ _ _ _,Below.refl _ _⟩
 ·obtain⟨p,rfl⟩:∃p,a=some p:=by
   cases a with
   |none=>cases h0
   |some p=>exact⟨p,rfl⟩
  intro w1 hw1;obtain⟨A,C,w2,h2,h3,h4⟩:=ic (enc:=cR) (sz:=1) (fun _=>rfl) (by decide) (fun x u hu=>by rw [List.mem_singleton.1 hu];rfl) pS dw ox qS rfl w ⟨some p,xs.length,c⟩ xs (.inr ⟨p,rfl⟩) hr rfl (by simp only;omega) (by simp only;omega) w1 hw1;exact⟨A,xs.length,C,w2,h2,⟨A,xs.length,C⟩,rfl,rfl,h3,h4⟩
theorem sM (w:World) (a:Option Addr) (c:Nat) (xs:List Int) (hr:Rw cR 1 w a xs) (hin:th 4294967296 xs) (hl:xs.length≤1000000):
  CP 49 #[.slice a xs.length c] w fun e w'=>∃r:Sl,e= .returned (.agg #[r.v])∧ba w' r (cG 4294967296 xs)∧Below w.heap.size w w':=by
 refine aO (CX a xs.length c w) ?_;intro w1 hw1;have b1:Below w.heap.size w w1:=by subst hw1;exact af _ _
 have x1:w1.heap[w.heap.size]? =some (.cells #[bS.v] bZ (0,0)):=by subst hw1;exact ak _ _
 refine(vS w1 a c xs (hr.on b1) (by omega)).mono ?_;rintro e w2 ⟨s,rfl,hn,ho,b2⟩;refine⟨s.a,s.n,s.c,rfl,(eJ w2 s xs (LsAt.of_own lB ho) (g_ ho) (oe ho) hin hl).mono ?_⟩;rintro e w3 ⟨r,rfl,hN,b3⟩;have b23:=ae b2 b3;exact⟨r.a,r.n,r.c,rfl,ce (s:=r) (ag b23 x1) fun q' hx hN' hB _ _=>⟨_,_,_,aJ hx,r,rfl,hN' _ _ hN,hB _ _ (Nat.le_refl _) (ae b1 b23)⟩⟩
theorem jP (w:World) (l:Sl) (n:Nat) (h:ba w l n):
  CP 43 #[.agg #[l.v]] w fun e w'=>e= .returned (.bool (decide (n=0)))∧Below w.heap.size w w':=by
 refine aO (A_ l.a l.n l.c w) ?_;intro w1 hw1;have b1:Below w.heap.size w w1:=by subst hw1;exact af _ _
 have x1:w1.heap[w.heap.size]? =some (.cells #[l.v] bZ (0,0)):=by subst hw1;exact ak _ _
 refine⟨_,_,_,cn x1,?_,b1⟩;have hn:=h.n;congr 2;rw [Bool.eq_iff_iff,beq_iff_eq,decide_eq_true_eq, ←Jl dN, ←List.length_eq_zero_iff, ←hn];omega
theorem mf (w:World) (l:Sl) (n:Nat) (h:ba w l n) (i:Nat):
  CP 153 #[.agg #[l.v],.int .i64 (i:Int)] w fun e w'=>e= .returned (.int .u32 ((n/4294967296^i%4294967296:Nat):Int))∧Below w.heap.size w w':=by
 refine aO (AX l.a l.n l.c (i:Int) w) ?_;intro w1 hw1;have b1:Below w.heap.size w w1:=by subst hw1;exact af _ _
 have x1:w1.heap[w.heap.size]? =some (.cells #[l.v] bZ (0,0)):=by subst hw1;exact ak _ _
 have hn:=h.n;refine⟨_,_,_,cn x1,ac.mk (fun h0=>?_) fun h0=>?_⟩
 ·have h0:=of_decide_eq_true h0;rw [(iw dN (n:=n) (i:=i) (by omega)).1];exact⟨rfl,b1⟩
 ·have h0:=of_decide_eq_false h0;have hlt:i< (d' 4294967296 n).length:=by omega
  obtain⟨p,hp,c0⟩:=aS (ba.on h b1).r hlt rfl;rw [jN dN hlt]at c0;exact⟨_,_,_,cn x1,ah.mk p hp ⟨by omega,by omega,_,c0,rfl,b1⟩⟩
set_option maxHeartbeats 1000000 in
theorem vI (w:World) (la lb:Sl) (a b:Nat) (ha:ba w la a) (hb:ba w lb b) (h1:(d' 4294967296 a).length≤100000) (h2:(d' 4294967296 b).length≤100000):
  CP 82 #[.agg #[la.v],.agg #[lb.v]] w fun e w'=>∃r:Sl,e= .returned (.agg #[r.v])∧ba w' r (a+b)∧Below w.heap.size w w':=by
 refine aO (BD la.a la.n la.c lb.a lb.n lb.c w) ?_;intro w1 hw1 w2 hw2 w3 hw3;have b1:Below w.heap.size w w1:=by subst hw1;exact af _ _
 have b2:Below w1.heap.size w1 w2:=by subst hw2;exact af _ _
 have b3:Below w2.heap.size w2 w3:=by subst hw3;exact af _ _
 have z1:w1.heap.size=w.heap.size+1:=by subst hw1;exact av _ _
 have z2:w2.heap.size=w1.heap.size+1:=by subst hw2;exact av _ _
 have b13:=ae b2 b3;have b03:=ae b1 b13;have x1:w3.heap[w.heap.size]? =some (.cells #[la.v] bZ (0,0)):=ag b13 (by subst hw1;exact ak _ _);have x2:w3.heap[w1.heap.size]? =some (.cells #[lb.v] bZ (0,0)):=ag b3 (by subst hw2;exact ak _ _);have x3:w3.heap[w2.heap.size]? =some (.cells #[bS.v] bZ (0,0)):=by subst hw3;exact ak _ _
 have hna:=ha.n;have hnb:=hb.n;obtain⟨N,hN⟩:∃N:Nat,(if((lb.n:Nat):Int)>((la.n:Nat):Int)then((lb.n:Nat):Int)else((la.n:Nat):Int))=(N:Int)∧la.n≤N∧lb.n≤N∧N≤100000:=by
  by_cases hh:((lb.n:Nat):Int)>((la.n:Nat):Int)
  ·exact⟨lb.n,if_pos hh,by omega,by omega,by omega⟩
  ·exact⟨la.n,if_neg hh,by omega,by omega,by omega⟩
 obtain⟨hN,n1,n2,n3⟩:=hN;obtain⟨w5,e5,o5,b5⟩:=mq w3 (N+1) (by omega);refine⟨_,_,_,cn x1,_,_,_,cn x2,(N:Int),w3,by rw [←hN];exact sC _ _ _ _ _,Ar.nat (N+1) rfl (by omega) ⟨_,_,_,w5,e5,?_⟩⟩;intro I hI;have key:=aV (α:=Nat×List Int×Sl×World) N (fun i y=>y.2.1.length=i∧th 4294967296 y.2.1∧cG 4294967296 y.2.1+y.1*4294967296^i=a%4294967296^i+b%4294967296^i∧y.1≤1∧y.2.2.2.ownsRow w3.heap.size dw 1 y.2.2.1.v y.2.2.1.n (y.2.1.flatMap cR)∧Below w3.heap.size w3 y.2.2.2) (fun i y=>I [.int .i64 (i:Int),.int .u64 (y.1:Int),y.2.2.1.v] y.2.2.2) (0,[],⟨some (nb w3),0,N+1⟩,w5) ⟨rfl,fun x hx=>(by cases hx),by simp [cG,Nat.mod_one],Nat.zero_le _,o5,b5⟩ ?_ ?_
 ·exact key
 ·rintro i hi ih ⟨c,L,f,q⟩ ⟨hL,hin,hv,hc,ho,hq⟩;change L.length=i at hL;change th 4294967296 L at hin;change cG 4294967296 L+c*4294967296^i=a%4294967296^i+b%4294967296^i at hv;change c≤1 at hc;change q.ownsRow w3.heap.size dw 1 f.v f.n (L.flatMap cR)at ho;change Below w3.heap.size w3 q at hq;have hfn:f.n=L.length:=(Rw.of_own ho (fun _=>rfl) (by decide)).2;refine hI _ _ f.a f.n f.c q (ac.yes (decide_eq_true (by omega)) ?_);intro w7 hw7;have b7:Below q.heap.size q w7:=by subst hw7;exact aK q
  have hq7:=ae hq b7;refine⟨_,_,_,aJ (ag hq7 x1),_,_,_,aJ (ag hq7 x2),?_⟩;have hb37:=ae b03 hq7;refine(mf w7 la a (ha.on hb37) i).mono ?_;rintro e w8 ⟨rfl,b8⟩;have hq8:=ae hq7 b8;refine⟨_,rfl,aJ (ag hq8 x2),(mf w8 lb b (hb.on (ae b03 hq8)) i).mono ?_⟩;rintro e w9 ⟨rfl,b9⟩;have hq9:=ae hq8 b9;obtain⟨s,hs⟩:∃s,s=a/4294967296^i%4294967296+b/4294967296^i%4294967296+c:=⟨_,rfl⟩;have m1:=Nat.mod_lt (a/4294967296^i) (show 0<4294967296 by decide);have m2:=Nat.mod_lt (b/4294967296^i) (show 0<4294967296 by decide);refine⟨_,rfl,Ar.u64 (a/4294967296^i%4294967296+b/4294967296^i%4294967296) (by rw [dg (by omega),dg (by omega)];omega) (by omega) (Ar.u64 s (by omega) (by omega) ?_)⟩;intro w10 hw10;rw [dH]at hw10;obtain⟨f',w11,e1,e2,e3,e4,_⟩:=lB.push (aA (aA (aA ho b7) b8) b9) ((s%4294967296:Nat):Int) hw10 rfl hq9.size (by omega) (by decide);refine⟨f'.a,f'.n,f'.c,w11,e2,by decide,Ar.nat (i+1) rfl (by omega) ?_⟩;rw [F5];exact ih (s/4294967296,L++ [((s%4294967296:Nat):Int)],f',w11) ⟨by rw [List.length_append];show _+1=_;omega,kG hin (Nat.mod_lt _ (by decide)),FW hL hv hs,by show s/4294967296≤1;omega,e3,e4 _ hq9⟩
 ·rintro⟨c,L,f,q⟩ ⟨hL,hin,hv,hc,ho,hq⟩;change L.length=N at hL;change th 4294967296 L at hin;change cG 4294967296 L+c*4294967296^N=a%4294967296^N+b%4294967296^N at hv;change c≤1 at hc;change q.ownsRow w3.heap.size dw 1 f.v f.n (L.flatMap cR)at ho;change Below w3.heap.size w3 q at hq;have hfn:f.n=L.length:=(Rw.of_own ho (fun _=>rfl) (by decide)).2;refine hI _ _ f.a f.n f.c q (ac.no (decide_eq_false (by omega)) ?_);intro w12 hw12;rw [dH,Nat.mod_eq_of_lt (by omega)]at hw12;obtain⟨f',w13,e1,e2,e3,e4,_⟩:=lB.push ho (c:Int) hw12 rfl hq.size (by omega) (by decide);have hv2:cG 4294967296 (L++ [(c:Int)])=a+b:=by
   rw [fr,kM,hL,Nat.mul_comm,hv,(iw dN (n:=a) (i:=N) (by omega)).2,(iw dN (n:=b) (i:=N) (by omega)).2]
  have hB13:=e4 _ hq;refine⟨f'.a,f'.n,f'.c,w13,e2,(eJ w13 f' _ (LsAt.of_own lB e3) (g_ e3) (oe e3) (kG hin (by omega)) (by rw [List.length_append];show _+1≤_;omega)).mono ?_⟩;rintro e w14 ⟨r,rfl,hR,b14⟩;rw [hv2]at hR;have hB14:=ae hB13 b14;exact⟨r.a,r.n,r.c,rfl,ce (s:=r) (ag hB14 x3) fun q' hx hN' hB _ _=>⟨_,_,_,aJ hx,r,rfl,hN' _ _ hR,hB _ _ (by omega) (ae b03 hB14)⟩⟩
end Go.Proofs.YtdlcfegnaphclaaGreat.Eng
