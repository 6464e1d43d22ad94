/- The grid of a vocabulary, walked by the engine. -/
import Derived.Test.YtdlcfegnaphclaaGreatZpRj
import Derived.Test.YtdlcfegnaphclaaGreatZpSp
import Derived.Test.YtdlcfegnaphclaaGreatZpTab
import Derived.Test.YtdlcfegnaphclaaGreatZpRa
set_option linter.unusedVariables false
set_option linter.unusedSimpArgs false
set_option maxRecDepth 100000
namespace Go.Proofs.YtdlcfegnaphclaaGreat.Eng
open Go Go.RowKit
theorem Dk (w:World) (v:Nat) (s:ar) (T:List aP) (hV:bC w v s T) (a b:Int) (ha:(az s T).Has a) (hb:(az s T).Has b):
  CP 76 #[.pointer (some ⟨v,0,none⟩),.int .i64 a,.int .i64 b] w fun e w'=>e= .returned (.bool (decide ((az s T).Canon [a,b])))∧bC w' v s T∧ap v w w':=by
 refine aT (CL (some ⟨v,0,none⟩) a b w (fun u w'=>u= .bool (decide ((az s T).Canon [a,b]))∧bC w' v s T∧ap v w w') ?_) (by rintro v w' ⟨rfl,h⟩;exact⟨rfl,h⟩);have parts:∀ {q:World},bC q v s T→∃x tp bp mp,cF q s T x tp bp mp∧∃c,oy q v c tp bp mp:=by
  rintro q ⟨w0,x,tp,bp,mp,d,l,uses,hR⟩;exact⟨x,tp,bp,mp,hR.now,_,hR.vblk⟩
 obtain⟨x,tp,bp,mp,hP,_⟩:=parts hV;have hok:=pA hP;have hab:∀t∈ [a]++ [b],(az s T).Has t:=by
  intro t ht;simp at ht;rcases ht with rfl |rfl
  ·exact ha
  ·exact hb
 refine(mH w v s T hV a).mono ?_;rintro e w1 ⟨rfl,hV1,t1⟩;refine⟨_,rfl,ac.mk (fun h1=>?_) fun h1=>⟨?_,hV1,t1⟩⟩
 ·have ca:=(ik hP ha).1 h1;refine(mH w1 v s T hV1 b).mono ?_;rintro e w2 ⟨rfl,hV2,t2⟩;have t12:=t1.trans t2;refine⟨_,rfl,ac.mk (fun h2=>?_) fun h2=>⟨?_,hV2,t12⟩⟩
  ·have cb:=(ik hP hb).1 h2;obtain⟨x2,tp2,bp2,mp2,hP2,c2,hB2⟩:=parts hV2;refine(Ad hB2 hP2 a b ha hb ca cb).mono ?_;rintro e w3 ⟨r,rfl,hr,b3⟩;refine⟨r,rfl,?_,hV2.on b3,t12.trans (ap.of_below b3)⟩;have hm:=Voc.canon_more hok (init:=[]) (l:=a) (t:=b) (fun x hx=>by simp at hx;rw [hx];exact ha) ca hb;congr 1;have hm2:(az s T).Canon [a,b]↔(az s T).Canon [b]∧(az s T).Pair a b:=hm;cases r with
   |true=>exact(QY (hm2.2 ⟨cb,hr.1 rfl⟩)).symm
   |false=>exact(QZ fun e=>by have:=hr.2 (hm2.1 e).2;cases this).symm
  ·rw [QZ fun e=>?_];have:=(ik hP hb).2 (Voc.canon_append hok (P:=[a]) (Q:=[b]) hab e).2;rw [h2]at this;cases this
 ·rw [QZ fun e=>?_];have:=(ik hP ha).2 (Voc.canon_append hok (P:=[a]) (Q:=[b]) hab e).1;rw [h1]at this;cases this
abbrev rA:TypeId:=132
abbrev JZ:TypeId:=129
theorem Jj:Tryz.prog.underlying JZ=some (.slice nQ):=by kernel_rfl
theorem Jl:(Tryz.prog.info? nQ).map (fun i=>(i.zero,i.size,i.bytes))=some (some (.slice none 0 0),1,24):=by kernel_rfl
def sN (r:Sl):List Value:=[r.v]
theorem FR:xI sN 1 JZ nQ 24:=⟨fun _=>rfl,by decide,fun x u hu=>by rw [List.mem_singleton.1 hu];rfl,Jj,_,Jl,rfl⟩
def tn (G:List Int):List (Int×Value):=G.zipIdx.map fun x=>(x.1,.int .i64 (x.2:Int))
theorem D4 (G:List Int) (x:Int):tn (G++ [x])=tn G++ [(x,.int .i64 (G.length:Int))]:=by simp [tn,List.zipIdx_append]
theorem uC (G:List Int) (k:Int):eD k (tn G)=(G.idxOf? k).map fun i:Nat=>Value.int .i64 (i:Int):=by
 have:=h_ (fun x:Int=>x) k G 0;simp only [Nat.zero_add,List.map_id']at this;exact this
def mZ (s:ar) (T:List aP) (i:Nat):Bool:=decide ((az s T).Canon [(bD s T).getD i 0])
def d' (s:ar) (T:List aP) (i k:Nat):Bool:=decide ((az s T).Canon [(bD s T).getD i 0,(bD s T).getD k 0])
structure k_ (w:World) (g:Nat) (G:List Int) (al:Nat→Bool) (rel:Nat→Nat→Bool) (ids rows alone:Sl) (mb:Nat) (rs:List Sl) (m:Nat):Prop where
 blk:w.heap[g]? =some (.cells #[ids.v,.map (some mb),rows.v,alone.v] rA (0,0))
 oi:w.ownsRow 0 aV 1 ids.v ids.n (G.flatMap aC)
 map:bB bj w mb (tn G)
 orows:w.ownsRow 0 nQ 1 rows.v rows.n (rs.flatMap sN)
 rl:rs.length=m
 each:∀(i:Nat) (r:Sl),rs[i]? =some r→w.ownsRow 0 gR 1 r.v r.n ((bx G.length (rel i)).flatMap df)
 oal:w.ownsRow 0 gR 1 alone.v alone.n ((bx G.length al).flatMap df)
def sx (w:World) (g:Nat) (G:List Int) (al:Nat→Bool) (rel:Nat→Nat→Bool):Prop:=∃ids rows alone mb rs,k_ w g G al rel ids rows alone mb rs G.length
theorem k_.on {w w':World} {g:Nat} {G:List Int} {al:Nat→Bool} {rel:Nat→Nat→Bool} {ids rows alone:Sl} {mb:Nat} {rs:List Sl} {m:Nat} (h:k_ w g G al rel ids rows alone mb rs m) (hb:Below w.heap.size w w'):k_ w' g G al rel ids rows alone mb rs m:=
 ⟨ag hb h.blk,aB h.oi hb,h.map.on hb,aB h.orows hb,h.rl,fun i r hr=>aB (h.each i r hr) hb,aB h.oal hb⟩
theorem sx.on {w w':World} {g:Nat} {G:List Int} {al:Nat→Bool} {rel:Nat→Nat→Bool} (h:sx w g G al rel) (hb:Below w.heap.size w w'):sx w' g G al rel:=by
 obtain⟨ids,rows,alone,mb,rs,h⟩:=h;exact⟨ids,rows,alone,mb,rs,h.on hb⟩
theorem bC.typed {w:World} {v:Nat} {s:ar} {T:List aP} (h:bC w v s T):∃c,w.heap[v]? =some (.cells c dI (0,0)):=by
 obtain⟨w0,x,tp,bp,mp,d,l,uses,hR⟩:=h;exact⟨_,hR.blk⟩
theorem bC.ne_cells {w:World} {v:Nat} {s:ar} {T:List aP} (h:bC w v s T) {k:Nat} {c:Array Value} {e:TypeId} {fz:Nat×Nat} (hk:w.heap[k]? =some (.cells c e fz)) (he:e≠dI):k≠v:=by
 obtain⟨c',hc⟩:=h.typed;rintro rfl;rw [hc]at hk;cases hk;exact he rfl
theorem bC.ne_map {w:World} {v:Nat} {s:ar} {T:List aP} (h:bC w v s T) {κ:Type} [DecidableEq κ] {kv:κ→Value} {r:Nat} {m:List (κ×Value)} (hm:bB kv w r m):r≠v:=by
 obtain⟨c',hc⟩:=h.typed;rintro rfl;obtain⟨es,k,hk,_⟩:=hm;rw [hc]at hk;cases hk
theorem k_.touch {w w':World} {g:Nat} {G:List Int} {al:Nat→Bool} {rel:Nat→Nat→Bool} {ids rows alone:Sl} {mb:Nat} {rs:List Sl} {m:Nat} (h:k_ w g G al rel ids rows alone mb rs m) {v:Nat} {s:ar} {T:List aP} (hV:bC w v s T) (t:ap v w w'):k_ w' g G al rel ids rows alone mb rs m:=
 ⟨t.held (hV.ne_cells h.blk (by decide)) h.blk,hV.own_touch t h.oi (by decide),h.map.same (t.block mb h.map.lt (hV.ne_map h.map)),hV.own_touch t h.orows (by decide),h.rl,fun i r hr=>hV.own_touch t (h.each i r hr) (by decide),hV.own_touch t h.oal (by decide)⟩
theorem ie {w2 w3:World} {x u:Value} {e:TypeId} (hw:w3=w2.alloc (.cells #[x] e)) (hu:u.oneCell'=true) {k:World→Prop} (hk:∀w4,w4.heap[w2.heap.size]? =some (.cells #[u] e (0,0))→Below w2.heap.size w2 w4→k w4):u.oneCell'=true∧(∃y,w3.cell? (nb w2)=some y)∧w3.frozen? (nb w2)=false∧∀w4,w4=w3.setCell (nb w2) u→k w4:=
 dS (aX [x] [u] rfl (by intro y hy;rw [List.mem_singleton.1 hy];exact hu) w3 hw fun w4 h4 _ b4=>hk w4 h4 b4)
theorem bG {w:World} {b:Nat} {x:Value} {e:TypeId} {fz:Nat×Nat} (h:w.heap[b]? =some (.cells #[x] e fz)):w.cell? ⟨b,0,none⟩=some x:=aL h
theorem gu {α:Type} {l:List α} {i:Nat} (h:i<l.length) (d:α):l.getD i d=l[i]:=by simp [List.getD,h]
theorem rg {s:ar} {T:List aP} (h1:fW T) (h2:s.right=true):256≤(bD s T).length∧(bD s T).length≤1032:=by
 have:=h1.most;have:=h1.len;have:=gh (iP h2).2.2.2.1;rw [ew];omega
theorem ap.put {v d j:Nat} {a b:World} (t:ap v a b) (hd:a.heap.size≤d) (u:Value):ap v a (b.setCell ((⟨d,0,none⟩:Addr).add j) u):=
 ⟨t.os,t.tape,t.output,by rw [aY];exact t.size,fun k hk hv=>by rw [au (by rw [ay];show k≠d;omega)];exact t.block k hk hv⟩
theorem bC.put {w:World} {v d j:Nat} {s:ar} {T:List aP} (h:bC w v s T) {c:Array Value} {e:TypeId} (hd:w.heap[d]? =some (.cells c e (0,0))) (he:bS≠e) (hv:v<d) (u:Value):bC (w.setCell ((⟨d,0,none⟩:Addr).add j) u) v s T:=by
 obtain⟨w0,x,tp,bp,mp,q,l,uses,hR⟩:=h;have hlt:=hR.lt;refine⟨w0,x,tp,bp,mp,q,l,uses,hR.parts,bM hR.below (by omega) u,hlt,by rw [au (by rw [ay];show v≠d;omega)];exact hR.blk,?_⟩;rcases hR.once with h |⟨h1,h2,h3⟩
 ·exact .inl h
 ·exact .inr ⟨h1,h2,bH h3 u (by rw [ay];exact aA h3 hd he)⟩
theorem bC.growE {w w':World} {v:Nat} {s:ar} {T:List aP} (h:bC w v s T) {B:Nat} (hb:Below B w w') (hv:v<B) {B' n sz:Nat} {e:TypeId} {u:Value} {xs:List Value} (ho:w.ownsRow B' e sz u n xs) (he:bS≠e) (hk:∀k,k<w.heap.size→u.ownBlock≠some k→w'.heap[k]? =w.heap[k]?):bC w' v s T:=by
 obtain⟨w0,x,tp,bp,mp,d,l,uses,hR⟩:=h;have hlt:=hR.lt;refine⟨w0,x,tp,bp,mp,d,l,uses,hR.parts,hR.below.trans (hb.mono (by omega)),hlt,by rw [hb.block v hv];exact hR.blk,?_⟩;rcases hR.once with h |⟨h1,h2,h3⟩
 ·exact .inl h
 ·exact .inr ⟨h1,h2,aR h3 fun k hk3=>hk k (cm h3 k hk3).2 (bR h3 ho he k hk3)⟩
theorem Em (w:World) (v:Nat) (s:ar) (T:List aP) (hV:bC w v s T) (t:Int) (ht:(az s T).Has t):
  CP 73 #[.pointer (some ⟨v,0,none⟩),.int .i64 t] w fun e w'=>e= .returned (.bool (decide ((az s T).Canon [t])))∧bC w' v s T∧ap v w w':=by
 have hP:∃x tp bp mp,cF w s T x tp bp mp:=by
  obtain⟨w0,x,tp,bp,mp,d,l,uses,hR⟩:=hV;exact⟨x,tp,bp,mp,hR.now⟩
 obtain⟨x,tp,bp,mp,hP⟩:=hP;refine(mH w v s T hV t).mono ?_;rintro e w1 ⟨rfl,h⟩;refine⟨?_,h⟩;congr 2;have:=ik hP ht;cases ha:gM s T t with
 |true=>exact(QY (this.1 ha)).symm
 |false=>exact(QZ fun e=>by rw [this.2 e]at ha;cases ha).symm
theorem Fk (w:World) (v:Nat) (s:ar) (T:List aP) (hV:bC w v s T) (b0 b1:Nat) {e0 e1:TypeId} (ids:Sl) (G:List Int) (h0:w.heap[b0]? =some (.cells #[.pointer (some ⟨v,0,none⟩)] e0 (0,0))) (h1:w.heap[b1]? =some (.cells #[ids.v] e1 (0,0))) (oi:w.ownsRow 0 aV 1 ids.v ids.n (G.flatMap aC)) (hG:∀t∈G,(az s T).Has t) (i:Nat) (hi:i<G.length):
  CP 72 #[.int .i64 (i:Int),.pointer (some ⟨b0,0,none⟩),.pointer (some ⟨b1,0,none⟩)] w fun e w'=>e= .returned (.bool (decide ((az s T).Canon [G.getD i 0])))∧bC w' v s T∧ap v w w':=by
 refine aO (CY i (some ⟨b0,0,none⟩) (some ⟨b1,0,none⟩) w) ?_;intro w1 hw1;have b1':Below w.heap.size w w1:=by subst hw1;exact aI w
 have hls:=LsAt.of_own cW (aB oi b1');have hn:=hls.n;obtain⟨p,hp,c0⟩:=aS hls.r hi rfl;refine ah.mk _ rfl ⟨_,bG (ag b1' h0),ah.mk _ rfl ⟨ids.a,ids.n,ids.c,bG (ag b1' h1),ah.mk p hp ⟨by omega,by omega,_,c0,?_⟩⟩⟩;refine(Em w1 v s T (hV.on b1') G[i] (hG _ (List.getElem_mem hi))).mono ?_;rintro e w2 ⟨rfl,hV2,t2⟩;refine⟨_,rfl,?_,hV2,(ap.of_below b1').trans t2⟩;rw [gu hi]
theorem EO (w:World) (v:Nat) (s:ar) (T:List aP) (hV:bC w v s T) (cg ci cv ca cids:Nat) {eg ei ev ea ed:TypeId} (g:Nat) (ids rows alone:Sl) (mb:Nat) (rs:List Sl) (m i k:Nat) (hb:v<cg∧v<ci∧v<cv∧v<ca∧v<cids)
  (hR:k_ w g (bD s T) (mZ s T) (d' s T) ids rows alone mb rs m) (hgh:∀t∈bD s T,(az s T).Has t) (hgl:(bD s T).length≤1032)
  (h0:w.heap[cg]? =some (.cells #[.pointer (some ⟨g,0,none⟩)] eg (0,0))) (h1:w.heap[ci]? =some (.cells #[.int .i64 (i:Int)] ei (0,0))) (h2:w.heap[cv]? =some (.cells #[.pointer (some ⟨v,0,none⟩)] ev (0,0))) (h3:w.heap[ca]? =some (.cells #[.int .i64 ((bD s T).getD i 0)] ea (0,0))) (h4:w.heap[cids]? =some (.cells #[ids.v] ed (0,0)))
  (hi:i< (bD s T).length) (hk:k< (bD s T).length):
  CP 74 #[.int .i64 (k:Int),.pointer (some ⟨cg,0,none⟩),.pointer (some ⟨ci,0,none⟩),.pointer (some ⟨cv,0,none⟩),.pointer (some ⟨ca,0,none⟩),.pointer (some ⟨cids,0,none⟩)] w fun e w'=>e= .returned (.bool (d' s T i k))∧bC w' v s T∧ap v w w':=by
 refine aO (A6 k (some ⟨cg,0,none⟩) (some ⟨ci,0,none⟩) (some ⟨cv,0,none⟩) (some ⟨ca,0,none⟩) (some ⟨cids,0,none⟩) w) ?_;have hP:∃x tp bp mp,cF w s T x tp bp mp:=by
  obtain⟨w0,x,tp,bp,mp,d,l,uses,hR⟩:=hV;exact⟨x,tp,bp,mp,hR.now⟩
 obtain⟨x,tp,bp,mp,hP⟩:=hP;have hok:=pA hP;have hA:(az s T).Has ((bD s T).getD i 0):=by rw [gu hi];exact hgh _ (List.getElem_mem hi)
 have hB:(az s T).Has ((bD s T).getD k 0):=by rw [gu hk];exact hgh _ (List.getElem_mem hk)
 have hpair:d' s T i k=true→mZ s T i=true∧mZ s T k=true:=by
  intro h;have:=Voc.canon_append hok (P:=[(bD s T).getD i 0]) (Q:=[(bD s T).getD k 0]) (by
   intro t ht;simp only [List.cons_append,List.nil_append,List.mem_cons,List.not_mem_nil,or_false]at ht;rcases ht with rfl |rfl
   ·exact hA
   ·exact hB) (QQ h)
  exact⟨QY this.1,QY this.2⟩
 intro w1 hw1;have b1':Below w.heap.size w w1:=by subst hw1;exact aI w
 have t1:ap v w w1:=ap.of_below b1';have hR1:=hR.on b1';have hV1:=hV.on b1';have al1:=LsAt.of_own qV hR1.oal;refine ah.mk _ rfl ⟨_,bG (ag b1' h0),ah.mk _ rfl ⟨alone.a,alone.n,alone.c,by rw [ba hR1.blk];rfl,ah.mk _ rfl ⟨_,bG (ag b1' h1),?_⟩⟩⟩;refine(kY w1 alone.a alone.n alone.c _ (mZ s T) al1.r al1.n (by omega) i hi).mono ?_;rintro e w2 ⟨rfl,hw2⟩;rw [hw2];refine⟨_,rfl,ac.mk (fun ha=>?_) fun ha=>⟨?_,hV1,t1⟩⟩
 ·refine ah.mk _ rfl ⟨_,bG (ag b1' h0),ah.mk _ rfl ⟨alone.a,alone.n,alone.c,by rw [ba hR1.blk];rfl,?_⟩⟩;refine(kY w1 alone.a alone.n alone.c _ (mZ s T) al1.r al1.n (by omega) k hk).mono ?_;rintro e w3 ⟨rfl,hw3⟩;rw [hw3];refine⟨_,rfl,ac.mk (fun hb=>?_) fun hb=>⟨?_,hV1,t1⟩⟩
  ·have hls:=LsAt.of_own cW hR1.oi;have hn:=hls.n;obtain⟨p,hp,c0⟩:=aS hls.r hk rfl;refine ah.mk _ rfl ⟨_,bG (ag b1' h2),ah.mk _ rfl ⟨_,bG (ag b1' h3),ah.mk _ rfl ⟨ids.a,ids.n,ids.c,bG (ag b1' h4),ah.mk p hp ⟨by omega,by omega,_,c0,?_⟩⟩⟩⟩;rw [←gu hk 0];refine(Dk w1 v s T hV1 _ _ hA hB).mono ?_;rintro e w4 ⟨rfl,hV4,t4⟩;exact⟨_,rfl,rfl,hV4,t1.trans t4⟩
  ·cases hr:d' s T i k with
   |false=>rfl
   |true=>rw [(hpair hr).2]at hb;cases hb
 ·cases hr:d' s T i k with
  |false=>rfl
  |true=>rw [(hpair hr).1]at ha;cases ha
theorem eE {w:World} {B:Nat} {e:TypeId} {sz n:Nat} {u:Value} {xs:List Value} (h:w.ownsRow B e sz u n xs) {κ:Type} [DecidableEq κ] {kv:κ→Value} {r:Nat} {m:List (κ×Value)} (hm:bB kv w r m):u.ownBlock≠some r:=by
 obtain⟨es,k,hk,_⟩:=hm;intro hb;rcases h.2 with⟨rfl,_⟩ |⟨g,cap,cur,rfl,_,hg,_⟩
 ·cases hb
 ·cases hb;rw [hk]at hg;cases hg
theorem EK {q w1 w2:World} {x y u z:Value} {e e':TypeId} (h1:w1=q.alloc (.cells #[x] e)) (h2:w2=w1.alloc (.cells #[y] e')) (hu:u.oneCell'=true) (hz:z.oneCell'=true) {k:World→Prop} (hk:∀w4,w4.heap[q.heap.size]? =some (.cells #[u] e (0,0))→w4.heap[w1.heap.size]? =some (.cells #[z] e' (0,0))→Below q.heap.size q w4→k w4):
  u.oneCell'=true∧(∃a,w2.cell? (nb q)=some a)∧w2.frozen? (nb q)=false∧∀w3,w3=w2.setCell (nb q) u→z.oneCell'=true∧(∃a,w3.cell? (nb w1)=some a)∧w3.frozen? (nb w1)=false∧∀w4,w4=w3.setCell (nb w1) z→k w4:=by
 have b1:Below q.heap.size q w1:=by subst h1;exact af _ _
 have a1:w1.heap[q.heap.size]? =some (.cells #[x] e (0,0)):=by subst h1;exact ak _ _
 have b2:Below w1.heap.size w1 w2:=by subst h2;exact af _ _
 have a2:w2.heap[w1.heap.size]? =some (.cells #[y] e' (0,0)):=by subst h2;exact ak _ _
 have a12:=ag b2 a1;have hlt:q.heap.size<w1.heap.size:=(QV.1 a1).1;have b02:=ae b1 b2;refine⟨hu,⟨_,aL a12⟩,bu a12,?_⟩;intro w3 h3;have a13:w3.heap[q.heap.size]? =some (.cells #[u] e (0,0)):=by subst h3;exact bJ a12 u
 have a23:w3.heap[w1.heap.size]? =some (.cells #[y] e' (0,0)):=by subst h3;rw [au (by show w1.heap.size≠q.heap.size;omega)];exact a2
 have b03:Below q.heap.size q w3:=by subst h3;exact b02.setCell (p:=nb q) (Q0 _) u
 refine⟨hz,⟨_,aL a23⟩,bu a23,?_⟩;intro w4 h4;refine hk w4 ?_ ?_ ?_
 ·subst h4;rw [au (by show q.heap.size≠w1.heap.size;omega)];exact a13
 ·subst h4;exact bJ a23 z
 ·subst h4;exact b03.setCell (p:=nb w1) (Nat.le_of_lt hlt) z
def KZ (w:World) (v:Nat) (s:ar) (T:List aP) (most:Int) (u:Value) (w':World):Prop:=bC w' v s T∧ap v w w'∧(if(((bD s T).length*(bD s T).length:Nat):Int)>most then u= .tuple #[.pointer none,.int .i64 5]else ∃g,u= .tuple #[.pointer (some ⟨g,0,none⟩),.int .i64 0]∧sx w' g (bD s T) (mZ s T) (d' s T)∧w.heap.size≤g)
set_option maxHeartbeats 2000000 in
theorem nv (w:World) (v:Nat) (s:ar) (T:List aP) (hV:bC w v s T) (hasc:(s.specials.map (·.1)).Pairwise (·< ·)) (most:Int):
  CP 32 #[.pointer (some ⟨v,0,none⟩),.int .i64 most] w fun e w'=>∃u,e= .returned u∧KZ w v s T most u w':=by
 refine Bh (some ⟨v,0,none⟩) most w (KZ w v s T most) ?_;have hgb:256≤(bD s T).length∧(bD s T).length≤1032∧(∀t∈bD s T,(az s T).Has t)∧(bD s T).Pairwise (·< ·):=by
  obtain⟨w0,x,tp,bp,mp,d,l,uses,hR⟩:=hV;have hP:=hR.now;exact⟨(rg hP.ok hP.right).1,(rg hP.ok hP.right).2,fun t ht=>(Ie hP t).1 ((nJ s T t).1 ht),kN hasc hP.ids⟩
 obtain⟨hg1,hg2,hgh,hgr⟩:=hgb;intro w1 hw1;have b1:Below w.heap.size w w1:=by subst hw1;exact af _ _
 have l1:w1.heap[w.heap.size]? =some (.cells #[.pointer (some ⟨v,0,none⟩)] 69 (0,0)):=by subst hw1;exact ak _ _
 refine⟨_,bG l1,?_⟩;have hV1:=hV.on b1;refine(zN w1 v s T hV1 hasc).mono ?_;rintro e w2 ⟨ids,rfl,oids,b2⟩;refine⟨_,_,_,rfl,?_⟩;intro w3 hw3;refine ie hw3 rfl ?_;intro w4 l4 b4;have b24:=ae b2 b4;have b14:=ae b1 b24;have oids4:=bw (aB oids b4) (Nat.zero_le _);have hin:=(LsAt.of_own cW oids4).n;have l14:=ag b24 l1;have hV4:=hV.on b14;refine⟨_,bG l14,ac.no rfl ⟨ids.a,ids.n,ids.c,bG l4,ids.a,ids.n,ids.c,bG l4,Ar.nat ((bD s T).length*(bD s T).length) (by rw [hin];simp) (by
  have:(bD s T).length*(bD s T).length≤1032*1032:=Nat.mul_le_mul hg2 hg2;omega) (ac.mk (fun hm=>⟨hV4,ap.of_below b14,?_⟩) fun hm=>?_)⟩⟩
 ·rw [if_pos (QQ hm)]
 have hm:=QX hm;obtain⟨G,hG⟩:∃G,G=bD s T:=⟨_,rfl⟩;rw [←hG]at oids4 hin hg1 hg2 hgh hgr hm;obtain⟨n,hn⟩:∃n,n=G.length:=⟨_,rfl⟩;rw [←hn]at hin;refine⟨ids.a,ids.n,ids.c,bG l4,_,_,fG _,?_⟩;have b5:=af w4 (.map #[] 0);have m5:bB bj (w4.alloc (.map #[] 0)) w4.heap.size (tn []):=iJ w4;obtain⟨w5,hw5⟩:∃w5,w5=w4.alloc (.map #[] 0):=⟨_,rfl⟩;rw [←hw5]at b5 m5;rw [←hw5];intro w6 hw6 w7 hw7;have b6:Below w5.heap.size w5 w6:=by subst hw6;exact af _ _
 have g6:w6.heap[w5.heap.size]? =some (.cells #[ids.v,.map (some w4.heap.size),bO.v,bO.v] rA (0,0)):=by subst hw6;exact ak _ _
 refine ie hw7 rfl ?_;intro w8 l8 b8;have b58:=ae b6 b8;have b48:=ae b5 b58;have b08:=ae b14 b48;have hz4:=b14.size;have hz5:=b5.size;have lt4:w4.heap.size<w5.heap.size:=m5.lt;have lt6:w5.heap.size<w6.heap.size:=(QV.1 g6).1;have lt8:w6.heap.size<w8.heap.size:=(QV.1 l8).1;have lt2:w2.heap.size<w4.heap.size:=(QV.1 l4).1;have lt1:w.heap.size<w4.heap.size:=(QV.1 l14).1;have hvl:=hV.lt;have boxes:∀ {q:World},Below (w4.heap.size) w8 q→q.heap[w.heap.size]? =some (.cells #[.pointer (some ⟨v,0,none⟩)] 69 (0,0))∧q.heap[w2.heap.size]? =some (.cells #[ids.v] cJ (0,0)):=by
  intro q hq;exact⟨Below.keeps hq lt1 (ag b48 l14),Below.keeps hq lt2 (ag b48 l4)⟩
 refine⟨ids.a,ids.n,ids.c,bG (ag b48 l4),?_⟩;have oids8:=aB oids4 b48;have idsLt:∀k,ids.v.ownBlock=some k→k<w4.heap.size:=fun k hk=>(cm oids4 k hk).2;intro I hI;let Inv (i:Nat) (q:World):Prop:=bB bj q w4.heap.size (tn (G.take i))∧(∀j,j≠w4.heap.size→q.heap[j]? =w8.heap[j]?)∧q.heap.size=w8.heap.size∧Below w4.heap.size w4 q;have key:=aU (α:=World) n Inv (fun i q=>I [.int .i64 (i:Int)] q) w8 ⟨by rw [List.take_zero];exact m5.on b58,fun _ _=>rfl,rfl,b48⟩ ?_ ?_
 ·exact key
 ·rintro i hi ih q ⟨hmap,hs,hz,hB⟩;have hiG:i<G.length:=by omega
  have oq:q.ownsRow 0 aV 1 ids.v ids.n (G.flatMap aC):=aR oids8 fun k hk=>hs k (by have:=idsLt k hk;omega);obtain⟨p,hp,c0⟩:=aS (LsAt.of_own cW oq).r hiG rfl;have hlook:eD G[i] (tn (G.take i))=none:=by
   rw [uC,List.idxOf?_eq_none_iff.2]
   ·rfl
   ·intro hmem;obtain⟨j,hj,e⟩:=List.mem_take_iff_getElem.1 hmem;have:=List.pairwise_iff_getElem.1 hgr j i (by omega) hiG (by omega);omega
  obtain⟨q',hr',hm',hs',hz',hB'⟩:=fa nw nt hmap G[i] (.int .i64 (i:Int)) hlook;refine hI _ _ (ac.yes (by simp;omega) (ah.mk p hp ⟨by omega,by omega,_,c0,_,bG (by rw [hs w6.heap.size (by omega)];exact l8),ah.mk _ rfl ⟨_,aj _ _ (by rw [hs w5.heap.size (by omega)];exact ag b8 g6) 1,q',hr',Ar.nat (i+1) rfl (by omega) (ih q' ⟨?_,fun j hj=>by rw [hs' j hj,hs j hj],by rw [hz',hz],hB' _ _ (Q0 _) hB⟩)⟩⟩));have e:tn (G.take (i+1))=tn (G.take i)++ [(G[i],.int .i64 (i:Int))]:=by
   rw [List.take_add_one,QW hiG];have:=D4 (G.take i) G[i];rw [List.length_take,Nat.min_eq_left (by omega)]at this;exact this
  rw [e];exact hm'
 ·rintro q ⟨hmap,hs,hz,hB⟩;rw [List.take_of_length_le (by omega)]at hmap;refine hI _ _ (ac.no (by simp;omega) ?_);intro w11 hw11;have b11:Below q.heap.size q w11:=by subst hw11;exact aI q
  have hq8:Below w4.heap.size w8 q:=⟨by rw [hB.os, ←b48.os],by rw [hB.tape, ←b48.tape],by rw [hB.output, ←b48.output],by rw [hz];exact Q0 _,fun k hk=>hs k (by omega)⟩;have hq8':Below w4.heap.size w8 w11:=hq8.trans (b11.mono (by have:=hq8.size;omega));have hV11:bC w11 v s T:=(hV4.on b5 |> fun h5=>(hV4.on ⟨hB.os,hB.tape,hB.output,hB.size,hB.block⟩)).on b11;have t11:ap v w w11:=(ap.of_below b14).trans (ap.of_below (hB.trans (b11.mono hB.size)));have g11:=ag b11 (show q.heap[w5.heap.size]? =some (.cells #[ids.v,.map (some w4.heap.size),bO.v,bO.v] rA (0,0)) by rw [hs _ (by omega)];exact ag b8 g6);have lg11:=ag b11 (show q.heap[w6.heap.size]? =_ by rw [hs _ (by omega)];exact l8);have bx11:=boxes hq8';have m11:=hmap.on b11;have o11:w11.ownsRow 0 aV 1 ids.v ids.n (G.flatMap aC):=aB (aR oids8 fun k hk=>hs k (by have:=idsLt k hk;omega)) b11;subst hG;have bxL:w.heap.size<w11.heap.size∧w2.heap.size<w11.heap.size∧w6.heap.size<w11.heap.size∧w5.heap.size<w11.heap.size:=⟨(QV.1 bx11.1).1,(QV.1 bx11.2).1,(QV.1 lg11).1,(QV.1 g11).1⟩;have sz2:w.heap.size≤w2.heap.size:=QU b1.size b2.size;refine⟨_,bG lg11,ids.a,ids.n,ids.c,bG bx11.2,?_⟩;refine(uD w11 ids.n _ (fun i=>mZ s T i) v s T hV11 (by omega) ?_).mono ?_
  ·intro i hi q hVq tq;refine bT (by kernel_rfl) ?_;exact Fk q v s T hVq w.heap.size w2.heap.size ids (bD s T) (tq.held (by omega) bx11.1) (tq.held (by omega) bx11.2) (hV11.own_touch tq o11 (by decide)) hgh i (by omega)
  rintro e w12 ⟨al,rfl,oal,hV12,t12⟩;rw [hin,hn]at oal;have lg12:=t12.held (by omega) lg11;have g12:=t12.held (by omega) g11;have x12:=t12.held (by omega) bx11.1;have y12:=t12.held (by omega) bx11.2;have o12:=hV11.own_touch t12 o11 (by decide);have m12:=m11.same (t12.block _ m11.lt (by omega));refine⟨al.a,al.n,al.c,rfl,⟨bG lg12,trivial⟩,ah.mk _ rfl ⟨rfl,⟨_,by rw [ba g12];rfl⟩,bk g12,?_⟩⟩;intro w13 hw13;have g13:w13.heap[w5.heap.size]? =some (.cells #[ids.v,.map (some w4.heap.size),bO.v,al.v] rA (0,0)):=by subst hw13;exact bP g12 _
  have hs13:∀j,j≠w5.heap.size→w13.heap[j]? =w12.heap[j]? :=by
   intro j hj;subst hw13;exact au (by rw [ay];exact hj)
  have hV13:bC w13 v s T:=by subst hw13;exact hV12.put g12 (by decide) (by omega) _
  have t13:ap v w w13:=by subst hw13;exact(t11.trans t12).put (by omega) _
  have lg13:w13.heap[w6.heap.size]? =_:=(hs13 _ (by omega)).trans lg12;have x13:w13.heap[w.heap.size]? =_:=(hs13 _ (by omega)).trans x12;have y13:w13.heap[w2.heap.size]? =_:=(hs13 _ (by omega)).trans y12;have hR13:k_ w13 w5.heap.size (bD s T) (mZ s T) (d' s T) ids bO al w4.heap.size [] 0:=
   ⟨g13,aR o12 fun k hk=>hs13 k fun e=>aA o12 g12 (by decide) (by rw [hk,e]),m12.same (hs13 _ (by omega)),cr _ _ _ _ sN,rfl,(by intro i r h;cases h),aR (bw oal (Nat.zero_le _)) fun k hk=>hs13 k fun e=>aA oal g12 (by decide) (by rw [hk,e])⟩
  refine⟨ids.a,ids.n,ids.c,bG y13,?_⟩;intro I2 hI2;let Inv2 (i:Nat) (q:World):Prop:=∃rows rs,k_ q w5.heap.size (bD s T) (mZ s T) (d' s T) ids rows al w4.heap.size rs i∧q.ownsRow w.heap.size nQ 1 rows.v rows.n (rs.flatMap sN)∧bC q v s T∧ap v w q∧q.heap[w6.heap.size]? =some (.cells #[.pointer (some (nb w5))] 32 (0,0))∧q.heap[w.heap.size]? =some (.cells #[.pointer (some ⟨v,0,none⟩)] 69 (0,0))∧q.heap[w2.heap.size]? =some (.cells #[ids.v] cJ (0,0));have key2:=aU (α:=World) n Inv2 (fun i q=>I2 [.int .i64 (i:Int)] q) w13 ⟨bO,[],hR13,cr _ _ _ _ sN,hV13,t13,lg13,x13,y13⟩ ?_ ?_
  ·exact key2
  ·rintro i hi ih z ⟨rows,rs,hR,orow,hVz,tz,lgz,xz,yz⟩;have hiG:i< (bD s T).length:=by omega
   have zb:w.heap.size<z.heap.size∧w2.heap.size<z.heap.size∧w6.heap.size<z.heap.size∧w5.heap.size<z.heap.size:=⟨(QV.1 xz).1,(QV.1 yz).1,(QV.1 lgz).1,(QV.1 hR.blk).1⟩;have hlz:=LsAt.of_own cW hR.oi;obtain⟨p,hp,c0⟩:=aS hlz.r hiG rfl;have hnz:=hlz.n;refine hI2 _ _ (ac.yes (by simp;omega) (ah.mk p hp ⟨by omega,by omega,_,c0,?_⟩));intro w15 hw15 w16 hw16;refine EK hw15 hw16 rfl rfl ?_;intro w18 bi18 ba18 b18;have zs15:z.heap.size<w15.heap.size:=by subst hw15;rw [av];omega
   intro w19 hw19;have b19':Below w18.heap.size w18 w19:=by subst hw19;exact aI w18
   have b19:=ae b18 b19';have bi19:=ag b19' bi18;have ba19:=ag b19' ba18;have hR19:=hR.on b19;have hV19:=hVz.on b19;have lg19:=ag b19 lgz;have x19:=ag b19 xz;have y19:=ag b19 yz;have or19:=aB orow b19;have t19:ap v w w19:=tz.then_off b19 tz.size;refine⟨_,bG lg19,_,bG lg19,ah.mk _ rfl ⟨rows.a,rows.n,rows.c,by rw [ba hR19.blk];rfl,ids.a,ids.n,ids.c,bG y19,?_⟩⟩;refine(uD w19 ids.n _ (fun k=>d' s T i k) v s T hV19 (by omega) ?_).mono ?_
   ·intro k hk q hVq tq;refine bT (by kernel_rfl) ?_;refine EO q v s T hVq w6.heap.size z.heap.size w.heap.size w15.heap.size w2.heap.size w5.heap.size ids rows al w4.heap.size rs i i k ⟨by omega,by omega,by omega,by omega,by omega⟩ (hR19.touch hV19 tq) hgh hg2 (tq.held (by omega) lg19) (tq.held (by omega) bi19) (tq.held (by omega) x19) (tq.held (by omega) (by rw [gu hiG];exact ba19)) (tq.held (by omega) y19) hiG (by omega)
   rintro e w20 ⟨r,rfl,orw,hV20,t20⟩;rw [hin,hn]at orw;have hR20:=hR19.touch hV19 t20;have lg20:=t20.held (by omega) lg19;have x20:=t20.held (by omega) x19;have y20:=t20.held (by omega) y19;have or20:=hV19.own_touch t20 or19 (by decide);refine⟨r.a,r.n,r.c,rfl,⟨by rw [ba hR20.blk];rfl,trivial⟩,⟨bG lg20,trivial⟩,⟨bG lg20,trivial⟩,?_⟩;intro w21 hw21;have b21:Below w20.heap.size w20 w21:=by subst hw21;exact af _ _
   have lg21:=ag b21 lg20;have wb:w.heap.size≤w20.heap.size:=(t19.trans t20).size;obtain⟨rows',w22,hn22,hrun,own22,hB22,hk22⟩:=FR.push or20 r hw21 rfl wb (by have:=(LsAt.of_own FR or20).n;have:=hR.rl;omega) (by decide);refine⟨⟨by rw [ba (ag b21 hR20.blk)];rfl,trivial⟩,⟨bG lg21,trivial⟩,⟨bG lg21,trivial⟩,rows'.a,rows'.n,rows'.c,w22,hrun,?_⟩;have kp:∀ {k:Nat} {o:Obj},w20.heap[k]? =some o→rows.v.ownBlock≠some k→w22.heap[k]? =some o:=fun {k o} h hne=>(hk22 k (QV.1 h).1 hne).trans h;have lg22:=kp lg20 (aA or20 lg20 (by decide));have x22:=kp x20 (aA or20 x20 (by decide));have y22:=kp y20 (aA or20 y20 (by decide));have g22:=kp hR20.blk (aA or20 hR20.blk (by decide));have B22:=hB22 w20 (Below.refl _ _);have hV22:=hV20.growE B22 hvl or20 (by decide) hk22;have t22:ap v w w22:=(t19.trans t20).then_off B22 (Q0 _);refine⟨⟨bG lg22,trivial⟩,ah.mk _ rfl ⟨rfl,⟨_,by rw [ba g22];rfl⟩,bk g22,?_⟩⟩;intro w23 hw23;have hs23:∀j,j≠w5.heap.size→w23.heap[j]? =w22.heap[j]? :=by
    intro j hj;subst hw23;exact au (by rw [ay];exact hj)
   have same:∀ {B sz n:Nat} {e:TypeId} {u:Value} {xs:List Value},w20.ownsRow B e sz u n xs→e≠nQ→e≠rA→w23.ownsRow B e sz u n xs:=by
    intro B sz n e u xs h h1 h2;refine aR h fun k hk=>?_;rw [hs23 k fun e=>aA h hR20.blk h2 (by rw [hk,e])];exact hk22 k (cm h k hk).2 (bR h or20 h1 k hk)
   have own23:w23.ownsRow w.heap.size nQ 1 rows'.v rows'.n ((rs++ [r]).flatMap sN):=aR own22 fun k hk=>hs23 k fun e=>aA own22 g22 (by decide) (by rw [hk,e]);refine Ar.nat (i+1) rfl (by omega) (ih w23 ⟨rows',rs++ [r],?_,own23,?_,?_,(hs23 _ (by omega)).trans lg22,(hs23 _ (by omega)).trans x22,(hs23 _ (by omega)).trans y22⟩)
   ·refine⟨by subst hw23;exact bP g22 _,same hR20.oi (by decide) (by decide),?_,bw own23 (Nat.zero_le _),by have:=hR.rl;simp;omega,?_,same hR20.oal (by decide) (by decide)⟩
    ·exact hR20.map.same ((hs23 _ (by omega)).trans (hk22 _ hR20.map.lt (eE or20 hR20.map)))
    ·intro j r' hj;have hrl:=hR.rl;by_cases h:j<rs.length
     ·rw [List.getElem?_append_left h]at hj;exact same (hR20.each j r' hj) (by decide) (by decide)
     ·have hji:j=i:=by
       have:=(List.getElem?_eq_some_iff.1 hj).1;simp at this;omega
      subst hji;rw [List.getElem?_append_right (by omega),hrl,Nat.sub_self]at hj;cases hj;exact same (bw orw (Nat.zero_le _)) (by decide) (by decide)
   ·subst hw23;exact hV22.put g22 (by decide) (by omega) _
   ·subst hw23;exact t22.put (by omega) _
  ·rintro z ⟨rows,rs,hR,orow,hVz,tz,lgz,xz,yz⟩;rw [hn]at hR;refine hI2 _ _ (ac.no (by simp;omega) ⟨_,bG lgz,hVz,tz,?_⟩);rw [if_neg (by have:=hm;rw [hn]at*;omega)];exact⟨w5.heap.size,rfl,⟨ids,rows,al,w4.heap.size,rs,hR⟩,by omega⟩
def cnt:Nat→Nat→Nat
 |0,_=>0
 |k+1,x=>x%2+cnt k (x/2)
def s1 (x:Nat):Nat:=(x/2&&&6148914691236517205)+(x&&&6148914691236517205)
def s2 (x:Nat):Nat:=(x/4&&&3689348814741910323)+(x&&&3689348814741910323)
def s3 (x:Nat):Nat:=x/16+x
def s4 (x:Nat):Nat:=(x&&&1085102592571150095)+(x&&&1085102592571150095)/256
def s5 (x:Nat):Nat:=x+x/65536
theorem PD (x k:Nat) (hk:k≤64):Int.fdiv (x:Int) (2^(min (k:Int).toNat (IntKind.bits .u64)))=((x/2^k:Nat):Int):=by
 show Int.fdiv (x:Int) (2^(min k 64))=_;rw [Nat.min_eq_left hk,Int.fdiv_eq_ediv_of_nonneg _ (Int.pow_nonneg (by decide))];simp
theorem MO (x m:Nat) (hx:x<2^64) (hm:m<2^64):IntKind.wrap .u64 ((BitVec.ofInt (IntKind.bits .u64) (x:Int)&&&BitVec.ofInt (IntKind.bits .u64) (m:Int)).toNat:Int)=((x&&&m:Nat):Int):=by
 show IntKind.wrap .u64 ((BitVec.ofInt 64 (x:Int)&&&BitVec.ofInt 64 (m:Int)).toNat:Int)=_;rw [BitVec.toNat_and,fp _ hx,fp _ hm];exact jp _ (Nat.lt_of_le_of_lt Nat.and_le_left hx)
abbrev kn (w:World) (g:Nat) (s:ar) (T:List aP):Prop:=sx w g (bD s T) (mZ s T) (d' s T)
def oK (s:ar) (T:List aP) (id:Int):Option Nat:=(bD s T).idxOf? id
theorem BX {l:List Int} {a:Int} {i:Nat} (h:l.idxOf? a=some i):∃h:i<l.length,l[i]=a:=by
 have:=List.findIdx?_eq_some_iff_getElem.1 h;obtain⟨h1,h2,_⟩:=this;exact⟨h1,by simpa using h2⟩
theorem dr {s:ar} {T:List aP} {id:Int} {i:Nat} (h:oK s T id=some i):i< (bD s T).length∧(bD s T).getD i 0=id∧di s T id=true:=by
 obtain⟨h1,h2⟩:=BX h;exact⟨h1,by rw [gu h1];exact h2,(nJ s T id).1 (by rw [←h2];exact List.getElem_mem h1)⟩
theorem zA {s:ar} {T:List aP} {id:Int} (h:oK s T id=none):di s T id=false:=by
 have h1:=List.idxOf?_eq_none_iff.1 h;cases hh:di s T id with
 |false=>rfl
 |true=>exact absurd ((nJ s T id).2 hh) h1
theorem vw {s:ar} {T:List aP} (id:Int):(oK s T id).isSome=di s T id:=by
 cases h:oK s T id with
 |none=>exact(zA h).symm
 |some i=>exact(dr h).2.2.symm
def MS (s:ar) (T:List aP) (id:Int):Bool:=di s T id&&decide ((az s T).Canon [id])
theorem Mf:(Tryz.prog.info? aV).map (·.zero)=some (some (.int .i64 0)):=by kernel_rfl
theorem kx (w:World) (g:Nat) (s:ar) (T:List aP) (h:kn w g s T) (id:Int):
  CP 20 #[.pointer (some ⟨g,0,none⟩),.int .i64 id] w fun e w'=>e= .returned (.tuple #[.int .i64 (((oK s T id).getD 0:Nat):Int),.bool (oK s T id).isSome])∧w'=w:=by
 refine aO (Cm (some ⟨g,0,none⟩) id w) ?_;obtain⟨ids,rows,alone,mb,rs,hR⟩:=h;refine ac.no rfl (ah.mk _ rfl ⟨some mb,by rw [ba hR.blk];rfl,?_⟩);have hl:=fN nw nt Mf hR.map id;rw [uC]at hl;have e:((((bD s T).idxOf? id).map fun i:Nat=>Value.int .i64 (i:Int)).getD (.int .i64 0))= .int .i64 (((oK s T id).getD 0:Nat):Int):=by
  show _=Value.int .i64 ((((bD s T).idxOf? id).getD 0:Nat):Int);cases(bD s T).idxOf? id<;>rfl
 rw [e,Option.isSome_map]at hl;exact⟨_,_,w,hl,rfl,rfl⟩
theorem zl (w:World) (g:Nat) (s:ar) (T:List aP) (h:kn w g s T) (hn:(bD s T).length≤1032) (id:Int):
  CP 90 #[.pointer (some ⟨g,0,none⟩),.int .i64 id] w fun e w'=>e= .returned (.bool (MS s T id))∧w'=w:=by
 refine aO (Cv (some ⟨g,0,none⟩) id w) ?_;refine(kx w g s T h id).mono ?_;rintro e w1 ⟨rfl,rfl⟩;obtain⟨ids,rows,alone,mb,rs,hR⟩:=h;refine⟨_,_,rfl,ac.mk (fun h1=>?_) fun h1=>⟨?_,rfl⟩⟩
 ·obtain⟨i,hi⟩:=Option.isSome_iff_exists.1 h1;obtain⟨hi1,hi2,hi3⟩:=dr hi;have al1:=LsAt.of_own qV hR.oal;refine ah.mk _ rfl ⟨alone.a,alone.n,alone.c,by rw [ba hR.blk];rfl,?_⟩;rw [hi];refine(kY w1 alone.a alone.n alone.c _ (mZ s T) al1.r al1.n (by omega) i hi1).mono ?_;rintro e w2 ⟨rfl,rfl⟩;refine⟨_,rfl,?_,rfl⟩;unfold MS mZ;rw [hi2,hi3,Bool.true_and]
 ·rw [vw]at h1;unfold MS;rw [h1,Bool.false_and]
theorem Ju {s:ar} {T:List aP} {w:World} {g:Nat} {ids rows alone:Sl} {mb:Nat} {rs:List Sl} (hR:k_ w g (bD s T) (mZ s T) (d' s T) ids rows alone mb rs (bD s T).length) (i:Nat) (hi:i< (bD s T).length):∃(p:Addr) (r:Sl),rows.a=some p∧i<rows.n∧w.cell? (p.add (i*1))=some (.slice r.a r.n r.c)∧LsAt df 1 w r (bx (bD s T).length (d' s T i)):=by
 have hls:=LsAt.of_own FR hR.orows;have hl:=hR.rl;have hi2:i<rs.length:=by omega
 obtain⟨p,hp,c0⟩:=aS hls.r hi2 (v:=rs[i].v) rfl;exact⟨p,rs[i],hp,by rw [hls.n];exact hi2,c0,LsAt.of_own qV (hR.each i _ (QW hi2))⟩
theorem jY (w:World) (g:Nat) (s:ar) (T:List aP) (h:kn w g s T):
  CP 19 #[.pointer (some ⟨g,0,none⟩)] w fun e w'=>e= .returned (.int .i64 (((bD s T).length:Nat):Int))∧w'=w:=by
 refine aO (Dh (some ⟨g,0,none⟩) w) ?_;obtain⟨ids,rows,alone,mb,rs,hR⟩:=h;refine ac.no rfl (ah.mk _ rfl ⟨ids.a,ids.n,ids.c,by rw [ba hR.blk];rfl,?_,rfl⟩);rw [(LsAt.of_own cW hR.oi).n]
theorem zt (w:World) (g:Nat) (s:ar) (T:List aP) (h:kn w g s T) (place:Int):
  CP 38 #[.pointer (some ⟨g,0,none⟩),.int .i64 place] w fun e w'=>e= .returned (if 0≤place∧place< ((bD s T).length:Int)then .tuple #[.int .i64 ((bD s T).getD place.toNat 0),.bool true]else .tuple #[.int .i64 0,.bool false])∧w'=w:=by
 refine aT (A9 (some ⟨g,0,none⟩) place w (fun u w'=>u=(if 0≤place∧place< ((bD s T).length:Int)then .tuple #[.int .i64 ((bD s T).getD place.toNat 0),.bool true]else .tuple #[.int .i64 0,.bool false])∧w'=w) ?_) (by rintro v w' ⟨rfl,h⟩;exact⟨rfl,h⟩);refine ac.mk (fun h1=>⟨?_,rfl⟩) fun h1=>?_
 ·rw [if_neg (by have:=QQ h1;omega)]
 have h1:=QX h1;refine(jY w g s T h).mono ?_;rintro e w1 ⟨rfl,rfl⟩;refine⟨_,rfl,ac.mk (fun h2=>⟨?_,rfl⟩) fun h2=>?_⟩
 ·rw [if_neg (by have:=QQ h2;omega)]
 have h2:=QX h2;obtain⟨ids,rows,alone,mb,rs,hR⟩:=h;obtain⟨i,rfl⟩:∃i:Nat,place=i:=⟨place.toNat,by omega⟩;have hi:i< (bD s T).length:=by omega
 have hls:=LsAt.of_own cW hR.oi;obtain⟨p,hp,c0⟩:=aS hls.r hi rfl;have:=hls.n;refine ah.mk _ rfl ⟨ids.a,ids.n,ids.c,by rw [ba hR.blk];rfl,ah.mk p hp ⟨by omega,by omega,_,c0,?_,rfl⟩⟩;rw [if_pos ⟨by omega,by omega⟩];show _=Value.tuple #[.int .i64 ((bD s T).getD i 0),.bool true];rw [gu hi]
theorem xy (w:World) (a:Option Addr) (c:Nat) (xs:List Int) (hr:Rw df 1 w a xs) (hl:xs.length≤1000000000):
  CP 162 #[.slice a xs.length c] w fun e w'=>∃s:Sl,e= .returned s.v∧s.n=xs.length∧w'.ownsRow w.heap.size gR 1 s.v s.n (xs.flatMap df)∧Below w.heap.size w w':=by
 refine aO (zF a xs.length c w) ?_;refine ac.mk (fun h0=>?_) fun h0=>?_
 ·have hx:xs= []:=by
   cases xs with
   |nil=>rfl
   |cons x t=>
    obtain⟨p,hp,_⟩:=hr 0 x rfl;rw [hp]at h0;cases h0
  subst hx;exact⟨⟨none,0,0⟩,rfl,rfl,c_ _ _ _ _,Below.refl _ _⟩
 ·obtain⟨p,rfl⟩:∃p,a=some p:=by
   cases a with
   |none=>cases h0
   |some p=>exact⟨p,rfl⟩
  intro w1 hw1;obtain⟨A,C,w2,h2,h3,h4⟩:=jk (enc:=df) (sz:=1) (fun _=>rfl) (by decide) (fun x u hu=>by rw [List.mem_singleton.1 hu];rfl) nQ gR CB uQ rfl w ⟨some p,xs.length,c⟩ xs (.inr ⟨p,rfl⟩) hr rfl (by simp only;omega) (by simp only;omega) w1 hw1;exact⟨A,xs.length,C,w2,h2,⟨A,xs.length,C⟩,rfl,rfl,h3,h4⟩
theorem Ed (w:World) (g:Nat) (s:ar) (T:List aP) (h:kn w g s T) (hn:(bD s T).length≤1032) (id:Int):
  CP 103 #[.pointer (some ⟨g,0,none⟩),.int .i64 id] w fun e w'=>Below w.heap.size w w'∧((oK s T id=none∧e= .returned (.slice none 0 0))∨∃i l,oK s T id=some i∧e= .returned (Sl.v l)∧w'.ownsRow w.heap.size gR 1 l.v l.n ((bx (bD s T).length (d' s T i)).flatMap df)):=by
 refine aT (yC (some ⟨g,0,none⟩) id w (fun u w'=>Below w.heap.size w w'∧((oK s T id=none∧u= .slice none 0 0)∨∃i l,oK s T id=some i∧u=Sl.v l∧w'.ownsRow w.heap.size gR 1 l.v l.n ((bx (bD s T).length (d' s T i)).flatMap df))) ?_) (by rintro v w' ⟨h1,⟨h2,rfl⟩ |⟨i,l,h2,rfl,h3⟩⟩;exact⟨h1,.inl ⟨h2,rfl⟩⟩;exact⟨h1,.inr ⟨i,l,h2,rfl,h3⟩⟩);refine(kx w g s T h id).mono ?_;rintro e w1 ⟨rfl,rfl⟩;obtain⟨ids,rows,alone,mb,rs,hR⟩:=h;refine⟨_,_,rfl,ac.mk (fun h1=>⟨Below.refl _ _,.inl ⟨?_,rfl⟩⟩) fun h1=>?_⟩
 ·cases hp:oK s T id with
  |none=>rfl
  |some i=>rw [hp]at h1;cases h1
 ·obtain⟨i,hi⟩:=Option.isSome_iff_exists.1 (by simpa using h1);obtain⟨hi1,hi2,hi3⟩:=dr hi;obtain⟨p,r,hp,hin,hc,hls⟩:=Ju hR i hi1;rw [hi];refine ah.mk _ rfl ⟨rows.a,rows.n,rows.c,by rw [ba hR.blk];rfl,ah.mk p hp ⟨by omega,by show((i:Nat):Int) <_;omega,r.a,r.n,r.c,hc,?_⟩⟩;rw [hls.n];refine(xy w1 r.a r.c _ hls.r (by rw [cS];omega)).mono ?_;rintro e w2 ⟨l,rfl,hl,ho,b2⟩;exact⟨l.a,l.n,l.c,rfl,b2,.inr ⟨i,l,rfl,rfl,ho⟩⟩
def fR (V:Voc) (ids:List Int):Option Nat→Prop
 |none=>∀(i:Nat) (h:i<ids.length),V.Has ids[i]∧V.Canon (ids.take (i+1))
 |some k=>(∀(i:Nat) (h:i<ids.length),i<k→V.Has ids[i]∧V.Canon (ids.take (i+1)))∧∃h:k<ids.length,¬(V.Has ids[k]∧V.Canon (ids.take (k+1)))
theorem eA {s:ar} {T:List aP} (hok:fW T) (t:Int):di s T t=true↔(az s T).Has t:=by
 unfold di;rw [decide_eq_true_eq,gY hok];exact Or.comm
theorem lS (w:World) (x:mR) (s:ar) (T:List aP) (h:fY w x s T) (A:Option Addr) (C:Nat) (ids:List Int) (hr:Rw aC 1 w A ids) (hC:ids.length≤C) (hl:ids.length≤10000):
  CP 18 #[x.v,.slice A ids.length C] w fun e w'=>∃o,e= .returned (.int .i64 (LF o))∧fR (az s T) ids o∧Below w.heap.size w w':=by
 refine aO (Bf x.t.b.a x.t.b.n x.t.b.c x.t.m.a x.t.m.n x.t.m.c x.b.b.a x.b.b.n x.b.b.c x.b.m.a x.b.m.n x.b.m.c x.sp.a x.sp.n x.sp.c A ids.length C w) ?_;intro w1 hw1;have hb1:Below w.heap.size w w1:=by subst hw1;exact af _ _
 have l1:w1.heap[w.heap.size]? =some (.cells x.cells Ds (0,0)):=by subst hw1;exact ak _ _
 have hok:=h.ok;intro I hI;have key:=aU (α:=Int×World) ids.length (fun i y=>(∀(j:Nat) (h:j<ids.length),j<i→(az s T).Has ids[j]∧(az s T).Canon (ids.take (j+1)))∧Below w1.heap.size w1 y.2) (fun i y=>I [.int .i64 (i:Int),.int .i64 y.1] y.2) (0,w1) ⟨fun j _ hj=>absurd hj (Nat.not_lt_zero j),Below.refl _ _⟩ ?_ ?_
 ·exact key
 ·rintro i hi ih ⟨y,q⟩ ⟨hinv,hB⟩;change Below w1.heap.size w1 q at hB;refine hI _ y q (ac.yes (by simp;omega) ?_);intro w3 hw3;have b3:Below q.heap.size q w3:=by subst hw3;exact aI q
  have hB3:=ae hB b3;have hw:=ae hb1 hB3;obtain⟨p,hp,c0⟩:=aS (hr.on hw) hi rfl;refine⟨_,_,_,_,_,_,_,_,_,_,_,_,_,_,_,ko (ag hB3 l1),ah.mk p hp ⟨by omega,by omega,_,c0,?_⟩⟩;refine(oJ w3 x s T (h.on hw) ids[i]).mono ?_;rintro e w4 ⟨rfl,b4⟩;have hB4:=ae hB3 b4;have hw4:=ae hb1 hB4;refine⟨_,rfl,ac.mk (fun h0=>?_) fun h0=>?_⟩
  ·refine⟨some i,rfl,⟨fun j hj hji=>hinv j hj hji,hi,fun e=>?_⟩,hw4⟩;rw [(eA hok _).2 e.1]at h0;cases h0
  ·have hhas:(az s T).Has ids[i]:=(eA hok _).1 (by simpa using h0);have htk:ids.take (i+1)=ids.take i++ [ids[i]]:=by rw [List.take_add_one,QW hi];rfl
   have hall:∀t∈ids.take (i+1),(az s T).Has t:=by
    intro t ht;obtain⟨j,hj,rfl⟩:=List.mem_take_iff_getElem.1 ht;by_cases e:j=i
    ·subst e;exact hhas
    ·exact(hinv j (by omega) (by omega)).1
   refine⟨_,_,_,_,_,_,_,_,_,_,_,_,_,_,_,ko (ag hB4 l1),Ar.nat (i+1) rfl (by omega) ⟨by omega,by omega,by omega,trivial,trivial,?_⟩⟩;have hrow:=((hr.on hw4).cut 0 C hC).take (i+1);rw [List.drop_zero]at hrow;have hcl:CP 29 #[x.v,.slice (bE A 0 C 1) (i+1-0) (C-0)] w4 fun e w'=>e= .returned (.bool (decide ((az s T).Canon (ids.take (i+1)))))∧Below w4.heap.size w4 w':=by
    rw [show i+1-0=(ids.take (i+1)).length by rw [List.length_take];omega];exact tK w4 x s T (h.on hw4) _ _ _ hrow (by rw [List.length_take];omega) hall
   refine hcl.mono ?_;rintro e w5 ⟨rfl,b5⟩;have hB5:=ae hB4 b5;refine⟨_,rfl,ac.mk (fun h1=>?_) fun h1=>?_⟩
   ·refine⟨some i,rfl,⟨fun j hj hji=>hinv j hj hji,hi,fun e=>?_⟩,ae hb1 hB5⟩;rw [QY e.2]at h1;cases h1
   ·have h1:(az s T).Canon (ids.take (i+1)):=by simpa using h1
    refine Ar.nat (i+1) rfl (by omega) (ih (y,w5) ⟨fun j hj hji=>?_,hB5⟩);by_cases e:j=i
    ·subst e;exact⟨hhas,h1⟩
    ·exact hinv j hj (by omega)
 ·rintro⟨y,q⟩ ⟨hinv,hB⟩;exact hI _ y q (ac.no (by simp) ⟨none,rfl,fun j hj=>hinv j hj hj,ae hb1 hB⟩)
theorem LM (w w1:World) (xs:List Int) (c:Array Value) (hc:c=(xs.map fun n=>Value.int .i64 n).toArray) (hw1:w1=w.alloc (.cells c aV)):Rw aC 1 w1 (some (nb w)) xs:=by
 intro j x hj;have l1:w1.heap[w.heap.size]? =some (.cells c aV (0,0)):=by subst hw1;exact ak _ _
 refine⟨nb w,rfl,(QV.1 l1).1,fun k v hk=>?_⟩
 match k,hk with
 |0,hk=>
  cases hk;rw [ax,Nat.mul_one,aj _ _ l1,hc];simp [hj]
theorem F3 {w:World} {v:Nat} {y:mR} {s:ar} {T:List aP} (h:BO w v y s T):(bD s T).length≤1006∧(((bD s T).length*(bD s T).length:Nat):Int)≤1048576:=by
 have h1:=h.now.ok.most;have h2:=h.few;have h3:=h.ids;have hT:T.length≤1000:=h1;have hl:(bD s T).length≤1006:=by rw [ew];omega
 refine⟨hl,?_⟩;have:(bD s T).length*(bD s T).length≤1006*1006:=Nat.mul_le_mul hl hl;omega
theorem mc {V:Voc} {ids:List Int} {o o':Option Nat} (h:fR V ids o) (h':fR V ids o'):o=o':=by
 cases o with
 |none=>
  cases o' with
  |none=>rfl
  |some k=>obtain⟨_,hk,h2⟩:=h';exact absurd (h k hk) h2
 |some k=>
  obtain⟨h1,hk,h2⟩:=h;cases o' with
  |none=>exact absurd (h' k hk) h2
  |some k'=>
   obtain⟨h1',hk',h2'⟩:=h';rcases Nat.lt_trichotomy k k' with h |h |h
   ·exact absurd (h1' k hk h) h2
   ·rw [h]
   ·exact absurd (h1 k' hk' h) h2'
open Go Go.Value
def QM (a:OA) (b c:Nat) (d:OA) (f g:Nat) (h:OA) (i j:Nat) (k:OA) (l m:Nat) (n:OA) (o p:Nat) (q:Int) (w:World) (R:RW):Prop:=
 ∀r,r=w.alloc (.cells #[slice a b c,slice d f g,slice h i j,slice k l m] 27)→
 ∃s t x y z a1 b1 c1 d1 e1 f1 g1,(r.cell? (nb w)=some (slice s t x)∧r.cell? ((nb w).add 1)=some (slice y z a1)∧r.cell? ((nb w).add 2)=some (slice b1 c1 d1)∧r.cell? ((nb w).add 3)=some (slice e1 f1 g1)∧True)∧
 CP 11 #[agg #[slice s t x,slice y z a1,slice b1 c1 d1,slice e1 f1 g1]] r (fun h1 i1=>
 ∃j1,h1= .returned (int .i64 j1)∧
 ac (decide (j1>0))
 (CP 35 #[] i1 (fun k1 l1=>
 ∃m1,k1= .returned (bool m1)∧
 R (bool m1) l1))
 (ac (decide ((o:Int)>30))
 (CP 35 #[] i1 (fun n1 o1=>
 ∃p1,n1= .returned (bool p1)∧
 R (bool p1) o1))
 (CP 35 #[] i1 (fun q1 r1=>
 ∃s1,q1= .returned (bool s1)∧
 ac (!s1)
 (CP 35 #[] r1 (fun t1 u1=>
 ∃v1,t1= .returned (bool v1)∧
 R (bool v1) u1))
 (∃x1 y1 z1 a2 b2 c2 d2 e2 f2 g2 h2 i2,(r1.cell? (nb w)=some (slice x1 y1 z1)∧r1.cell? ((nb w).add 1)=some (slice a2 b2 c2)∧r1.cell? ((nb w).add 2)=some (slice d2 e2 f2)∧r1.cell? ((nb w).add 3)=some (slice g2 h2 i2)∧True)∧
 (40:Int)≠0∧
 CP 36 #[agg #[slice x1 y1 z1,slice a2 b2 c2,slice d2 e2 f2,slice g2 h2 i2],int .i64 (IntKind.wrap .i64 (Int.tmod q 40))] r1 (fun j2 k2=>
 ∃l2 m2 n2 o2 p2 q2 r2 s2 t2 u2 v2 x2 y2 z2 a3 b3 c3 d3,j2= .returned (tuple #[pointer l2,pointer m2,pointer n2,agg #[slice o2 p2 q2,slice r2 s2 t2,slice u2 v2 x2,slice y2 z2 a3,slice b3 c3 d3]])∧
 ∀e3,e3=k2.alloc (.cells #[slice none 0 0,slice none 0 0,slice none 0 0,slice none 0 0,slice none 0 0] 40)→
 aE e3 (nb k2) (fun f3=>
 ac (Option.isNone l2)
 (R (bool false) f3)
 (CP 51 #[pointer l2,slice n o p] f3 (fun g3 h3=>
 ∃i3 j3 k3 l3,g3= .returned (tuple #[agg #[slice i3 j3 k3],int .i64 l3])∧
 ∀m3,m3=h3.alloc (.cells #[slice none 0 0] 88)→
 (slice i3 j3 k3).oneCell'=true∧(∃u,m3.cell? (nb h3)=some u)∧m3.frozen? (nb h3)=false∧
 ∀n3,n3=(m3.setCell (nb h3) (slice i3 j3 k3))→
 CP 52 #[pointer l2,slice n o p] n3 (fun o3 p3=>
 ∃q3 r3 s3 t3,o3= .returned (tuple #[slice q3 r3 s3,int .i64 t3])∧
 ∀u3:KW,(∀(v3:Int) (x3:World),(ac (l3 != v3)
 (R (bool false) x3)
 (ac (v3 != 0)
 (∃y3 z3 a4,(x3.cell? (nb h3)=some (slice y3 z3 a4)∧True)∧
 CP 43 #[agg #[slice y3 z3 a4]] x3 (fun b4 c4=>
 ∃d4,b4= .returned (bool d4)∧
 ac d4
 (ac ((r3:Int)==0)
 (R (bool (t3==v3)) c4)
 (R (bool false) c4))
 (R (bool false) c4)))
 (∃e4 f4 g4,(x3.cell? (nb h3)=some (slice e4 f4 g4)∧True)∧
 CP 50 #[pointer l2,int .i64 (o:Int),agg #[slice e4 f4 g4]] x3 (fun h4 i4=>
 ∃j4 k4 l4 m4,h4= .returned (tuple #[slice j4 k4 l4,int .i64 m4])∧
 ∀n4,n4=i4.drew→
 ac (m4 != 0)
 (R (bool false) n4)
 (CP 28 #[slice j4 k4 l4,slice n o p] n4 (fun o4 p4=>
 ∃q4,o4= .returned (bool q4)∧
 ac (!q4)
 (R (bool false) p4)
 (∃r4 s4 t4,(p4.cell? (nb h3)=some (slice r4 s4 t4)∧True)∧
 CP 45 #[pointer l2,int .i64 (o:Int)] p4 (fun u4 v4=>
 ∃x4 y4 z4,u4= .returned (agg #[slice x4 y4 z4])∧
 (v4.cell? (nb h3)=some (slice r4 s4 t4)∧True)∧
 CP 42 #[agg #[slice r4 s4 t4],agg #[slice x4 y4 z4]] v4 (fun a5 b5=>
 ∃c5,a5= .returned (int .i64 c5)∧
 ac (decide (c5≥0))
 (R (bool false) b5)
 (ac (t3 != 0)
 (∀d5,d5=b5.drew→
 ac (t3==9)
 (∃e5 f5 g5,(d5.cell? (nb h3)=some (slice e5 f5 g5)∧True)∧
 CP 53 #[int .u64 1] d5 (fun h5 i5=>
 ∃j5 k5 l5,h5= .returned (agg #[slice j5 k5 l5])∧
 (i5.cell? (nb h3)=some (slice e5 f5 g5)∧True)∧
 ∀m5,m5=i5.alloc (.cells #[slice j5 k5 l5] 88)→
 (m5.cell? (nb h3)=some (slice e5 f5 g5)∧True)∧
 CP 40 #[agg #[slice e5 f5 g5],slice (some (nb i5)) 1 1] m5 (fun n5 o5=>
 ∃p5 q5 r5,n5= .returned (agg #[slice p5 q5 r5])∧
 CP 45 #[pointer l2,int .i64 (o:Int)] o5 (fun s5 t5=>
 ∃u5 v5 x5,s5= .returned (agg #[slice u5 v5 x5])∧
 CP 42 #[agg #[slice p5 q5 r5],agg #[slice u5 v5 x5]] t5 (fun y5 z5=>
 ∃a6,y5= .returned (int .i64 a6)∧
 R (bool (a6==0)) z5)))))
 (R (bool false) d5))
 (CP 51 #[pointer l2,slice q3 r3 s3] b5 (fun b6 c6=>
 ∃d6 e6 f6 g6,b6= .returned (tuple #[agg #[slice d6 e6 f6],int .i64 g6])∧
 ∀h6,h6=c6.alloc (.cells #[slice none 0 0] 88)→
 (slice d6 e6 f6).oneCell'=true∧(∃u,h6.cell? (nb c6)=some u)∧h6.frozen? (nb c6)=false∧
 ∀i6,i6=(h6.setCell (nb c6) (slice d6 e6 f6))→
 ∀j6,j6=i6.drew→
 ac (g6==0)
 (∃k6 l6 m6,(j6.cell? (nb c6)=some (slice k6 l6 m6)∧True)∧
 ∃n6 o6 p6,(j6.cell? (nb h3)=some (slice n6 o6 p6)∧True)∧
 CP 53 #[int .u64 1] j6 (fun q6 r6=>
 ∃s6 t6 u6,q6= .returned (agg #[slice s6 t6 u6])∧
 (r6.cell? (nb h3)=some (slice n6 o6 p6)∧True)∧
 (r6.cell? (nb c6)=some (slice k6 l6 m6)∧True)∧
 ∀v6,v6=r6.alloc (.cells #[slice s6 t6 u6] 88)→
 (v6.cell? (nb h3)=some (slice n6 o6 p6)∧True)∧
 (v6.cell? (nb c6)=some (slice k6 l6 m6)∧True)∧
 CP 40 #[agg #[slice n6 o6 p6],slice (some (nb r6)) 1 1] v6 (fun x6 y6=>
 ∃z6 a7 b7,x6= .returned (agg #[slice z6 a7 b7])∧
 (y6.cell? (nb c6)=some (slice k6 l6 m6)∧True)∧
 CP 42 #[agg #[slice k6 l6 m6],agg #[slice z6 a7 b7]] y6 (fun c7 d7=>
 ∃e7,c7= .returned (int .i64 e7)∧
 ac (e7==0)
 (ac ((r3:Int)==(o:Int))
 (∃f7 g7 h7 i7 j7 k7 l7 m7 n7 o7 p7 q7 r7 s7 t7,(d7.cell? (nb k2)=some (slice f7 g7 h7)∧d7.cell? ((nb k2).add 1)=some (slice i7 j7 k7)∧d7.cell? ((nb k2).add 2)=some (slice l7 m7 n7)∧d7.cell? ((nb k2).add 3)=some (slice o7 p7 q7)∧d7.cell? ((nb k2).add 4)=some (slice r7 s7 t7)∧True)∧
 CP 18 #[agg #[slice f7 g7 h7,slice i7 j7 k7,slice l7 m7 n7,slice o7 p7 q7,slice r7 s7 t7],slice q3 r3 s3] d7 (fun u7 v7=>
 ∃x7,u7= .returned (int .i64 x7)∧
 R (bool (decide (x7<0))) v7))
 (R (bool false) d7))
 (R (bool false) d7)))))
 (R (bool false) j6)))))))))))))→u3 [int .i64 v3] x3)→
 (40:Int)≠0∧
 ac (decide ((o:Int)>(IntKind.wrap .i64 (Int.tmod q 40))))
 (u3 [int .i64 3] p3)
 (∃y7 z7 a8 b8 c8 d8 e8 f8 g8 h8 i8 j8 k8 l8 m8,(p3.cell? (nb k2)=some (slice y7 z7 a8)∧p3.cell? ((nb k2).add 1)=some (slice b8 c8 d8)∧p3.cell? ((nb k2).add 2)=some (slice e8 f8 g8)∧p3.cell? ((nb k2).add 3)=some (slice h8 i8 j8)∧p3.cell? ((nb k2).add 4)=some (slice k8 l8 m8)∧True)∧
 CP 17 #[agg #[slice y7 z7 a8,slice b8 c8 d8,slice e8 f8 g8,slice h8 i8 j8,slice k8 l8 m8],slice n o p] p3 (fun n8 o8=>
 ∃p8,n8= .returned (int .i64 p8)∧
 ac (decide (p8≥0))
 (u3 [int .i64 4] o8)
 (∃q8 r8 s8 t8 v8 x8 y8 z8 a9 b9 c9 d9 e9 f9 g9,(o8.cell? (nb k2)=some (slice q8 r8 s8)∧o8.cell? ((nb k2).add 1)=some (slice t8 v8 x8)∧o8.cell? ((nb k2).add 2)=some (slice y8 z8 a9)∧o8.cell? ((nb k2).add 3)=some (slice b9 c9 d9)∧o8.cell? ((nb k2).add 4)=some (slice e9 f9 g9)∧True)∧
 CP 18 #[agg #[slice q8 r8 s8,slice t8 v8 x8,slice y8 z8 a9,slice b9 c9 d9,slice e9 f9 g9],slice n o p] o8 (fun h9 i9=>
 ∃j9,h9= .returned (int .i64 j9)∧
 ac (decide (j9≥0))
 (u3 [int .i64 8] i9)
 (u3 [int .i64 0] i9))))))))) [slice o2 p2 q2,slice r2 s2 t2,slice u2 v2 x2,slice y2 z2 a3,slice b3 c3 d3] 0))))))
theorem Ec (a:OA) (b c:Nat) (d:OA) (f g:Nat) (h:OA) (i j:Nat) (k:OA) (l m:Nat) (n:OA) (o p:Nat) (q:Int) (w:World) (R:RW) (hh:QM a b c d f g h i j k l m n o p q w R):CR 9 #[agg #[slice a b c,slice d f g,slice h i j,slice k l m],slice n o p,int .u8 q] w R:=
 aF (fn:=Tryz.f9) (by kernel_rfl) (by kernel_rfl) (by kernel_rfl) (by kernel_rfl) (by kernel_rfl) hh
def QD (w:World) (R:RW):Prop:=
 CP 31 #[agg #[bool false,slice none 0 0,slice none 0 0,slice none 0 0,slice none 0 0,slice none 0 0]] w (fun a b=>
 ∃c d f,a= .returned (tuple #[pointer c,int .i64 d,int .i64 f])∧
 CP 32 #[pointer c,int .i64 1048576] b (fun g h=>
 ∃i j,g= .returned (tuple #[pointer i,int .i64 j])∧
 CP 54 #[pointer i,int .i64 1048576] h (fun k l=>
 ∃m n,k= .returned (tuple #[pointer m,int .i64 n])∧
 CP 56 #[pointer m] l (fun o p=>
 ∃q,o= .returned (pointer q)∧
 CP 55 #[pointer q,pointer i,int .i64 3] p (fun r s=>
 ∃t x,r= .returned (tuple #[pointer t,int .i64 x])∧
 ∀y,y=s.alloc (.cells #[int .i64 97,int .i64 98] 3)→
 CP 51 #[pointer t,slice (some (nb s)) 2 2] y (fun z a1=>
 ∃b1 c1 d1 e1,z= .returned (tuple #[agg #[slice b1 c1 d1],int .i64 e1])∧
 ∀f1,f1=a1.alloc (.cells #[slice none 0 0] 88)→
 (slice b1 c1 d1).oneCell'=true∧(∃u,f1.cell? (nb a1)=some u)∧f1.frozen? (nb a1)=false∧
 ∀g1,g1=(f1.setCell (nb a1) (slice b1 c1 d1))→
 ac (x==0)
 (CP 45 #[pointer t,int .i64 2] g1 (fun h1 i1=>
 ∃j1 k1 l1,h1= .returned (agg #[slice j1 k1 l1])∧
 CP 46 #[agg #[slice j1 k1 l1]] i1 (fun m1 n1=>
 ∃o1,m1= .returned (string o1)∧
 ac (o1.toList==(⟨#[54,53,53,51,54]⟩:ByteArray).toList)
 (∃p1 q1 r1,(n1.cell? (nb a1)=some (slice p1 q1 r1)∧True)∧
 CP 46 #[agg #[slice p1 q1 r1]] n1 (fun s1 t1=>
 ∃u1,s1= .returned (string u1)∧
 ac (u1.toList==(⟨#[50,52,57,51,48]⟩:ByteArray).toList)
 (R (bool (e1==0)) t1)
 (R (bool false) t1)))
 (R (bool false) n1))))
 (R (bool false) g1)))))))
theorem CM (w:World) (R:RW) (hh:QD w R):CR 35 #[] w R:=
 aF (fn:=Tryz.f35) (by kernel_rfl) (by kernel_rfl) (by kernel_rfl) (by kernel_rfl) (by kernel_rfl) hh
def P6 (a:OA) (b c:Nat) (d:OA) (f g:Nat) (h:OA) (i j:Nat) (k:OA) (l m:Nat) (n:Int) (w:World) (R:RW):Prop:=
 ∀o,o=w.alloc (.cells #[slice a b c,slice d f g,slice h i j,slice k l m] 27)→
 ∀p,p=o.alloc (.cells #[slice none 0 0,slice none 0 0,slice none 0 0,slice none 0 0,slice none 0 0] 40)→
 ∃q r s t u x y z a1 b1 c1 d1,(p.cell? (nb w)=some (slice q r s)∧p.cell? ((nb w).add 1)=some (slice t u x)∧p.cell? ((nb w).add 2)=some (slice y z a1)∧p.cell? ((nb w).add 3)=some (slice b1 c1 d1)∧True)∧
 CP 58 #[agg #[slice q r s,slice t u x,slice y z a1,slice b1 c1 d1]] p (fun e1 f1=>
 ∃g1 h1 i1 j1 k1 l1 m1 n1 o1 p1 q1 r1 s1 t1 u1 v1,e1= .returned (tuple #[pointer g1,agg #[slice h1 i1 j1,slice k1 l1 m1,slice n1 o1 p1,slice q1 r1 s1,slice t1 u1 v1]])∧
 ∀x1,x1=f1.alloc (.cells #[slice none 0 0,slice none 0 0,slice none 0 0,slice none 0 0,slice none 0 0] 40)→
 aE x1 (nb f1) (fun y1=>
 CP 32 #[pointer g1,int .i64 1048576] y1 (fun z1 a2=>
 ∃b2 c2,z1= .returned (tuple #[pointer b2,int .i64 c2])∧
 CP 54 #[pointer b2,int .i64 1048576] a2 (fun d2 e2=>
 ∃f2 g2,d2= .returned (tuple #[pointer f2,int .i64 g2])∧
 CP 56 #[pointer f2] e2 (fun h2 i2=>
 ∃j2,h2= .returned (pointer j2)∧
 CP 55 #[pointer j2,pointer b2,int .i64 n] i2 (fun k2 l2=>
 ∃m2 n2,k2= .returned (tuple #[pointer m2,int .i64 n2])∧
 ac (c2 != 0)
 (∀o2,o2=l2.drew→
 ∃p2 q2 r2 s2 t2 u2 v2 x2 y2 z2 a3 b3 c3 d3 e3,(o2.cell? (nb f1)=some (slice p2 q2 r2)∧o2.cell? ((nb f1).add 1)=some (slice s2 t2 u2)∧o2.cell? ((nb f1).add 2)=some (slice v2 x2 y2)∧o2.cell? ((nb f1).add 3)=some (slice z2 a3 b3)∧o2.cell? ((nb f1).add 4)=some (slice c3 d3 e3)∧True)∧
 aE o2 (nb o) (fun f3=>
 ∃g3 h3 i3 j3 k3 l3 m3 n3 o3 p3 q3 r3 s3 t3 u3,(f3.cell? (nb o)=some (slice g3 h3 i3)∧f3.cell? ((nb o).add 1)=some (slice j3 k3 l3)∧f3.cell? ((nb o).add 2)=some (slice m3 n3 o3)∧f3.cell? ((nb o).add 3)=some (slice p3 q3 r3)∧f3.cell? ((nb o).add 4)=some (slice s3 t3 u3)∧True)∧
 R (tuple #[pointer none,pointer none,pointer none,agg #[slice g3 h3 i3,slice j3 k3 l3,slice m3 n3 o3,slice p3 q3 r3,slice s3 t3 u3]]) f3) [slice p2 q2 r2,slice s2 t2 u2,slice v2 x2 y2,slice z2 a3 b3,slice c3 d3 e3] 0)
 (ac (g2 != 0)
 (∀v3,v3=l2.drew→
 ∃x3 y3 z3 a4 b4 c4 d4 e4 f4 g4 h4 i4 j4 k4 l4,(v3.cell? (nb f1)=some (slice x3 y3 z3)∧v3.cell? ((nb f1).add 1)=some (slice a4 b4 c4)∧v3.cell? ((nb f1).add 2)=some (slice d4 e4 f4)∧v3.cell? ((nb f1).add 3)=some (slice g4 h4 i4)∧v3.cell? ((nb f1).add 4)=some (slice j4 k4 l4)∧True)∧
 aE v3 (nb o) (fun m4=>
 ∃n4 o4 p4 q4 r4 s4 t4 u4 v4 x4 y4 z4 a5 b5 c5,(m4.cell? (nb o)=some (slice n4 o4 p4)∧m4.cell? ((nb o).add 1)=some (slice q4 r4 s4)∧m4.cell? ((nb o).add 2)=some (slice t4 u4 v4)∧m4.cell? ((nb o).add 3)=some (slice x4 y4 z4)∧m4.cell? ((nb o).add 4)=some (slice a5 b5 c5)∧True)∧
 R (tuple #[pointer none,pointer none,pointer none,agg #[slice n4 o4 p4,slice q4 r4 s4,slice t4 u4 v4,slice x4 y4 z4,slice a5 b5 c5]]) m4) [slice x3 y3 z3,slice a4 b4 c4,slice d4 e4 f4,slice g4 h4 i4,slice j4 k4 l4] 0)
 (ac (n2 != 0)
 (∀d5,d5=l2.drew→
 ∃e5 f5 g5 h5 i5 j5 k5 l5 m5 n5 o5 p5 q5 r5 s5,(d5.cell? (nb f1)=some (slice e5 f5 g5)∧d5.cell? ((nb f1).add 1)=some (slice h5 i5 j5)∧d5.cell? ((nb f1).add 2)=some (slice k5 l5 m5)∧d5.cell? ((nb f1).add 3)=some (slice n5 o5 p5)∧d5.cell? ((nb f1).add 4)=some (slice q5 r5 s5)∧True)∧
 aE d5 (nb o) (fun t5=>
 ∃u5 v5 x5 y5 z5 a6 b6 c6 d6 e6 f6 g6 h6 i6 j6,(t5.cell? (nb o)=some (slice u5 v5 x5)∧t5.cell? ((nb o).add 1)=some (slice y5 z5 a6)∧t5.cell? ((nb o).add 2)=some (slice b6 c6 d6)∧t5.cell? ((nb o).add 3)=some (slice e6 f6 g6)∧t5.cell? ((nb o).add 4)=some (slice h6 i6 j6)∧True)∧
 R (tuple #[pointer none,pointer none,pointer none,agg #[slice u5 v5 x5,slice y5 z5 a6,slice b6 c6 d6,slice e6 f6 g6,slice h6 i6 j6]]) t5) [slice e5 f5 g5,slice h5 i5 j5,slice k5 l5 m5,slice n5 o5 p5,slice q5 r5 s5] 0)
 (∀k6,k6=l2.drew→
 ∃l6 m6 n6 o6 p6 q6 r6 s6 t6 u6 v6 x6 y6 z6 a7,(k6.cell? (nb f1)=some (slice l6 m6 n6)∧k6.cell? ((nb f1).add 1)=some (slice o6 p6 q6)∧k6.cell? ((nb f1).add 2)=some (slice r6 s6 t6)∧k6.cell? ((nb f1).add 3)=some (slice u6 v6 x6)∧k6.cell? ((nb f1).add 4)=some (slice y6 z6 a7)∧True)∧
 CP 56 #[pointer f2] k6 (fun b7 c7=>
 ∃d7,b7= .returned (pointer d7)∧
 (c7.cell? (nb f1)=some (slice l6 m6 n6)∧c7.cell? ((nb f1).add 1)=some (slice o6 p6 q6)∧c7.cell? ((nb f1).add 2)=some (slice r6 s6 t6)∧c7.cell? ((nb f1).add 3)=some (slice u6 v6 x6)∧c7.cell? ((nb f1).add 4)=some (slice y6 z6 a7)∧True)∧
 aE c7 (nb o) (fun e7=>
 ∃f7 g7 h7 i7 j7 k7 l7 m7 n7 o7 p7 q7 r7 s7 t7,(e7.cell? (nb o)=some (slice f7 g7 h7)∧e7.cell? ((nb o).add 1)=some (slice i7 j7 k7)∧e7.cell? ((nb o).add 2)=some (slice l7 m7 n7)∧e7.cell? ((nb o).add 3)=some (slice o7 p7 q7)∧e7.cell? ((nb o).add 4)=some (slice r7 s7 t7)∧True)∧
 R (tuple #[pointer m2,pointer d7,pointer b2,agg #[slice f7 g7 h7,slice i7 j7 k7,slice l7 m7 n7,slice o7 p7 q7,slice r7 s7 t7]]) e7) [slice l6 m6 n6,slice o6 p6 q6,slice r6 s6 t6,slice u6 v6 x6,slice y6 z6 a7] 0))))))))) [slice h1 i1 j1,slice k1 l1 m1,slice n1 o1 p1,slice q1 r1 s1,slice t1 u1 v1] 0)
theorem Co (a:OA) (b c:Nat) (d:OA) (f g:Nat) (h:OA) (i j:Nat) (k:OA) (l m:Nat) (n:Int) (w:World) (R:RW) (hh:P6 a b c d f g h i j k l m n w R):CR 36 #[agg #[slice a b c,slice d f g,slice h i j,slice k l m],int .i64 n] w R:=
 aF (fn:=Tryz.f36) (by kernel_rfl) (by kernel_rfl) (by kernel_rfl) (by kernel_rfl) (by kernel_rfl) hh
def Qz (a:OA) (b c:Nat) (d:OA) (f g:Nat) (w:World) (R:RW):Prop:=
 ∀h,h=w.alloc (.cells #[slice a b c] 88)→
 ∀i,i=h.alloc (.cells #[slice none 0 0] 88)→
 ∀j:KW,(∀(k:Int) (l:World),(ac (decide (k< (f:Int)))
 (ah d (fun m=>
 (0:Int)≤k∧k< (f:Int)∧
 ∃n o p,(l.cell? (m.add (k.toNat*1))=some (slice n o p)∧True)∧
 ∀q,q=l.alloc (.cells #[slice none 0 0] 88)→
 (slice n o p).oneCell'=true∧(∃u,q.cell? (nb l)=some u)∧q.frozen? (nb l)=false∧
 ∀r,r=(q.setCell (nb l) (slice n o p))→
 ∃s t x,(r.cell? (nb w)=some (slice s t x)∧True)∧
 ∃y z a1,(r.cell? (nb l)=some (slice y z a1)∧True)∧
 CP 82 #[agg #[slice s t x],agg #[slice y z a1]] r (fun b1 c1=>
 ∃d1 e1 f1,b1= .returned (agg #[slice d1 e1 f1])∧
 (slice d1 e1 f1).oneCell'=true∧(∃u,c1.cell? (nb w)=some u)∧c1.frozen? (nb w)=false∧
 ∀g1,g1=(c1.setCell (nb w) (slice d1 e1 f1))→
 Ar .i64 (k+1) (fun h1=>
 j [int .i64 h1] g1))))
 (∃i1 j1 k1,(l.cell? (nb w)=some (slice i1 j1 k1)∧True)∧
 (slice i1 j1 k1).oneCell'=true∧(∃u,l.cell? (nb h)=some u)∧l.frozen? (nb h)=false∧
 ∀l1,l1=(l.setCell (nb h) (slice i1 j1 k1))→
 ∃m1 n1 o1,(l1.cell? (nb h)=some (slice m1 n1 o1)∧True)∧
 R (agg #[slice m1 n1 o1]) l1))→j [int .i64 k] l)→
 j [int .i64 0] i
theorem Bj (a:OA) (b c:Nat) (d:OA) (f g:Nat) (w:World) (R:RW) (hh:Qz a b c d f g w R):CR 40 #[agg #[slice a b c],slice d f g] w R:=
 aF (fn:=Tryz.f40) (by kernel_rfl) (by kernel_rfl) (by kernel_rfl) (by kernel_rfl) (by kernel_rfl) hh
def Qw (a:OA) (b c:Int) (w:World) (R:RW):Prop:=
 ∀d,d=w.alloc (.cells #[slice none 0 0] 88)→
 ac (Option.isNone a)
 ((slice none 0 0).oneCell'=true∧(∃u,d.cell? (nb w)=some u)∧d.frozen? (nb w)=false∧
 ∀f,f=(d.setCell (nb w) (slice none 0 0))→
 ∃g h i,(f.cell? (nb w)=some (slice g h i)∧True)∧
 R (agg #[slice g h i]) f)
 (ac (decide (c<0))
 ((slice none 0 0).oneCell'=true∧(∃u,d.cell? (nb w)=some u)∧d.frozen? (nb w)=false∧
 ∀j,j=(d.setCell (nb w) (slice none 0 0))→
 ∃k l m,(j.cell? (nb w)=some (slice k l m)∧True)∧
 R (agg #[slice k l m]) j)
 (ah a (fun n=>
 ∃o,d.cell? (n.add 2)=some (int .i64 o)∧
 ac (decide (c>o))
 ((slice none 0 0).oneCell'=true∧(∃u,d.cell? (nb w)=some u)∧d.frozen? (nb w)=false∧
 ∀p,p=(d.setCell (nb w) (slice none 0 0))→
 ∃q r s,(p.cell? (nb w)=some (slice q r s)∧True)∧
 R (agg #[slice q r s]) p)
 (ac (decide (b<0))
 ((slice none 0 0).oneCell'=true∧(∃u,d.cell? (nb w)=some u)∧d.frozen? (nb w)=false∧
 ∀t,t=(d.setCell (nb w) (slice none 0 0))→
 ∃x y z,(t.cell? (nb w)=some (slice x y z)∧True)∧
 R (agg #[slice x y z]) t)
 (ah a (fun a1=>
 ∃b1,d.cell? (a1.add 0)=some (pointer b1)∧
 CP 37 #[pointer b1] d (fun c1 d1=>
 ∃e1,c1= .returned (int .i64 e1)∧
 ac (decide (b≥e1))
 ((slice none 0 0).oneCell'=true∧(∃u,d1.cell? (nb w)=some u)∧d1.frozen? (nb w)=false∧
 ∀f1,f1=(d1.setCell (nb w) (slice none 0 0))→
 ∃g1 h1 i1,(f1.cell? (nb w)=some (slice g1 h1 i1)∧True)∧
 R (agg #[slice g1 h1 i1]) f1)
 (ah a (fun j1=>
 CP 83 #[pointer (some ((j1.add 3).add 0)),func (.func 84) #[pointer a] #[]] d1 (fun k1 l1=>
 k1= .returned (tuple #[])∧
 ah a (fun m1=>
 ∃n1 o1 p1,l1.cell? ((m1.add 3).add 3)=some (slice n1 o1 p1)∧
 ah n1 (fun q1=>
 (0:Int)≤c∧c< (o1:Int)∧
 ∃r1 s1 t1,l1.cell? (q1.add (c.toNat*1))=some (slice r1 s1 t1)∧
 ah r1 (fun u1=>
 (0:Int)≤b∧b< (s1:Int)∧
 ∃v1 x1 y1,(l1.cell? (u1.add (b.toNat*1))=some (slice v1 x1 y1)∧True)∧
 (slice v1 x1 y1).oneCell'=true∧(∃u,l1.cell? (nb w)=some u)∧l1.frozen? (nb w)=false∧
 ∀z1,z1=(l1.setCell (nb w) (slice v1 x1 y1))→
 ∃a2 b2 c2,(z1.cell? (nb w)=some (slice a2 b2 c2)∧True)∧
 R (agg #[slice a2 b2 c2]) z1)))))))))))))
theorem BF (a:OA) (b c:Int) (w:World) (R:RW) (hh:Qw a b c w R):CR 41 #[pointer a,int .i64 b,int .i64 c] w R:=
 aF (fn:=Tryz.f41) (by kernel_rfl) (by kernel_rfl) (by kernel_rfl) (by kernel_rfl) (by kernel_rfl) hh
def Qc (a:OA) (b c:Nat) (d:OA) (f g:Nat) (w:World) (R:RW):Prop:=
 ∀h,h=w.alloc (.cells #[slice a b c] 88)→
 ∀i,i=h.alloc (.cells #[slice d f g] 88)→
 ∃j k l,i.cell? ((nb w).add 0)=some (slice j k l)∧
 ∃m n o,i.cell? ((nb h).add 0)=some (slice m n o)∧
 CP 85 #[int .i64 (k:Int),int .i64 (n:Int)] i (fun p q=>
 ∃r,p= .returned (int .i64 r)∧
 ac (r != 0)
 (R (int .i64 r) q)
 (∃s t u,q.cell? ((nb w).add 0)=some (slice s t u)∧
 Ar .i64 ((t:Int)-1) (fun x=>
 ∀y:KW,(∀(z a1:Int) (b1:World),(ac (decide (z≥0))
 (∀c1,c1=b1.drew→
 ∃d1 e1 f1,c1.cell? ((nb w).add 0)=some (slice d1 e1 f1)∧
 ah d1 (fun g1=>
 (0:Int)≤z∧z< (e1:Int)∧
 ∃h1,c1.cell? (g1.add (z.toNat*1))=some (int .u32 h1)∧
 ∃i1 j1 k1,c1.cell? ((nb h).add 0)=some (slice i1 j1 k1)∧
 ah i1 (fun l1=>
 (0:Int)≤z∧z< (j1:Int)∧
 ∃m1,c1.cell? (l1.add (z.toNat*1))=some (int .u32 m1)∧
 CP 86 #[int .u32 h1,int .u32 m1] c1 (fun n1 o1=>
 ∃p1,n1= .returned (int .i64 p1)∧
 ac (p1 != 0)
 (R (int .i64 p1) o1)
 (Ar .i64 (z-1) (fun q1=>
 y [int .i64 q1,int .i64 a1] o1))))))
 (R (int .i64 0) b1))→y [int .i64 z,int .i64 a1] b1)→
 y [int .i64 x,int .i64 0] q)))
theorem Di (a:OA) (b c:Nat) (d:OA) (f g:Nat) (w:World) (R:RW) (hh:Qc a b c d f g w R):CR 42 #[agg #[slice a b c],agg #[slice d f g]] w R:=
 aF (fn:=Tryz.f42) (by kernel_rfl) (by kernel_rfl) (by kernel_rfl) (by kernel_rfl) (by kernel_rfl) hh
def PH (a:OA) (b c:Nat) (w:World) (R:RW):Prop:=
 ∀d,d=w.alloc (.cells #[slice a b c] 88)→
 ∃f g h,d.cell? ((nb w).add 0)=some (slice f g h)∧
 R (bool ((g:Int)==0)) d
theorem C7 (a:OA) (b c:Nat) (w:World) (R:RW) (hh:PH a b c w R):CR 43 #[agg #[slice a b c]] w R:=
 aF (fn:=Tryz.f43) (by kernel_rfl) (by kernel_rfl) (by kernel_rfl) (by kernel_rfl) (by kernel_rfl) hh
def Qr (a:OA) (b:Int) (w:World) (R:RW):Prop:=
 ∀c,c=w.alloc (.cells #[slice none 0 0] 88)→
 CP 41 #[pointer a,int .i64 0,int .i64 b] c (fun d f=>
 ∃g h i,d= .returned (agg #[slice g h i])∧
 (slice g h i).oneCell'=true∧(∃u,f.cell? (nb w)=some u)∧f.frozen? (nb w)=false∧
 ∀j,j=(f.setCell (nb w) (slice g h i))→
 ∃k l m,(j.cell? (nb w)=some (slice k l m)∧True)∧
 R (agg #[slice k l m]) j)
theorem CH (a:OA) (b:Int) (w:World) (R:RW) (hh:Qr a b w R):CR 45 #[pointer a,int .i64 b] w R:=
 aF (fn:=Tryz.f45) (by kernel_rfl) (by kernel_rfl) (by kernel_rfl) (by kernel_rfl) (by kernel_rfl) hh
def Qi (a:OA) (b c:Nat) (w:World) (R:RW):Prop:=
 ∀d,d=w.alloc (.cells #[slice a b c] 88)→
 ∃f g h,(d.cell? (nb w)=some (slice f g h)∧True)∧
 CP 43 #[agg #[slice f g h]] d (fun i j=>
 ∃k,i= .returned (bool k)∧
 ac k
 (R (string ⟨#[48]⟩) j)
 (∀l:KW,(∀(m:OA) (n o:Nat) (p:World),(∃q r s,(p.cell? (nb w)=some (slice q r s)∧True)∧
 CP 43 #[agg #[slice q r s]] p (fun t x=>
 ∃y,t= .returned (bool y)∧
 ac (!y)
 (∃z a1 b1,(x.cell? (nb w)=some (slice z a1 b1)∧True)∧
 CP 87 #[agg #[slice z a1 b1],int .u32 1000000000] x (fun c1 d1=>
 ∃e1 f1 g1 h1,c1= .returned (tuple #[agg #[slice e1 f1 g1],int .u32 h1])∧
 ∀i1,i1=d1.alloc (.cells #[slice none 0 0] 88)→
 (slice e1 f1 g1).oneCell'=true∧(∃u,i1.cell? (nb d1)=some u)∧i1.frozen? (nb d1)=false∧
 ∀j1,j1=(i1.setCell (nb d1) (slice e1 f1 g1))→
 ∀k1:KW,(∀(l1 m1:Int) (n1:OA) (o1 p1:Nat) (q1:World),(ac (decide (l1<9))
 (ac (decide (m1>0))
 ((10:Int)≠0∧
 Ar .u32 ((48:Int)+(Int.tmod m1 10)) (fun r1=>
 ∀s1,s1=q1.alloc (.cells #[int .u8 (IntKind.wrap .u8 r1)] 5)→
 ∃t1 u1 v1 x1,(Builtin.append_ #[97,97] 97 #[slice n1 o1 p1,slice (some (nb q1)) 1 1]).run Tryz.prog s1= .ok (slice t1 u1 v1) x1∧
 (10:Int)≠0∧
 Ar .i64 (l1+1) (fun y1=>
 k1 [int .i64 y1,int .u32 (IntKind.wrap .u32 (Int.tdiv m1 10)),slice t1 u1 v1] x1)))
 (∃z1 a2 b2,(q1.cell? (nb d1)=some (slice z1 a2 b2)∧True)∧
 CP 43 #[agg #[slice z1 a2 b2]] q1 (fun c2 d2=>
 ∃e2,c2= .returned (bool e2)∧
 ac (!e2)
 ((10:Int)≠0∧
 Ar .u32 ((48:Int)+(Int.tmod m1 10)) (fun f2=>
 ∀g2,g2=d2.alloc (.cells #[int .u8 (IntKind.wrap .u8 f2)] 5)→
 ∃h2 i2 j2 k2,(Builtin.append_ #[97,97] 97 #[slice n1 o1 p1,slice (some (nb d2)) 1 1]).run Tryz.prog g2= .ok (slice h2 i2 j2) k2∧
 (10:Int)≠0∧
 Ar .i64 (l1+1) (fun l2=>
 k1 [int .i64 l2,int .u32 (IntKind.wrap .u32 (Int.tdiv m1 10)),slice h2 i2 j2] k2)))
 (∃m2 n2 o2,(d2.cell? (nb d1)=some (slice m2 n2 o2)∧True)∧
 (slice m2 n2 o2).oneCell'=true∧(∃u,d2.cell? (nb w)=some u)∧d2.frozen? (nb w)=false∧
 ∀p2,p2=(d2.setCell (nb w) (slice m2 n2 o2))→
 l [slice n1 o1 p1] p2))))
 (∃q2 r2 s2,(q1.cell? (nb d1)=some (slice q2 r2 s2)∧True)∧
 (slice q2 r2 s2).oneCell'=true∧(∃u,q1.cell? (nb w)=some u)∧q1.frozen? (nb w)=false∧
 ∀t2,t2=(q1.setCell (nb w) (slice q2 r2 s2))→
 l [slice n1 o1 p1] t2))→k1 [int .i64 l1,int .u32 m1,slice n1 o1 p1] q1)→
 k1 [int .i64 0,int .u32 h1,slice m n o] j1))
 (CP 88 #[slice m n o] x (fun u2 v2=>
 u2= .returned (tuple #[])∧
 ∃x2 y2,(convert 97 9 (slice m n o)).run Tryz.prog v2= .ok (string x2) y2∧
 R (string x2) y2))))→l [slice m n o] p)→
 l [slice none 0 0] j))
theorem Dr (a:OA) (b c:Nat) (w:World) (R:RW) (hh:Qi a b c w R):CR 46 #[agg #[slice a b c]] w R:=
 aF (fn:=Tryz.f46) (by kernel_rfl) (by kernel_rfl) (by kernel_rfl) (by kernel_rfl) (by kernel_rfl) hh
def Pt (a:OA) (b:Int) (c:OA) (d f:Nat) (w:World) (R:RW):Prop:=
 ∀g,g=w.alloc (.cells #[slice c d f] 88)→
 ac (Option.isNone a)
 (R (tuple #[slice none 0 0,int .i64 1]) g)
 (ac (decide (b<0))
 (R (tuple #[slice none 0 0,int .i64 3]) g)
 (ah a (fun h=>
 ∃i,g.cell? (h.add 2)=some (int .i64 i)∧
 ac (decide (b>i))
 (R (tuple #[slice none 0 0,int .i64 3]) g)
 (∀j,j=g.drew→
 ∃k l m,(j.cell? (nb w)=some (slice k l m)∧True)∧
 CP 45 #[pointer a,int .i64 b] j (fun n o=>
 ∃p q r,n= .returned (agg #[slice p q r])∧
 (o.cell? (nb w)=some (slice k l m)∧True)∧
 CP 42 #[agg #[slice k l m],agg #[slice p q r]] o (fun s t=>
 ∃x,s= .returned (int .i64 x)∧
 ac (decide (x≥0))
 (R (tuple #[slice none 0 0,int .i64 7]) t)
 (∀y,y=t.alloc (.cells #[slice none 0 0] 28)→
 ∀z,z=y.alloc (.cells #[int .i64 0] 3)→
 (int .i64 0).oneCell'=true∧(∃u,z.cell? (nb y)=some u)∧z.frozen? (nb y)=false∧
 ∀a1,a1=(z.setCell (nb y) (int .i64 0))→
 Ar .i64 (b-1) (fun b1=>
 ∀c1:KW,(∀(d1:Int) (e1:World),(ac (decide (d1≥0))
 (∃f1,e1.cell? (nb y)=some (int .i64 f1)∧
 CP 95 #[pointer a,int .i64 f1,int .i64 d1,func (.func 96) #[] #[pointer (some (nb w)),pointer (some (nb t)),pointer (some (nb y))]] e1 (fun g1 h1=>
 ∃i1,g1= .returned (bool i1)∧
 Ar .i64 (d1-1) (fun j1=>
 c1 [int .i64 j1] h1)))
 (∃k1 l1 m1,e1.cell? (nb t)=some (slice k1 l1 m1)∧
 R (tuple #[slice k1 l1 m1,int .i64 0]) e1))→c1 [int .i64 d1] e1)→
 c1 [int .i64 b1] a1))))))))
theorem A0 (a:OA) (b:Int) (c:OA) (d f:Nat) (w:World) (R:RW) (hh:Pt a b c d f w R):CR 50 #[pointer a,int .i64 b,agg #[slice c d f]] w R:=
 aF (fn:=Tryz.f50) (by kernel_rfl) (by kernel_rfl) (by kernel_rfl) (by kernel_rfl) (by kernel_rfl) hh
def PJ (a b:OA) (c d:Nat) (w:World) (R:RW):Prop:=
 ∀f,f=w.alloc (.cells #[slice none 0 0] 88)→
 ac (Option.isNone a)
 ((slice none 0 0).oneCell'=true∧(∃u,f.cell? (nb w)=some u)∧f.frozen? (nb w)=false∧
 ∀g,g=(f.setCell (nb w) (slice none 0 0))→
 ∃h i j,(g.cell? (nb w)=some (slice h i j)∧True)∧
 R (tuple #[agg #[slice h i j],int .i64 1]) g)
 (ah a (fun k=>
 ∃l,f.cell? (k.add 2)=some (int .i64 l)∧
 ac (decide ((c:Int)>l))
 ((slice none 0 0).oneCell'=true∧(∃u,f.cell? (nb w)=some u)∧f.frozen? (nb w)=false∧
 ∀m,m=(f.setCell (nb w) (slice none 0 0))→
 ∃n o p,(m.cell? (nb w)=some (slice n o p)∧True)∧
 R (tuple #[agg #[slice n o p],int .i64 3]) m)
 (ah a (fun q=>
 ∃r,f.cell? (q.add 0)=some (pointer r)∧
 CP 98 #[pointer r,slice b c d] f (fun s t=>
 ∃x y,s= .returned (tuple #[int .i64 x,bool y])∧
 ac (!y)
 ((slice none 0 0).oneCell'=true∧(∃u,t.cell? (nb w)=some u)∧t.frozen? (nb w)=false∧
 ∀z,z=(t.setCell (nb w) (slice none 0 0))→
 ∃a1 b1 c1,(z.cell? (nb w)=some (slice a1 b1 c1)∧True)∧
 R (tuple #[agg #[slice a1 b1 c1],int .i64 4]) z)
 (ah a (fun d1=>
 ∃e1,t.cell? (d1.add 0)=some (pointer e1)∧
 CP 44 #[pointer e1,int .i64 x] t (fun f1 g1=>
 ∃h1,f1= .returned (bool h1)∧
 ac (!h1)
 ((slice none 0 0).oneCell'=true∧(∃u,g1.cell? (nb w)=some u)∧g1.frozen? (nb w)=false∧
 ∀i1,i1=(g1.setCell (nb w) (slice none 0 0))→
 ∃j1 k1 l1,(i1.cell? (nb w)=some (slice j1 k1 l1)∧True)∧
 R (tuple #[agg #[slice j1 k1 l1],int .i64 8]) i1)
 (∀m1,m1=g1.alloc (.cells #[slice none 0 0] 88)→
 ∀n1,n1=m1.alloc (.cells #[int .i64 0] 3)→
 (int .i64 0).oneCell'=true∧(∃u,n1.cell? (nb m1)=some u)∧n1.frozen? (nb m1)=false∧
 ∀o1,o1=(n1.setCell (nb m1) (int .i64 0))→
 ∀p1:KW,(∀(q1:Int) (r1:World),(ac (decide (q1< (c:Int)))
 (ah b (fun s1=>
 (0:Int)≤q1∧q1< (c:Int)∧
 ∃t1,r1.cell? (s1.add (q1.toNat*1))=some (int .i64 t1)∧
 ∀u1,u1=r1.alloc (.cells #[int .i64 0] 3)→
 (int .i64 t1).oneCell'=true∧(∃u,u1.cell? (nb r1)=some u)∧u1.frozen? (nb r1)=false∧
 ∀v1,v1=(u1.setCell (nb r1) (int .i64 t1))→
 ∃x1,v1.cell? (nb m1)=some (int .i64 x1)∧
 Ar .i64 ((c:Int)-1) (fun y1=>
 Ar .i64 (y1-q1) (fun z1=>
 CP 95 #[pointer a,int .i64 x1,int .i64 z1,func (.func 99) #[] #[pointer (some (nb r1)),pointer (some (nb m1)),pointer (some (nb g1))]] v1 (fun a2 b2=>
 ∃c2,a2= .returned (bool c2)∧
 Ar .i64 (q1+1) (fun d2=>
 p1 [int .i64 d2] b2))))))
 (∃e2 f2 g2,(r1.cell? (nb g1)=some (slice e2 f2 g2)∧True)∧
 (slice e2 f2 g2).oneCell'=true∧(∃u,r1.cell? (nb w)=some u)∧r1.frozen? (nb w)=false∧
 ∀h2,h2=(r1.setCell (nb w) (slice e2 f2 g2))→
 ∃i2 j2 k2,(h2.cell? (nb w)=some (slice i2 j2 k2)∧True)∧
 R (tuple #[agg #[slice i2 j2 k2],int .i64 0]) h2))→p1 [int .i64 q1] r1)→
 p1 [int .i64 0] o1)))))))))
theorem BQ (a b:OA) (c d:Nat) (w:World) (R:RW) (hh:PJ a b c d w R):CR 51 #[pointer a,slice b c d] w R:=
 aF (fn:=Tryz.f51) (by kernel_rfl) (by kernel_rfl) (by kernel_rfl) (by kernel_rfl) (by kernel_rfl) hh
def Qy (a b:OA) (c d:Nat) (w:World) (R:RW):Prop:=
 CP 51 #[pointer a,slice b c d] w (fun f g=>
 ∃h i j k,f= .returned (tuple #[agg #[slice h i j],int .i64 k])∧
 ∀l,l=g.alloc (.cells #[slice none 0 0] 88)→
 (slice h i j).oneCell'=true∧(∃u,l.cell? (nb g)=some u)∧l.frozen? (nb g)=false∧
 ∀m,m=(l.setCell (nb g) (slice h i j))→
 ac (k != 0)
 (R (tuple #[slice none 0 0,int .i64 k]) m)
 (∀n,n=m.drew→
 ∃o p q,(n.cell? (nb g)=some (slice o p q)∧True)∧
 CP 53 #[int .u64 1] n (fun r s=>
 ∃t x y,r= .returned (agg #[slice t x y])∧
 (s.cell? (nb g)=some (slice o p q)∧True)∧
 ∀z,z=s.alloc (.cells #[slice t x y] 88)→
 (z.cell? (nb g)=some (slice o p q)∧True)∧
 CP 40 #[agg #[slice o p q],slice (some (nb s)) 1 1] z (fun a1 b1=>
 ∃c1 d1 e1,a1= .returned (agg #[slice c1 d1 e1])∧
 CP 50 #[pointer a,int .i64 (c:Int),agg #[slice c1 d1 e1]] b1 (fun f1 g1=>
 ∃h1 i1 j1 k1,f1= .returned (tuple #[slice h1 i1 j1,int .i64 k1])∧
 ac (k1==7)
 (R (tuple #[slice none 0 0,int .i64 9]) g1)
 (R (tuple #[slice h1 i1 j1,int .i64 k1]) g1))))))
theorem Bt (a b:OA) (c d:Nat) (w:World) (R:RW) (hh:Qy a b c d w R):CR 52 #[pointer a,slice b c d] w R:=
 aF (fn:=Tryz.f52) (by kernel_rfl) (by kernel_rfl) (by kernel_rfl) (by kernel_rfl) (by kernel_rfl) hh
def PF (a:Int) (w:World) (R:RW):Prop:=
 ∀b,b=w.alloc (.cells #[slice none 0 0] 88)→
 (0:Int)≤32∧
 ∀c,c=b.alloc (.cells #[int .u32 (IntKind.wrap .u32 a),int .u32 (IntKind.wrap .u32 (Int.fdiv a (2^(min (32:Int).toNat (IntKind.bits .u64)))))] 153)→
 CP 93 #[slice (some (nb b)) 2 2] c (fun d f=>
 ∃g h i,d= .returned (agg #[slice g h i])∧
 (slice g h i).oneCell'=true∧(∃u,f.cell? (nb w)=some u)∧f.frozen? (nb w)=false∧
 ∀j,j=(f.setCell (nb w) (slice g h i))→
 ∃k l m,(j.cell? (nb w)=some (slice k l m)∧True)∧
 R (agg #[slice k l m]) j)
theorem Cc (a:Int) (w:World) (R:RW) (hh:PF a w R):CR 53 #[int .u64 a] w R:=
 aF (fn:=Tryz.f53) (by kernel_rfl) (by kernel_rfl) (by kernel_rfl) (by kernel_rfl) (by kernel_rfl) hh
def PA (a b:OA) (c:Int) (w:World) (R:RW):Prop:=
 ac (Option.isNone a)
 (R (tuple #[pointer none,int .i64 1]) w)
 (ac (Option.isNone b)
 (R (tuple #[pointer none,int .i64 1]) w)
 (ac (decide (c<0))
 (R (tuple #[pointer none,int .i64 1]) w)
 (CP 37 #[pointer a] w (fun d f=>
 ∃g,d= .returned (int .i64 g)∧
 g≠0∧
 ac (decide (c>(IntKind.wrap .i64 (Int.tdiv 20000 g))))
 (R (tuple #[pointer none,int .i64 5]) f)
 (∀h,h=f.alloc (.cells #[pointer a,pointer b,int .i64 c,int .u32 0,int .i32 0,int .u32 0,slice none 0 0] 172)→
 R (tuple #[pointer (some (nb f)),int .i64 0]) h)))))
theorem Cq (a b:OA) (c:Int) (w:World) (R:RW) (hh:PA a b c w R):CR 55 #[pointer a,pointer b,int .i64 c] w R:=
 aF (fn:=Tryz.f55) (by kernel_rfl) (by kernel_rfl) (by kernel_rfl) (by kernel_rfl) (by kernel_rfl) hh
def Qh (a:OA) (b c:Nat) (d:OA) (f g:Nat) (w:World) (R:RW):Prop:=
 ∀h,h=w.alloc (.cells #[slice a b c] 88)→
 ∀i,i=h.alloc (.cells #[slice d f g] 88)→
 ∀j,j=i.alloc (.cells #[slice none 0 0] 88)→
 ∃k l m,j.cell? ((nb w).add 0)=some (slice k l m)∧
 ∃n o p,j.cell? ((nb h).add 0)=some (slice n o p)∧
 ∃q r,(Builtin.max_ #[3,3] 3 #[int .i64 (l:Int),int .i64 (o:Int)]).run Tryz.prog j= .ok (int .i64 q) r∧
 Ar .i64 (q+1) (fun s=>
 ∃t x y z,(Instr.makeSlice 86 (int .i64 0) (int .i64 s)).run Tryz.prog r= .ok (slice t x y) z∧
 ∀a1:KW,(∀(b1 c1:Int) (d1:OA) (e1 f1:Nat) (g1:World),(ac (decide (b1<q))
 (∀h1,h1=g1.drew→
 ∃i1 j1 k1,(h1.cell? (nb w)=some (slice i1 j1 k1)∧True)∧
 ∃l1 m1 n1,(h1.cell? (nb h)=some (slice l1 m1 n1)∧True)∧
 CP 153 #[agg #[slice i1 j1 k1],int .i64 b1] h1 (fun o1 p1=>
 ∃q1,o1= .returned (int .u32 q1)∧
 (p1.cell? (nb h)=some (slice l1 m1 n1)∧True)∧
 CP 153 #[agg #[slice l1 m1 n1],int .i64 b1] p1 (fun r1 s1=>
 ∃t1,r1= .returned (int .u32 t1)∧
 Ar .u64 ((IntKind.wrap .u64 q1:Int)+(IntKind.wrap .u64 t1)) (fun u1=>
 Ar .u64 (u1+c1) (fun v1=>
 ∀x1,x1=s1.alloc (.cells #[int .u32 (IntKind.wrap .u32 v1)] 153)→
 ∃y1 z1 a2 b2,(Builtin.append_ #[86,86] 86 #[slice d1 e1 f1,slice (some (nb s1)) 1 1]).run Tryz.prog x1= .ok (slice y1 z1 a2) b2∧
 (0:Int)≤32∧
 Ar .i64 (b1+1) (fun c2=>
 a1 [int .i64 c2,int .u64 (Int.fdiv v1 (2^(min (32:Int).toNat (IntKind.bits .u64)))),slice y1 z1 a2] b2))))))
 (∀d2,d2=g1.alloc (.cells #[int .u32 (IntKind.wrap .u32 c1)] 153)→
 ∃e2 f2 g2 h2,(Builtin.append_ #[86,86] 86 #[slice d1 e1 f1,slice (some (nb g1)) 1 1]).run Tryz.prog d2= .ok (slice e2 f2 g2) h2∧
 CP 93 #[slice e2 f2 g2] h2 (fun i2 j2=>
 ∃k2 l2 m2,i2= .returned (agg #[slice k2 l2 m2])∧
 (slice k2 l2 m2).oneCell'=true∧(∃u,j2.cell? (nb i)=some u)∧j2.frozen? (nb i)=false∧
 ∀n2,n2=(j2.setCell (nb i) (slice k2 l2 m2))→
 ∃o2 p2 q2,(n2.cell? (nb i)=some (slice o2 p2 q2)∧True)∧
 R (agg #[slice o2 p2 q2]) n2)))→a1 [int .i64 b1,int .u64 c1,slice d1 e1 f1] g1)→
 a1 [int .i64 0,int .u64 0,slice t x y] z)
theorem BB (a:OA) (b c:Nat) (d:OA) (f g:Nat) (w:World) (R:RW) (hh:Qh a b c d f g w R):CR 82 #[agg #[slice a b c],agg #[slice d f g]] w R:=
 aF (fn:=Tryz.f82) (by kernel_rfl) (by kernel_rfl) (by kernel_rfl) (by kernel_rfl) (by kernel_rfl) hh
def Qd (a:OA) (w:World) (R:RW):Prop:=
 ah a (fun b=>
 ∃c,w.cell? (b.add 0)=some (pointer c)∧
 CP 37 #[pointer c] w (fun d f=>
 ∃g,d= .returned (int .i64 g)∧
 ∃h i j k,(Instr.makeSlice 166 (int .i64 g) (int .i64 g)).run Tryz.prog f= .ok (slice h i j) k∧
 ∃l m n o,(Instr.makeSlice 252 (int .i64 g) (int .i64 g)).run Tryz.prog k= .ok (slice l m n) o∧
 ∀p:KW,(∀(q:Int) (r:World),(ac (decide (q<g))
 (∀s:KW,(∀t:World,(Ar .i64 (q+1) (fun x=>
 p [int .i64 x] t))→s [] t)→
 CP 156 #[pointer a,int .i64 q] r (fun y z=>
 ∃a1,y= .returned (map a1)∧
 ah l (fun b1=>
 (0:Int)≤q∧q< (m:Int)∧
 (map a1).oneCell'=true∧(∃u,z.cell? (b1.add (q.toNat*1))=some u)∧z.frozen? (b1.add (q.toNat*1))=false∧
 ∀c1,c1=(z.setCell (b1.add (q.toNat*1)) (map a1))→
 ah a (fun d1=>
 ∃e1,c1.cell? (d1.add 0)=some (pointer e1)∧
 CP 44 #[pointer e1,int .i64 q] c1 (fun f1 g1=>
 ∃h1,f1= .returned (bool h1)∧
 ac h1
 (CP 53 #[int .u64 1] g1 (fun i1 j1=>
 ∃k1 l1 m1,i1= .returned (agg #[slice k1 l1 m1])∧
 ah h (fun n1=>
 (0:Int)≤q∧q< (i:Int)∧
 (slice k1 l1 m1).oneCell'=true∧(∃u,j1.cell? (n1.add (q.toNat*1))=some u)∧j1.frozen? (n1.add (q.toNat*1))=false∧
 ∀o1,o1=(j1.setCell (n1.add (q.toNat*1)) (slice k1 l1 m1))→
 s [] o1)))
 (s [] g1))))))
 (ah a (fun p1=>
 ∃q1 r1 s1,r.cell? ((p1.add 3).add 3)=some (slice q1 r1 s1)∧
 ∀t1,t1=r.alloc (.cells #[slice h i j] 166)→
 ∃u1 v1 x1 y1,(Builtin.append_ #[168,168] 168 #[slice q1 r1 s1,slice (some (nb r)) 1 1]).run Tryz.prog t1= .ok (slice u1 v1 x1) y1∧
 ah a (fun z1=>
 (slice u1 v1 x1).oneCell'=true∧(∃u,y1.cell? ((z1.add 3).add 3)=some u)∧y1.frozen? ((z1.add 3).add 3)=false∧
 ∀a2,a2=(y1.setCell ((z1.add 3).add 3) (slice u1 v1 x1))→
 ∀b2:KW,(∀(c2:Int) (d2:World),(ah a (fun e2=>
 ∃f2,d2.cell? (e2.add 2)=some (int .i64 f2)∧
 ac (decide (c2≤f2))
 (∃g2 h2 i2 j2,(Instr.makeSlice 166 (int .i64 g) (int .i64 g)).run Tryz.prog d2= .ok (slice g2 h2 i2) j2∧
 ∀k2:KW,(∀(l2:Int) (m2:World),(ac (decide (l2<g))
 (ah l (fun n2=>
 (0:Int)≤l2∧l2< (m:Int)∧
 ∃o2,m2.cell? (n2.add (l2.toNat*1))=some (map o2)∧
 ∃p2 q2,(Instr.range 253 (map o2)).run Tryz.prog m2= .ok (pointer p2) q2∧
 ∀r2:KW,(∀s2:World,((∃t2 u2,(Instr.next (pointer p2) false 0).run Tryz.prog s2= .ok (tuple #[bool t2]) u2∧
 ∃v2,bool t2=bool v2∧
 ac v2
 (∃x2 y2 z2,(Instr.entry (pointer p2)).run Tryz.prog u2= .ok (tuple #[x2,y2]) z2∧
 ∃a3,x2=int .i64 a3∧
 ∃b3,y2=int .u32 b3∧
 ∀c3,c3=z2.drew→
 ah g2 (fun d3=>
 (0:Int)≤l2∧l2< (h2:Int)∧
 ∃e3 f3 g3,(c3.cell? (d3.add (l2.toNat*1))=some (slice e3 f3 g3)∧True)∧
 ah a (fun h3=>
 ∃i3 j3 k3,c3.cell? ((h3.add 3).add 3)=some (slice i3 j3 k3)∧
 Ar .i64 (c2-1) (fun l3=>
 ah i3 (fun m3=>
 (0:Int)≤l3∧l3< (j3:Int)∧
 ∃n3 o3 p3,c3.cell? (m3.add (l3.toNat*1))=some (slice n3 o3 p3)∧
 ah n3 (fun q3=>
 (0:Int)≤a3∧a3< (o3:Int)∧
 ∃r3 s3 t3,(c3.cell? (q3.add (a3.toNat*1))=some (slice r3 s3 t3)∧True)∧
 CP 157 #[agg #[slice r3 s3 t3],int .u32 b3] c3 (fun u3 v3=>
 ∃x3 y3 z3,u3= .returned (agg #[slice x3 y3 z3])∧
 (v3.cell? (d3.add (l2.toNat*1))=some (slice e3 f3 g3)∧True)∧
 ∀a4,a4=v3.alloc (.cells #[slice x3 y3 z3] 88)→
 (a4.cell? (d3.add (l2.toNat*1))=some (slice e3 f3 g3)∧True)∧
 CP 40 #[agg #[slice e3 f3 g3],slice (some (nb v3)) 1 1] a4 (fun b4 c4=>
 ∃d4 e4 f4,b4= .returned (agg #[slice d4 e4 f4])∧
 ah g2 (fun g4=>
 (0:Int)≤l2∧l2< (h2:Int)∧
 (slice d4 e4 f4).oneCell'=true∧(∃u,c4.cell? (g4.add (l2.toNat*1))=some u)∧c4.frozen? (g4.add (l2.toNat*1))=false∧
 ∀h4,h4=(c4.setCell (g4.add (l2.toNat*1)) (slice d4 e4 f4))→
 r2 [] h4)))))))))
 (Ar .i64 (l2+1) (fun i4=>
 k2 [int .i64 i4] u2)))∨
 (∃j4 k4 l4 m4,(Instr.next (pointer p2) false 0).run Tryz.prog s2= .ok (tuple #[bool j4,k4,l4]) m4∧
 ∃n4,bool j4=bool n4∧
 ac n4
 (∃o4 p4 q4,(Instr.entry (pointer p2)).run Tryz.prog m4= .ok (tuple #[o4,p4]) q4∧
 ∃r4,o4=int .i64 r4∧
 ∃s4,p4=int .u32 s4∧
 ∀t4,t4=q4.drew→
 ah g2 (fun u4=>
 (0:Int)≤l2∧l2< (h2:Int)∧
 ∃v4 x4 y4,(t4.cell? (u4.add (l2.toNat*1))=some (slice v4 x4 y4)∧True)∧
 ah a (fun z4=>
 ∃a5 b5 c5,t4.cell? ((z4.add 3).add 3)=some (slice a5 b5 c5)∧
 Ar .i64 (c2-1) (fun d5=>
 ah a5 (fun e5=>
 (0:Int)≤d5∧d5< (b5:Int)∧
 ∃f5 g5 h5,t4.cell? (e5.add (d5.toNat*1))=some (slice f5 g5 h5)∧
 ah f5 (fun i5=>
 (0:Int)≤r4∧r4< (g5:Int)∧
 ∃j5 k5 l5,(t4.cell? (i5.add (r4.toNat*1))=some (slice j5 k5 l5)∧True)∧
 CP 157 #[agg #[slice j5 k5 l5],int .u32 s4] t4 (fun m5 n5=>
 ∃o5 p5 q5,m5= .returned (agg #[slice o5 p5 q5])∧
 (n5.cell? (u4.add (l2.toNat*1))=some (slice v4 x4 y4)∧True)∧
 ∀r5,r5=n5.alloc (.cells #[slice o5 p5 q5] 88)→
 (r5.cell? (u4.add (l2.toNat*1))=some (slice v4 x4 y4)∧True)∧
 CP 40 #[agg #[slice v4 x4 y4],slice (some (nb n5)) 1 1] r5 (fun s5 t5=>
 ∃u5 v5 x5,s5= .returned (agg #[slice u5 v5 x5])∧
 ah g2 (fun y5=>
 (0:Int)≤l2∧l2< (h2:Int)∧
 (slice u5 v5 x5).oneCell'=true∧(∃u,t5.cell? (y5.add (l2.toNat*1))=some u)∧t5.frozen? (y5.add (l2.toNat*1))=false∧
 ∀z5,z5=(t5.setCell (y5.add (l2.toNat*1)) (slice u5 v5 x5))→
 r2 [] z5)))))))))
 (Ar .i64 (l2+1) (fun a6=>
 k2 [int .i64 a6] m4))))→r2 [] s2)→
 r2 [] q2))
 (ah a (fun b6=>
 ∃c6 d6 e6,m2.cell? ((b6.add 3).add 3)=some (slice c6 d6 e6)∧
 ∀f6,f6=m2.alloc (.cells #[slice g2 h2 i2] 166)→
 ∃g6 h6 i6 j6,(Builtin.append_ #[168,168] 168 #[slice c6 d6 e6,slice (some (nb m2)) 1 1]).run Tryz.prog f6= .ok (slice g6 h6 i6) j6∧
 ah a (fun k6=>
 (slice g6 h6 i6).oneCell'=true∧(∃u,j6.cell? ((k6.add 3).add 3)=some u)∧j6.frozen? ((k6.add 3).add 3)=false∧
 ∀l6,l6=(j6.setCell ((k6.add 3).add 3) (slice g6 h6 i6))→
 Ar .i64 (c2+1) (fun m6=>
 b2 [int .i64 m6] l6)))))→k2 [int .i64 l2] m2)→
 k2 [int .i64 0] j2)
 (R (tuple #[]) d2)))→b2 [int .i64 c2] d2)→
 b2 [int .i64 1] a2))))→p [int .i64 q] r)→
 p [int .i64 0] o))
theorem CN (a:OA) (w:World) (R:RW) (hh:Qd a w R):CR 84 #[pointer a] w R:=
 oa LT (fn:=Tryz.f84) (by kernel_rfl) (body:=vL Tryz.f84) (by kernel_rfl) (by kernel_rfl) (by kernel_rfl) (Eq.mp (by kernel_rfl) hh)
def QB (a b:Int) (w:World) (R:RW):Prop:=
 CP 158 #[int .i64 a] w (fun c d=>
 ∃f,c= .returned (bool f)∧
 CP 158 #[int .i64 b] d (fun g h=>
 ∃i,g= .returned (bool i)∧
 ac f
 (ac i
 (R (int .i64 0) h)
 (R (int .i64 (-1)) h))
 (ac i
 (R (int .i64 1) h)
 (ac (decide (a<b))
 (R (int .i64 (-1)) h)
 (ac (decide (a>b))
 (R (int .i64 1) h)
 (R (int .i64 0) h))))))
theorem Ce (a b:Int) (w:World) (R:RW) (hh:QB a b w R):CR 85 #[int .i64 a,int .i64 b] w R:=
 aF (fn:=Tryz.f85) (by kernel_rfl) (by kernel_rfl) (by kernel_rfl) (by kernel_rfl) (by kernel_rfl) hh
def PE (a b:Int) (w:World) (R:RW):Prop:=
 CP 159 #[int .u32 a] w (fun c d=>
 ∃f,c= .returned (bool f)∧
 CP 159 #[int .u32 b] d (fun g h=>
 ∃i,g= .returned (bool i)∧
 ac f
 (ac i
 (R (int .i64 0) h)
 (R (int .i64 (-1)) h))
 (ac i
 (R (int .i64 1) h)
 (ac (decide (a<b))
 (R (int .i64 (-1)) h)
 (ac (decide (a>b))
 (R (int .i64 1) h)
 (R (int .i64 0) h))))))
theorem BA (a b:Int) (w:World) (R:RW) (hh:PE a b w R):CR 86 #[int .u32 a,int .u32 b] w R:=
 aF (fn:=Tryz.f86) (by kernel_rfl) (by kernel_rfl) (by kernel_rfl) (by kernel_rfl) (by kernel_rfl) hh
def PY (a:OA) (b c:Nat) (d:Int) (w:World) (R:RW):Prop:=
 ∀f,f=w.alloc (.cells #[slice a b c] 88)→
 ∀g,g=f.alloc (.cells #[slice none 0 0] 88)→
 ac (d==0)
 ((slice none 0 0).oneCell'=true∧(∃u,g.cell? (nb f)=some u)∧g.frozen? (nb f)=false∧
 ∀h,h=(g.setCell (nb f) (slice none 0 0))→
 ∃i j k,(h.cell? (nb f)=some (slice i j k)∧True)∧
 R (tuple #[agg #[slice i j k],int .u32 0]) h)
 (∃l m n,g.cell? ((nb w).add 0)=some (slice l m n)∧
 ∃o p q r,(Instr.makeSlice 86 (int .i64 (m:Int)) (int .i64 (m:Int))).run Tryz.prog g= .ok (slice o p q) r∧
 ∃s t x,r.cell? ((nb w).add 0)=some (slice s t x)∧
 Ar .i64 ((t:Int)-1) (fun y=>
 ∀z:KW,(∀(a1 b1:Int) (c1:World),(ac (decide (a1≥0))
 ((0:Int)≤32∧
 ∃d1 e1 f1,c1.cell? ((nb w).add 0)=some (slice d1 e1 f1)∧
 ah d1 (fun g1=>
 (0:Int)≤a1∧a1< (e1:Int)∧
 ∃h1,c1.cell? (g1.add (a1.toNat*1))=some (int .u32 h1)∧
 (IntKind.wrap .u64 d:Int)≠0∧
 ah o (fun i1=>
 (0:Int)≤a1∧a1< (p:Int)∧
 (int .u32 (IntKind.wrap .u32 (IntKind.wrap .u64 (Int.tdiv (IntKind.wrap .u64 ((BitVec.ofInt (IntKind.bits .u64) (IntKind.wrap .u64 (b1*2^(min (32:Int).toNat (IntKind.bits .u64))))|||BitVec.ofInt (IntKind.bits .u64) (IntKind.wrap .u64 h1)).toNat:Int)) (IntKind.wrap .u64 d))))).oneCell'=true∧(∃u,c1.cell? (i1.add (a1.toNat*1))=some u)∧c1.frozen? (i1.add (a1.toNat*1))=false∧
 ∀j1,j1=(c1.setCell (i1.add (a1.toNat*1)) (int .u32 (IntKind.wrap .u32 (IntKind.wrap .u64 (Int.tdiv (IntKind.wrap .u64 ((BitVec.ofInt (IntKind.bits .u64) (IntKind.wrap .u64 (b1*2^(min (32:Int).toNat (IntKind.bits .u64))))|||BitVec.ofInt (IntKind.bits .u64) (IntKind.wrap .u64 h1)).toNat:Int)) (IntKind.wrap .u64 d))))))→
 (IntKind.wrap .u64 d:Int)≠0∧
 Ar .i64 (a1-1) (fun k1=>
 z [int .i64 k1,int .u64 (Int.tmod (IntKind.wrap .u64 ((BitVec.ofInt (IntKind.bits .u64) (IntKind.wrap .u64 (b1*2^(min (32:Int).toNat (IntKind.bits .u64))))|||BitVec.ofInt (IntKind.bits .u64) (IntKind.wrap .u64 h1)).toNat:Int)) (IntKind.wrap .u64 d))] j1))))
 (CP 93 #[slice o p q] c1 (fun l1 m1=>
 ∃n1 o1 p1,l1= .returned (agg #[slice n1 o1 p1])∧
 (slice n1 o1 p1).oneCell'=true∧(∃u,m1.cell? (nb f)=some u)∧m1.frozen? (nb f)=false∧
 ∀q1,q1=(m1.setCell (nb f) (slice n1 o1 p1))→
 ∃r1 s1 t1,(q1.cell? (nb f)=some (slice r1 s1 t1)∧True)∧
 R (tuple #[agg #[slice r1 s1 t1],int .u32 (IntKind.wrap .u32 b1)]) q1)))→z [int .i64 a1,int .u64 b1] c1)→
 z [int .i64 y,int .u64 0] r))
theorem BJ (a:OA) (b c:Nat) (d:Int) (w:World) (R:RW) (hh:PY a b c d w R):CR 87 #[agg #[slice a b c],int .u32 d] w R:=
 aF (fn:=Tryz.f87) (by kernel_rfl) (by kernel_rfl) (by kernel_rfl) (by kernel_rfl) (by kernel_rfl) hh
def PV (a:OA) (b c:Nat) (w:World) (R:RW):Prop:=
 Ar .i64 ((b:Int)-1) (fun d=>
 ∀f:KW,(∀(g h:Int) (i:World),(ac (decide (h<g))
 (∀j,j=i.drew→
 ah a (fun k=>
 (0:Int)≤g∧g< (b:Int)∧
 ∃l,j.cell? (k.add (g.toNat*1))=some (int .u8 l)∧
 ah a (fun m=>
 (0:Int)≤h∧h< (b:Int)∧
 ∃n,j.cell? (m.add (h.toNat*1))=some (int .u8 n)∧
 ah a (fun o=>
 (0:Int)≤h∧h< (b:Int)∧
 (int .u8 l).oneCell'=true∧(∃u,j.cell? (o.add (h.toNat*1))=some u)∧j.frozen? (o.add (h.toNat*1))=false∧
 ∀p,p=(j.setCell (o.add (h.toNat*1)) (int .u8 l))→
 ah a (fun q=>
 (0:Int)≤g∧g< (b:Int)∧
 (int .u8 n).oneCell'=true∧(∃u,p.cell? (q.add (g.toNat*1))=some u)∧p.frozen? (q.add (g.toNat*1))=false∧
 ∀r,r=(p.setCell (q.add (g.toNat*1)) (int .u8 n))→
 Ar .i64 (h+1) (fun s=>
 Ar .i64 (g-1) (fun t=>
 f [int .i64 t,int .i64 s] r)))))))
 (R (tuple #[]) i))→f [int .i64 g,int .i64 h] i)→
 f [int .i64 d,int .i64 0] w)
theorem CO (a:OA) (b c:Nat) (w:World) (R:RW) (hh:PV a b c w R):CR 88 #[slice a b c] w R:=
 aF (fn:=Tryz.f88) (by kernel_rfl) (by kernel_rfl) (by kernel_rfl) (by kernel_rfl) (by kernel_rfl) hh
def P3 (a:OA) (b c:Nat) (w:World) (R:RW):Prop:=
 ∀d,d=w.alloc (.cells #[slice none 0 0] 88)→
 ∀f:KW,(∀(g:Int) (h:World),(ac (decide (g>0))
 (Ar .i64 (g-1) (fun i=>
 ah a (fun j=>
 (0:Int)≤i∧i< (b:Int)∧
 ∃k,h.cell? (j.add (i.toNat*1))=some (int .u32 k)∧
 ac (k==0)
 (Ar .i64 (g-1) (fun l=>
 f [int .i64 l] h))
 ((0:Int)≤(0:Int)∧(0:Int)≤g∧g≤g∧g≤(c:Int)∧True∧
 (slice (bE a (0:Int).toNat g.toNat 1) (g.toNat- (0:Int).toNat) (g.toNat- (0:Int).toNat)).oneCell'=true∧(∃u,h.cell? (nb w)=some u)∧h.frozen? (nb w)=false∧
 ∀m,m=(h.setCell (nb w) (slice (bE a (0:Int).toNat g.toNat 1) (g.toNat- (0:Int).toNat) (g.toNat- (0:Int).toNat)))→
 ∃n o p,(m.cell? (nb w)=some (slice n o p)∧True)∧
 R (agg #[slice n o p]) m))))
 ((0:Int)≤(0:Int)∧(0:Int)≤g∧g≤g∧g≤(c:Int)∧True∧
 (slice (bE a (0:Int).toNat g.toNat 1) (g.toNat- (0:Int).toNat) (g.toNat- (0:Int).toNat)).oneCell'=true∧(∃u,h.cell? (nb w)=some u)∧h.frozen? (nb w)=false∧
 ∀q,q=(h.setCell (nb w) (slice (bE a (0:Int).toNat g.toNat 1) (g.toNat- (0:Int).toNat) (g.toNat- (0:Int).toNat)))→
 ∃r s t,(q.cell? (nb w)=some (slice r s t)∧True)∧
 R (agg #[slice r s t]) q))→f [int .i64 g] h)→
 f [int .i64 (b:Int)] d
theorem CS (a:OA) (b c:Nat) (w:World) (R:RW) (hh:P3 a b c w R):CR 93 #[slice a b c] w R:=
 aF (fn:=Tryz.f93) (by kernel_rfl) (by kernel_rfl) (by kernel_rfl) (by kernel_rfl) (by kernel_rfl) hh
def PT (a:OA) (b c:Int) (d:Value) (w:World) (R:RW):Prop:=
 ah a (fun f=>
 ∃g,w.cell? (f.add 1)=some (pointer g)∧
 CP 19 #[pointer g] w (fun h i=>
 ∃j,h= .returned (int .i64 j)∧
 ∀k:KW,(∀(l:Int) (m:Bool) (n:World),(ac (decide (l<j))
 (CP 161 #[pointer a,int .i64 l] n (fun o p=>
 ∃q,o= .returned (int .i64 q)∧
 ah a (fun r=>
 ∃s,p.cell? (r.add 0)=some (pointer s)∧
 CP 39 #[pointer s,int .i64 b,int .i64 q] p (fun t u=>
 ∃x y,t= .returned (tuple #[int .i64 x,bool y])∧
 ac y
 (ah a (fun z=>
 ∃a1,u.cell? (z.add 0)=some (pointer a1)∧
 CP 44 #[pointer a1,int .i64 x] u (fun b1 c1=>
 ∃d1,b1= .returned (bool d1)∧
 ac d1
 (CP 41 #[pointer a,int .i64 x,int .i64 c] c1 (fun e1 f1=>
 ∃g1 h1 i1,e1= .returned (agg #[slice g1 h1 i1])∧
 bF gE d [int .i64 q,int .i64 x,agg #[slice g1 h1 i1]] f1 (fun j1 k1=>
 ∃l1,j1= .returned (bool l1)∧
 ac l1
 (R (bool true) k1)
 (Ar .i64 (l+1) (fun m1=>
 k [int .i64 m1,bool m] k1)))))
 (Ar .i64 (l+1) (fun n1=>
 k [int .i64 n1,bool m] c1)))))
 (Ar .i64 (l+1) (fun o1=>
 k [int .i64 o1,bool m] u))))))
 (R (bool false) n))→k [int .i64 l,bool m] n)→
 k [int .i64 0,bool false] i))
theorem B6 (a:OA) (b c:Int) (d:Value) (w:World) (R:RW) (hh:PT a b c d w R):CR 95 #[pointer a,int .i64 b,int .i64 c,d] w R:=
 aF (fn:=Tryz.f95) (by kernel_rfl) (by kernel_rfl) (by kernel_rfl) (by kernel_rfl) (by kernel_rfl) hh
def Qf (a b:Int) (c:OA) (d f:Nat) (g h i:OA) (w:World) (R:RW):Prop:=
 ∀j,j=w.alloc (.cells #[slice c d f] 88)→
 ah g (fun k=>
 ∃l m n,(j.cell? k=some (slice l m n)∧True)∧
 ∃o p q,(j.cell? (nb w)=some (slice o p q)∧True)∧
 CP 97 #[agg #[slice l m n],agg #[slice o p q]] j (fun r s=>
 ∃t x y z,r= .returned (tuple #[agg #[slice t x y],bool z])∧
 ∀a1,a1=s.alloc (.cells #[slice none 0 0] 88)→
 (slice t x y).oneCell'=true∧(∃u,a1.cell? (nb s)=some u)∧a1.frozen? (nb s)=false∧
 ∀b1,b1=(a1.setCell (nb s) (slice t x y))→
 ac (!z)
 (ah h (fun c1=>
 ∃d1 e1 f1,b1.cell? c1=some (slice d1 e1 f1)∧
 ∀g1,g1=b1.alloc (.cells #[int .i64 a] 3)→
 ∃h1 i1 j1 k1,(Builtin.append_ #[28,28] 28 #[slice d1 e1 f1,slice (some (nb b1)) 1 1]).run Tryz.prog g1= .ok (slice h1 i1 j1) k1∧
 ah i (fun l1=>
 (int .i64 b).oneCell'=true∧(∃u,k1.cell? l1=some u)∧k1.frozen? l1=false∧
 ∀m1,m1=(k1.setCell l1 (int .i64 b))→
 ah h (fun n1=>
 (slice h1 i1 j1).oneCell'=true∧(∃u,m1.cell? n1=some u)∧m1.frozen? n1=false∧
 ∀o1,o1=(m1.setCell n1 (slice h1 i1 j1))→
 R (bool true) o1))))
 (∃p1 q1 r1,(b1.cell? (nb s)=some (slice p1 q1 r1)∧True)∧
 ah g (fun s1=>
 (slice p1 q1 r1).oneCell'=true∧(∃u,b1.cell? s1=some u)∧b1.frozen? s1=false∧
 ∀t1,t1=(b1.setCell s1 (slice p1 q1 r1))→
 R (bool false) t1))))
theorem Cg (a b:Int) (c:OA) (d f:Nat) (g h i:OA) (w:World) (R:RW) (hh:Qf a b c d f g h i w R):CR 96 #[int .i64 a,int .i64 b,agg #[slice c d f],pointer g,pointer h,pointer i] w R:=
 aF (fn:=Tryz.f96) (by kernel_rfl) (by kernel_rfl) (by kernel_rfl) (by kernel_rfl) (by kernel_rfl) hh
def Pz (a:OA) (b c:Nat) (d:OA) (f g:Nat) (w:World) (R:RW):Prop:=
 ∀h,h=w.alloc (.cells #[slice a b c] 88)→
 ∀i,i=h.alloc (.cells #[slice d f g] 88)→
 ∀j,j=i.alloc (.cells #[slice none 0 0] 88)→
 ∃k l m,(j.cell? (nb w)=some (slice k l m)∧True)∧
 ∃n o p,(j.cell? (nb h)=some (slice n o p)∧True)∧
 CP 42 #[agg #[slice k l m],agg #[slice n o p]] j (fun q r=>
 ∃s,q= .returned (int .i64 s)∧
 ac (decide (s<0))
 ((slice none 0 0).oneCell'=true∧(∃u,r.cell? (nb i)=some u)∧r.frozen? (nb i)=false∧
 ∀t,t=(r.setCell (nb i) (slice none 0 0))→
 ∃x y z,(t.cell? (nb i)=some (slice x y z)∧True)∧
 R (tuple #[agg #[slice x y z],bool false]) t)
 (∃a1 b1 c1,r.cell? ((nb w).add 0)=some (slice a1 b1 c1)∧
 ∃d1 e1 f1 g1,(Instr.makeSlice 86 (int .i64 0) (int .i64 (b1:Int))).run Tryz.prog r= .ok (slice d1 e1 f1) g1∧
 ∃h1 i1 j1,g1.cell? ((nb w).add 0)=some (slice h1 i1 j1)∧
 ∀k1:KW,(∀(l1 m1:Int) (n1:OA) (o1 p1:Nat) (q1:World),(ac (decide (l1< (i1:Int)))
 (∀r1,r1=q1.drew→
 ∃s1 t1 u1,r1.cell? ((nb w).add 0)=some (slice s1 t1 u1)∧
 ah s1 (fun v1=>
 (0:Int)≤l1∧l1< (t1:Int)∧
 ∃x1,r1.cell? (v1.add (l1.toNat*1))=some (int .u32 x1)∧
 ∃y1 z1 a2,(r1.cell? (nb h)=some (slice y1 z1 a2)∧True)∧
 CP 153 #[agg #[slice y1 z1 a2],int .i64 l1] r1 (fun b2 c2=>
 ∃d2,b2= .returned (int .u32 d2)∧
 (c2.cell? (v1.add (l1.toNat*1))=some (int .u32 x1)∧True)∧
 (c2.cell? ((nb w).add 0)=some (slice s1 t1 u1)∧True)∧
 Ar .u64 ((IntKind.wrap .u64 x1:Int)- (IntKind.wrap .u64 d2)) (fun e2=>
 Ar .u64 (e2-m1) (fun f2=>
 ∀g2,g2=c2.alloc (.cells #[int .u32 (IntKind.wrap .u32 f2)] 153)→
 ∃h2 i2 j2 k2,(Builtin.append_ #[86,86] 86 #[slice n1 o1 p1,slice (some (nb c2)) 1 1]).run Tryz.prog g2= .ok (slice h2 i2 j2) k2∧
 (0:Int)≤32∧
 Ar .i64 (l1+1) (fun l2=>
 k1 [int .i64 l2,int .u64 (IntKind.wrap .u64 ((BitVec.ofInt (IntKind.bits .u64) (Int.fdiv f2 (2^(min (32:Int).toNat (IntKind.bits .u64))))&&&BitVec.ofInt (IntKind.bits .u64) 1).toNat:Int)),slice h2 i2 j2] k2))))))
 (CP 93 #[slice n1 o1 p1] q1 (fun m2 n2=>
 ∃o2 p2 q2,m2= .returned (agg #[slice o2 p2 q2])∧
 (slice o2 p2 q2).oneCell'=true∧(∃u,n2.cell? (nb i)=some u)∧n2.frozen? (nb i)=false∧
 ∀r2,r2=(n2.setCell (nb i) (slice o2 p2 q2))→
 ∃s2 t2 u2,(r2.cell? (nb i)=some (slice s2 t2 u2)∧True)∧
 R (tuple #[agg #[slice s2 t2 u2],bool true]) r2)))→k1 [int .i64 l1,int .u64 m1,slice n1 o1 p1] q1)→
 k1 [int .i64 0,int .u64 0,slice d1 e1 f1] g1))
theorem Dl (a:OA) (b c:Nat) (d:OA) (f g:Nat) (w:World) (R:RW) (hh:Pz a b c d f g w R):CR 97 #[agg #[slice a b c],agg #[slice d f g]] w R:=
 aF (fn:=Tryz.f97) (by kernel_rfl) (by kernel_rfl) (by kernel_rfl) (by kernel_rfl) (by kernel_rfl) hh
def Qk (a b:Int) (c:OA) (d f:Nat) (g h i:OA) (w:World) (R:RW):Prop:=
 ∀j,j=w.alloc (.cells #[slice c d f] 88)→
 ah g (fun k=>
 ∃l,j.cell? k=some (int .i64 l)∧
 ac (a==l)
 (ah h (fun m=>
 (int .i64 b).oneCell'=true∧(∃u,j.cell? m=some u)∧j.frozen? m=false∧
 ∀n,n=(j.setCell m (int .i64 b))→
 R (bool true) n))
 (ah i (fun o=>
 ∃p q r,(j.cell? o=some (slice p q r)∧True)∧
 ∃s t x,(j.cell? (nb w)=some (slice s t x)∧True)∧
 ∀y,y=j.alloc (.cells #[slice s t x] 88)→
 CP 40 #[agg #[slice p q r],slice (some (nb j)) 1 1] y (fun z a1=>
 ∃b1 c1 d1,z= .returned (agg #[slice b1 c1 d1])∧
 ah i (fun e1=>
 (slice b1 c1 d1).oneCell'=true∧(∃u,a1.cell? e1=some u)∧a1.frozen? e1=false∧
 ∀f1,f1=(a1.setCell e1 (slice b1 c1 d1))→
 R (bool false) f1)))))
theorem BH (a b:Int) (c:OA) (d f:Nat) (g h i:OA) (w:World) (R:RW) (hh:Qk a b c d f g h i w R):CR 99 #[int .i64 a,int .i64 b,agg #[slice c d f],pointer g,pointer h,pointer i] w R:=
 aF (fn:=Tryz.f99) (by kernel_rfl) (by kernel_rfl) (by kernel_rfl) (by kernel_rfl) (by kernel_rfl) hh
def Oi (a:OA) (b c:Nat) (d:Int) (w:World) (R:RW):Prop:=
 ∀f,f=w.alloc (.cells #[slice a b c] 88)→
 ∃g h i,f.cell? ((nb w).add 0)=some (slice g h i)∧
 ac (decide (d≥(h:Int)))
 (R (int .u32 0) f)
 (∃j k l,f.cell? ((nb w).add 0)=some (slice j k l)∧
 ah j (fun m=>
 (0:Int)≤d∧d< (k:Int)∧
 ∃n,f.cell? (m.add (d.toNat*1))=some (int .u32 n)∧
 R (int .u32 n) f))
theorem za (a:OA) (b c:Nat) (d:Int) (w:World) (R:RW) (hh:Oi a b c d w R):CR 153 #[agg #[slice a b c],int .i64 d] w R:=
 aF (fn:=Tryz.f153) (by kernel_rfl) (by kernel_rfl) (by kernel_rfl) (by kernel_rfl) (by kernel_rfl) hh
def O8 (a:OA) (b:Int) (w:World) (R:RW):Prop:=
 ∃c d,(Instr.makeMap 253 none).run Tryz.prog w= .ok (map c) d∧
 ah a (fun f=>
 ∃g,d.cell? (f.add 1)=some (pointer g)∧
 CP 19 #[pointer g] d (fun h i=>
 ∃j,h= .returned (int .i64 j)∧
 ∀k:KW,(∀(l:Int) (m:World),(ac (decide (l<j))
 (∀n:KW,(∀o:World,(Ar .i64 (l+1) (fun p=>
 k [int .i64 p] o))→n [] o)→
 ∀q,q=m.drew→
 ah a (fun r=>
 ∃s,q.cell? (r.add 0)=some (pointer s)∧
 CP 161 #[pointer a,int .i64 l] q (fun t u=>
 ∃x,t= .returned (int .i64 x)∧
 (u.cell? (r.add 0)=some (pointer s)∧True)∧
 CP 39 #[pointer s,int .i64 b,int .i64 x] u (fun y z=>
 ∃a1 b1,y= .returned (tuple #[int .i64 a1,bool b1])∧
 ac b1
 (ah a (fun c1=>
 ∃d1,z.cell? (c1.add 0)=some (pointer d1)∧
 CP 44 #[pointer d1,int .i64 a1] z (fun e1 f1=>
 ∃g1,e1= .returned (bool g1)∧
 ac g1
 (∃h1 i1,(Instr.lookup 253 (map c) (int .i64 a1) false).run Tryz.prog f1= .ok (int .u32 h1) i1∧
 Ar .u32 (h1+1) (fun j1=>
 ∃k1,(Instr.mapUpdate 253 (map c) (int .i64 a1) (int .u32 j1)).run Tryz.prog i1= .ok () k1∧
 n [] k1))
 (n [] f1))))
 (n [] z)))))
 (R (map c) m))→k [int .i64 l] m)→
 k [int .i64 0] i))
theorem yL (a:OA) (b:Int) (w:World) (R:RW) (hh:O8 a b w R):CR 156 #[pointer a,int .i64 b] w R:=
 aF (fn:=Tryz.f156) (by kernel_rfl) (by kernel_rfl) (by kernel_rfl) (by kernel_rfl) (by kernel_rfl) hh
def NI (a:OA) (b c:Nat) (d:Int) (w:World) (R:RW):Prop:=
 ∀f,f=w.alloc (.cells #[slice a b c] 88)→
 ∀g,g=f.alloc (.cells #[slice none 0 0] 88)→
 ∃h i j,g.cell? ((nb w).add 0)=some (slice h i j)∧
 Ar .i64 ((i:Int)+1) (fun k=>
 ∃l m n o,(Instr.makeSlice 86 (int .i64 0) (int .i64 k)).run Tryz.prog g= .ok (slice l m n) o∧
 ∃p q r,o.cell? ((nb w).add 0)=some (slice p q r)∧
 ∀s:KW,(∀(t x:Int) (y:OA) (z a1:Nat) (b1:World),(ac (decide (t< (q:Int)))
 (ah p (fun c1=>
 (0:Int)≤t∧t< (q:Int)∧
 ∃d1,b1.cell? (c1.add (t.toNat*1))=some (int .u32 d1)∧
 Ar .u64 ((IntKind.wrap .u64 d1:Int)*(IntKind.wrap .u64 d)) (fun e1=>
 Ar .u64 (e1+x) (fun f1=>
 ∀g1,g1=b1.alloc (.cells #[int .u32 (IntKind.wrap .u32 f1)] 153)→
 ∃h1 i1 j1 k1,(Builtin.append_ #[86,86] 86 #[slice y z a1,slice (some (nb b1)) 1 1]).run Tryz.prog g1= .ok (slice h1 i1 j1) k1∧
 (0:Int)≤32∧
 Ar .i64 (t+1) (fun l1=>
 s [int .i64 l1,int .u64 (Int.fdiv f1 (2^(min (32:Int).toNat (IntKind.bits .u64)))),slice h1 i1 j1] k1)))))
 (∀m1,m1=b1.alloc (.cells #[int .u32 (IntKind.wrap .u32 x)] 153)→
 ∃n1 o1 p1 q1,(Builtin.append_ #[86,86] 86 #[slice y z a1,slice (some (nb b1)) 1 1]).run Tryz.prog m1= .ok (slice n1 o1 p1) q1∧
 CP 93 #[slice n1 o1 p1] q1 (fun r1 s1=>
 ∃t1 u1 v1,r1= .returned (agg #[slice t1 u1 v1])∧
 (slice t1 u1 v1).oneCell'=true∧(∃u,s1.cell? (nb f)=some u)∧s1.frozen? (nb f)=false∧
 ∀x1,x1=(s1.setCell (nb f) (slice t1 u1 v1))→
 ∃y1 z1 a2,(x1.cell? (nb f)=some (slice y1 z1 a2)∧True)∧
 R (agg #[slice y1 z1 a2]) x1)))→s [int .i64 t,int .u64 x,slice y z a1] b1)→
 s [int .i64 0,int .u64 0,slice l m n] o)
theorem zu (a:OA) (b c:Nat) (d:Int) (w:World) (R:RW) (hh:NI a b c d w R):CR 157 #[agg #[slice a b c],int .u32 d] w R:=
 aF (fn:=Tryz.f157) (by kernel_rfl) (by kernel_rfl) (by kernel_rfl) (by kernel_rfl) (by kernel_rfl) hh
def OZ (a:Int) (w:World) (R:RW):Prop:=
 R (bool (a != a)) w
theorem zI (a:Int) (w:World) (R:RW) (hh:OZ a w R):CR 159 #[int .u32 a] w R:=
 aF (fn:=Tryz.f159) (by kernel_rfl) (by kernel_rfl) (by kernel_rfl) (by kernel_rfl) (by kernel_rfl) hh
def MB (a:OA) (b:Int) (w:World) (R:RW):Prop:=
 ah a (fun c=>
 ∃d,w.cell? (c.add 1)=some (pointer d)∧
 CP 38 #[pointer d,int .i64 b] w (fun f g=>
 ∃h i,f= .returned (tuple #[int .i64 h,bool i])∧
 R (int .i64 h) g))
theorem zU (a:OA) (b:Int) (w:World) (R:RW) (hh:MB a b w R):CR 161 #[pointer a,int .i64 b] w R:=
 aF (fn:=Tryz.f161) (by kernel_rfl) (by kernel_rfl) (by kernel_rfl) (by kernel_rfl) (by kernel_rfl) hh
def dY (b n:Nat):List Int:=if h:2≤b∧n≠0 then((n%b:Nat):Int)::dY b (n/b)else []
termination_by n
decreasing_by exact Nat.div_lt_self (by omega) (by omega)
def cN (b:Nat):List Int→Nat
 | []=>0
 |x::r=>x.toNat+b*cN b r
def yD (b:Nat) (l:List Int):Prop:=∀x∈l,0≤x∧x< (b:Int)
section
variable {b:Nat}
theorem ez:dY b 0= []:=by unfold dY;simp
theorem lp (hb:2≤b) {n:Nat} (h:n≠0):dY b n=((n%b:Nat):Int)::dY b (n/b):=by
 rw [dY,dif_pos ⟨hb,h⟩]
theorem Hs (hb:2≤b) (n:Nat):cN b (dY b n)=n:=by
 induction n using Nat.strongRecOn with
 |ind n ih=>
  by_cases h:n=0
  ·subst h;rw [ez];rfl
  ·rw [lp hb h];show(((n%b:Nat):Int)).toNat+b*cN b (dY b (n/b))=n;rw [ih _ (Nat.div_lt_self (by omega) (by omega)),Int.toNat_natCast];exact Nat.mod_add_div n b
theorem Ht (hb:2≤b) (n i:Nat):(dY b n)[i]? =if b^i≤n then some ((n/b^i%b:Nat):Int)else none:=by
 induction i generalizing n with
 |zero=>
  by_cases h:n=0
  ·subst h;rw [ez];simp
  ·rw [lp hb h,if_pos (by simp;omega)];simp
 |succ i ih=>
  by_cases h:n=0
  ·subst h;rw [ez,if_neg (by have:=Nat.pow_pos (a:=b) (n:=i+1) (by omega);omega)];simp
  ·rw [lp hb h,List.getElem?_cons_succ,ih];have e:b^i≤n/b↔b^(i+1)≤n:=by
    rw [Nat.le_div_iff_mul_le (by omega),Nat.pow_succ]
   rw [Nat.div_div_eq_div_mul,Nat.mul_comm b, ←Nat.pow_succ];simp only [e]
theorem hD (hb:2≤b) (n i:Nat):i< (dY b n).length↔b^i≤n:=by
 have h:=Ht hb n i;by_cases hi:b^i≤n
 ·rw [if_pos hi]at h;exact iff_of_true (List.getElem?_eq_some_iff.1 h).1 hi
 ·rw [if_neg hi]at h;exact iff_of_false (by have:=List.getElem?_eq_none_iff.1 h;omega) hi
theorem jW (hb:2≤b) {n i:Nat} (h:i< (dY b n).length):(dY b n)[i]=((n/b^i%b:Nat):Int):=by
 have e:=Ht hb n i;rw [if_pos ((hD hb n i).1 h),QW h]at e;exact Option.some.inj e
theorem iI (hb:2≤b) {n i:Nat} (h:(dY b n).length≤i):n/b^i=0∧n%b^i=n:=by
 have:n<b^i:=Nat.lt_of_not_le fun hh=>by
  have:=(hD hb n i).2 hh;omega
 exact⟨Nat.div_eq_of_lt this,Nat.mod_eq_of_lt this⟩
theorem Jo (hb:2≤b) {n:Nat}:dY b n= []↔n=0:=by
 constructor
 ·intro h;have:=Hs hb n;rw [h]at this;exact this.symm
 ·rintro rfl;exact ez
theorem DL (hb:2≤b):∀l:List Int,yD b l→(∀x,l.getLast?=some x→x≠0)→dY b (cN b l)=l
 | [],_,_=>ez
 |x::r,hr,hl=>by
  have hx:=hr x (by simp);have ih:dY b (cN b r)=r:=DL hb r (fun y hy=>hr y (by simp [hy])) fun y hy=>by
   cases r with
   |nil=>cases hy
   |cons z r=>exact hl y (by rw [List.getLast?_cons_cons];exact hy)
  have hne:x.toNat+b*cN b r≠0:=by
   intro h0;have h1:x=0:=by omega
   have h2:b*cN b r=0:=by omega
   have h3:cN b r=0:=by
    rcases Nat.mul_eq_zero.1 h2 with h |h
    ·omega
    ·exact h
   rw [h3,ez]at ih;rw [←ih]at hl;exact hl x rfl h1
  show dY b (x.toNat+b*cN b r)=x::r;rw [lp hb hne,Nat.add_mul_mod_self_left,Nat.mod_eq_of_lt (by omega),Nat.add_mul_div_left _ _ (by omega),Nat.div_eq_of_lt (by omega),Nat.zero_add,ih];congr 1;omega
theorem fh (l r:List Int):cN b (l++r)=cN b l+b^l.length*cN b r:=by
 induction l with
 |nil=>simp [cN]
 |cons x l ih=>
  rw [List.cons_append];show x.toNat+b*cN b (l++r)=x.toNat+b*cN b l+b^(l.length+1)*cN b r;rw [ih,Nat.mul_add,Nat.pow_succ,Nat.mul_comm (b^l.length) b,Nat.mul_assoc];omega
theorem kA (x:Nat):cN b [(x:Int)]=x:=by simp [cN]
theorem sw:∀l:List Int,(∀x∈l,x=0)→cN b l=0
 | [],_=>rfl
 |x::r,h=>by
  show x.toNat+b*cN b r=0;rw [h x (by simp),sw r fun y hy=>h y (by simp [hy])];simp
theorem ju (hb:2≤b) {m n:Nat} (h:m≤n):(dY b m).length≤(dY b n).length:=by
 refine Nat.le_of_not_lt fun hlt=>?_;have:=(hD hb m _).1 hlt;have:=(hD hb n (dY b n).length).2 (by omega);omega
theorem GJ (hb:2≤b) {l:List Int} (hr:yD b l) {k:Nat} (hk:k≤l.length) (h0:∀(j:Nat) (hj:j<l.length),k≤j→l[j]=0) (h1:∀(hk:k-1<l.length),0<k→l[k-1]≠0):l.take k=dY b (cN b l):=by
 have e:cN b l=cN b (l.take k):=by
  conv=>lhs;rw [←List.take_append_drop k l]
  rw [fh,sw (l.drop k),Nat.mul_zero,Nat.add_zero];intro x hx;obtain⟨j,hj,rfl⟩:=List.getElem_of_mem hx;rw [List.getElem_drop];rw [List.length_drop]at hj;exact h0 _ (by omega) (by omega)
 rw [e,DL hb]
 ·intro x hx;exact hr x (List.mem_of_mem_take hx)
 ·intro x hx;rw [List.getLast?_eq_getElem?,List.length_take,Nat.min_eq_left hk,List.getElem?_take]at hx;split at hx
  ·rename_i hlt;rw [QW (by omega)]at hx;cases hx;exact h1 (by omega) (by omega)
  ·cases hx
theorem kB {l:List Int} (h:yD b l) {x:Nat} (hx:x<b):yD b (l++ [(x:Int)]):=by
 intro y hy;rcases List.mem_append.1 hy with hy |hy
 ·exact h y hy
 ·rw [List.mem_singleton.1 hy];omega
theorem Jg {l:List Int} (h:yD b l):cN b l<b^l.length:=by
 induction l with
 |nil=>exact Nat.one_pos
 |cons x r ih=>
  have hx:=h x (by simp);have hr:=ih fun y hy=>h y (by simp [hy]);show x.toNat+b*cN b r<b^(r.length+1);rw [Nat.pow_succ,Nat.mul_comm (b^r.length) b];have:b*cN b r+b≤b*b^r.length:=by
   rw [←Nat.mul_succ];exact Nat.mul_le_mul_left _ hr
  omega
theorem G' {L:List Int} {i x y c:Nat} (hL:L.length=i) (hI:cN b L+c*b^i=x%b^i+y%b^i) {s:Nat} (hs:s=x/b^i%b+y/b^i%b+c):cN b (L++ [((s%b:Nat):Int)])+s/b*b^(i+1)=x%b^(i+1)+y%b^(i+1):=by
 rw [fh,kA,hL,Nat.mod_pow_succ,Nat.mod_pow_succ];have e:s=s%b+b*(s/b):=(Nat.mod_add_div s b).symm;have e2:b^i*(s%b)+s/b*b^(i+1)=b^i*s:=by
  conv=>rhs;rw [e]
  rw [Nat.mul_add,Nat.pow_succ,Nat.mul_comm (s/b),Nat.mul_assoc]
 have e3:b^i*s=b^i*(x/b^i%b)+b^i*(y/b^i%b)+c*b^i:=by
  rw [hs,Nat.mul_add,Nat.mul_add,Nat.mul_comm (b^i) c]
 omega
theorem C_ {L:List Int} {i x n c:Nat} (hL:L.length=i) (hI:cN b L+c*b^i=x%b^i*n) {s:Nat} (hs:s=x/b^i%b*n+c):cN b (L++ [((s%b:Nat):Int)])+s/b*b^(i+1)=x%b^(i+1)*n:=by
 rw [fh,kA,hL,Nat.mod_pow_succ];have e:s=s%b+b*(s/b):=(Nat.mod_add_div s b).symm;have e2:b^i*(s%b)+s/b*b^(i+1)=b^i*s:=by
  conv=>rhs;rw [e]
  rw [Nat.mul_add,Nat.pow_succ,Nat.mul_comm (s/b),Nat.mul_assoc]
 have e3:b^i*s=b^i*(x/b^i%b)*n+c*b^i:=by
  rw [hs,Nat.mul_add,Nat.mul_comm (b^i) c,Nat.mul_assoc]
 rw [Nat.add_mul];omega
theorem GH {L:List Int} {i x y o:Nat} (hL:L.length=i) (hI:cN b L+y%b^i=x%b^i+o*b^i) {d o':Nat} (hd:d+(y/b^i%b+o)=x/b^i%b+o'*b):cN b (L++ [(d:Int)])+y%b^(i+1)=x%b^(i+1)+o'*b^(i+1):=by
 rw [fh,kA,hL,Nat.mod_pow_succ,Nat.mod_pow_succ];have e:=congrArg (fun t=>b^i*t) hd;simp only [Nat.mul_add]at e;have e2:b^i*(o'*b)=o'*b^(i+1):=by rw [Nat.pow_succ, ←Nat.mul_assoc,Nat.mul_comm (b^i) o',Nat.mul_assoc]
 have e3:b^i*o=o*b^i:=Nat.mul_comm _ _;omega
theorem va (x i:Nat):x/b^i=b*(x/b^(i+1))+x/b^i%b:=by
 rw [Nat.pow_succ, ←Nat.div_div_eq_div_mul];exact(Nat.div_add_mod (x/b^i) b).symm
theorem ER (hb:2≤b) {x n i rest q:Nat} (hn:0<n) (hI:q*n+rest=x/b^(i+1)) (hr:rest<n) {s:Nat} (hs:s=rest*b+x/b^i%b):(b*q+s/n)*n+s%n=x/b^i∧s%n<n∧s/n<b:=by
 refine⟨?_,Nat.mod_lt _ hn,?_⟩
 ·rw [va x i, ←hI,Nat.add_mul,Nat.add_assoc,Nat.mul_comm (s/n) n,Nat.div_add_mod,hs,Nat.mul_add,Nat.mul_assoc,Nat.mul_comm rest b];omega
 ·rw [Nat.div_lt_iff_lt_mul hn,hs];have h1:=Nat.mod_lt (x/b^i) (show 0<b by omega);have h2:rest*b+b≤n*b:=by
   rw [←Nat.succ_mul];exact Nat.mul_le_mul_right _ hr
  rw [Nat.mul_comm b n];omega
theorem wu {x y i:Nat} (hI:x/b^(i+1)=y/b^(i+1)):(x/b^i%b<y/b^i%b→x<y)∧(x/b^i%b=y/b^i%b→x/b^i=y/b^i):=by
 have ex:=va (b:=b) x i;have ey:=va (b:=b) y i;rw [hI]at ex;refine⟨fun h=>?_,fun h=>by omega⟩;have h1:x/b^i<y/b^i:=by omega
 refine Nat.lt_of_not_le fun h2=>?_;have:=Nat.div_le_div_right (c:=b^i) h2;omega
theorem DG (hb:2≤b) {x y:Nat} (h:(dY b x).length< (dY b y).length):x<y:=by
 have h1:=(hD hb y _).1 h;have h2:¬b^(dY b x).length≤x:=fun hh=>by
  have:=(hD hb x _).2 hh;omega
 omega
end
abbrev bU:TypeId:=88
abbrev dB:TypeId:=153
abbrev ue:TypeId:=86
theorem vS:Tryz.prog.underlying ue=some (.slice dB):=by kernel_rfl
theorem vz:(Tryz.prog.info? dB).map (fun i=>(i.zero,i.size,i.bytes))=some (some (.int .u32 0),1,4):=by kernel_rfl
def dW (n:Int):List Value:=[.int .u32 n]
theorem oe:xI dW 1 ue dB 4:=⟨fun _=>rfl,by decide,fun x u hu=>by rw [List.mem_singleton.1 hu];rfl,vS,_,vz,rfl⟩
theorem dJ:2≤4294967296:=by decide
def tX (e:TypeId) (w:World) (l:Sl):Prop:=∀p,l.a=some p→∃c fz,w.heap[p.block]? =some (.cells c e fz)
theorem tX.on {e:TypeId} {w w':World} {l:Sl} (h:tX e w l) (hb:Below w.heap.size w w'):tX e w' l:=fun p hp=>by
 obtain⟨c,fz,hc⟩:=h p hp;exact⟨c,fz,ag hb hc⟩
theorem jd {w:World} {B:Nat} {e:TypeId} {sz:Nat} {l:Sl} {xs:List Value} (h:w.ownsRow B e sz l.v l.n xs):tX e w l:=by
 intro p hp;obtain⟨la,ln,lc⟩:=l;rcases h.2 with⟨hv,_⟩ |⟨g,cap,cur,hv,_,hg,_⟩
 ·cases hv;cases hp
 ·cases hv;cases hp;exact⟨_,_,hg⟩
structure aZ (w:World) (l:Sl) (n:Nat):Prop extends LsAt dW 1 w l (dY 4294967296 n)where
 ty:tX dB w l
theorem aZ.on {w w':World} {l:Sl} {n:Nat} (h:aZ w l n) (hb:Below w.heap.size w w'):aZ w' l n:=⟨LsAt.on h.toLsAt hb,h.ty.on hb⟩
theorem aZ.keep {w w':World} {l:Sl} {n:Nat} (h:aZ w l n) (hk:∀p c fz,l.a=some p→w.heap[p.block]? =some (.cells c dB fz)→w'.heap[p.block]? =w.heap[p.block]?) (hz:w.heap.size≤w'.heap.size):aZ w' l n:=by
 refine⟨⟨h.n,fun j x hj=>?_,h.k⟩,fun p hp=>?_⟩
 ·obtain⟨p,hp,hlt,hc⟩:=h.r j x hj;obtain⟨c,fz,hb⟩:=h.ty p hp;refine⟨p,hp,Nat.lt_of_lt_of_le hlt hz,fun k v hv=>?_⟩;rw [←hc k v hv];unfold World.cell?;rw [ay,ay,hk p c fz hp hb]
 ·obtain⟨c,fz,hb⟩:=h.ty p hp;exact⟨c,fz,(hk p c fz hp hb).trans hb⟩
theorem aZ.put {w w':World} {l s:Sl} {n b:Nat} {T:TypeId} {fz:Nat×Nat} (h:aZ w l n) (hb:w.heap[b]? =some (.cells #[s.v] T fz)) (hT:T≠dB) (hne:∀j,j≠b→w'.heap[j]? =w.heap[j]?) (hz:w.heap.size≤w'.heap.size):aZ w' l n:=
 h.keep (fun p c fz _ hc=>hne _ fun e=>by
  rw [e,hb]at hc;cases hc;exact hT rfl) hz
theorem cq {q:World} {b:Nat} {x s:Sl} {K:World→Prop} (h:q.heap[b]? =some (.cells #[x.v] bU (0,0))) (hk:∀q',q'.heap[b]? =some (.cells #[s.v] bU (0,0))→(∀l n,aZ q l n→aZ q' l n)→(∀B w0,B≤b→Below B w0 q→Below B w0 q')→(∀j,j≠b→q'.heap[j]? =q.heap[j]?)→q'.heap.size=q.heap.size→K q'):
  s.v.oneCell'=true∧(∃u,q.cell? ⟨b,0,none⟩=some u)∧q.frozen? ⟨b,0,none⟩=false∧∀q',q'=q.setCell ⟨b,0,none⟩ s.v→K q':=
 dS (aW h [s.v] rfl (fun v hv=>by rw [List.mem_singleton.1 hv];rfl) fun q' h1 h2 h3 h4=>hk q' h1 (fun l n hn=>hn.put h (by decide) h2 (by omega)) h4 h2 h3)
theorem aH {w:World} {b:Nat} {x:Sl} {T:TypeId} {fz:Nat×Nat} (h:w.heap[b]? =some (.cells #[x.v] T fz)):w.cell? ⟨b,0,none⟩=some (.slice x.a x.n x.c)∧True:=⟨aL h,trivial⟩
theorem ce {w:World} {b:Nat} {x:Sl} {T:TypeId} {fz:Nat×Nat} (h:w.heap[b]? =some (.cells #[x.v] T fz)):w.cell? ((⟨b,0,none⟩:Addr).add 0)=some (.slice x.a x.n x.c):=by rw [aj _ _ h];rfl
theorem Rw.head {α:Type} {enc:α→List Value} {sz:Nat} {w:World} {a:Option Addr} {xs:List α} (h:Rw enc sz w a xs) (n:Nat):Rw enc sz w (bE a 0 n sz) (xs.take n):=by
 intro j x hj;have hlt:j<n:=by
  have:=(List.getElem?_eq_some_iff.1 hj).1;rw [List.length_take]at this;omega
 obtain⟨p,rfl,hp,hc⟩:=h.take n j x hj;unfold bE;rw [if_neg (by omega)];refine⟨p.add (0*sz),rfl,by rw [ay];exact hp,fun k v hk=>?_⟩;rw [Addr.add_add p,Nat.zero_mul,Nat.zero_add];exact hc k v hk
theorem Ar.u64 {z:Int} {F:Int→Prop} (n:Nat) (hz:z=(n:Int)) (hn:n<18446744073709551616) (h:F (n:Int)):Ar .u64 z F:=by
 subst hz;exact Ar.ok (k:=.u64) (by show(0:Int)≤_;omega) (by show _≤(18446744073709551615:Int);omega) h
theorem dF (x:Nat):IntKind.wrap .u32 (x:Int)=((x%4294967296:Nat):Int):=by
 simp [IntKind.wrap,IntKind.bits,IntKind.signed]
theorem de {x:Nat} (h:x<18446744073709551616):IntKind.wrap .u64 (x:Int)=(x:Int):=cZ (by show(0:Int)≤_;omega) (by show _≤(18446744073709551615:Int);omega)
theorem GA (x:Nat):Int.fdiv (x:Int) (2^(min (32:Int).toNat (IntKind.bits .u64)))=((x/4294967296:Nat):Int):=by
 rw [show(2:Int)^(min (32:Int).toNat (IntKind.bits .u64))=((4294967296:Nat):Int) by decide,Int.fdiv_eq_ediv_of_nonneg _ (by omega)];rfl
theorem mP (w:World) (c:Nat) (hc:c≤1000000):∃w1,(Instr.makeSlice ue (.int .i64 0) (.int .i64 (c:Int))).run Tryz.prog w= .ok (.slice (some (nb w)) 0 c) w1∧w1.ownsRow w.heap.size dB 1 (.slice (some (nb w)) 0 c) 0 (([]:List Int).flatMap dW)∧Below w.heap.size w w1:=by
 obtain⟨i,hi,hz,hs,hb⟩:=info_parts vz;have:=Go.run_make (P:=Tryz.prog) w ue dB i (.int .u32 0) vS hi hz .i64 .i64 0 (c:Int) (by omega) (by omega) (by rw [hb];omega) (by omega);refine⟨_,this,?_,af _ _⟩;refine⟨rfl,.inr ⟨w.heap.size,c,_,rfl,Q0 _,ak _ _,Nat.zero_le _,by unfold maxLen;omega,?_,by simp⟩⟩;rw [size_madeCells,hs];simp
theorem fy (w:World) (l:Sl) (xs:List Int) (h:LsAt dW 1 w l xs) (ht:tX dB w l) (hc:l.n≤l.c) (hr:yD 4294967296 xs) (hl:xs.length≤1000000):
  CP 93 #[l.v] w fun e w'=>∃r:Sl,e= .returned (.agg #[r.v])∧aZ w' r (cN 4294967296 xs)∧Below w.heap.size w w':=by
 refine aO (CS l.a l.n l.c w) ?_;intro w1 hw1;have b1:Below w.heap.size w w1:=by subst hw1;exact af _ _
 have x1:w1.heap[w.heap.size]? =some (.cells #[bO.v] bU (0,0)):=by subst hw1;exact ak _ _
 have h1:=LsAt.on h b1;have hn:=h.n;have out:∀n,n≤xs.length→(∀(j:Nat) (hj:j<xs.length),n≤j→xs[j]=0)→(∀(hk:n-1<xs.length),0<n→xs[n-1]≠0)→aZ w1 ⟨bE l.a 0 n 1,n-0,n-0⟩ (cN 4294967296 xs):=by
  intro n hn h0 h2;have e:=GJ dJ hr hn h0 h2;refine⟨?_,fun p hp=>?_⟩;rotate_left
  ·unfold bE at hp;by_cases hz:n=0
   ·rw [if_pos hz]at hp;exact ht.on b1 p hp
   ·rw [if_neg hz]at hp;obtain⟨p',hp',rfl⟩:=Option.map_eq_some_iff.1 hp;rw [ay];exact ht.on b1 p' hp'
  rw [←e];refine⟨by rw [List.length_take];show n-0=_;omega,h1.r.head n,?_⟩;unfold bE;by_cases hz:n=0
  ·subst hz;rw [if_pos rfl];cases l.a with
   |none=>exact .inl rfl
   |some p=>exact .inr ⟨p,rfl⟩
  ·rw [if_neg hz];obtain⟨p,hp,_⟩:=aS h1.r (show 0<xs.length by omega) rfl;rw [hp];exact .inr ⟨_,rfl⟩
 intro I hI;have key:∀n,n≤xs.length→(∀(j:Nat) (hj:j<xs.length),n≤j→xs[j]=0)→I [.int .i64 (n:Int)] w1:=by
  intro n;induction n with
  |zero=>
   intro _ h0;refine hI _ w1 (ac.no rfl ⟨by omega,by omega,by omega,by omega,trivial,cq (s:=⟨bE l.a 0 0 1,0-0,0-0⟩) x1 fun q' hx hN hB _ _=>⟨_,_,_,aH hx,⟨bE l.a 0 0 1,0-0,0-0⟩,rfl,hN _ _ (out 0 (Nat.zero_le _) h0 (fun _ h=>absurd h (by decide))),hB _ _ (Q0 _) b1⟩⟩)
  |succ n ih=>
   intro hle h0;obtain⟨p,hp,c0⟩:=aS h1.r (show n<xs.length by omega) rfl;refine hI _ w1 (ac.yes (QY (by omega)) (Ar.nat n (by omega) (by omega) (ah.mk p hp ⟨by omega,by omega,_,c0,ac.mk (fun he=>?_) fun he=>?_⟩)))
   ·have he:xs[n]=0:=by simpa using he
    refine Ar.nat n (by omega) (by omega) (ih (by omega) fun j hj hle2=>?_);by_cases e:j=n
    ·subst e;exact he
    ·exact h0 j hj (by omega)
   ·have he:xs[n]≠0:=by simpa using he
    exact⟨by omega,by omega,by omega,by omega,trivial,cq (s:=⟨bE l.a 0 (n+1) 1,n+1-0,n+1-0⟩) x1 fun q' hx hN hB _ _=>⟨_,_,_,aH hx,⟨bE l.a 0 (n+1) 1,n+1-0,n+1-0⟩,rfl,hN _ _ (out (n+1) hle h0 (fun _ _=>he)),hB _ _ (Q0 _) b1⟩⟩
 rw [hn];exact key xs.length (Q0 _) fun j hj hle=>absurd hj (by omega)
theorem iE (w:World) (n:Nat) (hn:n<18446744073709551616):
  CP 53 #[.int .u64 (n:Int)] w fun e w'=>∃r:Sl,e= .returned (.agg #[r.v])∧aZ w' r n∧Below w.heap.size w w':=by
 refine aO (Cc (n:Int) w) ?_;intro w1 hw1;have b1:Below w.heap.size w w1:=by subst hw1;exact af _ _
 have x1:w1.heap[w.heap.size]? =some (.cells #[bO.v] bU (0,0)):=by subst hw1;exact ak _ _
 refine⟨by decide,?_⟩;intro w2 hw2;rw [GA,dF,dF]at hw2;have b2:Below w1.heap.size w1 w2:=by subst hw2;exact af _ _
 have l2:w2.heap[w1.heap.size]? =some (.cells #[.int .u32 ((n%4294967296:Nat):Int),.int .u32 ((n/4294967296%4294967296:Nat):Int)] dB (0,0)):=by subst hw2;exact ak _ _
 have hls:LsAt dW 1 w2 ⟨some (nb w1),2,2⟩ [((n%4294967296:Nat):Int),((n/4294967296%4294967296:Nat):Int)]:=by
  refine⟨rfl,fun j x hj=>?_,.inr ⟨_,rfl⟩⟩;refine⟨nb w1,rfl,(QV.1 l2).1,fun k v hk=>?_⟩
  match k,hk with
  |0,hk=>
   cases hk;rw [ax,Nat.mul_one,aj _ _ l2]
   match j,hj with
   |0,hj=>cases hj;rfl
   |1,hj=>cases hj;rfl
 have hin:yD 4294967296 [((n%4294967296:Nat):Int),((n/4294967296%4294967296:Nat):Int)]:=by
  intro x hx;simp only [List.mem_cons,List.not_mem_nil,or_false]at hx;rcases hx with rfl |rfl<;>omega
 have hv:cN 4294967296 [((n%4294967296:Nat):Int),((n/4294967296%4294967296:Nat):Int)]=n:=by
  simp only [cN,Int.toNat_natCast];omega
 refine(fy w2 ⟨some (nb w1),2,2⟩ _ hls (fun p hp=>by cases hp;exact⟨_,_,l2⟩) (Q0 _) hin (by simp)).mono ?_;rintro e w3 ⟨r,rfl,hN,b3⟩;rw [hv]at hN;have b23:=ae b2 b3;refine⟨r.a,r.n,r.c,rfl,cq (s:=r) (ag b23 x1) fun q' hx hN' hB _ _=>⟨_,_,_,aH hx,r,rfl,hN' _ _ hN,hB _ _ (Q0 _) (ae b1 b23)⟩⟩
theorem gW (w:World) (l:Sl) (n:Nat) (h:aZ w l n):
  CP 43 #[.agg #[l.v]] w fun e w'=>e= .returned (.bool (decide (n=0)))∧Below w.heap.size w w':=by
 refine aO (C7 l.a l.n l.c w) ?_;intro w1 hw1;have b1:Below w.heap.size w w1:=by subst hw1;exact af _ _
 have x1:w1.heap[w.heap.size]? =some (.cells #[l.v] bU (0,0)):=by subst hw1;exact ak _ _
 refine⟨_,_,_,ce x1,?_,b1⟩;have hn:=h.n;congr 2;rw [Bool.eq_iff_iff,beq_iff_eq,decide_eq_true_eq, ←Jo dJ, ←List.length_eq_zero_iff, ←hn];omega
theorem mw (w:World) (l:Sl) (n:Nat) (h:aZ w l n) (i:Nat):
  CP 153 #[.agg #[l.v],.int .i64 (i:Int)] w fun e w'=>e= .returned (.int .u32 ((n/4294967296^i%4294967296:Nat):Int))∧Below w.heap.size w w':=by
 refine aO (za l.a l.n l.c (i:Int) w) ?_;intro w1 hw1;have b1:Below w.heap.size w w1:=by subst hw1;exact af _ _
 have x1:w1.heap[w.heap.size]? =some (.cells #[l.v] bU (0,0)):=by subst hw1;exact ak _ _
 have hn:=h.n;refine⟨_,_,_,ce x1,ac.mk (fun h0=>?_) fun h0=>?_⟩
 ·have h0:=QQ h0;rw [(iI dJ (n:=n) (i:=i) (by omega)).1];exact⟨rfl,b1⟩
 ·have h0:=QX h0;have hlt:i< (dY 4294967296 n).length:=by omega
  obtain⟨p,hp,c0⟩:=aS (aZ.on h b1).r hlt rfl;rw [jW dJ hlt]at c0;exact⟨_,_,_,ce x1,ah.mk p hp ⟨by omega,by omega,_,c0,rfl,b1⟩⟩
set_option maxHeartbeats 1000000 in
theorem u_ (w:World) (la lb:Sl) (a b:Nat) (ha:aZ w la a) (hb:aZ w lb b) (h1:(dY 4294967296 a).length≤100000) (h2:(dY 4294967296 b).length≤100000):
  CP 82 #[.agg #[la.v],.agg #[lb.v]] w fun e w'=>∃r:Sl,e= .returned (.agg #[r.v])∧aZ w' r (a+b)∧Below w.heap.size w w':=by
 refine aO (BB la.a la.n la.c lb.a lb.n lb.c w) ?_;intro w1 hw1 w2 hw2 w3 hw3;have b1:Below w.heap.size w w1:=by subst hw1;exact af _ _
 have b2:Below w1.heap.size w1 w2:=by subst hw2;exact af _ _
 have b3:Below w2.heap.size w2 w3:=by subst hw3;exact af _ _
 have z1:w1.heap.size=w.heap.size+1:=by subst hw1;exact av _ _
 have z2:w2.heap.size=w1.heap.size+1:=by subst hw2;exact av _ _
 have b13:=ae b2 b3;have b03:=ae b1 b13;have x1:w3.heap[w.heap.size]? =some (.cells #[la.v] bU (0,0)):=ag b13 (by subst hw1;exact ak _ _);have x2:w3.heap[w1.heap.size]? =some (.cells #[lb.v] bU (0,0)):=ag b3 (by subst hw2;exact ak _ _);have x3:w3.heap[w2.heap.size]? =some (.cells #[bO.v] bU (0,0)):=by subst hw3;exact ak _ _
 have hna:=ha.n;have hnb:=hb.n;obtain⟨N,hN⟩:∃N:Nat,(if((lb.n:Nat):Int)>((la.n:Nat):Int)then((lb.n:Nat):Int)else((la.n:Nat):Int))=(N:Int)∧la.n≤N∧lb.n≤N∧N≤100000:=by
  by_cases hh:((lb.n:Nat):Int)>((la.n:Nat):Int)
  ·exact⟨lb.n,if_pos hh,by omega,by omega,by omega⟩
  ·exact⟨la.n,if_neg hh,by omega,by omega,by omega⟩
 obtain⟨hN,n1,n2,n3⟩:=hN;obtain⟨w5,e5,o5,b5⟩:=mP w3 (N+1) (by omega);refine⟨_,_,_,ce x1,_,_,_,ce x2,(N:Int),w3,by rw [←hN];exact rX _ _ _ _ _,Ar.nat (N+1) rfl (by omega) ⟨_,_,_,w5,e5,?_⟩⟩;intro I hI;have key:=aU (α:=Nat×List Int×Sl×World) N (fun i y=>y.2.1.length=i∧yD 4294967296 y.2.1∧cN 4294967296 y.2.1+y.1*4294967296^i=a%4294967296^i+b%4294967296^i∧y.1≤1∧y.2.2.2.ownsRow w3.heap.size dB 1 y.2.2.1.v y.2.2.1.n (y.2.1.flatMap dW)∧Below w3.heap.size w3 y.2.2.2) (fun i y=>I [.int .i64 (i:Int),.int .u64 (y.1:Int),y.2.2.1.v] y.2.2.2) (0,[],⟨some (nb w3),0,N+1⟩,w5) ⟨rfl,fun x hx=>(by cases hx),by simp [cN,Nat.mod_one],Nat.zero_le _,o5,b5⟩ ?_ ?_
 ·exact key
 ·rintro i hi ih ⟨c,L,f,q⟩ ⟨hL,hin,hv,hc,ho,hq⟩;change L.length=i at hL;change yD 4294967296 L at hin;change cN 4294967296 L+c*4294967296^i=a%4294967296^i+b%4294967296^i at hv;change c≤1 at hc;change q.ownsRow w3.heap.size dB 1 f.v f.n (L.flatMap dW)at ho;change Below w3.heap.size w3 q at hq;have hfn:f.n=L.length:=(Rw.of_own ho (fun _=>rfl) (by decide)).2;refine hI _ _ f.a f.n f.c q (ac.yes (QY (by omega)) ?_);intro w7 hw7;have b7:Below q.heap.size q w7:=by subst hw7;exact aI q
  have hq7:=ae hq b7;refine⟨_,_,_,aH (ag hq7 x1),_,_,_,aH (ag hq7 x2),?_⟩;have hb37:=ae b03 hq7;refine(mw w7 la a (ha.on hb37) i).mono ?_;rintro e w8 ⟨rfl,b8⟩;have hq8:=ae hq7 b8;refine⟨_,rfl,aH (ag hq8 x2),(mw w8 lb b (hb.on (ae b03 hq8)) i).mono ?_⟩;rintro e w9 ⟨rfl,b9⟩;have hq9:=ae hq8 b9;obtain⟨s,hs⟩:∃s,s=a/4294967296^i%4294967296+b/4294967296^i%4294967296+c:=⟨_,rfl⟩;have m1:=Nat.mod_lt (a/4294967296^i) (show 0<4294967296 by decide);have m2:=Nat.mod_lt (b/4294967296^i) (show 0<4294967296 by decide);refine⟨_,rfl,Ar.u64 (a/4294967296^i%4294967296+b/4294967296^i%4294967296) (by rw [de (by omega),de (by omega)];omega) (by omega) (Ar.u64 s (by omega) (by omega) ?_)⟩;intro w10 hw10;rw [dF]at hw10;obtain⟨f',w11,e1,e2,e3,e4,_⟩:=oe.push (aB (aB (aB ho b7) b8) b9) ((s%4294967296:Nat):Int) hw10 rfl hq9.size (by omega) (by decide);refine⟨f'.a,f'.n,f'.c,w11,e2,by decide,Ar.nat (i+1) rfl (by omega) ?_⟩;rw [GA];exact ih (s/4294967296,L++ [((s%4294967296:Nat):Int)],f',w11) ⟨by rw [List.length_append];show _+1=_;omega,kB hin (Nat.mod_lt _ (by decide)),G' hL hv hs,by show s/4294967296≤1;omega,e3,e4 _ hq9⟩
 ·rintro⟨c,L,f,q⟩ ⟨hL,hin,hv,hc,ho,hq⟩;change L.length=N at hL;change yD 4294967296 L at hin;change cN 4294967296 L+c*4294967296^N=a%4294967296^N+b%4294967296^N at hv;change c≤1 at hc;change q.ownsRow w3.heap.size dB 1 f.v f.n (L.flatMap dW)at ho;change Below w3.heap.size w3 q at hq;have hfn:f.n=L.length:=(Rw.of_own ho (fun _=>rfl) (by decide)).2;refine hI _ _ f.a f.n f.c q (ac.no (QZ (by omega)) ?_);intro w12 hw12;rw [dF,Nat.mod_eq_of_lt (by omega)]at hw12;obtain⟨f',w13,e1,e2,e3,e4,_⟩:=oe.push ho (c:Int) hw12 rfl hq.size (by omega) (by decide);have hv2:cN 4294967296 (L++ [(c:Int)])=a+b:=by
   rw [fh,kA,hL,Nat.mul_comm,hv,(iI dJ (n:=a) (i:=N) (by omega)).2,(iI dJ (n:=b) (i:=N) (by omega)).2]
  have hB13:=e4 _ hq;refine⟨f'.a,f'.n,f'.c,w13,e2,(fy w13 f' _ (LsAt.of_own oe e3) (jd e3) (qI e3) (kB hin (by omega)) (by rw [List.length_append];show _+1≤_;omega)).mono ?_⟩;rintro e w14 ⟨r,rfl,hR,b14⟩;rw [hv2]at hR;have hB14:=ae hB13 b14;exact⟨r.a,r.n,r.c,rfl,cq (s:=r) (ag hB14 x3) fun q' hx hN' hB _ _=>⟨_,_,_,aH hx,r,rfl,hN' _ _ hR,hB _ _ (by omega) (ae b03 hB14)⟩⟩
end Go.Proofs.YtdlcfegnaphclaaGreat.Eng
