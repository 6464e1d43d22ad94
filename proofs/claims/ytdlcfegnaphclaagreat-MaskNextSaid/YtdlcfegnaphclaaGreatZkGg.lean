/- The grid of a vocabulary, walked by the engine. -/
import Derived.Test.YtdlcfegnaphclaaGreatZkTz
import Derived.Test.YtdlcfegnaphclaaGreatZkRj
import Derived.Test.YtdlcfegnaphclaaGreatZkVc
set_option linter.unusedVariables false
set_option linter.unusedSimpArgs false
set_option maxRecDepth 100000
namespace Go.Proofs.YtdlcfegnaphclaaGreat.Eng
open Go Go.RowKit
theorem xH (w:World) (v:Nat) (s:aq) (T:List aM) (hV:be w v s T) (a b:Int) (ha:(aE s T).Has a) (hb:(aE s T).Has b):
  CP 76 #[.pointer (some ⟨v,0,none⟩),.int .i64 a,.int .i64 b] w fun e w'=>e= .returned (.bool (decide ((aE s T).Canon [a,b])))∧be w' v s T∧aG v w w':=by
 refine aN (yM (some ⟨v,0,none⟩) a b w (fun u w'=>u= .bool (decide ((aE s T).Canon [a,b]))∧be w' v s T∧aG v w w') ?_) (by rintro v w' ⟨rfl,h⟩;exact⟨rfl,h⟩);have parts:∀ {q:World},be q v s T→∃x tp bp mp,bC q s T x tp bp mp∧∃c,kE q v c tp bp mp:=by
  rintro q ⟨w0,x,tp,bp,mp,d,l,uses,hR⟩;exact⟨x,tp,bp,mp,hR.now,_,hR.vblk⟩
 obtain⟨x,tp,bp,mp,hP,_⟩:=parts hV;have hok:=ma hP;have hab:∀t∈ [a]++ [b],(aE s T).Has t:=by
  intro t ht;simp at ht;rcases ht with rfl |rfl
  ·exact ha
  ·exact hb
 refine(kj w v s T hV a).mono ?_;rintro e w1 ⟨rfl,hV1,t1⟩;refine⟨_,rfl,ac.mk (fun h1=>?_) fun h1=>⟨?_,hV1,t1⟩⟩
 ·have ca:=(fO hP ha).1 h1;refine(kj w1 v s T hV1 b).mono ?_;rintro e w2 ⟨rfl,hV2,t2⟩;have t12:=t1.trans t2;refine⟨_,rfl,ac.mk (fun h2=>?_) fun h2=>⟨?_,hV2,t12⟩⟩
  ·have cb:=(fO hP hb).1 h2;obtain⟨x2,tp2,bp2,mp2,hP2,c2,hB2⟩:=parts hV2;refine(wj hB2 hP2 a b ha hb ca cb).mono ?_;rintro e w3 ⟨r,rfl,hr,b3⟩;refine⟨r,rfl,?_,hV2.on b3,t12.trans (aG.of_below b3)⟩;have hm:=Voc.canon_more hok (init:=[]) (l:=a) (t:=b) (fun x hx=>by simp at hx;rw [hx];exact ha) ca hb;congr 1;have hm2:(aE s T).Canon [a,b]↔(aE s T).Canon [b]∧(aE s T).Pair a b:=hm;cases r with
   |true=>exact(decide_eq_true (hm2.2 ⟨cb,hr.1 rfl⟩)).symm
   |false=>exact(decide_eq_false fun e=>by have:=hr.2 (hm2.1 e).2;cases this).symm
  ·rw [decide_eq_false fun e=>?_];have:=(fO hP hb).2 (Voc.canon_append hok (P:=[a]) (Q:=[b]) hab e).2;rw [h2]at this;cases this
 ·rw [decide_eq_false fun e=>?_];have:=(fO hP ha).2 (Voc.canon_append hok (P:=[a]) (Q:=[b]) hab e).1;rw [h1]at this;cases this
abbrev qR:TypeId:=132
abbrev FR:TypeId:=129
theorem Ea:Tryz.prog.underlying FR=some (.slice nH):=by kernel_rfl
theorem DV:(Tryz.prog.info? nH).map (fun i=>(i.zero,i.size,i.bytes))=some (some (.slice none 0 0),1,24):=by kernel_rfl
def Au (r:Sl):List Value:=[r.v]
theorem Dt:Ax Au 1 FR nH 24:=⟨fun _=>rfl,by decide,fun x u hu=>by rw [List.mem_singleton.1 hu];rfl,Ea,_,DV,rfl⟩
def qi (G:List Int):List (Int×Value):=G.zipIdx.map fun x=>(x.1,.int .i64 (x.2:Int))
theorem Bd (G:List Int) (x:Int):qi (G++ [x])=qi G++ [(x,.int .i64 (G.length:Int))]:=by simp [qi,List.zipIdx_append]
theorem rk (G:List Int) (k:Int):eC k (qi G)=(G.idxOf? k).map fun i:Nat=>Value.int .i64 (i:Int):=by
 have:=jF (fun x:Int=>x) k G 0;simp only [Nat.zero_add,List.map_id']at this;exact this
def Ad (s:aq) (T:List aM) (i:Nat):Bool:=decide ((aE s T).Canon [(bc s T).getD i 0])
def lD (s:aq) (T:List aM) (i k:Nat):Bool:=decide ((aE s T).Canon [(bc s T).getD i 0,(bc s T).getD k 0])
structure iI (w:World) (g:Nat) (G:List Int) (al:Nat→Bool) (rel:Nat→Nat→Bool) (ids rows alone:Sl) (mb:Nat) (rs:List Sl) (m:Nat):Prop where
 blk:w.heap[g]? =some (.cells #[ids.v,.map (some mb),rows.v,alone.v] qR (0,0))
 oi:w.ownsRow 0 bk 1 ids.v ids.n (G.flatMap av)
 map:bH fU w mb (qi G)
 orows:w.ownsRow 0 nH 1 rows.v rows.n (rs.flatMap Au)
 rl:rs.length=m
 each:∀(i:Nat) (r:Sl),rs[i]? =some r→w.ownsRow 0 eZ 1 r.v r.n ((aS G.length (rel i)).flatMap dq)
 oal:w.ownsRow 0 eZ 1 alone.v alone.n ((aS G.length al).flatMap dq)
def oM (w:World) (g:Nat) (G:List Int) (al:Nat→Bool) (rel:Nat→Nat→Bool):Prop:=∃ids rows alone mb rs,iI w g G al rel ids rows alone mb rs G.length
theorem iI.on {w w':World} {g:Nat} {G:List Int} {al:Nat→Bool} {rel:Nat→Nat→Bool} {ids rows alone:Sl} {mb:Nat} {rs:List Sl} {m:Nat} (h:iI w g G al rel ids rows alone mb rs m) (hb:Below w.heap.size w w'):iI w' g G al rel ids rows alone mb rs m:=
 ⟨aj hb h.blk,aF h.oi hb,h.map.on hb,aF h.orows hb,h.rl,fun i r hr=>aF (h.each i r hr) hb,aF h.oal hb⟩
theorem oM.on {w w':World} {g:Nat} {G:List Int} {al:Nat→Bool} {rel:Nat→Nat→Bool} (h:oM w g G al rel) (hb:Below w.heap.size w w'):oM w' g G al rel:=by
 obtain⟨ids,rows,alone,mb,rs,h⟩:=h;exact⟨ids,rows,alone,mb,rs,h.on hb⟩
theorem be.typed {w:World} {v:Nat} {s:aq} {T:List aM} (h:be w v s T):∃c,w.heap[v]? =some (.cells c db (0,0)):=by
 obtain⟨w0,x,tp,bp,mp,d,l,uses,hR⟩:=h;exact⟨_,hR.blk⟩
theorem be.ne_cells {w:World} {v:Nat} {s:aq} {T:List aM} (h:be w v s T) {k:Nat} {c:Array Value} {e:TypeId} {fz:Nat×Nat} (hk:w.heap[k]? =some (.cells c e fz)) (he:e≠db):k≠v:=by
 obtain⟨c',hc⟩:=h.typed;rintro rfl;rw [hc]at hk;cases hk;exact he rfl
theorem be.ne_map {w:World} {v:Nat} {s:aq} {T:List aM} (h:be w v s T) {κ:Type} [DecidableEq κ] {kv:κ→Value} {r:Nat} {m:List (κ×Value)} (hm:bH kv w r m):r≠v:=by
 obtain⟨c',hc⟩:=h.typed;rintro rfl;obtain⟨es,k,hk,_⟩:=hm;rw [hc]at hk;cases hk
theorem iI.touch {w w':World} {g:Nat} {G:List Int} {al:Nat→Bool} {rel:Nat→Nat→Bool} {ids rows alone:Sl} {mb:Nat} {rs:List Sl} {m:Nat} (h:iI w g G al rel ids rows alone mb rs m) {v:Nat} {s:aq} {T:List aM} (hV:be w v s T) (t:aG v w w'):iI w' g G al rel ids rows alone mb rs m:=
 ⟨t.held (hV.ne_cells h.blk (by decide)) h.blk,hV.own_touch t h.oi (by decide),h.map.same (t.block mb h.map.lt (hV.ne_map h.map)),hV.own_touch t h.orows (by decide),h.rl,fun i r hr=>hV.own_touch t (h.each i r hr) (by decide),hV.own_touch t h.oal (by decide)⟩
theorem qF {w2 w3:World} {x u:Value} {e:TypeId} (hw:w3=w2.alloc (.cells #[x] e)) (hu:u.oneCell'=true) {k:World→Prop} (hk:∀w4,w4.heap[w2.heap.size]? =some (.cells #[u] e (0,0))→Below w2.heap.size w2 w4→k w4):u.oneCell'=true∧(∃y,w3.cell? (nb w2)=some y)∧w3.frozen? (nb w2)=false∧∀w4,w4=w3.setCell (nb w2) u→k w4:=
 jt (aQ [x] [u] rfl (by intro y hy;rw [List.mem_singleton.1 hy];exact hu) w3 hw fun w4 h4 _ b4=>hk w4 h4 b4)
theorem dd {w:World} {b:Nat} {x:Value} {e:TypeId} {fz:Nat×Nat} (h:w.heap[b]? =some (.cells #[x] e fz)):w.cell? ⟨b,0,none⟩=some x:=aO h
theorem eS {α:Type} {l:List α} {i:Nat} (h:i<l.length) (d:α):l.getD i d=l[i]:=by simp [List.getD,h]
theorem oP {s:aq} {T:List aM} (h1:eU T) (h2:s.right=true):256≤(bc s T).length∧(bc s T).length≤1032:=by
 have:=h1.most;have:=h1.len;have:=eX (gr h2).2.2.2.1;rw [fm];omega
theorem aG.put {v d j:Nat} {a b:World} (t:aG v a b) (hd:a.heap.size≤d) (u:Value):aG v a (b.setCell ((⟨d,0,none⟩:Addr).add j) u):=
 ⟨t.os,t.tape,t.output,by rw [aX];exact t.size,fun k hk hv=>by rw [ar (by rw [az];show k≠d;omega)];exact t.block k hk hv⟩
theorem be.put {w:World} {v d j:Nat} {s:aq} {T:List aM} (h:be w v s T) {c:Array Value} {e:TypeId} (hd:w.heap[d]? =some (.cells c e (0,0))) (he:er≠e) (hv:v<d) (u:Value):be (w.setCell ((⟨d,0,none⟩:Addr).add j) u) v s T:=by
 obtain⟨w0,x,tp,bp,mp,q,l,uses,hR⟩:=h;have hlt:=hR.lt;refine⟨w0,x,tp,bp,mp,q,l,uses,hR.parts,bz hR.below (by omega) u,hlt,by rw [ar (by rw [az];show v≠d;omega)];exact hR.blk,?_⟩;rcases hR.once with h |⟨h1,h2,h3⟩
 ·exact .inl h
 ·exact .inr ⟨h1,h2,cM h3 u (by rw [az];exact aU h3 hd he)⟩
theorem be.growE {w w':World} {v:Nat} {s:aq} {T:List aM} (h:be w v s T) {B:Nat} (hb:Below B w w') (hv:v<B) {B' n sz:Nat} {e:TypeId} {u:Value} {xs:List Value} (ho:w.ownsRow B' e sz u n xs) (he:er≠e) (hk:∀k,k<w.heap.size→u.ownBlock≠some k→w'.heap[k]? =w.heap[k]?):be w' v s T:=by
 obtain⟨w0,x,tp,bp,mp,d,l,uses,hR⟩:=h;have hlt:=hR.lt;refine⟨w0,x,tp,bp,mp,d,l,uses,hR.parts,hR.below.trans (hb.mono (by omega)),hlt,by rw [hb.block v hv];exact hR.blk,?_⟩;rcases hR.once with h |⟨h1,h2,h3⟩
 ·exact .inl h
 ·exact .inr ⟨h1,h2,a_ h3 fun k hk3=>hk k (cf h3 k hk3).2 (bV h3 ho he k hk3)⟩
theorem Am (w:World) (v:Nat) (s:aq) (T:List aM) (hV:be w v s T) (t:Int) (ht:(aE s T).Has t):
  CP 73 #[.pointer (some ⟨v,0,none⟩),.int .i64 t] w fun e w'=>e= .returned (.bool (decide ((aE s T).Canon [t])))∧be w' v s T∧aG v w w':=by
 have hP:∃x tp bp mp,bC w s T x tp bp mp:=by
  obtain⟨w0,x,tp,bp,mp,d,l,uses,hR⟩:=hV;exact⟨x,tp,bp,mp,hR.now⟩
 obtain⟨x,tp,bp,mp,hP⟩:=hP;refine(kj w v s T hV t).mono ?_;rintro e w1 ⟨rfl,h⟩;refine⟨?_,h⟩;congr 2;have:=fO hP ht;cases ha:fp s T t with
 |true=>exact(decide_eq_true (this.1 ha)).symm
 |false=>exact(decide_eq_false fun e=>by rw [this.2 e]at ha;cases ha).symm
theorem Ag (w:World) (v:Nat) (s:aq) (T:List aM) (hV:be w v s T) (b0 b1:Nat) {e0 e1:TypeId} (ids:Sl) (G:List Int) (h0:w.heap[b0]? =some (.cells #[.pointer (some ⟨v,0,none⟩)] e0 (0,0))) (h1:w.heap[b1]? =some (.cells #[ids.v] e1 (0,0))) (oi:w.ownsRow 0 bk 1 ids.v ids.n (G.flatMap av)) (hG:∀t∈G,(aE s T).Has t) (i:Nat) (hi:i<G.length):
  CP 72 #[.int .i64 (i:Int),.pointer (some ⟨b0,0,none⟩),.pointer (some ⟨b1,0,none⟩)] w fun e w'=>e= .returned (.bool (decide ((aE s T).Canon [G.getD i 0])))∧be w' v s T∧aG v w w':=by
 refine aP (zj i (some ⟨b0,0,none⟩) (some ⟨b1,0,none⟩) w) ?_;intro w1 hw1;have b1':Below w.heap.size w w1:=by subst hw1;exact aJ w
 have hls:=cJ.of_own cL (aF oi b1');have hn:=hls.n;obtain⟨p,hp,c0⟩:=ba hls.r hi rfl;refine ag.mk _ rfl ⟨_,dd (aj b1' h0),ag.mk _ rfl ⟨ids.a,ids.n,ids.c,dd (aj b1' h1),ag.mk p hp ⟨by omega,by omega,_,c0,?_⟩⟩⟩;refine(Am w1 v s T (hV.on b1') G[i] (hG _ (List.getElem_mem hi))).mono ?_;rintro e w2 ⟨rfl,hV2,t2⟩;refine⟨_,rfl,?_,hV2,(aG.of_below b1').trans t2⟩;rw [eS hi]
theorem Bb (w:World) (v:Nat) (s:aq) (T:List aM) (hV:be w v s T) (cg ci cv ca cids:Nat) {eg ei ev ea ed:TypeId} (g:Nat) (ids rows alone:Sl) (mb:Nat) (rs:List Sl) (m i k:Nat) (hb:v<cg∧v<ci∧v<cv∧v<ca∧v<cids)
  (hR:iI w g (bc s T) (Ad s T) (lD s T) ids rows alone mb rs m) (hgh:∀t∈bc s T,(aE s T).Has t) (hgl:(bc s T).length≤1032)
  (h0:w.heap[cg]? =some (.cells #[.pointer (some ⟨g,0,none⟩)] eg (0,0))) (h1:w.heap[ci]? =some (.cells #[.int .i64 (i:Int)] ei (0,0))) (h2:w.heap[cv]? =some (.cells #[.pointer (some ⟨v,0,none⟩)] ev (0,0))) (h3:w.heap[ca]? =some (.cells #[.int .i64 ((bc s T).getD i 0)] ea (0,0))) (h4:w.heap[cids]? =some (.cells #[ids.v] ed (0,0)))
  (hi:i< (bc s T).length) (hk:k< (bc s T).length):
  CP 74 #[.int .i64 (k:Int),.pointer (some ⟨cg,0,none⟩),.pointer (some ⟨ci,0,none⟩),.pointer (some ⟨cv,0,none⟩),.pointer (some ⟨ca,0,none⟩),.pointer (some ⟨cids,0,none⟩)] w fun e w'=>e= .returned (.bool (lD s T i k))∧be w' v s T∧aG v w w':=by
 refine aP (yH k (some ⟨cg,0,none⟩) (some ⟨ci,0,none⟩) (some ⟨cv,0,none⟩) (some ⟨ca,0,none⟩) (some ⟨cids,0,none⟩) w) ?_;have hP:∃x tp bp mp,bC w s T x tp bp mp:=by
  obtain⟨w0,x,tp,bp,mp,d,l,uses,hR⟩:=hV;exact⟨x,tp,bp,mp,hR.now⟩
 obtain⟨x,tp,bp,mp,hP⟩:=hP;have hok:=ma hP;have hA:(aE s T).Has ((bc s T).getD i 0):=by rw [eS hi];exact hgh _ (List.getElem_mem hi)
 have hB:(aE s T).Has ((bc s T).getD k 0):=by rw [eS hk];exact hgh _ (List.getElem_mem hk)
 have hpair:lD s T i k=true→Ad s T i=true∧Ad s T k=true:=by
  intro h;have:=Voc.canon_append hok (P:=[(bc s T).getD i 0]) (Q:=[(bc s T).getD k 0]) (by
   intro t ht;simp only [List.cons_append,List.nil_append,List.mem_cons,List.not_mem_nil,or_false]at ht;rcases ht with rfl |rfl
   ·exact hA
   ·exact hB) (of_decide_eq_true h)
  exact⟨decide_eq_true this.1,decide_eq_true this.2⟩
 intro w1 hw1;have b1':Below w.heap.size w w1:=by subst hw1;exact aJ w
 have t1:aG v w w1:=aG.of_below b1';have hR1:=hR.on b1';have hV1:=hV.on b1';have al1:=cJ.of_own qY hR1.oal;refine ag.mk _ rfl ⟨_,dd (aj b1' h0),ag.mk _ rfl ⟨alone.a,alone.n,alone.c,by rw [bW hR1.blk];rfl,ag.mk _ rfl ⟨_,dd (aj b1' h1),?_⟩⟩⟩;refine(gE w1 alone.a alone.n alone.c _ (Ad s T) al1.r al1.n (by omega) i hi).mono ?_;rintro e w2 ⟨rfl,hw2⟩;rw [hw2];refine⟨_,rfl,ac.mk (fun ha=>?_) fun ha=>⟨?_,hV1,t1⟩⟩
 ·refine ag.mk _ rfl ⟨_,dd (aj b1' h0),ag.mk _ rfl ⟨alone.a,alone.n,alone.c,by rw [bW hR1.blk];rfl,?_⟩⟩;refine(gE w1 alone.a alone.n alone.c _ (Ad s T) al1.r al1.n (by omega) k hk).mono ?_;rintro e w3 ⟨rfl,hw3⟩;rw [hw3];refine⟨_,rfl,ac.mk (fun hb=>?_) fun hb=>⟨?_,hV1,t1⟩⟩
  ·have hls:=cJ.of_own cL hR1.oi;have hn:=hls.n;obtain⟨p,hp,c0⟩:=ba hls.r hk rfl;refine ag.mk _ rfl ⟨_,dd (aj b1' h2),ag.mk _ rfl ⟨_,dd (aj b1' h3),ag.mk _ rfl ⟨ids.a,ids.n,ids.c,dd (aj b1' h4),ag.mk p hp ⟨by omega,by omega,_,c0,?_⟩⟩⟩⟩;rw [←eS hk 0];refine(xH w1 v s T hV1 _ _ hA hB).mono ?_;rintro e w4 ⟨rfl,hV4,t4⟩;exact⟨_,rfl,rfl,hV4,t1.trans t4⟩
  ·cases hr:lD s T i k with
   |false=>rfl
   |true=>rw [(hpair hr).2]at hb;cases hb
 ·cases hr:lD s T i k with
  |false=>rfl
  |true=>rw [(hpair hr).1]at ha;cases ha
theorem xY {w:World} {B:Nat} {e:TypeId} {sz n:Nat} {u:Value} {xs:List Value} (h:w.ownsRow B e sz u n xs) {κ:Type} [DecidableEq κ] {kv:κ→Value} {r:Nat} {m:List (κ×Value)} (hm:bH kv w r m):u.ownBlock≠some r:=by
 obtain⟨es,k,hk,_⟩:=hm;intro hb;rcases h.2 with⟨rfl,_⟩ |⟨g,cap,cur,rfl,_,hg,_⟩
 ·cases hb
 ·cases hb;rw [hk]at hg;cases hg
theorem AX {q w1 w2:World} {x y u z:Value} {e e':TypeId} (h1:w1=q.alloc (.cells #[x] e)) (h2:w2=w1.alloc (.cells #[y] e')) (hu:u.oneCell'=true) (hz:z.oneCell'=true) {k:World→Prop} (hk:∀w4,w4.heap[q.heap.size]? =some (.cells #[u] e (0,0))→w4.heap[w1.heap.size]? =some (.cells #[z] e' (0,0))→Below q.heap.size q w4→k w4):
  u.oneCell'=true∧(∃a,w2.cell? (nb q)=some a)∧w2.frozen? (nb q)=false∧∀w3,w3=w2.setCell (nb q) u→z.oneCell'=true∧(∃a,w3.cell? (nb w1)=some a)∧w3.frozen? (nb w1)=false∧∀w4,w4=w3.setCell (nb w1) z→k w4:=by
 have b1:Below q.heap.size q w1:=by subst h1;exact ai _ _
 have a1:w1.heap[q.heap.size]? =some (.cells #[x] e (0,0)):=by subst h1;exact am _ _
 have b2:Below w1.heap.size w1 w2:=by subst h2;exact ai _ _
 have a2:w2.heap[w1.heap.size]? =some (.cells #[y] e' (0,0)):=by subst h2;exact am _ _
 have a12:=aj b2 a1;have hlt:q.heap.size<w1.heap.size:=(Array.getElem?_eq_some_iff.1 a1).1;have b02:=ae b1 b2;refine⟨hu,⟨_,aO a12⟩,bQ a12,?_⟩;intro w3 h3;have a13:w3.heap[q.heap.size]? =some (.cells #[u] e (0,0)):=by subst h3;exact bL a12 u
 have a23:w3.heap[w1.heap.size]? =some (.cells #[y] e' (0,0)):=by subst h3;rw [ar (by show w1.heap.size≠q.heap.size;omega)];exact a2
 have b03:Below q.heap.size q w3:=by subst h3;exact b02.setCell (p:=nb q) (Nat.le_refl _) u
 refine⟨hz,⟨_,aO a23⟩,bQ a23,?_⟩;intro w4 h4;refine hk w4 ?_ ?_ ?_
 ·subst h4;rw [ar (by show q.heap.size≠w1.heap.size;omega)];exact a13
 ·subst h4;exact bL a23 z
 ·subst h4;exact b03.setCell (p:=nb w1) (Nat.le_of_lt hlt) z
def E8 (w:World) (v:Nat) (s:aq) (T:List aM) (most:Int) (u:Value) (w':World):Prop:=be w' v s T∧aG v w w'∧(if(((bc s T).length*(bc s T).length:Nat):Int)>most then u= .tuple #[.pointer none,.int .i64 5]else ∃g,u= .tuple #[.pointer (some ⟨g,0,none⟩),.int .i64 0]∧oM w' g (bc s T) (Ad s T) (lD s T)∧w.heap.size≤g)
set_option maxHeartbeats 2000000 in
theorem lh (w:World) (v:Nat) (s:aq) (T:List aM) (hV:be w v s T) (hasc:(s.specials.map (·.1)).Pairwise (·< ·)) (most:Int):
  CP 32 #[.pointer (some ⟨v,0,none⟩),.int .i64 most] w fun e w'=>∃u,e= .returned u∧E8 w v s T most u w':=by
 refine zf (some ⟨v,0,none⟩) most w (E8 w v s T most) ?_;have hgb:256≤(bc s T).length∧(bc s T).length≤1032∧(∀t∈bc s T,(aE s T).Has t)∧(bc s T).Pairwise (·< ·):=by
  obtain⟨w0,x,tp,bp,mp,d,l,uses,hR⟩:=hV;have hP:=hR.now;exact⟨(oP hP.ok hP.right).1,(oP hP.ok hP.right).2,fun t ht=>(EO hP t).1 ((gR s T t).1 ht),iV hasc hP.ids⟩
 obtain⟨hg1,hg2,hgh,hgr⟩:=hgb;intro w1 hw1;have b1:Below w.heap.size w w1:=by subst hw1;exact ai _ _
 have l1:w1.heap[w.heap.size]? =some (.cells #[.pointer (some ⟨v,0,none⟩)] 69 (0,0)):=by subst hw1;exact am _ _
 refine⟨_,dd l1,?_⟩;have hV1:=hV.on b1;refine(gi w1 v s T hV1 hasc).mono ?_;rintro e w2 ⟨ids,rfl,oids,b2⟩;refine⟨_,_,_,rfl,?_⟩;intro w3 hw3;refine qF hw3 rfl ?_;intro w4 l4 b4;have b24:=ae b2 b4;have b14:=ae b1 b24;have oids4:=cP (aF oids b4) (Nat.zero_le _);have hin:=(cJ.of_own cL oids4).n;have l14:=aj b24 l1;have hV4:=hV.on b14;refine⟨_,dd l14,ac.no rfl ⟨ids.a,ids.n,ids.c,dd l4,ids.a,ids.n,ids.c,dd l4,Ar.nat ((bc s T).length*(bc s T).length) (by rw [hin];simp) (by
  have:(bc s T).length*(bc s T).length≤1032*1032:=Nat.mul_le_mul hg2 hg2;omega) (ac.mk (fun hm=>⟨hV4,aG.of_below b14,?_⟩) fun hm=>?_)⟩⟩
 ·rw [if_pos (of_decide_eq_true hm)]
 have hm:=of_decide_eq_false hm;obtain⟨G,hG⟩:∃G,G=bc s T:=⟨_,rfl⟩;rw [←hG]at oids4 hin hg1 hg2 hgh hgr hm;obtain⟨n,hn⟩:∃n,n=G.length:=⟨_,rfl⟩;rw [←hn]at hin;refine⟨ids.a,ids.n,ids.c,dd l4,_,_,h_ _,?_⟩;have b5:=ai w4 (.map #[] 0);have m5:bH fU (w4.alloc (.map #[] 0)) w4.heap.size (qi []):=lv w4;obtain⟨w5,hw5⟩:∃w5,w5=w4.alloc (.map #[] 0):=⟨_,rfl⟩;rw [←hw5]at b5 m5;rw [←hw5];intro w6 hw6 w7 hw7;have b6:Below w5.heap.size w5 w6:=by subst hw6;exact ai _ _
 have g6:w6.heap[w5.heap.size]? =some (.cells #[ids.v,.map (some w4.heap.size),dB.v,dB.v] qR (0,0)):=by subst hw6;exact am _ _
 refine qF hw7 rfl ?_;intro w8 l8 b8;have b58:=ae b6 b8;have b48:=ae b5 b58;have b08:=ae b14 b48;have hz4:=b14.size;have hz5:=b5.size;have lt4:w4.heap.size<w5.heap.size:=m5.lt;have lt6:w5.heap.size<w6.heap.size:=(Array.getElem?_eq_some_iff.1 g6).1;have lt8:w6.heap.size<w8.heap.size:=(Array.getElem?_eq_some_iff.1 l8).1;have lt2:w2.heap.size<w4.heap.size:=(Array.getElem?_eq_some_iff.1 l4).1;have lt1:w.heap.size<w4.heap.size:=(Array.getElem?_eq_some_iff.1 l14).1;have hvl:=hV.lt;have boxes:∀ {q:World},Below (w4.heap.size) w8 q→q.heap[w.heap.size]? =some (.cells #[.pointer (some ⟨v,0,none⟩)] 69 (0,0))∧q.heap[w2.heap.size]? =some (.cells #[ids.v] cT (0,0)):=by
  intro q hq;exact⟨Below.keeps hq lt1 (aj b48 l14),Below.keeps hq lt2 (aj b48 l4)⟩
 refine⟨ids.a,ids.n,ids.c,dd (aj b48 l4),?_⟩;have oids8:=aF oids4 b48;have idsLt:∀k,ids.v.ownBlock=some k→k<w4.heap.size:=fun k hk=>(cf oids4 k hk).2;intro I hI;let Inv (i:Nat) (q:World):Prop:=bH fU q w4.heap.size (qi (G.take i))∧(∀j,j≠w4.heap.size→q.heap[j]? =w8.heap[j]?)∧q.heap.size=w8.heap.size∧Below w4.heap.size w4 q;have key:=aT (α:=World) n Inv (fun i q=>I [.int .i64 (i:Int)] q) w8 ⟨by rw [List.take_zero];exact m5.on b58,fun _ _=>rfl,rfl,b48⟩ ?_ ?_
 ·exact key
 ·rintro i hi ih q ⟨hmap,hs,hz,hB⟩;have hiG:i<G.length:=by omega
  have oq:q.ownsRow 0 bk 1 ids.v ids.n (G.flatMap av):=a_ oids8 fun k hk=>hs k (by have:=idsLt k hk;omega);obtain⟨p,hp,c0⟩:=ba (cJ.of_own cL oq).r hiG rfl;have hlook:eC G[i] (qi (G.take i))=none:=by
   rw [rk,List.idxOf?_eq_none_iff.2]
   ·rfl
   ·intro hmem;obtain⟨j,hj,e⟩:=List.mem_take_iff_getElem.1 hmem;have:=List.pairwise_iff_getElem.1 hgr j i (by omega) hiG (by omega);omega
  obtain⟨q',hr',hm',hs',hz',hB'⟩:=mD wy ld hmap G[i] (.int .i64 (i:Int)) hlook;refine hI _ _ (ac.yes (by simp;omega) (ag.mk p hp ⟨by omega,by omega,_,c0,_,dd (by rw [hs w6.heap.size (by omega)];exact l8),ag.mk _ rfl ⟨_,af _ _ (by rw [hs w5.heap.size (by omega)];exact aj b8 g6) 1,q',hr',Ar.nat (i+1) rfl (by omega) (ih q' ⟨?_,fun j hj=>by rw [hs' j hj,hs j hj],by rw [hz',hz],hB' _ _ (Nat.le_refl _) hB⟩)⟩⟩));have e:qi (G.take (i+1))=qi (G.take i)++ [(G[i],.int .i64 (i:Int))]:=by
   rw [List.take_add_one,List.getElem?_eq_getElem hiG];have:=Bd (G.take i) G[i];rw [List.length_take,Nat.min_eq_left (by omega)]at this;exact this
  rw [e];exact hm'
 ·rintro q ⟨hmap,hs,hz,hB⟩;rw [List.take_of_length_le (by omega)]at hmap;refine hI _ _ (ac.no (by simp;omega) ?_);intro w11 hw11;have b11:Below q.heap.size q w11:=by subst hw11;exact aJ q
  have hq8:Below w4.heap.size w8 q:=⟨by rw [hB.os, ←b48.os],by rw [hB.tape, ←b48.tape],by rw [hB.output, ←b48.output],by rw [hz];exact Nat.le_refl _,fun k hk=>hs k (by omega)⟩;have hq8':Below w4.heap.size w8 w11:=hq8.trans (b11.mono (by have:=hq8.size;omega));have hV11:be w11 v s T:=(hV4.on b5 |> fun h5=>(hV4.on ⟨hB.os,hB.tape,hB.output,hB.size,hB.block⟩)).on b11;have t11:aG v w w11:=(aG.of_below b14).trans (aG.of_below (hB.trans (b11.mono hB.size)));have g11:=aj b11 (show q.heap[w5.heap.size]? =some (.cells #[ids.v,.map (some w4.heap.size),dB.v,dB.v] qR (0,0)) by rw [hs _ (by omega)];exact aj b8 g6);have lg11:=aj b11 (show q.heap[w6.heap.size]? =_ by rw [hs _ (by omega)];exact l8);have bx11:=boxes hq8';have m11:=hmap.on b11;have o11:w11.ownsRow 0 bk 1 ids.v ids.n (G.flatMap av):=aF (a_ oids8 fun k hk=>hs k (by have:=idsLt k hk;omega)) b11;subst hG;have bxL:w.heap.size<w11.heap.size∧w2.heap.size<w11.heap.size∧w6.heap.size<w11.heap.size∧w5.heap.size<w11.heap.size:=⟨(Array.getElem?_eq_some_iff.1 bx11.1).1,(Array.getElem?_eq_some_iff.1 bx11.2).1,(Array.getElem?_eq_some_iff.1 lg11).1,(Array.getElem?_eq_some_iff.1 g11).1⟩;have sz2:w.heap.size≤w2.heap.size:=Nat.le_trans b1.size b2.size;refine⟨_,dd lg11,ids.a,ids.n,ids.c,dd bx11.2,?_⟩;refine(qX w11 ids.n _ (fun i=>Ad s T i) v s T hV11 (by omega) ?_).mono ?_
  ·intro i hi q hVq tq;refine cD (by kernel_rfl) ?_;exact Ag q v s T hVq w.heap.size w2.heap.size ids (bc s T) (tq.held (by omega) bx11.1) (tq.held (by omega) bx11.2) (hV11.own_touch tq o11 (by decide)) hgh i (by omega)
  rintro e w12 ⟨al,rfl,oal,hV12,t12⟩;rw [hin,hn]at oal;have lg12:=t12.held (by omega) lg11;have g12:=t12.held (by omega) g11;have x12:=t12.held (by omega) bx11.1;have y12:=t12.held (by omega) bx11.2;have o12:=hV11.own_touch t12 o11 (by decide);have m12:=m11.same (t12.block _ m11.lt (by omega));refine⟨al.a,al.n,al.c,rfl,⟨dd lg12,trivial⟩,ag.mk _ rfl ⟨rfl,⟨_,by rw [bW g12];rfl⟩,bf g12,?_⟩⟩;intro w13 hw13;have g13:w13.heap[w5.heap.size]? =some (.cells #[ids.v,.map (some w4.heap.size),dB.v,al.v] qR (0,0)):=by subst hw13;exact bB g12 _
  have hs13:∀j,j≠w5.heap.size→w13.heap[j]? =w12.heap[j]? :=by
   intro j hj;subst hw13;exact ar (by rw [az];exact hj)
  have hV13:be w13 v s T:=by subst hw13;exact hV12.put g12 (by decide) (by omega) _
  have t13:aG v w w13:=by subst hw13;exact(t11.trans t12).put (by omega) _
  have lg13:w13.heap[w6.heap.size]? =_:=(hs13 _ (by omega)).trans lg12;have x13:w13.heap[w.heap.size]? =_:=(hs13 _ (by omega)).trans x12;have y13:w13.heap[w2.heap.size]? =_:=(hs13 _ (by omega)).trans y12;have hR13:iI w13 w5.heap.size (bc s T) (Ad s T) (lD s T) ids dB al w4.heap.size [] 0:=
   ⟨g13,a_ o12 fun k hk=>hs13 k fun e=>aU o12 g12 (by decide) (by rw [hk,e]),m12.same (hs13 _ (by omega)),bX _ _ _ _ Au,rfl,(by intro i r h;cases h),a_ (cP oal (Nat.zero_le _)) fun k hk=>hs13 k fun e=>aU oal g12 (by decide) (by rw [hk,e])⟩
  refine⟨ids.a,ids.n,ids.c,dd y13,?_⟩;intro I2 hI2;let Inv2 (i:Nat) (q:World):Prop:=∃rows rs,iI q w5.heap.size (bc s T) (Ad s T) (lD s T) ids rows al w4.heap.size rs i∧q.ownsRow w.heap.size nH 1 rows.v rows.n (rs.flatMap Au)∧be q v s T∧aG v w q∧q.heap[w6.heap.size]? =some (.cells #[.pointer (some (nb w5))] 32 (0,0))∧q.heap[w.heap.size]? =some (.cells #[.pointer (some ⟨v,0,none⟩)] 69 (0,0))∧q.heap[w2.heap.size]? =some (.cells #[ids.v] cT (0,0));have key2:=aT (α:=World) n Inv2 (fun i q=>I2 [.int .i64 (i:Int)] q) w13 ⟨dB,[],hR13,bX _ _ _ _ Au,hV13,t13,lg13,x13,y13⟩ ?_ ?_
  ·exact key2
  ·rintro i hi ih z ⟨rows,rs,hR,orow,hVz,tz,lgz,xz,yz⟩;have hiG:i< (bc s T).length:=by omega
   have zb:w.heap.size<z.heap.size∧w2.heap.size<z.heap.size∧w6.heap.size<z.heap.size∧w5.heap.size<z.heap.size:=⟨(Array.getElem?_eq_some_iff.1 xz).1,(Array.getElem?_eq_some_iff.1 yz).1,(Array.getElem?_eq_some_iff.1 lgz).1,(Array.getElem?_eq_some_iff.1 hR.blk).1⟩;have hlz:=cJ.of_own cL hR.oi;obtain⟨p,hp,c0⟩:=ba hlz.r hiG rfl;have hnz:=hlz.n;refine hI2 _ _ (ac.yes (by simp;omega) (ag.mk p hp ⟨by omega,by omega,_,c0,?_⟩));intro w15 hw15 w16 hw16;refine AX hw15 hw16 rfl rfl ?_;intro w18 bi18 ba18 b18;have zs15:z.heap.size<w15.heap.size:=by subst hw15;rw [ay];omega
   intro w19 hw19;have b19':Below w18.heap.size w18 w19:=by subst hw19;exact aJ w18
   have b19:=ae b18 b19';have bi19:=aj b19' bi18;have ba19:=aj b19' ba18;have hR19:=hR.on b19;have hV19:=hVz.on b19;have lg19:=aj b19 lgz;have x19:=aj b19 xz;have y19:=aj b19 yz;have or19:=aF orow b19;have t19:aG v w w19:=tz.then_off b19 tz.size;refine⟨_,dd lg19,_,dd lg19,ag.mk _ rfl ⟨rows.a,rows.n,rows.c,by rw [bW hR19.blk];rfl,ids.a,ids.n,ids.c,dd y19,?_⟩⟩;refine(qX w19 ids.n _ (fun k=>lD s T i k) v s T hV19 (by omega) ?_).mono ?_
   ·intro k hk q hVq tq;refine cD (by kernel_rfl) ?_;refine Bb q v s T hVq w6.heap.size z.heap.size w.heap.size w15.heap.size w2.heap.size w5.heap.size ids rows al w4.heap.size rs i i k ⟨by omega,by omega,by omega,by omega,by omega⟩ (hR19.touch hV19 tq) hgh hg2 (tq.held (by omega) lg19) (tq.held (by omega) bi19) (tq.held (by omega) x19) (tq.held (by omega) (by rw [eS hiG];exact ba19)) (tq.held (by omega) y19) hiG (by omega)
   rintro e w20 ⟨r,rfl,orw,hV20,t20⟩;rw [hin,hn]at orw;have hR20:=hR19.touch hV19 t20;have lg20:=t20.held (by omega) lg19;have x20:=t20.held (by omega) x19;have y20:=t20.held (by omega) y19;have or20:=hV19.own_touch t20 or19 (by decide);refine⟨r.a,r.n,r.c,rfl,⟨by rw [bW hR20.blk];rfl,trivial⟩,⟨dd lg20,trivial⟩,⟨dd lg20,trivial⟩,?_⟩;intro w21 hw21;have b21:Below w20.heap.size w20 w21:=by subst hw21;exact ai _ _
   have lg21:=aj b21 lg20;have wb:w.heap.size≤w20.heap.size:=(t19.trans t20).size;obtain⟨rows',w22,hn22,hrun,own22,hB22,hk22⟩:=Dt.push or20 r hw21 rfl wb (by have:=(cJ.of_own Dt or20).n;have:=hR.rl;omega) (by decide);refine⟨⟨by rw [bW (aj b21 hR20.blk)];rfl,trivial⟩,⟨dd lg21,trivial⟩,⟨dd lg21,trivial⟩,rows'.a,rows'.n,rows'.c,w22,hrun,?_⟩;have kp:∀ {k:Nat} {o:Obj},w20.heap[k]? =some o→rows.v.ownBlock≠some k→w22.heap[k]? =some o:=fun {k o} h hne=>(hk22 k (Array.getElem?_eq_some_iff.1 h).1 hne).trans h;have lg22:=kp lg20 (aU or20 lg20 (by decide));have x22:=kp x20 (aU or20 x20 (by decide));have y22:=kp y20 (aU or20 y20 (by decide));have g22:=kp hR20.blk (aU or20 hR20.blk (by decide));have B22:=hB22 w20 (Below.refl _ _);have hV22:=hV20.growE B22 hvl or20 (by decide) hk22;have t22:aG v w w22:=(t19.trans t20).then_off B22 (Nat.le_refl _);refine⟨⟨dd lg22,trivial⟩,ag.mk _ rfl ⟨rfl,⟨_,by rw [bW g22];rfl⟩,bf g22,?_⟩⟩;intro w23 hw23;have hs23:∀j,j≠w5.heap.size→w23.heap[j]? =w22.heap[j]? :=by
    intro j hj;subst hw23;exact ar (by rw [az];exact hj)
   have same:∀ {B sz n:Nat} {e:TypeId} {u:Value} {xs:List Value},w20.ownsRow B e sz u n xs→e≠nH→e≠qR→w23.ownsRow B e sz u n xs:=by
    intro B sz n e u xs h h1 h2;refine a_ h fun k hk=>?_;rw [hs23 k fun e=>aU h hR20.blk h2 (by rw [hk,e])];exact hk22 k (cf h k hk).2 (bV h or20 h1 k hk)
   have own23:w23.ownsRow w.heap.size nH 1 rows'.v rows'.n ((rs++ [r]).flatMap Au):=a_ own22 fun k hk=>hs23 k fun e=>aU own22 g22 (by decide) (by rw [hk,e]);refine Ar.nat (i+1) rfl (by omega) (ih w23 ⟨rows',rs++ [r],?_,own23,?_,?_,(hs23 _ (by omega)).trans lg22,(hs23 _ (by omega)).trans x22,(hs23 _ (by omega)).trans y22⟩)
   ·refine⟨by subst hw23;exact bB g22 _,same hR20.oi (by decide) (by decide),?_,cP own23 (Nat.zero_le _),by have:=hR.rl;simp;omega,?_,same hR20.oal (by decide) (by decide)⟩
    ·exact hR20.map.same ((hs23 _ (by omega)).trans (hk22 _ hR20.map.lt (xY or20 hR20.map)))
    ·intro j r' hj;have hrl:=hR.rl;by_cases h:j<rs.length
     ·rw [List.getElem?_append_left h]at hj;exact same (hR20.each j r' hj) (by decide) (by decide)
     ·have hji:j=i:=by
       have:=(List.getElem?_eq_some_iff.1 hj).1;simp at this;omega
      subst hji;rw [List.getElem?_append_right (by omega),hrl,Nat.sub_self]at hj;cases hj;exact same (cP orw (Nat.zero_le _)) (by decide) (by decide)
   ·subst hw23;exact hV22.put g22 (by decide) (by omega) _
   ·subst hw23;exact t22.put (by omega) _
  ·rintro z ⟨rows,rs,hR,orow,hVz,tz,lgz,xz,yz⟩;rw [hn]at hR;refine hI2 _ _ (ac.no (by simp;omega) ⟨_,dd lgz,hVz,tz,?_⟩);rw [if_neg (by have:=hm;rw [hn]at*;omega)];exact⟨w5.heap.size,rfl,⟨ids,rows,al,w4.heap.size,rs,hR⟩,by omega⟩
def s1 (x:Nat):Nat:=(x/2&&&6148914691236517205)+(x&&&6148914691236517205)
def s2 (x:Nat):Nat:=(x/4&&&3689348814741910323)+(x&&&3689348814741910323)
def s3 (x:Nat):Nat:=x/16+x
def s4 (x:Nat):Nat:=(x&&&1085102592571150095)+(x&&&1085102592571150095)/256
def s5 (x:Nat):Nat:=x+x/65536
abbrev nu (w:World) (g:Nat) (s:aq) (T:List aM):Prop:=oM w g (bc s T) (Ad s T) (lD s T)
def yW (s:aq) (T:List aM) (id:Int):Option Nat:=(bc s T).idxOf? id
theorem yp {l:List Int} {a:Int} {i:Nat} (h:l.idxOf? a=some i):∃h:i<l.length,l[i]=a:=by
 have:=List.findIdx?_eq_some_iff_getElem.1 h;obtain⟨h1,h2,_⟩:=this;exact⟨h1,by simpa using h2⟩
theorem hE {s:aq} {T:List aM} {id:Int} {i:Nat} (h:yW s T id=some i):i< (bc s T).length∧(bc s T).getD i 0=id∧cX s T id=true:=by
 obtain⟨h1,h2⟩:=yp h;exact⟨h1,by rw [eS h1];exact h2,(gR s T id).1 (by rw [←h2];exact List.getElem_mem h1)⟩
theorem CV {s:aq} {T:List aM} {id:Int} (h:yW s T id=none):cX s T id=false:=by
 have h1:=List.idxOf?_eq_none_iff.1 h;cases hh:cX s T id with
 |false=>rfl
 |true=>exact absurd ((gR s T id).2 hh) h1
theorem jq {s:aq} {T:List aM} (id:Int):(yW s T id).isSome=cX s T id:=by
 cases h:yW s T id with
 |none=>exact(CV h).symm
 |some i=>exact(hE h).2.2.symm
def DP (s:aq) (T:List aM) (id:Int):Bool:=cX s T id&&decide ((aE s T).Canon [id])
def ow (s:aq) (T:List aM) (a b:Int):Bool:=cX s T a&&cX s T b&&decide ((aE s T).Canon [a,b])
theorem IQ:(Tryz.prog.info? bk).map (·.zero)=some (some (.int .i64 0)):=by kernel_rfl
theorem fk (w:World) (g:Nat) (s:aq) (T:List aM) (h:nu w g s T) (id:Int):
  CP 20 #[.pointer (some ⟨g,0,none⟩),.int .i64 id] w fun e w'=>e= .returned (.tuple #[.int .i64 (((yW s T id).getD 0:Nat):Int),.bool (yW s T id).isSome])∧w'=w:=by
 refine aP (yU (some ⟨g,0,none⟩) id w) ?_;obtain⟨ids,rows,alone,mb,rs,hR⟩:=h;refine ac.no rfl (ag.mk _ rfl ⟨some mb,by rw [bW hR.blk];rfl,?_⟩);have hl:=fK wy ld IQ hR.map id;rw [rk]at hl;have e:((((bc s T).idxOf? id).map fun i:Nat=>Value.int .i64 (i:Int)).getD (.int .i64 0))= .int .i64 (((yW s T id).getD 0:Nat):Int):=by
  show _=Value.int .i64 ((((bc s T).idxOf? id).getD 0:Nat):Int);cases(bc s T).idxOf? id<;>rfl
 rw [e,Option.isSome_map]at hl;exact⟨_,_,w,hl,rfl,rfl⟩
theorem ng (w:World) (g:Nat) (s:aq) (T:List aM) (h:nu w g s T) (hn:(bc s T).length≤1032) (id:Int):
  CP 90 #[.pointer (some ⟨g,0,none⟩),.int .i64 id] w fun e w'=>e= .returned (.bool (DP s T id))∧w'=w:=by
 refine aP (yZ (some ⟨g,0,none⟩) id w) ?_;refine(fk w g s T h id).mono ?_;rintro e w1 ⟨rfl,rfl⟩;obtain⟨ids,rows,alone,mb,rs,hR⟩:=h;refine⟨_,_,rfl,ac.mk (fun h1=>?_) fun h1=>⟨?_,rfl⟩⟩
 ·obtain⟨i,hi⟩:=Option.isSome_iff_exists.1 h1;obtain⟨hi1,hi2,hi3⟩:=hE hi;have al1:=cJ.of_own qY hR.oal;refine ag.mk _ rfl ⟨alone.a,alone.n,alone.c,by rw [bW hR.blk];rfl,?_⟩;rw [hi];refine(gE w1 alone.a alone.n alone.c _ (Ad s T) al1.r al1.n (by omega) i hi1).mono ?_;rintro e w2 ⟨rfl,rfl⟩;refine⟨_,rfl,?_,rfl⟩;unfold DP Ad;rw [hi2,hi3,Bool.true_and]
 ·rw [jq]at h1;unfold DP;rw [h1,Bool.false_and]
theorem DQ {s:aq} {T:List aM} {w:World} {g:Nat} {ids rows alone:Sl} {mb:Nat} {rs:List Sl} (hR:iI w g (bc s T) (Ad s T) (lD s T) ids rows alone mb rs (bc s T).length) (i:Nat) (hi:i< (bc s T).length):∃(p:Addr) (r:Sl),rows.a=some p∧i<rows.n∧w.cell? (p.add (i*1))=some (.slice r.a r.n r.c)∧cJ dq 1 w r (aS (bc s T).length (lD s T i)):=by
 have hls:=cJ.of_own Dt hR.orows;have hl:=hR.rl;have hi2:i<rs.length:=by omega
 obtain⟨p,hp,c0⟩:=ba hls.r hi2 (v:=rs[i].v) rfl;exact⟨p,rs[i],hp,by rw [hls.n];exact hi2,c0,cJ.of_own qY (hR.each i _ (List.getElem?_eq_getElem hi2))⟩
theorem rr (w:World) (g:Nat) (s:aq) (T:List aM) (h:nu w g s T) (hn:(bc s T).length≤1032) (a b:Int):
  CP 91 #[.pointer (some ⟨g,0,none⟩),.int .i64 a,.int .i64 b] w fun e w'=>e= .returned (.bool (ow s T a b))∧w'=w:=by
 refine aP (xA (some ⟨g,0,none⟩) a b w) ?_;refine(fk w g s T h a).mono ?_;rintro e w1 ⟨rfl,rfl⟩;refine⟨_,_,rfl,(fk w1 g s T h b).mono ?_⟩;rintro e w2 ⟨rfl,rfl⟩;obtain⟨ids,rows,alone,mb,rs,hR⟩:=h;refine⟨_,_,rfl,ac.mk (fun h1=>ac.mk (fun h2=>?_) fun h2=>⟨?_,rfl⟩) fun h1=>⟨?_,rfl⟩⟩
 ·obtain⟨i,hi⟩:=Option.isSome_iff_exists.1 h1;obtain⟨hi1,hi2,hi3⟩:=hE hi;obtain⟨j,hj⟩:=Option.isSome_iff_exists.1 h2;obtain⟨hj1,hj2,hj3⟩:=hE hj;obtain⟨p,r,hp,hin,hc,hls⟩:=DQ hR i hi1;rw [hi,hj];refine ag.mk _ rfl ⟨rows.a,rows.n,rows.c,by rw [bW hR.blk];rfl,ag.mk p hp ⟨by omega,by show((i:Nat):Int) <_;omega,r.a,r.n,r.c,hc,?_⟩⟩;refine(gE w2 r.a r.n r.c _ (lD s T i) hls.r hls.n (by omega) j hj1).mono ?_;rintro e w2 ⟨rfl,rfl⟩;refine⟨_,rfl,?_,rfl⟩;unfold ow lD;rw [hi2,hi3,hj2,hj3,Bool.true_and,Bool.true_and]
 ·rw [jq]at h2;unfold ow;rw [h2,Bool.and_false,Bool.false_and]
 ·rw [jq]at h1;unfold ow;rw [h1,Bool.false_and,Bool.false_and]
theorem iu (w:World) (g:Nat) (s:aq) (T:List aM) (h:nu w g s T):
  CP 19 #[.pointer (some ⟨g,0,none⟩)] w fun e w'=>e= .returned (.int .i64 (((bc s T).length:Nat):Int))∧w'=w:=by
 refine aP (yE (some ⟨g,0,none⟩) w) ?_;obtain⟨ids,rows,alone,mb,rs,hR⟩:=h;refine ac.no rfl (ag.mk _ rfl ⟨ids.a,ids.n,ids.c,by rw [bW hR.blk];rfl,?_,rfl⟩);rw [(cJ.of_own cL hR.oi).n]
theorem DD (w:World) (g:Nat) (s:aq) (T:List aM) (h:nu w g s T) (place:Int):
  CP 38 #[.pointer (some ⟨g,0,none⟩),.int .i64 place] w fun e w'=>e= .returned (if 0≤place∧place< ((bc s T).length:Int)then .tuple #[.int .i64 ((bc s T).getD place.toNat 0),.bool true]else .tuple #[.int .i64 0,.bool false])∧w'=w:=by
 refine aN (xU (some ⟨g,0,none⟩) place w (fun u w'=>u=(if 0≤place∧place< ((bc s T).length:Int)then .tuple #[.int .i64 ((bc s T).getD place.toNat 0),.bool true]else .tuple #[.int .i64 0,.bool false])∧w'=w) ?_) (by rintro v w' ⟨rfl,h⟩;exact⟨rfl,h⟩);refine ac.mk (fun h1=>⟨?_,rfl⟩) fun h1=>?_
 ·rw [if_neg (by have:=of_decide_eq_true h1;omega)]
 have h1:=of_decide_eq_false h1;refine(iu w g s T h).mono ?_;rintro e w1 ⟨rfl,rfl⟩;refine⟨_,rfl,ac.mk (fun h2=>⟨?_,rfl⟩) fun h2=>?_⟩
 ·rw [if_neg (by have:=of_decide_eq_true h2;omega)]
 have h2:=of_decide_eq_false h2;obtain⟨ids,rows,alone,mb,rs,hR⟩:=h;obtain⟨i,rfl⟩:∃i:Nat,place=i:=⟨place.toNat,by omega⟩;have hi:i< (bc s T).length:=by omega
 have hls:=cJ.of_own cL hR.oi;obtain⟨p,hp,c0⟩:=ba hls.r hi rfl;have:=hls.n;refine ag.mk _ rfl ⟨ids.a,ids.n,ids.c,by rw [bW hR.blk];rfl,ag.mk p hp ⟨by omega,by omega,_,c0,?_,rfl⟩⟩;rw [if_pos ⟨by omega,by omega⟩];show _=Value.tuple #[.int .i64 ((bc s T).getD i 0),.bool true];rw [eS hi]
theorem tD (w:World) (g:Nat) (s:aq) (T:List aM) (h:nu w g s T) (hn:(bc s T).length≤1032) (hok:eU T) (hV:(aE s T).Ok) (A:Option Addr) (C:Nat) (ids:List Int) (hr:Rw av 1 w A ids) (hl:ids.length≤10000):
  CP 116 #[.pointer (some ⟨g,0,none⟩),.slice A ids.length C] w fun e w'=>∃o:Option Nat,e= .returned (.tuple #[.int .i64 ((o.getD 0:Nat):Int),.bool o.isSome])∧ki (aE s T) ids o∧w'=w:=by
 refine aP (tR (some ⟨g,0,none⟩) A ids.length C w) ?_;have hal:∀t,DP s T t=true↔(aE s T).Has t∧(aE s T).Canon [t]:=by
  intro t;unfold DP;rw [Bool.and_eq_true,dR hok,decide_eq_true_iff]
 have hpr:∀a b,ow s T a b=true↔((aE s T).Has a∧(aE s T).Has b)∧(aE s T).Canon [a,b]:=by
  intro a b;unfold ow;rw [Bool.and_eq_true,Bool.and_eq_true,dR hok,dR hok,decide_eq_true_iff]
 intro I hI;have key:=aT (α:=World) ids.length (fun i q=>(∀(j:Nat) (h:j<ids.length),j<i→(aE s T).Has ids[j]∧(aE s T).Canon (ids.take (j+1)))∧q=w) (fun i q=>∀y5 y4,I [.int .i64 (i:Int),.bool y5,.int .i64 y4] q) w ⟨fun j _ hj=>absurd hj (Nat.not_lt_zero j),rfl⟩ ?_ ?_
 ·exact key _ _
 ·rintro i hi ih q ⟨hinv,rfl⟩ y5 y4;obtain⟨p,hp,c0⟩:=ba hr hi rfl;refine hI _ _ _ _ (ac.yes (by simp;omega) (ag.mk p hp ⟨by omega,by omega,_,c0,?_⟩));refine(ng q g s T h hn _).mono ?_;rintro e w2 ⟨rfl,rfl⟩;refine⟨_,rfl,ac.mk (fun h0=>?_) fun h0=>?_⟩
  ·refine⟨some i,rfl,⟨fun j hj hji=>hinv j hj hji,hi,fun e=>?_⟩,rfl⟩;have hh:∀t∈ids.take (i+1),(aE s T).Has t:=by
    intro t ht;obtain⟨j,hj,rfl⟩:=List.mem_take_iff_getElem.1 ht;by_cases e2:j=i
    ·subst e2;exact e.1
    ·exact(hinv j (by omega) (by omega)).1
   have htk:ids.take (i+1)=ids.take i++ [ids[i]]:=by rw [List.take_add_one,List.getElem?_eq_getElem hi];rfl
   rw [htk]at hh e;rw [(hal _).2 ⟨e.1,(Voc.canon_append hV hh e.2).2⟩]at h0;cases h0
  ·have h1:=(hal _).1 (by simpa using h0);have htk:ids.take (i+1)=ids.take i++ [ids[i]]:=by rw [List.take_add_one,List.getElem?_eq_getElem hi];rfl
   have next:(aE s T).Canon (ids.take (i+1))→Ar .i64 ((i:Int)+1) (fun n=>I [.int .i64 n,.bool y5,.int .i64 y4] w2):=by
    intro hc;refine Ar.nat (i+1) rfl (by omega) (ih w2 ⟨fun j hj hji=>?_,rfl⟩ _ _);by_cases e2:j=i
    ·subst e2;exact⟨h1.1,hc⟩
    ·exact hinv j hj (by omega)
   refine ac.mk (fun hi0=>?_) fun hi0=>?_
   ·have hi0:=of_decide_eq_true hi0;obtain⟨k,rfl⟩:∃k,i=k+1:=⟨i-1,by omega⟩;obtain⟨p2,hp2,c1⟩:=ba hr (show k<ids.length by omega) rfl;refine Ar.nat k (by omega) (by omega) (ag.mk p2 hp2 ⟨by omega,by omega,_,c1,?_⟩);refine(rr w2 g s T h hn _ _).mono ?_;rintro e w3 ⟨rfl,rfl⟩;have hk:=hinv k (by omega) (by omega);have htk2:ids.take (k+1)=ids.take k++ [ids[k]]:=by rw [List.take_add_one,List.getElem?_eq_getElem (by omega)];rfl
    have hh:∀t∈ids.take k++ [ids[k]],(aE s T).Has t:=by
     intro t ht;rw [←htk2]at ht;obtain⟨j,hj,rfl⟩:=List.mem_take_iff_getElem.1 ht;exact(hinv j (by omega) (by omega)).1
    have hc2:=hk.2;rw [htk2]at hc2;have m1:=Voc.canon_more hV hh hc2 h1.1;have m2:(aE s T).Canon [ids[k],ids[k+1]]↔(aE s T).Canon [ids[k+1]]∧(aE s T).Pair ids[k] ids[k+1]:=Voc.canon_more hV (init:=[]) (l:=ids[k]) (t:=ids[k+1]) (fun x hx=>by rw [List.nil_append,List.mem_singleton]at hx;rw [hx];exact hk.1) (Voc.canon_append hV hh hc2).2 h1.1;refine⟨_,rfl,ac.mk (fun h2=>?_) fun h2=>?_⟩
    ·refine⟨some (k+1),rfl,⟨fun j hj hji=>hinv j hj hji,hi,fun e=>?_⟩,rfl⟩;have e2:=e.2;rw [htk,htk2]at e2;rw [(hpr _ _).2 ⟨⟨hk.1,h1.1⟩,m2.2 (m1.1 e2)⟩]at h2;cases h2
    ·have h3:=(hpr _ _).1 (by simpa using h2);exact next (by rw [htk,htk2];exact m1.2 (m2.1 h3.2))
   ·have hi0:=of_decide_eq_false hi0;obtain rfl:i=0:=by omega
    refine next ?_;rw [htk,List.take_zero,List.nil_append];exact h1.2
 ·rintro q ⟨hinv,rfl⟩ y5 y4;exact hI _ _ _ _ (ac.no (by simp) ⟨none,rfl,fun j hj=>hinv j hj hj,rfl⟩)
theorem zu:(bc qc rM).length=257:=by decide+kernel
theorem Bn {w:World} {v:Nat} {y:jz} {s:aq} {T:List aM} (h:vk w v y s T):(bc s T).length≤1006∧(((bc s T).length*(bc s T).length:Nat):Int)≤1048576:=by
 have h1:=h.now.ok.most;have h2:=h.few;have h3:=h.ids;have hT:T.length≤1000:=h1;have hl:(bc s T).length≤1006:=by rw [fm];omega
 refine⟨hl,?_⟩;have:(bc s T).length*(bc s T).length≤1006*1006:=Nat.mul_le_mul hl hl;omega
theorem jN {V:Voc} {ids:List Int} {o o':Option Nat} (h:ki V ids o) (h':ki V ids o'):o=o':=by
 cases o with
 |none=>
  cases o' with
  |none=>rfl
  |some k=>obtain⟨_,hk,h2⟩:=h';exact absurd (h k hk) h2
 |some k=>
  obtain⟨h1,hk,h2⟩:=h;cases o' with
  |none=>exact absurd (h' k hk) h2
  |some k'=>
   obtain⟨h1',hk',h2'⟩:=h';rcases Nat.lt_trichotomy k k' with h |h |h
   ·exact absurd (h1' k hk h) h2
   ·rw [h]
   ·exact absurd (h1 k' hk' h) h2'
abbrev EZ:TypeId:=126
abbrev sH:TypeId:=31
structure sC (w:World) (m v g r n1:Nat) (s:aq) (T:List aM) (S:List Bs) (nd mp:Bs→Nat):Prop where
 blk:w.heap[m]? =some (.cells #[.pointer (some ⟨r,0,none⟩),.pointer (some ⟨v,0,none⟩),.pointer (some ⟨g,0,none⟩)] EZ (0,0))
 voc:be w v s T
 grid:nu w g s T
 trie:bD w n1 S nd mp (lx T)
 root:∃n,c_ w r (nd []) n
 mem:∀u,u∈S↔u= []∨∃e∈T,u<+:e.1
 few:(bc s T).length≤1032
 ok:eU T
 vok:(aE s T).Ok
 asc:(s.specials.map (·.1)).Pairwise (·< ·)
def d_ (w:World) (m v g:Nat) (s:aq) (T:List aM):Prop:=∃r n1 S nd mp,sC w m v g r n1 s T S nd mp
theorem sC.on {w w':World} {m v g r n1:Nat} {s:aq} {T:List aM} {S:List Bs} {nd mp:Bs→Nat} (h:sC w m v g r n1 s T S nd mp) (hb:Below w.heap.size w w'):sC w' m v g r n1 s T S nd mp:=by
 obtain⟨n,hn⟩:=h.root;exact⟨aj hb h.blk,h.voc.on hb,h.grid.on hb,h.trie.on hb,⟨n,aj hb hn⟩,h.mem,h.few,h.ok,h.vok,h.asc⟩
theorem d_.on {w w':World} {m v g:Nat} {s:aq} {T:List aM} (h:d_ w m v g s T) (hb:Below w.heap.size w w'):d_ w' m v g s T:=by
 obtain⟨r,n1,S,nd,mp,h⟩:=h;exact⟨r,n1,S,nd,mp,h.on hb⟩
theorem k_ (w:World) (v g:Nat) (s:aq) (T:List aM) (hV:be w v s T) (hG:nu w g s T) (hn:(bc s T).length≤1032) (hvok:(aE s T).Ok) (hasc:(s.specials.map (·.1)).Pairwise (·< ·)):
  CP 33 #[.pointer (some ⟨v,0,none⟩),.pointer (some ⟨g,0,none⟩)] w fun e w'=>∃m,e= .returned (.tuple #[.pointer (some ⟨m,0,none⟩),.int .i64 0])∧d_ w' m v g s T∧w.heap.size≤m∧Below w.heap.size w w':=by
 refine aP (xR (some ⟨v,0,none⟩) (some ⟨g,0,none⟩) w) ?_;refine ac.no rfl (ac.no rfl ((iu w g s T hG).mono ?_));rintro e w1 ⟨rfl,hw1⟩;subst w1;refine⟨_,rfl,(gi w v s T hV hasc).mono ?_⟩;rintro e w2 ⟨l,rfl,ho,b2⟩;have hln:l.n=(bc s T).length:=(Rw.of_own ho (fun _=>rfl) (by decide)).2;refine⟨l.a,l.n,l.c,rfl,ac.no (by rw [hln];simp) ((gi w2 v s T (hV.on b2) hasc).mono ?_)⟩;rintro e w3 ⟨k,rfl,hk,b3⟩;obtain⟨hkr,hkn⟩:=Rw.of_own hk (fun _=>rfl) (by decide);have hkn:k.n=(bc s T).length:=hkn;have hb3:=ae b2 b3;refine⟨k.a,k.n,k.c,rfl,?_⟩;intro I hI;have key:=aT (α:=Int×Option Addr) (bc s T).length (fun _ _=>True) (fun i y=>I [.int .i64 (i:Int),.int .i64 y.1,.pointer y.2] w3) (0,none) trivial ?_ ?_
 ·exact key
 ·rintro i hi ih ⟨y5,y4⟩ _;obtain⟨p,hp,c0⟩:=ba hkr hi rfl;refine hI _ y5 y4 w3 (ac.yes (decide_eq_true (by omega)) (ag.mk p hp ⟨by omega,by omega,_,c0,(DD w3 g s T (hG.on hb3) (i:Int)).mono ?_⟩));rintro e w5 ⟨rfl,hw5⟩;subst w5;rw [if_pos ⟨by omega,by omega⟩];refine⟨_,_,rfl,ac.no rfl (ac.no ?_ (Ar.nat (i+1) rfl (by omega) (ih (y5,y4) trivial)))⟩;rw [Int.toNat_natCast,eS hi];simp
 ·rintro⟨y5,y4⟩ _;have hV3:=hV.on hb3;have hV3':=hV3;obtain⟨w0,x,tp,bp,mp',d,l0,uses,hR⟩:=hV3';have hok:=hR.now.ok;refine hI _ y5 y4 w3 (ac.no (decide_eq_false (by omega)) ((dQ hR.vblk).mono ?_));rintro e w6 ⟨rfl,hw6⟩;subst w6;refine⟨_,rfl,(rC w3 tp T hR.now.tab hok).mono ?_⟩;rintro e w7 ⟨r,S,nd,mp,n,rfl,hr1,hT7,hroot,hmem,b7⟩;refine⟨_,rfl,?_⟩;intro w8 hw8;have b8:Below w7.heap.size w7 w8:=by subst hw8;exact ai _ _
  have x8:w8.heap[w7.heap.size]? =some (.cells #[.pointer (some ⟨r,0,none⟩),.pointer (some ⟨v,0,none⟩),.pointer (some ⟨g,0,none⟩)] EZ (0,0)):=by subst hw8;exact am _ _
  have hb7:=ae hb3 b7;have hb8:=ae hb7 b8;exact⟨w7.heap.size,rfl,⟨r,w3.heap.size,S,nd,mp,x8,hV.on hb8,hG.on hb8,hT7.on b8,⟨n,aj b8 hroot⟩,hmem,hn,hok,hvok,hasc⟩,hb7.size,hb8⟩
def dL (s:aq) (T:List aM) (ids:List Int) (id:Int):Bool:=match ids.getLast? with
 |none=>DP s T id
 |some a=>ow s T a id
theorem sK (w:World) (m v g:Nat) (s:aq) (T:List aM) (h:d_ w m v g s T) (A:Option Addr) (C:Nat) (ids:List Int) (hr:Rw av 1 w A ids) (hl:ids.length≤1000000) (id:Int):
  CP 80 #[.pointer (some ⟨m,0,none⟩),.slice A ids.length C,.int .i64 id] w fun e w'=>e= .returned (.bool (dL s T ids id))∧Below w.heap.size w w':=by
 refine aP (xq (some ⟨m,0,none⟩) A ids.length C id w) ?_;obtain⟨r,n1,S,nd,mp,h⟩:=h;refine ac.mk (fun h0=>?_) fun h0=>?_
 ·have h0:(ids.length:Int)=0:=by simpa using h0
  have:ids= []:=List.eq_nil_of_length_eq_zero (by omega);subst this;refine ag.mk _ rfl ⟨_,af _ _ h.blk 2,(ng w g s T h.grid h.few id).mono ?_⟩;rintro e w1 ⟨rfl,hw1⟩;subst w1;exact⟨_,rfl,rfl,Below.refl _ _⟩
 ·have h0:¬(ids.length:Int)=0:=by simpa using h0
  intro w2 hw2;have b2:Below w.heap.size w w2:=by subst hw2;exact aJ w
  have h2:=h.on b2;have hlt:ids.length-1<ids.length:=by omega
  obtain⟨p,hp,c0⟩:=ba (hr.on b2) hlt rfl;refine ag.mk _ rfl ⟨_,af _ _ h2.blk 2,Ar.nat (ids.length-1) (by omega) (by omega) (ag.mk p hp ⟨by omega,by omega,_,c0,(rr w2 g s T h2.grid h.few _ id).mono ?_⟩)⟩;rintro e w3 ⟨rfl,hw3⟩;subst w3;refine⟨_,rfl,?_,b2⟩;unfold dL;rw [List.getLast?_eq_getElem?,List.getElem?_eq_getElem hlt]
set_option maxHeartbeats 1000000 in
theorem jS (w0 w:World) (hb:Below w0.heap.size w0 w) (m v g:Nat) (s:aq) (T:List aM) (h:d_ w0 m v g s T) (l:Sl) (xs:List Int) (ho:w.ownsRow w0.heap.size bk 1 l.v l.n (xs.flatMap av)) (hx:xs.length≤1000000) (A:Option Addr) (C:Nat) (ids:List Int) (hr:Rw av 1 w0 A ids) (hl:ids.length≤1000000):
  CP 60 #[.pointer (some ⟨m,0,none⟩),l.v,.slice A ids.length C] w fun e w'=>∃l':Sl,e= .returned l'.v∧w'.ownsRow w0.heap.size bk 1 l'.v l'.n ((xs.filter (dL s T ids)).flatMap av)∧Below w0.heap.size w0 w':=by
 refine aP (xO (some ⟨m,0,none⟩) l.a l.n l.c A ids.length C w) ?_;intro w1 hw1 w2 hw2;have b1:Below w.heap.size w w1:=by subst hw1;exact ai _ _
 have l1:w1.heap[w.heap.size]? =some (.cells #[.pointer (some ⟨m,0,none⟩)] sH (0,0)):=by subst hw1;exact am _ _
 have b2:Below w1.heap.size w1 w2:=by subst hw2;exact ai _ _
 have l2:w2.heap[w1.heap.size]? =some (.cells #[.slice A ids.length C] cT (0,0)):=by subst hw2;exact am _ _
 have l12:=aj b2 l1;have hb1:=ae hb b1;have hb2:=ae hb1 b2;have ho2:=aF (aF ho b1) b2;have clo:∀(x:Int) (q:World),Below w0.heap.size w0 q→q.heap[w.heap.size]? =some (.cells #[.pointer (some ⟨m,0,none⟩)] sH (0,0))→q.heap[w1.heap.size]? =some (.cells #[.slice A ids.length C] cT (0,0))→bP g_ (.func (.func 118) #[] #[.pointer (some (nb w)),.pointer (some (nb w1))]) [.int .i64 x] q fun e q'=>e= .returned (.bool (!dL s T ids x))∧Below q.heap.size q q':=by
  intro x q hq e1 e2;refine cD (by kernel_rfl) ?_;refine aP (uE x (some (nb w)) (some (nb w1)) q) ?_;refine ag.mk _ rfl ⟨_,aO e1,ag.mk _ rfl ⟨_,_,_,aO e2,(sK q m v g s T (h.on hq) A C ids (hr.on hq) hl x).mono ?_⟩⟩;rintro e q' ⟨rfl,bq⟩;exact⟨_,rfl,rfl,bq⟩
 obtain⟨hln,hc⟩:=fX.of_own ho2;rcases hc with rfl |⟨b,cap,rfl,hB,hrow⟩
 ·have h0:xs= []:=List.eq_nil_of_length_eq_zero hln.symm;subst h0;have hdel:CP 117 #[.slice none 0 0,.func (.func 118) #[] #[.pointer (some (nb w)),.pointer (some (nb w1))]] w2 fun e w'=>e= .returned (.slice none 0 0)∧Below w2.heap.size w2 w':=by
   refine aP (mP none 0 0 _ w2) ?_;refine(mY none 0 [] _ (fun _=>false) w2 (fun j x hj=>by cases hj) (by simp) (fun x hx=>by cases hx)).mono ?_;rintro e w5 ⟨rfl,b5⟩;exact⟨_,rfl,ac.yes rfl ⟨rfl,b5⟩⟩
  refine hdel.mono ?_;rintro e w5 ⟨rfl,b5⟩;exact⟨none,0,0,rfl,dB,rfl,bX _ _ _ _ av,ae hb2 b5⟩
 ·have hbw:b<w.heap.size:=by
   obtain⟨_,hc'⟩:=fX.of_own ho;rcases hc' with e |⟨b',cap',e,_,hrow'⟩
   ·simp [dB]at e
   ·simp only [Sl.mk.injEq,Option.some.injEq,Addr.mk.injEq,and_true]at e;obtain⟨rfl,_,rfl⟩:=e;obtain⟨cur,hcur,_⟩:=hrow';exact(Array.getElem?_eq_some_iff.1 hcur).1
  have hz1:=b1.size;refine(sd (fun q=>Below w0.heap.size w0 q∧q.heap[w.heap.size]? =some (.cells #[.pointer (some ⟨m,0,none⟩)] sH (0,0))∧q.heap[w1.heap.size]? =some (.cells #[.slice A ids.length C] cT (0,0))) b cap xs (by omega) _ (fun x=> !dL s T ids x) ?_ ?_ w2 ⟨hb2,l12,l2⟩ hrow).mono ?_
  ·rintro q q' ⟨hq,e1,e2⟩ _ hO;exact⟨hq.trans (hO.below hB),by rw [hO.ne _ (by omega)];exact e1,by rw [hO.ne _ (by omega)];exact e2⟩
  ·rintro x _ q ⟨hq,e1,e2⟩ hints;refine(clo x q hq e1 e2).mono ?_;rintro e q' ⟨rfl,bq⟩;obtain⟨c,hc⟩:=hints;exact⟨rfl,⟨ae hq bq,aj bq e1,aj bq e2⟩,bq.block _ (Array.getElem?_eq_some_iff.1 hc).1⟩
  ·rintro e w5 ⟨rfl,⟨hq,_,_⟩,hrow5⟩;have ef:xs.filter (fun x=> !!dL s T ids x)=xs.filter (dL s T ids):=by
    congr 1;funext x;rw [Bool.not_not]
   rw [ef]at hrow5⊢;exact⟨_,_,_,rfl,⟨some ⟨b,0,none⟩,(xs.filter (dL s T ids)).length,cap⟩,rfl,hrow5.own hB,hq⟩
def fC (s:aq) (T:List aM) (ids:List Int) (n e:Int):Prop:=(0≤gw s T ids∧n=gw s T ids∧e=4)∨(gw s T ids<0∧∃o,ki (aE s T) ids o∧((∃k:Nat,o=some k∧n=k∧e=11)∨(o=none∧n=ids.length∧e=0)))
theorem oI {s:aq} {T:List aM} {ids:List Int} {n e n' e':Int} (h:fC s T ids n e) (h':fC s T ids n' e'):n'=n∧e'=e:=by
 rcases h with⟨h1,h2,h3⟩ |⟨h1,o,h2,h3⟩
 ·rcases h' with⟨k1,k2,k3⟩ |⟨k1,_⟩
  ·exact⟨by omega,by omega⟩
  ·omega
 ·rcases h' with⟨k1,_⟩ |⟨k1,o',k2,k3⟩
  ·omega
  ·have:=jN h2 k2;subst this;rcases h3 with⟨k,rfl,rfl,rfl⟩ |⟨rfl,rfl,rfl⟩
   ·rcases k3 with⟨k',e1,rfl,rfl⟩ |⟨e1,_⟩
    ·cases e1;exact⟨rfl,rfl⟩
    ·cases e1
   ·rcases k3 with⟨k',e1,_⟩ |⟨_,rfl,rfl⟩
    ·cases e1
    ·exact⟨rfl,rfl⟩
theorem iL (w:World) (m v g:Nat) (s:aq) (T:List aM) (h:d_ w m v g s T) (A:Option Addr) (C:Nat) (ids:List Int) (hr:Rw av 1 w A ids) (hl:ids.length≤10000):
  CP 59 #[.pointer (some ⟨m,0,none⟩),.slice A ids.length C] w fun e w'=>∃n k:Int,e= .returned (.tuple #[.int .i64 n,.int .i64 k])∧fC s T ids n k∧Below w.heap.size w w':=by
 refine aP (zn (some ⟨m,0,none⟩) A ids.length C w) ?_;obtain⟨r,n1,S,nd,mp,h⟩:=h;intro w1 hw1;have b1:Below w.heap.size w w1:=by subst hw1;exact ai _ _
 have l1:w1.heap[w.heap.size]? =some (.cells #[.pointer (some ⟨m,0,none⟩)] sH (0,0)):=by subst hw1;exact am _ _
 have h1:=h.on b1;refine⟨_,aO l1,ac.no rfl ?_⟩;refine(mY A C ids _ (fun id=> !cX s T id) w1 (hr.on b1) (by omega) ?_).mono ?_
 ·intro id hid w2 hb2;refine cD (by kernel_rfl) ?_;refine aP (sY id (some (nb w)) w2) ?_;have h2:=h1.on hb2;obtain⟨w0,x,tp,bp,mp',d,l0,uses,hR⟩:=h2.voc;refine ag.mk _ rfl ⟨_,aO (aj hb2 l1),ag.mk _ rfl ⟨_,af _ _ h2.blk 1,(vz hR.vblk hR.now id).mono ?_⟩⟩;rintro e w3 ⟨rfl,hw⟩;subst hw;exact⟨_,rfl,rfl,Below.refl _ _⟩
 ·rintro e w2 ⟨rfl,b2⟩;have hb2:=ae b1 b2;have h2:=h1.on b2;refine⟨_,rfl,ac.mk (fun h0=>?_) fun h0=>?_⟩
  ·have h0:=of_decide_eq_true h0;exact⟨_,_,rfl,.inl ⟨h0,rfl,rfl⟩,hb2⟩
  ·have h0:=of_decide_eq_false h0;refine⟨_,aO (aj b2 l1),ag.mk _ rfl ⟨_,af _ _ h2.blk 2,(tD w2 g s T h2.grid h.few h.ok h.vok A C ids (hr.on hb2) hl).mono ?_⟩⟩;rintro e w3 ⟨o,rfl,hF,hw3⟩;subst w3;refine⟨_,_,rfl,ac.mk (fun h3=>?_) fun h3=>?_⟩
   ·obtain⟨k,rfl⟩:=Option.isSome_iff_exists.1 h3;exact⟨_,_,rfl,.inr ⟨by show gw s T ids<0;unfold gw;omega,_,hF,.inl ⟨k,rfl,rfl,rfl⟩⟩,hb2⟩
   ·have:o=none:=by simpa using h3
    subst this;exact⟨_,_,rfl,.inr ⟨by show gw s T ids<0;unfold gw;omega,_,hF,.inr ⟨rfl,rfl,rfl⟩⟩,hb2⟩
theorem gN (w:World) (m v g:Nat) (s:aq) (T:List aM) (h:d_ w m v g s T) (A:Option Addr) (C:Nat) (ids:List Int) (hr:Rw av 1 w A ids) (hl:ids.length≤10000):
  CP 14 #[.pointer (some ⟨m,0,none⟩),.slice A ids.length C] w fun e w'=>∃(l:Sl) (n k:Int),e= .returned (.tuple #[l.v,.int .i64 n,.int .i64 k])∧fC s T ids n k∧(k≠0→l=dB)∧(k=0→w'.ownsRow w.heap.size bk 1 l.v l.n (((bc s T).filter (dL s T ids)).flatMap av))∧Below w.heap.size w w':=by
 refine aP (yX (some ⟨m,0,none⟩) A ids.length C w) ?_;refine(iL w m v g s T h A C ids hr hl).mono ?_;rintro e w1 ⟨n,k,rfl,hR,b1⟩;refine⟨_,_,rfl,ac.mk (fun hk=>?_) fun hk=>?_⟩
 ·have hk:k≠0:=by simpa using hk
  exact⟨dB,_,_,rfl,hR,fun _=>rfl,fun h=>absurd h hk,b1⟩
 ·have hk:k=0:=by simpa using hk
  subst hk;have h1:=h.on b1;have h1':=h1;obtain⟨r,n1,S,nd,mp,hM⟩:=h1';refine ag.mk _ rfl ⟨_,af _ _ hM.blk 1,(gi w1 v s T hM.voc hM.asc).mono ?_⟩;rintro e w2 ⟨l,rfl,ho,b2⟩;have hfew:=hM.few;refine⟨l.a,l.n,l.c,rfl,(jS w1 w2 b2 m v g s T h1 l _ ho (by omega) A C ids (hr.on b1) (by omega)).mono ?_⟩;rintro e w3 ⟨l',rfl,ho3,b3⟩;exact⟨l'.a,l'.n,l'.c,rfl,l',_,_,rfl,hR,fun h=>absurd rfl h,fun _=>cP ho3 b1.size,ae b1 b3⟩
set_option maxHeartbeats 1000000 in
theorem pu (w:World) (m v g:Nat) (s:aq) (T:List aM) (h:d_ w m v g s T) (t:Bs) (ht:t.length≤100000):
  CP 62 #[.pointer (some ⟨m,0,none⟩),.string (str t)] w fun e w'=>∃l:Sl,e= .returned l.v∧w'.ownsRow w.heap.size bk 1 l.v l.n ((eH T t).flatMap av)∧Below w.heap.size w w':=by
 refine aP (xl (some ⟨m,0,none⟩) (str t) w) ?_;obtain⟨r,n1,S,nd,mp,h⟩:=h;obtain⟨n,hroot⟩:=h.root;intro w1 hw1;have b1:Below w.heap.size w w1:=by subst hw1;exact aJ w
 have h1:=h.on b1;have hI:=CC h.ok h.mem;refine ag.mk _ rfl ⟨_,af _ _ h1.blk 0,ag.mk _ rfl ⟨_,af _ _ h1.blk 0,(py h1.trie (aj b1 hroot) t (by omega)).mono ?_⟩⟩;rintro e w2 ⟨l,zs,rfl,ho,hz,b2⟩;have hb2:=ae b1 b2;have h2:=h1.on b2;refine⟨l.a,l.n,l.c,rfl,⟨af _ _ h2.blk 0,trivial⟩,(nG h2.trie (aj hb2 hroot) hI t (by omega)).mono ?_⟩;rintro e w3 ⟨k,ys,rfl,hk,hp,hy,b3⟩;have hz1:=b1.size;have hz2:=b2.size;have hz3:=b3.size;have hB3:Below w1.heap.size w1 w3:=ae b2 b3;have hln:l.n=zs.length:=(Rw.of_own ho (fun _=>rfl) (by decide)).2;have hzl:=hz.1;have hyl:ys.length≤1000:=by
  have:=sj (N:=T.length) (hp.imp fun h e=>by omega) (fun x hx=>by
   obtain⟨h1,u,_,_,he⟩:=(hy x).1 hx;have:=((jb h.ok.nodup).1 ⟨h1,he⟩).1;exact this)
  have:=h.ok.most;omega
 have hkls:=cJ.of_own cL hk;obtain⟨f,w4,e1,e2,e3,e4,e5,_⟩:=cL.spread (aF ho b3) hkls (by omega) (by omega) (by rw [hkls.n];omega) (by decide);have hB4:Below w1.heap.size w1 w4:=e4 w1 hB3;refine⟨k.a,k.n,k.c,rfl,f.a,f.n,f.c,w4,e2,?_⟩;have hfl:(zs++ys).length≤1000000:=by rw [List.length_append];omega
 refine(ov w4 w1.heap.size f (zs++ys) e3 hfl).mono ?_;rintro e w5 ⟨rfl,ho5,hg5⟩;have hsl:(ri (zs++ys)).length≤1000000:=by rw [List.length_mergeSort];exact hfl
 refine⟨rfl,(qx w5 w1.heap.size f _ ho5 hsl).mono ?_⟩;rintro e w6 ⟨c,rfl,ho6,hg6⟩;have hown:∀ {q:World} {xs:List Int},q.ownsRow w1.heap.size bk 1 f.v f.n (xs.flatMap av)→∀j,f.v.ownBlock=some j→w1.heap.size≤j:=fun ho j hj=>(cf ho j hj).1;have hB5:Below w1.heap.size w1 w5:=hB4.grown hg5 hB4.size (hown e3);have hB6:Below w1.heap.size w1 w6:=hB5.grown hg6 hB5.size (hown ho5);have fin:Lib.compact (ri (zs++ys))=eH T t:=by
  refine oV (oB (C0 _)) (gJ T t) fun x=>?_;rw [wm,List.mem_mergeSort,List.mem_append,hz.2,hy,ix];have hiff:∀u,(x≠ -1∧lx T u=x)↔aZ T x∧aK T x=u:=fun u=>jb h.ok.nodup;constructor
  ·rintro(⟨h1,j,h2,h3,h4⟩ |⟨h1,u,h2,h3,h4⟩)
   ·obtain⟨h5,h6⟩:=(hiff _).1 ⟨h1,h4⟩;exact⟨h5,.inr (by rw [h6];exact List.take_prefix _ _)⟩
   ·obtain⟨h5,h6⟩:=(hiff _).1 ⟨h1,h4⟩;exact⟨h5,.inl (by rw [h6];exact h3)⟩
  ·rintro⟨h5,h6 |h6⟩
   ·right;obtain⟨h1,h4⟩:=(hiff _).2 ⟨h5,rfl⟩;refine⟨h1,aK T x,(h.mem _).2 (.inr ?_),h6,h4⟩;obtain⟨h7,h8⟩:=h5;have hlt:x.toNat<T.length:=by omega
    refine⟨T[x.toNat],List.getElem_mem hlt,?_⟩;unfold aK;rw [List.getElem?_eq_getElem hlt];exact List.prefix_refl _
   ·left;have hne:=Gt h.ok h5;have hpos:1≤(aK T x).length:=by
     cases hb:aK T x with
     |nil=>exact absurd hb hne
     |cons a r=>simp
    obtain⟨h1,h4⟩:=(hiff _).2 ⟨h5,rfl⟩;refine⟨h1,(aK T x).length,hpos,h6.length_le,?_⟩;rw [←List.prefix_iff_eq_take.1 h6];exact h4
 rw [fin]at ho6;exact⟨c.a,c.n,c.c,rfl,c,rfl,cP ho6 hz1,b1.trans (hB6.mono hz1)⟩
theorem oL {T:List aM} (hok:eU T) (t:Bs):(eH T t).length≤1000:=by
 have:=sj (N:=T.length) ((gJ T t).imp fun h e=>by omega) (fun x hx=>(ix.1 hx).1);have:=hok.most;omega
theorem jT (w:World) (m v g:Nat) (s:aq) (T:List aM) (h:d_ w m v g s T) (t:Bs) (ht:t.length≤100000) (A:Option Addr) (C:Nat) (ids:List Int) (hr:Rw av 1 w A ids) (hl:ids.length≤10000):
  CP 15 #[.pointer (some ⟨m,0,none⟩),.string (str t),.slice A ids.length C] w fun e w'=>∃(l:Sl) (n k:Int),e= .returned (.tuple #[l.v,.int .i64 n,.int .i64 k])∧fC s T ids n k∧(k≠0→l=dB)∧(k=0→w'.ownsRow w.heap.size bk 1 l.v l.n (((eH T t).filter (dL s T ids)).flatMap av))∧Below w.heap.size w w':=by
 refine aP (yo (some ⟨m,0,none⟩) (str t) A ids.length C w) ?_;refine(iL w m v g s T h A C ids hr hl).mono ?_;rintro e w1 ⟨n,k,rfl,hR,b1⟩;refine⟨_,_,rfl,ac.mk (fun hk=>?_) fun hk=>?_⟩
 ·have hk:k≠0:=by simpa using hk
  exact⟨dB,_,_,rfl,hR,fun _=>rfl,fun h=>absurd h hk,b1⟩
 ·have hk:k=0:=by simpa using hk
  subst hk;have h1:=h.on b1;have hok:eU T:=by obtain⟨r,n1,S,nd,mp,hM⟩:=h1;exact hM.ok
  refine(pu w1 m v g s T h1 t ht).mono ?_;rintro e w2 ⟨l,rfl,ho,b2⟩;have hfew:=oL hok t;refine⟨l.a,l.n,l.c,rfl,(jS w1 w2 b2 m v g s T h1 l _ ho (by omega) A C ids (hr.on b1) (by omega)).mono ?_⟩;rintro e w3 ⟨l',rfl,ho3,b3⟩;exact⟨l'.a,l'.n,l'.c,rfl,l',_,_,rfl,hR,fun h=>absurd rfl h,fun _=>cP ho3 b1.size,ae b1 b3⟩
section
variable {pb v r n1:Nat} {s:aq} {T:List aM} {S:List Bs} {nd mp:Bs→Nat} {A:Option Addr} {C:Nat} {Z:List Int}
end
section
variable {pb v r n1:Nat} {s:aq} {T:List aM} {S:List Bs} {nd mp:Bs→Nat} {A:Option Addr} {C:Nat} {Z:List Int}
end
theorem EF (a b:Bs):((str a).toList==(str b).toList)=decide (a=b):=by
 rw [cu,cu];by_cases h:a=b
 ·subst h;simp
 ·simp [h]
section
variable {w w':World} {b:Nat} {c:Array Value} {e:TypeId} {fz:Nat×Nat}
theorem eu (hb:w.heap[b]? =some (.cells c e fz)) (t:aG b w w') {k:Nat} {c2:Array Value} {e2:TypeId} {fz2:Nat×Nat} (hk:w.heap[k]? =some (.cells c2 e2 fz2)) (he:e2≠e):w'.heap[k]? =some (.cells c2 e2 fz2):=by
 refine t.held ?_ hk;rintro rfl;rw [hb]at hk;cases hk;exact he rfl
theorem fQ {κ:Type} [DecidableEq κ] {kv:κ→Value} {r:Nat} {m:List (κ×Value)} (hb:w.heap[b]? =some (.cells c e fz)) (t:aG b w w') (h:bH kv w r m):bH kv w' r m:=by
 refine h.same (t.block _ h.lt ?_);rintro rfl;obtain⟨es,k,hm,_⟩:=h;rw [hb]at hm;cases hm
theorem ja (hb:w.heap[b]? =some (.cells c e fz)) (t:aG b w w') {B sz n:Nat} {e2:TypeId} {u:Value} {xs:List Value} (ho:w.ownsRow B e2 sz u n xs) (he:e2≠e):w'.ownsRow B e2 sz u n xs:=
 a_ ho fun k hk=>t.block k (cf ho k hk).2 fun e3=>aU ho hb he (by rw [hk,e3])
theorem bC.past {s:aq} {T:List aM} {x:bO} {tp bp mp:Nat} (h:bC w s T x tp bp mp) (hb:w.heap[b]? =some (.cells c e fz)) (hc:∀v∈c,¬gS v) (t:aG b w w') (n1:gL≠e) (n2:fL≠e) (n3:lW≠e):bC w' s T x tp bp mp:=by
 have hne:∀j,j<w.heap.size→j≠b→w'.heap[j]? =w.heap[j]? :=fun j hj hn=>t.block j hj hn;refine⟨h.spec.past hb hc hne t.size,?_,h.ok,?_,?_,h.right,h.ids,h.nodup⟩
 ·obtain⟨l,mb,mp,most,h1,h2,h3,h4,h5,h6⟩:=h.tab;exact⟨l,mb,mp,most,eu hb t h1 n1,h2,h3.past (fun x=>⟨_,rfl,.inr ⟨_,rfl⟩⟩) hb hc hne t.size,fQ hb t h4,fQ hb t h5,h6⟩
 ·obtain⟨c2,h1,h2⟩:=h.bound;exact⟨c2,eu hb t h1 n2,h2⟩
 ·obtain⟨l,mi,mt,c2,h1,h2,h3,h4,h5,h6⟩:=h.marks;exact⟨l,mi,mt,c2,eu hb t h1 n3,h2,h3,h4.past (fun x=>⟨_,rfl,cG _ _⟩) hb hc hne t.size,fQ hb t h5,fQ hb t h6⟩
theorem be.past {v:Nat} {s:aq} {T:List aM} (h:be w v s T) (hb:w.heap[b]? =some (.cells c e fz)) (hc:∀v∈c,¬gS v) (t:aG b w w') (n0:db≠e) (n1:gL≠e) (n2:fL≠e) (n3:lW≠e) (n4:er≠e):be w' v s T:=by
 obtain⟨w0,x,tp,bp,mp,d,l,uses,hR⟩:=h;have hz:=hR.below.size;let w1:World:={w' with heap:=w'.heap.extract 0 w0.heap.size};have hz1:w1.heap.size=w0.heap.size:=by
  show(w'.heap.extract 0 w0.heap.size).size=_;rw [Array.size_extract];have:=t.size;omega
 have h1:∀k,k<w0.heap.size→w1.heap[k]? =w'.heap[k]? :=by
  intro k hk;show(w'.heap.extract 0 w0.heap.size)[k]? =_;rw [Array.getElem?_extract];rw [if_pos (by have:=t.size;omega),Nat.zero_add]
 have b1:Below w1.heap.size w1 w':=⟨rfl,rfl,rfl,by rw [hz1];have:=t.size;omega,fun k hk=>(h1 k (by omega)).symm⟩;have ht:aG b w0 w1:=⟨t.os.trans hR.below.os,t.tape.trans hR.below.tape,t.output.trans hR.below.output,by omega,fun k hk hne=>by rw [h1 k hk,t.block k (by omega) hne,hR.below.block k hk]⟩;have hp:bC w1 s T x tp bp mp:=by
  by_cases hlt:b<w0.heap.size
  ·exact hR.parts.past (by rw [←hR.below.block b hlt];exact hb) hc ht n1 n2 n3
  ·exact hR.parts.on ⟨ht.os,ht.tape,ht.output,ht.size,fun k hk=>ht.block k hk (by omega)⟩
 exact⟨w1,x,tp,bp,mp,d,l,uses,hp,b1,by rw [hz1];exact hR.lt,eu hb t hR.blk n0,hR.once.imp id fun⟨x1,x2,x3⟩=>⟨x1,x2,ja hb t x3 n4⟩⟩
theorem nu.by {g:Nat} {s:aq} {T:List aM} (h:nu w g s T) (hb:w.heap[b]? =some (.cells c e fz)) (t:aG b w w') (n1:qR≠e) (n2:bk≠e) (n3:nH≠e) (n4:eZ≠e):nu w' g s T:=by
 obtain⟨ids,rows,alone,mb,rs,hR⟩:=h;exact⟨ids,rows,alone,mb,rs,eu hb t hR.blk n1,ja hb t hR.oi n2,fQ hb t hR.map,ja hb t hR.orows n3,hR.rl,fun i r hi=>ja hb t (hR.each i r hi) n4,ja hb t hR.oal n4⟩
theorem bD.past {n₀:Nat} {S:List Bs} {nd mp:Bs→Nat} {idf:Bs→Int} (h:bD w n₀ S nd mp idf) (hb:w.heap[b]? =some (.cells c e fz)) (t:aG b w w') (n1:mo≠e):bD w' n₀ S nd mp idf:=by
 refine⟨h.root,h.nodup,h.closed,h.base,fun u hu=>eu hb t (h.node u hu) n1,fun u hu=>(h.map u hu).same (t.block _ (h.map u hu).lt ?_),h.ndInj,h.mpInj,h.off⟩;intro e0;obtain⟨es,k,hm,_⟩:=h.map u hu;rw [e0,hb]at hm;cases hm
theorem d_.past {m v g:Nat} {s:aq} {T:List aM} (h:d_ w m v g s T) (hb:w.heap[b]? =some (.cells c xf fz)) (hc:∀v∈c,¬gS v) (t:aG b w w'):d_ w' m v g s T:=by
 obtain⟨r,n1,S,nd,mp,h⟩:=h;obtain⟨n,hn⟩:=h.root;exact⟨r,n1,S,nd,mp,eu hb t h.blk (by decide),h.voc.past hb hc t (by decide) (by decide) (by decide) (by decide) (by decide),h.grid.by hb t (by decide) (by decide) (by decide) (by decide),h.trie.past hb t (by decide),⟨n,eu hb t hn (by decide)⟩,h.mem,h.few,h.ok,h.vok,h.asc⟩
end
structure wz (w:World) (m g:Nat) (r:jz) (s:aq) (T:List aM):Prop where
 mask:∃v,d_ w m v g s T
 rv:fb w r s T
 few:s.specials.length≤6
 rise:(bc s T).Pairwise (·< ·)
theorem wz.on {w w':World} {m g:Nat} {r:jz} {s:aq} {T:List aM} (h:wz w m g r s T) (hb:Below w.heap.size w w'):wz w' m g r s T:=by
 obtain⟨v,hv⟩:=h.mask;exact⟨⟨v,hv.on hb⟩,h.rv.on hb,h.few,h.rise⟩
set_option maxHeartbeats 1000000 in
theorem t' (w:World) (y:z_) (ls:List Int) (cs:List (Int×Int×Int)) (js:List (Int×Int)) (xs:List (Int×Bs)) (h:sI w y ls cs js xs):
  CP 13 #[y.v] w fun e w'=>∃m g r s T,e= .returned (.tuple #[.pointer (some ⟨m,0,none⟩),.pointer (some ⟨g,0,none⟩),r.v])∧wz w' m g r s T∧Below w.heap.size w w':=by
 let R:Value→World→Prop:=fun u w'=>∃m g r s T,u= .tuple #[.pointer (some ⟨m,0,none⟩),.pointer (some ⟨g,0,none⟩),r.v]∧wz w' m g r s T∧Below w.heap.size w w';refine aN (yI y.l.a y.l.n y.l.c y.c.a y.c.n y.c.c y.j.a y.j.n y.j.c y.x.a y.x.n y.x.c w R ?_) (by rintro v w' ⟨m,g,r,s,T,rfl,h⟩;exact⟨m,g,r,s,T,rfl,h⟩);intro w1 hw1 w2 hw2;have hb1:Below w.heap.size w w1:=by subst hw1;exact ai _ _
 have b2:Below w1.heap.size w1 w2:=by subst hw2;exact ai _ _
 have hb2:=ae hb1 b2;have l2:w2.heap[w.heap.size]? =some (.cells y.cells Gq (0,0)):=aj b2 (by subst hw1;exact am _ _);have z2:w2.heap[w1.heap.size]? =some (.cells zK.cells xf (0,0)):=by subst hw2;exact am _ _
 have lt1:w.heap.size<w1.heap.size:=by subst hw1;rw [ay];omega
 refine⟨_,_,_,_,_,_,_,_,_,_,_,_,Gy l2,?_⟩;refine(yB w2 y ls cs js xs (h.on hb2)).mono ?_;rintro e w3 ⟨u,rfl,v,r,s,T,rfl,hB3,hv,b3⟩;have hb3:=ae hb2 b3;refine⟨_,_,_,_,_,_,_,_,_,_,_,_,_,_,_,_,rfl,?_⟩;intro w4 hw4;refine aQ (nF zK) (nF r) rfl (iA r) w4 hw4 ?_;intro w5 h5 hz5 b5;have hB:=hB3.on b5;have hb5:=ae hb3 b5;have z5:=aj (ae b3 b5) z2;have hz2:=hb2.size;obtain⟨hl,hsq⟩:=Bn hB;have hrise:(bc s T).Pairwise (·< ·):=iV hB.asc (by
  obtain⟨w0',x,tp,bp,mp,d,l,uses,hR⟩:=hB.voc;exact hR.now.ids)
 refine(lh w5 v s T hB.voc hB.asc 1048576).mono ?_;rintro e w6 ⟨u,rfl,hV6,t6,hu⟩;rw [if_neg (by omega)]at hu;obtain⟨g,rfl,hG,hg⟩:=hu;have hvl:w2.heap.size≤v:=hv;have lt2:w1.heap.size<w2.heap.size:=(Array.getElem?_eq_some_iff.1 z2).1;have b56:Below w2.heap.size w5 w6:=t6.below hvl (ae b3 b5).size;have hb6:Below w.heap.size w w6:=hb5.trans (b56.mono hz2);have z6:w6.heap[w1.heap.size]? =some (.cells zK.cells xf (0,0)):=(b56.block _ lt2).trans z5;have h6:=t6.held (by have:=hB3.voc.lt;omega) h5;have hR6:=hB.rv w6 t6;refine⟨_,_,rfl,(k_ w6 v g s T hV6 hG (by omega) hB.now.vok hB.asc).mono ?_⟩;rintro e w7 ⟨m,rfl,hM,hm,b7⟩;refine⟨_,_,rfl,ac.no rfl (ac.no rfl ?_)⟩;intro w8 hw8;have b8:Below w7.heap.size w7 w8:=by subst hw8;exact aJ w7
 have b68:=ae b7 b8;have z8:=aj b68 z6;refine⟨_,_,_,_,_,_,_,_,_,_,_,_,_,_,_,fY (x:=r) (aj b68 h6),?_⟩;refine aY z8 (nF r) rfl (iA r) ?_;intro w9 h9 hs9 hz9 hB9;have hb9:Below w.heap.size w w9:=hB9 _ _ (Nat.le_of_lt lt1) (ae hb6 b68);have h0:=hB9 0 w8 (Nat.zero_le _) (Below.refl _ _);have t9:aG w1.heap.size w8 w9:=⟨h0.os,h0.tape,h0.output,by omega,fun k _ hk=>hs9 k hk⟩;exact⟨_,_,_,_,_,_,_,_,_,_,_,_,_,_,_,fY (x:=r) h9,m,g,r,s,T,rfl,⟨⟨v,(hM.on b8).past z8 (jm zK) t9⟩,(hR6.on b68).past z8 (jm zK) (fun j _ hj=>hs9 j hj) (Nat.le_of_eq hz9.symm),hB.few,hrise⟩,hb9⟩
theorem D6:((bc qc rM).filter (dL qc rM [97])).length=256:=by decide+kernel
theorem D7:((eH rM [98]).filter (dL qc rM [97])).length=0:=by decide+kernel
theorem Gz:gw qc rM [97]= -1:=by decide+kernel
theorem BF:cX qc rM 97=true∧(aE qc rM).Canon [97]:=by decide+kernel
theorem vD (hok:eU rM) {n k:Int} (h:fC qc rM [97] n k):n=1∧k=0:=by
 rcases h with⟨h1,_⟩ |⟨_,o,hF,⟨j,rfl,_⟩ |⟨_,rfl,rfl⟩⟩
 ·rw [Gz]at h1;omega
 ·obtain⟨_,hj,hn⟩:=hF;have hj0:j=0:=by simpa using hj
  subst hj0;exact absurd ⟨(dR hok 97).1 BF.1,BF.2⟩ hn
 ·exact⟨rfl,rfl⟩
theorem lj (w:World):CP 12 #[] w fun e w'=>e= .returned (.bool true)∧Below w.heap.size w w':=by
 refine aN (yP w (fun u w'=>u= .bool true∧Below w.heap.size w w') ?_) (by rintro v w' ⟨rfl,h⟩;exact⟨rfl,h⟩);intro w1 hw1;have hb1:Below w.heap.size w w1:=by subst hw1;exact ai _ _
 refine(kb w1 _ qc (AO w w1 hw1)).mono ?_;rintro e w2 ⟨u,rfl,hb2,hp⟩;rw [if_pos CH,C9]at hp;obtain⟨v,rfl,hV,hv⟩:=hp;have hb12:=ae hb1 hb2;have hz1:=hb1.size;have hvok:(aE qc rM).Ok:=by
  obtain⟨w0,x,tp,bp,mp,d,l,uses,hR⟩:=hV;exact ma hR.now
 have hok:eU rM:=by
  obtain⟨w0,x,tp,bp,mp,d,l,uses,hR⟩:=hV;exact hR.now.ok
 refine⟨_,_,_,rfl,?_⟩;refine(lh w2 v qc rM hV List.Pairwise.nil 1048576).mono ?_;rintro e w3 ⟨u,rfl,hV3,t3,hu⟩;rw [zu,if_neg (by decide)]at hu;obtain⟨g,rfl,hG,hg⟩:=hu;have hb3:Below w.heap.size w w3:=hb12.trans (t3.below (by omega) hb12.size);have hn:(bc qc rM).length≤1032:=by rw [zu];decide
 refine⟨_,_,rfl,(k_ w3 v g qc rM hV3 hG hn hvok List.Pairwise.nil).mono ?_⟩;rintro e w4 ⟨m,rfl,hM,hm,b4⟩;have hb4:=ae hb3 b4;refine⟨_,_,rfl,?_⟩;intro w5 hw5;have b5:Below w4.heap.size w4 w5:=by subst hw5;exact ai _ _
 have hb5:=ae hb4 b5;refine Calls.mono (show Calls _ _ #[_,.slice (some (nb w4)) 1 1] w5 _ from gN w5 m v g qc rM (hM.on b5) (some (nb w4)) 1 [97] (Cn w4 w5 [97] _ rfl hw5) (by decide)) ?_;rintro e w6 ⟨l,n,k,rfl,hR,_,hl,b6⟩;obtain⟨rfl,rfl⟩:=vD hok hR;have hln:l.n=256:=((Rw.of_own (hl rfl) (fun _=>rfl) (by decide)).2).trans D6;have hb6:=ae hb5 b6;refine⟨_,_,_,_,_,rfl,?_⟩;intro w7 hw7;have b7:Below w6.heap.size w6 w7:=by subst hw7;exact ai _ _
 have hb7:=ae hb6 b7;refine Calls.mono (show Calls _ _ #[_,.string (str [98]),.slice (some (nb w6)) 1 1] w7 _ from jT w7 m v g qc rM (((hM.on b5).on b6).on b7) [98] (by decide) (some (nb w6)) 1 [97] (Cn w6 w7 [97] _ rfl hw7) (by decide)) ?_;rintro e w8 ⟨l2,n2,k2,rfl,hR2,_,hl2,b8⟩;obtain⟨rfl,rfl⟩:=vD hok hR2;have hln2:l2.n=0:=((Rw.of_own (hl2 rfl) (fun _=>rfl) (by decide)).2).trans D7;exact⟨_,_,_,_,_,rfl,ac.yes rfl (ac.yes (by rw [hln];rfl) (ac.yes rfl (ac.yes rfl (ac.yes (by rw [hln2];rfl) ⟨rfl,ae hb7 b8⟩))))⟩
theorem kJ (w:World) (A:Option Addr) (C:Nat) (xs:List Int) (hr:Rw av 1 w A xs) (hl:xs.length≤1000000) (n:Int):
  CP 23 #[.slice A xs.length C,.int .i64 n] w fun e w'=>e= .returned (.bool (decide (n∈xs)))∧w'=w:=by
 refine aP (yg A xs.length C n w) ?_;intro I hI;have key:=aT (α:=Unit) xs.length (fun i _=>∀j (hj:j<xs.length),j<i→xs[j]≠n) (fun i _=>∀y4,I [.int .i64 (i:Int),.bool y4] w) () (fun j _ hj=>absurd hj (Nat.not_lt_zero j)) ?_ ?_
 ·exact key _
 ·rintro i hi ih ⟨⟩ hin y4;obtain⟨p,hp,c0⟩:=ba hr hi rfl;refine hI _ y4 w (ac.yes (decide_eq_true (by omega)) (ag.mk p hp ⟨by omega,by omega,_,c0,ac.mk (fun h=>⟨?_,rfl⟩) fun h=>?_⟩))
  ·have h:xs[i]=n:=by simpa using h
   rw [decide_eq_true (by rw [←h];exact List.getElem_mem hi)]
  ·have h:¬xs[i]=n:=by simpa using h
   refine Ar.nat (i+1) rfl (by omega) (ih () (fun j hj hji=>?_) y4);by_cases e:j=i
   ·subst e;exact h
   ·exact hin j hj (by omega)
 ·rintro⟨⟩ hin y4;refine hI _ y4 w (ac.no (decide_eq_false (by omega)) ⟨?_,rfl⟩);rw [decide_eq_false fun hm=>?_];obtain⟨j,hj,e⟩:=List.getElem_of_mem hm;exact hin j hj hj e
theorem za (w:World) (x:jz) (s:aq) (T:List aM) (h:fb w x s T) (A:Option Addr) (C:Nat) (ids:List Int) (hr:Rw av 1 w A ids) (hl:ids.length≤1000000) (hh:∀t∈ids,(aE s T).Has t) (id:Int) (hid:(aE s T).Has id):
  CP 22 #[x.v,.slice A ids.length C,.int .i64 id] w fun e w'=>e= .returned (.bool (dL s T ids id))∧Below w.heap.size w w':=by
 refine aP (xB x.t.b.a x.t.b.n x.t.b.c x.t.m.a x.t.m.n x.t.m.c x.b.b.a x.b.b.n x.b.b.c x.b.m.a x.b.m.n x.b.m.c x.sp.a x.sp.n x.sp.c A ids.length C id w) ?_;intro w1 hw1;have b1:Below w.heap.size w w1:=by subst hw1;exact ai _ _
 have l1:w1.heap[w.heap.size]? =some (.cells x.cells xf (0,0)):=by subst hw1;exact am _ _
 have hok:=h.ok;intro J hJ;have go:∀(f:Sl) (q:World) (pre:List Int),pre.length≤1→(∀t∈pre,(aE s T).Has t)→dL s T ids id=decide ((aE s T).Canon (pre++ [id]))→q.ownsRow w1.heap.size bk 1 f.v f.n (pre.flatMap av)→Below w1.heap.size w1 q→J [f.v] q:=by
  intro f q pre hp hph he ho hq;have hfn:f.n=pre.length:=(Rw.of_own ho (fun _=>rfl) (by decide)).2;refine hJ f.a f.n f.c q ?_;intro w3 hw3;have b3:Below q.heap.size q w3:=by subst hw3;exact aJ q
  have hq3:=ae hq b3;refine⟨_,_,_,_,_,_,_,_,_,_,_,_,_,_,_,fY (x:=x) (aj hq3 l1),?_⟩;intro w4 hw4;have b4:Below w3.heap.size w3 w4:=by subst hw4;exact ai _ _
  have hq4:=ae hq3 b4;obtain⟨f',w5,e1,e2,e3,e4,_⟩:=cL.push (aF ho b3) id hw4 rfl hq3.size (by omega) (by decide);have hq5:Below w1.heap.size w1 w5:=e4 _ hq3;obtain⟨hrow,hn⟩:=Rw.of_own e3 (fun _=>rfl) (by decide);refine⟨fY (x:=x) (aj hq4 l1),f'.a,f'.n,f'.c,w5,e2,fY (x:=x) (aj hq5 l1),?_⟩;have hb5:=ae b1 hq5;have hcan:=jV w5 x s T (h.on hb5) f'.a f'.c (pre++ [id]) hrow (by rw [List.length_append];simp;omega) (fun t ht=>by
   rcases List.mem_append.1 ht with ht |ht
   ·exact hph t ht
   ·rw [List.mem_singleton.1 ht];exact hid)
  rw [←hn]at hcan;refine hcan.mono ?_;rintro e w6 ⟨rfl,b6⟩;exact⟨_,rfl,by rw [he],ae hb5 b6⟩
 refine ac.mk (fun h0=>?_) fun h0=>?_
 ·have h0:=of_decide_eq_true h0;have hlt:ids.length-1<ids.length:=by omega
  obtain⟨p,hp,c0⟩:=ba (hr.on b1) hlt rfl;refine Ar.nat (ids.length-1) (by omega) (by omega) (ag.mk p hp ⟨by omega,by omega,_,c0,?_⟩);intro w7 hw7;obtain⟨f',w8,e1,e2,e3,e4,_⟩:=cL.push (s:=dB) (bX w1 w1.heap.size bk 1 av) ids[ids.length-1] hw7 rfl (Nat.le_refl _) (by show 0≤_;omega) (by decide);rw [List.nil_append]at e3;have hm:(aE s T).Has ids[ids.length-1]:=hh _ (List.getElem_mem hlt);refine⟨f'.a,f'.n,f'.c,w8,e2,go f' w8 [ids[ids.length-1]] (Nat.le_refl _) (fun t ht=>by rw [List.mem_singleton.1 ht];exact hm) ?_ e3 (e4 _ (Below.refl _ _))⟩;unfold dL;rw [List.getLast?_eq_getElem?,List.getElem?_eq_getElem hlt];show ow s T _ id=_;unfold ow;rw [(dR hok _).2 hm,(dR hok _).2 hid,Bool.true_and,Bool.true_and];rfl
 ·have h0:=of_decide_eq_false h0;have:ids= []:=List.eq_nil_of_length_eq_zero (by omega);subst this;refine go dB w1 [] (Nat.zero_le _) (fun t ht=>by cases ht) ?_ (bX _ _ _ _ av) (Below.refl _ _);show DP s T id=_;unfold DP;rw [(dR hok _).2 hid,Bool.true_and];rfl
theorem ql (w:World) (x:jz) (s:aq) (T:List aM) (h:fb w x s T) (id:Int) (t:Bs):
  CP 24 #[x.v,.int .i64 id,.string (str t)] w fun e w'=>e= .returned (.bool (decide (id∈eH T t)))∧Below w.heap.size w w':=by
 refine aN (y_ x.t.b.a x.t.b.n x.t.b.c x.t.m.a x.t.m.n x.t.m.c x.b.b.a x.b.b.n x.b.b.c x.b.m.a x.b.m.n x.b.m.c x.sp.a x.sp.n x.sp.c id (str t) w (fun u w'=>u= .bool (decide (id∈eH T t))∧Below w.heap.size w w') ?_) (by rintro v w' ⟨rfl,h⟩;exact⟨rfl,h⟩);intro w1 hw1;have hb1:Below w.heap.size w w1:=by subst hw1;exact ai _ _
 have l1:w1.heap[w.heap.size]? =some (.cells x.cells xf (0,0)):=by subst hw1;exact am _ _
 refine⟨_,_,_,_,_,_,sJ l1 0 rfl rfl,?_⟩;refine(gl w1 x.t T (h.t.on hb1) id).mono ?_;rintro e w2 ⟨rfl,b2⟩;have hb2:=ae hb1 b2;refine⟨_,rfl,ac.mk (fun h0=>⟨?_,hb2⟩) fun h0=>?_⟩
 ·have h0:¬aZ T id:=by simpa using h0
  rw [decide_eq_false fun hm=>h0 (ix.1 hm).1]
 ·have h0:aZ T id:=by simpa using h0
  obtain⟨i1,i2⟩:=h0;have htn:=h.t.n1;have hlt:id.toNat< (T.map (·.1)).length:=by rw [List.length_map];omega
  obtain⟨a,ha,c0⟩:=ba (h.t.r1.on hb2) hlt rfl;have hbk:aK T id=(T.map (·.1))[id.toNat]:=by
   unfold aK;rw [List.getElem?_eq_getElem (by omega),List.getElem_map];rfl
  obtain⟨u,hu⟩:∃u,u=(T.map (·.1))[id.toNat]:=⟨_,rfl⟩;rw [←hu]at c0 hbk;refine⟨_,_,_,by rw [Addr.add_add,af _ _ (aj b2 l1)];rfl,ag.mk a ha ⟨i1,by omega,_,c0,_,_,DL _ _ _ _ _,?_⟩⟩;intro w4 hw4;have b4:Below w2.heap.size w2 w4:=by subst hw4;exact aJ w2
  obtain⟨k,hk⟩:∃k:Nat,k=if u.length<t.length then u.length else t.length:=⟨_,rfl⟩
  have hmin:(if((str u).size:Int) < ((str t).size:Int)then((str u).size:Int)else((str t).size:Int))=(k:Int):=by
   rw [aH,aH,hk];split<;>split<;>omega
  rw [hmin];have hk1:k≤t.length∧k≤u.length∧(k=t.length∨k=u.length):=by
   rw [hk];split<;>omega
  refine⟨by omega,by omega,by rw [aH];omega,by omega,by omega,by rw [aH];omega,?_,ae hb2 b4⟩;rw [gp,gp,EF];congr 1;rw [decide_eq_decide,ix,hbk];rw [show((k:Nat):Int).toNat- (0:Int).toNat=k by omega,show(0:Int).toNat=0 from rfl,List.drop_zero,List.drop_zero];constructor
  ·intro e;refine⟨⟨i1,i2⟩,?_⟩;rcases hk1.2.2 with e1 |e1
   ·left;rw [e1,List.take_length]at e;rw [e];exact List.take_prefix _ _
   ·right;rw [e1,List.take_length]at e;rw [←e];exact List.take_prefix _ _
  ·rintro⟨_,hp |hp⟩
   ·have hle:=hp.length_le;have e1:k=t.length:=by omega
    rw [e1,List.take_length];exact List.prefix_iff_eq_take.1 hp
   ·have hle:=hp.length_le;have e1:k=u.length:=by omega
    rw [e1,List.take_length];exact(List.prefix_iff_eq_take.1 hp).symm
theorem Ak {s:aq} {T:List aM} {ids:List Int} {n k:Int} (h:fC s T ids n k) (hb:0≤gw s T ids):n=gw s T ids∧k=4:=by
 rcases h with⟨_,h1,h2⟩ |⟨h1,_⟩
 ·exact⟨h1,h2⟩
 ·omega
theorem AM {s:aq} {T:List aM} {ids:List Int} {n k:Int} (h:fC s T ids n k) {o:Option Nat} (hF:ki (aE s T) ids o) (hb:gw s T ids<0):(∃j:Nat,o=some j∧n=j∧k=11)∨(o=none∧n=ids.length∧k=0):=by
 rcases h with⟨h1,_⟩ |⟨_,o',h2,h3⟩
 ·omega
 ·have:=jN hF h2;subst this;exact h3
theorem yD {V:Voc} {ids:List Int} (h:ki V ids none):∀t∈ids,V.Has t:=by
 intro t ht;obtain⟨j,hj,rfl⟩:=List.getElem_of_mem ht;exact(h j hj).1
theorem pt (n:Nat) (p:Nat→Bool) {i:Nat} (hi:i<n) (k:Nat):wordAt n (fun j=>decide (j=i)||p j) k=if k=i/64 then wordAt n p k|||2^(i%64)else wordAt n p k:=by
 apply Nat.eq_of_testBit_eq;intro j;unfold wordAt;by_cases hk:k=i/64
 ·rw [if_pos hk,Nat.testBit_or,cn,cn,Nat.testBit_two_pow];by_cases hj:j<64
  ·by_cases e:i%64=j
   ·have:64*k+j=i:=by omega
    simp [hj,e,this,hi]
   ·have hne:64*k+j≠i:=by omega
    simp [hj,e,hne]
  ·have:i%64≠j:=by omega
   simp [hj,this]
 ·rw [if_neg hk,cn,cn];by_cases hj:j<64
  ·have hne:64*k+j≠i:=by omega
   simp [hj,hne]
  ·simp [hj]
theorem vI (n:Nat) (p:Nat→Bool) {i:Nat} (hi:i<n):aS n (fun j=>decide (j=i)||p j)=(aS n p).set (i/64) (((wordAt n p (i/64)|||2^(i%64):Nat)):Int):=by
 apply List.ext_getElem
 ·rw [List.length_set,bo,bo]
 ·intro k h1 h2;rw [List.getElem_set];rw [bo]at h1;by_cases e:i/64=k
  ·rw [if_pos e];simp only [aS,List.getElem_map,List.getElem_range];rw [pt n p hi,if_pos e.symm,e]
  ·rw [if_neg e];simp only [aS,List.getElem_map,List.getElem_range];rw [pt n p hi,if_neg (fun h=>e h.symm)]
abbrev BV:TypeId:=47
theorem Eo:Tryz.prog.underlying BV=some (.slice eZ):=by kernel_rfl
theorem s_ (w:World) (n:Nat) (hn:n≤1000000):(Instr.makeSlice BV (.int .i64 n) (.int .i64 n)).run Tryz.prog w= .ok (.slice (some (nb w)) n n) (w.alloc (.cells (Array.replicate n (.int .u64 0)) eZ)):=by
 obtain⟨i,hi,hz,hs,hb⟩:=info_parts rZ;have:=Go.run_make (P:=Tryz.prog) w BV eZ i (.int .u64 0) Eo hi hz .i64 .i64 (n:Int) (n:Int) (by omega) (Int.le_refl _) (by rw [hb];omega) (by omega);rw [this];congr 3;rw [hs];apply Array.ext
 ·rw [size_madeCells];simp
 ·intro j h1 h2;simp only [madeCells,Array.getElem_map,Array.getElem_range,Array.getElem_replicate];show(#[Value.int .u64 0]:Array Value)[j%1]! =_;rw [Nat.mod_one];rfl
abbrev GD (s:aq) (T:List aM) (ids:List Int) (j:Nat):Bool:=dL s T ids ((bc s T).getD j 0)
theorem wB {s:aq} {T:List aM} {ids:List Int} {id:Int} (h:dL s T ids id=true):cX s T id=true:=by
 unfold dL at h;cases hx:ids.getLast? with
 |none=>
  rw [hx]at h;have h:DP s T id=true:=h;unfold DP at h;rw [Bool.and_eq_true]at h;exact h.1
 |some a=>
  rw [hx]at h;have h:ow s T a id=true:=h;unfold ow at h;rw [Bool.and_eq_true,Bool.and_eq_true]at h;exact h.1.2
set_option maxHeartbeats 1000000 in
theorem qz (w:World) (m v g:Nat) (s:aq) (T:List aM) (h:d_ w m v g s T) (hrise:(bc s T).Pairwise (·< ·)) (A:Option Addr) (C:Nat) (ids:List Int) (hr:Rw av 1 w A ids) (hl:ids.length≤10000):
  CP 16 #[.pointer (some ⟨m,0,none⟩),.slice A ids.length C] w fun e w'=>∃(l:Sl) (n k:Int),e= .returned (.tuple #[l.v,.int .i64 n,.int .i64 k])∧fC s T ids n k∧(k≠0→l=dB)∧(k=0→w'.ownsRow w.heap.size eZ 1 l.v l.n ((aS (bc s T).length (GD s T ids)).flatMap dq))∧Below w.heap.size w w':=by
 refine aP (yv (some ⟨m,0,none⟩) A ids.length C w) ?_;refine(gN w m v g s T h A C ids hr hl).mono ?_;rintro e w1 ⟨l,n,k,rfl,hR,_,hown,b1⟩;refine⟨l.a,l.n,l.c,_,_,rfl,ac.mk (fun hk=>?_) fun hk=>?_⟩
 ·have hk:k≠0:=by simpa using hk
  exact⟨dB,_,_,rfl,hR,fun _=>rfl,fun h=>absurd h hk,b1⟩
 have hk:k=0:=by simpa using hk
 subst hk;have ho1:=hown rfl;obtain⟨r,n1,S,nd,mp,hM⟩:=h;have hM1:=hM.on b1;have hfew:=hM.few;have hz1:=b1.size;obtain⟨N,hN⟩:∃N,N=(bc s T).length:=⟨_,rfl⟩;obtain⟨L,hL⟩:∃L,L=(bc s T).filter (dL s T ids):=⟨_,rfl⟩;rw [←hL]at ho1;rw [←hN]at hfew;obtain⟨hlr,hln⟩:=Rw.of_own ho1 (fun _=>rfl) (by decide);have hln:l.n=L.length:=hln;have hLl:L.length≤N:=by rw [hL,hN];exact List.length_filter_le _ _
 have inL:∀x∈L,x∈bc s T∧dL s T ids x=true:=fun x hx=>by
  rw [hL]at hx;exact List.mem_filter.1 hx
 refine ag.mk _ rfl ⟨_,af _ _ hM1.blk 2,(iu w1 g s T hM1.grid).mono ?_⟩;rintro e w2 ⟨rfl,hw2⟩;subst w2;rw [←hN];refine⟨_,rfl,Ar.nat (N+64) (by omega) (by omega) (Ar.nat (N+63) (by omega) (by omega) ⟨by decide,?_⟩)⟩;rw [pU (N+63) (by omega)];obtain⟨M,hMm⟩:∃M,M=(N+63)/64:=⟨_,rfl⟩;rw [←hMm];refine⟨_,_,_,_,s_ w1 M (by omega),?_⟩;obtain⟨P,hP⟩:∃P:Nat→Nat→Bool,P=fun i j=>decide ((bc s T).getD j 0∈L.take i):=⟨_,rfl⟩;have ho:(w1.alloc (.cells (Array.replicate M (.int .u64 0)) eZ)).ownsRow w1.heap.size eZ 1 (.slice (some (nb w1)) M M) M ((aS N (P 0)).flatMap dq):=by
  have:=tg (w:=w1) (e:=eZ) (n:=M) (List.replicate M (Value.int .u64 0)) (by simp) (by omega) (Nat.le_refl w1.heap.size);rw [show aS N (P 0)=aS N (fun j=>P 0 j&&decide (j<0))from kz.2 fun i _=>by rw [hP];simp,lL, ←hMm];have e:(List.replicate M (0:Int)).flatMap dq=List.replicate M (Value.int .u64 0):=by
   clear this hMm;induction M with
   |zero=>rfl
   |succ M ih=>rw [List.replicate_succ,List.flatMap_cons,ih,List.replicate_succ];rfl
  rw [e];simpa using this
 have b3:=ai w1 (.cells (Array.replicate M (.int .u64 0)) eZ);intro I hI;have key:=aT (α:=World) L.length (fun i q=>q.ownsRow w1.heap.size eZ 1 (.slice (some (nb w1)) M M) M ((aS N (P i)).flatMap dq)∧Below w1.heap.size w1 q) (fun i q=>I [.int .i64 (i:Int)] q) _ ⟨ho,b3⟩ ?_ ?_
 ·exact key
 ·rintro i hi ih q ⟨hoq,hq⟩;obtain⟨p,hp,c0⟩:=ba (hlr.on hq) hi rfl;have hMq:=hM1.on hq;have hmem:L[i]∈L:=List.getElem_mem hi;have hmem2:L[i]∈bc s T∧dL s T ids L[i]=true:=inL _ hmem;have hx:∃k,yW s T L[i]=some k:=Option.isSome_iff_exists.1 (by rw [jq];exact(gR s T _).1 hmem2.1);obtain⟨k,hk⟩:=hx;obtain⟨hk1,hk2,_⟩:=hE hk;rw [←hN]at hk1;refine hI _ q (ac.yes (decide_eq_true (by omega)) (ag.mk p hp ⟨by omega,by omega,_,c0,ag.mk _ rfl ⟨_,af _ _ hMq.blk 2,(fk q g s T hMq.grid L[i]).mono ?_⟩⟩));rintro e w5 ⟨rfl,hw5⟩;subst w5;rw [hk];refine⟨_,_,rfl,?_⟩;intro w6 hw6;have b6:Below q.heap.size q w6:=by subst hw6;exact aJ q
  have ho6:=aF hoq b6;have hq6:=ae hq b6;have hls:=cJ.of_own (l:=⟨some (nb w1),M,M⟩) qY ho6;have hki:k/64< (aS N (P i)).length:=by rw [bo];omega
  have hkM:k/64<M:=by rw [bo]at hki;omega
  obtain⟨a,ha,c6⟩:=ba hls.r hki rfl;have hval:(aS N (P i))[k/64]=((wordAt N (P i) (k/64):Nat):Int):=by simp [aS]
  rw [hval]at c6;have em:(((some k:Option Nat).getD 0:Nat):Int)=(k:Int):=rfl;rw [em,pU k (by omega),zL];refine⟨by decide,ag.mk a ha ⟨by omega,by omega,_,c6,by decide,by omega,ag.mk a ha ⟨by omega,by omega,?_⟩⟩⟩;rw [zv _ _ (jD _ _ _) (Nat.mod_lt _ (by decide))];have hst:=lB (enc:=dq) (fun _=>rfl) (by decide) (fun y u hu=>by rw [List.mem_singleton.1 hu];rfl) (l:=⟨some (nb w1),M,M⟩) ho6 (by rw [bo, ←hMm]) ha (k/64) hki (((wordAt N (P i) (k/64)|||2^(k%64):Nat)):Int) (k:=fun w7=>Ar .i64 ((i:Int)+1) fun n_12=>I [Value.int .i64 n_12] w7) (fun w7 h7 hs7 hz7 hB7=>by
   refine Ar.nat (i+1) rfl (by omega) (ih w7 ⟨?_,hB7 _ _ (Nat.le_refl _) hq6⟩);have e:aS N (P (i+1))=aS N (fun j=>decide (j=k)||P i j):=by
    refine kz.2 fun j hj=>?_;have ek:L.take (i+1)=L.take i++ [L[i]]:=by
     rw [List.take_add_one,List.getElem?_eq_getElem hi];rfl
    rw [hP];show decide (_∈L.take (i+1))=(decide (j=k)||decide (_∈L.take i));rw [ek];have hjk:(bc s T).getD j 0=L[i]↔j=k:=by
     rw [hN]at hj hk1;rw [←hk2,eS hj,eS hk1];constructor
     ·intro e;rcases Nat.lt_trichotomy j k with h |h |h
      ·have:=List.pairwise_iff_getElem.1 hrise j k hj hk1 h;omega
      ·exact h
      ·have:=List.pairwise_iff_getElem.1 hrise k j hk1 hj h;omega
     ·rintro rfl;rfl
    by_cases e1:j=k
    ·have e2:=hjk.2 e1;rw [e2,decide_eq_true e1,Bool.true_or];exact decide_eq_true (List.mem_append_right _ (List.mem_singleton.2 rfl))
    ·have e2:(bc s T).getD j 0≠L[i]:=fun h=>e1 (hjk.1 h);rw [decide_eq_false e1,Bool.false_or,decide_eq_decide,List.mem_append,List.mem_singleton];exact⟨fun h=>h.elim id (fun h=>absurd h e2),.inl⟩
   rw [e,vI N (P i) hk1];exact h7)
  exact jt hst
 ·rintro q ⟨hoq,hq⟩;refine hI _ q (ac.no (decide_eq_false (by omega)) ⟨⟨some (nb w1),M,M⟩,_,_,rfl,hR,fun h=>absurd rfl h,fun _=>?_,ae b1 hq⟩);have e:aS N (P L.length)=aS N (GD s T ids):=by
   refine kz.2 fun j hj=>?_;rw [hP];show decide (_∈L.take L.length)=_;rw [List.take_length,hL];have hj2:(bc s T).getD j 0∈bc s T:=by
    rw [hN]at hj;rw [eS hj];exact List.getElem_mem hj
   by_cases hm:dL s T ids ((bc s T).getD j 0)=true
   ·rw [decide_eq_true (List.mem_filter.2 ⟨hj2,hm⟩)];exact hm.symm
   ·rw [decide_eq_false fun h=>hm (List.mem_filter.1 h).2];exact(Bool.eq_false_iff.2 hm).symm
  rw [e]at hoq;exact cP hoq hz1
theorem jQ {G:List Int} (h:G.Pairwise (·< ·)) (p:Int→Bool):(G.filter p).Pairwise (·< ·):=h.filter p
set_option maxHeartbeats 4000000 in
theorem qk (w:World) (y:z_) (ls:List Int) (cs:List (Int×Int×Int)) (js:List (Int×Int)) (xs:List (Int×Bs)) (h:sI w y ls cs js xs) (A:Option Addr) (C:Nat) (ids:List Int) (hr:Rw av 1 w A ids) (hC:ids.length≤C) (A2:Option Addr) (C2:Nat) (sm:List Int) (hr2:Rw av 1 w A2 sm) (t:Bs):
  CP 3 #[y.v,.slice A ids.length C,.slice A2 sm.length C2,.string (str t)] w fun e w'=>e= .returned (.bool true)∧Below w.heap.size w w':=by
 refine aN (As y.l.a y.l.n y.l.c y.c.a y.c.n y.c.c y.j.a y.j.n y.j.c y.x.a y.x.n y.x.c A ids.length C A2 sm.length C2 (str t) w (fun u w'=>u= .bool true∧Below w.heap.size w w') ?_) (by rintro v w' ⟨rfl,h⟩;exact⟨rfl,h⟩);intro w1 hw1;have hb1:Below w.heap.size w w1:=by subst hw1;exact ai _ _
 have l1:w1.heap[w.heap.size]? =some (.cells y.cells Gq (0,0)):=by subst hw1;exact am _ _
 refine⟨_,_,_,_,_,_,_,_,_,_,_,_,Gy l1,?_⟩;refine(qr w1 y ls cs js xs (h.on hb1)).mono ?_;rintro e w2 ⟨c0,rfl,b2⟩;have hb2:=ae hb1 b2;have aw:∀ {q:World},Below w.heap.size w q→CP 12 #[] q fun e w'=>∃b:Bool,e= .returned (.bool b)∧(Value.bool b=Value.bool true∧Below w.heap.size w w'):=by
  intro q hq;refine(lj q).mono ?_;rintro e w3 ⟨rfl,b3⟩;exact⟨true,rfl,rfl,ae hq b3⟩
 refine⟨c0,rfl,ac.mk (fun _=>aw hb2) fun _=>ac.mk (fun _=>aw hb2) fun h40=>ac.mk (fun _=>aw hb2) fun h12=>ac.mk (fun _=>aw hb2) fun h70=>?_⟩;have h70:=of_decide_eq_false h70;rw [aH]at h70;have h40:=of_decide_eq_false h40;have h12:=of_decide_eq_false h12;refine(lj w2).mono ?_;rintro e w7 ⟨rfl,b7⟩;have hb7:=ae hb2 b7;refine⟨_,rfl,ac.no rfl ⟨_,_,_,_,_,_,_,_,_,_,_,_,Gy (aj b7 (aj b2 l1)),?_⟩⟩;refine(t' w7 y ls cs js xs (h.on hb7)).mono ?_;rintro e w9 ⟨m,g,r,s,T,rfl,hB9,b9⟩;have hb9:=ae hb7 b9;refine⟨_,_,_,_,_,_,_,_,_,_,_,_,_,_,_,_,_,rfl,?_⟩;intro w10 hw10;refine aQ (nF zK) (nF r) rfl (iA r) w10 hw10 ?_;intro w11 h11 hz11 b11;have hb11:=ae hb9 b11;have hB11:=hB9.on b11;obtain⟨v,hM11⟩:=hB11.mask;have hok:=hB11.rv.ok;have hrise:=hB11.rise;have hfew:(bc s T).length≤1032:=by obtain⟨r,n1,S,nd,mp,hM⟩:=hM11;exact hM.few
 refine ac.no rfl ?_;refine(gN w11 m v g s T hM11 A C ids (hr.on hb11) (by omega)).mono ?_;rintro e w12 ⟨l,n,k,rfl,hR,hl0,hl1,b12⟩;have hb12:=ae hb11 b12;refine⟨l.a,l.n,l.c,_,_,rfl,(jT w12 m v g s T (hM11.on b12) t (by omega) A C ids (hr.on hb12) (by omega)).mono ?_⟩;rintro e w13 ⟨o,n2,k2,rfl,hR2,ho0,ho1,b13⟩;have hb13:=ae hb12 b13;obtain⟨rfl,rfl⟩:=oI hR hR2;refine⟨o.a,o.n,o.c,_,_,rfl,(qz w13 m v g s T ((hM11.on b12).on b13) hrise A C ids (hr.on hb13) (by omega)).mono ?_⟩;rintro e w14 ⟨b,n3,k3,rfl,hR3,hbb0,hbb1,b14⟩;have hb14:=ae hb13 b14;obtain⟨rfl,rfl⟩:=oI hR hR3;have h14:=aj b14 (aj b13 (aj b12 h11));have hB14:=((hB11.on b12).on b13).on b14;refine⟨b.a,b.n,b.c,_,_,rfl,_,_,_,_,_,_,_,_,_,_,_,_,_,_,_,fY h14,?_⟩;refine(wc w14 r s T hB14.rv A C ids (hr.on hb14) (by omega)).mono ?_;rintro e w15 ⟨rfl,b15⟩;have hb15:=ae hb14 b15;have hB15:=hB14.on b15;have h15:=aj b15 h14;refine⟨_,rfl,ac.mk (fun hbad=>?_) fun hbad=>?_⟩
 ·have hbad:=of_decide_eq_true hbad;obtain⟨rfl,rfl⟩:=Ak hR hbad;have e1:=hl0 (by decide);have e2:=ho0 (by decide);have e3:=hbb0 (by decide);subst e1 e2 e3;exact ac.yes rfl (ac.yes (by simp) (ac.yes rfl (ac.yes rfl (ac.yes (by simp) (ac.yes rfl (ac.yes rfl (ac.yes (by simp) ⟨rfl,hb15⟩)))))))
 have hbad:=of_decide_eq_false hbad;refine⟨_,_,_,_,_,_,_,_,_,_,_,_,_,_,_,fY h15,?_⟩;refine(qy w15 r s T hB15.rv A C ids (hr.on hb15) hC (by omega)).mono ?_;rintro e w16 ⟨of,rfl,hF,b16⟩;have hb16:=ae hb15 b16;have hB16:=hB15.on b16;have h16:=aj b16 h15;refine⟨_,rfl,?_⟩;rcases AM hR hF (by omega)with⟨j,rfl,rfl,rfl⟩ |⟨rfl,rfl,rfl⟩
 ·have e1:=hl0 (by decide);have e2:=ho0 (by decide);have e3:=hbb0 (by decide);subst e1 e2 e3;have ej:xp (some j)=(j:Int):=rfl;rw [ej];exact ac.yes (decide_eq_true (by omega)) (ac.yes rfl (ac.yes (by simp) (ac.yes rfl (ac.yes rfl (ac.yes (by simp) (ac.yes rfl (ac.yes rfl (ac.yes (by simp) ⟨rfl,hb16⟩))))))))
 have ej:xp none= -1:=rfl;rw [ej];refine ac.no rfl (ac.no (by simp) (ac.no (by simp) (ac.no (by simp) (ac.no rfl (ac.no rfl (ac.no rfl ?_))))));obtain⟨N,hN⟩:∃N,N=(bc s T).length:=⟨_,rfl⟩;have hG16:nu w16 g s T:=by
  obtain⟨v',hM⟩:=hB16.mask;obtain⟨_,_,_,_,_,hM⟩:=hM;exact hM.grid
 refine(iu w16 g s T hG16).mono ?_;rintro e w17 ⟨rfl,hw17⟩;subst w17;rw [←hN]at hfew⊢;obtain⟨L,hL⟩:∃L,L=(bc s T).filter (dL s T ids):=⟨_,rfl⟩;obtain⟨O,hO⟩:∃O,O=(eH T t).filter (dL s T ids):=⟨_,rfl⟩;have ol:=aF (aF (aF (aF (hl1 rfl) b13) b14) b15) b16;have oo:=aF (aF (aF (ho1 rfl) b14) b15) b16;have ob:=aF (aF (hbb1 rfl) b15) b16;rw [←hL]at ol;rw [←hO]at oo;rw [←hN]at ob;obtain⟨hlr,hln⟩:=Rw.of_own ol (fun _=>rfl) (by decide);obtain⟨hor,hon⟩:=Rw.of_own oo (fun _=>rfl) (by decide);have hbls:=cJ.of_own qY ob;have hln:l.n=L.length:=hln;have hon:o.n=O.length:=hon;have hbn:=hbls.n;rw [bo]at hbn;have hLl:L.length≤1032:=by
  rw [hL];have:=List.length_filter_le (dL s T ids) (bc s T);omega
 have hOl:O.length≤1000:=by
  rw [hO];have h1:=List.length_filter_le (dL s T ids) (eH T t);have h2:=oL hok t;omega
 have hidh:=yD hF;refine⟨_,rfl,Ar.nat (N+63) (by omega) (by omega) ⟨by decide,ac.no (by rw [pU (N+63) (by omega),hbn];simp) ?_⟩⟩;have memL:∀x,x∈L↔x∈bc s T∧dL s T ids x=true:=fun x=>by rw [hL,List.mem_filter]
 have memO:∀x,x∈O↔x∈eH T t∧dL s T ids x=true:=fun x=>by rw [hO,List.mem_filter]
 have riseL:L.Pairwise (·< ·):=by rw [hL];exact jQ hrise _
 have riseO:O.Pairwise (·< ·):=by rw [hO];exact jQ (gJ T t) _
 have subO:∀x∈O,x∈L:=by
  intro x hx;obtain⟨h1,h2⟩:=(memO x).1 hx;exact(memL x).2 ⟨(gR s T x).2 (wB h2),h2⟩
 intro I hI;have key:=aT (α:=World) sm.length (fun _ q=>Below w16.heap.size w16 q) (fun i q=>∀y8,I [.int .i64 (i:Int),.bool y8] q) w16 (Below.refl _ _) ?_ ?_
 ·exact key _
 ·intro i hi ih q hq y8;have hbq:=ae hb16 hq;obtain⟨p,hp,c0'⟩:=ba (hr2.on hbq) hi rfl;obtain⟨x,hx⟩:∃x,x=sm[i]:=⟨_,rfl⟩;rw [←hx]at c0';refine hI _ y8 q (ac.yes (decide_eq_true (by omega)) (ag.mk p hp ⟨by omega,by omega,_,c0',(fk q g s T (hG16.on hq) x).mono ?_⟩));rintro e w19 ⟨rfl,hw19⟩;subst w19;refine⟨_,_,rfl,_,_,_,_,_,_,_,_,_,_,_,_,_,_,_,fY (aj hq h16),?_⟩;have hBq:=hB16.on hq;refine(iv q r s T hBq.rv x).mono ?_;rintro e w20 ⟨rfl,b20⟩;have hq20:=ae hq b20;have hb20:=ae hb16 hq20;have next:∀(z:World),Below w16.heap.size w16 z→Ar .i64 ((i:Int)+1) (fun n_116=>I [Value.int .i64 n_116,Value.bool y8] z):=fun z hz=>Ar.nat (i+1) rfl (by omega) (ih z hz y8);have hasL:∀(z:World),Below w16.heap.size w16 z→CP 23 #[.slice l.a l.n l.c,.int .i64 x] z fun e w'=>e= .returned (.bool (decide (x∈L)))∧w'=z:=by
   intro z hz;rw [hln];exact kJ z l.a l.c L (hlr.on hz) (by omega) x
  have hasO:∀(z:World),Below w16.heap.size w16 z→CP 23 #[.slice o.a o.n o.c,.int .i64 x] z fun e w'=>e= .returned (.bool (decide (x∈O)))∧w'=z:=by
   intro z hz;rw [hon];exact kJ z o.a o.c O (hor.on hz) (by omega) x
  refine⟨_,rfl,ac.mk (fun hh=>?_) fun hh=>?_⟩
  ·-- it is there
   obtain⟨pl,hpl⟩:∃pl,yW s T x=some pl:=Option.isSome_iff_exists.1 (by rw [jq];exact hh);obtain⟨hp1,hp2,_⟩:=hE hpl;rw [←hN]at hp1;have bits:∀(z:World) (b95:Bool),b95=dL s T ids x→Below w16.heap.size w16 z→ac (yW s T x).isSome ((64:Int)≠0∧ag b.a (fun pa=>(0:Int)≤(IntKind.wrap .i64 (Int.tdiv (((yW s T x).getD 0:Nat):Int) 64))∧(IntKind.wrap .i64 (Int.tdiv (((yW s T x).getD 0:Nat):Int) 64)) < ((b.n:Nat):Int)∧
     ∃n:Int,z.cell? (pa.add ((IntKind.wrap .i64 (Int.tdiv (((yW s T x).getD 0:Nat):Int) 64):Int).toNat*1))=some (Value.int .u64 n)∧(64:Int)≠0∧(0:Int)≤(Int.tmod (IntKind.wrap .u64 (((yW s T x).getD 0:Nat):Int)) 64)∧
     ac (!(((IntKind.wrap .u64 ((BitVec.ofInt (IntKind.bits .u64) (Int.fdiv n (2^(min (Int.tmod (IntKind.wrap .u64 (((yW s T x).getD 0:Nat):Int)) 64:Int).toNat (IntKind.bits .u64))))&&&BitVec.ofInt (IntKind.bits .u64) 1).toNat:Int):Int)==1)==b95)) (Value.bool false= .bool true∧Below w.heap.size w z) (Ar .i64 ((i:Int)+1) (fun n_116=>I [Value.int .i64 n_116,Value.bool y8] z)))) (Ar .i64 ((i:Int)+1) (fun n_116=>I [Value.int .i64 n_116,Value.bool y8] z)):=by
    intro z b95 hb95 hz;subst hb95;rw [hpl];refine ac.yes rfl ⟨by decide,?_⟩;have hki:pl/64< (N+63)/64:=by omega
    obtain⟨a2,ha2,_,hc2⟩:=(hbls.r.on hz) _ _ (gm N (GD s T ids) hki);have c3:=hc2 0 _ rfl;rw [au]at c3;have em:(((some pl:Option Nat).getD 0:Nat):Int)=((pl:Nat):Int):=rfl;rw [em,pU pl (by omega),kW pl (by omega),zL];refine ag.mk a2 ha2 ⟨by omega,by omega,_,c3,by decide,by omega,ac.no ?_ (next z hz)⟩;rw [zO _ _ (jD _ _ _) (Nat.mod_lt _ (by decide)),gc _ _ hp1];show(!(dL s T ids ((bc s T).getD pl 0)==dL s T ids x))=false;rw [hp2];simp
   have hin:x∈bc s T:=(gR s T x).2 hh;have eL:decide (x∈L)=dL s T ids x:=by
    by_cases hm:dL s T ids x=true
    ·rw [decide_eq_true ((memL x).2 ⟨hin,hm⟩),hm]
    ·rw [decide_eq_false fun h=>hm ((memL x).1 h).2,Bool.eq_false_iff.2 hm]
   refine⟨_,_,_,_,_,_,_,_,_,_,_,_,_,_,_,fY (aj hq20 h16),?_⟩;refine(za w20 r s T (hB16.on hq20).rv A C ids (hr.on hb20) (by omega) hidh x ((dR hok x).1 hh)).mono ?_;rintro e w21 ⟨rfl,b21⟩;have hq21:=ae hq20 b21;refine⟨_,rfl,(hasL w21 hq21).mono ?_⟩;rintro e w22 ⟨rfl,hw22⟩;subst w22;refine⟨_,rfl,ac.no (by rw [eL];simp) ((hasO w21 hq21).mono ?_)⟩;rintro e w23 ⟨rfl,hw23⟩;subst w23;refine⟨_,rfl,ac.mk (fun hm=>?_) fun hm=>?_⟩
   ·refine⟨_,_,_,_,_,_,_,_,_,_,_,_,_,_,_,fY (aj hq21 h16),?_⟩;refine(ql w21 r s T (hB16.on hq21).rv x t).mono ?_;rintro e w24 ⟨rfl,b24⟩;have hq24:=ae hq21 b24;have eO:decide (x∈O)=decide (x∈eH T t):=decide_eq_decide.2 ((memO x).trans ⟨fun h=>h.1,fun h=>⟨h,hm⟩⟩);exact⟨_,rfl,ac.no (by rw [eO];simp) (bits w24 _ rfl hq24)⟩
   ·have eO:decide (x∈O)=false:=decide_eq_false fun h=>by
     have:=((memO x).1 h).2;rw [hm]at this;cases this
    exact ac.no (by rw [eO];rfl) (bits w21 _ rfl hq21)
  ·-- it is not
   have hnm:¬dL s T ids x=true:=fun h=>by
    rw [wB h]at hh;cases hh
   have eL:decide (x∈L)=false:=decide_eq_false fun h=>hnm ((memL x).1 h).2;have eO:decide (x∈O)=false:=decide_eq_false fun h=>hnm ((memO x).1 h).2;refine(hasL w20 hq20).mono ?_;rintro e w25 ⟨rfl,hw25⟩;subst w25;refine⟨_,rfl,ac.no (by rw [eL];rfl) ((hasO w20 hq20).mono ?_)⟩;rintro e w26 ⟨rfl,hw26⟩;subst w26;refine⟨_,rfl,ac.no (by rw [eO];rfl) (ac.no (by rw [jq];exact hh) (next w20 hq20))⟩
 ·intro q hq y8;refine hI _ y8 q (ac.no (decide_eq_false (by omega)) ?_);intro I2 hI2;have key2:=aT (α:=World) (L.length-1) (fun _ z=>Below w16.heap.size w16 z) (fun i z=>∀y8,I2 [.int .i64 ((i+1:Nat):Int),.bool y8] z) q hq ?_ ?_
  ·exact key2 y8
  ·intro i hi ih z hz y8;refine hI2 _ y8 z (ac.yes (decide_eq_true (by omega)) ?_);intro w28 hw28;have hz28:=ae hz (show Below z.heap.size z w28 by subst hw28;exact aJ z);have i0:i<L.length:=by omega
   have i1:i+1<L.length:=by omega
   obtain⟨p,hp,c1⟩:=ba (hlr.on hz28) i0 rfl;obtain⟨p2,hp2,c2⟩:=ba (hlr.on hz28) i1 rfl;have hlt:=List.pairwise_iff_getElem.1 riseL i (i+1) i0 i1 (by omega);exact Ar.nat i (by omega) (by omega) (ag.mk p hp ⟨by omega,by omega,_,c1,ag.mk p2 hp2 ⟨by omega,by omega,_,c2,ac.no (decide_eq_false (by omega)) (Ar.nat (i+1+1) (by omega) (by omega) (ih w28 hz28 y8))⟩⟩)
  ·intro z hz y8;refine hI2 _ y8 z (ac.no (decide_eq_false (by omega)) ?_);intro I3 hI3;have key3:=aT (α:=World) O.length (fun _ u=>Below w16.heap.size w16 u) (fun i u=>∀y8,I3 [.int .i64 (i:Int),.bool y8] u) z hz ?_ ?_
   ·exact key3 y8
   ·intro i hi ih u hu y8;refine hI3 _ y8 u (ac.yes (decide_eq_true (by omega)) ?_);intro w30 hw30;have hu30:=ae hu (show Below u.heap.size u w30 by subst hw30;exact aJ u);obtain⟨p,hp,c1⟩:=ba (hor.on hu30) hi rfl;have hhas:=kJ w30 l.a l.c L (hlr.on hu30) (by omega) O[i];rw [←hln]at hhas;refine ag.mk p hp ⟨by omega,by omega,_,c1,hhas.mono ?_⟩;rintro e w31 ⟨rfl,hw31⟩;subst w31;have hmem:decide (O[i]∈L)=true:=decide_eq_true (subO _ (List.getElem_mem hi));rw [hmem];refine⟨_,rfl,ac.no rfl (ac.mk (fun h0=>?_) fun h0=>Ar.nat (i+1) rfl (by omega) (ih w30 hu30 y8))⟩;have h0:=of_decide_eq_true h0;have i0:i-1<O.length:=by omega
    obtain⟨p2,hp2,c2⟩:=ba (hor.on hu30) i0 rfl;have hlt:=List.pairwise_iff_getElem.1 riseO (i-1) i i0 hi (by omega);exact Ar.nat (i-1) (by omega) (by omega) (ag.mk p2 hp2 ⟨by omega,by omega,_,c2,ag.mk p hp ⟨by omega,by omega,_,c1,ac.no (decide_eq_false (by omega)) (Ar.nat (i+1) rfl (by omega) (ih w30 hu30 y8))⟩⟩)
   ·intro u hu y8;exact hI3 _ y8 u (ac.no (decide_eq_false (by omega)) ⟨rfl,ae hb16 hu⟩)
theorem xn {H:Type} {enc:TypeId×Value→H} {C:Checked} {os:Os} {f:FuncId} {fn:Func} {s:ChangeSpec}
  (own:ownKnob C.prog.godebug=none) (started:os.Started) (noInit:C.prog.inits.idxOf? f=none) (hfn:C.prog.funcs[f]? =some fn)
  (witness:∃(w:World) (tape:Tape) (i:Input),w.os=os∧(w.forCall tape i).Shaped C.prog∧i.vars= []∧Input.okWide C.prog (w.forCall tape i) .any w.heap.size f i∧
   ((s.pre enc C.prog fn [] false (w.forCall tape i).memory i.args∧True)∧sizedMet enc C.prog fn (OpenSpec.ofChange s) false (w.forCall tape i).memory i.args)∧({}:Assume).holds C.prog (lone (Frame.enter C.prog f i.args .normal) [] (w.forCall tape i)))
  (contract:∀(W:World) (base:Nat) (args:Array Value) (ds gs:List (DataW H)) (before:List MemPlace),
   (∀(j:Nat) t v,fn.params[j]? =some t→args[j]? =some v→Value.okWide C.prog W .any base t v)→
   DataW.Whole enc C.prog fn.params.toList s.vars false W args.toList ds gs before→
   (DataW.weightsEach C.prog (fn.params.toList++s.plain.varTypes C.prog) (ds++gs)).all (·≤reachBytes)=true→
   W.ShapedOpen C.prog→
   Calls C.prog f args W fun e W'=>∃v,e= .returned v∧s.post enc C.prog fn false true false false W args v W'):
  ReturnsInHanded {} C os f .any (fun w args=>s.pre enc C.prog fn [] false w args∧sizedMet enc C.prog fn (OpenSpec.ofChange s) false w args) (s.post enc C.prog fn false true false false):=by
 have witness':∃(w:World) (tape:Tape) (i:Input),w.os=os∧(w.forCall tape i).Shaped C.prog∧i.vars= []∧Input.okWide C.prog (w.forCall tape i) .any w.heap.size f i∧
   (s.pre enc C.prog fn [] false (w.forCall tape i).memory i.args∧sizedMet enc C.prog fn (OpenSpec.ofChange s) false (w.forCall tape i).memory i.args)∧({}:Assume).holds C.prog (lone (Frame.enter C.prog f i.args .normal) [] (w.forCall tape i)):=by
  obtain⟨w,tape,i,h1,h2,h3,h4,⟨⟨h5,_⟩,h6⟩,h7⟩:=witness;exact⟨w,tape,i,h1,h2,h3,h4,⟨h5,h6⟩,h7⟩
 refine returnsInHanded_of_calls own started noInit witness' ?_;intro w tape i _ hshape _ hok hpre _;obtain⟨_,_,_,fn',hfn',_,_,_,_,hval⟩:=hok;obtain rfl:fn'=fn:=Option.some.inj (hfn'.symm.trans hfn);obtain⟨⟨ds,gs,before,hw,_⟩,hz⟩:=hpre;refine(contract (w.forCall tape i) w.heap.size i.args ds gs before hval (DataW.Whole.of_heap (w':=w.forCall tape i) (by rfl) hw) (hz.weights hw) hshape).mono ?_;rintro e W' ⟨v,rfl,hp⟩;exact ChangeSpec.post_blind hp
end Go.Proofs.YtdlcfegnaphclaaGreat.Eng
