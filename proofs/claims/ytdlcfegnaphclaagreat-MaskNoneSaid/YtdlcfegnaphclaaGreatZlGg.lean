/- The grid of a vocabulary, walked by the engine. -/
import Derived.Test.YtdlcfegnaphclaaGreatZlTz
import Derived.Test.YtdlcfegnaphclaaGreatZlRj
import Derived.Test.YtdlcfegnaphclaaGreatZlVc
set_option linter.unusedVariables false
set_option linter.unusedSimpArgs false
set_option maxRecDepth 100000
namespace Go.Proofs.YtdlcfegnaphclaaGreat.Eng
open Go Go.RowKit
theorem xW (w:World) (v:Nat) (s:aq) (T:List aP) (hV:aY w v s T) (a b:Int) (ha:(aA s T).Has a) (hb:(aA s T).Has b):
  CP 76 #[.pointer (some ⟨v,0,none⟩),.int .i64 a,.int .i64 b] w fun e w'=>e= .returned (.bool (decide ((aA s T).Canon [a,b])))∧aY w' v s T∧aH v w w':=by
 refine aQ (yV (some ⟨v,0,none⟩) a b w (fun u w'=>u= .bool (decide ((aA s T).Canon [a,b]))∧aY w' v s T∧aH v w w') ?_) (by rintro v w' ⟨rfl,h⟩;exact⟨rfl,h⟩);have parts:∀ {q:World},aY q v s T→∃x tp bp mp,bu q s T x tp bp mp∧∃c,kb q v c tp bp mp:=by
  rintro q ⟨w0,x,tp,bp,mp,d,l,uses,hR⟩;exact⟨x,tp,bp,mp,hR.now,_,hR.vblk⟩
 obtain⟨x,tp,bp,mp,hP,_⟩:=parts hV;have hok:=lV hP;have hab:∀t∈ [a]++ [b],(aA s T).Has t:=by
  intro t ht;simp at ht;rcases ht with rfl |rfl
  ·exact ha
  ·exact hb
 refine(jZ w v s T hV a).mono ?_;rintro e w1 ⟨rfl,hV1,t1⟩;refine⟨_,rfl,ac.mk (fun h1=>?_) fun h1=>⟨?_,hV1,t1⟩⟩
 ·have ca:=(fW hP ha).1 h1;refine(jZ w1 v s T hV1 b).mono ?_;rintro e w2 ⟨rfl,hV2,t2⟩;have t12:=t1.trans t2;refine⟨_,rfl,ac.mk (fun h2=>?_) fun h2=>⟨?_,hV2,t12⟩⟩
  ·have cb:=(fW hP hb).1 h2;obtain⟨x2,tp2,bp2,mp2,hP2,c2,hB2⟩:=parts hV2;refine(va hB2 hP2 a b ha hb ca cb).mono ?_;rintro e w3 ⟨r,rfl,hr,b3⟩;refine⟨r,rfl,?_,hV2.on b3,t12.trans (aH.of_below b3)⟩;have hm:=Voc.canon_more hok (init:=[]) (l:=a) (t:=b) (fun x hx=>by simp at hx;rw [hx];exact ha) ca hb;congr 1;have hm2:(aA s T).Canon [a,b]↔(aA s T).Canon [b]∧(aA s T).Pair a b:=hm;cases r with
   |true=>exact(decide_eq_true (hm2.2 ⟨cb,hr.1 rfl⟩)).symm
   |false=>exact(decide_eq_false fun e=>by have:=hr.2 (hm2.1 e).2;cases this).symm
  ·rw [decide_eq_false fun e=>?_];have:=(fW hP hb).2 (Voc.canon_append hok (P:=[a]) (Q:=[b]) hab e).2;rw [h2]at this;cases this
 ·rw [decide_eq_false fun e=>?_];have:=(fW hP ha).2 (Voc.canon_append hok (P:=[a]) (Q:=[b]) hab e).1;rw [h1]at this;cases this
abbrev rg:TypeId:=132
abbrev F9:TypeId:=129
theorem Ey:Tryz.prog.underlying F9=some (.slice nt):=by kernel_rfl
theorem E6:(Tryz.prog.info? nt).map (fun i=>(i.zero,i.size,i.bytes))=some (some (.slice none 0 0),1,24):=by kernel_rfl
def AE (r:Sl):List Value:=[r.v]
theorem Cf:Bn AE 1 F9 nt 24:=⟨fun _=>rfl,by decide,fun x u hu=>by rw [List.mem_singleton.1 hu];rfl,Ey,_,E6,rfl⟩
def qm (G:List Int):List (Int×Value):=G.zipIdx.map fun x=>(x.1,.int .i64 (x.2:Int))
theorem AB (G:List Int) (x:Int):qm (G++ [x])=qm G++ [(x,.int .i64 (G.length:Int))]:=by simp [qm,List.zipIdx_append]
theorem rn (G:List Int) (k:Int):eE k (qm G)=(G.idxOf? k).map fun i:Nat=>Value.int .i64 (i:Int):=by
 have:=jh (fun x:Int=>x) k G 0;simp only [Nat.zero_add,List.map_id']at this;exact this
def Bm (s:aq) (T:List aP) (i:Nat):Bool:=decide ((aA s T).Canon [(bk s T).getD i 0])
def lr (s:aq) (T:List aP) (i k:Nat):Bool:=decide ((aA s T).Canon [(bk s T).getD i 0,(bk s T).getD k 0])
structure jf (w:World) (g:Nat) (G:List Int) (al:Nat→Bool) (rel:Nat→Nat→Bool) (ids rows alone:Sl) (mb:Nat) (rs:List Sl) (m:Nat):Prop where
 blk:w.heap[g]? =some (.cells #[ids.v,.map (some mb),rows.v,alone.v] rg (0,0))
 oi:w.ownsRow 0 ba 1 ids.v ids.n (G.flatMap av)
 map:bF fK w mb (qm G)
 orows:w.ownsRow 0 nt 1 rows.v rows.n (rs.flatMap AE)
 rl:rs.length=m
 each:∀(i:Nat) (r:Sl),rs[i]? =some r→w.ownsRow 0 iC 1 r.v r.n ((bK G.length (rel i)).flatMap eN)
 oal:w.ownsRow 0 iC 1 alone.v alone.n ((bK G.length al).flatMap eN)
def oM (w:World) (g:Nat) (G:List Int) (al:Nat→Bool) (rel:Nat→Nat→Bool):Prop:=∃ids rows alone mb rs,jf w g G al rel ids rows alone mb rs G.length
theorem jf.on {w w':World} {g:Nat} {G:List Int} {al:Nat→Bool} {rel:Nat→Nat→Bool} {ids rows alone:Sl} {mb:Nat} {rs:List Sl} {m:Nat} (h:jf w g G al rel ids rows alone mb rs m) (hb:Below w.heap.size w w'):jf w' g G al rel ids rows alone mb rs m:=
 ⟨aj hb h.blk,aJ h.oi hb,h.map.on hb,aJ h.orows hb,h.rl,fun i r hr=>aJ (h.each i r hr) hb,aJ h.oal hb⟩
theorem oM.on {w w':World} {g:Nat} {G:List Int} {al:Nat→Bool} {rel:Nat→Nat→Bool} (h:oM w g G al rel) (hb:Below w.heap.size w w'):oM w' g G al rel:=by
 obtain⟨ids,rows,alone,mb,rs,h⟩:=h;exact⟨ids,rows,alone,mb,rs,h.on hb⟩
theorem aY.typed {w:World} {v:Nat} {s:aq} {T:List aP} (h:aY w v s T):∃c,w.heap[v]? =some (.cells c db (0,0)):=by
 obtain⟨w0,x,tp,bp,mp,d,l,uses,hR⟩:=h;exact⟨_,hR.blk⟩
theorem aY.ne_cells {w:World} {v:Nat} {s:aq} {T:List aP} (h:aY w v s T) {k:Nat} {c:Array Value} {e:TypeId} {fz:Nat×Nat} (hk:w.heap[k]? =some (.cells c e fz)) (he:e≠db):k≠v:=by
 obtain⟨c',hc⟩:=h.typed;rintro rfl;rw [hc]at hk;cases hk;exact he rfl
theorem aY.ne_map {w:World} {v:Nat} {s:aq} {T:List aP} (h:aY w v s T) {κ:Type} [DecidableEq κ] {kv:κ→Value} {r:Nat} {m:List (κ×Value)} (hm:bF kv w r m):r≠v:=by
 obtain⟨c',hc⟩:=h.typed;rintro rfl;obtain⟨es,k,hk,_⟩:=hm;rw [hc]at hk;cases hk
theorem jf.touch {w w':World} {g:Nat} {G:List Int} {al:Nat→Bool} {rel:Nat→Nat→Bool} {ids rows alone:Sl} {mb:Nat} {rs:List Sl} {m:Nat} (h:jf w g G al rel ids rows alone mb rs m) {v:Nat} {s:aq} {T:List aP} (hV:aY w v s T) (t:aH v w w'):jf w' g G al rel ids rows alone mb rs m:=
 ⟨t.held (hV.ne_cells h.blk (by decide)) h.blk,hV.own_touch t h.oi (by decide),h.map.same (t.block mb h.map.lt (hV.ne_map h.map)),hV.own_touch t h.orows (by decide),h.rl,fun i r hr=>hV.own_touch t (h.each i r hr) (by decide),hV.own_touch t h.oal (by decide)⟩
theorem qO {w2 w3:World} {x u:Value} {e:TypeId} (hw:w3=w2.alloc (.cells #[x] e)) (hu:u.oneCell'=true) {k:World→Prop} (hk:∀w4,w4.heap[w2.heap.size]? =some (.cells #[u] e (0,0))→Below w2.heap.size w2 w4→k w4):u.oneCell'=true∧(∃y,w3.cell? (nb w2)=some y)∧w3.frozen? (nb w2)=false∧∀w4,w4=w3.setCell (nb w2) u→k w4:=
 lW (aR [x] [u] rfl (by intro y hy;rw [List.mem_singleton.1 hy];exact hu) w3 hw fun w4 h4 _ b4=>hk w4 h4 b4)
theorem dd {w:World} {b:Nat} {x:Value} {e:TypeId} {fz:Nat×Nat} (h:w.heap[b]? =some (.cells #[x] e fz)):w.cell? ⟨b,0,none⟩=some x:=aN h
theorem gj {α:Type} {l:List α} {i:Nat} (h:i<l.length) (d:α):l.getD i d=l[i]:=by simp [List.getD,h]
theorem oH {s:aq} {T:List aP} (h1:eA T) (h2:s.right=true):256≤(bk s T).length∧(bk s T).length≤1032:=by
 have:=h1.most;have:=h1.len;have:=eY (gp h2).2.2.2.1;rw [fg];omega
theorem aH.put {v d j:Nat} {a b:World} (t:aH v a b) (hd:a.heap.size≤d) (u:Value):aH v a (b.setCell ((⟨d,0,none⟩:Addr).add j) u):=
 ⟨t.os,t.tape,t.output,by rw [aW];exact t.size,fun k hk hv=>by rw [ar (by rw [ax];show k≠d;omega)];exact t.block k hk hv⟩
theorem aY.put {w:World} {v d j:Nat} {s:aq} {T:List aP} (h:aY w v s T) {c:Array Value} {e:TypeId} (hd:w.heap[d]? =some (.cells c e (0,0))) (he:eo≠e) (hv:v<d) (u:Value):aY (w.setCell ((⟨d,0,none⟩:Addr).add j) u) v s T:=by
 obtain⟨w0,x,tp,bp,mp,q,l,uses,hR⟩:=h;have hlt:=hR.lt;refine⟨w0,x,tp,bp,mp,q,l,uses,hR.parts,bz hR.below (by omega) u,hlt,by rw [ar (by rw [ax];show v≠d;omega)];exact hR.blk,?_⟩;rcases hR.once with h |⟨h1,h2,h3⟩
 ·exact .inl h
 ·exact .inr ⟨h1,h2,cM h3 u (by rw [ax];exact aS h3 hd he)⟩
theorem aY.growE {w w':World} {v:Nat} {s:aq} {T:List aP} (h:aY w v s T) {B:Nat} (hb:Below B w w') (hv:v<B) {B' n sz:Nat} {e:TypeId} {u:Value} {xs:List Value} (ho:w.ownsRow B' e sz u n xs) (he:eo≠e) (hk:∀k,k<w.heap.size→u.ownBlock≠some k→w'.heap[k]? =w.heap[k]?):aY w' v s T:=by
 obtain⟨w0,x,tp,bp,mp,d,l,uses,hR⟩:=h;have hlt:=hR.lt;refine⟨w0,x,tp,bp,mp,d,l,uses,hR.parts,hR.below.trans (hb.mono (by omega)),hlt,by rw [hb.block v hv];exact hR.blk,?_⟩;rcases hR.once with h |⟨h1,h2,h3⟩
 ·exact .inl h
 ·exact .inr ⟨h1,h2,a_ h3 fun k hk3=>hk k (cd h3 k hk3).2 (bU h3 ho he k hk3)⟩
theorem Al (w:World) (v:Nat) (s:aq) (T:List aP) (hV:aY w v s T) (t:Int) (ht:(aA s T).Has t):
  CP 73 #[.pointer (some ⟨v,0,none⟩),.int .i64 t] w fun e w'=>e= .returned (.bool (decide ((aA s T).Canon [t])))∧aY w' v s T∧aH v w w':=by
 have hP:∃x tp bp mp,bu w s T x tp bp mp:=by
  obtain⟨w0,x,tp,bp,mp,d,l,uses,hR⟩:=hV;exact⟨x,tp,bp,mp,hR.now⟩
 obtain⟨x,tp,bp,mp,hP⟩:=hP;refine(jZ w v s T hV t).mono ?_;rintro e w1 ⟨rfl,h⟩;refine⟨?_,h⟩;congr 2;have:=fW hP ht;cases ha:ft s T t with
 |true=>exact(decide_eq_true (this.1 ha)).symm
 |false=>exact(decide_eq_false fun e=>by rw [this.2 e]at ha;cases ha).symm
theorem Bk (w:World) (v:Nat) (s:aq) (T:List aP) (hV:aY w v s T) (b0 b1:Nat) {e0 e1:TypeId} (ids:Sl) (G:List Int) (h0:w.heap[b0]? =some (.cells #[.pointer (some ⟨v,0,none⟩)] e0 (0,0))) (h1:w.heap[b1]? =some (.cells #[ids.v] e1 (0,0))) (oi:w.ownsRow 0 ba 1 ids.v ids.n (G.flatMap av)) (hG:∀t∈G,(aA s T).Has t) (i:Nat) (hi:i<G.length):
  CP 72 #[.int .i64 (i:Int),.pointer (some ⟨b0,0,none⟩),.pointer (some ⟨b1,0,none⟩)] w fun e w'=>e= .returned (.bool (decide ((aA s T).Canon [G.getD i 0])))∧aY w' v s T∧aH v w w':=by
 refine aO (yM i (some ⟨b0,0,none⟩) (some ⟨b1,0,none⟩) w) ?_;intro w1 hw1;have b1':Below w.heap.size w w1:=by subst hw1;exact aL w
 have hls:=cN.of_own cK (aJ oi b1');have hn:=hls.n;obtain⟨p,hp,c0⟩:=bw hls.r hi rfl;refine ag.mk _ rfl ⟨_,dd (aj b1' h0),ag.mk _ rfl ⟨ids.a,ids.n,ids.c,dd (aj b1' h1),ag.mk p hp ⟨by omega,by omega,_,c0,?_⟩⟩⟩;refine(Al w1 v s T (hV.on b1') G[i] (hG _ (List.getElem_mem hi))).mono ?_;rintro e w2 ⟨rfl,hV2,t2⟩;refine⟨_,rfl,?_,hV2,(aH.of_below b1').trans t2⟩;rw [gj hi]
theorem Bl (w:World) (v:Nat) (s:aq) (T:List aP) (hV:aY w v s T) (cg ci cv ca cids:Nat) {eg ei ev ea ed:TypeId} (g:Nat) (ids rows alone:Sl) (mb:Nat) (rs:List Sl) (m i k:Nat) (hb:v<cg∧v<ci∧v<cv∧v<ca∧v<cids)
  (hR:jf w g (bk s T) (Bm s T) (lr s T) ids rows alone mb rs m) (hgh:∀t∈bk s T,(aA s T).Has t) (hgl:(bk s T).length≤1032)
  (h0:w.heap[cg]? =some (.cells #[.pointer (some ⟨g,0,none⟩)] eg (0,0))) (h1:w.heap[ci]? =some (.cells #[.int .i64 (i:Int)] ei (0,0))) (h2:w.heap[cv]? =some (.cells #[.pointer (some ⟨v,0,none⟩)] ev (0,0))) (h3:w.heap[ca]? =some (.cells #[.int .i64 ((bk s T).getD i 0)] ea (0,0))) (h4:w.heap[cids]? =some (.cells #[ids.v] ed (0,0)))
  (hi:i< (bk s T).length) (hk:k< (bk s T).length):
  CP 74 #[.int .i64 (k:Int),.pointer (some ⟨cg,0,none⟩),.pointer (some ⟨ci,0,none⟩),.pointer (some ⟨cv,0,none⟩),.pointer (some ⟨ca,0,none⟩),.pointer (some ⟨cids,0,none⟩)] w fun e w'=>e= .returned (.bool (lr s T i k))∧aY w' v s T∧aH v w w':=by
 refine aO (xZ k (some ⟨cg,0,none⟩) (some ⟨ci,0,none⟩) (some ⟨cv,0,none⟩) (some ⟨ca,0,none⟩) (some ⟨cids,0,none⟩) w) ?_;have hP:∃x tp bp mp,bu w s T x tp bp mp:=by
  obtain⟨w0,x,tp,bp,mp,d,l,uses,hR⟩:=hV;exact⟨x,tp,bp,mp,hR.now⟩
 obtain⟨x,tp,bp,mp,hP⟩:=hP;have hok:=lV hP;have hA:(aA s T).Has ((bk s T).getD i 0):=by rw [gj hi];exact hgh _ (List.getElem_mem hi)
 have hB:(aA s T).Has ((bk s T).getD k 0):=by rw [gj hk];exact hgh _ (List.getElem_mem hk)
 have hpair:lr s T i k=true→Bm s T i=true∧Bm s T k=true:=by
  intro h;have:=Voc.canon_append hok (P:=[(bk s T).getD i 0]) (Q:=[(bk s T).getD k 0]) (by
   intro t ht;simp only [List.cons_append,List.nil_append,List.mem_cons,List.not_mem_nil,or_false]at ht;rcases ht with rfl |rfl
   ·exact hA
   ·exact hB) (of_decide_eq_true h)
  exact⟨decide_eq_true this.1,decide_eq_true this.2⟩
 intro w1 hw1;have b1':Below w.heap.size w w1:=by subst hw1;exact aL w
 have t1:aH v w w1:=aH.of_below b1';have hR1:=hR.on b1';have hV1:=hV.on b1';have al1:=cN.of_own zN hR1.oal;refine ag.mk _ rfl ⟨_,dd (aj b1' h0),ag.mk _ rfl ⟨alone.a,alone.n,alone.c,by rw [bZ hR1.blk];rfl,ag.mk _ rfl ⟨_,dd (aj b1' h1),?_⟩⟩⟩;refine(gq w1 alone.a alone.n alone.c _ (Bm s T) al1.r al1.n (by omega) i hi).mono ?_;rintro e w2 ⟨rfl,hw2⟩;rw [hw2];refine⟨_,rfl,ac.mk (fun ha=>?_) fun ha=>⟨?_,hV1,t1⟩⟩
 ·refine ag.mk _ rfl ⟨_,dd (aj b1' h0),ag.mk _ rfl ⟨alone.a,alone.n,alone.c,by rw [bZ hR1.blk];rfl,?_⟩⟩;refine(gq w1 alone.a alone.n alone.c _ (Bm s T) al1.r al1.n (by omega) k hk).mono ?_;rintro e w3 ⟨rfl,hw3⟩;rw [hw3];refine⟨_,rfl,ac.mk (fun hb=>?_) fun hb=>⟨?_,hV1,t1⟩⟩
  ·have hls:=cN.of_own cK hR1.oi;have hn:=hls.n;obtain⟨p,hp,c0⟩:=bw hls.r hk rfl;refine ag.mk _ rfl ⟨_,dd (aj b1' h2),ag.mk _ rfl ⟨_,dd (aj b1' h3),ag.mk _ rfl ⟨ids.a,ids.n,ids.c,dd (aj b1' h4),ag.mk p hp ⟨by omega,by omega,_,c0,?_⟩⟩⟩⟩;rw [←gj hk 0];refine(xW w1 v s T hV1 _ _ hA hB).mono ?_;rintro e w4 ⟨rfl,hV4,t4⟩;exact⟨_,rfl,rfl,hV4,t1.trans t4⟩
  ·cases hr:lr s T i k with
   |false=>rfl
   |true=>rw [(hpair hr).2]at hb;cases hb
 ·cases hr:lr s T i k with
  |false=>rfl
  |true=>rw [(hpair hr).1]at ha;cases ha
theorem xA {w:World} {B:Nat} {e:TypeId} {sz n:Nat} {u:Value} {xs:List Value} (h:w.ownsRow B e sz u n xs) {κ:Type} [DecidableEq κ] {kv:κ→Value} {r:Nat} {m:List (κ×Value)} (hm:bF kv w r m):u.ownBlock≠some r:=by
 obtain⟨es,k,hk,_⟩:=hm;intro hb;rcases h.2 with⟨rfl,_⟩ |⟨g,cap,cur,rfl,_,hg,_⟩
 ·cases hb
 ·cases hb;rw [hk]at hg;cases hg
theorem Bg {q w1 w2:World} {x y u z:Value} {e e':TypeId} (h1:w1=q.alloc (.cells #[x] e)) (h2:w2=w1.alloc (.cells #[y] e')) (hu:u.oneCell'=true) (hz:z.oneCell'=true) {k:World→Prop} (hk:∀w4,w4.heap[q.heap.size]? =some (.cells #[u] e (0,0))→w4.heap[w1.heap.size]? =some (.cells #[z] e' (0,0))→Below q.heap.size q w4→k w4):
  u.oneCell'=true∧(∃a,w2.cell? (nb q)=some a)∧w2.frozen? (nb q)=false∧∀w3,w3=w2.setCell (nb q) u→z.oneCell'=true∧(∃a,w3.cell? (nb w1)=some a)∧w3.frozen? (nb w1)=false∧∀w4,w4=w3.setCell (nb w1) z→k w4:=by
 have b1:Below q.heap.size q w1:=by subst h1;exact ai _ _
 have a1:w1.heap[q.heap.size]? =some (.cells #[x] e (0,0)):=by subst h1;exact am _ _
 have b2:Below w1.heap.size w1 w2:=by subst h2;exact ai _ _
 have a2:w2.heap[w1.heap.size]? =some (.cells #[y] e' (0,0)):=by subst h2;exact am _ _
 have a12:=aj b2 a1;have hlt:q.heap.size<w1.heap.size:=(Array.getElem?_eq_some_iff.1 a1).1;have b02:=ae b1 b2;refine⟨hu,⟨_,aN a12⟩,bO a12,?_⟩;intro w3 h3;have a13:w3.heap[q.heap.size]? =some (.cells #[u] e (0,0)):=by subst h3;exact bJ a12 u
 have a23:w3.heap[w1.heap.size]? =some (.cells #[y] e' (0,0)):=by subst h3;rw [ar (by show w1.heap.size≠q.heap.size;omega)];exact a2
 have b03:Below q.heap.size q w3:=by subst h3;exact b02.setCell (p:=nb q) (Nat.le_refl _) u
 refine⟨hz,⟨_,aN a23⟩,bO a23,?_⟩;intro w4 h4;refine hk w4 ?_ ?_ ?_
 ·subst h4;rw [ar (by show q.heap.size≠w1.heap.size;omega)];exact a13
 ·subst h4;exact bJ a23 z
 ·subst h4;exact b03.setCell (p:=nb w1) (Nat.le_of_lt hlt) z
def Fg (w:World) (v:Nat) (s:aq) (T:List aP) (most:Int) (u:Value) (w':World):Prop:=aY w' v s T∧aH v w w'∧(if(((bk s T).length*(bk s T).length:Nat):Int)>most then u= .tuple #[.pointer none,.int .i64 5]else ∃g,u= .tuple #[.pointer (some ⟨g,0,none⟩),.int .i64 0]∧oM w' g (bk s T) (Bm s T) (lr s T)∧w.heap.size≤g)
set_option maxHeartbeats 2000000 in
theorem ij (w:World) (v:Nat) (s:aq) (T:List aP) (hV:aY w v s T) (hasc:(s.specials.map (·.1)).Pairwise (·< ·)) (most:Int):
  CP 32 #[.pointer (some ⟨v,0,none⟩),.int .i64 most] w fun e w'=>∃u,e= .returned u∧Fg w v s T most u w':=by
 refine zl (some ⟨v,0,none⟩) most w (Fg w v s T most) ?_;have hgb:256≤(bk s T).length∧(bk s T).length≤1032∧(∀t∈bk s T,(aA s T).Has t)∧(bk s T).Pairwise (·< ·):=by
  obtain⟨w0,x,tp,bp,mp,d,l,uses,hR⟩:=hV;have hP:=hR.now;exact⟨(oH hP.ok hP.right).1,(oH hP.ok hP.right).2,fun t ht=>(E1 hP t).1 ((oz s T t).1 ht),iN hasc hP.ids⟩
 obtain⟨hg1,hg2,hgh,hgr⟩:=hgb;intro w1 hw1;have b1:Below w.heap.size w w1:=by subst hw1;exact ai _ _
 have l1:w1.heap[w.heap.size]? =some (.cells #[.pointer (some ⟨v,0,none⟩)] 69 (0,0)):=by subst hw1;exact am _ _
 refine⟨_,dd l1,?_⟩;have hV1:=hV.on b1;refine(fk w1 v s T hV1 hasc).mono ?_;rintro e w2 ⟨ids,rfl,oids,b2⟩;refine⟨_,_,_,rfl,?_⟩;intro w3 hw3;refine qO hw3 rfl ?_;intro w4 l4 b4;have b24:=ae b2 b4;have b14:=ae b1 b24;have oids4:=cV (aJ oids b4) (Nat.zero_le _);have hin:=(cN.of_own cK oids4).n;have l14:=aj b24 l1;have hV4:=hV.on b14;refine⟨_,dd l14,ac.no rfl ⟨ids.a,ids.n,ids.c,dd l4,ids.a,ids.n,ids.c,dd l4,Ar.nat ((bk s T).length*(bk s T).length) (by rw [hin];simp) (by
  have:(bk s T).length*(bk s T).length≤1032*1032:=Nat.mul_le_mul hg2 hg2;omega) (ac.mk (fun hm=>⟨hV4,aH.of_below b14,?_⟩) fun hm=>?_)⟩⟩
 ·rw [if_pos (of_decide_eq_true hm)]
 have hm:=of_decide_eq_false hm;obtain⟨G,hG⟩:∃G,G=bk s T:=⟨_,rfl⟩;rw [←hG]at oids4 hin hg1 hg2 hgh hgr hm;obtain⟨n,hn⟩:∃n,n=G.length:=⟨_,rfl⟩;rw [←hn]at hin;refine⟨ids.a,ids.n,ids.c,dd l4,_,_,gQ _,?_⟩;have b5:=ai w4 (.map #[] 0);have m5:bF fK (w4.alloc (.map #[] 0)) w4.heap.size (qm []):=lm w4;obtain⟨w5,hw5⟩:∃w5,w5=w4.alloc (.map #[] 0):=⟨_,rfl⟩;rw [←hw5]at b5 m5;rw [←hw5];intro w6 hw6 w7 hw7;have b6:Below w5.heap.size w5 w6:=by subst hw6;exact ai _ _
 have g6:w6.heap[w5.heap.size]? =some (.cells #[ids.v,.map (some w4.heap.size),cT.v,cT.v] rg (0,0)):=by subst hw6;exact am _ _
 refine qO hw7 rfl ?_;intro w8 l8 b8;have b58:=ae b6 b8;have b48:=ae b5 b58;have b08:=ae b14 b48;have hz4:=b14.size;have hz5:=b5.size;have lt4:w4.heap.size<w5.heap.size:=m5.lt;have lt6:w5.heap.size<w6.heap.size:=(Array.getElem?_eq_some_iff.1 g6).1;have lt8:w6.heap.size<w8.heap.size:=(Array.getElem?_eq_some_iff.1 l8).1;have lt2:w2.heap.size<w4.heap.size:=(Array.getElem?_eq_some_iff.1 l4).1;have lt1:w.heap.size<w4.heap.size:=(Array.getElem?_eq_some_iff.1 l14).1;have hvl:=hV.lt;have boxes:∀ {q:World},Below (w4.heap.size) w8 q→q.heap[w.heap.size]? =some (.cells #[.pointer (some ⟨v,0,none⟩)] 69 (0,0))∧q.heap[w2.heap.size]? =some (.cells #[ids.v] cI (0,0)):=by
  intro q hq;exact⟨Below.keeps hq lt1 (aj b48 l14),Below.keeps hq lt2 (aj b48 l4)⟩
 refine⟨ids.a,ids.n,ids.c,dd (aj b48 l4),?_⟩;have oids8:=aJ oids4 b48;have idsLt:∀k,ids.v.ownBlock=some k→k<w4.heap.size:=fun k hk=>(cd oids4 k hk).2;intro I hI;let Inv (i:Nat) (q:World):Prop:=bF fK q w4.heap.size (qm (G.take i))∧(∀j,j≠w4.heap.size→q.heap[j]? =w8.heap[j]?)∧q.heap.size=w8.heap.size∧Below w4.heap.size w4 q;have key:=aX (α:=World) n Inv (fun i q=>I [.int .i64 (i:Int)] q) w8 ⟨by rw [List.take_zero];exact m5.on b58,fun _ _=>rfl,rfl,b48⟩ ?_ ?_
 ·exact key
 ·rintro i hi ih q ⟨hmap,hs,hz,hB⟩;have hiG:i<G.length:=by omega
  have oq:q.ownsRow 0 ba 1 ids.v ids.n (G.flatMap av):=a_ oids8 fun k hk=>hs k (by have:=idsLt k hk;omega);obtain⟨p,hp,c0⟩:=bw (cN.of_own cK oq).r hiG rfl;have hlook:eE G[i] (qm (G.take i))=none:=by
   rw [rn,List.idxOf?_eq_none_iff.2]
   ·rfl
   ·intro hmem;obtain⟨j,hj,e⟩:=List.mem_take_iff_getElem.1 hmem;have:=List.pairwise_iff_getElem.1 hgr j i (by omega) hiG (by omega);omega
  obtain⟨q',hr',hm',hs',hz',hB'⟩:=nm tk lw hmap G[i] (.int .i64 (i:Int)) hlook;refine hI _ _ (ac.yes (by simp;omega) (ag.mk p hp ⟨by omega,by omega,_,c0,_,dd (by rw [hs w6.heap.size (by omega)];exact l8),ag.mk _ rfl ⟨_,af _ _ (by rw [hs w5.heap.size (by omega)];exact aj b8 g6) 1,q',hr',Ar.nat (i+1) rfl (by omega) (ih q' ⟨?_,fun j hj=>by rw [hs' j hj,hs j hj],by rw [hz',hz],hB' _ _ (Nat.le_refl _) hB⟩)⟩⟩));have e:qm (G.take (i+1))=qm (G.take i)++ [(G[i],.int .i64 (i:Int))]:=by
   rw [List.take_add_one,List.getElem?_eq_getElem hiG];have:=AB (G.take i) G[i];rw [List.length_take,Nat.min_eq_left (by omega)]at this;exact this
  rw [e];exact hm'
 ·rintro q ⟨hmap,hs,hz,hB⟩;rw [List.take_of_length_le (by omega)]at hmap;refine hI _ _ (ac.no (by simp;omega) ?_);intro w11 hw11;have b11:Below q.heap.size q w11:=by subst hw11;exact aL q
  have hq8:Below w4.heap.size w8 q:=⟨by rw [hB.os, ←b48.os],by rw [hB.tape, ←b48.tape],by rw [hB.output, ←b48.output],by rw [hz];exact Nat.le_refl _,fun k hk=>hs k (by omega)⟩;have hq8':Below w4.heap.size w8 w11:=hq8.trans (b11.mono (by have:=hq8.size;omega));have hV11:aY w11 v s T:=(hV4.on b5 |> fun h5=>(hV4.on ⟨hB.os,hB.tape,hB.output,hB.size,hB.block⟩)).on b11;have t11:aH v w w11:=(aH.of_below b14).trans (aH.of_below (hB.trans (b11.mono hB.size)));have g11:=aj b11 (show q.heap[w5.heap.size]? =some (.cells #[ids.v,.map (some w4.heap.size),cT.v,cT.v] rg (0,0)) by rw [hs _ (by omega)];exact aj b8 g6);have lg11:=aj b11 (show q.heap[w6.heap.size]? =_ by rw [hs _ (by omega)];exact l8);have bx11:=boxes hq8';have m11:=hmap.on b11;have o11:w11.ownsRow 0 ba 1 ids.v ids.n (G.flatMap av):=aJ (a_ oids8 fun k hk=>hs k (by have:=idsLt k hk;omega)) b11;subst hG;have bxL:w.heap.size<w11.heap.size∧w2.heap.size<w11.heap.size∧w6.heap.size<w11.heap.size∧w5.heap.size<w11.heap.size:=⟨(Array.getElem?_eq_some_iff.1 bx11.1).1,(Array.getElem?_eq_some_iff.1 bx11.2).1,(Array.getElem?_eq_some_iff.1 lg11).1,(Array.getElem?_eq_some_iff.1 g11).1⟩;have sz2:w.heap.size≤w2.heap.size:=Nat.le_trans b1.size b2.size;refine⟨_,dd lg11,ids.a,ids.n,ids.c,dd bx11.2,?_⟩;refine(ry w11 ids.n _ (fun i=>Bm s T i) v s T hV11 (by omega) ?_).mono ?_
  ·intro i hi q hVq tq;refine cC (by kernel_rfl) ?_;exact Bk q v s T hVq w.heap.size w2.heap.size ids (bk s T) (tq.held (by omega) bx11.1) (tq.held (by omega) bx11.2) (hV11.own_touch tq o11 (by decide)) hgh i (by omega)
  rintro e w12 ⟨al,rfl,oal,hV12,t12⟩;rw [hin,hn]at oal;have lg12:=t12.held (by omega) lg11;have g12:=t12.held (by omega) g11;have x12:=t12.held (by omega) bx11.1;have y12:=t12.held (by omega) bx11.2;have o12:=hV11.own_touch t12 o11 (by decide);have m12:=m11.same (t12.block _ m11.lt (by omega));refine⟨al.a,al.n,al.c,rfl,⟨dd lg12,trivial⟩,ag.mk _ rfl ⟨rfl,⟨_,by rw [bZ g12];rfl⟩,bf g12,?_⟩⟩;intro w13 hw13;have g13:w13.heap[w5.heap.size]? =some (.cells #[ids.v,.map (some w4.heap.size),cT.v,al.v] rg (0,0)):=by subst hw13;exact bA g12 _
  have hs13:∀j,j≠w5.heap.size→w13.heap[j]? =w12.heap[j]? :=by
   intro j hj;subst hw13;exact ar (by rw [ax];exact hj)
  have hV13:aY w13 v s T:=by subst hw13;exact hV12.put g12 (by decide) (by omega) _
  have t13:aH v w w13:=by subst hw13;exact(t11.trans t12).put (by omega) _
  have lg13:w13.heap[w6.heap.size]? =_:=(hs13 _ (by omega)).trans lg12;have x13:w13.heap[w.heap.size]? =_:=(hs13 _ (by omega)).trans x12;have y13:w13.heap[w2.heap.size]? =_:=(hs13 _ (by omega)).trans y12;have hR13:jf w13 w5.heap.size (bk s T) (Bm s T) (lr s T) ids cT al w4.heap.size [] 0:=
   ⟨g13,a_ o12 fun k hk=>hs13 k fun e=>aS o12 g12 (by decide) (by rw [hk,e]),m12.same (hs13 _ (by omega)),bR _ _ _ _ AE,rfl,(by intro i r h;cases h),a_ (cV oal (Nat.zero_le _)) fun k hk=>hs13 k fun e=>aS oal g12 (by decide) (by rw [hk,e])⟩
  refine⟨ids.a,ids.n,ids.c,dd y13,?_⟩;intro I2 hI2;let Inv2 (i:Nat) (q:World):Prop:=∃rows rs,jf q w5.heap.size (bk s T) (Bm s T) (lr s T) ids rows al w4.heap.size rs i∧q.ownsRow w.heap.size nt 1 rows.v rows.n (rs.flatMap AE)∧aY q v s T∧aH v w q∧q.heap[w6.heap.size]? =some (.cells #[.pointer (some (nb w5))] 32 (0,0))∧q.heap[w.heap.size]? =some (.cells #[.pointer (some ⟨v,0,none⟩)] 69 (0,0))∧q.heap[w2.heap.size]? =some (.cells #[ids.v] cI (0,0));have key2:=aX (α:=World) n Inv2 (fun i q=>I2 [.int .i64 (i:Int)] q) w13 ⟨cT,[],hR13,bR _ _ _ _ AE,hV13,t13,lg13,x13,y13⟩ ?_ ?_
  ·exact key2
  ·rintro i hi ih z ⟨rows,rs,hR,orow,hVz,tz,lgz,xz,yz⟩;have hiG:i< (bk s T).length:=by omega
   have zb:w.heap.size<z.heap.size∧w2.heap.size<z.heap.size∧w6.heap.size<z.heap.size∧w5.heap.size<z.heap.size:=⟨(Array.getElem?_eq_some_iff.1 xz).1,(Array.getElem?_eq_some_iff.1 yz).1,(Array.getElem?_eq_some_iff.1 lgz).1,(Array.getElem?_eq_some_iff.1 hR.blk).1⟩;have hlz:=cN.of_own cK hR.oi;obtain⟨p,hp,c0⟩:=bw hlz.r hiG rfl;have hnz:=hlz.n;refine hI2 _ _ (ac.yes (by simp;omega) (ag.mk p hp ⟨by omega,by omega,_,c0,?_⟩));intro w15 hw15 w16 hw16;refine Bg hw15 hw16 rfl rfl ?_;intro w18 bi18 ba18 b18;have zs15:z.heap.size<w15.heap.size:=by subst hw15;rw [az];omega
   intro w19 hw19;have b19':Below w18.heap.size w18 w19:=by subst hw19;exact aL w18
   have b19:=ae b18 b19';have bi19:=aj b19' bi18;have ba19:=aj b19' ba18;have hR19:=hR.on b19;have hV19:=hVz.on b19;have lg19:=aj b19 lgz;have x19:=aj b19 xz;have y19:=aj b19 yz;have or19:=aJ orow b19;have t19:aH v w w19:=tz.then_off b19 tz.size;refine⟨_,dd lg19,_,dd lg19,ag.mk _ rfl ⟨rows.a,rows.n,rows.c,by rw [bZ hR19.blk];rfl,ids.a,ids.n,ids.c,dd y19,?_⟩⟩;refine(ry w19 ids.n _ (fun k=>lr s T i k) v s T hV19 (by omega) ?_).mono ?_
   ·intro k hk q hVq tq;refine cC (by kernel_rfl) ?_;refine Bl q v s T hVq w6.heap.size z.heap.size w.heap.size w15.heap.size w2.heap.size w5.heap.size ids rows al w4.heap.size rs i i k ⟨by omega,by omega,by omega,by omega,by omega⟩ (hR19.touch hV19 tq) hgh hg2 (tq.held (by omega) lg19) (tq.held (by omega) bi19) (tq.held (by omega) x19) (tq.held (by omega) (by rw [gj hiG];exact ba19)) (tq.held (by omega) y19) hiG (by omega)
   rintro e w20 ⟨r,rfl,orw,hV20,t20⟩;rw [hin,hn]at orw;have hR20:=hR19.touch hV19 t20;have lg20:=t20.held (by omega) lg19;have x20:=t20.held (by omega) x19;have y20:=t20.held (by omega) y19;have or20:=hV19.own_touch t20 or19 (by decide);refine⟨r.a,r.n,r.c,rfl,⟨by rw [bZ hR20.blk];rfl,trivial⟩,⟨dd lg20,trivial⟩,⟨dd lg20,trivial⟩,?_⟩;intro w21 hw21;have b21:Below w20.heap.size w20 w21:=by subst hw21;exact ai _ _
   have lg21:=aj b21 lg20;have wb:w.heap.size≤w20.heap.size:=(t19.trans t20).size;obtain⟨rows',w22,hn22,hrun,own22,hB22,hk22⟩:=Cf.push or20 r hw21 rfl wb (by have:=(cN.of_own Cf or20).n;have:=hR.rl;omega) (by decide);refine⟨⟨by rw [bZ (aj b21 hR20.blk)];rfl,trivial⟩,⟨dd lg21,trivial⟩,⟨dd lg21,trivial⟩,rows'.a,rows'.n,rows'.c,w22,hrun,?_⟩;have kp:∀ {k:Nat} {o:Obj},w20.heap[k]? =some o→rows.v.ownBlock≠some k→w22.heap[k]? =some o:=fun {k o} h hne=>(hk22 k (Array.getElem?_eq_some_iff.1 h).1 hne).trans h;have lg22:=kp lg20 (aS or20 lg20 (by decide));have x22:=kp x20 (aS or20 x20 (by decide));have y22:=kp y20 (aS or20 y20 (by decide));have g22:=kp hR20.blk (aS or20 hR20.blk (by decide));have B22:=hB22 w20 (Below.refl _ _);have hV22:=hV20.growE B22 hvl or20 (by decide) hk22;have t22:aH v w w22:=(t19.trans t20).then_off B22 (Nat.le_refl _);refine⟨⟨dd lg22,trivial⟩,ag.mk _ rfl ⟨rfl,⟨_,by rw [bZ g22];rfl⟩,bf g22,?_⟩⟩;intro w23 hw23;have hs23:∀j,j≠w5.heap.size→w23.heap[j]? =w22.heap[j]? :=by
    intro j hj;subst hw23;exact ar (by rw [ax];exact hj)
   have same:∀ {B sz n:Nat} {e:TypeId} {u:Value} {xs:List Value},w20.ownsRow B e sz u n xs→e≠nt→e≠rg→w23.ownsRow B e sz u n xs:=by
    intro B sz n e u xs h h1 h2;refine a_ h fun k hk=>?_;rw [hs23 k fun e=>aS h hR20.blk h2 (by rw [hk,e])];exact hk22 k (cd h k hk).2 (bU h or20 h1 k hk)
   have own23:w23.ownsRow w.heap.size nt 1 rows'.v rows'.n ((rs++ [r]).flatMap AE):=a_ own22 fun k hk=>hs23 k fun e=>aS own22 g22 (by decide) (by rw [hk,e]);refine Ar.nat (i+1) rfl (by omega) (ih w23 ⟨rows',rs++ [r],?_,own23,?_,?_,(hs23 _ (by omega)).trans lg22,(hs23 _ (by omega)).trans x22,(hs23 _ (by omega)).trans y22⟩)
   ·refine⟨by subst hw23;exact bA g22 _,same hR20.oi (by decide) (by decide),?_,cV own23 (Nat.zero_le _),by have:=hR.rl;simp;omega,?_,same hR20.oal (by decide) (by decide)⟩
    ·exact hR20.map.same ((hs23 _ (by omega)).trans (hk22 _ hR20.map.lt (xA or20 hR20.map)))
    ·intro j r' hj;have hrl:=hR.rl;by_cases h:j<rs.length
     ·rw [List.getElem?_append_left h]at hj;exact same (hR20.each j r' hj) (by decide) (by decide)
     ·have hji:j=i:=by
       have:=(List.getElem?_eq_some_iff.1 hj).1;simp at this;omega
      subst hji;rw [List.getElem?_append_right (by omega),hrl,Nat.sub_self]at hj;cases hj;exact same (cV orw (Nat.zero_le _)) (by decide) (by decide)
   ·subst hw23;exact hV22.put g22 (by decide) (by omega) _
   ·subst hw23;exact t22.put (by omega) _
  ·rintro z ⟨rows,rs,hR,orow,hVz,tz,lgz,xz,yz⟩;rw [hn]at hR;refine hI2 _ _ (ac.no (by simp;omega) ⟨_,dd lgz,hVz,tz,?_⟩);rw [if_neg (by have:=hm;rw [hn]at*;omega)];exact⟨w5.heap.size,rfl,⟨ids,rows,al,w4.heap.size,rs,hR⟩,by omega⟩
def s1 (x:Nat):Nat:=(x/2&&&6148914691236517205)+(x&&&6148914691236517205)
def s2 (x:Nat):Nat:=(x/4&&&3689348814741910323)+(x&&&3689348814741910323)
def s3 (x:Nat):Nat:=x/16+x
def s4 (x:Nat):Nat:=(x&&&1085102592571150095)+(x&&&1085102592571150095)/256
def s5 (x:Nat):Nat:=x+x/65536
abbrev nD (w:World) (g:Nat) (s:aq) (T:List aP):Prop:=oM w g (bk s T) (Bm s T) (lr s T)
def GQ (s:aq) (T:List aP) (id:Int):Option Nat:=(bk s T).idxOf? id
theorem x_ {l:List Int} {a:Int} {i:Nat} (h:l.idxOf? a=some i):∃h:i<l.length,l[i]=a:=by
 have:=List.findIdx?_eq_some_iff_getElem.1 h;obtain⟨h1,h2,_⟩:=this;exact⟨h1,by simpa using h2⟩
theorem kY {s:aq} {T:List aP} {id:Int} {i:Nat} (h:GQ s T id=some i):i< (bk s T).length∧(bk s T).getD i 0=id∧dM s T id=true:=by
 obtain⟨h1,h2⟩:=x_ h;exact⟨h1,by rw [gj h1];exact h2,(oz s T id).1 (by rw [←h2];exact List.getElem_mem h1)⟩
theorem CU {s:aq} {T:List aP} {id:Int} (h:GQ s T id=none):dM s T id=false:=by
 have h1:=List.idxOf?_eq_none_iff.1 h;cases hh:dM s T id with
 |false=>rfl
 |true=>exact absurd ((oz s T id).2 hh) h1
theorem sq {s:aq} {T:List aP} (id:Int):(GQ s T id).isSome=dM s T id:=by
 cases h:GQ s T id with
 |none=>exact(CU h).symm
 |some i=>exact(kY h).2.2.symm
def FB (s:aq) (T:List aP) (id:Int):Bool:=dM s T id&&decide ((aA s T).Canon [id])
def rT (s:aq) (T:List aP) (a b:Int):Bool:=dM s T a&&dM s T b&&decide ((aA s T).Canon [a,b])
theorem IR:(Tryz.prog.info? ba).map (·.zero)=some (some (.int .i64 0)):=by kernel_rfl
theorem iP (w:World) (g:Nat) (s:aq) (T:List aP) (h:nD w g s T) (id:Int):
  CP 20 #[.pointer (some ⟨g,0,none⟩),.int .i64 id] w fun e w'=>e= .returned (.tuple #[.int .i64 (((GQ s T id).getD 0:Nat):Int),.bool (GQ s T id).isSome])∧w'=w:=by
 refine aO (yY (some ⟨g,0,none⟩) id w) ?_;obtain⟨ids,rows,alone,mb,rs,hR⟩:=h;refine ac.no rfl (ag.mk _ rfl ⟨some mb,by rw [bZ hR.blk];rfl,?_⟩);have hl:=fP tk lw IR hR.map id;rw [rn]at hl;have e:((((bk s T).idxOf? id).map fun i:Nat=>Value.int .i64 (i:Int)).getD (.int .i64 0))= .int .i64 (((GQ s T id).getD 0:Nat):Int):=by
  show _=Value.int .i64 ((((bk s T).idxOf? id).getD 0:Nat):Int);cases(bk s T).idxOf? id<;>rfl
 rw [e,Option.isSome_map]at hl;exact⟨_,_,w,hl,rfl,rfl⟩
theorem mJ (w:World) (g:Nat) (s:aq) (T:List aP) (h:nD w g s T) (hn:(bk s T).length≤1032) (id:Int):
  CP 90 #[.pointer (some ⟨g,0,none⟩),.int .i64 id] w fun e w'=>e= .returned (.bool (FB s T id))∧w'=w:=by
 refine aO (zf (some ⟨g,0,none⟩) id w) ?_;refine(iP w g s T h id).mono ?_;rintro e w1 ⟨rfl,rfl⟩;obtain⟨ids,rows,alone,mb,rs,hR⟩:=h;refine⟨_,_,rfl,ac.mk (fun h1=>?_) fun h1=>⟨?_,rfl⟩⟩
 ·obtain⟨i,hi⟩:=Option.isSome_iff_exists.1 h1;obtain⟨hi1,hi2,hi3⟩:=kY hi;have al1:=cN.of_own zN hR.oal;refine ag.mk _ rfl ⟨alone.a,alone.n,alone.c,by rw [bZ hR.blk];rfl,?_⟩;rw [hi];refine(gq w1 alone.a alone.n alone.c _ (Bm s T) al1.r al1.n (by omega) i hi1).mono ?_;rintro e w2 ⟨rfl,rfl⟩;refine⟨_,rfl,?_,rfl⟩;unfold FB Bm;rw [hi2,hi3,Bool.true_and]
 ·rw [sq]at h1;unfold FB;rw [h1,Bool.false_and]
theorem ET {s:aq} {T:List aP} {w:World} {g:Nat} {ids rows alone:Sl} {mb:Nat} {rs:List Sl} (hR:jf w g (bk s T) (Bm s T) (lr s T) ids rows alone mb rs (bk s T).length) (i:Nat) (hi:i< (bk s T).length):∃(p:Addr) (r:Sl),rows.a=some p∧i<rows.n∧w.cell? (p.add (i*1))=some (.slice r.a r.n r.c)∧cN eN 1 w r (bK (bk s T).length (lr s T i)):=by
 have hls:=cN.of_own Cf hR.orows;have hl:=hR.rl;have hi2:i<rs.length:=by omega
 obtain⟨p,hp,c0⟩:=bw hls.r hi2 (v:=rs[i].v) rfl;exact⟨p,rs[i],hp,by rw [hls.n];exact hi2,c0,cN.of_own zN (hR.each i _ (List.getElem?_eq_getElem hi2))⟩
theorem qY (w:World) (g:Nat) (s:aq) (T:List aP) (h:nD w g s T) (hn:(bk s T).length≤1032) (a b:Int):
  CP 91 #[.pointer (some ⟨g,0,none⟩),.int .i64 a,.int .i64 b] w fun e w'=>e= .returned (.bool (rT s T a b))∧w'=w:=by
 refine aO (zp (some ⟨g,0,none⟩) a b w) ?_;refine(iP w g s T h a).mono ?_;rintro e w1 ⟨rfl,rfl⟩;refine⟨_,_,rfl,(iP w1 g s T h b).mono ?_⟩;rintro e w2 ⟨rfl,rfl⟩;obtain⟨ids,rows,alone,mb,rs,hR⟩:=h;refine⟨_,_,rfl,ac.mk (fun h1=>ac.mk (fun h2=>?_) fun h2=>⟨?_,rfl⟩) fun h1=>⟨?_,rfl⟩⟩
 ·obtain⟨i,hi⟩:=Option.isSome_iff_exists.1 h1;obtain⟨hi1,hi2,hi3⟩:=kY hi;obtain⟨j,hj⟩:=Option.isSome_iff_exists.1 h2;obtain⟨hj1,hj2,hj3⟩:=kY hj;obtain⟨p,r,hp,hin,hc,hls⟩:=ET hR i hi1;rw [hi,hj];refine ag.mk _ rfl ⟨rows.a,rows.n,rows.c,by rw [bZ hR.blk];rfl,ag.mk p hp ⟨by omega,by show((i:Nat):Int) <_;omega,r.a,r.n,r.c,hc,?_⟩⟩;refine(gq w2 r.a r.n r.c _ (lr s T i) hls.r hls.n (by omega) j hj1).mono ?_;rintro e w2 ⟨rfl,rfl⟩;refine⟨_,rfl,?_,rfl⟩;unfold rT lr;rw [hi2,hi3,hj2,hj3,Bool.true_and,Bool.true_and]
 ·rw [sq]at h2;unfold rT;rw [h2,Bool.and_false,Bool.false_and]
 ·rw [sq]at h1;unfold rT;rw [h1,Bool.false_and,Bool.false_and]
theorem ki (w:World) (g:Nat) (s:aq) (T:List aP) (h:nD w g s T):
  CP 19 #[.pointer (some ⟨g,0,none⟩)] w fun e w'=>e= .returned (.int .i64 (((bk s T).length:Nat):Int))∧w'=w:=by
 refine aO (zF (some ⟨g,0,none⟩) w) ?_;obtain⟨ids,rows,alone,mb,rs,hR⟩:=h;refine ac.no rfl (ag.mk _ rfl ⟨ids.a,ids.n,ids.c,by rw [bZ hR.blk];rfl,?_,rfl⟩);rw [(cN.of_own cK hR.oi).n]
theorem BI (w:World) (g:Nat) (s:aq) (T:List aP) (h:nD w g s T) (place:Int):
  CP 38 #[.pointer (some ⟨g,0,none⟩),.int .i64 place] w fun e w'=>e= .returned (if 0≤place∧place< ((bk s T).length:Int)then .tuple #[.int .i64 ((bk s T).getD place.toNat 0),.bool true]else .tuple #[.int .i64 0,.bool false])∧w'=w:=by
 refine aQ (yR (some ⟨g,0,none⟩) place w (fun u w'=>u=(if 0≤place∧place< ((bk s T).length:Int)then .tuple #[.int .i64 ((bk s T).getD place.toNat 0),.bool true]else .tuple #[.int .i64 0,.bool false])∧w'=w) ?_) (by rintro v w' ⟨rfl,h⟩;exact⟨rfl,h⟩);refine ac.mk (fun h1=>⟨?_,rfl⟩) fun h1=>?_
 ·rw [if_neg (by have:=of_decide_eq_true h1;omega)]
 have h1:=of_decide_eq_false h1;refine(ki w g s T h).mono ?_;rintro e w1 ⟨rfl,rfl⟩;refine⟨_,rfl,ac.mk (fun h2=>⟨?_,rfl⟩) fun h2=>?_⟩
 ·rw [if_neg (by have:=of_decide_eq_true h2;omega)]
 have h2:=of_decide_eq_false h2;obtain⟨ids,rows,alone,mb,rs,hR⟩:=h;obtain⟨i,rfl⟩:∃i:Nat,place=i:=⟨place.toNat,by omega⟩;have hi:i< (bk s T).length:=by omega
 have hls:=cN.of_own cK hR.oi;obtain⟨p,hp,c0⟩:=bw hls.r hi rfl;have:=hls.n;refine ag.mk _ rfl ⟨ids.a,ids.n,ids.c,by rw [bZ hR.blk];rfl,ag.mk p hp ⟨by omega,by omega,_,c0,?_,rfl⟩⟩;rw [if_pos ⟨by omega,by omega⟩];show _=Value.tuple #[.int .i64 ((bk s T).getD i 0),.bool true];rw [gj hi]
theorem wU (w:World) (g:Nat) (s:aq) (T:List aP) (h:nD w g s T) (hn:(bk s T).length≤1032) (hok:eA T) (hV:(aA s T).Ok) (A:Option Addr) (C:Nat) (ids:List Int) (hr:Rw av 1 w A ids) (hl:ids.length≤10000):
  CP 116 #[.pointer (some ⟨g,0,none⟩),.slice A ids.length C] w fun e w'=>∃o:Option Nat,e= .returned (.tuple #[.int .i64 ((o.getD 0:Nat):Int),.bool o.isSome])∧lQ (aA s T) ids o∧w'=w:=by
 refine aO (vy (some ⟨g,0,none⟩) A ids.length C w) ?_;have hal:∀t,FB s T t=true↔(aA s T).Has t∧(aA s T).Canon [t]:=by
  intro t;unfold FB;rw [Bool.and_eq_true,fi hok,decide_eq_true_iff]
 have hpr:∀a b,rT s T a b=true↔((aA s T).Has a∧(aA s T).Has b)∧(aA s T).Canon [a,b]:=by
  intro a b;unfold rT;rw [Bool.and_eq_true,Bool.and_eq_true,fi hok,fi hok,decide_eq_true_iff]
 intro I hI;have key:=aX (α:=World) ids.length (fun i q=>(∀(j:Nat) (h:j<ids.length),j<i→(aA s T).Has ids[j]∧(aA s T).Canon (ids.take (j+1)))∧q=w) (fun i q=>∀y5 y4,I [.int .i64 (i:Int),.bool y5,.int .i64 y4] q) w ⟨fun j _ hj=>absurd hj (Nat.not_lt_zero j),rfl⟩ ?_ ?_
 ·exact key _ _
 ·rintro i hi ih q ⟨hinv,rfl⟩ y5 y4;obtain⟨p,hp,c0⟩:=bw hr hi rfl;refine hI _ _ _ _ (ac.yes (by simp;omega) (ag.mk p hp ⟨by omega,by omega,_,c0,?_⟩));refine(mJ q g s T h hn _).mono ?_;rintro e w2 ⟨rfl,rfl⟩;refine⟨_,rfl,ac.mk (fun h0=>?_) fun h0=>?_⟩
  ·refine⟨some i,rfl,⟨fun j hj hji=>hinv j hj hji,hi,fun e=>?_⟩,rfl⟩;have hh:∀t∈ids.take (i+1),(aA s T).Has t:=by
    intro t ht;obtain⟨j,hj,rfl⟩:=List.mem_take_iff_getElem.1 ht;by_cases e2:j=i
    ·subst e2;exact e.1
    ·exact(hinv j (by omega) (by omega)).1
   have htk:ids.take (i+1)=ids.take i++ [ids[i]]:=by rw [List.take_add_one,List.getElem?_eq_getElem hi];rfl
   rw [htk]at hh e;rw [(hal _).2 ⟨e.1,(Voc.canon_append hV hh e.2).2⟩]at h0;cases h0
  ·have h1:=(hal _).1 (by simpa using h0);have htk:ids.take (i+1)=ids.take i++ [ids[i]]:=by rw [List.take_add_one,List.getElem?_eq_getElem hi];rfl
   have next:(aA s T).Canon (ids.take (i+1))→Ar .i64 ((i:Int)+1) (fun n=>I [.int .i64 n,.bool y5,.int .i64 y4] w2):=by
    intro hc;refine Ar.nat (i+1) rfl (by omega) (ih w2 ⟨fun j hj hji=>?_,rfl⟩ _ _);by_cases e2:j=i
    ·subst e2;exact⟨h1.1,hc⟩
    ·exact hinv j hj (by omega)
   refine ac.mk (fun hi0=>?_) fun hi0=>?_
   ·have hi0:=of_decide_eq_true hi0;obtain⟨k,rfl⟩:∃k,i=k+1:=⟨i-1,by omega⟩;obtain⟨p2,hp2,c1⟩:=bw hr (show k<ids.length by omega) rfl;refine Ar.nat k (by omega) (by omega) (ag.mk p2 hp2 ⟨by omega,by omega,_,c1,?_⟩);refine(qY w2 g s T h hn _ _).mono ?_;rintro e w3 ⟨rfl,rfl⟩;have hk:=hinv k (by omega) (by omega);have htk2:ids.take (k+1)=ids.take k++ [ids[k]]:=by rw [List.take_add_one,List.getElem?_eq_getElem (by omega)];rfl
    have hh:∀t∈ids.take k++ [ids[k]],(aA s T).Has t:=by
     intro t ht;rw [←htk2]at ht;obtain⟨j,hj,rfl⟩:=List.mem_take_iff_getElem.1 ht;exact(hinv j (by omega) (by omega)).1
    have hc2:=hk.2;rw [htk2]at hc2;have m1:=Voc.canon_more hV hh hc2 h1.1;have m2:(aA s T).Canon [ids[k],ids[k+1]]↔(aA s T).Canon [ids[k+1]]∧(aA s T).Pair ids[k] ids[k+1]:=Voc.canon_more hV (init:=[]) (l:=ids[k]) (t:=ids[k+1]) (fun x hx=>by rw [List.nil_append,List.mem_singleton]at hx;rw [hx];exact hk.1) (Voc.canon_append hV hh hc2).2 h1.1;refine⟨_,rfl,ac.mk (fun h2=>?_) fun h2=>?_⟩
    ·refine⟨some (k+1),rfl,⟨fun j hj hji=>hinv j hj hji,hi,fun e=>?_⟩,rfl⟩;have e2:=e.2;rw [htk,htk2]at e2;rw [(hpr _ _).2 ⟨⟨hk.1,h1.1⟩,m2.2 (m1.1 e2)⟩]at h2;cases h2
    ·have h3:=(hpr _ _).1 (by simpa using h2);exact next (by rw [htk,htk2];exact m1.2 (m2.1 h3.2))
   ·have hi0:=of_decide_eq_false hi0;obtain rfl:i=0:=by omega
    refine next ?_;rw [htk,List.take_zero,List.nil_append];exact h1.2
 ·rintro q ⟨hinv,rfl⟩ y5 y4;exact hI _ _ _ _ (ac.no (by simp) ⟨none,rfl,fun j hj=>hinv j hj hj,rfl⟩)
theorem zU:(bk qf sE).length=257:=by decide+kernel
theorem D2 {w:World} {v:Nat} {y:kP} {s:aq} {T:List aP} (h:tj w v y s T):(bk s T).length≤1006∧(((bk s T).length*(bk s T).length:Nat):Int)≤1048576:=by
 have h1:=h.now.ok.most;have h2:=h.few;have h3:=h.ids;have hT:T.length≤1000:=h1;have hl:(bk s T).length≤1006:=by rw [fg];omega
 refine⟨hl,?_⟩;have:(bk s T).length*(bk s T).length≤1006*1006:=Nat.mul_le_mul hl hl;omega
theorem qr {V:Voc} {ids:List Int} {o o':Option Nat} (h:lQ V ids o) (h':lQ V ids o'):o=o':=by
 cases o with
 |none=>
  cases o' with
  |none=>rfl
  |some k=>obtain⟨_,hk,h2⟩:=h';exact absurd (h k hk) h2
 |some k=>
  obtain⟨h1,hk,h2⟩:=h;cases o' with
  |none=>exact absurd (h' k hk) h2
  |some k'=>
   obtain⟨h1',hk',h2'⟩:=h';rcases Nat.lt_trichotomy k k' with h |h |h
   ·exact absurd (h1' k hk h) h2
   ·rw [h]
   ·exact absurd (h1 k' hk' h) h2'
abbrev Gu:TypeId:=126
abbrev pW:TypeId:=31
structure sF (w:World) (m v g r n1:Nat) (s:aq) (T:List aP) (S:List Bs) (nd mp:Bs→Nat):Prop where
 blk:w.heap[m]? =some (.cells #[.pointer (some ⟨r,0,none⟩),.pointer (some ⟨v,0,none⟩),.pointer (some ⟨g,0,none⟩)] Gu (0,0))
 voc:aY w v s T
 grid:nD w g s T
 trie:bB w n1 S nd mp (kF T)
 root:∃n,c_ w r (nd []) n
 mem:∀u,u∈S↔u= []∨∃e∈T,u<+:e.1
 few:(bk s T).length≤1032
 ok:eA T
 vok:(aA s T).Ok
 asc:(s.specials.map (·.1)).Pairwise (·< ·)
def dP (w:World) (m v g:Nat) (s:aq) (T:List aP):Prop:=∃r n1 S nd mp,sF w m v g r n1 s T S nd mp
theorem sF.on {w w':World} {m v g r n1:Nat} {s:aq} {T:List aP} {S:List Bs} {nd mp:Bs→Nat} (h:sF w m v g r n1 s T S nd mp) (hb:Below w.heap.size w w'):sF w' m v g r n1 s T S nd mp:=by
 obtain⟨n,hn⟩:=h.root;exact⟨aj hb h.blk,h.voc.on hb,h.grid.on hb,h.trie.on hb,⟨n,aj hb hn⟩,h.mem,h.few,h.ok,h.vok,h.asc⟩
theorem dP.on {w w':World} {m v g:Nat} {s:aq} {T:List aP} (h:dP w m v g s T) (hb:Below w.heap.size w w'):dP w' m v g s T:=by
 obtain⟨r,n1,S,nd,mp,h⟩:=h;exact⟨r,n1,S,nd,mp,h.on hb⟩
theorem kZ (w:World) (v g:Nat) (s:aq) (T:List aP) (hV:aY w v s T) (hG:nD w g s T) (hn:(bk s T).length≤1032) (hvok:(aA s T).Ok) (hasc:(s.specials.map (·.1)).Pairwise (·< ·)):
  CP 33 #[.pointer (some ⟨v,0,none⟩),.pointer (some ⟨g,0,none⟩)] w fun e w'=>∃m,e= .returned (.tuple #[.pointer (some ⟨m,0,none⟩),.int .i64 0])∧dP w' m v g s T∧w.heap.size≤m∧Below w.heap.size w w':=by
 refine aO (ip (some ⟨v,0,none⟩) (some ⟨g,0,none⟩) w) ?_;refine ac.no rfl (ac.no rfl ((ki w g s T hG).mono ?_));rintro e w1 ⟨rfl,hw1⟩;subst w1;refine⟨_,rfl,(fk w v s T hV hasc).mono ?_⟩;rintro e w2 ⟨l,rfl,ho,b2⟩;have hln:l.n=(bk s T).length:=(Rw.of_own ho (fun _=>rfl) (by decide)).2;refine⟨l.a,l.n,l.c,rfl,ac.no (by rw [hln];simp) ((fk w2 v s T (hV.on b2) hasc).mono ?_)⟩;rintro e w3 ⟨k,rfl,hk,b3⟩;obtain⟨hkr,hkn⟩:=Rw.of_own hk (fun _=>rfl) (by decide);have hkn:k.n=(bk s T).length:=hkn;have hb3:=ae b2 b3;refine⟨k.a,k.n,k.c,rfl,?_⟩;intro I hI;have key:=aX (α:=Int×Option Addr) (bk s T).length (fun _ _=>True) (fun i y=>I [.int .i64 (i:Int),.int .i64 y.1,.pointer y.2] w3) (0,none) trivial ?_ ?_
 ·exact key
 ·rintro i hi ih ⟨y5,y4⟩ _;obtain⟨p,hp,c0⟩:=bw hkr hi rfl;refine hI _ y5 y4 w3 (ac.yes (decide_eq_true (by omega)) (ag.mk p hp ⟨by omega,by omega,_,c0,(BI w3 g s T (hG.on hb3) (i:Int)).mono ?_⟩));rintro e w5 ⟨rfl,hw5⟩;subst w5;rw [if_pos ⟨by omega,by omega⟩];refine⟨_,_,rfl,ac.no rfl (ac.no ?_ (Ar.nat (i+1) rfl (by omega) (ih (y5,y4) trivial)))⟩;rw [Int.toNat_natCast,gj hi];simp
 ·rintro⟨y5,y4⟩ _;have hV3:=hV.on hb3;have hV3':=hV3;obtain⟨w0,x,tp,bp,mp',d,l0,uses,hR⟩:=hV3';have hok:=hR.now.ok;refine hI _ y5 y4 w3 (ac.no (decide_eq_false (by omega)) ((dz hR.vblk).mono ?_));rintro e w6 ⟨rfl,hw6⟩;subst w6;refine⟨_,rfl,(sL w3 tp T hR.now.tab hok).mono ?_⟩;rintro e w7 ⟨r,S,nd,mp,n,rfl,hr1,hT7,hroot,hmem,b7⟩;refine⟨_,rfl,?_⟩;intro w8 hw8;have b8:Below w7.heap.size w7 w8:=by subst hw8;exact ai _ _
  have x8:w8.heap[w7.heap.size]? =some (.cells #[.pointer (some ⟨r,0,none⟩),.pointer (some ⟨v,0,none⟩),.pointer (some ⟨g,0,none⟩)] Gu (0,0)):=by subst hw8;exact am _ _
  have hb7:=ae hb3 b7;have hb8:=ae hb7 b8;exact⟨w7.heap.size,rfl,⟨r,w3.heap.size,S,nd,mp,x8,hV.on hb8,hG.on hb8,hT7.on b8,⟨n,aj b8 hroot⟩,hmem,hn,hok,hvok,hasc⟩,hb7.size,hb8⟩
def gK (s:aq) (T:List aP) (ids:List Int) (id:Int):Bool:=match ids.getLast? with
 |none=>FB s T id
 |some a=>rT s T a id
theorem rA (w:World) (m v g:Nat) (s:aq) (T:List aP) (h:dP w m v g s T) (A:Option Addr) (C:Nat) (ids:List Int) (hr:Rw av 1 w A ids) (hl:ids.length≤1000000) (id:Int):
  CP 80 #[.pointer (some ⟨m,0,none⟩),.slice A ids.length C,.int .i64 id] w fun e w'=>e= .returned (.bool (gK s T ids id))∧Below w.heap.size w w':=by
 refine aO (yw (some ⟨m,0,none⟩) A ids.length C id w) ?_;obtain⟨r,n1,S,nd,mp,h⟩:=h;refine ac.mk (fun h0=>?_) fun h0=>?_
 ·have h0:(ids.length:Int)=0:=by simpa using h0
  have:ids= []:=List.eq_nil_of_length_eq_zero (by omega);subst this;refine ag.mk _ rfl ⟨_,af _ _ h.blk 2,(mJ w g s T h.grid h.few id).mono ?_⟩;rintro e w1 ⟨rfl,hw1⟩;subst w1;exact⟨_,rfl,rfl,Below.refl _ _⟩
 ·have h0:¬(ids.length:Int)=0:=by simpa using h0
  intro w2 hw2;have b2:Below w.heap.size w w2:=by subst hw2;exact aL w
  have h2:=h.on b2;have hlt:ids.length-1<ids.length:=by omega
  obtain⟨p,hp,c0⟩:=bw (hr.on b2) hlt rfl;refine ag.mk _ rfl ⟨_,af _ _ h2.blk 2,Ar.nat (ids.length-1) (by omega) (by omega) (ag.mk p hp ⟨by omega,by omega,_,c0,(qY w2 g s T h2.grid h.few _ id).mono ?_⟩)⟩;rintro e w3 ⟨rfl,hw3⟩;subst w3;refine⟨_,rfl,?_,b2⟩;unfold gK;rw [List.getLast?_eq_getElem?,List.getElem?_eq_getElem hlt]
set_option maxHeartbeats 1000000 in
theorem gE (w0 w:World) (hb:Below w0.heap.size w0 w) (m v g:Nat) (s:aq) (T:List aP) (h:dP w0 m v g s T) (l:Sl) (xs:List Int) (ho:w.ownsRow w0.heap.size ba 1 l.v l.n (xs.flatMap av)) (hx:xs.length≤1000000) (A:Option Addr) (C:Nat) (ids:List Int) (hr:Rw av 1 w0 A ids) (hl:ids.length≤1000000):
  CP 60 #[.pointer (some ⟨m,0,none⟩),l.v,.slice A ids.length C] w fun e w'=>∃l':Sl,e= .returned l'.v∧w'.ownsRow w0.heap.size ba 1 l'.v l'.n ((xs.filter (gK s T ids)).flatMap av)∧Below w0.heap.size w0 w':=by
 refine aO (yj (some ⟨m,0,none⟩) l.a l.n l.c A ids.length C w) ?_;intro w1 hw1 w2 hw2;have b1:Below w.heap.size w w1:=by subst hw1;exact ai _ _
 have l1:w1.heap[w.heap.size]? =some (.cells #[.pointer (some ⟨m,0,none⟩)] pW (0,0)):=by subst hw1;exact am _ _
 have b2:Below w1.heap.size w1 w2:=by subst hw2;exact ai _ _
 have l2:w2.heap[w1.heap.size]? =some (.cells #[.slice A ids.length C] cI (0,0)):=by subst hw2;exact am _ _
 have l12:=aj b2 l1;have hb1:=ae hb b1;have hb2:=ae hb1 b2;have ho2:=aJ (aJ ho b1) b2;have clo:∀(x:Int) (q:World),Below w0.heap.size w0 q→q.heap[w.heap.size]? =some (.cells #[.pointer (some ⟨m,0,none⟩)] pW (0,0))→q.heap[w1.heap.size]? =some (.cells #[.slice A ids.length C] cI (0,0))→bP gW (.func (.func 118) #[] #[.pointer (some (nb w)),.pointer (some (nb w1))]) [.int .i64 x] q fun e q'=>e= .returned (.bool (!gK s T ids x))∧Below q.heap.size q q':=by
  intro x q hq e1 e2;refine cC (by kernel_rfl) ?_;refine aO (tw x (some (nb w)) (some (nb w1)) q) ?_;refine ag.mk _ rfl ⟨_,aN e1,ag.mk _ rfl ⟨_,_,_,aN e2,(rA q m v g s T (h.on hq) A C ids (hr.on hq) hl x).mono ?_⟩⟩;rintro e q' ⟨rfl,bq⟩;exact⟨_,rfl,rfl,bq⟩
 obtain⟨hln,hc⟩:=fZ.of_own ho2;rcases hc with rfl |⟨b,cap,rfl,hB,hrow⟩
 ·have h0:xs= []:=List.eq_nil_of_length_eq_zero hln.symm;subst h0;have hdel:CP 117 #[.slice none 0 0,.func (.func 118) #[] #[.pointer (some (nb w)),.pointer (some (nb w1))]] w2 fun e w'=>e= .returned (.slice none 0 0)∧Below w2.heap.size w2 w':=by
   refine aO (mK none 0 0 _ w2) ?_;refine(mQ none 0 [] _ (fun _=>false) w2 (fun j x hj=>by cases hj) (by simp) (fun x hx=>by cases hx)).mono ?_;rintro e w5 ⟨rfl,b5⟩;exact⟨_,rfl,ac.yes rfl ⟨rfl,b5⟩⟩
  refine hdel.mono ?_;rintro e w5 ⟨rfl,b5⟩;exact⟨none,0,0,rfl,cT,rfl,bR _ _ _ _ av,ae hb2 b5⟩
 ·have hbw:b<w.heap.size:=by
   obtain⟨_,hc'⟩:=fZ.of_own ho;rcases hc' with e |⟨b',cap',e,_,hrow'⟩
   ·simp [cT]at e
   ·simp only [Sl.mk.injEq,Option.some.injEq,Addr.mk.injEq,and_true]at e;obtain⟨rfl,_,rfl⟩:=e;obtain⟨cur,hcur,_⟩:=hrow';exact(Array.getElem?_eq_some_iff.1 hcur).1
  have hz1:=b1.size;refine(sV (fun q=>Below w0.heap.size w0 q∧q.heap[w.heap.size]? =some (.cells #[.pointer (some ⟨m,0,none⟩)] pW (0,0))∧q.heap[w1.heap.size]? =some (.cells #[.slice A ids.length C] cI (0,0))) b cap xs (by omega) _ (fun x=> !gK s T ids x) ?_ ?_ w2 ⟨hb2,l12,l2⟩ hrow).mono ?_
  ·rintro q q' ⟨hq,e1,e2⟩ _ hO;exact⟨hq.trans (hO.below hB),by rw [hO.ne _ (by omega)];exact e1,by rw [hO.ne _ (by omega)];exact e2⟩
  ·rintro x _ q ⟨hq,e1,e2⟩ hints;refine(clo x q hq e1 e2).mono ?_;rintro e q' ⟨rfl,bq⟩;obtain⟨c,hc⟩:=hints;exact⟨rfl,⟨ae hq bq,aj bq e1,aj bq e2⟩,bq.block _ (Array.getElem?_eq_some_iff.1 hc).1⟩
  ·rintro e w5 ⟨rfl,⟨hq,_,_⟩,hrow5⟩;have ef:xs.filter (fun x=> !!gK s T ids x)=xs.filter (gK s T ids):=by
    congr 1;funext x;rw [Bool.not_not]
   rw [ef]at hrow5⊢;exact⟨_,_,_,rfl,⟨some ⟨b,0,none⟩,(xs.filter (gK s T ids)).length,cap⟩,rfl,hrow5.own hB,hq⟩
def lz (s:aq) (T:List aP) (ids:List Int) (n e:Int):Prop:=(0≤iF s T ids∧n=iF s T ids∧e=4)∨(iF s T ids<0∧∃o,lQ (aA s T) ids o∧((∃k:Nat,o=some k∧n=k∧e=11)∨(o=none∧n=ids.length∧e=0)))
theorem fS (w:World) (m v g:Nat) (s:aq) (T:List aP) (h:dP w m v g s T) (A:Option Addr) (C:Nat) (ids:List Int) (hr:Rw av 1 w A ids) (hl:ids.length≤10000):
  CP 59 #[.pointer (some ⟨m,0,none⟩),.slice A ids.length C] w fun e w'=>∃n k:Int,e= .returned (.tuple #[.int .i64 n,.int .i64 k])∧lz s T ids n k∧Below w.heap.size w w':=by
 refine aO (oo (some ⟨m,0,none⟩) A ids.length C w) ?_;obtain⟨r,n1,S,nd,mp,h⟩:=h;intro w1 hw1;have b1:Below w.heap.size w w1:=by subst hw1;exact ai _ _
 have l1:w1.heap[w.heap.size]? =some (.cells #[.pointer (some ⟨m,0,none⟩)] pW (0,0)):=by subst hw1;exact am _ _
 have h1:=h.on b1;refine⟨_,aN l1,ac.no rfl ?_⟩;refine(mQ A C ids _ (fun id=> !dM s T id) w1 (hr.on b1) (by omega) ?_).mono ?_
 ·intro id hid w2 hb2;refine cC (by kernel_rfl) ?_;refine aO (uA id (some (nb w)) w2) ?_;have h2:=h1.on hb2;obtain⟨w0,x,tp,bp,mp',d,l0,uses,hR⟩:=h2.voc;refine ag.mk _ rfl ⟨_,aN (aj hb2 l1),ag.mk _ rfl ⟨_,af _ _ h2.blk 1,(wR hR.vblk hR.now id).mono ?_⟩⟩;rintro e w3 ⟨rfl,hw⟩;subst hw;exact⟨_,rfl,rfl,Below.refl _ _⟩
 ·rintro e w2 ⟨rfl,b2⟩;have hb2:=ae b1 b2;have h2:=h1.on b2;refine⟨_,rfl,ac.mk (fun h0=>?_) fun h0=>?_⟩
  ·have h0:=of_decide_eq_true h0;exact⟨_,_,rfl,.inl ⟨h0,rfl,rfl⟩,hb2⟩
  ·have h0:=of_decide_eq_false h0;refine⟨_,aN (aj b2 l1),ag.mk _ rfl ⟨_,af _ _ h2.blk 2,(wU w2 g s T h2.grid h.few h.ok h.vok A C ids (hr.on hb2) hl).mono ?_⟩⟩;rintro e w3 ⟨o,rfl,hF,hw3⟩;subst w3;refine⟨_,_,rfl,ac.mk (fun h3=>?_) fun h3=>?_⟩
   ·obtain⟨k,rfl⟩:=Option.isSome_iff_exists.1 h3;exact⟨_,_,rfl,.inr ⟨by show iF s T ids<0;unfold iF;omega,_,hF,.inl ⟨k,rfl,rfl,rfl⟩⟩,hb2⟩
   ·have:o=none:=by simpa using h3
    subst this;exact⟨_,_,rfl,.inr ⟨by show iF s T ids<0;unfold iF;omega,_,hF,.inr ⟨rfl,rfl,rfl⟩⟩,hb2⟩
theorem qB (w:World) (m v g:Nat) (s:aq) (T:List aP) (h:dP w m v g s T) (A:Option Addr) (C:Nat) (ids:List Int) (hr:Rw av 1 w A ids) (hl:ids.length≤10000):
  CP 14 #[.pointer (some ⟨m,0,none⟩),.slice A ids.length C] w fun e w'=>∃(l:Sl) (n k:Int),e= .returned (.tuple #[l.v,.int .i64 n,.int .i64 k])∧lz s T ids n k∧(k≠0→l=cT)∧(k=0→w'.ownsRow w.heap.size ba 1 l.v l.n (((bk s T).filter (gK s T ids)).flatMap av))∧Below w.heap.size w w':=by
 refine aO (nX (some ⟨m,0,none⟩) A ids.length C w) ?_;refine(fS w m v g s T h A C ids hr hl).mono ?_;rintro e w1 ⟨n,k,rfl,hR,b1⟩;refine⟨_,_,rfl,ac.mk (fun hk=>?_) fun hk=>?_⟩
 ·have hk:k≠0:=by simpa using hk
  exact⟨cT,_,_,rfl,hR,fun _=>rfl,fun h=>absurd h hk,b1⟩
 ·have hk:k=0:=by simpa using hk
  subst hk;have h1:=h.on b1;have h1':=h1;obtain⟨r,n1,S,nd,mp,hM⟩:=h1';refine ag.mk _ rfl ⟨_,af _ _ hM.blk 1,(fk w1 v s T hM.voc hM.asc).mono ?_⟩;rintro e w2 ⟨l,rfl,ho,b2⟩;have hfew:=hM.few;refine⟨l.a,l.n,l.c,rfl,(gE w1 w2 b2 m v g s T h1 l _ ho (by omega) A C ids (hr.on b1) (by omega)).mono ?_⟩;rintro e w3 ⟨l',rfl,ho3,b3⟩;exact⟨l'.a,l'.n,l'.c,rfl,l',_,_,rfl,hR,fun h=>absurd rfl h,fun _=>cV ho3 b1.size,ae b1 b3⟩
set_option maxHeartbeats 1000000 in
theorem iX (w:World) (m v g:Nat) (s:aq) (T:List aP) (h:dP w m v g s T) (t:Bs) (ht:t.length≤100000):
  CP 62 #[.pointer (some ⟨m,0,none⟩),.string (str t)] w fun e w'=>∃l:Sl,e= .returned l.v∧w'.ownsRow w.heap.size ba 1 l.v l.n ((d' T t).flatMap av)∧Below w.heap.size w w':=by
 refine aO (yb (some ⟨m,0,none⟩) (str t) w) ?_;obtain⟨r,n1,S,nd,mp,h⟩:=h;obtain⟨n,hroot⟩:=h.root;intro w1 hw1;have b1:Below w.heap.size w w1:=by subst hw1;exact aL w
 have h1:=h.on b1;have hI:=CF h.ok h.mem;refine ag.mk _ rfl ⟨_,af _ _ h1.blk 0,ag.mk _ rfl ⟨_,af _ _ h1.blk 0,(o_ h1.trie (aj b1 hroot) t (by omega)).mono ?_⟩⟩;rintro e w2 ⟨l,zs,rfl,ho,hz,b2⟩;have hb2:=ae b1 b2;have h2:=h1.on b2;refine⟨l.a,l.n,l.c,rfl,⟨af _ _ h2.blk 0,trivial⟩,(ny h2.trie (aj hb2 hroot) hI t (by omega)).mono ?_⟩;rintro e w3 ⟨k,ys,rfl,hk,hp,hy,b3⟩;have hz1:=b1.size;have hz2:=b2.size;have hz3:=b3.size;have hB3:Below w1.heap.size w1 w3:=ae b2 b3;have hln:l.n=zs.length:=(Rw.of_own ho (fun _=>rfl) (by decide)).2;have hzl:=hz.1;have hyl:ys.length≤1000:=by
  have:=sH (N:=T.length) (hp.imp fun h e=>by omega) (fun x hx=>by
   obtain⟨h1,u,_,_,he⟩:=(hy x).1 hx;have:=((jc h.ok.nodup).1 ⟨h1,he⟩).1;exact this)
  have:=h.ok.most;omega
 have hkls:=cN.of_own cK hk;obtain⟨f,w4,e1,e2,e3,e4,e5,_⟩:=cK.spread (aJ ho b3) hkls (by omega) (by omega) (by rw [hkls.n];omega) (by decide);have hB4:Below w1.heap.size w1 w4:=e4 w1 hB3;refine⟨k.a,k.n,k.c,rfl,f.a,f.n,f.c,w4,e2,?_⟩;have hfl:(zs++ys).length≤1000000:=by rw [List.length_append];omega
 refine(pM w4 w1.heap.size f (zs++ys) e3 hfl).mono ?_;rintro e w5 ⟨rfl,ho5,hg5⟩;have hsl:(qV (zs++ys)).length≤1000000:=by rw [List.length_mergeSort];exact hfl
 refine⟨rfl,(qi w5 w1.heap.size f _ ho5 hsl).mono ?_⟩;rintro e w6 ⟨c,rfl,ho6,hg6⟩;have hown:∀ {q:World} {xs:List Int},q.ownsRow w1.heap.size ba 1 f.v f.n (xs.flatMap av)→∀j,f.v.ownBlock=some j→w1.heap.size≤j:=fun ho j hj=>(cd ho j hj).1;have hB5:Below w1.heap.size w1 w5:=hB4.grown hg5 hB4.size (hown e3);have hB6:Below w1.heap.size w1 w6:=hB5.grown hg6 hB5.size (hown ho5);have fin:Lib.compact (qV (zs++ys))=d' T t:=by
  refine pr (pL (CX _)) (jS T t) fun x=>?_;rw [vn,List.mem_mergeSort,List.mem_append,hz.2,hy,h_];have hiff:∀u,(x≠ -1∧kF T u=x)↔aZ T x∧aE T x=u:=fun u=>jc h.ok.nodup;constructor
  ·rintro(⟨h1,j,h2,h3,h4⟩ |⟨h1,u,h2,h3,h4⟩)
   ·obtain⟨h5,h6⟩:=(hiff _).1 ⟨h1,h4⟩;exact⟨h5,.inr (by rw [h6];exact List.take_prefix _ _)⟩
   ·obtain⟨h5,h6⟩:=(hiff _).1 ⟨h1,h4⟩;exact⟨h5,.inl (by rw [h6];exact h3)⟩
  ·rintro⟨h5,h6 |h6⟩
   ·right;obtain⟨h1,h4⟩:=(hiff _).2 ⟨h5,rfl⟩;refine⟨h1,aE T x,(h.mem _).2 (.inr ?_),h6,h4⟩;obtain⟨h7,h8⟩:=h5;have hlt:x.toNat<T.length:=by omega
    refine⟨T[x.toNat],List.getElem_mem hlt,?_⟩;unfold aE;rw [List.getElem?_eq_getElem hlt];exact List.prefix_refl _
   ·left;have hne:=BD h.ok h5;have hpos:1≤(aE T x).length:=by
     cases hb:aE T x with
     |nil=>exact absurd hb hne
     |cons a r=>simp
    obtain⟨h1,h4⟩:=(hiff _).2 ⟨h5,rfl⟩;refine⟨h1,(aE T x).length,hpos,h6.length_le,?_⟩;rw [←List.prefix_iff_eq_take.1 h6];exact h4
 rw [fin]at ho6;exact⟨c.a,c.n,c.c,rfl,c,rfl,cV ho6 hz1,b1.trans (hB6.mono hz1)⟩
theorem p_ {T:List aP} (hok:eA T) (t:Bs):(d' T t).length≤1000:=by
 have:=sH (N:=T.length) ((jS T t).imp fun h e=>by omega) (fun x hx=>(h_.1 hx).1);have:=hok.most;omega
theorem jH (w:World) (m v g:Nat) (s:aq) (T:List aP) (h:dP w m v g s T) (t:Bs) (ht:t.length≤100000) (A:Option Addr) (C:Nat) (ids:List Int) (hr:Rw av 1 w A ids) (hl:ids.length≤10000):
  CP 15 #[.pointer (some ⟨m,0,none⟩),.string (str t),.slice A ids.length C] w fun e w'=>∃(l:Sl) (n k:Int),e= .returned (.tuple #[l.v,.int .i64 n,.int .i64 k])∧lz s T ids n k∧(k≠0→l=cT)∧(k=0→w'.ownsRow w.heap.size ba 1 l.v l.n (((d' T t).filter (gK s T ids)).flatMap av))∧Below w.heap.size w w':=by
 refine aO (oG (some ⟨m,0,none⟩) (str t) A ids.length C w) ?_;refine(fS w m v g s T h A C ids hr hl).mono ?_;rintro e w1 ⟨n,k,rfl,hR,b1⟩;refine⟨_,_,rfl,ac.mk (fun hk=>?_) fun hk=>?_⟩
 ·have hk:k≠0:=by simpa using hk
  exact⟨cT,_,_,rfl,hR,fun _=>rfl,fun h=>absurd h hk,b1⟩
 ·have hk:k=0:=by simpa using hk
  subst hk;have h1:=h.on b1;have hok:eA T:=by obtain⟨r,n1,S,nd,mp,hM⟩:=h1;exact hM.ok
  refine(iX w1 m v g s T h1 t ht).mono ?_;rintro e w2 ⟨l,rfl,ho,b2⟩;have hfew:=p_ hok t;refine⟨l.a,l.n,l.c,rfl,(gE w1 w2 b2 m v g s T h1 l _ ho (by omega) A C ids (hr.on b1) (by omega)).mono ?_⟩;rintro e w3 ⟨l',rfl,ho3,b3⟩;exact⟨l'.a,l'.n,l'.c,rfl,l',_,_,rfl,hR,fun h=>absurd rfl h,fun _=>cV ho3 b1.size,ae b1 b3⟩
section
variable {pb v r n1:Nat} {s:aq} {T:List aP} {S:List Bs} {nd mp:Bs→Nat} {A:Option Addr} {C:Nat} {Z:List Int}
end
section
variable {pb v r n1:Nat} {s:aq} {T:List aP} {S:List Bs} {nd mp:Bs→Nat} {A:Option Addr} {C:Nat} {Z:List Int}
end
theorem si (w:World) (A A2:Option Addr) (C C2:Nat) (xs ys:List Int) (hr:Rw av 1 w A xs) (hr2:Rw av 1 w A2 ys) (hl:xs.length≤1000000000):
  CP 28 #[.slice A xs.length C,.slice A2 ys.length C2] w fun e w'=>e= .returned (.bool (decide (xs=ys)))∧Below w.heap.size w w':=by
 refine aO (zy A xs.length C A2 ys.length C2 w) ?_;refine ac.mk (fun hne=>⟨?_,Below.refl _ _⟩) fun heq=>?_
 ·have hne:¬(xs.length:Int)=(ys.length:Int):=by simpa using hne
  rw [decide_eq_false fun e=>hne (by rw [e])]
 ·have heq:(xs.length:Int)=(ys.length:Int):=by simpa using heq
  intro I hI;have key:=aX (α:=World) xs.length (fun i q=>(∀j,j<i→xs[j]? =ys[j]?)∧Below w.heap.size w q) (fun i q=>∀y4,I [.int .i64 (i:Int),.bool y4] q) w ⟨fun j hj=>absurd hj (Nat.not_lt_zero j),Below.refl _ _⟩ ?_ ?_
  ·exact key _
  ·rintro i hi ih q ⟨hs,hq⟩ y4;refine hI _ y4 q (ac.yes (decide_eq_true (by omega)) ?_);intro q1 hq1;have hq1':=ae hq (show Below q.heap.size q q1 by subst hq1;exact aL q);obtain⟨p1,hp1,c1⟩:=bw (hr.on hq1') hi rfl;obtain⟨p2,hp2,c2⟩:=bw (hr2.on hq1') (show i<ys.length by omega) rfl;refine ag.mk p1 hp1 ⟨by omega,by omega,_,c1,ag.mk p2 hp2 ⟨by omega,by omega,_,c2,ac.mk (fun h0=>⟨?_,hq1'⟩) fun h0=>?_⟩⟩
   ·have h0:¬xs[i]=ys[i]:=by simpa using h0
    rw [decide_eq_false fun e=>h0 (by subst e;rfl)]
   ·have h0:xs[i]=ys[i]:=by simpa using h0
    refine Ar.nat (i+1) rfl (by omega) (ih q1 ⟨fun j hj=>?_,hq1'⟩ _);by_cases e:j=i
    ·subst e;rw [List.getElem?_eq_getElem hi,List.getElem?_eq_getElem (by omega),h0]
    ·exact hs j (by omega)
  ·rintro q ⟨hs,hq⟩ y4;refine hI _ y4 q (ac.no (decide_eq_false (by omega)) ⟨?_,hq⟩);rw [decide_eq_true];apply List.ext_getElem?;intro j;by_cases hj:j<xs.length
   ·exact hs j hj
   ·rw [List.getElem?_eq_none_iff.2 (by omega),List.getElem?_eq_none_iff.2 (by omega)]
theorem s_ (a b:Bs):((str a).toList==(str b).toList)=decide (a=b):=by
 rw [ct,ct];by_cases h:a=b
 ·subst h;simp
 ·simp [h]
section
variable {w w':World} {b:Nat} {c:Array Value} {e:TypeId} {fz:Nat×Nat}
theorem dn (hb:w.heap[b]? =some (.cells c e fz)) (t:aH b w w') {k:Nat} {c2:Array Value} {e2:TypeId} {fz2:Nat×Nat} (hk:w.heap[k]? =some (.cells c2 e2 fz2)) (he:e2≠e):w'.heap[k]? =some (.cells c2 e2 fz2):=by
 refine t.held ?_ hk;rintro rfl;rw [hb]at hk;cases hk;exact he rfl
theorem dv {κ:Type} [DecidableEq κ] {kv:κ→Value} {r:Nat} {m:List (κ×Value)} (hb:w.heap[b]? =some (.cells c e fz)) (t:aH b w w') (h:bF kv w r m):bF kv w' r m:=by
 refine h.same (t.block _ h.lt ?_);rintro rfl;obtain⟨es,k,hm,_⟩:=h;rw [hb]at hm;cases hm
theorem gS (hb:w.heap[b]? =some (.cells c e fz)) (t:aH b w w') {B sz n:Nat} {e2:TypeId} {u:Value} {xs:List Value} (ho:w.ownsRow B e2 sz u n xs) (he:e2≠e):w'.ownsRow B e2 sz u n xs:=
 a_ ho fun k hk=>t.block k (cd ho k hk).2 fun e3=>aS ho hb he (by rw [hk,e3])
theorem bu.past {s:aq} {T:List aP} {x:bM} {tp bp mp:Nat} (h:bu w s T x tp bp mp) (hb:w.heap[b]? =some (.cells c e fz)) (hc:∀v∈c,¬g_ v) (t:aH b w w') (n1:gF≠e) (n2:fQ≠e) (n3:lI≠e):bu w' s T x tp bp mp:=by
 have hne:∀j,j<w.heap.size→j≠b→w'.heap[j]? =w.heap[j]? :=fun j hj hn=>t.block j hj hn;refine⟨h.spec.past hb hc hne t.size,?_,h.ok,?_,?_,h.right,h.ids,h.nodup⟩
 ·obtain⟨l,mb,mp,most,h1,h2,h3,h4,h5,h6⟩:=h.tab;exact⟨l,mb,mp,most,dn hb t h1 n1,h2,h3.past (fun x=>⟨_,rfl,.inr ⟨_,rfl⟩⟩) hb hc hne t.size,dv hb t h4,dv hb t h5,h6⟩
 ·obtain⟨c2,h1,h2⟩:=h.bound;exact⟨c2,dn hb t h1 n2,h2⟩
 ·obtain⟨l,mi,mt,c2,h1,h2,h3,h4,h5,h6⟩:=h.marks;exact⟨l,mi,mt,c2,dn hb t h1 n3,h2,h3,h4.past (fun x=>⟨_,rfl,cE _ _⟩) hb hc hne t.size,dv hb t h5,dv hb t h6⟩
theorem aY.past {v:Nat} {s:aq} {T:List aP} (h:aY w v s T) (hb:w.heap[b]? =some (.cells c e fz)) (hc:∀v∈c,¬g_ v) (t:aH b w w') (n0:db≠e) (n1:gF≠e) (n2:fQ≠e) (n3:lI≠e) (n4:eo≠e):aY w' v s T:=by
 obtain⟨w0,x,tp,bp,mp,d,l,uses,hR⟩:=h;have hz:=hR.below.size;let w1:World:={w' with heap:=w'.heap.extract 0 w0.heap.size};have hz1:w1.heap.size=w0.heap.size:=by
  show(w'.heap.extract 0 w0.heap.size).size=_;rw [Array.size_extract];have:=t.size;omega
 have h1:∀k,k<w0.heap.size→w1.heap[k]? =w'.heap[k]? :=by
  intro k hk;show(w'.heap.extract 0 w0.heap.size)[k]? =_;rw [Array.getElem?_extract];rw [if_pos (by have:=t.size;omega),Nat.zero_add]
 have b1:Below w1.heap.size w1 w':=⟨rfl,rfl,rfl,by rw [hz1];have:=t.size;omega,fun k hk=>(h1 k (by omega)).symm⟩;have ht:aH b w0 w1:=⟨t.os.trans hR.below.os,t.tape.trans hR.below.tape,t.output.trans hR.below.output,by omega,fun k hk hne=>by rw [h1 k hk,t.block k (by omega) hne,hR.below.block k hk]⟩;have hp:bu w1 s T x tp bp mp:=by
  by_cases hlt:b<w0.heap.size
  ·exact hR.parts.past (by rw [←hR.below.block b hlt];exact hb) hc ht n1 n2 n3
  ·exact hR.parts.on ⟨ht.os,ht.tape,ht.output,ht.size,fun k hk=>ht.block k hk (by omega)⟩
 exact⟨w1,x,tp,bp,mp,d,l,uses,hp,b1,by rw [hz1];exact hR.lt,dn hb t hR.blk n0,hR.once.imp id fun⟨x1,x2,x3⟩=>⟨x1,x2,gS hb t x3 n4⟩⟩
theorem nD.by {g:Nat} {s:aq} {T:List aP} (h:nD w g s T) (hb:w.heap[b]? =some (.cells c e fz)) (t:aH b w w') (n1:rg≠e) (n2:ba≠e) (n3:nt≠e) (n4:iC≠e):nD w' g s T:=by
 obtain⟨ids,rows,alone,mb,rs,hR⟩:=h;exact⟨ids,rows,alone,mb,rs,dn hb t hR.blk n1,gS hb t hR.oi n2,dv hb t hR.map,gS hb t hR.orows n3,hR.rl,fun i r hi=>gS hb t (hR.each i r hi) n4,gS hb t hR.oal n4⟩
theorem bB.past {n₀:Nat} {S:List Bs} {nd mp:Bs→Nat} {idf:Bs→Int} (h:bB w n₀ S nd mp idf) (hb:w.heap[b]? =some (.cells c e fz)) (t:aH b w w') (n1:lU≠e):bB w' n₀ S nd mp idf:=by
 refine⟨h.root,h.nodup,h.closed,h.base,fun u hu=>dn hb t (h.node u hu) n1,fun u hu=>(h.map u hu).same (t.block _ (h.map u hu).lt ?_),h.ndInj,h.mpInj,h.off⟩;intro e0;obtain⟨es,k,hm,_⟩:=h.map u hu;rw [e0,hb]at hm;cases hm
theorem dP.past {m v g:Nat} {s:aq} {T:List aP} (h:dP w m v g s T) (hb:w.heap[b]? =some (.cells c DN fz)) (hc:∀v∈c,¬g_ v) (t:aH b w w'):dP w' m v g s T:=by
 obtain⟨r,n1,S,nd,mp,h⟩:=h;obtain⟨n,hn⟩:=h.root;exact⟨r,n1,S,nd,mp,dn hb t h.blk (by decide),h.voc.past hb hc t (by decide) (by decide) (by decide) (by decide) (by decide),h.grid.by hb t (by decide) (by decide) (by decide) (by decide),h.trie.past hb t (by decide),⟨n,dn hb t hn (by decide)⟩,h.mem,h.few,h.ok,h.vok,h.asc⟩
end
structure uO (w:World) (m g:Nat) (r:kP) (s:aq) (T:List aP):Prop where
 mask:∃v,dP w m v g s T
 rv:fY w r s T
 few:s.specials.length≤6
 rise:(bk s T).Pairwise (·< ·)
theorem uO.on {w w':World} {m g:Nat} {r:kP} {s:aq} {T:List aP} (h:uO w m g r s T) (hb:Below w.heap.size w w'):uO w' m g r s T:=by
 obtain⟨v,hv⟩:=h.mask;exact⟨⟨v,hv.on hb⟩,h.rv.on hb,h.few,h.rise⟩
set_option maxHeartbeats 1000000 in
theorem xe (w:World) (y:AO) (ls:List Int) (cs:List (Int×Int×Int)) (js:List (Int×Int)) (xs:List (Int×Bs)) (h:tf w y ls cs js xs):
  CP 13 #[y.v] w fun e w'=>∃m g r s T,e= .returned (.tuple #[.pointer (some ⟨m,0,none⟩),.pointer (some ⟨g,0,none⟩),r.v])∧uO w' m g r s T∧Below w.heap.size w w':=by
 let R:Value→World→Prop:=fun u w'=>∃m g r s T,u= .tuple #[.pointer (some ⟨m,0,none⟩),.pointer (some ⟨g,0,none⟩),r.v]∧uO w' m g r s T∧Below w.heap.size w w';refine aQ (xX y.l.a y.l.n y.l.c y.c.a y.c.n y.c.c y.j.a y.j.n y.j.c y.x.a y.x.n y.x.c w R ?_) (by rintro v w' ⟨m,g,r,s,T,rfl,h⟩;exact⟨m,g,r,s,T,rfl,h⟩);intro w1 hw1 w2 hw2;have hb1:Below w.heap.size w w1:=by subst hw1;exact ai _ _
 have b2:Below w1.heap.size w1 w2:=by subst hw2;exact ai _ _
 have hb2:=ae hb1 b2;have l2:w2.heap[w.heap.size]? =some (.cells y.cells GS (0,0)):=aj b2 (by subst hw1;exact am _ _);have z2:w2.heap[w1.heap.size]? =some (.cells zH.cells DN (0,0)):=by subst hw2;exact am _ _
 have lt1:w.heap.size<w1.heap.size:=by subst hw1;rw [az];omega
 refine⟨_,_,_,_,_,_,_,_,_,_,_,_,GI l2,?_⟩;refine(yL w2 y ls cs js xs (h.on hb2)).mono ?_;rintro e w3 ⟨u,rfl,v,r,s,T,rfl,hB3,hv,b3⟩;have hb3:=ae hb2 b3;refine⟨_,_,_,_,_,_,_,_,_,_,_,_,_,_,_,_,rfl,?_⟩;intro w4 hw4;refine aR (nB zH) (nB r) rfl (ic r) w4 hw4 ?_;intro w5 h5 hz5 b5;have hB:=hB3.on b5;have hb5:=ae hb3 b5;have z5:=aj (ae b3 b5) z2;have hz2:=hb2.size;obtain⟨hl,hsq⟩:=D2 hB;have hrise:(bk s T).Pairwise (·< ·):=iN hB.asc (by
  obtain⟨w0',x,tp,bp,mp,d,l,uses,hR⟩:=hB.voc;exact hR.now.ids)
 refine(ij w5 v s T hB.voc hB.asc 1048576).mono ?_;rintro e w6 ⟨u,rfl,hV6,t6,hu⟩;rw [if_neg (by omega)]at hu;obtain⟨g,rfl,hG,hg⟩:=hu;have hvl:w2.heap.size≤v:=hv;have lt2:w1.heap.size<w2.heap.size:=(Array.getElem?_eq_some_iff.1 z2).1;have b56:Below w2.heap.size w5 w6:=t6.below hvl (ae b3 b5).size;have hb6:Below w.heap.size w w6:=hb5.trans (b56.mono hz2);have z6:w6.heap[w1.heap.size]? =some (.cells zH.cells DN (0,0)):=(b56.block _ lt2).trans z5;have h6:=t6.held (by have:=hB3.voc.lt;omega) h5;have hR6:=hB.rv w6 t6;refine⟨_,_,rfl,(kZ w6 v g s T hV6 hG (by omega) hB.now.vok hB.asc).mono ?_⟩;rintro e w7 ⟨m,rfl,hM,hm,b7⟩;refine⟨_,_,rfl,ac.no rfl (ac.no rfl ?_)⟩;intro w8 hw8;have b8:Below w7.heap.size w7 w8:=by subst hw8;exact aL w7
 have b68:=ae b7 b8;have z8:=aj b68 z6;refine⟨_,_,_,_,_,_,_,_,_,_,_,_,_,_,_,kW (x:=r) (aj b68 h6),?_⟩;refine aV z8 (nB r) rfl (ic r) ?_;intro w9 h9 hs9 hz9 hB9;have hb9:Below w.heap.size w w9:=hB9 _ _ (Nat.le_of_lt lt1) (ae hb6 b68);have h0:=hB9 0 w8 (Nat.zero_le _) (Below.refl _ _);have t9:aH w1.heap.size w8 w9:=⟨h0.os,h0.tape,h0.output,by omega,fun k _ hk=>hs9 k hk⟩;exact⟨_,_,_,_,_,_,_,_,_,_,_,_,_,_,_,kW (x:=r) h9,m,g,r,s,T,rfl,⟨⟨v,(hM.on b8).past z8 (jp zH) t9⟩,(hR6.on b68).past z8 (jp zH) (fun j _ hj=>hs9 j hj) (Nat.le_of_eq hz9.symm),hB.few,hrise⟩,hb9⟩
theorem EI:((bk qf sE).filter (gK qf sE [97])).length=256:=by decide+kernel
theorem ER:((d' sE [98]).filter (gK qf sE [97])).length=0:=by decide+kernel
theorem GN:iF qf sE [97]= -1:=by decide+kernel
theorem CB:dM qf sE 97=true∧(aA qf sE).Canon [97]:=by decide+kernel
theorem uT (hok:eA sE) {n k:Int} (h:lz qf sE [97] n k):n=1∧k=0:=by
 rcases h with⟨h1,_⟩ |⟨_,o,hF,⟨j,rfl,_⟩ |⟨_,rfl,rfl⟩⟩
 ·rw [GN]at h1;omega
 ·obtain⟨_,hj,hn⟩:=hF;have hj0:j=0:=by simpa using hj
  subst hj0;exact absurd ⟨(fi hok 97).1 CB.1,CB.2⟩ hn
 ·exact⟨rfl,rfl⟩
theorem fB (w:World):CP 12 #[] w fun e w'=>e= .returned (.bool true)∧Below w.heap.size w w':=by
 refine aQ (xH w (fun u w'=>u= .bool true∧Below w.heap.size w w') ?_) (by rintro v w' ⟨rfl,h⟩;exact⟨rfl,h⟩);intro w1 hw1;have hb1:Below w.heap.size w w1:=by subst hw1;exact ai _ _
 refine(fb w1 _ qf (Ba w w1 hw1)).mono ?_;rintro e w2 ⟨u,rfl,hb2,hp⟩;rw [if_pos DG,Cp]at hp;obtain⟨v,rfl,hV,hv⟩:=hp;have hb12:=ae hb1 hb2;have hz1:=hb1.size;have hvok:(aA qf sE).Ok:=by
  obtain⟨w0,x,tp,bp,mp,d,l,uses,hR⟩:=hV;exact lV hR.now
 have hok:eA sE:=by
  obtain⟨w0,x,tp,bp,mp,d,l,uses,hR⟩:=hV;exact hR.now.ok
 refine⟨_,_,_,rfl,?_⟩;refine(ij w2 v qf sE hV List.Pairwise.nil 1048576).mono ?_;rintro e w3 ⟨u,rfl,hV3,t3,hu⟩;rw [zU,if_neg (by decide)]at hu;obtain⟨g,rfl,hG,hg⟩:=hu;have hb3:Below w.heap.size w w3:=hb12.trans (t3.below (by omega) hb12.size);have hn:(bk qf sE).length≤1032:=by rw [zU];decide
 refine⟨_,_,rfl,(kZ w3 v g qf sE hV3 hG hn hvok List.Pairwise.nil).mono ?_⟩;rintro e w4 ⟨m,rfl,hM,hm,b4⟩;have hb4:=ae hb3 b4;refine⟨_,_,rfl,?_⟩;intro w5 hw5;have b5:Below w4.heap.size w4 w5:=by subst hw5;exact ai _ _
 have hb5:=ae hb4 b5;refine Calls.mono (show Calls _ _ #[_,.slice (some (nb w4)) 1 1] w5 _ from qB w5 m v g qf sE (hM.on b5) (some (nb w4)) 1 [97] (DH w4 w5 [97] _ rfl hw5) (by decide)) ?_;rintro e w6 ⟨l,n,k,rfl,hR,_,hl,b6⟩;obtain⟨rfl,rfl⟩:=uT hok hR;have hln:l.n=256:=((Rw.of_own (hl rfl) (fun _=>rfl) (by decide)).2).trans EI;have hb6:=ae hb5 b6;refine⟨_,_,_,_,_,rfl,?_⟩;intro w7 hw7;have b7:Below w6.heap.size w6 w7:=by subst hw7;exact ai _ _
 have hb7:=ae hb6 b7;refine Calls.mono (show Calls _ _ #[_,.string (str [98]),.slice (some (nb w6)) 1 1] w7 _ from jH w7 m v g qf sE (((hM.on b5).on b6).on b7) [98] (by decide) (some (nb w6)) 1 [97] (DH w6 w7 [97] _ rfl hw7) (by decide)) ?_;rintro e w8 ⟨l2,n2,k2,rfl,hR2,_,hl2,b8⟩;obtain⟨rfl,rfl⟩:=uT hok hR2;have hln2:l2.n=0:=((Rw.of_own (hl2 rfl) (fun _=>rfl) (by decide)).2).trans ER;exact⟨_,_,_,_,_,rfl,ac.yes rfl (ac.yes (by rw [hln];rfl) (ac.yes rfl (ac.yes rfl (ac.yes (by rw [hln2];rfl) ⟨rfl,ae hb7 b8⟩))))⟩
theorem Av {s:aq} {T:List aP} {ids:List Int} {n k:Int} (h:lz s T ids n k) {o:Option Nat} (hF:lQ (aA s T) ids o) (hb:iF s T ids<0):(∃j:Nat,o=some j∧n=j∧k=11)∨(o=none∧n=ids.length∧k=0):=by
 rcases h with⟨h1,_⟩ |⟨_,o',h2,h3⟩
 ·omega
 ·have:=qr hF h2;subst this;exact h3
theorem fE (b:Bs):we (aK b)=b:=by
 unfold we aK;rw [List.map_map];conv=>rhs;rw [←List.map_id b]
 apply List.map_congr_left;intro x _;show UInt8.ofNat ((x.toNat:Int)).toNat=x;rw [show((x.toNat:Int)).toNat=x.toNat by omega];simp
theorem fU {V:Voc} (t:Bs):V.Items (aK t):=by
 intro x hx;obtain⟨y,_,rfl⟩:=List.mem_map.1 hx;have:=y.toNat_lt;omega
theorem q_ {s:aq} {T:List aP} (hok:eA T) (hvok:(aA s T).Ok) {t:Int} (h:aZ T t):(aA s T).items t=aK (aE T t):=Voc.items_tok hvok ((eK hok t).1 h)
theorem xd {s:aq} {T:List aP} (hok:eA T) (hvok:(aA s T).Ok) {t rest:Bs} {out Q:List Int} (hm:(aA s T).encode (aK t)=out++Q) (hi:(aA s T).itemsAll out++aK rest=aK t) (hr:rest≠ []):
  ∃q Q' r',Q=q::Q'∧aZ T q∧rest=aE T q++r'∧gK s T out q=true:=by
 obtain⟨hall,hhas⟩:=Voc.encode_items hvok (fU (V:=aA s T) t);have hcan:=kM hvok (fU (V:=aA s T) t);rw [hm]at hall hhas hcan;have e2:(aA s T).itemsAll Q=aK rest:=by
  rw [Voc.itemsAll_append, ←hi]at hall;exact List.append_cancel_left hall
 cases Q with
 |nil=>
  exfalso;apply hr;have e2: []=aK rest:=e2;cases rest with
  |nil=>rfl
  |cons x r=>cases e2
 |cons q Q'=>
  have e3:(aA s T).items q++(aA s T).itemsAll Q'=aK rest:=e2;have hq:=hhas q (by simp);have hin:aZ T q:=by
   rcases hq with h |h
   ·exact(eK hok q).2 h
   ·exfalso;obtain⟨i,hi,_⟩:=Voc.place_some h;have hm:(-1- (i:Int))∈aK rest:=by
     rw [←e3];unfold Voc.items;rw [hi];simp
    have:=mL rest _ hm;omega
  rw [q_ hok hvok hin]at e3;refine⟨q,Q',we ((aA s T).itemsAll Q'),rfl,hin,?_,?_⟩
  ·have:=congrArg we e3;rw [fE]at this;rw [←this];unfold we;rw [List.map_append];congr 1;exact fE _
  ·have hh:∀P R:List Int,out++q::Q'=P++R→(aA s T).Canon P∧(aA s T).Canon R:=fun P R e=>by
    rw [e]at hhas hcan;exact Voc.canon_append hvok hhas hcan
   unfold gK;cases hx:out.getLast? with
   |none=>
    have h0:out= []:=List.getLast?_eq_none_iff.1 hx;subst h0;show FB s T q=true;unfold FB;rw [(fi hok _).2 hq,Bool.true_and];exact decide_eq_true (hh [q] Q' rfl).1
   |some a=>
    obtain⟨ini,rfl⟩:=List.getLast?_eq_some_iff.1 hx;have ha:=hhas a (by simp);show rT s T a q=true;unfold rT;rw [(fi hok _).2 ha,(fi hok _).2 hq,Bool.true_and,Bool.true_and];have h1:=(hh ini ([a,q]++Q') (by simp)).2;exact decide_eq_true (Voc.canon_append hvok (P:=[a,q]) (Q:=Q') (fun x hx=>hhas x (by simp at hx⊢;exact .inr hx)) h1).1
def fM (s:aq) (T:List aP) (t:Bs) (out:List Int) (r:Bs):Prop:=(∃Q,(aA s T).encode (aK t)=out++Q)∧(aA s T).itemsAll out++aK r=aK t
theorem fM.short {s:aq} {T:List aP} {t r:Bs} {out:List Int} (h:fM s T t out r):out.length≤t.length∧r.length≤t.length:=by
 obtain⟨⟨Q,h1⟩,h2⟩:=h;have:=sI (aA s T) (aK t);rw [h1,List.length_append]at this;have e:=congrArg List.length h2;rw [List.length_append]at e;have l1:(aK t).length=t.length:=List.length_map _;have l2:(aK r).length=r.length:=List.length_map _;omega
theorem fM.next {s:aq} {T:List aP} (hok:eA T) (hvok:(aA s T).Ok) {t r:Bs} {out:List Int} (h:fM s T t out r) (hr:r≠ []):
  ∃q,q∈(d' T r).filter (gK s T out)∧aE T q<+:r∧1≤(aE T q).length∧fM s T t (out++ [q]) (r.drop (aE T q).length):=by
 obtain⟨⟨Q,h1⟩,h2⟩:=h;obtain⟨q,Q',r',rfl,hin,rfl,hmay⟩:=xd hok hvok h1 h2 hr;have hne:=BD hok hin;refine⟨q,List.mem_filter.2 ⟨h_.2 ⟨hin,.inr (List.prefix_append _ _)⟩,hmay⟩,List.prefix_append _ _,List.length_pos_iff.2 hne,⟨Q',by rw [h1];simp⟩,?_⟩;rw [List.drop_left, ←h2,Voc.itemsAll_append];unfold aK;rw [List.map_append];show _++(aA s T).itemsAll [q]++_=_;have:(aA s T).itemsAll [q]=aK (aE T q):=by
  show(aA s T).items q++ []=_;rw [List.append_nil,q_ hok hvok hin]
 rw [this];unfold aK;rw [List.append_assoc]
theorem yy (w:World):CP 65 #[.slice none 0 0] w fun e w'=>e= .returned (.slice none 0 0)∧w'=w:=by
 refine aO (xT none 0 0 w) ?_;exact ac.yes rfl ⟨rfl,rfl⟩
theorem FI {q:World} {B:Nat} {pre post:List nI} {f:Sl} {xs:List Int} (h:dW q B (pre++⟨f,ba,1,xs.flatMap av⟩::post)) (x:Int) (hn:f.n≤1000000) (hB:B≤q.heap.size):
  ∃a c q',(Builtin.append_ #[cI,cI] cI #[f.v,.slice (some (nb q)) 1 1]).run Tryz.prog (q.alloc (.cells #[.int .i64 x] ba))= .ok (.slice a (f.n+1) c) q'∧dW q' B (pre++⟨⟨a,f.n+1,c⟩,ba,1,(xs++ [x]).flatMap av⟩::post)∧(∀w0,Below B w0 q→Below B w0 q'):=by
 obtain⟨z,hi,hzs⟩:=cK.hz;obtain⟨a,c,q',h1,h2,_,_,h3,_⟩:=dW.push (P:=Tryz.prog) cI (r:=⟨f,ba,1,xs.flatMap av⟩) h nJ hi hzs Nat.one_pos [.int .i64 x] rfl (fun u hu=>by rw [List.mem_singleton.1 hu];rfl) (by show(f.n+1)*8≤_;omega) (by show f.n+1≤_;omega) hB;exact⟨a,c,q',h1,by rw [List.flatMap_append];exact h2,h3⟩
theorem jR (w:World) (m v g:Nat) (s:aq) (T:List aP) (h:dP w m v g s T) (t:Bs) (ht:t.length≤100000) (A:Option Addr) (C:Nat) (ids:List Int) (hr:Rw av 1 w A ids) (hl:ids.length≤10000):
  CP 66 #[.pointer (some ⟨m,0,none⟩),.string (str t),.slice A ids.length C] w fun e w'=>∃(id:Int) (r:Bs) (b:Bool),e= .returned (.tuple #[.int .i64 id,.string (str r),.bool b])∧(b=true→t≠ []∧(d' T t).filter (gK s T ids)= [id]∧(aE T id).length≤t.length∧r=t.drop (aE T id).length)∧(b=false→t= []∨((d' T t).filter (gK s T ids)).length≠1∨∃x,(d' T t).filter (gK s T ids)= [x]∧t.length< (aE T x).length)∧Below w.heap.size w w':=by
 refine aO (xV (some ⟨m,0,none⟩) (str t) A ids.length C w) ?_;refine(iX w m v g s T h t ht).mono ?_;rintro e w1 ⟨l,rfl,ho,b1⟩;have hok:eA T:=by obtain⟨r,n1,S,nd,mp,hM⟩:=h;exact hM.ok
 have hfew:=p_ hok t;refine⟨l.a,l.n,l.c,rfl,(gE w w1 b1 m v g s T h l _ ho (by omega) A C ids hr (by omega)).mono ?_⟩;rintro e w2 ⟨k,rfl,ho2,b2⟩;obtain⟨F,hF⟩:∃F,F=(d' T t).filter (gK s T ids):=⟨_,rfl⟩;rw [←hF]at ho2⊢;obtain⟨hkr,hkn⟩:=Rw.of_own ho2 (fun _=>rfl) (by decide);have hkn:k.n=F.length:=hkn;refine⟨k.a,k.n,k.c,rfl,?_⟩;show ac ((str t).toList==(str []).toList) _ _;rw [s_];refine ac.mk (fun h0=>?_) fun h0=>ac.mk (fun h1=>?_) fun h1=>?_
 ·exact⟨0,t,false,rfl,fun h=>(by cases h),fun _=>.inl (of_decide_eq_true h0),b2⟩
 ·have h1:¬(k.n:Int)=1:=by simpa using h1
  exact⟨0,t,false,rfl,fun h=>(by cases h),fun _=>.inr (.inl (by omega)),b2⟩
 have h1:(k.n:Int)=1:=by simpa using h1
 obtain⟨x,rfl⟩:∃x,F= [x]:=List.length_eq_one_iff.1 (by omega);intro w3 hw3;have b3:Below w2.heap.size w2 w3:=by subst hw3;exact aL w2
 have hb3:=ae b2 b3;have h3:=h.on hb3;obtain⟨r,n1,S,nd,mp,hM⟩:=h3;obtain⟨p,hp,c0⟩:=bw (hkr.on b3) (i:=0) (Nat.one_pos) rfl;have c0:w3.cell? (p.add (0*1))=some (.int .i64 x):=c0;obtain⟨w0,x',tp,bp,mp',d,l0,uses,hV⟩:=hM.voc;refine ag.mk _ rfl ⟨_,af _ _ hM.blk 1,ag.mk p hp ⟨by omega,by omega,_,c0,(dz hV.vblk).mono ?_⟩⟩;rintro e w4 ⟨rfl,hw4⟩;subst w4;refine⟨_,rfl,⟨c0,trivial⟩,(dS w3 tp T hV.now.tab x).mono ?_⟩;rintro e w5 ⟨rfl,hw5⟩;subst w5;have hin:aZ T x:=(h_.1 (List.mem_filter.1 (by rw [←hF];simp:x∈(d' T t).filter (gK s T ids))).1).1;rw [if_pos hin];refine⟨_,_,rfl,ac.mk (fun h2=>?_) fun h2=>?_⟩
 ·have h2:=of_decide_eq_true h2;rw [aB,aB]at h2;exact⟨0,t,false,rfl,fun h=>(by cases h),fun _=>.inr (.inr ⟨x,rfl,by omega⟩),hb3⟩
 ·have h2:=of_decide_eq_false h2;rw [aB,aB]at h2;intro w6 hw6;have b6:Below w3.heap.size w3 w6:=by subst hw6;exact aL w3
  have c6:w6.cell? (p.add ((0:Int).toNat*1))=some (.int .i64 x):=by subst hw6;exact c0
  refine ag.mk p hp ⟨by omega,by omega,_,c6,by omega,by rw [aB,aB];omega,by omega,?_⟩;rw [aB,aB,gi];refine⟨x,t.drop (aE T x).length,true,?_,fun _=>⟨of_decide_eq_false h0,rfl,by omega,rfl⟩,fun h=>(by cases h),ae hb3 b6⟩;rw [show((t.length:Nat):Int).toNat- (((aE T x).length:Nat):Int).toNat=t.length- (aE T x).length by omega,show(((aE T x).length:Nat):Int).toNat=(aE T x).length by omega,List.take_of_length_le (by rw [List.length_drop];omega)]
set_option maxHeartbeats 1000000 in
theorem nF (w:World) (m v g:Nat) (s:aq) (T:List aP) (h:dP w m v g s T) (t:Bs) (ht:t.length≤10000):
  CP 25 #[.pointer (some ⟨m,0,none⟩),.string (str t),.slice none 0 0] w fun e w'=>∃(l:Sl) (out:List Int) (r:Bs),e= .returned (.tuple #[l.v,.string (str r),.int .i64 0])∧w'.ownsRow w.heap.size ba 1 l.v l.n (out.flatMap av)∧fM s T t out r∧(r= []∨((d' T r).filter (gK s T out)).length≠1)∧Below w.heap.size w w':=by
 refine aO (oU (some ⟨m,0,none⟩) (str t) none 0 0 w) ?_;have hok:eA T:=by obtain⟨r,n1,S,nd,mp,hM⟩:=h;exact hM.ok
 have hvok:(aA s T).Ok:=by obtain⟨r,n1,S,nd,mp,hM⟩:=h;exact hM.vok
 refine(fS w m v g s T h none 0 [] (fun j x hj=>by simp at hj) (Nat.zero_le _)).mono ?_;rintro e w1 ⟨n,k,rfl,hR,b1⟩;have hk:k=0:=by
  rcases hR with⟨h1,_⟩ |⟨_,o,h2,⟨j,rfl,_⟩ |⟨_,_,h3⟩⟩
  ·exact absurd h1 (by show ¬(0:Int)≤ -1;decide)
  ·obtain⟨_,hj,_⟩:=h2;cases hj
  ·exact h3
 subst hk;refine⟨_,_,rfl,ac.no rfl ((yy w1).mono ?_)⟩;rintro e w2 ⟨rfl,hw2⟩;subst w2;refine⟨_,_,_,rfl,?_⟩;intro I hI;have key:∀(n:Nat) (r:Bs) (out:List Int) (f k:Sl) (q:World) (y8:Int) (y7:ByteArray) (yA:Option Addr) (yN yC:Nat),r.length≤n→fM s T t out r→dW q w.heap.size [⟨f,ba,1,out.flatMap av⟩,⟨k,ba,1,out.flatMap av⟩]→Below w.heap.size w q→I [f.v,k.v,.int .i64 y8,.string y7,.slice yA yN yC,.string (str r)] q:=by
  intro n;induction n with
  |zero=>
   intro r out f k q y8 y7 yA yN yC hn hF hO hq;have hr0:r= []:=List.eq_nil_of_length_eq_zero (by omega);subst hr0;have hs:=hF.short;obtain⟨hkr,hkn⟩:=Rw.of_own (hO.own ⟨k,ba,1,out.flatMap av⟩ (by simp)) (fun _=>rfl) Nat.one_pos;have hkn:k.n=out.length:=hkn;refine hI f.a f.n f.c k.a k.n k.c _ _ _ _ _ _ q ?_;rw [hkn];refine(jR q m v g s T (h.on hq) [] (by simp) k.a k.c out hkr (by omega)).mono ?_;rintro e q1 ⟨id,r',b,rfl,hb1,hb0,b1⟩;refine⟨_,_,_,rfl,?_⟩;cases b with
   |true=>exact absurd rfl (hb1 rfl).1
   |false=>exact ac.yes rfl ⟨f,out,[],rfl,aJ (hO.own ⟨f,ba,1,out.flatMap av⟩ (by simp)) b1,hF,.inl rfl,ae hq b1⟩
  |succ n ih=>
   intro r out f k q y8 y7 yA yN yC hn hF hO hq;have hs:=hF.short;obtain⟨hkr,hkn⟩:=Rw.of_own (hO.own ⟨k,ba,1,out.flatMap av⟩ (by simp)) (fun _=>rfl) Nat.one_pos;have hkn:k.n=out.length:=hkn;have hfn:f.n=out.length:=(Rw.of_own (hO.own ⟨f,ba,1,out.flatMap av⟩ (by simp)) (fun _=>rfl) Nat.one_pos).2;refine hI f.a f.n f.c k.a k.n k.c _ _ _ _ _ _ q ?_;rw [hkn];refine(jR q m v g s T (h.on hq) r (by omega) k.a k.c out hkr (by omega)).mono ?_;rintro e q1 ⟨id,r',b,rfl,hb1,hb0,b1⟩;have hq1:=ae hq b1;have hO1:=hO.on b1;refine⟨_,_,_,rfl,?_⟩;cases b with
   |false=>
    refine ac.yes rfl ⟨f,out,r,rfl,hO1.own ⟨f,ba,1,out.flatMap av⟩ (by simp),hF,?_,hq1⟩;rcases hb0 rfl with h0 |h0 |⟨x,h0,h1⟩
    ·exact .inl h0
    ·exact .inr h0
    ·by_cases hr:r= []
     ·exact .inl hr
     ·obtain⟨q',hq',hp,_⟩:=hF.next hok hvok hr;rw [h0,List.mem_singleton]at hq';subst hq';have:=hp.length_le;omega
   |true=>
    obtain⟨h1,h2,h3,rfl⟩:=hb1 rfl;obtain⟨q',hq',hp,hpos,hN⟩:=hF.next hok hvok h1;rw [h2,List.mem_singleton]at hq';subst hq';refine ac.no rfl ?_;intro q5 hq5;obtain⟨a,c,q6,e6,hO6,hB6⟩:=FI (pre:=[]) hO1 q' (by omega) hq1.size;refine⟨a,f.n+1,c,q6,by rw [hq5];exact e6,?_⟩;intro q7 hq7;have hb6:=hB6 w hq1;obtain⟨a2,c2,q8,e8,hO8,hB8⟩:=FI (pre:=[_]) (post:=[]) hO6 q' (by omega) hb6.size;refine⟨a2,k.n+1,c2,q8,by rw [hq7, ←hkn];exact e8,?_⟩;exact ih _ (out++ [q']) ⟨a,f.n+1,c⟩ ⟨a2,k.n+1,c2⟩ q8 _ _ _ _ _ (by rw [List.length_drop];omega) hN hO8 (hB8 w hb6)
 refine key t.length t [] cT cT w1 _ _ _ _ _ (Nat.le_refl _) ⟨⟨_,rfl⟩,rfl⟩ ⟨fun r hr=>?_,?_⟩ b1
 ·rcases List.mem_cons.1 hr with rfl |hr
  ·exact bR w1 w.heap.size ba 1 av
  ·rw [List.mem_singleton.1 hr];exact bR w1 w.heap.size ba 1 av
 ·refine List.Pairwise.cons (fun r hr=>?_) (List.Pairwise.cons (fun r hr=>by cases hr) .nil);intro k hk;cases hk
set_option maxHeartbeats 1000000 in
theorem nr (w:World) (y:AO) (ls:List Int) (cs:List (Int×Int×Int)) (js:List (Int×Int)) (xs:List (Int×Bs)) (h:tf w y ls cs js xs) (t:Bs):
  CP 4 #[y.v,.string (str t)] w fun e w'=>e= .returned (.bool true)∧Below w.heap.size w w':=by
 refine aO (Au y.l.a y.l.n y.l.c y.c.a y.c.n y.c.c y.j.a y.j.n y.j.c y.x.a y.x.n y.x.c (str t) w) ?_;intro w1 hw1;have hb1:Below w.heap.size w w1:=by subst hw1;exact ai _ _
 have l1:w1.heap[w.heap.size]? =some (.cells y.cells GS (0,0)):=by subst hw1;exact am _ _
 refine⟨_,_,_,_,_,_,_,_,_,_,_,_,GI l1,?_⟩;refine(qp w1 y ls cs js xs (h.on hb1)).mono ?_;rintro e w2 ⟨c0,rfl,b2⟩;have hb2:=ae hb1 b2;have aw:∀ {q:World},Below w.heap.size w q→CP 12 #[] q fun e w'=>∃b:Bool,e= .returned (.bool b)∧((Ending.returned (Value.bool b)= .returned (.bool true))∧Below w.heap.size w w'):=by
  intro q hq;refine(fB q).mono ?_;rintro e w3 ⟨rfl,b3⟩;exact⟨true,rfl,rfl,ae hq b3⟩
 refine⟨c0,rfl,ac.mk (fun _=>aw hb2) fun _=>ac.mk (fun _=>aw hb2) fun h60=>?_⟩;have h60:=of_decide_eq_false h60;rw [aB]at h60;refine(fB w2).mono ?_;rintro e w5 ⟨rfl,b5⟩;have hb5:=ae hb2 b5;refine⟨_,rfl,ac.no rfl ⟨_,_,_,_,_,_,_,_,_,_,_,_,GI (aj b5 (aj b2 l1)),?_⟩⟩;refine(xe w5 y ls cs js xs (h.on hb5)).mono ?_;rintro e w7 ⟨m,g,r,s,T,rfl,hB7,b7⟩;have hb7:=ae hb5 b7;refine⟨_,_,_,_,_,_,_,_,_,_,_,_,_,_,_,_,_,rfl,?_⟩;intro w8 hw8;refine aR (nB zH) (nB r) rfl (ic r) w8 hw8 ?_;intro w9 h9 hz9 b9;have hb9:=ae hb7 b9;have hB9:=hB7.on b9;obtain⟨v,hM9⟩:=hB9.mask;have hok:=hB9.rv.ok;have hvok:(aA s T).Ok:=by obtain⟨r,n1,S,nd,mp,hM⟩:=hM9;exact hM.vok
 refine ac.no rfl ?_;refine(nF w9 m v g s T hM9 t (by omega)).mono ?_;rintro e w10 ⟨l,out,rest,rfl,hl,hF,hstop,b10⟩;have hb10:=ae hb9 b10;have hs:=hF.short;obtain⟨⟨Q,hQ⟩,hitems⟩:=hF;obtain⟨hlr,hln⟩:=Rw.of_own hl (fun _=>rfl) (by decide);have hln:l.n=out.length:=hln;obtain⟨_,hhas⟩:=Voc.encode_items hvok (fU (V:=aA s T) t);have hcan:=kM hvok (fU (V:=aA s T) t);rw [hQ]at hhas hcan;have hho:∀x∈out,(aA s T).Has x:=fun x hx=>hhas x (List.mem_append_left _ hx);have hco:=(Voc.canon_append hvok hhas hcan).1;refine⟨l.a,l.n,l.c,_,_,rfl,?_⟩;intro w11 hw11;have b11:Below w10.heap.size w10 w11:=by subst hw11;exact aL w10
 have hb11:=ae hb10 b11;have hB11:=(hB9.on b10).on b11;have h11:=aj b11 (aj b10 h9);refine⟨_,_,_,_,_,_,_,_,_,_,_,_,_,_,_,kW h11,(pV w11 t (by omega)).mono ?_⟩;rintro e w12 ⟨k,rfl,hkn,hk,b12⟩;have hb12:=ae hb11 b12;have hB12:=hB11.on b12;have hkr:=(Rw.of_own hk (fun _=>rfl) (by decide)).1;have li:(aK t).length=t.length:=List.length_map _;refine⟨k.a,k.n,k.c,rfl,kW (aj b12 h11),?_⟩;rw [hkn, ←li];refine(gZ w12 r s T hB12.rv k.a k.c (aK t) hkr (by omega) (fU t)).mono ?_;rintro e w13 ⟨u,rfl,hu,b13,hfresh,huc⟩;have hb13:=ae hb12 b13;have hB13:=hB12.on b13;have h13:=aj b13 (aj b12 h11);have hun:=hu.n;rw [hQ,List.length_append]at hun;have hl13:=((hlr.on b11).on b12).on b13;refine⟨u.a,u.n,u.c,rfl,ac.no rfl (ac.no (decide_eq_false (by omega)) ⟨by omega,by omega,by omega,trivial,trivial,?_⟩)⟩;have hcut:=(hu.r.cut 0 u.c (by rw [hQ,List.length_append];omega)).take out.length;rw [List.drop_zero,hQ,List.take_left]at hcut;have hints:=si w13 (bW u.a 0 u.c 1) l.a (u.c-0) l.c out out hcut hl13 (by omega);rw [←hln]at hints;refine Calls.mono (show Calls _ _ #[.slice (bW u.a 0 u.c 1) (l.n-0) (u.c-0),.slice l.a l.n l.c] w13 _ from hints) ?_;rintro e w14 ⟨rfl,b14⟩;have hb14:=ae hb13 b14;have h14:=aj b14 h13;have hcs:=qn w14 r s T (hB13.on b14).rv l.a l.c out (hl13.on b14) (by omega) hho;rw [←hln]at hcs;refine⟨_,rfl,ac.no (by simp) ⟨_,_,_,_,_,_,_,_,_,_,_,_,_,_,_,kW h14,hcs.mono ?_⟩⟩;rintro e w15 ⟨rfl,b15⟩;have hb15:=ae hb14 b15;have h15:=aj b15 h14;have his:=jN w15 r s T ((hB13.on b14).on b15).rv l.a l.c out ((hl13.on b14).on b15) (by omega) hho;rw [←hln]at his;refine⟨_,rfl,ac.no (by rw [decide_eq_true hco];rfl) ⟨_,_,_,_,_,_,_,_,_,_,_,_,_,_,_,kW h15,his.mono ?_⟩⟩;rintro e w16 ⟨i,rfl,hi,b16⟩;have hb16:=ae hb15 b16;have hin:=hi.n;have hlen:=congrArg List.length hitems;rw [List.length_append,li,show(aK rest).length=rest.length from List.length_map _]at hlen;refine⟨i.a,i.n,i.c,rfl,Ar.nat (i.n+rest.length) (by rw [aB];omega) (by omega) (ac.no (by rw [aB];simp;omega) ⟨by omega,by rw [aB];omega,by omega,?_⟩)⟩;have hrest:t.drop i.n=rest:=by
  have e:we (((aA s T).itemsAll out++aK rest).drop i.n)=we ((aK t).drop i.n):=by rw [hitems]
  rw [hin,List.drop_left,fE]at e;rw [e];unfold we aK;rw [←List.map_drop,hin];exact(fE _).symm
 rw [aB,gi,s_,show((t.length:Nat):Int).toNat- ((i.n:Nat):Int).toNat=t.length-i.n by omega,show((i.n:Nat):Int).toNat=i.n by omega,List.take_of_length_le (by rw [List.length_drop];omega)];have hM16:=((((((hM9.on b10).on b11).on b12).on b13).on b14).on b15).on b16;have hw:=jH w16 m v g s T hM16 rest (by omega) l.a l.c out (((hl13.on b14).on b15).on b16) (by omega);rw [←hln]at hw;refine ac.no (by rw [hrest];simp) (hw.mono ?_);rintro e w17 ⟨o,n,k',rfl,hR,_,ho,b17⟩;have hk:k'=0:=by
  have hbad:iF s T out<0:=by
   have:iF s T out= -1:=dT (p:=fun id=> !dM s T id) fun j hj=>by rw [(fi hok _).2 (hho _ (List.getElem_mem hj))];rfl
   omega
  have hFn:lQ (aA s T) out none:=fun j hj=>⟨hho _ (List.getElem_mem hj),(Voc.canon_append hvok (P:=out.take (j+1)) (Q:=out.drop (j+1)) (by rw [List.take_append_drop];exact hho) (by rw [List.take_append_drop];exact hco)).1⟩;rcases Av hR hFn hbad with⟨j,e0,_⟩ |⟨_,_,h⟩
  ·cases e0
  ·exact h
 subst hk;have hon:o.n=_:=(Rw.of_own (ho rfl) (fun _=>rfl) (by decide)).2;refine⟨o.a,o.n,o.c,_,_,rfl,ac.no rfl ?_⟩;intro w18 hw18;have b18:Below w17.heap.size w17 w18:=by subst hw18;exact aL w17
 have hb18:=ae (ae hb16 b17) b18;show ac ((str rest).toList==(str []).toList) _ _;rw [s_];refine ac.mk (fun _=>⟨rfl,hb18⟩) fun h0=>ac.yes ?_ ⟨rfl,hb18⟩;have h0:=of_decide_eq_false h0;have h1:=hstop.resolve_left h0;rw [hon];simp;omega
theorem oZ {H:Type} {enc:TypeId×Value→H} {C:Checked} {os:Os} {f:FuncId} {fn:Func} {s:ChangeSpec}
  (own:ownKnob C.prog.godebug=none) (started:os.Started) (noInit:C.prog.inits.idxOf? f=none) (hfn:C.prog.funcs[f]? =some fn)
  (witness:∃(w:World) (tape:Tape) (i:Input),w.os=os∧(w.forCall tape i).Shaped C.prog∧i.vars= []∧Input.okWide C.prog (w.forCall tape i) .any w.heap.size f i∧
   ((s.pre enc C.prog fn [] false (w.forCall tape i).memory i.args∧True)∧sizedMet enc C.prog fn (OpenSpec.ofChange s) false (w.forCall tape i).memory i.args)∧({}:Assume).holds C.prog (lone (Frame.enter C.prog f i.args .normal) [] (w.forCall tape i)))
  (contract:∀(W:World) (base:Nat) (args:Array Value) (ds gs:List (DataW H)) (before:List MemPlace),
   (∀(j:Nat) t v,fn.params[j]? =some t→args[j]? =some v→Value.okWide C.prog W .any base t v)→
   DataW.Whole enc C.prog fn.params.toList s.vars false W args.toList ds gs before→
   (DataW.weightsEach C.prog (fn.params.toList++s.plain.varTypes C.prog) (ds++gs)).all (·≤reachBytes)=true→
   W.ShapedOpen C.prog→
   Calls C.prog f args W fun e W'=>∃v,e= .returned v∧s.post enc C.prog fn false true false false W args v W'):
  ReturnsInHanded {} C os f .any (fun w args=>s.pre enc C.prog fn [] false w args∧sizedMet enc C.prog fn (OpenSpec.ofChange s) false w args) (s.post enc C.prog fn false true false false):=by
 have witness':∃(w:World) (tape:Tape) (i:Input),w.os=os∧(w.forCall tape i).Shaped C.prog∧i.vars= []∧Input.okWide C.prog (w.forCall tape i) .any w.heap.size f i∧
   (s.pre enc C.prog fn [] false (w.forCall tape i).memory i.args∧sizedMet enc C.prog fn (OpenSpec.ofChange s) false (w.forCall tape i).memory i.args)∧({}:Assume).holds C.prog (lone (Frame.enter C.prog f i.args .normal) [] (w.forCall tape i)):=by
  obtain⟨w,tape,i,h1,h2,h3,h4,⟨⟨h5,_⟩,h6⟩,h7⟩:=witness;exact⟨w,tape,i,h1,h2,h3,h4,⟨h5,h6⟩,h7⟩
 refine returnsInHanded_of_calls own started noInit witness' ?_;intro w tape i _ hshape _ hok hpre _;obtain⟨_,_,_,fn',hfn',_,_,_,_,hval⟩:=hok;obtain rfl:fn'=fn:=Option.some.inj (hfn'.symm.trans hfn);obtain⟨⟨ds,gs,before,hw,_⟩,hz⟩:=hpre;refine(contract (w.forCall tape i) w.heap.size i.args ds gs before hval (DataW.Whole.of_heap (w':=w.forCall tape i) (by rfl) hw) (hz.weights hw) hshape).mono ?_;rintro e W' ⟨v,rfl,hp⟩;exact ChangeSpec.post_blind hp
end Go.Proofs.YtdlcfegnaphclaaGreat.Eng
