/- The grid of a vocabulary, walked by the engine. -/
import Derived.Test.YtijbcdiffjjefaaGreatDoorZxRi
import Derived.Test.YtijbcdiffjjefaaGreatDoorZxVo
import Derived.Test.YtijbcdiffjjefaaGreatDoorZxTab
set_option linter.unusedVariables false
set_option linter.unusedSimpArgs false
set_option maxRecDepth 100000
namespace Go.Proofs.YtijbcdiffjjefaaGreatDoor.Eng
open Go Go.RowKit
theorem C5 (w:World) (v:Nat) (s:ak) (T:List aT) (hV:aW w v s T) (a b:Int) (ha:(aK s T).Has a) (hb:(aK s T).Has b):
  CP 62 #[.pointer (some ⟨v,0,none⟩),.int .i64 a,.int .i64 b] w fun e w'=>e= .returned (.bool (decide ((aK s T).Canon [a,b])))∧aW w' v s T∧aC v w w':=by
 refine aJ (C_ (some ⟨v,0,none⟩) a b w (fun u w'=>u= .bool (decide ((aK s T).Canon [a,b]))∧aW w' v s T∧aC v w w') ?_) (by rintro v w' ⟨rfl,h⟩;exact⟨rfl,h⟩);have parts:∀ {q:World},aW q v s T→∃x tp bp mp,bW q s T x tp bp mp∧∃c,ja q v c tp bp mp:=by
  rintro q ⟨w0,x,tp,bp,mp,d,l,uses,hR⟩;exact⟨x,tp,bp,mp,hR.now,_,hR.vblk⟩
 obtain⟨x,tp,bp,mp,hP,_⟩:=parts hV;have hok:=pl hP;have hab:∀t∈ [a]++ [b],(aK s T).Has t:=by
  intro t ht;simp at ht;rcases ht with rfl |rfl
  ·exact ha
  ·exact hb
 refine(kn w v s T hV a).mono ?_;rintro e w1 ⟨rfl,hV1,t1⟩;refine⟨_,rfl,ac.mk (fun h1=>?_) fun h1=>⟨?_,hV1,t1⟩⟩
 ·have ca:=(gh hP ha).1 h1;refine(kn w1 v s T hV1 b).mono ?_;rintro e w2 ⟨rfl,hV2,t2⟩;have t12:=t1.trans t2;refine⟨_,rfl,ac.mk (fun h2=>?_) fun h2=>⟨?_,hV2,t12⟩⟩
  ·have cb:=(gh hP hb).1 h2;obtain⟨x2,tp2,bp2,mp2,hP2,c2,hB2⟩:=parts hV2;refine(pH hB2 hP2 a b ha hb ca cb).mono ?_;rintro e w3 ⟨r,rfl,hr,b3⟩;refine⟨r,rfl,?_,hV2.on b3,t12.trans (aC.of_below b3)⟩;have hm:=Voc.canon_more hok (init:=[]) (l:=a) (t:=b) (fun x hx=>by simp at hx;rw [hx];exact ha) ca hb;congr 1;have hm2:(aK s T).Canon [a,b]↔(aK s T).Canon [b]∧(aK s T).Pair a b:=hm;cases r with
   |true=>exact(decide_eq_true (hm2.2 ⟨cb,hr.1 rfl⟩)).symm
   |false=>exact(decide_eq_false fun e=>by have:=hr.2 (hm2.1 e).2;cases this).symm
  ·rw [decide_eq_false fun e=>?_];have:=(gh hP hb).2 (Voc.canon_append hok (P:=[a]) (Q:=[b]) hab e).2;rw [h2]at this;cases this
 ·rw [decide_eq_false fun e=>?_];have:=(gh hP ha).2 (Voc.canon_append hok (P:=[a]) (Q:=[b]) hab e).1;rw [h1]at this;cases this
abbrev Ap:TypeId:=113
abbrev KP:TypeId:=109
theorem JB:Tryz.prog.underlying KP=some (.slice qz):=by kernel_rfl
theorem JH:(Tryz.prog.info? qz).map (fun i=>(i.zero,i.size,i.bytes))=some (some (.slice none 0 0),1,24):=by kernel_rfl
def tb (r:Sl):List Value:=[r.v]
theorem Iz:E8 tb 1 KP qz 24:=⟨fun _=>rfl,by decide,fun x u hu=>by rw [List.mem_singleton.1 hu];rfl,JB,_,JH,rfl⟩
def t_ (G:List Int):List (Int×Value):=G.zipIdx.map fun x=>(x.1,.int .i64 (x.2:Int))
theorem Fg (G:List Int) (x:Int):t_ (G++ [x])=t_ G++ [(x,.int .i64 (G.length:Int))]:=by simp [t_,List.zipIdx_append]
theorem uO (G:List Int) (k:Int):fh k (t_ G)=(G.idxOf? k).map fun i:Nat=>Value.int .i64 (i:Int):=by
 have:=ie (fun x:Int=>x) k G 0;simp only [Nat.zero_add,List.map_id']at this;exact this
def uq (s:ak) (T:List aT) (i:Nat):Bool:=decide ((aK s T).Canon [(bU s T).getD i 0])
def gY (s:ak) (T:List aT) (i k:Nat):Bool:=decide ((aK s T).Canon [(bU s T).getD i 0,(bU s T).getD k 0])
structure kK (w:World) (g:Nat) (G:List Int) (al:Nat→Bool) (rel:Nat→Nat→Bool) (ids rows alone:Sl) (mb:Nat) (rs:List Sl) (m:Nat):Prop where
 blk:w.heap[g]? =some (.cells #[ids.v,.map (some mb),rows.v,alone.v] Ap (0,0))
 oi:w.ownsRow 0 bh 1 ids.v ids.n (G.flatMap ay)
 map:br dJ w mb (t_ G)
 orows:w.ownsRow 0 qz 1 rows.v rows.n (rs.flatMap tb)
 rl:rs.length=m
 each:∀(i:Nat) (r:Sl),rs[i]? =some r→w.ownsRow 0 iE 1 r.v r.n ((bo G.length (rel i)).flatMap dh)
 oal:w.ownsRow 0 iE 1 alone.v alone.n ((bo G.length al).flatMap dh)
def sB (w:World) (g:Nat) (G:List Int) (al:Nat→Bool) (rel:Nat→Nat→Bool):Prop:=∃ids rows alone mb rs,kK w g G al rel ids rows alone mb rs G.length
theorem kK.on {w w':World} {g:Nat} {G:List Int} {al:Nat→Bool} {rel:Nat→Nat→Bool} {ids rows alone:Sl} {mb:Nat} {rs:List Sl} {m:Nat} (h:kK w g G al rel ids rows alone mb rs m) (hb:Below w.heap.size w w'):kK w' g G al rel ids rows alone mb rs m:=
 ⟨aj hb h.blk,aF h.oi hb,h.map.on hb,aF h.orows hb,h.rl,fun i r hr=>aF (h.each i r hr) hb,aF h.oal hb⟩
theorem sB.on {w w':World} {g:Nat} {G:List Int} {al:Nat→Bool} {rel:Nat→Nat→Bool} (h:sB w g G al rel) (hb:Below w.heap.size w w'):sB w' g G al rel:=by
 obtain⟨ids,rows,alone,mb,rs,h⟩:=h;exact⟨ids,rows,alone,mb,rs,h.on hb⟩
theorem aW.typed {w:World} {v:Nat} {s:ak} {T:List aT} (h:aW w v s T):∃c,w.heap[v]? =some (.cells c dH (0,0)):=by
 obtain⟨w0,x,tp,bp,mp,d,l,uses,hR⟩:=h;exact⟨_,hR.blk⟩
theorem aW.ne_cells {w:World} {v:Nat} {s:ak} {T:List aT} (h:aW w v s T) {k:Nat} {c:Array Value} {e:TypeId} {fz:Nat×Nat} (hk:w.heap[k]? =some (.cells c e fz)) (he:e≠dH):k≠v:=by
 obtain⟨c',hc⟩:=h.typed;rintro rfl;rw [hc]at hk;cases hk;exact he rfl
theorem aW.ne_map {w:World} {v:Nat} {s:ak} {T:List aT} (h:aW w v s T) {κ:Type} [DecidableEq κ] {kv:κ→Value} {r:Nat} {m:List (κ×Value)} (hm:br kv w r m):r≠v:=by
 obtain⟨c',hc⟩:=h.typed;rintro rfl;obtain⟨es,k,hk,_⟩:=hm;rw [hc]at hk;cases hk
theorem kK.touch {w w':World} {g:Nat} {G:List Int} {al:Nat→Bool} {rel:Nat→Nat→Bool} {ids rows alone:Sl} {mb:Nat} {rs:List Sl} {m:Nat} (h:kK w g G al rel ids rows alone mb rs m) {v:Nat} {s:ak} {T:List aT} (hV:aW w v s T) (t:aC v w w'):kK w' g G al rel ids rows alone mb rs m:=
 ⟨t.held (hV.ne_cells h.blk (by decide)) h.blk,hV.own_touch t h.oi (by decide),h.map.same (t.block mb h.map.lt (hV.ne_map h.map)),hV.own_touch t h.orows (by decide),h.rl,fun i r hr=>hV.own_touch t (h.each i r hr) (by decide),hV.own_touch t h.oal (by decide)⟩
theorem ij {w2 w3:World} {x u:Value} {e:TypeId} (hw:w3=w2.alloc (.cells #[x] e)) (hu:u.oneCell'=true) {k:World→Prop} (hk:∀w4,w4.heap[w2.heap.size]? =some (.cells #[u] e (0,0))→Below w2.heap.size w2 w4→k w4):u.oneCell'=true∧(∃y,w3.cell? (nb w2)=some y)∧w3.frozen? (nb w2)=false∧∀w4,w4=w3.setCell (nb w2) u→k w4:=
 uH (aS [x] [u] rfl (by intro y hy;rw [List.mem_singleton.1 hy];exact hu) w3 hw fun w4 h4 _ b4=>hk w4 h4 b4)
theorem bw {w:World} {b:Nat} {x:Value} {e:TypeId} {fz:Nat×Nat} (h:w.heap[b]? =some (.cells #[x] e fz)):w.cell? ⟨b,0,none⟩=some x:=aZ h
theorem gD {α:Type} {l:List α} {i:Nat} (h:i<l.length) (d:α):l.getD i d=l[i]:=by simp [List.getD,h]
theorem sw {s:ak} {T:List aT} (h1:iD T) (h2:s.right=true):256≤(bU s T).length∧(bU s T).length≤1032:=by
 have:=h1.most;have:=h1.len;have:=fX (cP h2).2.2.2.1;rw [gE];omega
theorem aC.put {v d j:Nat} {a b:World} (t:aC v a b) (hd:a.heap.size≤d) (u:Value):aC v a (b.setCell ((⟨d,0,none⟩:Addr).add j) u):=
 ⟨t.os,t.tape,t.output,by rw [ba];exact t.size,fun k hk hv=>by rw [aq (by rw [av];show k≠d;omega)];exact t.block k hk hv⟩
theorem aW.put {w:World} {v d j:Nat} {s:ak} {T:List aT} (h:aW w v s T) {c:Array Value} {e:TypeId} (hd:w.heap[d]? =some (.cells c e (0,0))) (he:b_≠e) (hv:v<d) (u:Value):aW (w.setCell ((⟨d,0,none⟩:Addr).add j) u) v s T:=by
 obtain⟨w0,x,tp,bp,mp,q,l,uses,hR⟩:=h;have hlt:=hR.lt;refine⟨w0,x,tp,bp,mp,q,l,uses,hR.parts,bv hR.below (by omega) u,hlt,by rw [aq (by rw [av];show v≠d;omega)];exact hR.blk,?_⟩;rcases hR.once with h |⟨h1,h2,h3⟩
 ·exact .inl h
 ·exact .inr ⟨h1,h2,bD h3 u (by rw [av];exact aE h3 hd he)⟩
theorem aW.growE {w w':World} {v:Nat} {s:ak} {T:List aT} (h:aW w v s T) {B:Nat} (hb:Below B w w') (hv:v<B) {B' n sz:Nat} {e:TypeId} {u:Value} {xs:List Value} (ho:w.ownsRow B' e sz u n xs) (he:b_≠e) (hk:∀k,k<w.heap.size→u.ownBlock≠some k→w'.heap[k]? =w.heap[k]?):aW w' v s T:=by
 obtain⟨w0,x,tp,bp,mp,d,l,uses,hR⟩:=h;have hlt:=hR.lt;refine⟨w0,x,tp,bp,mp,d,l,uses,hR.parts,hR.below.trans (hb.mono (by omega)),hlt,by rw [hb.block v hv];exact hR.blk,?_⟩;rcases hR.once with h |⟨h1,h2,h3⟩
 ·exact .inl h
 ·exact .inr ⟨h1,h2,aU h3 fun k hk3=>hk k (cB h3 k hk3).2 (cn h3 ho he k hk3)⟩
theorem Fz (w:World) (v:Nat) (s:ak) (T:List aT) (hV:aW w v s T) (t:Int) (ht:(aK s T).Has t):
  CP 43 #[.pointer (some ⟨v,0,none⟩),.int .i64 t] w fun e w'=>e= .returned (.bool (decide ((aK s T).Canon [t])))∧aW w' v s T∧aC v w w':=by
 have hP:∃x tp bp mp,bW w s T x tp bp mp:=by
  obtain⟨w0,x,tp,bp,mp,d,l,uses,hR⟩:=hV;exact⟨x,tp,bp,mp,hR.now⟩
 obtain⟨x,tp,bp,mp,hP⟩:=hP;refine(kn w v s T hV t).mono ?_;rintro e w1 ⟨rfl,h⟩;refine⟨?_,h⟩;congr 2;have:=gh hP ht;cases ha:fU s T t with
 |true=>exact(decide_eq_true (this.1 ha)).symm
 |false=>exact(decide_eq_false fun e=>by rw [this.2 e]at ha;cases ha).symm
theorem Fn (w:World) (v:Nat) (s:ak) (T:List aT) (hV:aW w v s T) (b0 b1:Nat) {e0 e1:TypeId} (ids:Sl) (G:List Int) (h0:w.heap[b0]? =some (.cells #[.pointer (some ⟨v,0,none⟩)] e0 (0,0))) (h1:w.heap[b1]? =some (.cells #[ids.v] e1 (0,0))) (oi:w.ownsRow 0 bh 1 ids.v ids.n (G.flatMap ay)) (hG:∀t∈G,(aK s T).Has t) (i:Nat) (hi:i<G.length):
  CP 59 #[.int .i64 (i:Int),.pointer (some ⟨b0,0,none⟩),.pointer (some ⟨b1,0,none⟩)] w fun e w'=>e= .returned (.bool (decide ((aK s T).Canon [G.getD i 0])))∧aW w' v s T∧aC v w w':=by
 refine aN (DE i (some ⟨b0,0,none⟩) (some ⟨b1,0,none⟩) w) ?_;intro w1 hw1;have b1':Below w.heap.size w w1:=by subst hw1;exact aO w
 have hls:=dk.of_own eL (aF oi b1');have hn:=hls.n;obtain⟨p,hp,c0⟩:=bQ hls.r hi rfl;refine af.mk _ rfl ⟨_,bw (aj b1' h0),af.mk _ rfl ⟨ids.a,ids.n,ids.c,bw (aj b1' h1),af.mk p hp ⟨by omega,by omega,_,c0,?_⟩⟩⟩;refine(Fz w1 v s T (hV.on b1') G[i] (hG _ (List.getElem_mem hi))).mono ?_;rintro e w2 ⟨rfl,hV2,t2⟩;refine⟨_,rfl,?_,hV2,(aC.of_below b1').trans t2⟩;rw [gD hi]
theorem FA (w:World) (v:Nat) (s:ak) (T:List aT) (hV:aW w v s T) (cg ci cv ca cids:Nat) {eg ei ev ea ed:TypeId} (g:Nat) (ids rows alone:Sl) (mb:Nat) (rs:List Sl) (m i k:Nat) (hb:v<cg∧v<ci∧v<cv∧v<ca∧v<cids)
  (hR:kK w g (bU s T) (uq s T) (gY s T) ids rows alone mb rs m) (hgh:∀t∈bU s T,(aK s T).Has t) (hgl:(bU s T).length≤1032)
  (h0:w.heap[cg]? =some (.cells #[.pointer (some ⟨g,0,none⟩)] eg (0,0))) (h1:w.heap[ci]? =some (.cells #[.int .i64 (i:Int)] ei (0,0))) (h2:w.heap[cv]? =some (.cells #[.pointer (some ⟨v,0,none⟩)] ev (0,0))) (h3:w.heap[ca]? =some (.cells #[.int .i64 ((bU s T).getD i 0)] ea (0,0))) (h4:w.heap[cids]? =some (.cells #[ids.v] ed (0,0)))
  (hi:i< (bU s T).length) (hk:k< (bU s T).length):
  CP 60 #[.int .i64 (k:Int),.pointer (some ⟨cg,0,none⟩),.pointer (some ⟨ci,0,none⟩),.pointer (some ⟨cv,0,none⟩),.pointer (some ⟨ca,0,none⟩),.pointer (some ⟨cids,0,none⟩)] w fun e w'=>e= .returned (.bool (gY s T i k))∧aW w' v s T∧aC v w w':=by
 refine aN (Eo k (some ⟨cg,0,none⟩) (some ⟨ci,0,none⟩) (some ⟨cv,0,none⟩) (some ⟨ca,0,none⟩) (some ⟨cids,0,none⟩) w) ?_;have hP:∃x tp bp mp,bW w s T x tp bp mp:=by
  obtain⟨w0,x,tp,bp,mp,d,l,uses,hR⟩:=hV;exact⟨x,tp,bp,mp,hR.now⟩
 obtain⟨x,tp,bp,mp,hP⟩:=hP;have hok:=pl hP;have hA:(aK s T).Has ((bU s T).getD i 0):=by rw [gD hi];exact hgh _ (List.getElem_mem hi)
 have hB:(aK s T).Has ((bU s T).getD k 0):=by rw [gD hk];exact hgh _ (List.getElem_mem hk)
 have hpair:gY s T i k=true→uq s T i=true∧uq s T k=true:=by
  intro h;have:=Voc.canon_append hok (P:=[(bU s T).getD i 0]) (Q:=[(bU s T).getD k 0]) (by
   intro t ht;simp only [List.cons_append,List.nil_append,List.mem_cons,List.not_mem_nil,or_false]at ht;rcases ht with rfl |rfl
   ·exact hA
   ·exact hB) (of_decide_eq_true h)
  exact⟨decide_eq_true this.1,decide_eq_true this.2⟩
 intro w1 hw1;have b1':Below w.heap.size w w1:=by subst hw1;exact aO w
 have t1:aC v w w1:=aC.of_below b1';have hR1:=hR.on b1';have hV1:=hV.on b1';have al1:=dk.of_own sH hR1.oal;refine af.mk _ rfl ⟨_,bw (aj b1' h0),af.mk _ rfl ⟨alone.a,alone.n,alone.c,by rw [aH hR1.blk];rfl,af.mk _ rfl ⟨_,bw (aj b1' h1),?_⟩⟩⟩;refine(lz w1 alone.a alone.n alone.c _ (uq s T) al1.r al1.n (by omega) i hi).mono ?_;rintro e w2 ⟨rfl,hw2⟩;rw [hw2];refine⟨_,rfl,ac.mk (fun ha=>?_) fun ha=>⟨?_,hV1,t1⟩⟩
 ·refine af.mk _ rfl ⟨_,bw (aj b1' h0),af.mk _ rfl ⟨alone.a,alone.n,alone.c,by rw [aH hR1.blk];rfl,?_⟩⟩;refine(lz w1 alone.a alone.n alone.c _ (uq s T) al1.r al1.n (by omega) k hk).mono ?_;rintro e w3 ⟨rfl,hw3⟩;rw [hw3];refine⟨_,rfl,ac.mk (fun hb=>?_) fun hb=>⟨?_,hV1,t1⟩⟩
  ·have hls:=dk.of_own eL hR1.oi;have hn:=hls.n;obtain⟨p,hp,c0⟩:=bQ hls.r hk rfl;refine af.mk _ rfl ⟨_,bw (aj b1' h2),af.mk _ rfl ⟨_,bw (aj b1' h3),af.mk _ rfl ⟨ids.a,ids.n,ids.c,bw (aj b1' h4),af.mk p hp ⟨by omega,by omega,_,c0,?_⟩⟩⟩⟩;rw [←gD hk 0];refine(C5 w1 v s T hV1 _ _ hA hB).mono ?_;rintro e w4 ⟨rfl,hV4,t4⟩;exact⟨_,rfl,rfl,hV4,t1.trans t4⟩
  ·cases hr:gY s T i k with
   |false=>rfl
   |true=>rw [(hpair hr).2]at hb;cases hb
 ·cases hr:gY s T i k with
  |false=>rfl
  |true=>rw [(hpair hr).1]at ha;cases ha
theorem eC {w:World} {B:Nat} {e:TypeId} {sz n:Nat} {u:Value} {xs:List Value} (h:w.ownsRow B e sz u n xs) {κ:Type} [DecidableEq κ] {kv:κ→Value} {r:Nat} {m:List (κ×Value)} (hm:br kv w r m):u.ownBlock≠some r:=by
 obtain⟨es,k,hk,_⟩:=hm;intro hb;rcases h.2 with⟨rfl,_⟩ |⟨g,cap,cur,rfl,_,hg,_⟩
 ·cases hb
 ·cases hb;rw [hk]at hg;cases hg
theorem FR {q w1 w2:World} {x y u z:Value} {e e':TypeId} (h1:w1=q.alloc (.cells #[x] e)) (h2:w2=w1.alloc (.cells #[y] e')) (hu:u.oneCell'=true) (hz:z.oneCell'=true) {k:World→Prop} (hk:∀w4,w4.heap[q.heap.size]? =some (.cells #[u] e (0,0))→w4.heap[w1.heap.size]? =some (.cells #[z] e' (0,0))→Below q.heap.size q w4→k w4):
  u.oneCell'=true∧(∃a,w2.cell? (nb q)=some a)∧w2.frozen? (nb q)=false∧∀w3,w3=w2.setCell (nb q) u→z.oneCell'=true∧(∃a,w3.cell? (nb w1)=some a)∧w3.frozen? (nb w1)=false∧∀w4,w4=w3.setCell (nb w1) z→k w4:=by
 have b1:Below q.heap.size q w1:=by subst h1;exact ah _ _
 have a1:w1.heap[q.heap.size]? =some (.cells #[x] e (0,0)):=by subst h1;exact ap _ _
 have b2:Below w1.heap.size w1 w2:=by subst h2;exact ah _ _
 have a2:w2.heap[w1.heap.size]? =some (.cells #[y] e' (0,0)):=by subst h2;exact ap _ _
 have a12:=aj b2 a1;have hlt:q.heap.size<w1.heap.size:=(Array.getElem?_eq_some_iff.1 a1).1;have b02:=ae b1 b2;refine⟨hu,⟨_,aZ a12⟩,bV a12,?_⟩;intro w3 h3;have a13:w3.heap[q.heap.size]? =some (.cells #[u] e (0,0)):=by subst h3;exact bO a12 u
 have a23:w3.heap[w1.heap.size]? =some (.cells #[y] e' (0,0)):=by subst h3;rw [aq (by show w1.heap.size≠q.heap.size;omega)];exact a2
 have b03:Below q.heap.size q w3:=by subst h3;exact b02.setCell (p:=nb q) (Nat.le_refl _) u
 refine⟨hz,⟨_,aZ a23⟩,bV a23,?_⟩;intro w4 h4;refine hk w4 ?_ ?_ ?_
 ·subst h4;rw [aq (by show q.heap.size≠w1.heap.size;omega)];exact a13
 ·subst h4;exact bO a23 z
 ·subst h4;exact b03.setCell (p:=nb w1) (Nat.le_of_lt hlt) z
def Ln (w:World) (v:Nat) (s:ak) (T:List aT) (most:Int) (u:Value) (w':World):Prop:=aW w' v s T∧aC v w w'∧(if(((bU s T).length*(bU s T).length:Nat):Int)>most then u= .tuple #[.pointer none,.int .i64 5]else ∃g,u= .tuple #[.pointer (some ⟨g,0,none⟩),.int .i64 0]∧sB w' g (bU s T) (uq s T) (gY s T)∧w.heap.size≤g)
set_option maxHeartbeats 2000000 in
theorem wN (w:World) (v:Nat) (s:ak) (T:List aT) (hV:aW w v s T) (hasc:(s.specials.map (·.1)).Pairwise (·< ·)) (most:Int):
  CP 14 #[.pointer (some ⟨v,0,none⟩),.int .i64 most] w fun e w'=>∃u,e= .returned u∧Ln w v s T most u w':=by
 refine CX (some ⟨v,0,none⟩) most w (Ln w v s T most) ?_;have hgb:256≤(bU s T).length∧(bU s T).length≤1032∧(∀t∈bU s T,(aK s T).Has t)∧(bU s T).Pairwise (·< ·):=by
  obtain⟨w0,x,tp,bp,mp,d,l,uses,hR⟩:=hV;have hP:=hR.now;exact⟨(sw hP.ok hP.right).1,(sw hP.ok hP.right).2,fun t ht=>(EJ hP t).1 ((n_ s T t).1 ht),lf hasc hP.ids⟩
 obtain⟨hg1,hg2,hgh,hgr⟩:=hgb;intro w1 hw1;have b1:Below w.heap.size w w1:=by subst hw1;exact ah _ _
 have l1:w1.heap[w.heap.size]? =some (.cells #[.pointer (some ⟨v,0,none⟩)] 31 (0,0)):=by subst hw1;exact ap _ _
 refine⟨_,bw l1,?_⟩;have hV1:=hV.on b1;refine(Aj w1 v s T hV1 hasc).mono ?_;rintro e w2 ⟨ids,rfl,oids,b2⟩;refine⟨_,_,_,rfl,?_⟩;intro w3 hw3;refine ij hw3 rfl ?_;intro w4 l4 b4;have b24:=ae b2 b4;have b14:=ae b1 b24;have oids4:=aX (aF oids b4) (Nat.zero_le _);have hin:=(dk.of_own eL oids4).n;have l14:=aj b24 l1;have hV4:=hV.on b14;refine⟨_,bw l14,ac.no rfl ⟨ids.a,ids.n,ids.c,bw l4,ids.a,ids.n,ids.c,bw l4,Ar.nat ((bU s T).length*(bU s T).length) (by rw [hin];simp) (by
  have:(bU s T).length*(bU s T).length≤1032*1032:=Nat.mul_le_mul hg2 hg2;omega) (ac.mk (fun hm=>⟨hV4,aC.of_below b14,?_⟩) fun hm=>?_)⟩⟩
 ·rw [if_pos (of_decide_eq_true hm)]
 have hm:=of_decide_eq_false hm;obtain⟨G,hG⟩:∃G,G=bU s T:=⟨_,rfl⟩;rw [←hG]at oids4 hin hg1 hg2 hgh hgr hm;obtain⟨n,hn⟩:∃n,n=G.length:=⟨_,rfl⟩;rw [←hn]at hin;refine⟨ids.a,ids.n,ids.c,bw l4,_,_,gG _,?_⟩;have b5:=ah w4 (.map #[] 0);have m5:br dJ (w4.alloc (.map #[] 0)) w4.heap.size (t_ []):=iL w4;obtain⟨w5,hw5⟩:∃w5,w5=w4.alloc (.map #[] 0):=⟨_,rfl⟩;rw [←hw5]at b5 m5;rw [←hw5];intro w6 hw6 w7 hw7;have b6:Below w5.heap.size w5 w6:=by subst hw6;exact ah _ _
 have g6:w6.heap[w5.heap.size]? =some (.cells #[ids.v,.map (some w4.heap.size),dZ.v,dZ.v] Ap (0,0)):=by subst hw6;exact ap _ _
 refine ij hw7 rfl ?_;intro w8 l8 b8;have b58:=ae b6 b8;have b48:=ae b5 b58;have b08:=ae b14 b48;have hz4:=b14.size;have hz5:=b5.size;have lt4:w4.heap.size<w5.heap.size:=m5.lt;have lt6:w5.heap.size<w6.heap.size:=(Array.getElem?_eq_some_iff.1 g6).1;have lt8:w6.heap.size<w8.heap.size:=(Array.getElem?_eq_some_iff.1 l8).1;have lt2:w2.heap.size<w4.heap.size:=(Array.getElem?_eq_some_iff.1 l4).1;have lt1:w.heap.size<w4.heap.size:=(Array.getElem?_eq_some_iff.1 l14).1;have hvl:=hV.lt;have boxes:∀ {q:World},Below (w4.heap.size) w8 q→q.heap[w.heap.size]? =some (.cells #[.pointer (some ⟨v,0,none⟩)] 31 (0,0))∧q.heap[w2.heap.size]? =some (.cells #[ids.v] cq (0,0)):=by
  intro q hq;exact⟨Below.keeps hq lt1 (aj b48 l14),Below.keeps hq lt2 (aj b48 l4)⟩
 refine⟨ids.a,ids.n,ids.c,bw (aj b48 l4),?_⟩;have oids8:=aF oids4 b48;have idsLt:∀k,ids.v.ownBlock=some k→k<w4.heap.size:=fun k hk=>(cB oids4 k hk).2;intro I hI;let Inv (i:Nat) (q:World):Prop:=br dJ q w4.heap.size (t_ (G.take i))∧(∀j,j≠w4.heap.size→q.heap[j]? =w8.heap[j]?)∧q.heap.size=w8.heap.size∧Below w4.heap.size w4 q;have key:=bj (α:=World) n Inv (fun i q=>I [.int .i64 (i:Int)] q) w8 ⟨by rw [List.take_zero];exact m5.on b58,fun _ _=>rfl,rfl,b48⟩ ?_ ?_
 ·exact key
 ·rintro i hi ih q ⟨hmap,hs,hz,hB⟩;have hiG:i<G.length:=by omega
  have oq:q.ownsRow 0 bh 1 ids.v ids.n (G.flatMap ay):=aU oids8 fun k hk=>hs k (by have:=idsLt k hk;omega);obtain⟨p,hp,c0⟩:=bQ (dk.of_own eL oq).r hiG rfl;have hlook:fh G[i] (t_ (G.take i))=none:=by
   rw [uO,List.idxOf?_eq_none_iff.2]
   ·rfl
   ·intro hmem;obtain⟨j,hj,e⟩:=List.mem_take_iff_getElem.1 hmem;have:=List.pairwise_iff_getElem.1 hgr j i (by omega) hiG (by omega);omega
  obtain⟨q',hr',hm',hs',hz',hB'⟩:=fo nI ou hmap G[i] (.int .i64 (i:Int)) hlook;refine hI _ _ (ac.yes (by simp;omega) (af.mk p hp ⟨by omega,by omega,_,c0,_,bw (by rw [hs w6.heap.size (by omega)];exact l8),af.mk _ rfl ⟨_,ai _ _ (by rw [hs w5.heap.size (by omega)];exact aj b8 g6) 1,q',hr',Ar.nat (i+1) rfl (by omega) (ih q' ⟨?_,fun j hj=>by rw [hs' j hj,hs j hj],by rw [hz',hz],hB' _ _ (Nat.le_refl _) hB⟩)⟩⟩));have e:t_ (G.take (i+1))=t_ (G.take i)++ [(G[i],.int .i64 (i:Int))]:=by
   rw [List.take_add_one,List.getElem?_eq_getElem hiG];have:=Fg (G.take i) G[i];rw [List.length_take,Nat.min_eq_left (by omega)]at this;exact this
  rw [e];exact hm'
 ·rintro q ⟨hmap,hs,hz,hB⟩;rw [List.take_of_length_le (by omega)]at hmap;refine hI _ _ (ac.no (by simp;omega) ?_);intro w11 hw11;have b11:Below q.heap.size q w11:=by subst hw11;exact aO q
  have hq8:Below w4.heap.size w8 q:=⟨by rw [hB.os, ←b48.os],by rw [hB.tape, ←b48.tape],by rw [hB.output, ←b48.output],by rw [hz];exact Nat.le_refl _,fun k hk=>hs k (by omega)⟩;have hq8':Below w4.heap.size w8 w11:=hq8.trans (b11.mono (by have:=hq8.size;omega));have hV11:aW w11 v s T:=(hV4.on b5 |> fun h5=>(hV4.on ⟨hB.os,hB.tape,hB.output,hB.size,hB.block⟩)).on b11;have t11:aC v w w11:=(aC.of_below b14).trans (aC.of_below (hB.trans (b11.mono hB.size)));have g11:=aj b11 (show q.heap[w5.heap.size]? =some (.cells #[ids.v,.map (some w4.heap.size),dZ.v,dZ.v] Ap (0,0)) by rw [hs _ (by omega)];exact aj b8 g6);have lg11:=aj b11 (show q.heap[w6.heap.size]? =_ by rw [hs _ (by omega)];exact l8);have bx11:=boxes hq8';have m11:=hmap.on b11;have o11:w11.ownsRow 0 bh 1 ids.v ids.n (G.flatMap ay):=aF (aU oids8 fun k hk=>hs k (by have:=idsLt k hk;omega)) b11;subst hG;have bxL:w.heap.size<w11.heap.size∧w2.heap.size<w11.heap.size∧w6.heap.size<w11.heap.size∧w5.heap.size<w11.heap.size:=⟨(Array.getElem?_eq_some_iff.1 bx11.1).1,(Array.getElem?_eq_some_iff.1 bx11.2).1,(Array.getElem?_eq_some_iff.1 lg11).1,(Array.getElem?_eq_some_iff.1 g11).1⟩;have sz2:w.heap.size≤w2.heap.size:=Nat.le_trans b1.size b2.size;refine⟨_,bw lg11,ids.a,ids.n,ids.c,bw bx11.2,?_⟩;refine(uM w11 ids.n _ (fun i=>uq s T i) v s T hV11 (by omega) ?_).mono ?_
  ·intro i hi q hVq tq;refine bZ (by kernel_rfl) ?_;exact Fn q v s T hVq w.heap.size w2.heap.size ids (bU s T) (tq.held (by omega) bx11.1) (tq.held (by omega) bx11.2) (hV11.own_touch tq o11 (by decide)) hgh i (by omega)
  rintro e w12 ⟨al,rfl,oal,hV12,t12⟩;rw [hin,hn]at oal;have lg12:=t12.held (by omega) lg11;have g12:=t12.held (by omega) g11;have x12:=t12.held (by omega) bx11.1;have y12:=t12.held (by omega) bx11.2;have o12:=hV11.own_touch t12 o11 (by decide);have m12:=m11.same (t12.block _ m11.lt (by omega));refine⟨al.a,al.n,al.c,rfl,⟨bw lg12,trivial⟩,af.mk _ rfl ⟨rfl,⟨_,by rw [aH g12];rfl⟩,be g12,?_⟩⟩;intro w13 hw13;have g13:w13.heap[w5.heap.size]? =some (.cells #[ids.v,.map (some w4.heap.size),dZ.v,al.v] Ap (0,0)):=by subst hw13;exact bF g12 _
  have hs13:∀j,j≠w5.heap.size→w13.heap[j]? =w12.heap[j]? :=by
   intro j hj;subst hw13;exact aq (by rw [av];exact hj)
  have hV13:aW w13 v s T:=by subst hw13;exact hV12.put g12 (by decide) (by omega) _
  have t13:aC v w w13:=by subst hw13;exact(t11.trans t12).put (by omega) _
  have lg13:w13.heap[w6.heap.size]? =_:=(hs13 _ (by omega)).trans lg12;have x13:w13.heap[w.heap.size]? =_:=(hs13 _ (by omega)).trans x12;have y13:w13.heap[w2.heap.size]? =_:=(hs13 _ (by omega)).trans y12;have hR13:kK w13 w5.heap.size (bU s T) (uq s T) (gY s T) ids dZ al w4.heap.size [] 0:=
   ⟨g13,aU o12 fun k hk=>hs13 k fun e=>aE o12 g12 (by decide) (by rw [hk,e]),m12.same (hs13 _ (by omega)),cX _ _ _ _ tb,rfl,(by intro i r h;cases h),aU (aX oal (Nat.zero_le _)) fun k hk=>hs13 k fun e=>aE oal g12 (by decide) (by rw [hk,e])⟩
  refine⟨ids.a,ids.n,ids.c,bw y13,?_⟩;intro I2 hI2;let Inv2 (i:Nat) (q:World):Prop:=∃rows rs,kK q w5.heap.size (bU s T) (uq s T) (gY s T) ids rows al w4.heap.size rs i∧q.ownsRow w.heap.size qz 1 rows.v rows.n (rs.flatMap tb)∧aW q v s T∧aC v w q∧q.heap[w6.heap.size]? =some (.cells #[.pointer (some (nb w5))] 42 (0,0))∧q.heap[w.heap.size]? =some (.cells #[.pointer (some ⟨v,0,none⟩)] 31 (0,0))∧q.heap[w2.heap.size]? =some (.cells #[ids.v] cq (0,0));have key2:=bj (α:=World) n Inv2 (fun i q=>I2 [.int .i64 (i:Int)] q) w13 ⟨dZ,[],hR13,cX _ _ _ _ tb,hV13,t13,lg13,x13,y13⟩ ?_ ?_
  ·exact key2
  ·rintro i hi ih z ⟨rows,rs,hR,orow,hVz,tz,lgz,xz,yz⟩;have hiG:i< (bU s T).length:=by omega
   have zb:w.heap.size<z.heap.size∧w2.heap.size<z.heap.size∧w6.heap.size<z.heap.size∧w5.heap.size<z.heap.size:=⟨(Array.getElem?_eq_some_iff.1 xz).1,(Array.getElem?_eq_some_iff.1 yz).1,(Array.getElem?_eq_some_iff.1 lgz).1,(Array.getElem?_eq_some_iff.1 hR.blk).1⟩;have hlz:=dk.of_own eL hR.oi;obtain⟨p,hp,c0⟩:=bQ hlz.r hiG rfl;have hnz:=hlz.n;refine hI2 _ _ (ac.yes (by simp;omega) (af.mk p hp ⟨by omega,by omega,_,c0,?_⟩));intro w15 hw15 w16 hw16;refine FR hw15 hw16 rfl rfl ?_;intro w18 bi18 ba18 b18;have zs15:z.heap.size<w15.heap.size:=by subst hw15;rw [aA];omega
   intro w19 hw19;have b19':Below w18.heap.size w18 w19:=by subst hw19;exact aO w18
   have b19:=ae b18 b19';have bi19:=aj b19' bi18;have ba19:=aj b19' ba18;have hR19:=hR.on b19;have hV19:=hVz.on b19;have lg19:=aj b19 lgz;have x19:=aj b19 xz;have y19:=aj b19 yz;have or19:=aF orow b19;have t19:aC v w w19:=tz.then_off b19 tz.size;refine⟨_,bw lg19,_,bw lg19,af.mk _ rfl ⟨rows.a,rows.n,rows.c,by rw [aH hR19.blk];rfl,ids.a,ids.n,ids.c,bw y19,?_⟩⟩;refine(uM w19 ids.n _ (fun k=>gY s T i k) v s T hV19 (by omega) ?_).mono ?_
   ·intro k hk q hVq tq;refine bZ (by kernel_rfl) ?_;refine FA q v s T hVq w6.heap.size z.heap.size w.heap.size w15.heap.size w2.heap.size w5.heap.size ids rows al w4.heap.size rs i i k ⟨by omega,by omega,by omega,by omega,by omega⟩ (hR19.touch hV19 tq) hgh hg2 (tq.held (by omega) lg19) (tq.held (by omega) bi19) (tq.held (by omega) x19) (tq.held (by omega) (by rw [gD hiG];exact ba19)) (tq.held (by omega) y19) hiG (by omega)
   rintro e w20 ⟨r,rfl,orw,hV20,t20⟩;rw [hin,hn]at orw;have hR20:=hR19.touch hV19 t20;have lg20:=t20.held (by omega) lg19;have x20:=t20.held (by omega) x19;have y20:=t20.held (by omega) y19;have or20:=hV19.own_touch t20 or19 (by decide);refine⟨r.a,r.n,r.c,rfl,⟨by rw [aH hR20.blk];rfl,trivial⟩,⟨bw lg20,trivial⟩,⟨bw lg20,trivial⟩,?_⟩;intro w21 hw21;have b21:Below w20.heap.size w20 w21:=by subst hw21;exact ah _ _
   have lg21:=aj b21 lg20;have wb:w.heap.size≤w20.heap.size:=(t19.trans t20).size;obtain⟨rows',w22,hn22,hrun,own22,hB22,hk22⟩:=Iz.push or20 r hw21 rfl wb (by have:=(dk.of_own Iz or20).n;have:=hR.rl;omega) (by decide);refine⟨⟨by rw [aH (aj b21 hR20.blk)];rfl,trivial⟩,⟨bw lg21,trivial⟩,⟨bw lg21,trivial⟩,rows'.a,rows'.n,rows'.c,w22,hrun,?_⟩;have kp:∀ {k:Nat} {o:Obj},w20.heap[k]? =some o→rows.v.ownBlock≠some k→w22.heap[k]? =some o:=fun {k o} h hne=>(hk22 k (Array.getElem?_eq_some_iff.1 h).1 hne).trans h;have lg22:=kp lg20 (aE or20 lg20 (by decide));have x22:=kp x20 (aE or20 x20 (by decide));have y22:=kp y20 (aE or20 y20 (by decide));have g22:=kp hR20.blk (aE or20 hR20.blk (by decide));have B22:=hB22 w20 (Below.refl _ _);have hV22:=hV20.growE B22 hvl or20 (by decide) hk22;have t22:aC v w w22:=(t19.trans t20).then_off B22 (Nat.le_refl _);refine⟨⟨bw lg22,trivial⟩,af.mk _ rfl ⟨rfl,⟨_,by rw [aH g22];rfl⟩,be g22,?_⟩⟩;intro w23 hw23;have hs23:∀j,j≠w5.heap.size→w23.heap[j]? =w22.heap[j]? :=by
    intro j hj;subst hw23;exact aq (by rw [av];exact hj)
   have same:∀ {B sz n:Nat} {e:TypeId} {u:Value} {xs:List Value},w20.ownsRow B e sz u n xs→e≠qz→e≠Ap→w23.ownsRow B e sz u n xs:=by
    intro B sz n e u xs h h1 h2;refine aU h fun k hk=>?_;rw [hs23 k fun e=>aE h hR20.blk h2 (by rw [hk,e])];exact hk22 k (cB h k hk).2 (cn h or20 h1 k hk)
   have own23:w23.ownsRow w.heap.size qz 1 rows'.v rows'.n ((rs++ [r]).flatMap tb):=aU own22 fun k hk=>hs23 k fun e=>aE own22 g22 (by decide) (by rw [hk,e]);refine Ar.nat (i+1) rfl (by omega) (ih w23 ⟨rows',rs++ [r],?_,own23,?_,?_,(hs23 _ (by omega)).trans lg22,(hs23 _ (by omega)).trans x22,(hs23 _ (by omega)).trans y22⟩)
   ·refine⟨by subst hw23;exact bF g22 _,same hR20.oi (by decide) (by decide),?_,aX own23 (Nat.zero_le _),by have:=hR.rl;simp;omega,?_,same hR20.oal (by decide) (by decide)⟩
    ·exact hR20.map.same ((hs23 _ (by omega)).trans (hk22 _ hR20.map.lt (eC or20 hR20.map)))
    ·intro j r' hj;have hrl:=hR.rl;by_cases h:j<rs.length
     ·rw [List.getElem?_append_left h]at hj;exact same (hR20.each j r' hj) (by decide) (by decide)
     ·have hji:j=i:=by
       have:=(List.getElem?_eq_some_iff.1 hj).1;simp at this;omega
      subst hji;rw [List.getElem?_append_right (by omega),hrl,Nat.sub_self]at hj;cases hj;exact same (aX orw (Nat.zero_le _)) (by decide) (by decide)
   ·subst hw23;exact hV22.put g22 (by decide) (by omega) _
   ·subst hw23;exact t22.put (by omega) _
  ·rintro z ⟨rows,rs,hR,orow,hVz,tz,lgz,xz,yz⟩;rw [hn]at hR;refine hI2 _ _ (ac.no (by simp;omega) ⟨_,bw lgz,hVz,tz,?_⟩);rw [if_neg (by have:=hm;rw [hn]at*;omega)];exact⟨w5.heap.size,rfl,⟨ids,rows,al,w4.heap.size,rs,hR⟩,by omega⟩
def s1 (x:Nat):Nat:=(x/2&&&6148914691236517205)+(x&&&6148914691236517205)
def s2 (x:Nat):Nat:=(x/4&&&3689348814741910323)+(x&&&3689348814741910323)
def s3 (x:Nat):Nat:=x/16+x
def s4 (x:Nat):Nat:=(x&&&1085102592571150095)+(x&&&1085102592571150095)/256
def s5 (x:Nat):Nat:=x+x/65536
theorem Q6 (x k:Nat) (hk:k≤64):Int.fdiv (x:Int) (2^(min (k:Int).toNat (IntKind.bits .u64)))=((x/2^k:Nat):Int):=by
 show Int.fdiv (x:Int) (2^(min k 64))=_;rw [Nat.min_eq_left hk,Int.fdiv_eq_ediv_of_nonneg _ (Int.pow_nonneg (by decide))];simp
theorem PP (x m:Nat) (hx:x<2^64) (hm:m<2^64):IntKind.wrap .u64 ((BitVec.ofInt (IntKind.bits .u64) (x:Int)&&&BitVec.ofInt (IntKind.bits .u64) (m:Int)).toNat:Int)=((x&&&m:Nat):Int):=by
 show IntKind.wrap .u64 ((BitVec.ofInt 64 (x:Int)&&&BitVec.ofInt 64 (m:Int)).toNat:Int)=_;rw [BitVec.toNat_and,jt _ hx,jt _ hm];exact jD _ (Nat.lt_of_le_of_lt Nat.and_le_left hx)
abbrev oR (w:World) (g:Nat) (s:ak) (T:List aT):Prop:=sB w g (bU s T) (uq s T) (gY s T)
def tP (s:ak) (T:List aT) (id:Int):Option Nat:=(bU s T).idxOf? id
theorem Eb {l:List Int} {a:Int} {i:Nat} (h:l.idxOf? a=some i):∃h:i<l.length,l[i]=a:=by
 have:=List.findIdx?_eq_some_iff_getElem.1 h;obtain⟨h1,h2,_⟩:=this;exact⟨h1,by simpa using h2⟩
theorem lH {s:ak} {T:List aT} {id:Int} {i:Nat} (h:tP s T id=some i):i< (bU s T).length∧(bU s T).getD i 0=id∧cY s T id=true:=by
 obtain⟨h1,h2⟩:=Eb h;exact⟨h1,by rw [gD h1];exact h2,(n_ s T id).1 (by rw [←h2];exact List.getElem_mem h1)⟩
theorem yR {s:ak} {T:List aT} {id:Int} (h:tP s T id=none):cY s T id=false:=by
 have h1:=List.idxOf?_eq_none_iff.1 h;cases hh:cY s T id with
 |false=>rfl
 |true=>exact absurd ((n_ s T id).2 hh) h1
theorem Kb {s:ak} {T:List aT} (id:Int):(tP s T id).isSome=cY s T id:=by
 cases h:tP s T id with
 |none=>exact(yR h).symm
 |some i=>exact(lH h).2.2.symm
def N7 (s:ak) (T:List aT) (id:Int):Bool:=cY s T id&&decide ((aK s T).Canon [id])
theorem N8:(Tryz.prog.info? bh).map (·.zero)=some (some (.int .i64 0)):=by kernel_rfl
theorem kR (w:World) (g:Nat) (s:ak) (T:List aT) (h:oR w g s T) (id:Int):
  CP 122 #[.pointer (some ⟨g,0,none⟩),.int .i64 id] w fun e w'=>e= .returned (.tuple #[.int .i64 (((tP s T id).getD 0:Nat):Int),.bool (tP s T id).isSome])∧w'=w:=by
 refine aN (BD (some ⟨g,0,none⟩) id w) ?_;obtain⟨ids,rows,alone,mb,rs,hR⟩:=h;refine ac.no rfl (af.mk _ rfl ⟨some mb,by rw [aH hR.blk];rfl,?_⟩);have hl:=eS nI ou N8 hR.map id;rw [uO]at hl;have e:((((bU s T).idxOf? id).map fun i:Nat=>Value.int .i64 (i:Int)).getD (.int .i64 0))= .int .i64 (((tP s T id).getD 0:Nat):Int):=by
  show _=Value.int .i64 ((((bU s T).idxOf? id).getD 0:Nat):Int);cases(bU s T).idxOf? id<;>rfl
 rw [e,Option.isSome_map]at hl;exact⟨_,_,w,hl,rfl,rfl⟩
theorem At (w:World) (g:Nat) (s:ak) (T:List aT) (h:oR w g s T) (hn:(bU s T).length≤1032) (id:Int):
  CP 68 #[.pointer (some ⟨g,0,none⟩),.int .i64 id] w fun e w'=>e= .returned (.bool (N7 s T id))∧w'=w:=by
 refine aN (EB (some ⟨g,0,none⟩) id w) ?_;refine(kR w g s T h id).mono ?_;rintro e w1 ⟨rfl,rfl⟩;obtain⟨ids,rows,alone,mb,rs,hR⟩:=h;refine⟨_,_,rfl,ac.mk (fun h1=>?_) fun h1=>⟨?_,rfl⟩⟩
 ·obtain⟨i,hi⟩:=Option.isSome_iff_exists.1 h1;obtain⟨hi1,hi2,hi3⟩:=lH hi;have al1:=dk.of_own sH hR.oal;refine af.mk _ rfl ⟨alone.a,alone.n,alone.c,by rw [aH hR.blk];rfl,?_⟩;rw [hi];refine(lz w1 alone.a alone.n alone.c _ (uq s T) al1.r al1.n (by omega) i hi1).mono ?_;rintro e w2 ⟨rfl,rfl⟩;refine⟨_,rfl,?_,rfl⟩;unfold N7 uq;rw [hi2,hi3,Bool.true_and]
 ·rw [Kb]at h1;unfold N7;rw [h1,Bool.false_and]
theorem J0 {s:ak} {T:List aT} {w:World} {g:Nat} {ids rows alone:Sl} {mb:Nat} {rs:List Sl} (hR:kK w g (bU s T) (uq s T) (gY s T) ids rows alone mb rs (bU s T).length) (i:Nat) (hi:i< (bU s T).length):∃(p:Addr) (r:Sl),rows.a=some p∧i<rows.n∧w.cell? (p.add (i*1))=some (.slice r.a r.n r.c)∧dk dh 1 w r (bo (bU s T).length (gY s T i)):=by
 have hls:=dk.of_own Iz hR.orows;have hl:=hR.rl;have hi2:i<rs.length:=by omega
 obtain⟨p,hp,c0⟩:=bQ hls.r hi2 (v:=rs[i].v) rfl;exact⟨p,rs[i],hp,by rw [hls.n];exact hi2,c0,dk.of_own sH (hR.each i _ (List.getElem?_eq_getElem hi2))⟩
theorem ry (w:World) (g:Nat) (s:ak) (T:List aT) (h:oR w g s T):
  CP 63 #[.pointer (some ⟨g,0,none⟩)] w fun e w'=>e= .returned (.int .i64 (((bU s T).length:Nat):Int))∧w'=w:=by
 refine aN (DX (some ⟨g,0,none⟩) w) ?_;obtain⟨ids,rows,alone,mb,rs,hR⟩:=h;refine ac.no rfl (af.mk _ rfl ⟨ids.a,ids.n,ids.c,by rw [aH hR.blk];rfl,?_,rfl⟩);rw [(dk.of_own eL hR.oi).n]
theorem Iq (w:World) (g:Nat) (s:ak) (T:List aT) (h:oR w g s T) (place:Int):
  CP 65 #[.pointer (some ⟨g,0,none⟩),.int .i64 place] w fun e w'=>e= .returned (if 0≤place∧place< ((bU s T).length:Int)then .tuple #[.int .i64 ((bU s T).getD place.toNat 0),.bool true]else .tuple #[.int .i64 0,.bool false])∧w'=w:=by
 refine aJ (Db (some ⟨g,0,none⟩) place w (fun u w'=>u=(if 0≤place∧place< ((bU s T).length:Int)then .tuple #[.int .i64 ((bU s T).getD place.toNat 0),.bool true]else .tuple #[.int .i64 0,.bool false])∧w'=w) ?_) (by rintro v w' ⟨rfl,h⟩;exact⟨rfl,h⟩);refine ac.mk (fun h1=>⟨?_,rfl⟩) fun h1=>?_
 ·rw [if_neg (by have:=of_decide_eq_true h1;omega)]
 have h1:=of_decide_eq_false h1;refine(ry w g s T h).mono ?_;rintro e w1 ⟨rfl,rfl⟩;refine⟨_,rfl,ac.mk (fun h2=>⟨?_,rfl⟩) fun h2=>?_⟩
 ·rw [if_neg (by have:=of_decide_eq_true h2;omega)]
 have h2:=of_decide_eq_false h2;obtain⟨ids,rows,alone,mb,rs,hR⟩:=h;obtain⟨i,rfl⟩:∃i:Nat,place=i:=⟨place.toNat,by omega⟩;have hi:i< (bU s T).length:=by omega
 have hls:=dk.of_own eL hR.oi;obtain⟨p,hp,c0⟩:=bQ hls.r hi rfl;have:=hls.n;refine af.mk _ rfl ⟨ids.a,ids.n,ids.c,by rw [aH hR.blk];rfl,af.mk p hp ⟨by omega,by omega,_,c0,?_,rfl⟩⟩;rw [if_pos ⟨by omega,by omega⟩];show _=Value.tuple #[.int .i64 ((bU s T).getD i 0),.bool true];rw [gD hi]
theorem AZ (w:World) (a:Option Addr) (c:Nat) (xs:List Int) (hr:Rw dh 1 w a xs) (hl:xs.length≤1000000000):
  CP 123 #[.slice a xs.length c] w fun e w'=>∃s:Sl,e= .returned s.v∧s.n=xs.length∧w'.ownsRow w.heap.size iE 1 s.v s.n (xs.flatMap dh)∧Below w.heap.size w w':=by
 refine aN (yF a xs.length c w) ?_;refine ac.mk (fun h0=>?_) fun h0=>?_
 ·have hx:xs= []:=by
   cases xs with
   |nil=>rfl
   |cons x t=>
    obtain⟨p,hp,_⟩:=hr 0 x rfl;rw [hp]at h0;cases h0
  subst hx;exact⟨⟨none,0,0⟩,rfl,rfl,cO _ _ _ _,Below.refl _ _⟩
 ·obtain⟨p,rfl⟩:∃p,a=some p:=by
   cases a with
   |none=>cases h0
   |some p=>exact⟨p,rfl⟩
  intro w1 hw1;obtain⟨A,C,w2,h2,h3,h4⟩:=jG (enc:=dh) (sz:=1) (fun _=>rfl) (by decide) (fun x u hu=>by rw [List.mem_singleton.1 hu];rfl) qz iE Dy vp rfl w ⟨some p,xs.length,c⟩ xs (.inr ⟨p,rfl⟩) hr rfl (by simp only;omega) (by simp only;omega) w1 hw1;exact⟨A,xs.length,C,w2,h2,⟨A,xs.length,C⟩,rfl,rfl,h3,h4⟩
theorem F' (w:World) (g:Nat) (s:ak) (T:List aT) (h:oR w g s T) (hn:(bU s T).length≤1032) (id:Int):
  CP 69 #[.pointer (some ⟨g,0,none⟩),.int .i64 id] w fun e w'=>Below w.heap.size w w'∧((tP s T id=none∧e= .returned (.slice none 0 0))∨∃i l,tP s T id=some i∧e= .returned (Sl.v l)∧w'.ownsRow w.heap.size iE 1 l.v l.n ((bo (bU s T).length (gY s T i)).flatMap dh)):=by
 refine aJ (D3 (some ⟨g,0,none⟩) id w (fun u w'=>Below w.heap.size w w'∧((tP s T id=none∧u= .slice none 0 0)∨∃i l,tP s T id=some i∧u=Sl.v l∧w'.ownsRow w.heap.size iE 1 l.v l.n ((bo (bU s T).length (gY s T i)).flatMap dh))) ?_) (by rintro v w' ⟨h1,⟨h2,rfl⟩ |⟨i,l,h2,rfl,h3⟩⟩;exact⟨h1,.inl ⟨h2,rfl⟩⟩;exact⟨h1,.inr ⟨i,l,h2,rfl,h3⟩⟩);refine(kR w g s T h id).mono ?_;rintro e w1 ⟨rfl,rfl⟩;obtain⟨ids,rows,alone,mb,rs,hR⟩:=h;refine⟨_,_,rfl,ac.mk (fun h1=>⟨Below.refl _ _,.inl ⟨?_,rfl⟩⟩) fun h1=>?_⟩
 ·cases hp:tP s T id with
  |none=>rfl
  |some i=>rw [hp]at h1;cases h1
 ·obtain⟨i,hi⟩:=Option.isSome_iff_exists.1 (by simpa using h1);obtain⟨hi1,hi2,hi3⟩:=lH hi;obtain⟨p,r,hp,hin,hc,hls⟩:=J0 hR i hi1;rw [hi];refine af.mk _ rfl ⟨rows.a,rows.n,rows.c,by rw [aH hR.blk];rfl,af.mk p hp ⟨by omega,by show((i:Nat):Int) <_;omega,r.a,r.n,r.c,hc,?_⟩⟩;rw [hls.n];refine(AZ w1 r.a r.c _ hls.r (by rw [cQ];omega)).mono ?_;rintro e w2 ⟨l,rfl,hl,ho,b2⟩;exact⟨l.a,l.n,l.c,rfl,b2,.inr ⟨i,l,rfl,rfl,ho⟩⟩
theorem Mj (w w1:World) (xs:List Int) (c:Array Value) (hc:c=(xs.map fun n=>Value.int .i64 n).toArray) (hw1:w1=w.alloc (.cells c bh)):Rw ay 1 w1 (some (nb w)) xs:=by
 intro j x hj;have l1:w1.heap[w.heap.size]? =some (.cells c bh (0,0)):=by subst hw1;exact ap _ _
 refine⟨nb w,rfl,(Array.getElem?_eq_some_iff.1 l1).1,fun k v hk=>?_⟩
 match k,hk with
 |0,hk=>
  cases hk;rw [au,Nat.mul_one,ai _ _ l1,hc];simp [hj]
theorem Ix {w:World} {v:Nat} {y:qv} {s:ak} {T:List aT} (h:Ac w v y s T):(bU s T).length≤1006∧(((bU s T).length*(bU s T).length:Nat):Int)≤1048576:=by
 have h1:=h.now.ok.most;have h2:=h.few;have h3:=h.ids;have hT:T.length≤1000:=h1;have hl:(bU s T).length≤1006:=by rw [gE];omega
 refine⟨hl,?_⟩;have:(bU s T).length*(bU s T).length≤1006*1006:=Nat.mul_le_mul hl hl;omega
section
variable {κ:Type} [DecidableEq κ] (k:Nat→κ)
def aM:Nat→List Nat
 |0=>[]
 |i+1=>match(aM i).findIdx? (fun a=>decide (k a=k i))with
  |some _=>aM i
  |none=>aM i++ [i]
def clsOf (i:Nat):Nat:=((aM k i).findIdx? (fun a=>decide (k a=k i))).getD (aM k i).length
variable {k}
theorem yo (i:Nat):aM k (i+1)=match(aM k i).findIdx? (fun a=>decide (k a=k i))with
  |some _=>aM k i
  |none=>aM k i++ [i]:=rfl
theorem jF:∀ {n:Nat} {a:Nat},a∈aM k n→a<n
 |0,a,h=>by cases h
 |n+1,a,h=>by
  unfold aM at h;split at h
  ·have:=jF h;omega
  ·rcases List.mem_append.1 h with h |h
   ·have:=jF h;omega
   ·rw [List.mem_singleton.1 h];omega
theorem rG:∀ {n:Nat} (d:Nat),∃t,aM k (n+d)=aM k n++t
 |n,0=>⟨[],by simp⟩
 |n,d+1=>by
  obtain⟨t,h⟩:=rG (n:=n) d;rw [←Nat.add_assoc,aM];split
  ·exact⟨t,h⟩
  ·exact⟨t++ [n+d],by rw [h,List.append_assoc]⟩
theorem ke:∀ {n:Nat} (c c':Nat) (h:c< (aM k n).length) (h':c'< (aM k n).length),k (aM k n)[c]=k (aM k n)[c']→c=c'
 |0,c,c',h,_,_=>absurd h (Nat.not_lt_zero c)
 |n+1,c,c',h,h',e=>by
  have key:(aM k (n+1)=aM k n)∨(aM k (n+1)=aM k n++ [n]∧∀a∈aM k n,k a≠k n):=by
   rw [yo];split
   ·exact .inl rfl
   ·next hh=>
    refine .inr ⟨rfl,fun a ha=>?_⟩;have:=List.findIdx?_eq_none_iff.1 hh a ha;simpa using this
  rcases key with hk |⟨hk,hn⟩
  ·simp only [hk]at h h' e;exact ke c c' h h' e
  ·simp only [hk]at h h' e;rw [List.length_append,List.length_singleton]at h h';by_cases h1:c< (aM k n).length
   ·by_cases h2:c'< (aM k n).length
    ·rw [List.getElem_append_left h1,List.getElem_append_left h2]at e;exact ke c c' h1 h2 e
    ·have:c'=(aM k n).length:=by omega
     subst this;rw [List.getElem_append_left h1,List.getElem_append_right (Nat.le_refl _)]at e;simp only [Nat.sub_self,List.getElem_singleton]at e;exact absurd e (hn _ (List.getElem_mem h1))
   ·have:c=(aM k n).length:=by omega
    subst this;by_cases h2:c'< (aM k n).length
    ·rw [List.getElem_append_left h2,List.getElem_append_right (Nat.le_refl _)]at e;simp only [Nat.sub_self,List.getElem_singleton]at e;exact absurd e.symm (hn _ (List.getElem_mem h2))
    ·omega
theorem eD (i:Nat):(∃c,(aM k i).findIdx? (fun a=>decide (k a=k i))=some c∧aM k (i+1)=aM k i∧clsOf k i=c∧∃h:c< (aM k i).length,k (aM k i)[c]=k i)∨((aM k i).findIdx? (fun a=>decide (k a=k i))=none∧aM k (i+1)=aM k i++ [i]∧clsOf k i=(aM k i).length∧∀a∈aM k i,k a≠k i):=by
 cases h:(aM k i).findIdx? (fun a=>decide (k a=k i))with
 |none=>
  refine .inr ⟨rfl,by rw [aM,h],by rw [clsOf,h];rfl,fun a ha=>?_⟩;have:=List.findIdx?_eq_none_iff.1 h a ha;simpa using this
 |some c=>
  obtain⟨h1,h2,_⟩:=List.findIdx?_eq_some_iff_getElem.1 h;exact .inl ⟨c,rfl,by rw [aM,h],by rw [clsOf,h];rfl,h1,by simpa using h2⟩
theorem Bg (i:Nat):clsOf k i≤(aM k i).length∧(aM k (i+1)).length=max (aM k i).length (clsOf k i+1):=by
 rcases eD (k:=k) i with⟨c,_,h2,h3,h4,_⟩ |⟨_,h2,h3,_⟩
 ·rw [h2,h3];omega
 ·rw [h2,h3,List.length_append,List.length_singleton];omega
theorem tm {n i:Nat} (hi:i<n):∃h:clsOf k i< (aM k n).length,k (aM k n)[clsOf k i]=k i:=by
 obtain⟨t,ht⟩:=rG (k:=k) (n:=i+1) (n- (i+1));rw [show i+1+(n- (i+1))=n by omega]at ht;have key:∃h:clsOf k i< (aM k (i+1)).length,k (aM k (i+1))[clsOf k i]=k i:=by
  rcases eD (k:=k) i with⟨c,_,h2,h3,h4,h5⟩ |⟨_,h2,h3,_⟩
  ·simp only [h2,h3];exact⟨h4,h5⟩
  ·simp only [h2,h3];exact⟨by simp,by simp⟩
 obtain⟨h1,h2⟩:=key;simp only [ht];exact⟨by rw [List.length_append];omega,by rw [List.getElem_append_left h1];exact h2⟩
theorem qM {n i j:Nat} (hi:i<n) (hj:j<n):clsOf k i=clsOf k j↔k i=k j:=by
 obtain⟨h1,h2⟩:=tm (k:=k) hi;obtain⟨h3,h4⟩:=tm (k:=k) hj;constructor
 ·intro e;rw [←h2, ←h4];simp only [e]
 ·intro e;exact ke _ _ h1 h3 (by rw [h2,h4,e])
end
open Go Go.Value
theorem EO (z:Nat):IntKind.wrap .u8 (z:Int)=(((UInt8.ofNat z).toNat:Nat):Int):=by
 rw [UInt8.toNat_ofNat'];unfold IntKind.wrap;rw [if_neg (by rw [show IntKind.u8.signed=false from rfl,Bool.false_and];exact Bool.false_ne_true)];rfl
def gN (s:ak) (T:List aT):Nat:=(bU s T).length
abbrev Ig (s:ak) (T:List aT):Prop:=(bU s T).Pairwise (·< ·)
theorem HN {s:ak} {T:List aT} (hr:Ig s T) {i:Nat} (hi:i<gN s T):tP s T ((bU s T).getD i 0)=some i:=by
 unfold tP;rw [gD hi];refine List.findIdx?_eq_some_iff_getElem.2 ⟨hi,by simp,fun j hj=>?_⟩;have:=List.pairwise_iff_getElem.1 hr j i (by unfold gN at hi;omega) hi hj;simp;omega
theorem MB {s:ak} {T:List aT} {i:Nat} (hi:i<gN s T):cY s T ((bU s T).getD i 0)=true:=(n_ s T _).1 (by rw [gD hi];exact List.getElem_mem hi)
theorem Mv {s:ak} {T:List aT} {i:Nat} (hi:i<gN s T):N7 s T ((bU s T).getD i 0)=uq s T i:=by
 unfold N7 uq;rw [MB hi,Bool.true_and]
theorem Mn (w:World) (g:Nat) (s:ak) (T:List aT) (h:oR w g s T) (i:Nat) (hi:i<gN s T):
  CP 65 #[.pointer (some ⟨g,0,none⟩),.int .i64 (i:Int)] w fun e w'=>e= .returned (.tuple #[.int .i64 ((bU s T).getD i 0),.bool true])∧w'=w:=by
 refine(Iq w g s T h i).mono ?_;rintro e w1 ⟨rfl,hw⟩;refine⟨?_,hw⟩;rw [if_pos ⟨by omega,by unfold gN at hi;omega⟩];rfl
abbrev jN:TypeId:=117
theorem CU:Tryz.prog.underlying jN=some (.slice b_):=by kernel_rfl
theorem Mm:(Tryz.prog.info? b_).map (fun i=>(i.zero,i.size,i.bytes))=some (some (.bool false),1,1):=by kernel_rfl
theorem Gd:E8 dS 1 jN b_ 1:=⟨fun _=>rfl,by decide,fun x u hu=>by rw [List.mem_singleton.1 hu];rfl,CU,_,Mm,rfl⟩
theorem j_ {κ κ':Type} [DecidableEq κ] [DecidableEq κ'] {k:Nat→κ} {k':Nat→κ'}:∀ {N:Nat},(∀i j,i<N→j<N→k' i=k' j→k i=k j)→(aM k N).Sublist (aM k' N)
 |0,_=>List.Sublist.refl _
 |N+1,h=>by
  have ih:=j_ (N:=N) fun i j hi hj=>h i j (by omega) (by omega);rcases eD (k:=k) N with⟨c,_,h2,_,_⟩ |⟨_,h2,_,h4⟩
  ·rw [h2];rcases eD (k:=k') N with⟨c',_,g2,_,_⟩ |⟨_,g2,_,_⟩
   ·rw [g2];exact ih
   ·rw [g2];exact ih.trans (List.sublist_append_left _ _)
  ·rw [h2];rcases eD (k:=k') N with⟨c',_,g2,_,hc,e⟩ |⟨_,g2,_,_⟩
   ·exfalso;have hm:=List.getElem_mem hc;have hl:=jF hm;obtain⟨q1,q2⟩:=tm (k:=k) hl;exact h4 _ (List.getElem_mem q1) (q2.trans (h _ _ (by omega) (by omega) e))
   ·rw [g2];exact ih.append (List.Sublist.refl _)
theorem lY {κ:Type} [DecidableEq κ] (k:Nat→κ):∀i,(aM k i).length≤i
 |0=>Nat.le_refl _
 |i+1=>by
  have h1:=Bg (k:=k) i;have h2:=lY k i;omega
theorem zS {κ κ':Type} [DecidableEq κ] [DecidableEq κ'] {k:Nat→κ} {k':Nat→κ'} {N:Nat} (h:∀i j,i<N→j<N→k' i=k' j→k i=k j) (hl:(aM k' N).length=(aM k N).length) {i j:Nat} (hi:i<N) (hj:j<N):k i=k j→k' i=k' j:=by
 have e:=(j_ h).eq_of_length hl.symm;intro hk;obtain⟨i1,i2⟩:=tm (k:=k') hi;obtain⟨j1,j2⟩:=tm (k:=k') hj;have mi:=jF (List.getElem_mem i1);have mj:=jF (List.getElem_mem j1);have ki:=h _ _ mi hi i2;have kj:=h _ _ mj hj j2;have:clsOf k' i=clsOf k' j:=ke (k:=k) _ _ (by rw [e];exact i1) (by rw [e];exact j1) (by simp only [e];rw [ki,kj,hk]);rw [←i2, ←j2];simp only [this]
def gg (x:Nat):List UInt8:=[UInt8.ofNat x,UInt8.ofNat (x/256)]
theorem BW {x y:Nat} (hx:x<65536) (hy:y<65536) (h:gg x=gg y):x=y:=by
 unfold gg at h;simp only [List.cons.injEq,and_true]at h;have a:=congrArg UInt8.toNat h.1;have b:=congrArg UInt8.toNat h.2;simp only [UInt8.toNat_ofNat']at a b;omega
theorem Ax:∀ {l m:List Nat},l.length=m.length→(∀x∈l,x<65536)→(∀x∈m,x<65536)→l.flatMap gg=m.flatMap gg→l=m
 | [],[],_,_,_,_=>rfl
 |x::l,y::m,hl,h1,h2,h=>by
  have e:gg x++l.flatMap gg=gg y++m.flatMap gg:=h;have:=List.append_inj e rfl;rw [BW (h1 x List.mem_cons_self) (h2 y List.mem_cons_self) this.1,Ax (by simpa using hl) (fun z hz=>h1 z (List.mem_cons_of_mem _ hz)) (fun z hz=>h2 z (List.mem_cons_of_mem _ hz)) this.2]
structure Aut where
 N:Nat
 n:Nat
 nxt:Nat→Nat→Nat
 good:Nat→Bool
structure Aut.Ok (M:Aut):Prop where
 lt:∀i k,i<M.N→k<M.n→M.nxt i k<M.N
 pos:0<M.N
 few:M.N≤60000
namespace Aut
variable (M:Aut)
def keyT (of:Nat→Nat) (i:Nat):List UInt8:=gg (of i)++((List.range M.n).map fun k=>of (M.nxt i k)).flatMap gg
def ofR:Nat→Nat→Nat
 |0=>clsOf M.good
 |r+1=>clsOf (M.keyT (ofR r))
def cntR:Nat→Nat
 |0=>(aM M.good M.N).length
 |r+1=>(aM (M.keyT (M.ofR r)) M.N).length
variable {M}
theorem keyT_iff {of:Nat→Nat} (h:∀i,i<M.N→of i<65536) (hM:M.Ok) {i j:Nat} (hi:i<M.N) (hj:j<M.N):M.keyT of i=M.keyT of j↔of i=of j∧∀k,k<M.n→of (M.nxt i k)=of (M.nxt j k):=by
 constructor
 ·intro e;have e:gg (of i)++_=gg (of j)++_:=e;have:=List.append_inj e rfl;refine⟨BW (h i hi) (h j hj) this.1,fun k hk=>?_⟩;have l:=Ax (by simp) (by intro x hx;obtain⟨k,hk,rfl⟩:=List.mem_map.1 hx;exact h _ (hM.lt _ _ hi (List.mem_range.1 hk))) (by intro x hx;obtain⟨k,hk,rfl⟩:=List.mem_map.1 hx;exact h _ (hM.lt _ _ hj (List.mem_range.1 hk))) this.2;have:=congrArg (fun l=>l[k]?) l;simpa [List.getElem?_range hk]using this
 ·rintro⟨h1,h2⟩;unfold keyT;rw [h1];congr 2;apply List.map_congr_left;intro k hk;exact h2 k (List.mem_range.1 hk)
theorem cls_lt {κ:Type} [DecidableEq κ] (k:Nat→κ) (i:Nat):clsOf k i≤i:=Nat.le_trans (Bg (k:=k) i).1 (lY k i)
theorem ofR_lt (hM:M.Ok) (r:Nat) {i:Nat} (hi:i<M.N):M.ofR r i<60000:=by
 have:=hM.few;cases r with
 |zero=>have:=cls_lt M.good i;unfold ofR;omega
 |succ r=>have:=cls_lt (M.keyT (M.ofR r)) i;unfold ofR;omega
theorem ofR_iff (hM:M.Ok) (r:Nat) {i j:Nat} (hi:i<M.N) (hj:j<M.N):M.ofR (r+1) i=M.ofR (r+1) j↔M.ofR r i=M.ofR r j∧∀k,k<M.n→M.ofR r (M.nxt i k)=M.ofR r (M.nxt j k):=by
 rw [←keyT_iff (fun i hi=>by have:=ofR_lt hM r hi;omega) hM hi hj];exact qM hi hj
theorem of0_iff {i j:Nat} (hi:i<M.N) (hj:j<M.N):M.ofR 0 i=M.ofR 0 j↔M.good i=M.good j:=qM hi hj
theorem ofR_good (hM:M.Ok):∀(r:Nat) {i j:Nat} (hi:i<M.N) (hj:j<M.N),M.ofR r i=M.ofR r j→M.good i=M.good j
 |0,i,j,hi,hj,h=>(of0_iff hi hj).1 h
 |r+1,i,j,hi,hj,h=>ofR_good hM r hi hj ((ofR_iff hM r hi hj).1 h).1
theorem cntR_le (r:Nat):M.cntR r≤M.N:=by
 cases r with
 |zero=>exact lY _ _
 |succ r=>exact lY _ _
theorem cntR_key (r:Nat):∃(κ:Type) (_:DecidableEq κ) (k:Nat→κ),M.ofR r=clsOf k∧M.cntR r=(aM k M.N).length:=by
 cases r with
 |zero=>exact⟨Bool,inferInstance,M.good,rfl,rfl⟩
 |succ r=>exact⟨List UInt8,inferInstance,M.keyT (M.ofR r),rfl,rfl⟩
theorem firsts_cls {κ:Type} [DecidableEq κ] {k:Nat→κ} {N:Nat}:(aM (clsOf k) N)=aM k N:=by
 have sub:∀ {κ κ':Type} [DecidableEq κ] [DecidableEq κ'] {k:Nat→κ} {k':Nat→κ'},(∀i j,i<N→j<N→k' i=k' j→k i=k j)→(aM k N).Sublist (aM k' N):=fun h=>j_ h;have a:=sub (k:=clsOf k) (k':=k) fun i j hi hj e=>(qM (k:=k) hi hj).2 e;have b:=sub (k:=k) (k':=clsOf k) fun i j hi hj e=>(qM (k:=k) hi hj).1 e;exact a.eq_of_length (Nat.le_antisymm a.length_le b.length_le)
theorem cntR_of (r:Nat):M.cntR r=(aM (M.ofR r) M.N).length:=by
 obtain⟨κ,_,k,h1,h2⟩:=cntR_key (M:=M) r;rw [h2,h1,firsts_cls]
theorem cntR_mono (hM:M.Ok) (r:Nat):M.cntR r≤M.cntR (r+1):=by
 rw [cntR_of,cntR_of];exact(j_ fun i j hi hj h=>((ofR_iff hM r hi hj).1 h).1).length_le
theorem ofR_stay (hM:M.Ok) {r:Nat} (h:M.cntR (r+1)=M.cntR r) {i j:Nat} (hi:i<M.N) (hj:j<M.N):M.ofR r i=M.ofR r j→M.ofR (r+1) i=M.ofR (r+1) j:=by
 rw [cntR_of,cntR_of]at h;exact zS (fun i j hi hj h=>((ofR_iff hM r hi hj).1 h).1) h hi hj
structure Bis (M:Aut) (R:Nat→Nat→Prop):Prop where
 good:∀i j,i<M.N→j<M.N→R i j→M.good i=M.good j
 next:∀i j k,i<M.N→j<M.N→k<M.n→R i j→R (M.nxt i k) (M.nxt j k)
theorem ofR_coarse (hM:M.Ok) {R:Nat→Nat→Prop} (hR:Bis M R):∀(r:Nat) {i j:Nat} (hi:i<M.N) (hj:j<M.N),R i j→M.ofR r i=M.ofR r j
 |0,i,j,hi,hj,h=>(of0_iff hi hj).2 (hR.good i j hi hj h)
 |r+1,i,j,hi,hj,h=>(ofR_iff hM r hi hj).2 ⟨ofR_coarse hM hR r hi hj h,fun k hk=>ofR_coarse hM hR r (hM.lt _ _ hi hk) (hM.lt _ _ hj hk) (hR.next i j k hi hj hk h)⟩
structure Cls (M:Aut) (of:Nat→Nat):Prop where
 lt:∀i,i<M.N→of i<M.N
 bis:Bis M fun i j=>of i=of j
 coarse:∀R,Bis M R→∀i j,i<M.N→j<M.N→R i j→of i=of j
theorem cls_done (hM:M.Ok) {r:Nat} (h:M.cntR (r+1)=M.cntR r):Cls M (M.ofR (r+1)):=by
 refine⟨fun i hi=>Nat.lt_of_le_of_lt (cls_lt _ _) hi,⟨fun i j hi hj e=>ofR_good hM _ hi hj e,fun i j k hi hj hk e=>?_⟩,fun R hR i j hi hj e=>ofR_coarse hM hR _ hi hj e⟩;exact ofR_stay hM h (hM.lt _ _ hi hk) (hM.lt _ _ hj hk) (((ofR_iff hM r hi hj).1 e).2 k hk)
def visit (of:Nat→Nat) (l:List Nat) (x:Nat):List Nat:=if of x∈l.map of then l else l++ [x]
def scan (M:Aut) (of:Nat→Nat) (l:List Nat) (s:Nat):Nat→List Nat
 |0=>l
 |k+1=>visit of (scan M of l s k) (M.nxt s k)
def metF (M:Aut) (of:Nat→Nat):Nat→List Nat
 |0=>[0]
 |i+1=>match(metF M of i)[i]? with
  |some s=>scan M of (metF M of i) s M.n
  |none=>metF M of i
inductive Reach (M:Aut):Nat→Prop
 |zero:Reach M 0
 |next {i k:Nat}:Reach M i→k<M.n→Reach M (M.nxt i k)
structure Mid (M:Aut) (of:Nat→Nat) (l:List Nat):Prop where
 nodup:(l.map of).Nodup
 lt:∀x∈l,x<M.N
 reach:∀x∈l,Reach M x
 zero:l[0]? =some 0
theorem visit_pre (of:Nat→Nat) (l:List Nat) (x:Nat):l<+:visit of l x:=by
 unfold visit;split
 ·exact List.prefix_refl _
 ·exact List.prefix_append _ _
theorem visit_in (of:Nat→Nat) (l:List Nat) (x:Nat):of x∈(visit of l x).map of:=by
 unfold visit;split
 ·assumption
 ·simp
theorem Mid.visit {of:Nat→Nat} {l:List Nat} (h:Mid M of l) {x:Nat} (hx:x<M.N) (hr:Reach M x):Mid M of (visit of l x):=by
 unfold Aut.visit;split
 ·exact h
 ·next hn=>
  refine⟨?_,?_,?_,?_⟩
  ·rw [List.map_append,List.nodup_append];refine⟨h.nodup,by simp,?_⟩;intro a ha b hb e;simp at hb;subst hb;subst e;exact hn ha
  ·intro y hy;rcases List.mem_append.1 hy with hy |hy
   ·exact h.lt y hy
   ·rw [List.mem_singleton.1 hy];exact hx
  ·intro y hy;rcases List.mem_append.1 hy with hy |hy
   ·exact h.reach y hy
   ·rw [List.mem_singleton.1 hy];exact hr
  ·have:=h.zero;have hl:=(List.getElem?_eq_some_iff.1 this).1;rw [List.getElem?_append_left hl];exact this
theorem scan_pre (of:Nat→Nat) (l:List Nat) (s:Nat):∀k,l<+:scan M of l s k
 |0=>List.prefix_refl _
 |k+1=>(scan_pre of l s k).trans (visit_pre _ _ _)
theorem scan_mono (of:Nat→Nat) (l:List Nat) (s k:Nat):∀d,scan M of l s k<+:scan M of l s (k+d)
 |0=>List.prefix_refl _
 |d+1=>(scan_mono of l s k d).trans (visit_pre _ _ _)
theorem pre_map {of:Nat→Nat} {l m:List Nat} (h:l<+:m) {x:Nat} (hx:x∈l.map of):x∈m.map of:=by
 obtain⟨t,rfl⟩:=h;rw [List.map_append];exact List.mem_append_left _ hx
theorem scan_hit (of:Nat→Nat) (l:List Nat) (s:Nat) {k n:Nat} (hk:k<n):of (M.nxt s k)∈(scan M of l s n).map of:=by
 have:=scan_mono (M:=M) of l s (k+1) (n- (k+1));rw [show k+1+(n- (k+1))=n by omega]at this;exact pre_map this (visit_in of _ _)
theorem Mid.scan (hM:M.Ok) {of:Nat→Nat} {l:List Nat} (h:Mid M of l) {s:Nat} (hs:s∈l):∀ {k:Nat},k≤M.n→Mid M of (scan M of l s k)
 |0,_=>h
 |k+1,hk=>(Mid.scan hM h hs (k:=k) (by omega)).visit (hM.lt _ _ (h.lt s hs) (by omega)) (.next (h.reach s hs) (by omega))
theorem metF_pre (of:Nat→Nat) (i:Nat):metF M of i<+:metF M of (i+1):=by
 rw [metF];split
 ·exact scan_pre _ _ _ _
 ·exact List.prefix_refl _
theorem metF_mid (hM:M.Ok) (of:Nat→Nat):∀i,Mid M of (metF M of i)
 |0=>⟨by simp [metF],by intro x hx;simp [metF]at hx;subst hx;exact hM.pos,by intro x hx;simp [metF]at hx;subst hx;exact .zero,rfl⟩
 |i+1=>by
  rw [metF];split
  ·next s hs=>exact(metF_mid hM of i).scan hM (List.mem_of_getElem? hs) (Nat.le_refl _)
  ·exact metF_mid hM of i
theorem metF_in (of:Nat→Nat):∀ {i j s:Nat},j<i→(metF M of i)[j]? =some s→∀ {k},k<M.n→of (M.nxt s k)∈(metF M of i).map of
 |0,_,_,h,_,_,_=>absurd h (Nat.not_lt_zero _)
 |i+1,j,s,hj,hs,k,hk=>by
  by_cases e:j< (metF M of i).length
  ·have hs':(metF M of i)[j]? =some s:=by
    obtain⟨t,ht⟩:=metF_pre (M:=M) of i;rw [←ht,List.getElem?_append_left e]at hs;exact hs
   by_cases ej:j=i
   ·subst ej;rw [metF,hs'];exact scan_hit of _ _ hk
   ·exact pre_map (metF_pre of i) (metF_in of (by omega) hs' hk)
  ·have hn:(metF M of i)[i]? =none:=List.getElem?_eq_none_iff.2 (by omega);have:metF M of (i+1)=metF M of i:=by rw [metF,hn]
   rw [this]at hs;have:=(List.getElem?_eq_some_iff.1 hs).1;omega
theorem metF_end (of:Nat→Nat) {i:Nat} (h:(metF M of i).length≤i):∀d,metF M of (i+d)=metF M of i
 |0=>rfl
 |d+1=>by
  have ih:=metF_end of h d;rw [←Nat.add_assoc,metF,ih,List.getElem?_eq_none_iff.2 (by omega)]
end Aut
theorem Ao {α:Type} [DecidableEq α]:∀ {l m:List α},l.Nodup→(∀x∈l,x∈m)→l.length≤m.length
 | [],_,_,_=>Nat.zero_le _
 |x::l,m,h,hs=>by
  have hx:=hs x List.mem_cons_self;have h':=List.nodup_cons.1 h;have:=Ao (l:=l) (m:=m.erase x) h'.2 fun y hy=>by
   have:y≠x:=fun e=>h'.1 (e▸hy);exact(List.mem_erase_of_ne this).2 (hs y (List.mem_cons_of_mem _ hy))
  rw [List.length_erase_of_mem hx]at this;have:=List.length_pos_of_mem hx;rw [List.length_cons];omega
namespace Aut
variable {M:Aut}
def metL (M:Aut) (of:Nat→Nat):List Nat:=metF M of M.N
theorem met_few (hM:M.Ok) {of:Nat→Nat} (h:∀i,i<M.N→of i<M.N) (i:Nat):(metF M of i).length≤M.N:=by
 have m:=metF_mid hM of i;have:=Ao (m:=List.range M.N) m.nodup fun x hx=>by
  obtain⟨y,hy,rfl⟩:=List.mem_map.1 hx;exact List.mem_range.2 (h y (m.lt y hy))
 simpa using this
theorem met_done (hM:M.Ok) {of:Nat→Nat} (h:∀i,i<M.N→of i<M.N) {i:Nat} (hi:(metF M of i).length≤i):metF M of i=metL M of:=by
 unfold metL;by_cases e:i≤M.N
 ·have:=metF_end (M:=M) of hi (M.N-i);rw [show i+(M.N-i)=M.N by omega]at this;exact this.symm
 ·have:=metF_end (M:=M) of (met_few hM h M.N) (i-M.N);rw [show M.N+(i-M.N)=i by omega]at this;exact this
theorem met_mid (hM:M.Ok) (of:Nat→Nat):Mid M of (metL M of):=metF_mid hM of _
theorem met_in (hM:M.Ok) {of:Nat→Nat} (h:∀i,i<M.N→of i<M.N) {j s:Nat} (hs:(metL M of)[j]? =some s) {k:Nat} (hk:k<M.n):of (M.nxt s k)∈(metL M of).map of:=by
 have:=met_few hM h M.N;have hl:=(List.getElem?_eq_some_iff.1 hs).1;exact metF_in of (by unfold metL at hl;omega) hs hk
theorem met_pos (hM:M.Ok) (of:Nat→Nat):0< (metL M of).length:=(List.getElem?_eq_some_iff.1 (met_mid hM of).zero).1
def least (M:Aut) (of:Nat→Nat):Aut where
 N:=(metL M of).length
 n:=M.n
 nxt p k:=((metL M of).map of).idxOf (of (M.nxt ((metL M of).getD p 0) k))
 good p:=M.good ((metL M of).getD p 0)
theorem getD_at {l:List Nat} {p:Nat} (hp:p<l.length):l.getD p 0=l[p]:=by simp [List.getD,hp]
theorem least_ok (hM:M.Ok) {of:Nat→Nat} (h:∀i,i<M.N→of i<M.N):(least M of).Ok:=by
 refine⟨fun p k hp hk=>?_,met_pos hM of,Nat.le_trans (met_few hM h _) hM.few⟩;change p< (metL M of).length at hp;change k<M.n at hk;show((metL M of).map of).idxOf _< (metL M of).length;rw [getD_at hp];have:=List.idxOf_lt_length_of_mem (met_in hM h (List.getElem?_eq_getElem hp) hk);rwa [List.length_map]at this
theorem least_at (hM:M.Ok) {of:Nat→Nat} (h:∀i,i<M.N→of i<M.N) {p k:Nat} (hp:p< (least M of).N) (hk:k<M.n):of ((metL M of).getD ((least M of).nxt p k) 0)=of (M.nxt ((metL M of).getD p 0) k):=by
 have hlt:=(least_ok hM h).lt p k hp hk;change p< (metL M of).length at hp;have hm:=met_in hM h (List.getElem?_eq_getElem hp) hk;rw [getD_at hlt];have e:((metL M of).map of)[((metL M of).map of).idxOf (of (M.nxt (metL M of)[p] k))]'(List.idxOf_lt_length_of_mem hm)=of (M.nxt (metL M of)[p] k):=List.getElem_idxOf _;rw [List.getElem_map]at e;show of ((metL M of)[((metL M of).map of).idxOf (of (M.nxt ((metL M of).getD p 0) k))])=_;simp only [getD_at hp];exact e
structure Sim (M:Aut) (of:Nat→Nat) (x p:Nat):Prop where
 hx:x<M.N
 hp:p< (least M of).N
 e:of x=of ((metL M of).getD p 0)
theorem getD_lt (hM:M.Ok) (of:Nat→Nat) {p:Nat} (hp:p< (metL M of).length):(metL M of).getD p 0<M.N:=by
 rw [getD_at hp];exact(met_mid hM of).lt _ (List.getElem_mem hp)
theorem Sim.good {of:Nat→Nat} {x p:Nat} (h:Sim M of x p) (hM:M.Ok) (hc:Cls M of):(least M of).good p=M.good x:=(hc.bis.good _ _ h.hx (getD_lt hM of h.hp) h.e).symm
theorem Sim.next {of:Nat→Nat} {x p:Nat} (h:Sim M of x p) (hM:M.Ok) (hc:Cls M of) {k:Nat} (hk:k<M.n):Sim M of (M.nxt x k) ((least M of).nxt p k):=
 ⟨hM.lt _ _ h.hx hk,(least_ok hM hc.lt).lt _ _ h.hp hk,by rw [least_at hM hc.lt h.hp hk];exact hc.bis.next _ _ _ h.hx (getD_lt hM of h.hp) hk h.e⟩
theorem Sim.zero (hM:M.Ok) (of:Nat→Nat):Sim M of 0 0:=⟨hM.pos,met_pos hM of,by
 have:=(met_mid hM of).zero;rw [List.getD,this];rfl⟩
theorem least_inj (hM:M.Ok) {of:Nat→Nat} {p q:Nat} (hp:p< (least M of).N) (hq:q< (least M of).N) (e:of ((metL M of).getD p 0)=of ((metL M of).getD q 0)):p=q:=by
 change p< (metL M of).length at hp;change q< (metL M of).length at hq;rw [getD_at hp,getD_at hq]at e;have hn:=List.pairwise_iff_getElem.1 (met_mid hM of).nodup;rcases Nat.lt_trichotomy p q with h |h |h
 ·exact absurd (by rw [List.getElem_map,List.getElem_map];exact e) (hn p q (by simpa using hp) (by simpa using hq) h)
 ·exact h
 ·exact absurd (by rw [List.getElem_map,List.getElem_map];exact e.symm) (hn q p (by simpa using hq) (by simpa using hp) h)
theorem least_cls (hM:M.Ok) {of of':Nat→Nat} (hc:Cls M of) (hc':Cls (least M of) of') {p q:Nat} (hp:p< (least M of).N) (hq:q< (least M of).N) (e:of' p=of' q):p=q:=by
 refine least_inj hM hp hq (hc.coarse (fun i j=>∃p q,Sim M of i p∧Sim M of j q∧of' p=of' q) ⟨?_,?_⟩ _ _ (getD_lt hM of hp) (getD_lt hM of hq) ⟨p,q,⟨getD_lt hM of hp,hp,rfl⟩,⟨getD_lt hM of hq,hq,rfl⟩,e⟩)
 ·rintro i j hi hj ⟨p,q,s1,s2,e⟩;rw [←s1.good hM hc, ←s2.good hM hc];exact hc'.bis.good _ _ s1.hp s2.hp e
 ·rintro i j k hi hj hk ⟨p,q,s1,s2,e⟩;exact⟨_,_,s1.next hM hc hk,s2.next hM hc hk,hc'.bis.next _ _ _ s1.hp s2.hp hk e⟩
end Aut
def CL (n:Nat) (al:Nat→Bool) (rel:Nat→Nat→Bool) (i k:Nat):Bool:=if i=0 then al k else if i≤n then rel (i-1) k else false
def E1 (n:Nat) (al:Nat→Bool) (rel:Nat→Nat→Bool):Aut where
 N:=n+2
 n:=n
 nxt i k:=if CL n al rel i k then k+1 else n+1
 good i:=decide (i≤n)
section
variable {n:Nat} {al:Nat→Bool} {rel:Nat→Nat→Bool}
open Aut
theorem EP (hn:n≤50000):(E1 n al rel).Ok:=⟨fun i k hi hk=>by
 change i<n+2 at hi;change k<n at hk;show(if CL n al rel i k then k+1 else n+1) <n+2;split<;>omega,by show 0<n+2;omega,by show n+2≤60000;omega⟩
end
def Qv (a:OA) (b:Int) (w:World) (R:RW):Prop:=
 ∀c,c=w.alloc (.cells #[pointer a] 42)→
 ∃d,c.cell? (nb w)=some (pointer d)∧
 CP 63 #[pointer d] c (fun f g=>
 ∃h,f= .returned (int .i64 h)∧
 ∃i,g.cell? (nb w)=some (pointer i)∧
 ac (Option.isNone i)
 (R (tuple #[pointer none,int .i64 1]) g)
 (Ar .i64 (h+2) (fun j=>
 Ar .i64 (j*h) (fun k=>
 ac (decide (k>b))
 (R (tuple #[pointer none,int .i64 5]) g)
 (∃l,g.cell? (nb w)=some (pointer l)∧
 ∀m,m=g.alloc (.cells #[pointer l,slice none 0 0,slice none 0 0,int .u32 0,int .i32 0,int .u32 0,slice none 0 0] 133)→
 Ar .i64 (h+1) (fun n=>
 ∀o,o=m.alloc (.cells #[Value.nilFunc] 135)→
 (func (.func 64) #[] #[pointer (some (nb w))]).oneCell'=true∧(∃u,o.cell? (nb m)=some u)∧o.frozen? (nb m)=false∧
 ∀p,p=(o.setCell (nb m) (func (.func 64) #[] #[pointer (some (nb w))]))→
 ∀q,q=p.drew→
 ∃r s t,q.cell? ((nb g).add 1)=some (slice r s t)∧
 CP 66 #[int .i64 h,int .i64 n,func (.func 67) #[] #[pointer (some (nb w)),pointer (some (nb m))]] q (fun x y=>
 ∃z a1 b1,x= .returned (slice z a1 b1)∧
 (y.cell? ((nb g).add 1)=some (slice r s t)∧True)∧
 ∀c1,c1=y.alloc (.cells #[slice z a1 b1] 28)→
 (c1.cell? ((nb g).add 1)=some (slice r s t)∧True)∧
 ∃d1 e1 f1 g1,(Builtin.append_ #[116,116] 116 #[slice r s t,slice (some (nb y)) 1 1]).run Tryz.prog c1= .ok (slice d1 e1 f1) g1∧
 (slice d1 e1 f1).oneCell'=true∧(∃u,g1.cell? ((nb g).add 1)=some u)∧g1.frozen? ((nb g).add 1)=false∧
 ∀h1,h1=(g1.setCell ((nb g).add 1) (slice d1 e1 f1))→
 ∀i1:KW,(∀(j1:Int) (k1:World),(ac (decide (j1<h))
 (∀l1,l1=k1.drew→
 ∃m1,l1.cell? (nb w)=some (pointer m1)∧
 ∃n1,l1.cell? (nb m)=some (n1)∧
 (bE gJ n1 [int .i64 j1] l1 (fun o1 p1=>
 ∃q1,o1= .returned (int .i64 q1)∧
 (p1.cell? (nb w)=some (pointer m1)∧True)∧
 (CP 69 #[pointer m1,int .i64 q1] p1 (fun r1 s1=>
 ∃t1 u1 v1,r1= .returned (slice t1 u1 v1)∧
 ∀x1,x1=s1.alloc (.cells #[slice none 0 0] 110)→
 (slice t1 u1 v1).oneCell'=true∧(∃u,x1.cell? (nb s1)=some u)∧x1.frozen? (nb s1)=false∧
 ∀y1,y1=(x1.setCell (nb s1) (slice t1 u1 v1))→
 ∀z1,z1=y1.drew→
 ∃a2 b2 c2,z1.cell? ((nb g).add 1)=some (slice a2 b2 c2)∧
 CP 66 #[int .i64 h,int .i64 n,func (.func 70) #[] #[pointer (some (nb s1))]] z1 (fun d2 e2=>
 ∃f2 g2 h2,d2= .returned (slice f2 g2 h2)∧
 (e2.cell? ((nb g).add 1)=some (slice a2 b2 c2)∧True)∧
 ∀i2,i2=e2.alloc (.cells #[slice f2 g2 h2] 28)→
 (i2.cell? ((nb g).add 1)=some (slice a2 b2 c2)∧True)∧
 ∃j2 k2 l2 m2,(Builtin.append_ #[116,116] 116 #[slice a2 b2 c2,slice (some (nb e2)) 1 1]).run Tryz.prog i2= .ok (slice j2 k2 l2) m2∧
 (slice j2 k2 l2).oneCell'=true∧(∃u,m2.cell? ((nb g).add 1)=some u)∧m2.frozen? ((nb g).add 1)=false∧
 ∀n2,n2=(m2.setCell ((nb g).add 1) (slice j2 k2 l2))→
 Ar .i64 (j1+1) (fun o2=>
 i1 [int .i64 o2] n2))))∧
 (∀p2,p2=p1.alloc (.cells #[slice none 0 0] 110)→
 (p2.cell? (nb w)=some (pointer m1)∧True)∧
 CP 69 #[pointer m1,int .i64 q1] p2 (fun q2 r2=>
 ∃s2 t2 u2,q2= .returned (slice s2 t2 u2)∧
 (slice s2 t2 u2).oneCell'=true∧(∃u,r2.cell? (nb p1)=some u)∧r2.frozen? (nb p1)=false∧
 ∀v2,v2=(r2.setCell (nb p1) (slice s2 t2 u2))→
 ∀x2,x2=v2.drew→
 ∃y2 z2 a3,x2.cell? ((nb g).add 1)=some (slice y2 z2 a3)∧
 CP 66 #[int .i64 h,int .i64 n,func (.func 70) #[] #[pointer (some (nb p1))]] x2 (fun b3 c3=>
 ∃d3 e3 f3,b3= .returned (slice d3 e3 f3)∧
 (c3.cell? ((nb g).add 1)=some (slice y2 z2 a3)∧True)∧
 ∀g3,g3=c3.alloc (.cells #[slice d3 e3 f3] 28)→
 (g3.cell? ((nb g).add 1)=some (slice y2 z2 a3)∧True)∧
 ∃h3 i3 j3 k3,(Builtin.append_ #[116,116] 116 #[slice y2 z2 a3,slice (some (nb c3)) 1 1]).run Tryz.prog g3= .ok (slice h3 i3 j3) k3∧
 (slice h3 i3 j3).oneCell'=true∧(∃u,k3.cell? ((nb g).add 1)=some u)∧k3.frozen? ((nb g).add 1)=false∧
 ∀l3,l3=(k3.setCell ((nb g).add 1) (slice h3 i3 j3))→
 Ar .i64 (j1+1) (fun m3=>
 i1 [int .i64 m3] l3))))))∧
 (∀n3,n3=l1.alloc (.cells #[slice none 0 0] 110)→
 (n3.cell? (nb m)=some (n1)∧True)∧
 (n3.cell? (nb w)=some (pointer m1)∧True)∧
 bE gJ n1 [int .i64 j1] n3 (fun o3 p3=>
 ∃q3,o3= .returned (int .i64 q3)∧
 (p3.cell? (nb w)=some (pointer m1)∧True)∧
 CP 69 #[pointer m1,int .i64 q3] p3 (fun r3 s3=>
 ∃t3 u3 v3,r3= .returned (slice t3 u3 v3)∧
 (slice t3 u3 v3).oneCell'=true∧(∃u,s3.cell? (nb l1)=some u)∧s3.frozen? (nb l1)=false∧
 ∀x3,x3=(s3.setCell (nb l1) (slice t3 u3 v3))→
 ∀y3,y3=x3.drew→
 ∃z3 a4 b4,y3.cell? ((nb g).add 1)=some (slice z3 a4 b4)∧
 CP 66 #[int .i64 h,int .i64 n,func (.func 70) #[] #[pointer (some (nb l1))]] y3 (fun c4 d4=>
 ∃e4 f4 g4,c4= .returned (slice e4 f4 g4)∧
 (d4.cell? ((nb g).add 1)=some (slice z3 a4 b4)∧True)∧
 ∀h4,h4=d4.alloc (.cells #[slice e4 f4 g4] 28)→
 (h4.cell? ((nb g).add 1)=some (slice z3 a4 b4)∧True)∧
 ∃i4 j4 k4 l4,(Builtin.append_ #[116,116] 116 #[slice z3 a4 b4,slice (some (nb d4)) 1 1]).run Tryz.prog h4= .ok (slice i4 j4 k4) l4∧
 (slice i4 j4 k4).oneCell'=true∧(∃u,l4.cell? ((nb g).add 1)=some u)∧l4.frozen? ((nb g).add 1)=false∧
 ∀m4,m4=(l4.setCell ((nb g).add 1) (slice i4 j4 k4))→
 Ar .i64 (j1+1) (fun n4=>
 i1 [int .i64 n4] m4))))))
 (∀o4,o4=k1.drew→
 ∃p4 q4 r4,o4.cell? ((nb g).add 1)=some (slice p4 q4 r4)∧
 CP 66 #[int .i64 h,int .i64 n,func (.func 71) #[] #[]] o4 (fun s4 t4=>
 ∃u4 v4 x4,s4= .returned (slice u4 v4 x4)∧
 (t4.cell? ((nb g).add 1)=some (slice p4 q4 r4)∧True)∧
 ∀y4,y4=t4.alloc (.cells #[slice u4 v4 x4] 28)→
 (y4.cell? ((nb g).add 1)=some (slice p4 q4 r4)∧True)∧
 ∃z4 a5 b5 c5,(Builtin.append_ #[116,116] 116 #[slice p4 q4 r4,slice (some (nb t4)) 1 1]).run Tryz.prog y4= .ok (slice z4 a5 b5) c5∧
 (slice z4 a5 b5).oneCell'=true∧(∃u,c5.cell? ((nb g).add 1)=some u)∧c5.frozen? ((nb g).add 1)=false∧
 ∀d5,d5=(c5.setCell ((nb g).add 1) (slice z4 a5 b5))→
 ∀e5,e5=d5.alloc (.cells #[bool true] 4)→
 Ar .i64 (h+2) (fun f5=>
 CP 72 #[slice (some (nb d5)) 1 1,int .i64 f5] e5 (fun g5 h5=>
 ∃i5 j5 k5,g5= .returned (slice i5 j5 k5)∧
 (slice i5 j5 k5).oneCell'=true∧(∃u,h5.cell? ((nb g).add 2)=some u)∧h5.frozen? ((nb g).add 2)=false∧
 ∀l5,l5=(h5.setCell ((nb g).add 2) (slice i5 j5 k5))→
 ∃m5 n5 o5,l5.cell? ((nb g).add 2)=some (slice m5 n5 o5)∧
 af m5 (fun p5=>
 (0:Int)≤n∧n< (n5:Int)∧
 (bool false).oneCell'=true∧(∃u,l5.cell? (p5.add (n.toNat*1))=some u)∧l5.frozen? (p5.add (n.toNat*1))=false∧
 ∀q5,q5=(l5.setCell (p5.add (n.toNat*1)) (bool false))→
 R (tuple #[pointer (some (nb g)),int .i64 0]) q5))))))→i1 [int .i64 j1] k1)→
 i1 [int .i64 0] h1)))))))
theorem D7 (a:OA) (b:Int) (w:World) (R:RW) (hh:Qv a b w R):CR 15 #[pointer a,int .i64 b] w R:=
 az (fn:=Tryz.f15) (by kernel_rfl) (by kernel_rfl) (by kernel_rfl) (by kernel_rfl) (by kernel_rfl) hh
def QB (a:OA) (w:World) (R:RW):Prop:=
 ac (Option.isNone a)
 (R (pointer none) w)
 (CP 73 #[pointer a] w (fun b c=>
 ∃d f g,b= .returned (slice d f g)∧
 ∀h,h=c.alloc (.cells #[slice none 0 0] 28)→
 (slice d f g).oneCell'=true∧(∃u,h.cell? (nb c)=some u)∧h.frozen? (nb c)=false∧
 ∀i,i=(h.setCell (nb c) (slice d f g))→
 CP 74 #[pointer a,func (.func 75) #[] #[pointer (some (nb c))]] i (fun j k=>
 ∃l m n o,j= .returned (tuple #[slice l m n,map o])∧
 af a (fun p=>
 ∃q,k.cell? (p.add 0)=some (pointer q)∧
 ∀r,r=k.alloc (.cells #[pointer q,slice none 0 0,slice none 0 0,int .u32 0,int .i32 0,int .u32 0,slice none 0 0] 133)→
 ∀s:KW,(∀(t:Int) (x:World),(ac (decide (t< (m:Int)))
 (af l (fun y=>
 (0:Int)≤t∧t< (m:Int)∧
 ∃z,x.cell? (y.add (t.toNat*1))=some (int .i64 z)∧
 af a (fun a1=>
 ∃b1 c1 d1,x.cell? (a1.add 1)=some (slice b1 c1 d1)∧
 af b1 (fun e1=>
 (0:Int)≤z∧z< (c1:Int)∧
 ∃f1 g1 h1,x.cell? (e1.add (z.toNat*1))=some (slice f1 g1 h1)∧
 ∀i1:KW,(∀(j1:Int) (k1:OA) (l1 m1:Nat) (n1:World),(ac (decide (j1< (g1:Int)))
 (af f1 (fun o1=>
 (0:Int)≤j1∧j1< (g1:Int)∧
 ∃p1,n1.cell? (o1.add (j1.toNat*1))=some (int .i64 p1)∧
 ∃q1 r1 s1,n1.cell? (nb c)=some (slice q1 r1 s1)∧
 af q1 (fun t1=>
 (0:Int)≤p1∧p1< (r1:Int)∧
 ∃u1,n1.cell? (t1.add (p1.toNat*1))=some (int .i64 u1)∧
 ∃v1 x1,(Instr.lookup 108 (map o) (int .i64 u1) false).run Tryz.prog n1= .ok (int .i64 v1) x1∧
 ∀y1,y1=x1.alloc (.cells #[int .i64 v1] 3)→
 ∃z1 a2 b2 c2,(Builtin.append_ #[28,28] 28 #[slice k1 l1 m1,slice (some (nb x1)) 1 1]).run Tryz.prog y1= .ok (slice z1 a2 b2) c2∧
 Ar .i64 (j1+1) (fun d2=>
 i1 [int .i64 d2,slice z1 a2 b2] c2))))
 (∃e2 f2 g2,n1.cell? ((nb k).add 1)=some (slice e2 f2 g2)∧
 ∀h2,h2=n1.alloc (.cells #[slice k1 l1 m1] 28)→
 ∃i2 j2 k2 l2,(Builtin.append_ #[116,116] 116 #[slice e2 f2 g2,slice (some (nb n1)) 1 1]).run Tryz.prog h2= .ok (slice i2 j2 k2) l2∧
 (slice i2 j2 k2).oneCell'=true∧(∃u,l2.cell? ((nb k).add 1)=some u)∧l2.frozen? ((nb k).add 1)=false∧
 ∀m2,m2=(l2.setCell ((nb k).add 1) (slice i2 j2 k2))→
 ∀n2,n2=m2.drew→
 ∃o2 p2 q2,n2.cell? ((nb k).add 2)=some (slice o2 p2 q2)∧
 af a (fun r2=>
 ∃s2 t2 u2,n2.cell? (r2.add 2)=some (slice s2 t2 u2)∧
 af s2 (fun v2=>
 (0:Int)≤z∧z< (t2:Int)∧
 ∃x2,n2.cell? (v2.add (z.toNat*1))=some (bool x2)∧
 ∀y2,y2=n2.alloc (.cells #[bool x2] 4)→
 (y2.cell? ((nb k).add 2)=some (slice o2 p2 q2)∧True)∧
 ∃z2 a3 b3 c3,(Builtin.append_ #[117,117] 117 #[slice o2 p2 q2,slice (some (nb n2)) 1 1]).run Tryz.prog y2= .ok (slice z2 a3 b3) c3∧
 (slice z2 a3 b3).oneCell'=true∧(∃u,c3.cell? ((nb k).add 2)=some u)∧c3.frozen? ((nb k).add 2)=false∧
 ∀d3,d3=(c3.setCell ((nb k).add 2) (slice z2 a3 b3))→
 Ar .i64 (t+1) (fun e3=>
 s [int .i64 e3] d3)))))→i1 [int .i64 j1,slice k1 l1 m1] n1)→
 i1 [int .i64 0,slice none 0 0] x))))
 (R (pointer (some (nb k))) x))→s [int .i64 t] x)→
 s [int .i64 0] r))))
theorem Cq (a:OA) (w:World) (R:RW) (hh:QB a w R):CR 16 #[pointer a] w R:=
 az (fn:=Tryz.f16) (by kernel_rfl) (by kernel_rfl) (by kernel_rfl) (by kernel_rfl) (by kernel_rfl) hh
def Q5 (a b:OA) (c d:Nat) (w:World) (R:RW):Prop:=
 ∀f:KW,(∀(g h:Int) (i:Bool) (j:Int) (k:World),(ac (decide (g< (c:Int)))
 (af b (fun l=>
 (0:Int)≤g∧g< (c:Int)∧
 ∃m,k.cell? (l.add (g.toNat*1))=some (int .i64 m)∧
 CP 76 #[pointer a,int .i64 h,int .i64 m] k (fun n o=>
 ∃p q,n= .returned (tuple #[int .i64 p,bool q])∧
 ac (!q)
 (R (tuple #[int .i64 0,bool false]) o)
 (Ar .i64 (g+1) (fun r=>
 f [int .i64 r,int .i64 p,bool i,int .i64 j] o)))))
 (R (tuple #[int .i64 h,bool (!(Option.isNone a))]) k))→f [int .i64 g,int .i64 h,bool i,int .i64 j] k)→
 f [int .i64 0,int .i64 0,bool false,int .i64 0] w
theorem Ev (a b:OA) (c d:Nat) (w:World) (R:RW) (hh:Q5 a b c d w R):CR 18 #[pointer a,slice b c d] w R:=
 az (fn:=Tryz.f18) (by kernel_rfl) (by kernel_rfl) (by kernel_rfl) (by kernel_rfl) (by kernel_rfl) hh
def Qr (a:OA) (b c:Int) (w:World) (R:RW):Prop:=
 ∀d,d=w.drew→
 CP 77 #[pointer a,int .i64 b] d (fun f g=>
 ∃h,f= .returned (bool h)∧
 ac h
 (CP 77 #[pointer a,int .i64 c] g (fun i j=>
 ∃k,i= .returned (bool k)∧
 ac k
 (CP 73 #[pointer a] j (fun l m=>
 ∃n o p,l= .returned (slice n o p)∧
 af n (fun q=>
 (0:Int)≤b∧b< (o:Int)∧
 ∃r,m.cell? (q.add (b.toNat*1))=some (int .i64 r)∧
 CP 73 #[pointer a] m (fun s t=>
 ∃u x y,s= .returned (slice u x y)∧
 (t.cell? (q.add (b.toNat*1))=some (int .i64 r)∧True)∧
 af u (fun z=>
 (0:Int)≤c∧c< (x:Int)∧
 ∃a1,t.cell? (z.add (c.toNat*1))=some (int .i64 a1)∧
 R (bool (r==a1)) t)))))
 (R (bool false) j)))
 (R (bool false) g))
theorem Cp (a:OA) (b c:Int) (w:World) (R:RW) (hh:Qr a b c w R):CR 19 #[pointer a,int .i64 b,int .i64 c] w R:=
 az (fn:=Tryz.f19) (by kernel_rfl) (by kernel_rfl) (by kernel_rfl) (by kernel_rfl) (by kernel_rfl) hh
def QH (a:OA) (b:Int) (w:World) (R:RW):Prop:=
 CP 77 #[pointer a,int .i64 b] w (fun c d=>
 ∃f,c= .returned (bool f)∧
 ac f
 (af a (fun g=>
 ∃h i j,d.cell? (g.add 2)=some (slice h i j)∧
 af h (fun k=>
 (0:Int)≤b∧b< (i:Int)∧
 ∃l,d.cell? (k.add (b.toNat*1))=some (bool l)∧
 R (bool l) d)))
 (R (bool false) d))
theorem DI (a:OA) (b:Int) (w:World) (R:RW) (hh:QH a b w R):CR 20 #[pointer a,int .i64 b] w R:=
 az (fn:=Tryz.f20) (by kernel_rfl) (by kernel_rfl) (by kernel_rfl) (by kernel_rfl) (by kernel_rfl) hh
def QS (a:OA) (w:World) (R:RW):Prop:=
 ac (Option.isNone a)
 (R (int .i64 0) w)
 (af a (fun b=>
 ∃c d f,w.cell? (b.add 1)=some (slice c d f)∧
 R (int .i64 (d:Int)) w))
theorem DH (a:OA) (w:World) (R:RW) (hh:QS a w R):CR 21 #[pointer a] w R:=
 az (fn:=Tryz.f21) (by kernel_rfl) (by kernel_rfl) (by kernel_rfl) (by kernel_rfl) (by kernel_rfl) hh
def QN (a:Int) (b:OA) (w:World) (R:RW):Prop:=
 af b (fun c=>
 ∃d,w.cell? c=some (pointer d)∧
 CP 65 #[pointer d,int .i64 a] w (fun f g=>
 ∃h i,f= .returned (tuple #[int .i64 h,bool i])∧
 R (int .i64 h) g))
theorem Cw (a:Int) (b:OA) (w:World) (R:RW) (hh:QN a b w R):CR 64 #[int .i64 a,pointer b] w R:=
 az (fn:=Tryz.f64) (by kernel_rfl) (by kernel_rfl) (by kernel_rfl) (by kernel_rfl) (by kernel_rfl) hh
def Qn (a b:Int) (c:Value) (w:World) (R:RW):Prop:=
 ∃d f g h,(Instr.makeSlice 28 (int .i64 a) (int .i64 a)).run Tryz.prog w= .ok (slice d f g) h∧
 ∀i:KW,(∀(j:Int) (k:World),(ac (decide (j< (f:Int)))
 (∀l:KW,(∀m:World,(Ar .i64 (j+1) (fun n=>
 i [int .i64 n] m))→l [] m)→
 af d (fun o=>
 (0:Int)≤j∧j< (f:Int)∧
 (int .i64 b).oneCell'=true∧(∃u,k.cell? (o.add (j.toNat*1))=some u)∧k.frozen? (o.add (j.toNat*1))=false∧
 ∀p,p=(k.setCell (o.add (j.toNat*1)) (int .i64 b))→
 bE gJ c [int .i64 j] p (fun q r=>
 ∃s,q= .returned (bool s)∧
 ac s
 (Ar .i64 (j+1) (fun t=>
 af d (fun x=>
 (0:Int)≤j∧j< (f:Int)∧
 (int .i64 t).oneCell'=true∧(∃u,r.cell? (x.add (j.toNat*1))=some u)∧r.frozen? (x.add (j.toNat*1))=false∧
 ∀y,y=(r.setCell (x.add (j.toNat*1)) (int .i64 t))→
 l [] y)))
 (l [] r))))
 (R (slice d f g) k))→i [int .i64 j] k)→
 i [int .i64 0] h
theorem DP (a b:Int) (c:Value) (w:World) (R:RW) (hh:Qn a b c w R):CR 66 #[int .i64 a,int .i64 b,c] w R:=
 az (fn:=Tryz.f66) (by kernel_rfl) (by kernel_rfl) (by kernel_rfl) (by kernel_rfl) (by kernel_rfl) hh
def Qx (a:Int) (b c:OA) (w:World) (R:RW):Prop:=
 ∀d,d=w.drew→
 af b (fun f=>
 ∃g,d.cell? f=some (pointer g)∧
 af c (fun h=>
 ∃i,d.cell? h=some (i)∧
 bE gJ i [int .i64 a] d (fun j k=>
 ∃l,j= .returned (int .i64 l)∧
 (k.cell? f=some (pointer g)∧True)∧
 CP 68 #[pointer g,int .i64 l] k (fun m n=>
 ∃o,m= .returned (bool o)∧
 R (bool o) n))))
theorem D5 (a:Int) (b c:OA) (w:World) (R:RW) (hh:Qx a b c w R):CR 67 #[int .i64 a,pointer b,pointer c] w R:=
 az (fn:=Tryz.f67) (by kernel_rfl) (by kernel_rfl) (by kernel_rfl) (by kernel_rfl) (by kernel_rfl) hh
def Oe (a:Int) (b:OA) (w:World) (R:RW):Prop:=
 af b (fun c=>
 ∃d f g,w.cell? c=some (slice d f g)∧
 (64:Int)≠0∧
 af d (fun h=>
 (0:Int)≤(IntKind.wrap .i64 (Int.tdiv a 64))∧(IntKind.wrap .i64 (Int.tdiv a 64)) < (f:Int)∧
 ∃i,w.cell? (h.add ((IntKind.wrap .i64 (Int.tdiv a 64):Int).toNat*1))=some (int .u64 i)∧
 (64:Int)≠0∧
 (0:Int)≤(Int.tmod a 64)∧
 R (bool ((IntKind.wrap .u64 ((BitVec.ofInt (IntKind.bits .u64) (Int.fdiv i (2^(min (Int.tmod a 64:Int).toNat (IntKind.bits .u64))))&&&BitVec.ofInt (IntKind.bits .u64) 1).toNat:Int):Int)==1)) w))
theorem D' (a:Int) (b:OA) (w:World) (R:RW) (hh:Oe a b w R):CR 70 #[int .i64 a,pointer b] w R:=
 az (fn:=Tryz.f70) (by kernel_rfl) (by kernel_rfl) (by kernel_rfl) (by kernel_rfl) (by kernel_rfl) hh
def Q4 (a:Int) (w:World) (R:RW):Prop:=
 R (bool false) w
theorem Cj (a:Int) (w:World) (R:RW) (hh:Q4 a w R):CR 71 #[int .i64 a] w R:=
 az (fn:=Tryz.f71) (by kernel_rfl) (by kernel_rfl) (by kernel_rfl) (by kernel_rfl) (by kernel_rfl) hh
def Q_ (a:OA) (b c:Nat) (d:Int) (w:World) (R:RW):Prop:=
 ∀f:KW,(∀g:World,(CP 124 #[int .u64 (IntKind.wrap .u64 (b:Int)),int .u64 (IntKind.wrap .u64 d)] g (fun h i=>
 ∃j k,h= .returned (tuple #[int .u64 j,int .u64 k])∧
 ∀l:KW,(∀m:World,(∃n o p q,(Instr.makeSlice 117 (int .i64 (IntKind.wrap .i64 k)) (int .i64 (IntKind.wrap .i64 k))).run Tryz.prog m= .ok (slice n o p) q∧
 ∃r s,(Builtin.copy_ #[117,117] 3 #[slice n o p,slice a b c]).run Tryz.prog q= .ok (int .i64 r) s∧
 ∀t:KW,(∀(u:Int) (x:World),(ac (decide (u< (o:Int)))
 (∀y,y=x.drew→
 (0:Int)≤u∧u≤(o:Int)∧True∧True∧True∧
 (0:Int)≤(0:Int)∧(0:Int)≤u∧u≤(p:Int)∧True∧True∧
 ∃z a1,(Builtin.copy_ #[117,117] 3 #[slice (cd n u.toNat (p:Int).toNat 1) ((o:Int).toNat-u.toNat) ((p:Int).toNat-u.toNat),slice (cd n (0:Int).toNat (p:Int).toNat 1) (u.toNat- (0:Int).toNat) ((p:Int).toNat- (0:Int).toNat)]).run Tryz.prog y= .ok (int .i64 z) a1∧
 Ar .i64 (u+z) (fun b1=>
 t [int .i64 b1] a1))
 (R (slice n o p) x))→t [int .i64 u] x)→
 t [int .i64 r] s)→l [] m)→
 ac (decide (j>0))
 (False)
 (ac (decide (k>9223372036854775807))
 (False)
 (l [] i))))→f [] g)→
 ac (decide (d<0))
 (False)
 (f [] w)
theorem Ck (a:OA) (b c:Nat) (d:Int) (w:World) (R:RW) (hh:Q_ a b c d w R):CR 72 #[slice a b c,int .i64 d] w R:=
 az (fn:=Tryz.f72) (by kernel_rfl) (by kernel_rfl) (by kernel_rfl) (by kernel_rfl) (by kernel_rfl) hh
def Q0 (a:OA) (w:World) (R:RW):Prop:=
 af a (fun b=>
 CP 107 #[pointer (some ((b.add 3).add 0)),func (.func 125) #[pointer a] #[]] w (fun c d=>
 c= .returned (tuple #[])∧
 af a (fun f=>
 ∃g h i,d.cell? ((f.add 3).add 3)=some (slice g h i)∧
 R (slice g h i) d)))
theorem CB (a:OA) (w:World) (R:RW) (hh:Q0 a w R):CR 73 #[pointer a] w R:=
 az (fn:=Tryz.f73) (by kernel_rfl) (by kernel_rfl) (by kernel_rfl) (by kernel_rfl) (by kernel_rfl) hh
def QY (a:OA) (b:Value) (w:World) (R:RW):Prop:=
 ∀c,c=w.alloc (.cells #[int .i64 0] 3)→
 ∃d f,(Instr.makeMap 108 none).run Tryz.prog c= .ok (map d) f∧
 bE gJ b [int .i64 0] f (fun g h=>
 ∃i,g= .returned (int .i64 i)∧
 ∃j,(Instr.mapUpdate 108 (map d) (int .i64 i) (int .i64 0)).run Tryz.prog h= .ok () j∧
 ∀k:KW,(∀(l:Int) (m:OA) (n o:Nat) (p:World),(ac (decide (l< (n:Int)))
 (∀q,q=p.drew→
 af a (fun r=>
 ∃s t u,q.cell? (r.add 1)=some (slice s t u)∧
 af m (fun x=>
 (0:Int)≤l∧l< (n:Int)∧
 ∃y,q.cell? (x.add (l.toNat*1))=some (int .i64 y)∧
 af s (fun z=>
 (0:Int)≤y∧y< (t:Int)∧
 ∃a1 b1 c1,q.cell? (z.add (y.toNat*1))=some (slice a1 b1 c1)∧
 ∀d1:KW,(∀(e1:Int) (f1:OA) (g1 h1:Nat) (i1:World),(ac (decide (e1< (b1:Int)))
 (∀j1:KW,(∀(k1:OA) (l1 m1:Nat) (n1:World),(Ar .i64 (e1+1) (fun o1=>
 d1 [int .i64 o1,slice k1 l1 m1] n1))→j1 [slice k1 l1 m1] n1)→
 af a1 (fun p1=>
 (0:Int)≤e1∧e1< (b1:Int)∧
 ∃q1,i1.cell? (p1.add (e1.toNat*1))=some (int .i64 q1)∧
 bE gJ b [int .i64 q1] i1 (fun r1 s1=>
 ∃t1,r1= .returned (int .i64 t1)∧
 ∃u1 v1 x1,(Instr.lookup 108 (map d) (int .i64 t1) true).run Tryz.prog s1= .ok (tuple #[int .i64 u1,bool v1]) x1∧
 ac (!v1)
 (bE gJ b [int .i64 q1] x1 (fun y1 z1=>
 ∃a2,y1= .returned (int .i64 a2)∧
 ∃b2,(Instr.mapUpdate 108 (map d) (int .i64 a2) (int .i64 (g1:Int))).run Tryz.prog z1= .ok () b2∧
 ∀c2,c2=b2.alloc (.cells #[int .i64 q1] 3)→
 ∃d2 e2 f2 g2,(Builtin.append_ #[28,28] 28 #[slice f1 g1 h1,slice (some (nb b2)) 1 1]).run Tryz.prog c2= .ok (slice d2 e2 f2) g2∧
 j1 [slice d2 e2 f2] g2))
 (j1 [slice f1 g1 h1] x1))))
 (Ar .i64 (l+1) (fun h2=>
 k [int .i64 h2,slice f1 g1 h1] i1)))→d1 [int .i64 e1,slice f1 g1 h1] i1)→
 d1 [int .i64 0,slice m n o] q))))
 (R (tuple #[slice m n o,map d]) p))→k [int .i64 l,slice m n o] p)→
 k [int .i64 0,slice (some (nb w)) 1 1] j)
theorem DC (a:OA) (b:Value) (w:World) (R:RW) (hh:QY a b w R):CR 74 #[pointer a,b] w R:=
 az (fn:=Tryz.f74) (by kernel_rfl) (by kernel_rfl) (by kernel_rfl) (by kernel_rfl) (by kernel_rfl) hh
def Qh (a:Int) (b:OA) (w:World) (R:RW):Prop:=
 af b (fun c=>
 ∃d f g,w.cell? c=some (slice d f g)∧
 af d (fun h=>
 (0:Int)≤a∧a< (f:Int)∧
 ∃i,w.cell? (h.add (a.toNat*1))=some (int .i64 i)∧
 R (int .i64 i) w))
theorem C8 (a:Int) (b:OA) (w:World) (R:RW) (hh:Qh a b w R):CR 75 #[int .i64 a,pointer b] w R:=
 az (fn:=Tryz.f75) (by kernel_rfl) (by kernel_rfl) (by kernel_rfl) (by kernel_rfl) (by kernel_rfl) hh
def QM (a:OA) (b c:Int) (w:World) (R:RW):Prop:=
 CP 77 #[pointer a,int .i64 b] w (fun d f=>
 ∃g,d= .returned (bool g)∧
 ac (!g)
 (R (tuple #[int .i64 0,bool false]) f)
 (af a (fun h=>
 ∃i,f.cell? (h.add 0)=some (pointer i)∧
 CP 122 #[pointer i,int .i64 c] f (fun j k=>
 ∃l m,j= .returned (tuple #[int .i64 l,bool m])∧
 ac (!m)
 (R (tuple #[int .i64 0,bool false]) k)
 (af a (fun n=>
 ∃o p q,k.cell? (n.add 1)=some (slice o p q)∧
 af o (fun r=>
 (0:Int)≤b∧b< (p:Int)∧
 ∃s t u,k.cell? (r.add (b.toNat*1))=some (slice s t u)∧
 af s (fun x=>
 (0:Int)≤l∧l< (t:Int)∧
 ∃y,k.cell? (x.add (l.toNat*1))=some (int .i64 y)∧
 R (tuple #[int .i64 y,bool true]) k))))))))
theorem EA (a:OA) (b c:Int) (w:World) (R:RW) (hh:QM a b c w R):CR 76 #[pointer a,int .i64 b,int .i64 c] w R:=
 az (fn:=Tryz.f76) (by kernel_rfl) (by kernel_rfl) (by kernel_rfl) (by kernel_rfl) (by kernel_rfl) hh
def Q7 (a:OA) (b:Int) (w:World) (R:RW):Prop:=
 ac (decide (b≥0))
 (CP 21 #[pointer a] w (fun c d=>
 ∃f,c= .returned (int .i64 f)∧
 R (bool (decide (b<f))) d))
 (R (bool false) w)
theorem Cv (a:OA) (b:Int) (w:World) (R:RW) (hh:Q7 a b w R):CR 77 #[pointer a,int .i64 b] w R:=
 az (fn:=Tryz.f77) (by kernel_rfl) (by kernel_rfl) (by kernel_rfl) (by kernel_rfl) (by kernel_rfl) hh
def Ny (a b:Int) (w:World) (R:RW):Prop:=
 CP 179 #[int .u64 a,int .u64 b] w (fun c d=>
 ∃f g,c= .returned (tuple #[int .u64 f,int .u64 g])∧
 R (tuple #[int .u64 f,int .u64 g]) d)
theorem Ag (a b:Int) (w:World) (R:RW) (hh:Ny a b w R):CR 124 #[int .u64 a,int .u64 b] w R:=
 az (fn:=Tryz.f124) (by kernel_rfl) (by kernel_rfl) (by kernel_rfl) (by kernel_rfl) (by kernel_rfl) hh
def Pj (a:OA) (w:World) (R:RW):Prop:=
 ∀b,b=w.alloc (.cells #[pointer a] 46)→
 ∃c,b.cell? (nb w)=some (pointer c)∧
 CP 21 #[pointer c] b (fun d f=>
 ∃g,d= .returned (int .i64 g)∧
 CP 180 #[int .i64 g,func (.func 181) #[] #[pointer (some (nb w))]] f (fun h i=>
 ∃j k l m,h= .returned (tuple #[slice j k l,int .i64 m])∧
 ∀n,n=i.alloc (.cells #[slice none 0 0] 28)→
 (slice j k l).oneCell'=true∧(∃u,n.cell? (nb i)=some u)∧n.frozen? (nb i)=false∧
 ∀o,o=(n.setCell (nb i) (slice j k l))→
 ∀p:KW,(∀(q:Int) (r:World),(∃s,r.cell? (nb w)=some (pointer s)∧
 CP 21 #[pointer s] r (fun t x=>
 ∃y,t= .returned (int .i64 y)∧
 CP 182 #[int .i64 y,func (.func 183) #[] #[pointer (some (nb i)),pointer (some (nb w))]] x (fun z a1=>
 ∃b1 c1 d1 e1,z= .returned (tuple #[slice b1 c1 d1,int .i64 e1])∧
 (slice b1 c1 d1).oneCell'=true∧(∃u,a1.cell? (nb i)=some u)∧a1.frozen? (nb i)=false∧
 ∀f1,f1=(a1.setCell (nb i) (slice b1 c1 d1))→
 ac (e1==q)
 (∃g1,f1.cell? (nb w)=some (pointer g1)∧
 ∃h1 i1 j1,f1.cell? (nb i)=some (slice h1 i1 j1)∧
 af g1 (fun k1=>
 (slice h1 i1 j1).oneCell'=true∧(∃u,f1.cell? ((k1.add 3).add 3)=some u)∧f1.frozen? ((k1.add 3).add 3)=false∧
 ∀l1,l1=(f1.setCell ((k1.add 3).add 3) (slice h1 i1 j1))→
 R (tuple #[]) l1))
 (p [int .i64 e1] f1))))→p [int .i64 q] r)→
 p [int .i64 m] o))
theorem xu (a:OA) (w:World) (R:RW) (hh:Pj a w R):CR 125 #[pointer a] w R:=
 az (fn:=Tryz.f125) (by kernel_rfl) (by kernel_rfl) (by kernel_rfl) (by kernel_rfl) (by kernel_rfl) hh
def LG (a b:Int) (w:World) (R:RW):Prop:=
 (0:Int)≤32∧
 (0:Int)≤32∧
 Ar .u64 ((IntKind.wrap .u64 ((BitVec.ofInt (IntKind.bits .u64) a&&&BitVec.ofInt (IntKind.bits .u64) 4294967295).toNat:Int):Int)*(IntKind.wrap .u64 ((BitVec.ofInt (IntKind.bits .u64) b&&&BitVec.ofInt (IntKind.bits .u64) 4294967295).toNat:Int))) (fun c=>
 Ar .u64 ((Int.fdiv a (2^(min (32:Int).toNat (IntKind.bits .u64))):Int)*(IntKind.wrap .u64 ((BitVec.ofInt (IntKind.bits .u64) b&&&BitVec.ofInt (IntKind.bits .u64) 4294967295).toNat:Int))) (fun d=>
 (0:Int)≤32∧
 Ar .u64 (d+(Int.fdiv c (2^(min (32:Int).toNat (IntKind.bits .u64))))) (fun f=>
 (0:Int)≤32∧
 Ar .u64 ((IntKind.wrap .u64 ((BitVec.ofInt (IntKind.bits .u64) a&&&BitVec.ofInt (IntKind.bits .u64) 4294967295).toNat:Int):Int)*(Int.fdiv b (2^(min (32:Int).toNat (IntKind.bits .u64))))) (fun g=>
 Ar .u64 ((IntKind.wrap .u64 ((BitVec.ofInt (IntKind.bits .u64) f&&&BitVec.ofInt (IntKind.bits .u64) 4294967295).toNat:Int):Int)+g) (fun h=>
 Ar .u64 ((Int.fdiv a (2^(min (32:Int).toNat (IntKind.bits .u64))):Int)*(Int.fdiv b (2^(min (32:Int).toNat (IntKind.bits .u64))))) (fun i=>
 Ar .u64 (i+(Int.fdiv f (2^(min (32:Int).toNat (IntKind.bits .u64))))) (fun j=>
 (0:Int)≤32∧
 Ar .u64 (j+(Int.fdiv h (2^(min (32:Int).toNat (IntKind.bits .u64))))) (fun k=>
 Ar .u64 (a*b) (fun l=>
 R (tuple #[int .u64 k,int .u64 l]) w)))))))))
theorem yq (a b:Int) (w:World) (R:RW) (hh:LG a b w R):CR 179 #[int .u64 a,int .u64 b] w R:=
 az (fn:=Tryz.f179) (by kernel_rfl) (by kernel_rfl) (by kernel_rfl) (by kernel_rfl) (by kernel_rfl) hh
def O2 (a:Int) (b:Value) (w:World) (R:RW):Prop:=
 ∃c d,(Instr.makeMap 317 none).run Tryz.prog w= .ok (map c) d∧
 ∃f g h i,(Instr.makeSlice 28 (int .i64 a) (int .i64 a)).run Tryz.prog d= .ok (slice f g h) i∧
 ∀j:KW,(∀(k:Int) (l:World),(ac (decide (k<a))
 (bE gJ b [int .i64 k] l (fun m n=>
 ∃o,m= .returned (bool o)∧
 ∃p q r,(Instr.lookup 317 (map c) (bool o) true).run Tryz.prog n= .ok (tuple #[int .i64 p,bool q]) r∧
 ∀s:KW,(∀(t:Int) (x:World),(af f (fun y=>
 (0:Int)≤k∧k< (g:Int)∧
 (int .i64 t).oneCell'=true∧(∃u,x.cell? (y.add (k.toNat*1))=some u)∧x.frozen? (y.add (k.toNat*1))=false∧
 ∀z,z=(x.setCell (y.add (k.toNat*1)) (int .i64 t))→
 Ar .i64 (k+1) (fun a1=>
 j [int .i64 a1] z)))→s [int .i64 t] x)→
 ac (!q)
 (∃b1 c1,(Builtin.len_ #[317] 3 #[map c]).run Tryz.prog r= .ok (int .i64 b1) c1∧
 ∃d1,(Instr.mapUpdate 317 (map c) (bool o) (int .i64 b1)).run Tryz.prog c1= .ok () d1∧
 s [int .i64 b1] d1)
 (s [int .i64 p] r)))
 (∃e1 f1,(Builtin.len_ #[317] 3 #[map c]).run Tryz.prog l= .ok (int .i64 e1) f1∧
 R (tuple #[slice f g h,int .i64 e1]) f1))→j [int .i64 k] l)→
 j [int .i64 0] i
theorem yS (a:Int) (b:Value) (w:World) (R:RW) (hh:O2 a b w R):CR 180 #[int .i64 a,b] w R:=
 az (fn:=Tryz.f180) (by kernel_rfl) (by kernel_rfl) (by kernel_rfl) (by kernel_rfl) (by kernel_rfl) hh
def Oj (a:Int) (b:OA) (w:World) (R:RW):Prop:=
 af b (fun c=>
 ∃d,w.cell? c=some (pointer d)∧
 af d (fun f=>
 ∃g h i,w.cell? (f.add 2)=some (slice g h i)∧
 af g (fun j=>
 (0:Int)≤a∧a< (h:Int)∧
 ∃k,w.cell? (j.add (a.toNat*1))=some (bool k)∧
 R (bool k) w)))
theorem xP (a:Int) (b:OA) (w:World) (R:RW) (hh:Oj a b w R):CR 181 #[int .i64 a,pointer b] w R:=
 az (fn:=Tryz.f181) (by kernel_rfl) (by kernel_rfl) (by kernel_rfl) (by kernel_rfl) (by kernel_rfl) hh
def NR (a:Int) (b:Value) (w:World) (R:RW):Prop:=
 ∃c d,(Instr.makeMap 205 none).run Tryz.prog w= .ok (map c) d∧
 ∃f g h i,(Instr.makeSlice 28 (int .i64 a) (int .i64 a)).run Tryz.prog d= .ok (slice f g h) i∧
 ∀j:KW,(∀(k:Int) (l:World),(ac (decide (k<a))
 (bE gJ b [int .i64 k] l (fun m n=>
 ∃o,m= .returned (string o)∧
 ∃p q r,(Instr.lookup 205 (map c) (string o) true).run Tryz.prog n= .ok (tuple #[int .i64 p,bool q]) r∧
 ∀s:KW,(∀(t:Int) (x:World),(af f (fun y=>
 (0:Int)≤k∧k< (g:Int)∧
 (int .i64 t).oneCell'=true∧(∃u,x.cell? (y.add (k.toNat*1))=some u)∧x.frozen? (y.add (k.toNat*1))=false∧
 ∀z,z=(x.setCell (y.add (k.toNat*1)) (int .i64 t))→
 Ar .i64 (k+1) (fun a1=>
 j [int .i64 a1] z)))→s [int .i64 t] x)→
 ac (!q)
 (∃b1 c1,(Builtin.len_ #[205] 3 #[map c]).run Tryz.prog r= .ok (int .i64 b1) c1∧
 ∃d1,(Instr.mapUpdate 205 (map c) (string o) (int .i64 b1)).run Tryz.prog c1= .ok () d1∧
 s [int .i64 b1] d1)
 (s [int .i64 p] r)))
 (∃e1 f1,(Builtin.len_ #[205] 3 #[map c]).run Tryz.prog l= .ok (int .i64 e1) f1∧
 R (tuple #[slice f g h,int .i64 e1]) f1))→j [int .i64 k] l)→
 j [int .i64 0] i
theorem xi (a:Int) (b:Value) (w:World) (R:RW) (hh:NR a b w R):CR 182 #[int .i64 a,b] w R:=
 az (fn:=Tryz.f182) (by kernel_rfl) (by kernel_rfl) (by kernel_rfl) (by kernel_rfl) (by kernel_rfl) hh
def OQ (a:Int) (b c:OA) (w:World) (R:RW):Prop:=
 ∀d,d=w.drew→
 af b (fun f=>
 ∃g h i,d.cell? f=some (slice g h i)∧
 af g (fun j=>
 (0:Int)≤a∧a< (h:Int)∧
 ∃k,d.cell? (j.add (a.toNat*1))=some (int .i64 k)∧
 af c (fun l=>
 ∃m,d.cell? l=some (pointer m)∧
 af m (fun n=>
 ∃o p q,d.cell? (n.add 1)=some (slice o p q)∧
 af o (fun r=>
 (0:Int)≤a∧a< (p:Int)∧
 ∃s t u,d.cell? (r.add (a.toNat*1))=some (slice s t u)∧
 af b (fun x=>
 ∃y z a1,d.cell? x=some (slice y z a1)∧
 CP 184 #[int .i64 k,slice s t u,slice y z a1] d (fun b1 c1=>
 ∃d1,b1= .returned (string d1)∧
 R (string d1) c1)))))))
theorem AN (a:Int) (b c:OA) (w:World) (R:RW) (hh:OQ a b c w R):CR 183 #[int .i64 a,pointer b,pointer c] w R:=
 az (fn:=Tryz.f183) (by kernel_rfl) (by kernel_rfl) (by kernel_rfl) (by kernel_rfl) (by kernel_rfl) hh
def PB (a:Int) (b:OA) (c d:Nat) (f:OA) (g h:Nat) (w:World) (R:RW):Prop:=
 Ar .i64 ((2:Int)*(c:Int)) (fun i=>
 Ar .i64 (i+2) (fun j=>
 ∃k l m n,(Instr.makeSlice 57 (int .i64 0) (int .i64 j)).run Tryz.prog w= .ok (slice k l m) n∧
 (0:Int)≤8∧
 ∀o,o=n.alloc (.cells #[int .u8 (IntKind.wrap .u8 a),int .u8 (IntKind.wrap .u8 (Int.fdiv a (2^(min (8:Int).toNat (IntKind.bits .i64)))))] 5)→
 ∃p q r s,(Builtin.append_ #[57,57] 57 #[slice k l m,slice (some (nb n)) 2 2]).run Tryz.prog o= .ok (slice p q r) s∧
 ∀t:KW,(∀(u:Int) (x:OA) (y z:Nat) (a1:World),(ac (decide (u< (c:Int)))
 (af b (fun b1=>
 (0:Int)≤u∧u< (c:Int)∧
 ∃c1,a1.cell? (b1.add (u.toNat*1))=some (int .i64 c1)∧
 ∀d1,d1=a1.drew→
 af f (fun e1=>
 (0:Int)≤c1∧c1< (g:Int)∧
 ∃f1,d1.cell? (e1.add (c1.toNat*1))=some (int .i64 f1)∧
 af f (fun g1=>
 (0:Int)≤c1∧c1< (g:Int)∧
 ∃h1,d1.cell? (g1.add (c1.toNat*1))=some (int .i64 h1)∧
 (0:Int)≤8∧
 ∀i1,i1=d1.alloc (.cells #[int .u8 (IntKind.wrap .u8 f1),int .u8 (IntKind.wrap .u8 (Int.fdiv h1 (2^(min (8:Int).toNat (IntKind.bits .i64)))))] 5)→
 ∃j1 k1 l1 m1,(Builtin.append_ #[57,57] 57 #[slice x y z,slice (some (nb d1)) 2 2]).run Tryz.prog i1= .ok (slice j1 k1 l1) m1∧
 Ar .i64 (u+1) (fun n1=>
 t [int .i64 n1,slice j1 k1 l1] m1)))))
 (∃o1 p1,(convert 57 9 (slice x y z)).run Tryz.prog a1= .ok (string o1) p1∧
 R (string o1) p1))→t [int .i64 u,slice x y z] a1)→
 t [int .i64 0,slice p q r] s))
theorem ye (a:Int) (b:OA) (c d:Nat) (f:OA) (g h:Nat) (w:World) (R:RW) (hh:PB a b c d f g h w R):CR 184 #[int .i64 a,slice b c d,slice f g h] w R:=
 az (fn:=Tryz.f184) (by kernel_rfl) (by kernel_rfl) (by kernel_rfl) (by kernel_rfl) (by kernel_rfl) hh
theorem G4:∃i,Tryz.prog.info? bh=some i∧i.zero=some (.int .i64 0)∧i.size=1∧i.bytes=8:=by
 have h:(Tryz.prog.info? bh).map (fun i=>(i.zero,i.size,i.bytes))=some (some (.int .i64 0),1,8):=by kernel_rfl
 obtain⟨i,hi,he⟩:=Option.map_eq_some_iff.1 h;simp only [Prod.mk.injEq]at he;exact⟨i,hi,he.1,he.2.1,he.2.2⟩
theorem kw (w:World) (n:Nat) (hn:n≤1000000):(Instr.makeSlice cq (.int .i64 n) (.int .i64 n)).run Tryz.prog w= .ok (.slice (some (nb w)) n n) (w.alloc (.cells (Array.replicate n (.int .i64 0)) bh)):=by
 obtain⟨i,hi,hz,hs,hb⟩:=G4;have:=Go.run_make (P:=Tryz.prog) w cq bh i (.int .i64 0) (by kernel_rfl) hi hz .i64 .i64 (n:Int) (n:Int) (by omega) (Int.le_refl _) (by rw [hb];omega) (by omega);rw [this];congr 3;rw [hs];apply Array.ext
 ·rw [size_madeCells];simp
 ·intro j h1 h2;simp only [madeCells,Array.getElem_map,Array.getElem_range,Array.getElem_replicate];show(#[Value.int .i64 0]:Array Value)[j%1]! =_;rw [Nat.mod_one];rfl
def part {α:Type} (z:α) (f:Nat→α) (n i:Nat):List α:=(List.range n).map fun j=>if j<i then f j else z
theorem du {α:Type} (z:α) (f:Nat→α) (n i:Nat):(part z f n i).length=n:=by simp [part]
theorem jz {α:Type} (z:α) (f:Nat→α) {n i j:Nat} (hj:j<n):(part z f n i)[j]? =some (if j<i then f j else z):=by simp [part,List.getElem?_range hj]
theorem ov {α:Type} (z:α) (f:Nat→α) {n i:Nat} (hi:i<n):(part z f n i).set i (f i)=part z f n (i+1):=by
 apply List.ext_getElem?;intro j;by_cases hj:j<n
 ·rw [List.getElem?_set,jz z f hj,jz z f hj];by_cases e:i=j
  ·subst e;simp [du,hi]
  ·rw [if_neg e];by_cases h:j<i
   ·rw [if_pos h,if_pos (by omega)]
   ·rw [if_neg h,if_neg (by omega)]
 ·rw [List.getElem?_eq_none_iff.2 (by rw [List.length_set,du];omega),List.getElem?_eq_none_iff.2 (by rw [du];omega)]
theorem Fb {α:Type} (z:α) (f:Nat→α) (n:Nat):part z f n 0=List.replicate n z:=by
 apply List.ext_getElem?;intro j;by_cases hj:j<n
 ·rw [jz z f hj,List.getElem?_replicate,if_pos hj,if_neg (by omega)]
 ·rw [List.getElem?_eq_none_iff.2 (by rw [du];omega),List.getElem?_eq_none_iff.2 (by simp;omega)]
theorem rN {α:Type} (z:α) (f:Nat→α) (n:Nat):part z f n n=(List.range n).map f:=by
 apply List.map_congr_left;intro j hj;rw [if_pos (List.mem_range.1 hj)]
theorem tC {α:Type} {enc:α→List Value} (z:α) (zv:Value) (henc:enc z= [zv]) (e:TypeId) (f:Nat→α) (w:World) {n:Nat} (hn:n≤1000000):(w.alloc (.cells (Array.replicate n zv) e)).ownsRow w.heap.size e 1 (.slice (some (nb w)) n n) n ((part z f n 0).flatMap enc):=by
 have hf:(part z f n 0).flatMap enc=List.replicate n zv:=by
  rw [Fb,List.flatMap_replicate,henc];simp
 rw [hf,show Array.replicate n zv=(List.replicate n zv).toArray by simp];exact jE _ (by simp) hn (Nat.le_refl _)
theorem mY (w:World) (n bad:Nat) (may:Value) (m:Nat→Bool) (hn:n≤10000) (hm:∀k,k<n→∀w1,Below w.heap.size w w1→bE gJ may [.int .i64 (k:Int)] w1 (fun e w2=>e= .returned (.bool (m k))∧Below w1.heap.size w1 w2)):
  CP 66 #[.int .i64 (n:Int),.int .i64 (bad:Int),may] w fun e w'=>∃l:Sl,e= .returned l.v∧l.n=n∧w'.ownsRow w.heap.size bh 1 l.v l.n (((List.range n).map fun k=>((if m k then k+1 else bad:Nat):Int)).flatMap ay)∧Below w.heap.size w w':=by
 refine aN (DP n bad may w) ?_;obtain⟨f,hf⟩:∃f:Nat→Int,f=fun k=>((if m k then k+1 else bad:Nat):Int):=⟨_,rfl⟩;refine⟨some (nb w),n,n,_,kw w n (by omega),?_⟩;intro I hI;have b0:=ah w (.cells (Array.replicate n (.int .i64 0)) bh);have o0:=tC (enc:=ay) (0:Int) (.int .i64 0) rfl bh f w (n:=n) (by omega);obtain⟨l,hl⟩:∃l:Sl,l=⟨some (nb w),n,n⟩:=⟨_,rfl⟩;have key:=bj (α:=World) n (fun i q=>q.ownsRow w.heap.size bh 1 l.v l.n ((part 0 f n i).flatMap ay)∧Below w.heap.size w q) (fun i q=>I [.int .i64 (i:Int)] q) _ ⟨by subst hl;exact o0,b0⟩ ?_ ?_
 ·exact key
 ·rintro i hi ih q ⟨ho,hB⟩;refine hI _ _ (ac.yes (decide_eq_true (by omega)) ?_);intro J hJ;have hln:l.n=n:=by subst hl;rfl
  have hla:l.a=some (nb w):=by subst hl;rfl
  obtain⟨u,fz,k⟩:=gc (l:=l) (enc:=ay) (sz:=1) (fun _=>rfl) (by decide) ho (by rw [du];exact hln) hla (jz 0 f hi) (k:=0) (by decide) (bad:Int) (.int .i64 (bad:Int)) rfl;rw [au]at u fz k;refine af.mk _ rfl ⟨by omega,by omega,rfl,u,fz,?_⟩;intro w4 hw4;obtain⟨o4,_,_,b4⟩:=k w4 hw4;have hB4:=b4 _ _ (Nat.le_refl _) hB;refine(hm i hi w4 hB4).mono ?_;rintro e w5 ⟨rfl,b5⟩;have o5:=aF o4 b5;have hB5:=ae hB4 b5;refine⟨_,rfl,ac.mk (fun h=>?_) fun h=>?_⟩
  ·have hget:((part 0 f n i).set i (bad:Int))[i]? =some (bad:Int):=by rw [List.getElem?_set_self (by rw [du];exact hi)]
   obtain⟨u2,fz2,k2⟩:=gc (l:=l) (enc:=ay) (sz:=1) (fun _=>rfl) (by decide) o5 (by rw [List.length_set,du];exact hln) hla hget (k:=0) (by decide) ((i+1:Nat):Int) (.int .i64 ((i+1:Nat):Int)) rfl;rw [au]at u2 fz2 k2;refine Ar.nat (i+1) rfl (by omega) (af.mk _ rfl ⟨by omega,by omega,rfl,u2,fz2,?_⟩);intro w6 hw6;obtain⟨o6,_,_,b6⟩:=k2 w6 hw6;refine hJ _ (Ar.nat (i+1) rfl (by omega) (ih w6 ⟨?_,b6 _ _ (Nat.le_refl _) hB5⟩));rw [List.set_set]at o6;have:=ov (0:Int) f hi;rw [show f i=((i+1:Nat):Int) by rw [hf];show((if m i then i+1 else bad:Nat):Int)=_;rw [if_pos h]]at this;rw [this]at o6;exact o6
  ·refine hJ _ (Ar.nat (i+1) rfl (by omega) (ih w5 ⟨?_,hB5⟩));have:=ov (0:Int) f hi;rw [show f i=(bad:Int) by rw [hf];show((if m i then i+1 else bad:Nat):Int)=_;rw [if_neg (by rw [h];decide)]]at this;rw [this]at o5;exact o5
 ·rintro q ⟨ho,hB⟩;refine hI _ _ (ac.no (decide_eq_false (by omega)) ⟨l,by subst hl;rfl,by subst hl;rfl,?_,hB⟩);rw [rN,hf]at ho;exact ho
theorem Rm (x:Nat):Int.fdiv (x:Int) (2^(min (8:Int).toNat (IntKind.bits .i64)))=((x/256:Nat):Int):=by
 rw [show(2:Int)^(min (8:Int).toNat (IntKind.bits .i64))=((256:Nat):Int) by decide,Int.fdiv_eq_ediv_of_nonneg _ (by omega)];rfl
theorem G2 (x:Nat):(#[Value.int .u8 (IntKind.wrap .u8 (x:Int)),Value.int .u8 (IntKind.wrap .u8 (Int.fdiv (x:Int) (2^(min (8:Int).toNat (IntKind.bits .i64)))))]:Array Value)=((gg x).flatMap kH).toArray:=by
 rw [Rm,EO,EO];rfl
theorem FK (w:World) (c:Nat) (hc:c≤1000000):∃w1,(Instr.makeSlice kV (.int .i64 0) (.int .i64 (c:Int))).run Tryz.prog w= .ok (.slice (some (nb w)) 0 c) w1∧w1.ownsRow w.heap.size vg 1 (.slice (some (nb w)) 0 c) 0 (([]:List UInt8).flatMap kH)∧Below w.heap.size w w1:=by
 have h:(Tryz.prog.info? vg).map (fun i=>(i.zero,i.size,i.bytes))=some (some (.int .u8 0),1,1):=by kernel_rfl
 obtain⟨i,hi,he⟩:=Option.map_eq_some_iff.1 h;simp only [Prod.mk.injEq]at he;obtain⟨hz,hs,hb⟩:=he;have:=Go.run_make (P:=Tryz.prog) w kV vg i (.int .u8 0) (by kernel_rfl) hi hz .i64 .i64 0 (c:Int) (by omega) (by omega) (by rw [hb];omega) (by omega);refine⟨_,this,?_,ah _ _⟩;refine⟨rfl,.inr ⟨w.heap.size,c,_,rfl,Nat.le_refl _,ap _ _,Nat.zero_le _,by unfold maxLen;omega,?_,by simp⟩⟩;rw [size_madeCells,hs];simp
theorem zV (w:World) (x:Nat) (A A2:Option Addr) (C C2:Nat) (l of:List Nat) (hl:Rw ay 1 w A (l.map fun i:Nat=>(i:Int))) (ho:Rw ay 1 w A2 (of.map fun i:Nat=>(i:Int))) (hin:∀y∈l,y<of.length) (hn:l.length≤10000):
  CP 184 #[.int .i64 (x:Int),.slice A l.length C,.slice A2 of.length C2] w fun e w'=>e= .returned (.string (str (gg x++(l.map fun y=>of.getD y 0).flatMap gg)))∧Below w.heap.size w w':=by
 refine aN (ye x A l.length C A2 of.length C2 w) ?_;obtain⟨w1,hr1,o1,b1⟩:=FK w (2*l.length+2) (by omega);refine Ar.nat (2*l.length) (by omega) (by omega) (Ar.nat (2*l.length+2) (by omega) (by omega) ⟨_,_,_,w1,hr1,by decide,?_⟩);intro w2 hw2;rw [G2]at hw2;have b2:Below w1.heap.size w1 w2:=by subst hw2;exact ah _ _
 have h2:dk kH 1 w2 ⟨some (nb w1),2,2⟩ (gg x):=dk.of_own Ib (B:=0) (by subst hw2;exact jE (n:=2) _ rfl (by decide) (Nat.zero_le _));obtain⟨f0,w3,f1,f2,f3,f4,_,_⟩:=Ib.spread (s:=⟨some (nb w),0,2*l.length+2⟩) (xs:=[]) (aF o1 b2) h2 (ae b1 b2).size (by show 0≤_;omega) (by show 2≤_;omega) (by decide);refine⟨f0.a,f0.n,f0.c,w3,f2,?_⟩;intro I hI;let g (y:Nat):Nat:=of.getD y 0;have key:=bj (α:=Sl×World) l.length (fun i y=>y.2.ownsRow w.heap.size vg 1 y.1.v y.1.n ((gg x++((l.take i).map g).flatMap gg).flatMap kH)∧y.1.n=2+2*i∧Below w.heap.size w y.2) (fun i y=>I [.int .i64 (i:Int),y.1.v] y.2) (f0,w3) ⟨by simpa using f3,f1,f4 _ (ae b1 b2)⟩ ?_ ?_
 ·exact key
 ·rintro i hi ih ⟨f,q⟩ ⟨hown,hfn,hB⟩;change q.ownsRow w.heap.size vg 1 f.v f.n _ at hown;change f.n=2+2*i at hfn;change Below w.heap.size w q at hB;obtain⟨p,hp,c0⟩:=bQ (hl.on hB) (show i< (l.map fun i:Nat=>(i:Int)).length by simpa using hi) (v:=.int .i64 ((l[i]:Nat):Int)) (by simp [ay]);have hlt:=hin _ (List.getElem_mem hi);refine hI _ f.a f.n f.c q (ac.yes (decide_eq_true (by omega)) (af.mk p hp ⟨by omega,by omega,_,c0,?_⟩));intro q1 hq1;have bq1:Below q.heap.size q q1:=by subst hq1;exact aO q
  have hB1:=ae hB bq1;obtain⟨p2,hp2,c2⟩:=bQ (ho.on hB1) (show l[i] < (of.map fun i:Nat=>(i:Int)).length by simpa using hlt) (v:=.int .i64 ((of[l[i]]:Nat):Int)) (by simp [ay]);refine af.mk p2 hp2 ⟨by omega,by omega,_,c2,af.mk p2 hp2 ⟨by omega,by omega,_,c2,by decide,?_⟩⟩;intro q2 hq2;rw [G2]at hq2;have bq2:Below q1.heap.size q1 q2:=by subst hq2;exact ah _ _
  have h3:dk kH 1 q2 ⟨some (nb q1),2,2⟩ (gg of[l[i]]):=dk.of_own Ib (B:=0) (by subst hq2;exact jE (n:=2) _ rfl (by decide) (Nat.zero_le _));obtain⟨f',q3,e1,e2,e3,e4,_,_⟩:=Ib.spread (aF (aF hown bq1) bq2) h3 (ae hB1 bq2).size (by omega) (by show 2≤_;omega) (by decide);refine⟨f'.a,f'.n,f'.c,q3,e2,Ar.nat (i+1) rfl (by omega) (ih (f',q3) ⟨?_,?_,e4 _ (ae hB1 bq2)⟩)⟩
  ·have e:gg x++((l.take (i+1)).map g).flatMap gg=(gg x++((l.take i).map g).flatMap gg)++gg of[l[i]]:=by
    have hg:g l[i]=of[l[i]]:=gD hlt 0;rw [List.take_add_one,List.getElem?_eq_getElem hi,List.map_append,List.flatMap_append,List.append_assoc];simp [hg]
   show q3.ownsRow w.heap.size vg 1 f'.v f'.n ((gg x++((l.take (i+1)).map g).flatMap gg).flatMap kH);rw [e];exact e3
  ·show f'.n=2+2*(i+1);change f'.n=f.n+2 at e1;omega
 ·rintro⟨f,q⟩ ⟨hown,hfn,hB⟩;change q.ownsRow w.heap.size vg 1 f.v f.n _ at hown;rw [List.take_length]at hown;exact hI _ f.a f.n f.c q (ac.no (decide_eq_false (by omega)) ⟨_,q,iO (P:=Tryz.prog) jq IE vX (by rw [←wX];exact hown),rfl,hB⟩)
section
variable {κ:Type} [DecidableEq κ] [BEq κ] [LawfulBEq κ] {kv:κ→Value}
def jd (k:Nat→κ) (i:Nat):List (κ×Value):=(aM k i).zipIdx.map fun x=>(k x.1,.int .i64 (x.2:Int))
theorem lT (k:Nat→κ) (i:Nat):fh (k i) (jd k i)=((aM k i).findIdx? fun a=>decide (k a=k i)).map fun c:Nat=>Value.int .i64 (c:Int):=by
 have:=ie k (k i) (aM k i) 0;simp only [Nat.zero_add]at this;rw [show fh (k i) (jd k i)=_ from this];congr 1;rw [List.idxOf?,List.findIdx?_map];congr 1;funext a;show(k a==k i)=_;by_cases h:k a=k i
 ·simp [h]
 ·simp [h]
end
section
variable {κ:Type} [DecidableEq κ]
theorem BG {k:Nat→κ} {i:Nat} (h:aM k (i+1)=aM k i++ [i]):jd k (i+1)=jd k i++ [(k i,.int .i64 (((aM k i).length:Nat):Int))]:=by
 unfold jd;rw [h,List.zipIdx_append,List.map_append];simp
theorem iR (k:Nat→κ) (i:Nat):(jd k i).length=(aM k i).length:=by simp [jd]
end
section
variable {κ:Type} {kv:κ→Value}
theorem nu {t kt et:TypeId} (ht:Tryz.prog.underlying t=some (.map kt et)) {w:World} {r:Nat} {m:List (κ×Value)} (h:br kv w r m) (t2:TypeId):(Builtin.len_ #[t] t2 #[.map (some r)]).run Tryz.prog w= .ok (.int .i64 (m.length:Int)) w:=by
 obtain⟨es,clock,hb,hm,_⟩:=h;have:es.size=m.length:=by
  have:=congrArg List.length hm;simpa using this
 rw [←this];simp [Builtin.len_,Sem.run_bind,run_underlying ht,Result.andThen,ii hb,goInt]
end
def lL (b:Bool):Value:=.bool b
theorem KF:kF Tryz.prog b_ Bool lL:=by
 refine rf (d:=.bool) (by kernel_rfl) (fun a b=>by cases a<;>cases b<;>rfl) (fun e k w=>?_)
 unfold Instr.checkKey;simp [run_underlying (show Tryz.prog.underlying b_=some .bool by kernel_rfl),Result.andThen]
theorem qN:Tryz.prog.underlying 317=some (.map b_ bh):=by kernel_rfl
theorem za (w:World) (n:Nat) (key:Value) (k:Nat→Bool) (hn:n≤10000) (his:∀i,i<n→∀w1,Below w.heap.size w w1→bE gJ key [.int .i64 (i:Int)] w1 (fun e w2=>e= .returned (lL (k i))∧Below w1.heap.size w1 w2)):
  CP 180 #[.int .i64 (n:Int),key] w fun e w'=>∃of:Sl,e= .returned (.tuple #[of.v,.int .i64 (((aM k n).length:Nat):Int)])∧of.n=n∧w'.ownsRow w.heap.size bh 1 of.v of.n (((List.range n).map fun i=>((clsOf k i:Nat):Int)).flatMap ay)∧Below w.heap.size w w':=by
 refine aN (yS n key w) ?_;refine⟨_,_,gG _,?_⟩;have b1:=ah w (.map #[] 0);have m1:br lL (w.alloc (.map #[] 0)) w.heap.size (jd k 0):=iL w;obtain⟨w1,hw1⟩:∃w1,w1=w.alloc (.map #[] 0):=⟨_,rfl⟩;rw [←hw1]at b1 m1;rw [←hw1];refine⟨some (nb w1),n,n,_,kw w1 n (by omega),?_⟩;have b2:=ah w1 (.cells (Array.replicate n (.int .i64 0)) bh);obtain⟨f,hf⟩:∃f:Nat→Int,f=fun i=>((clsOf k i:Nat):Int):=⟨_,rfl⟩;have o2:=tC (enc:=ay) (0:Int) (.int .i64 0) rfl bh f w1 (n:=n) (by omega);obtain⟨l,hl⟩:∃l:Sl,l=⟨some (nb w1),n,n⟩:=⟨_,rfl⟩;have hln:l.n=n:=by subst hl;rfl
 have hla:l.a=some (nb w1):=by subst hl;rfl
 obtain⟨w2,hw2⟩:∃w2,w2=w1.alloc (.cells (Array.replicate n (.int .i64 0)) bh):=⟨_,rfl⟩;rw [←hw2]at b2 o2;rw [←hw2];have s1:w.heap.size<w1.heap.size:=m1.lt;intro I hI;have key:=bj (α:=World) n (fun i q=>q.ownsRow w1.heap.size bh 1 l.v l.n ((part 0 f n i).flatMap ay)∧br lL q w.heap.size (jd k i)∧Below w.heap.size w q) (fun i q=>I [.int .i64 (i:Int)] q) w2 ⟨by subst hl;exact o2,m1.on b2,ae b1 b2⟩ ?_ ?_
 ·exact key
 ·rintro i hi ih q ⟨ho,hm,hB⟩;refine hI _ _ (ac.yes (decide_eq_true (by omega)) ((his i hi q hB).mono ?_));rintro e w5 ⟨rfl,b5⟩;have hB5:=ae hB b5;have ho5:=aF ho b5;have hm5:=hm.on b5;have hl5:=eS KF qN en hm5 (k i);rw [lT]at hl5;refine⟨_,rfl,?_⟩;have next:∀(z:World),z.ownsRow w1.heap.size bh 1 l.v l.n ((part 0 f n i).flatMap ay)→br lL z w.heap.size (jd k (i+1))→Below w.heap.size w z→
    af (some (nb w1)) (fun pa=>(0:Int)≤(i:Int)∧(i:Int) < ((n:Nat):Int)∧
     (Value.int .i64 ((clsOf k i:Nat):Int)).oneCell'=true∧(∃u,z.cell? (pa.add ((i:Int).toNat*1))=some u)∧z.frozen? (pa.add ((i:Int).toNat*1))=false∧
     ∀w7:World,w7=(z.setCell (pa.add ((i:Int).toNat*1)) (Value.int .i64 ((clsOf k i:Nat):Int)))→
     Ar .i64 ((i:Int)+1) (fun n_3=>I [Value.int .i64 n_3] w7)):=by
   intro z zo zm zB;obtain⟨u,fz,kk⟩:=gc (l:=l) (enc:=ay) (sz:=1) (fun _=>rfl) (by decide) zo (by rw [du];exact hln) hla (jz 0 f hi) (k:=0) (by decide) (f i) (.int .i64 (f i)) rfl;rw [au]at u fz kk;refine af.mk _ rfl ⟨by omega,by omega,rfl,u,fz,?_⟩;intro w7 hw7;rw [show((clsOf k i:Nat):Int)=f i by rw [hf]]at hw7;obtain⟨o7,s7,z7,b7⟩:=kk w7 hw7;refine Ar.nat (i+1) rfl (by omega) (ih w7 ⟨?_,zm.same (s7 _ (eC zo zm)),b7 _ _ (by omega) zB⟩);rw [ov (0:Int) f hi]at o7;exact o7
  rcases eD (k:=k) i with⟨c,hc,h2,h3,_⟩ |⟨hc,h2,h3,_⟩
  ·rw [hc]at hl5;refine⟨_,_,w5,hl5,?_⟩;intro J hJ;refine ac.no rfl (hJ _ _ ?_);have:=next w5 ho5 (by rw [show jd k (i+1)=jd k i by unfold jd;rw [h2]];exact hm5) hB5;rw [h3]at this;exact this
  ·rw [hc]at hl5;refine⟨_,_,w5,hl5,?_⟩;intro J hJ;obtain⟨w11,hr,hm11,hs11,hz11,hB11⟩:=fo KF qN hm5 (k i) (.int .i64 (((jd k i).length:Nat):Int)) (by rw [lT,hc];rfl);refine ac.yes rfl ⟨_,_,nu qN hm5 _,w11,hr,hJ _ _ ?_⟩;rw [iR]at hm11⊢;have:=next w11 (aU ho5 fun j hj=>hs11 j fun e=>eC ho5 hm5 (by rw [hj,e])) (by rw [BG h2];exact hm11) (hB11 _ _ (Nat.le_refl _) hB5);rw [h3]at this;exact this
 ·rintro q ⟨ho,hm,hB⟩;refine hI _ _ (ac.no (decide_eq_false (by omega)) ⟨_,_,nu qN hm _,l,?_,hln,?_,hB⟩)
  ·rw [iR];subst hl;rfl
  ·rw [rN,hf]at ho;exact aX ho (by omega)
theorem ym (w:World) (n:Nat) (key:Value) (k:Nat→Bs) (hn:n≤10000) (his:∀i,i<n→∀w1,Below w.heap.size w w1→bE gJ key [.int .i64 (i:Int)] w1 (fun e w2=>e= .returned (dp (k i))∧Below w1.heap.size w1 w2)):
  CP 182 #[.int .i64 (n:Int),key] w fun e w'=>∃of:Sl,e= .returned (.tuple #[of.v,.int .i64 (((aM k n).length:Nat):Int)])∧of.n=n∧w'.ownsRow w.heap.size bh 1 of.v of.n (((List.range n).map fun i=>((clsOf k i:Nat):Int)).flatMap ay)∧Below w.heap.size w w':=by
 refine aN (xi n key w) ?_;refine⟨_,_,gG _,?_⟩;have b1:=ah w (.map #[] 0);have m1:br dp (w.alloc (.map #[] 0)) w.heap.size (jd k 0):=iL w;obtain⟨w1,hw1⟩:∃w1,w1=w.alloc (.map #[] 0):=⟨_,rfl⟩;rw [←hw1]at b1 m1;rw [←hw1];refine⟨some (nb w1),n,n,_,kw w1 n (by omega),?_⟩;have b2:=ah w1 (.cells (Array.replicate n (.int .i64 0)) bh);obtain⟨f,hf⟩:∃f:Nat→Int,f=fun i=>((clsOf k i:Nat):Int):=⟨_,rfl⟩;have o2:=tC (enc:=ay) (0:Int) (.int .i64 0) rfl bh f w1 (n:=n) (by omega);obtain⟨l,hl⟩:∃l:Sl,l=⟨some (nb w1),n,n⟩:=⟨_,rfl⟩;have hln:l.n=n:=by subst hl;rfl
 have hla:l.a=some (nb w1):=by subst hl;rfl
 obtain⟨w2,hw2⟩:∃w2,w2=w1.alloc (.cells (Array.replicate n (.int .i64 0)) bh):=⟨_,rfl⟩;rw [←hw2]at b2 o2;rw [←hw2];have s1:w.heap.size<w1.heap.size:=m1.lt;intro I hI;have key:=bj (α:=World) n (fun i q=>q.ownsRow w1.heap.size bh 1 l.v l.n ((part 0 f n i).flatMap ay)∧br dp q w.heap.size (jd k i)∧Below w.heap.size w q) (fun i q=>I [.int .i64 (i:Int)] q) w2 ⟨by subst hl;exact o2,m1.on b2,ae b1 b2⟩ ?_ ?_
 ·exact key
 ·rintro i hi ih q ⟨ho,hm,hB⟩;refine hI _ _ (ac.yes (decide_eq_true (by omega)) ((his i hi q hB).mono ?_));rintro e w5 ⟨rfl,b5⟩;have hB5:=ae hB b5;have ho5:=aF ho b5;have hm5:=hm.on b5;have hl5:=eS pB gw en hm5 (k i);rw [lT]at hl5;refine⟨_,rfl,?_⟩;have next:∀(z:World),z.ownsRow w1.heap.size bh 1 l.v l.n ((part 0 f n i).flatMap ay)→br dp z w.heap.size (jd k (i+1))→Below w.heap.size w z→
    af (some (nb w1)) (fun pa=>(0:Int)≤(i:Int)∧(i:Int) < ((n:Nat):Int)∧
     (Value.int .i64 ((clsOf k i:Nat):Int)).oneCell'=true∧(∃u,z.cell? (pa.add ((i:Int).toNat*1))=some u)∧z.frozen? (pa.add ((i:Int).toNat*1))=false∧
     ∀w7:World,w7=(z.setCell (pa.add ((i:Int).toNat*1)) (Value.int .i64 ((clsOf k i:Nat):Int)))→
     Ar .i64 ((i:Int)+1) (fun n_3=>I [Value.int .i64 n_3] w7)):=by
   intro z zo zm zB;obtain⟨u,fz,kk⟩:=gc (l:=l) (enc:=ay) (sz:=1) (fun _=>rfl) (by decide) zo (by rw [du];exact hln) hla (jz 0 f hi) (k:=0) (by decide) (f i) (.int .i64 (f i)) rfl;rw [au]at u fz kk;refine af.mk _ rfl ⟨by omega,by omega,rfl,u,fz,?_⟩;intro w7 hw7;rw [show((clsOf k i:Nat):Int)=f i by rw [hf]]at hw7;obtain⟨o7,s7,z7,b7⟩:=kk w7 hw7;refine Ar.nat (i+1) rfl (by omega) (ih w7 ⟨?_,zm.same (s7 _ (eC zo zm)),b7 _ _ (by omega) zB⟩);rw [ov (0:Int) f hi]at o7;exact o7
  rcases eD (k:=k) i with⟨c,hc,h2,h3,_⟩ |⟨hc,h2,h3,_⟩
  ·rw [hc]at hl5;refine⟨_,_,w5,hl5,?_⟩;intro J hJ;refine ac.no rfl (hJ _ _ ?_);have:=next w5 ho5 (by rw [show jd k (i+1)=jd k i by unfold jd;rw [h2]];exact hm5) hB5;rw [h3]at this;exact this
  ·rw [hc]at hl5;refine⟨_,_,w5,hl5,?_⟩;intro J hJ;obtain⟨w11,hr,hm11,hs11,hz11,hB11⟩:=fo pB gw hm5 (k i) (.int .i64 (((jd k i).length:Nat):Int)) (by rw [lT,hc];rfl);refine ac.yes rfl ⟨_,_,nu gw hm5 _,w11,hr,hJ _ _ ?_⟩;rw [iR]at hm11⊢;have:=next w11 (aU ho5 fun j hj=>hs11 j fun e=>eC ho5 hm5 (by rw [hj,e])) (by rw [BG h2];exact hm11) (hB11 _ _ (Nat.le_refl _) hB5);rw [h3]at this;exact this
 ·rintro q ⟨ho,hm,hB⟩;refine hI _ _ (ac.no (decide_eq_false (by omega)) ⟨_,_,nu gw hm _,l,?_,hln,?_,hB⟩)
  ·rw [iR];subst hl;rfl
  ·rw [rN,hf]at ho;exact aX ho (by omega)
abbrev dI:TypeId:=133
abbrev kY:TypeId:=116
theorem Hr:Tryz.prog.underlying kY=some (.slice cq):=by kernel_rfl
theorem Gg:(Tryz.prog.info? cq).map (fun i=>(i.zero,i.size,i.bytes))=some (some (.slice none 0 0),1,24):=by kernel_rfl
theorem nG:E8 tb 1 kY cq 24:=⟨fun _=>rfl,by decide,fun x u hu=>by rw [List.mem_singleton.1 hu];rfl,Hr,_,Gg,rfl⟩
abbrev fV (l:List Nat):List Value:=(l.map fun i:Nat=>(i:Int)).flatMap ay
structure jo (w:World) (M:Aut) (next good:Sl) (rs:List Sl):Prop where
 onx:w.ownsRow 0 cq 1 next.v next.n (rs.flatMap tb)
 rl:rs.length=M.N
 each:∀(i:Nat) (r:Sl),rs[i]? =some r→w.ownsRow 0 bh 1 r.v r.n (fV ((List.range M.n).map (M.nxt i)))
 ogd:w.ownsRow 0 b_ 1 good.v good.n (((List.range M.N).map M.good).flatMap dS)
 ok:M.Ok
theorem jo.on {w w':World} {M:Aut} {next good:Sl} {rs:List Sl} (h:jo w M next good rs) (hb:Below w.heap.size w w'):jo w' M next good rs:=
 ⟨aF h.onx hb,h.rl,fun i r hr=>aF (h.each i r hr) hb,aF h.ogd hb,h.ok⟩
theorem jo.touch {w w':World} {M:Aut} {next good:Sl} {rs:List Sl} (h:jo w M next good rs) {a:Nat} {c:Array Value} (hb:w.heap[a]? =some (.cells c dI (0,0))) (t:aC a w w'):jo w' M next good rs:=
 ⟨t.own h.onx (aE h.onx hb (by decide)),h.rl,fun i r hr=>t.own (h.each i r hr) (aE (h.each i r hr) hb (by decide)),t.own h.ogd (aE h.ogd hb (by decide)),h.ok⟩
theorem jo.len {w:World} {M:Aut} {next good:Sl} {rs:List Sl} (h:jo w M next good rs):next.n=M.N∧good.n=M.N:=by
 have h1:=(dk.of_own nG h.onx).n;have h2:=(dk.of_own Gd h.ogd).n;exact⟨by rw [h1,h.rl],by simpa using h2⟩
theorem jo.row {w:World} {M:Aut} {next good:Sl} {rs:List Sl} (h:jo w M next good rs) {i:Nat} (hi:i<M.N):∃(p:Addr) (r:Sl),next.a=some p∧w.cell? (p.add (i*1))=some (.slice r.a r.n r.c)∧r.n=M.n∧Rw ay 1 w r.a (((List.range M.n).map (M.nxt i)).map fun i:Nat=>(i:Int)):=by
 have hls:=dk.of_own nG h.onx;have hl:i<rs.length:=by rw [h.rl];exact hi
 obtain⟨p,hp,c⟩:=bQ hls.r hl (v:=rs[i].v) rfl;have hr:=dk.of_own eL (h.each i _ (List.getElem?_eq_getElem hl));exact⟨p,rs[i],hp,c,by simpa using hr.n,hr.r⟩
theorem jo.rowAt {w:World} {M:Aut} {next good:Sl} {rs:List Sl} (h:jo w M next good rs) {i:Nat} (hi:i<M.N) (hl:i<rs.length):∃p:Addr,next.a=some p∧w.cell? (p.add (i*1))=some (.slice rs[i].a rs[i].n rs[i].c)∧rs[i].n=M.n∧Rw ay 1 w rs[i].a (((List.range M.n).map (M.nxt i)).map fun i:Nat=>(i:Int)):=by
 have hls:=dk.of_own nG h.onx;obtain⟨p,hp,c⟩:=bQ hls.r hl (v:=rs[i].v) rfl;have hr:=dk.of_own eL (h.each i _ (List.getElem?_eq_getElem hl));exact⟨p,hp,c,by simpa using hr.n,hr.r⟩
theorem jo.good {w:World} {M:Aut} {next good:Sl} {rs:List Sl} (h:jo w M next good rs) {i:Nat} (hi:i<M.N):∃p:Addr,good.a=some p∧w.cell? (p.add (i*1))=some (.bool (M.good i)):=by
 have hls:=dk.of_own Gd h.ogd;obtain⟨p,hp,c⟩:=bQ hls.r (show i< ((List.range M.N).map M.good).length by simpa using hi) (v:=.bool (M.good i)) (by simp [dS]);exact⟨p,hp,c⟩
theorem fm {w:World} {A:Option Addr} {n:Nat} {f:Nat→Nat} (h:Rw ay 1 w A (((List.range n).map f).map fun i:Nat=>(i:Int))) {i:Nat} (hi:i<n):∃p:Addr,A=some p∧w.cell? (p.add (i*1))=some (.int .i64 ((f i:Nat):Int)):=
 bQ h (show i< (((List.range n).map f).map fun i:Nat=>(i:Int)).length by simpa using hi) (v:=.int .i64 ((f i:Nat):Int)) (by simp [ay])
theorem lp {w:World} {a:Nat} {c:Array Value} {fz:Nat×Nat} (h:w.heap[a]? =some (.cells c dI fz)) (j:Nat):w.cell? ((⟨a,0,none⟩:Addr).add j)=c[j]? :=ai _ _ h j
theorem lr (w:World) (a:Nat) {c:Array Value} {fz:Nat×Nat} (h:w.heap[a]? =some (.cells c dI fz)) (next:Sl) (h1:c[1]? =some next.v):
  CP 21 #[.pointer (some ⟨a,0,none⟩)] w fun e w'=>e= .returned (.int .i64 (next.n:Int))∧w'=w:=by
 refine aN (DH (some ⟨a,0,none⟩) w) ?_;exact ac.no rfl (af.mk _ rfl ⟨_,_,_,by rw [lp h];exact h1,rfl,rfl⟩)
theorem CC (w:World) (cb a:Nat) {ec:TypeId} (hc:w.heap[cb]? =some (.cells #[.pointer (some ⟨a,0,none⟩)] ec (0,0))) {c:Array Value} {fz:Nat×Nat} (h:w.heap[a]? =some (.cells c dI fz)) (M:Aut) (next good:Sl) (rs:List Sl) (hM:jo w M next good rs) (h2:c[2]? =some good.v) (i:Nat) (hi:i<M.N):
  CP 181 #[.int .i64 (i:Int),.pointer (some ⟨cb,0,none⟩)] w fun e w'=>e= .returned (lL (M.good i))∧Below w.heap.size w w':=by
 refine aN (xP i (some ⟨cb,0,none⟩) w) ?_;obtain⟨p,hp,hg⟩:=hM.good hi;have hl:=hM.len.2;exact af.mk _ rfl ⟨_,bw hc,af.mk _ rfl ⟨_,_,_,by rw [lp h];exact h2,af.mk p hp ⟨by omega,by omega,_,hg,rfl,Below.refl _ _⟩⟩⟩
theorem Dp (w:World) (ob cb a:Nat) {eo ec:TypeId} (of:Sl) (f:Nat→Nat) (ho:w.heap[ob]? =some (.cells #[of.v] eo (0,0))) (hc:w.heap[cb]? =some (.cells #[.pointer (some ⟨a,0,none⟩)] ec (0,0))) {c:Array Value} {fz:Nat×Nat} (h:w.heap[a]? =some (.cells c dI fz)) (M:Aut) (next good:Sl) (rs:List Sl) (hM:jo w M next good rs) (h1:c[1]? =some next.v) (hof:w.ownsRow 0 bh 1 of.v of.n (fV ((List.range M.N).map f))) (hn:M.n≤10000) (i:Nat) (hi:i<M.N):
  CP 183 #[.int .i64 (i:Int),.pointer (some ⟨ob,0,none⟩),.pointer (some ⟨cb,0,none⟩)] w fun e w'=>e= .returned (dp (M.keyT f i))∧Below w.heap.size w w':=by
 refine aJ (AN i (some ⟨ob,0,none⟩) (some ⟨cb,0,none⟩) w (fun u w'=>u=dp (M.keyT f i)∧Below w.heap.size w w') ?_) (by rintro v w' ⟨rfl,h⟩;exact⟨rfl,h⟩);intro w1 hw1;have b1:Below w.heap.size w w1:=by subst hw1;exact aO w
 have hof1:=dk.of_own eL (aF hof b1);have hofn:of.n=((List.range M.N).map f).length:=by simpa using hof1.n
 have hM1:=hM.on b1;obtain⟨p,hp,c0⟩:=fm hof1.r hi;obtain⟨p2,r,hp2,c2,hrn,hr⟩:=hM1.row hi;have hln:=hM1.len.1;have hlen:((List.range M.N).map f).length=M.N:=by simp
 have hfa:(M.n=((List.range M.n).map (M.nxt i)).length):=by simp
 refine af.mk _ rfl ⟨_,_,_,bw (aj b1 ho),af.mk p hp ⟨by omega,by omega,_,c0,af.mk _ rfl ⟨_,bw (aj b1 hc),af.mk _ rfl ⟨_,_,_,by rw [lp (aj b1 h)];exact h1,af.mk p2 hp2 ⟨by omega,by omega,_,_,_,c2,af.mk _ rfl ⟨_,_,_,bw (aj b1 ho),?_⟩⟩⟩⟩⟩⟩;have ht:=zV w1 (f i) r.a of.a r.c of.c ((List.range M.n).map (M.nxt i)) ((List.range M.N).map f) hr hof1.r (by
  intro y hy;obtain⟨k,hk,rfl⟩:=List.mem_map.1 hy;rw [hlen];exact hM.ok.lt _ _ hi (List.mem_range.1 hk)) (by simp;exact hn)
 rw [←hfa, ←hofn, ←hrn]at ht;refine ht.mono ?_;rintro e w2 ⟨rfl,b2⟩;refine⟨_,rfl,?_,ae b1 b2⟩;show Value.string (str _)=Value.string (str _);congr 2;unfold Aut.keyT;congr 2;rw [hrn,List.map_map];apply List.map_congr_left;intro k hk;show((List.range M.N).map f).getD (M.nxt i k) 0=f (M.nxt i k);have:=hM.ok.lt _ _ hi (List.mem_range.1 hk);simp [List.getD,this]
set_option maxHeartbeats 1000000 in
theorem zi (w:World) (a:Nat) (c:Array Value) (h:w.heap[a]? =some (.cells c dI (0,0))) (hs:c.size=7) (M:Aut) (next good:Sl) (rs:List Sl) (hM:jo w M next good rs) (h1:c[1]? =some next.v) (h2:c[2]? =some good.v) (hN:M.N≤10000) (hn:M.n≤10000):
  CP 125 #[.pointer (some ⟨a,0,none⟩)] w fun e w'=>e= .returned (.tuple #[])∧∃(of:Sl) (f:Nat→Nat),w'.heap[a]? =some (.cells (c.setIfInBounds 6 of.v) dI (0,0))∧Aut.Cls M f∧of.n=M.N∧w'.ownsRow w.heap.size bh 1 of.v of.n (fV ((List.range M.N).map f))∧aC a w w':=by
 refine aN (xu (some ⟨a,0,none⟩) w) ?_;intro w1 hw1;have b1:Below w.heap.size w w1:=by subst hw1;exact ah _ _
 have c1:w1.heap[w.heap.size]? =some (.cells #[.pointer (some ⟨a,0,none⟩)] 46 (0,0)):=by subst hw1;exact ap _ _
 have lt1:=(Array.getElem?_eq_some_iff.1 c1).1;have hal:a<w.heap.size:=(Array.getElem?_eq_some_iff.1 h).1;have hok:=hM.ok;obtain⟨hnl,hgl⟩:=hM.len;refine⟨_,bw c1,(lr w1 a (aj b1 h) next h1).mono ?_⟩;rintro e w2 ⟨rfl,rfl⟩;rw [hnl];refine⟨_,rfl,(za w2 M.N _ M.good hN fun i hi q hq=>bZ (by kernel_rfl) (CC q w.heap.size a (aj hq c1) (aj hq (aj b1 h)) M next good rs ((hM.on b1).on hq) h2 i hi)).mono ?_⟩;rintro e w3 ⟨of,rfl,hofn,hof,b3⟩;have hb3:=ae b1 b3;have c3:=aj b3 c1;refine⟨_,_,_,_,rfl,?_⟩;intro w4 hw4;refine ij hw4 rfl ?_;intro w5 o5 b5;have hb5:=ae hb3 b5;have c5:=aj b5 c3;have lt3:w.heap.size<w3.heap.size:=(Array.getElem?_eq_some_iff.1 c3).1;intro I hI;have bar:∀(q:World) (of:Sl) (f:Nat→Nat),q.ownsRow w.heap.size bh 1 of.v of.n (((List.range M.N).map fun i=>((f i:Nat):Int)).flatMap ay)→q.ownsRow w.heap.size bh 1 of.v of.n (fV ((List.range M.N).map f)):=by
  intro q of f h;unfold fV;rw [List.map_map];exact h
 have round:∀(r:Nat) (q:World) (of:Sl),q.heap[w3.heap.size]? =some (.cells #[of.v] cq (0,0))→q.ownsRow w.heap.size bh 1 of.v of.n (fV ((List.range M.N).map (M.ofR r)))→Below w.heap.size w q→q.heap[w.heap.size]? =some (.cells #[.pointer (some ⟨a,0,none⟩)] 46 (0,0))→
   (M.cntR (r+1)≠M.cntR r→∀(q':World) (of':Sl),q'.heap[w3.heap.size]? =some (.cells #[of'.v] cq (0,0))→q'.ownsRow w.heap.size bh 1 of'.v of'.n (fV ((List.range M.N).map (M.ofR (r+1))))→Below w.heap.size w q'→q'.heap[w.heap.size]? =some (.cells #[.pointer (some ⟨a,0,none⟩)] 46 (0,0))→I [.int .i64 ((M.cntR (r+1):Nat):Int)] q')→I [.int .i64 ((M.cntR r:Nat):Int)] q:=by
  intro r q of ho hof hB hcq again;have hq:=aj hB h;have hMq:=hM.on hB;refine hI _ _ ⟨_,bw hcq,(lr q a hq next h1).mono ?_⟩;rintro e q1 ⟨rfl,rfl⟩;rw [hnl];refine⟨_,rfl,(ym q1 M.N _ (M.keyT (M.ofR r)) hN fun i hi z hz=>bZ (by kernel_rfl) (Dp z w3.heap.size w.heap.size a of (M.ofR r) (aj hz ho) (aj hz hcq) (aj hz hq) M next good rs (hMq.on hz) h1 (aX (aF hof hz) (Nat.zero_le _)) hn i hi)).mono ?_⟩;rintro e q2 ⟨of',rfl,hofn,hof',b2⟩;have hB2:=ae hB b2;have ho2:=aj b2 ho;have hof2:=bar _ _ _ (aX hof' (show w.heap.size≤_ from hB.size));refine⟨_,_,_,_,rfl,rfl,⟨_,bw ho2⟩,bV ho2,?_⟩;intro q3 hq3;have ho3:q3.heap[w3.heap.size]? =some (.cells #[of'.v] cq (0,0)):=by subst hq3;exact bO ho2 of'.v
  have hB3:Below w.heap.size w q3:=by subst hq3;exact hB2.setCell (p:=⟨w3.heap.size,0,none⟩) (by show w.heap.size≤w3.heap.size;omega) _
  have hof3:q3.ownsRow w.heap.size bh 1 of'.v of'.n (fV ((List.range M.N).map (M.ofR (r+1)))):=by subst hq3;exact bD hof2 _ (aE hof2 ho2 (by decide))
  have hc3:q3.heap[w.heap.size]? =some (.cells #[.pointer (some ⟨a,0,none⟩)] 46 (0,0)):=by
   subst hq3;rw [aq (show w.heap.size≠w3.heap.size by omega)];exact aj b2 hcq
  have hcnt:(aM (M.keyT (M.ofR r)) M.N).length=M.cntR (r+1):=rfl;rw [hcnt];by_cases he:M.cntR (r+1)=M.cntR r
  ·have ha3:=aj hB3 h;have e6:((⟨a,0,none⟩:Addr).add 3).add 3=(⟨a,0,none⟩:Addr).add 6:=by rw [Addr.add_add]
   refine ac.yes (by rw [he];simp) ⟨_,bw hc3,_,_,_,bw ho3,af.mk _ rfl ⟨rfl,⟨c[6]'(by omega),by rw [e6,aH ha3,Array.getElem?_eq_getElem (by omega)]⟩,by rw [e6];exact be ha3,?_⟩⟩;intro q4 hq4;rw [e6]at hq4;refine⟨rfl,of',M.ofR (r+1),by subst hq4;exact bF ha3 _,Aut.cls_done hok he,hofn,?_,?_⟩
   ·subst hq4;exact bD hof3 _ (by rw [av];exact aE hof3 ha3 (by decide))
   ·refine(aC.of_below hB3).trans ?_;subst hq4;exact⟨rfl,rfl,rfl,by rw [ba];exact Nat.le_refl _,fun k _ hk=>aq (by rw [av];exact hk)⟩
  ·refine ac.no (by simp;omega) (again he q3 of' ho3 hof3 hB3 hc3)
 have loop:∀(d r:Nat) (q:World) (of:Sl),M.N-M.cntR r≤d→q.heap[w3.heap.size]? =some (.cells #[of.v] cq (0,0))→q.ownsRow w.heap.size bh 1 of.v of.n (fV ((List.range M.N).map (M.ofR r)))→Below w.heap.size w q→q.heap[w.heap.size]? =some (.cells #[.pointer (some ⟨a,0,none⟩)] 46 (0,0))→I [.int .i64 ((M.cntR r:Nat):Int)] q:=by
  intro d;induction d with
  |zero=>
   intro r q of hd ho hof hB hcq;refine round r q of ho hof hB hcq fun hne=>?_;have:=Aut.cntR_mono hok r;have:=Aut.cntR_le (M:=M) (r+1);omega
  |succ d ihd=>
   intro r q of hd ho hof hB hcq;refine round r q of ho hof hB hcq fun hne q' of' h1 h2 h3 h4=>ihd (r+1) q' of' ?_ h1 h2 h3 h4;have:=Aut.cntR_mono hok r;have:=Aut.cntR_le (M:=M) (r+1);omega
 exact loop M.N 0 w5 of (by omega) o5 (bar _ _ _ (aX (aF hof b5) (by omega))) hb5 c5
end Go.Proofs.YtijbcdiffjjefaaGreatDoor.Eng
