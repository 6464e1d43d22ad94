/- The grid of a vocabulary, walked by the engine. -/
import Derived.Test.YtdlcfegnaphclaaGreatZmSp
import Derived.Test.YtdlcfegnaphclaaGreatZmTab
import Derived.RangeFuncFrom
import Derived.RangeFuncCalls
import Derived.RangeFuncLeaves
import Derived.RangeFuncBox
import Derived.Shelf.Abstract
import Derived.Shelf.RegionOpen
import Derived.OwnWalkIn
import Derived.TacticsInMore
import Derived.LoopNIn
import Derived.LoopIn
set_option linter.unusedVariables false
set_option linter.unusedSimpArgs false
set_option maxRecDepth 100000
namespace Go.Proofs.YtdlcfegnaphclaaGreat.Eng
open Go Go.RowKit
theorem xG (w:World) (v:Nat) (s:au) (T:List aQ) (hV:bg w v s T) (a b:Int) (ha:(aI s T).Has a) (hb:(aI s T).Has b):
  CP 76 #[.pointer (some ⟨v,0,none⟩),.int .i64 a,.int .i64 b] w fun e w'=>e= .returned (.bool (decide ((aI s T).Canon [a,b])))∧bg w' v s T∧aq v w w':=by
 refine aN (yb (some ⟨v,0,none⟩) a b w (fun u w'=>u= .bool (decide ((aI s T).Canon [a,b]))∧bg w' v s T∧aq v w w') ?_) (by rintro v w' ⟨rfl,h⟩;exact⟨rfl,h⟩);have parts:∀ {q:World},bg q v s T→∃x tp bp mp,ce q s T x tp bp mp∧∃c,lh q v c tp bp mp:=by
  rintro q ⟨w0,x,tp,bp,mp,d,l,uses,hR⟩;exact⟨x,tp,bp,mp,hR.now,_,hR.vblk⟩
 obtain⟨x,tp,bp,mp,hP,_⟩:=parts hV;have hok:=lY hP;have hab:∀t∈ [a]++ [b],(aI s T).Has t:=by
  intro t ht;simp at ht;rcases ht with rfl |rfl
  ·exact ha
  ·exact hb
 refine(kJ w v s T hV a).mono ?_;rintro e w1 ⟨rfl,hV1,t1⟩;refine⟨_,rfl,ac.mk (fun h1=>?_) fun h1=>⟨?_,hV1,t1⟩⟩
 ·have ca:=(gp hP ha).1 h1;refine(kJ w1 v s T hV1 b).mono ?_;rintro e w2 ⟨rfl,hV2,t2⟩;have t12:=t1.trans t2;refine⟨_,rfl,ac.mk (fun h2=>?_) fun h2=>⟨?_,hV2,t12⟩⟩
  ·have cb:=(gp hP hb).1 h2;obtain⟨x2,tp2,bp2,mp2,hP2,c2,hB2⟩:=parts hV2;refine(vC hB2 hP2 a b ha hb ca cb).mono ?_;rintro e w3 ⟨r,rfl,hr,b3⟩;refine⟨r,rfl,?_,hV2.on b3,t12.trans (aq.of_below b3)⟩;have hm:=Voc.canon_more hok (init:=[]) (l:=a) (t:=b) (fun x hx=>by simp at hx;rw [hx];exact ha) ca hb;congr 1;have hm2:(aI s T).Canon [a,b]↔(aI s T).Canon [b]∧(aI s T).Pair a b:=hm;cases r with
   |true=>exact(decide_eq_true (hm2.2 ⟨cb,hr.1 rfl⟩)).symm
   |false=>exact(decide_eq_false fun e=>by have:=hr.2 (hm2.1 e).2;cases this).symm
  ·rw [decide_eq_false fun e=>?_];have:=(gp hP hb).2 (Voc.canon_append hok (P:=[a]) (Q:=[b]) hab e).2;rw [h2]at this;cases this
 ·rw [decide_eq_false fun e=>?_];have:=(gp hP ha).2 (Voc.canon_append hok (P:=[a]) (Q:=[b]) hab e).1;rw [h1]at this;cases this
abbrev rd:TypeId:=132
abbrev FZ:TypeId:=129
theorem EE:Tryz.prog.underlying FZ=some (.slice my):=by kernel_rfl
theorem Em:(Tryz.prog.info? my).map (fun i=>(i.zero,i.size,i.bytes))=some (some (.slice none 0 0),1,24):=by kernel_rfl
def ou (r:Sl):List Value:=[r.v]
theorem CO:zO ou 1 FZ my 24:=⟨fun _=>rfl,by decide,fun x u hu=>by rw [List.mem_singleton.1 hu];rfl,EE,_,Em,rfl⟩
def qh (G:List Int):List (Int×Value):=G.zipIdx.map fun x=>(x.1,.int .i64 (x.2:Int))
theorem AW (G:List Int) (x:Int):qh (G++ [x])=qh G++ [(x,.int .i64 (G.length:Int))]:=by simp [qh,List.zipIdx_append]
theorem ro (G:List Int) (k:Int):dC k (qh G)=(G.idxOf? k).map fun i:Nat=>Value.int .i64 (i:Int):=by
 have:=fY (fun x:Int=>x) k G 0;simp only [Nat.zero_add,List.map_id']at this;exact this
def kK (s:au) (T:List aQ) (i:Nat):Bool:=decide ((aI s T).Canon [(bv s T).getD i 0])
def dI (s:au) (T:List aQ) (i k:Nat):Bool:=decide ((aI s T).Canon [(bv s T).getD i 0,(bv s T).getD k 0])
structure ji (w:World) (g:Nat) (G:List Int) (al:Nat→Bool) (rel:Nat→Nat→Bool) (ids rows alone:Sl) (mb:Nat) (rs:List Sl) (m:Nat):Prop where
 blk:w.heap[g]? =some (.cells #[ids.v,.map (some mb),rows.v,alone.v] rd (0,0))
 oi:w.ownsRow 0 aW 1 ids.v ids.n (G.flatMap aK)
 map:bc aT w mb (qh G)
 orows:w.ownsRow 0 my 1 rows.v rows.n (rs.flatMap ou)
 rl:rs.length=m
 each:∀(i:Nat) (r:Sl),rs[i]? =some r→w.ownsRow 0 gg 1 r.v r.n ((ba G.length (rel i)).flatMap cD)
 oal:w.ownsRow 0 gg 1 alone.v alone.n ((ba G.length al).flatMap cD)
def oI (w:World) (g:Nat) (G:List Int) (al:Nat→Bool) (rel:Nat→Nat→Bool):Prop:=∃ids rows alone mb rs,ji w g G al rel ids rows alone mb rs G.length
theorem ji.on {w w':World} {g:Nat} {G:List Int} {al:Nat→Bool} {rel:Nat→Nat→Bool} {ids rows alone:Sl} {mb:Nat} {rs:List Sl} {m:Nat} (h:ji w g G al rel ids rows alone mb rs m) (hb:Below w.heap.size w w'):ji w' g G al rel ids rows alone mb rs m:=
 ⟨ai hb h.blk,aG h.oi hb,h.map.on hb,aG h.orows hb,h.rl,fun i r hr=>aG (h.each i r hr) hb,aG h.oal hb⟩
theorem oI.on {w w':World} {g:Nat} {G:List Int} {al:Nat→Bool} {rel:Nat→Nat→Bool} (h:oI w g G al rel) (hb:Below w.heap.size w w'):oI w' g G al rel:=by
 obtain⟨ids,rows,alone,mb,rs,h⟩:=h;exact⟨ids,rows,alone,mb,rs,h.on hb⟩
theorem bg.typed {w:World} {v:Nat} {s:au} {T:List aQ} (h:bg w v s T):∃c,w.heap[v]? =some (.cells c df (0,0)):=by
 obtain⟨w0,x,tp,bp,mp,d,l,uses,hR⟩:=h;exact⟨_,hR.blk⟩
theorem bg.ne_cells {w:World} {v:Nat} {s:au} {T:List aQ} (h:bg w v s T) {k:Nat} {c:Array Value} {e:TypeId} {fz:Nat×Nat} (hk:w.heap[k]? =some (.cells c e fz)) (he:e≠df):k≠v:=by
 obtain⟨c',hc⟩:=h.typed;rintro rfl;rw [hc]at hk;cases hk;exact he rfl
theorem bg.ne_map {w:World} {v:Nat} {s:au} {T:List aQ} (h:bg w v s T) {κ:Type} [DecidableEq κ] {kv:κ→Value} {r:Nat} {m:List (κ×Value)} (hm:bc kv w r m):r≠v:=by
 obtain⟨c',hc⟩:=h.typed;rintro rfl;obtain⟨es,k,hk,_⟩:=hm;rw [hc]at hk;cases hk
theorem ji.touch {w w':World} {g:Nat} {G:List Int} {al:Nat→Bool} {rel:Nat→Nat→Bool} {ids rows alone:Sl} {mb:Nat} {rs:List Sl} {m:Nat} (h:ji w g G al rel ids rows alone mb rs m) {v:Nat} {s:au} {T:List aQ} (hV:bg w v s T) (t:aq v w w'):ji w' g G al rel ids rows alone mb rs m:=
 ⟨t.held (hV.ne_cells h.blk (by decide)) h.blk,hV.own_touch t h.oi (by decide),h.map.same (t.block mb h.map.lt (hV.ne_map h.map)),hV.own_touch t h.orows (by decide),h.rl,fun i r hr=>hV.own_touch t (h.each i r hr) (by decide),hV.own_touch t h.oal (by decide)⟩
theorem f8 {w2 w3:World} {x u:Value} {e:TypeId} (hw:w3=w2.alloc (.cells #[x] e)) (hu:u.oneCell'=true) {k:World→Prop} (hk:∀w4,w4.heap[w2.heap.size]? =some (.cells #[u] e (0,0))→Below w2.heap.size w2 w4→k w4):u.oneCell'=true∧(∃y,w3.cell? (nb w2)=some y)∧w3.frozen? (nb w2)=false∧∀w4,w4=w3.setCell (nb w2) u→k w4:=
 d_ (bK [x] [u] rfl (by intro y hy;rw [List.mem_singleton.1 hy];exact hu) w3 hw fun w4 h4 _ b4=>hk w4 h4 b4)
theorem bh {w:World} {b:Nat} {x:Value} {e:TypeId} {fz:Nat×Nat} (h:w.heap[b]? =some (.cells #[x] e fz)):w.cell? ⟨b,0,none⟩=some x:=aH h
theorem fk {α:Type} {l:List α} {i:Nat} (h:i<l.length) (d:α):l.getD i d=l[i]:=by simp [List.getD,h]
theorem oA {s:au} {T:List aQ} (h1:iW T) (h2:s.right=true):256≤(bv s T).length∧(bv s T).length≤1032:=by
 have:=h1.most;have:=h1.len;have:=fe (gD h2).2.2.2.1;rw [gJ];omega
theorem aq.put {v d j:Nat} {a b:World} (t:aq v a b) (hd:a.heap.size≤d) (u:Value):aq v a (b.setCell ((⟨d,0,none⟩:Addr).add j) u):=
 ⟨t.os,t.tape,t.output,by rw [aL];exact t.size,fun k hk hv=>by rw [ap (by rw [ay];show k≠d;omega)];exact t.block k hk hv⟩
theorem bg.put {w:World} {v d j:Nat} {s:au} {T:List aQ} (h:bg w v s T) {c:Array Value} {e:TypeId} (hd:w.heap[d]? =some (.cells c e (0,0))) (he:bI≠e) (hv:v<d) (u:Value):bg (w.setCell ((⟨d,0,none⟩:Addr).add j) u) v s T:=by
 obtain⟨w0,x,tp,bp,mp,q,l,uses,hR⟩:=h;have hlt:=hR.lt;refine⟨w0,x,tp,bp,mp,q,l,uses,hR.parts,bx hR.below (by omega) u,hlt,by rw [ap (by rw [ay];show v≠d;omega)];exact hR.blk,?_⟩;rcases hR.once with h |⟨h1,h2,h3⟩
 ·exact .inl h
 ·exact .inr ⟨h1,h2,bF h3 u (by rw [ay];exact aA h3 hd he)⟩
theorem bg.growE {w w':World} {v:Nat} {s:au} {T:List aQ} (h:bg w v s T) {B:Nat} (hb:Below B w w') (hv:v<B) {B' n sz:Nat} {e:TypeId} {u:Value} {xs:List Value} (ho:w.ownsRow B' e sz u n xs) (he:bI≠e) (hk:∀k,k<w.heap.size→u.ownBlock≠some k→w'.heap[k]? =w.heap[k]?):bg w' v s T:=by
 obtain⟨w0,x,tp,bp,mp,d,l,uses,hR⟩:=h;have hlt:=hR.lt;refine⟨w0,x,tp,bp,mp,d,l,uses,hR.parts,hR.below.trans (hb.mono (by omega)),hlt,by rw [hb.block v hv];exact hR.blk,?_⟩;rcases hR.once with h |⟨h1,h2,h3⟩
 ·exact .inl h
 ·exact .inr ⟨h1,h2,aU h3 fun k hk3=>hk k (cS h3 k hk3).2 (de h3 ho he k hk3)⟩
theorem AK (w:World) (v:Nat) (s:au) (T:List aQ) (hV:bg w v s T) (t:Int) (ht:(aI s T).Has t):
  CP 73 #[.pointer (some ⟨v,0,none⟩),.int .i64 t] w fun e w'=>e= .returned (.bool (decide ((aI s T).Canon [t])))∧bg w' v s T∧aq v w w':=by
 have hP:∃x tp bp mp,ce w s T x tp bp mp:=by
  obtain⟨w0,x,tp,bp,mp,d,l,uses,hR⟩:=hV;exact⟨x,tp,bp,mp,hR.now⟩
 obtain⟨x,tp,bp,mp,hP⟩:=hP;refine(kJ w v s T hV t).mono ?_;rintro e w1 ⟨rfl,h⟩;refine⟨?_,h⟩;congr 2;have:=gp hP ht;cases ha:fB s T t with
 |true=>exact(decide_eq_true (this.1 ha)).symm
 |false=>exact(decide_eq_false fun e=>by rw [this.2 e]at ha;cases ha).symm
theorem AI (w:World) (v:Nat) (s:au) (T:List aQ) (hV:bg w v s T) (b0 b1:Nat) {e0 e1:TypeId} (ids:Sl) (G:List Int) (h0:w.heap[b0]? =some (.cells #[.pointer (some ⟨v,0,none⟩)] e0 (0,0))) (h1:w.heap[b1]? =some (.cells #[ids.v] e1 (0,0))) (oi:w.ownsRow 0 aW 1 ids.v ids.n (G.flatMap aK)) (hG:∀t∈G,(aI s T).Has t) (i:Nat) (hi:i<G.length):
  CP 72 #[.int .i64 (i:Int),.pointer (some ⟨b0,0,none⟩),.pointer (some ⟨b1,0,none⟩)] w fun e w'=>e= .returned (.bool (decide ((aI s T).Canon [G.getD i 0])))∧bg w' v s T∧aq v w w':=by
 refine aJ (xv i (some ⟨b0,0,none⟩) (some ⟨b1,0,none⟩) w) ?_;intro w1 hw1;have b1':Below w.heap.size w w1:=by subst hw1;exact aP w
 have hls:=co.of_own eT (aG oi b1');have hn:=hls.n;obtain⟨p,hp,c0⟩:=be hls.r hi rfl;refine ag.mk _ rfl ⟨_,bh (ai b1' h0),ag.mk _ rfl ⟨ids.a,ids.n,ids.c,bh (ai b1' h1),ag.mk p hp ⟨by omega,by omega,_,c0,?_⟩⟩⟩;refine(AK w1 v s T (hV.on b1') G[i] (hG _ (List.getElem_mem hi))).mono ?_;rintro e w2 ⟨rfl,hV2,t2⟩;refine⟨_,rfl,?_,hV2,(aq.of_below b1').trans t2⟩;rw [fk hi]
theorem Bj (w:World) (v:Nat) (s:au) (T:List aQ) (hV:bg w v s T) (cg ci cv ca cids:Nat) {eg ei ev ea ed:TypeId} (g:Nat) (ids rows alone:Sl) (mb:Nat) (rs:List Sl) (m i k:Nat) (hb:v<cg∧v<ci∧v<cv∧v<ca∧v<cids)
  (hR:ji w g (bv s T) (kK s T) (dI s T) ids rows alone mb rs m) (hgh:∀t∈bv s T,(aI s T).Has t) (hgl:(bv s T).length≤1032)
  (h0:w.heap[cg]? =some (.cells #[.pointer (some ⟨g,0,none⟩)] eg (0,0))) (h1:w.heap[ci]? =some (.cells #[.int .i64 (i:Int)] ei (0,0))) (h2:w.heap[cv]? =some (.cells #[.pointer (some ⟨v,0,none⟩)] ev (0,0))) (h3:w.heap[ca]? =some (.cells #[.int .i64 ((bv s T).getD i 0)] ea (0,0))) (h4:w.heap[cids]? =some (.cells #[ids.v] ed (0,0)))
  (hi:i< (bv s T).length) (hk:k< (bv s T).length):
  CP 74 #[.int .i64 (k:Int),.pointer (some ⟨cg,0,none⟩),.pointer (some ⟨ci,0,none⟩),.pointer (some ⟨cv,0,none⟩),.pointer (some ⟨ca,0,none⟩),.pointer (some ⟨cids,0,none⟩)] w fun e w'=>e= .returned (.bool (dI s T i k))∧bg w' v s T∧aq v w w':=by
 refine aJ (yM k (some ⟨cg,0,none⟩) (some ⟨ci,0,none⟩) (some ⟨cv,0,none⟩) (some ⟨ca,0,none⟩) (some ⟨cids,0,none⟩) w) ?_;have hP:∃x tp bp mp,ce w s T x tp bp mp:=by
  obtain⟨w0,x,tp,bp,mp,d,l,uses,hR⟩:=hV;exact⟨x,tp,bp,mp,hR.now⟩
 obtain⟨x,tp,bp,mp,hP⟩:=hP;have hok:=lY hP;have hA:(aI s T).Has ((bv s T).getD i 0):=by rw [fk hi];exact hgh _ (List.getElem_mem hi)
 have hB:(aI s T).Has ((bv s T).getD k 0):=by rw [fk hk];exact hgh _ (List.getElem_mem hk)
 have hpair:dI s T i k=true→kK s T i=true∧kK s T k=true:=by
  intro h;have:=Voc.canon_append hok (P:=[(bv s T).getD i 0]) (Q:=[(bv s T).getD k 0]) (by
   intro t ht;simp only [List.cons_append,List.nil_append,List.mem_cons,List.not_mem_nil,or_false]at ht;rcases ht with rfl |rfl
   ·exact hA
   ·exact hB) (of_decide_eq_true h)
  exact⟨decide_eq_true this.1,decide_eq_true this.2⟩
 intro w1 hw1;have b1':Below w.heap.size w w1:=by subst hw1;exact aP w
 have t1:aq v w w1:=aq.of_below b1';have hR1:=hR.on b1';have hV1:=hV.on b1';have al1:=co.of_own px hR1.oal;refine ag.mk _ rfl ⟨_,bh (ai b1' h0),ag.mk _ rfl ⟨alone.a,alone.n,alone.c,by rw [aM hR1.blk];rfl,ag.mk _ rfl ⟨_,bh (ai b1' h1),?_⟩⟩⟩;refine(i9 w1 alone.a alone.n alone.c _ (kK s T) al1.r al1.n (by omega) i hi).mono ?_;rintro e w2 ⟨rfl,hw2⟩;rw [hw2];refine⟨_,rfl,ac.mk (fun ha=>?_) fun ha=>⟨?_,hV1,t1⟩⟩
 ·refine ag.mk _ rfl ⟨_,bh (ai b1' h0),ag.mk _ rfl ⟨alone.a,alone.n,alone.c,by rw [aM hR1.blk];rfl,?_⟩⟩;refine(i9 w1 alone.a alone.n alone.c _ (kK s T) al1.r al1.n (by omega) k hk).mono ?_;rintro e w3 ⟨rfl,hw3⟩;rw [hw3];refine⟨_,rfl,ac.mk (fun hb=>?_) fun hb=>⟨?_,hV1,t1⟩⟩
  ·have hls:=co.of_own eT hR1.oi;have hn:=hls.n;obtain⟨p,hp,c0⟩:=be hls.r hk rfl;refine ag.mk _ rfl ⟨_,bh (ai b1' h2),ag.mk _ rfl ⟨_,bh (ai b1' h3),ag.mk _ rfl ⟨ids.a,ids.n,ids.c,bh (ai b1' h4),ag.mk p hp ⟨by omega,by omega,_,c0,?_⟩⟩⟩⟩;rw [←fk hk 0];refine(xG w1 v s T hV1 _ _ hA hB).mono ?_;rintro e w4 ⟨rfl,hV4,t4⟩;exact⟨_,rfl,rfl,hV4,t1.trans t4⟩
  ·cases hr:dI s T i k with
   |false=>rfl
   |true=>rw [(hpair hr).2]at hb;cases hb
 ·cases hr:dI s T i k with
  |false=>rfl
  |true=>rw [(hpair hr).1]at ha;cases ha
theorem dD {w:World} {B:Nat} {e:TypeId} {sz n:Nat} {u:Value} {xs:List Value} (h:w.ownsRow B e sz u n xs) {κ:Type} [DecidableEq κ] {kv:κ→Value} {r:Nat} {m:List (κ×Value)} (hm:bc kv w r m):u.ownBlock≠some r:=by
 obtain⟨es,k,hk,_⟩:=hm;intro hb;rcases h.2 with⟨rfl,_⟩ |⟨g,cap,cur,rfl,_,hg,_⟩
 ·cases hb
 ·cases hb;rw [hk]at hg;cases hg
theorem Av {q w1 w2:World} {x y u z:Value} {e e':TypeId} (h1:w1=q.alloc (.cells #[x] e)) (h2:w2=w1.alloc (.cells #[y] e')) (hu:u.oneCell'=true) (hz:z.oneCell'=true) {k:World→Prop} (hk:∀w4,w4.heap[q.heap.size]? =some (.cells #[u] e (0,0))→w4.heap[w1.heap.size]? =some (.cells #[z] e' (0,0))→Below q.heap.size q w4→k w4):
  u.oneCell'=true∧(∃a,w2.cell? (nb q)=some a)∧w2.frozen? (nb q)=false∧∀w3,w3=w2.setCell (nb q) u→z.oneCell'=true∧(∃a,w3.cell? (nb w1)=some a)∧w3.frozen? (nb w1)=false∧∀w4,w4=w3.setCell (nb w1) z→k w4:=by
 have b1:Below q.heap.size q w1:=by subst h1;exact ah _ _
 have a1:w1.heap[q.heap.size]? =some (.cells #[x] e (0,0)):=by subst h1;exact ao _ _
 have b2:Below w1.heap.size w1 w2:=by subst h2;exact ah _ _
 have a2:w2.heap[w1.heap.size]? =some (.cells #[y] e' (0,0)):=by subst h2;exact ao _ _
 have a12:=ai b2 a1;have hlt:q.heap.size<w1.heap.size:=(Array.getElem?_eq_some_iff.1 a1).1;have b02:=ae b1 b2;refine⟨hu,⟨_,aH a12⟩,aZ a12,?_⟩;intro w3 h3;have a13:w3.heap[q.heap.size]? =some (.cells #[u] e (0,0)):=by subst h3;exact bj a12 u
 have a23:w3.heap[w1.heap.size]? =some (.cells #[y] e' (0,0)):=by subst h3;rw [ap (by show w1.heap.size≠q.heap.size;omega)];exact a2
 have b03:Below q.heap.size q w3:=by subst h3;exact b02.setCell (p:=nb q) (Nat.le_refl _) u
 refine⟨hz,⟨_,aH a23⟩,aZ a23,?_⟩;intro w4 h4;refine hk w4 ?_ ?_ ?_
 ·subst h4;rw [ap (by show q.heap.size≠w1.heap.size;omega)];exact a13
 ·subst h4;exact bj a23 z
 ·subst h4;exact b03.setCell (p:=nb w1) (Nat.le_of_lt hlt) z
def GP (w:World) (v:Nat) (s:au) (T:List aQ) (most:Int) (u:Value) (w':World):Prop:=bg w' v s T∧aq v w w'∧(if(((bv s T).length*(bv s T).length:Nat):Int)>most then u= .tuple #[.pointer none,.int .i64 5]else ∃g,u= .tuple #[.pointer (some ⟨g,0,none⟩),.int .i64 0]∧oI w' g (bv s T) (kK s T) (dI s T)∧w.heap.size≤g)
set_option maxHeartbeats 2000000 in
theorem lF (w:World) (v:Nat) (s:au) (T:List aQ) (hV:bg w v s T) (hasc:(s.specials.map (·.1)).Pairwise (·< ·)) (most:Int):
  CP 32 #[.pointer (some ⟨v,0,none⟩),.int .i64 most] w fun e w'=>∃u,e= .returned u∧GP w v s T most u w':=by
 refine xW (some ⟨v,0,none⟩) most w (GP w v s T most) ?_;have hgb:256≤(bv s T).length∧(bv s T).length≤1032∧(∀t∈bv s T,(aI s T).Has t)∧(bv s T).Pairwise (·< ·):=by
  obtain⟨w0,x,tp,bp,mp,d,l,uses,hR⟩:=hV;have hP:=hR.now;exact⟨(oA hP.ok hP.right).1,(oA hP.ok hP.right).2,fun t ht=>(E0 hP t).1 ((li s T t).1 ht),mU hasc hP.ids⟩
 obtain⟨hg1,hg2,hgh,hgr⟩:=hgb;intro w1 hw1;have b1:Below w.heap.size w w1:=by subst hw1;exact ah _ _
 have l1:w1.heap[w.heap.size]? =some (.cells #[.pointer (some ⟨v,0,none⟩)] 69 (0,0)):=by subst hw1;exact ao _ _
 refine⟨_,bh l1,?_⟩;have hV1:=hV.on b1;refine(wG w1 v s T hV1 hasc).mono ?_;rintro e w2 ⟨ids,rfl,oids,b2⟩;refine⟨_,_,_,rfl,?_⟩;intro w3 hw3;refine f8 hw3 rfl ?_;intro w4 l4 b4;have b24:=ae b2 b4;have b14:=ae b1 b24;have oids4:=bB (aG oids b4) (Nat.zero_le _);have hin:=(co.of_own eT oids4).n;have l14:=ai b24 l1;have hV4:=hV.on b14;refine⟨_,bh l14,ac.no rfl ⟨ids.a,ids.n,ids.c,bh l4,ids.a,ids.n,ids.c,bh l4,Ar.nat ((bv s T).length*(bv s T).length) (by rw [hin];simp) (by
  have:(bv s T).length*(bv s T).length≤1032*1032:=Nat.mul_le_mul hg2 hg2;omega) (ac.mk (fun hm=>⟨hV4,aq.of_below b14,?_⟩) fun hm=>?_)⟩⟩
 ·rw [if_pos (of_decide_eq_true hm)]
 have hm:=of_decide_eq_false hm;obtain⟨G,hG⟩:∃G,G=bv s T:=⟨_,rfl⟩;rw [←hG]at oids4 hin hg1 hg2 hgh hgr hm;obtain⟨n,hn⟩:∃n,n=G.length:=⟨_,rfl⟩;rw [←hn]at hin;refine⟨ids.a,ids.n,ids.c,bh l4,_,_,eE _,?_⟩;have b5:=ah w4 (.map #[] 0);have m5:bc aT (w4.alloc (.map #[] 0)) w4.heap.size (qh []):=gH w4;obtain⟨w5,hw5⟩:∃w5,w5=w4.alloc (.map #[] 0):=⟨_,rfl⟩;rw [←hw5]at b5 m5;rw [←hw5];intro w6 hw6 w7 hw7;have b6:Below w5.heap.size w5 w6:=by subst hw6;exact ah _ _
 have g6:w6.heap[w5.heap.size]? =some (.cells #[ids.v,.map (some w4.heap.size),bW.v,bW.v] rd (0,0)):=by subst hw6;exact ao _ _
 refine f8 hw7 rfl ?_;intro w8 l8 b8;have b58:=ae b6 b8;have b48:=ae b5 b58;have b08:=ae b14 b48;have hz4:=b14.size;have hz5:=b5.size;have lt4:w4.heap.size<w5.heap.size:=m5.lt;have lt6:w5.heap.size<w6.heap.size:=(Array.getElem?_eq_some_iff.1 g6).1;have lt8:w6.heap.size<w8.heap.size:=(Array.getElem?_eq_some_iff.1 l8).1;have lt2:w2.heap.size<w4.heap.size:=(Array.getElem?_eq_some_iff.1 l4).1;have lt1:w.heap.size<w4.heap.size:=(Array.getElem?_eq_some_iff.1 l14).1;have hvl:=hV.lt;have boxes:∀ {q:World},Below (w4.heap.size) w8 q→q.heap[w.heap.size]? =some (.cells #[.pointer (some ⟨v,0,none⟩)] 69 (0,0))∧q.heap[w2.heap.size]? =some (.cells #[ids.v] dS (0,0)):=by
  intro q hq;exact⟨Below.keeps hq lt1 (ai b48 l14),Below.keeps hq lt2 (ai b48 l4)⟩
 refine⟨ids.a,ids.n,ids.c,bh (ai b48 l4),?_⟩;have oids8:=aG oids4 b48;have idsLt:∀k,ids.v.ownBlock=some k→k<w4.heap.size:=fun k hk=>(cS oids4 k hk).2;intro I hI;let Inv (i:Nat) (q:World):Prop:=bc aT q w4.heap.size (qh (G.take i))∧(∀j,j≠w4.heap.size→q.heap[j]? =w8.heap[j]?)∧q.heap.size=w8.heap.size∧Below w4.heap.size w4 q;have key:=bC (α:=World) n Inv (fun i q=>I [.int .i64 (i:Int)] q) w8 ⟨by rw [List.take_zero];exact m5.on b58,fun _ _=>rfl,rfl,b48⟩ ?_ ?_
 ·exact key
 ·rintro i hi ih q ⟨hmap,hs,hz,hB⟩;have hiG:i<G.length:=by omega
  have oq:q.ownsRow 0 aW 1 ids.v ids.n (G.flatMap aK):=aU oids8 fun k hk=>hs k (by have:=idsLt k hk;omega);obtain⟨p,hp,c0⟩:=be (co.of_own eT oq).r hiG rfl;have hlook:dC G[i] (qh (G.take i))=none:=by
   rw [ro,List.idxOf?_eq_none_iff.2]
   ·rfl
   ·intro hmem;obtain⟨j,hj,e⟩:=List.mem_take_iff_getElem.1 hmem;have:=List.pairwise_iff_getElem.1 hgr j i (by omega) hiG (by omega);omega
  obtain⟨q',hr',hm',hs',hz',hB'⟩:=ez lW k_ hmap G[i] (.int .i64 (i:Int)) hlook;refine hI _ _ (ac.yes (by simp;omega) (ag.mk p hp ⟨by omega,by omega,_,c0,_,bh (by rw [hs w6.heap.size (by omega)];exact l8),ag.mk _ rfl ⟨_,aj _ _ (by rw [hs w5.heap.size (by omega)];exact ai b8 g6) 1,q',hr',Ar.nat (i+1) rfl (by omega) (ih q' ⟨?_,fun j hj=>by rw [hs' j hj,hs j hj],by rw [hz',hz],hB' _ _ (Nat.le_refl _) hB⟩)⟩⟩));have e:qh (G.take (i+1))=qh (G.take i)++ [(G[i],.int .i64 (i:Int))]:=by
   rw [List.take_add_one,List.getElem?_eq_getElem hiG];have:=AW (G.take i) G[i];rw [List.length_take,Nat.min_eq_left (by omega)]at this;exact this
  rw [e];exact hm'
 ·rintro q ⟨hmap,hs,hz,hB⟩;rw [List.take_of_length_le (by omega)]at hmap;refine hI _ _ (ac.no (by simp;omega) ?_);intro w11 hw11;have b11:Below q.heap.size q w11:=by subst hw11;exact aP q
  have hq8:Below w4.heap.size w8 q:=⟨by rw [hB.os, ←b48.os],by rw [hB.tape, ←b48.tape],by rw [hB.output, ←b48.output],by rw [hz];exact Nat.le_refl _,fun k hk=>hs k (by omega)⟩;have hq8':Below w4.heap.size w8 w11:=hq8.trans (b11.mono (by have:=hq8.size;omega));have hV11:bg w11 v s T:=(hV4.on b5 |> fun h5=>(hV4.on ⟨hB.os,hB.tape,hB.output,hB.size,hB.block⟩)).on b11;have t11:aq v w w11:=(aq.of_below b14).trans (aq.of_below (hB.trans (b11.mono hB.size)));have g11:=ai b11 (show q.heap[w5.heap.size]? =some (.cells #[ids.v,.map (some w4.heap.size),bW.v,bW.v] rd (0,0)) by rw [hs _ (by omega)];exact ai b8 g6);have lg11:=ai b11 (show q.heap[w6.heap.size]? =_ by rw [hs _ (by omega)];exact l8);have bx11:=boxes hq8';have m11:=hmap.on b11;have o11:w11.ownsRow 0 aW 1 ids.v ids.n (G.flatMap aK):=aG (aU oids8 fun k hk=>hs k (by have:=idsLt k hk;omega)) b11;subst hG;have bxL:w.heap.size<w11.heap.size∧w2.heap.size<w11.heap.size∧w6.heap.size<w11.heap.size∧w5.heap.size<w11.heap.size:=⟨(Array.getElem?_eq_some_iff.1 bx11.1).1,(Array.getElem?_eq_some_iff.1 bx11.2).1,(Array.getElem?_eq_some_iff.1 lg11).1,(Array.getElem?_eq_some_iff.1 g11).1⟩;have sz2:w.heap.size≤w2.heap.size:=Nat.le_trans b1.size b2.size;refine⟨_,bh lg11,ids.a,ids.n,ids.c,bh bx11.2,?_⟩;refine(qI w11 ids.n _ (fun i=>kK s T i) v s T hV11 (by omega) ?_).mono ?_
  ·intro i hi q hVq tq;refine bG (by kernel_rfl) ?_;exact AI q v s T hVq w.heap.size w2.heap.size ids (bv s T) (tq.held (by omega) bx11.1) (tq.held (by omega) bx11.2) (hV11.own_touch tq o11 (by decide)) hgh i (by omega)
  rintro e w12 ⟨al,rfl,oal,hV12,t12⟩;rw [hin,hn]at oal;have lg12:=t12.held (by omega) lg11;have g12:=t12.held (by omega) g11;have x12:=t12.held (by omega) bx11.1;have y12:=t12.held (by omega) bx11.2;have o12:=hV11.own_touch t12 o11 (by decide);have m12:=m11.same (t12.block _ m11.lt (by omega));refine⟨al.a,al.n,al.c,rfl,⟨bh lg12,trivial⟩,ag.mk _ rfl ⟨rfl,⟨_,by rw [aM g12];rfl⟩,aX g12,?_⟩⟩;intro w13 hw13;have g13:w13.heap[w5.heap.size]? =some (.cells #[ids.v,.map (some w4.heap.size),bW.v,al.v] rd (0,0)):=by subst hw13;exact bA g12 _
  have hs13:∀j,j≠w5.heap.size→w13.heap[j]? =w12.heap[j]? :=by
   intro j hj;subst hw13;exact ap (by rw [ay];exact hj)
  have hV13:bg w13 v s T:=by subst hw13;exact hV12.put g12 (by decide) (by omega) _
  have t13:aq v w w13:=by subst hw13;exact(t11.trans t12).put (by omega) _
  have lg13:w13.heap[w6.heap.size]? =_:=(hs13 _ (by omega)).trans lg12;have x13:w13.heap[w.heap.size]? =_:=(hs13 _ (by omega)).trans x12;have y13:w13.heap[w2.heap.size]? =_:=(hs13 _ (by omega)).trans y12;have hR13:ji w13 w5.heap.size (bv s T) (kK s T) (dI s T) ids bW al w4.heap.size [] 0:=
   ⟨g13,aU o12 fun k hk=>hs13 k fun e=>aA o12 g12 (by decide) (by rw [hk,e]),m12.same (hs13 _ (by omega)),dQ _ _ _ _ ou,rfl,(by intro i r h;cases h),aU (bB oal (Nat.zero_le _)) fun k hk=>hs13 k fun e=>aA oal g12 (by decide) (by rw [hk,e])⟩
  refine⟨ids.a,ids.n,ids.c,bh y13,?_⟩;intro I2 hI2;let Inv2 (i:Nat) (q:World):Prop:=∃rows rs,ji q w5.heap.size (bv s T) (kK s T) (dI s T) ids rows al w4.heap.size rs i∧q.ownsRow w.heap.size my 1 rows.v rows.n (rs.flatMap ou)∧bg q v s T∧aq v w q∧q.heap[w6.heap.size]? =some (.cells #[.pointer (some (nb w5))] 32 (0,0))∧q.heap[w.heap.size]? =some (.cells #[.pointer (some ⟨v,0,none⟩)] 69 (0,0))∧q.heap[w2.heap.size]? =some (.cells #[ids.v] dS (0,0));have key2:=bC (α:=World) n Inv2 (fun i q=>I2 [.int .i64 (i:Int)] q) w13 ⟨bW,[],hR13,dQ _ _ _ _ ou,hV13,t13,lg13,x13,y13⟩ ?_ ?_
  ·exact key2
  ·rintro i hi ih z ⟨rows,rs,hR,orow,hVz,tz,lgz,xz,yz⟩;have hiG:i< (bv s T).length:=by omega
   have zb:w.heap.size<z.heap.size∧w2.heap.size<z.heap.size∧w6.heap.size<z.heap.size∧w5.heap.size<z.heap.size:=⟨(Array.getElem?_eq_some_iff.1 xz).1,(Array.getElem?_eq_some_iff.1 yz).1,(Array.getElem?_eq_some_iff.1 lgz).1,(Array.getElem?_eq_some_iff.1 hR.blk).1⟩;have hlz:=co.of_own eT hR.oi;obtain⟨p,hp,c0⟩:=be hlz.r hiG rfl;have hnz:=hlz.n;refine hI2 _ _ (ac.yes (by simp;omega) (ag.mk p hp ⟨by omega,by omega,_,c0,?_⟩));intro w15 hw15 w16 hw16;refine Av hw15 hw16 rfl rfl ?_;intro w18 bi18 ba18 b18;have zs15:z.heap.size<w15.heap.size:=by subst hw15;rw [ar];omega
   intro w19 hw19;have b19':Below w18.heap.size w18 w19:=by subst hw19;exact aP w18
   have b19:=ae b18 b19';have bi19:=ai b19' bi18;have ba19:=ai b19' ba18;have hR19:=hR.on b19;have hV19:=hVz.on b19;have lg19:=ai b19 lgz;have x19:=ai b19 xz;have y19:=ai b19 yz;have or19:=aG orow b19;have t19:aq v w w19:=tz.then_off b19 tz.size;refine⟨_,bh lg19,_,bh lg19,ag.mk _ rfl ⟨rows.a,rows.n,rows.c,by rw [aM hR19.blk];rfl,ids.a,ids.n,ids.c,bh y19,?_⟩⟩;refine(qI w19 ids.n _ (fun k=>dI s T i k) v s T hV19 (by omega) ?_).mono ?_
   ·intro k hk q hVq tq;refine bG (by kernel_rfl) ?_;refine Bj q v s T hVq w6.heap.size z.heap.size w.heap.size w15.heap.size w2.heap.size w5.heap.size ids rows al w4.heap.size rs i i k ⟨by omega,by omega,by omega,by omega,by omega⟩ (hR19.touch hV19 tq) hgh hg2 (tq.held (by omega) lg19) (tq.held (by omega) bi19) (tq.held (by omega) x19) (tq.held (by omega) (by rw [fk hiG];exact ba19)) (tq.held (by omega) y19) hiG (by omega)
   rintro e w20 ⟨r,rfl,orw,hV20,t20⟩;rw [hin,hn]at orw;have hR20:=hR19.touch hV19 t20;have lg20:=t20.held (by omega) lg19;have x20:=t20.held (by omega) x19;have y20:=t20.held (by omega) y19;have or20:=hV19.own_touch t20 or19 (by decide);refine⟨r.a,r.n,r.c,rfl,⟨by rw [aM hR20.blk];rfl,trivial⟩,⟨bh lg20,trivial⟩,⟨bh lg20,trivial⟩,?_⟩;intro w21 hw21;have b21:Below w20.heap.size w20 w21:=by subst hw21;exact ah _ _
   have lg21:=ai b21 lg20;have wb:w.heap.size≤w20.heap.size:=(t19.trans t20).size;obtain⟨rows',w22,hn22,hrun,own22,hB22,hk22⟩:=CO.push or20 r hw21 rfl wb (by have:=(co.of_own CO or20).n;have:=hR.rl;omega) (by decide);refine⟨⟨by rw [aM (ai b21 hR20.blk)];rfl,trivial⟩,⟨bh lg21,trivial⟩,⟨bh lg21,trivial⟩,rows'.a,rows'.n,rows'.c,w22,hrun,?_⟩;have kp:∀ {k:Nat} {o:Obj},w20.heap[k]? =some o→rows.v.ownBlock≠some k→w22.heap[k]? =some o:=fun {k o} h hne=>(hk22 k (Array.getElem?_eq_some_iff.1 h).1 hne).trans h;have lg22:=kp lg20 (aA or20 lg20 (by decide));have x22:=kp x20 (aA or20 x20 (by decide));have y22:=kp y20 (aA or20 y20 (by decide));have g22:=kp hR20.blk (aA or20 hR20.blk (by decide));have B22:=hB22 w20 (Below.refl _ _);have hV22:=hV20.growE B22 hvl or20 (by decide) hk22;have t22:aq v w w22:=(t19.trans t20).then_off B22 (Nat.le_refl _);refine⟨⟨bh lg22,trivial⟩,ag.mk _ rfl ⟨rfl,⟨_,by rw [aM g22];rfl⟩,aX g22,?_⟩⟩;intro w23 hw23;have hs23:∀j,j≠w5.heap.size→w23.heap[j]? =w22.heap[j]? :=by
    intro j hj;subst hw23;exact ap (by rw [ay];exact hj)
   have same:∀ {B sz n:Nat} {e:TypeId} {u:Value} {xs:List Value},w20.ownsRow B e sz u n xs→e≠my→e≠rd→w23.ownsRow B e sz u n xs:=by
    intro B sz n e u xs h h1 h2;refine aU h fun k hk=>?_;rw [hs23 k fun e=>aA h hR20.blk h2 (by rw [hk,e])];exact hk22 k (cS h k hk).2 (de h or20 h1 k hk)
   have own23:w23.ownsRow w.heap.size my 1 rows'.v rows'.n ((rs++ [r]).flatMap ou):=aU own22 fun k hk=>hs23 k fun e=>aA own22 g22 (by decide) (by rw [hk,e]);refine Ar.nat (i+1) rfl (by omega) (ih w23 ⟨rows',rs++ [r],?_,own23,?_,?_,(hs23 _ (by omega)).trans lg22,(hs23 _ (by omega)).trans x22,(hs23 _ (by omega)).trans y22⟩)
   ·refine⟨by subst hw23;exact bA g22 _,same hR20.oi (by decide) (by decide),?_,bB own23 (Nat.zero_le _),by have:=hR.rl;simp;omega,?_,same hR20.oal (by decide) (by decide)⟩
    ·exact hR20.map.same ((hs23 _ (by omega)).trans (hk22 _ hR20.map.lt (dD or20 hR20.map)))
    ·intro j r' hj;have hrl:=hR.rl;by_cases h:j<rs.length
     ·rw [List.getElem?_append_left h]at hj;exact same (hR20.each j r' hj) (by decide) (by decide)
     ·have hji:j=i:=by
       have:=(List.getElem?_eq_some_iff.1 hj).1;simp at this;omega
      subst hji;rw [List.getElem?_append_right (by omega),hrl,Nat.sub_self]at hj;cases hj;exact same (bB orw (Nat.zero_le _)) (by decide) (by decide)
   ·subst hw23;exact hV22.put g22 (by decide) (by omega) _
   ·subst hw23;exact t22.put (by omega) _
  ·rintro z ⟨rows,rs,hR,orow,hVz,tz,lgz,xz,yz⟩;rw [hn]at hR;refine hI2 _ _ (ac.no (by simp;omega) ⟨_,bh lgz,hVz,tz,?_⟩);rw [if_neg (by have:=hm;rw [hn]at*;omega)];exact⟨w5.heap.size,rfl,⟨ids,rows,al,w4.heap.size,rs,hR⟩,by omega⟩
def cnt:Nat→Nat→Nat
 |0,_=>0
 |k+1,x=>x%2+cnt k (x/2)
def s1 (x:Nat):Nat:=(x/2&&&6148914691236517205)+(x&&&6148914691236517205)
def s2 (x:Nat):Nat:=(x/4&&&3689348814741910323)+(x&&&3689348814741910323)
def s3 (x:Nat):Nat:=x/16+x
def s4 (x:Nat):Nat:=(x&&&1085102592571150095)+(x&&&1085102592571150095)/256
def s5 (x:Nat):Nat:=x+x/65536
theorem Lr (x k:Nat) (hk:k≤64):Int.fdiv (x:Int) (2^(min (k:Int).toNat (IntKind.bits .u64)))=((x/2^k:Nat):Int):=by
 show Int.fdiv (x:Int) (2^(min k 64))=_;rw [Nat.min_eq_left hk,Int.fdiv_eq_ediv_of_nonneg _ (Int.pow_nonneg (by decide))];simp
theorem Kd (x m:Nat) (hx:x<2^64) (hm:m<2^64):IntKind.wrap .u64 ((BitVec.ofInt (IntKind.bits .u64) (x:Int)&&&BitVec.ofInt (IntKind.bits .u64) (m:Int)).toNat:Int)=((x&&&m:Nat):Int):=by
 show IntKind.wrap .u64 ((BitVec.ofInt 64 (x:Int)&&&BitVec.ofInt 64 (m:Int)).toNat:Int)=_;rw [BitVec.toNat_and,eX _ hx,eX _ hm];exact h_ _ (Nat.lt_of_le_of_lt Nat.and_le_left hx)
abbrev iZ (w:World) (g:Nat) (s:au) (T:List aQ):Prop:=oI w g (bv s T) (kK s T) (dI s T)
def m' (s:au) (T:List aQ) (id:Int):Option Nat:=(bv s T).idxOf? id
theorem yl {l:List Int} {a:Int} {i:Nat} (h:l.idxOf? a=some i):∃h:i<l.length,l[i]=a:=by
 have:=List.findIdx?_eq_some_iff_getElem.1 h;obtain⟨h1,h2,_⟩:=this;exact⟨h1,by simpa using h2⟩
theorem dk {s:au} {T:List aQ} {id:Int} {i:Nat} (h:m' s T id=some i):i< (bv s T).length∧(bv s T).getD i 0=id∧fK s T id=true:=by
 obtain⟨h1,h2⟩:=yl h;exact⟨h1,by rw [fk h1];exact h2,(li s T id).1 (by rw [←h2];exact List.getElem_mem h1)⟩
theorem uX {s:au} {T:List aQ} {id:Int} (h:m' s T id=none):fK s T id=false:=by
 have h1:=List.idxOf?_eq_none_iff.1 h;cases hh:fK s T id with
 |false=>rfl
 |true=>exact absurd ((li s T id).2 hh) h1
theorem zt {s:au} {T:List aQ} (id:Int):(m' s T id).isSome=fK s T id:=by
 cases h:m' s T id with
 |none=>exact(uX h).symm
 |some i=>exact(dk h).2.2.symm
def HP (s:au) (T:List aQ) (id:Int):Bool:=fK s T id&&decide ((aI s T).Canon [id])
theorem JP:(Tryz.prog.info? aW).map (·.zero)=some (some (.int .i64 0)):=by kernel_rfl
theorem jE (w:World) (g:Nat) (s:au) (T:List aQ) (h:iZ w g s T) (id:Int):
  CP 20 #[.pointer (some ⟨g,0,none⟩),.int .i64 id] w fun e w'=>e= .returned (.tuple #[.int .i64 (((m' s T id).getD 0:Nat):Int),.bool (m' s T id).isSome])∧w'=w:=by
 refine aJ (yw (some ⟨g,0,none⟩) id w) ?_;obtain⟨ids,rows,alone,mb,rs,hR⟩:=h;refine ac.no rfl (ag.mk _ rfl ⟨some mb,by rw [aM hR.blk];rfl,?_⟩);have hl:=eJ lW k_ JP hR.map id;rw [ro]at hl;have e:((((bv s T).idxOf? id).map fun i:Nat=>Value.int .i64 (i:Int)).getD (.int .i64 0))= .int .i64 (((m' s T id).getD 0:Nat):Int):=by
  show _=Value.int .i64 ((((bv s T).idxOf? id).getD 0:Nat):Int);cases(bv s T).idxOf? id<;>rfl
 rw [e,Option.isSome_map]at hl;exact⟨_,_,w,hl,rfl,rfl⟩
theorem sO (w:World) (g:Nat) (s:au) (T:List aQ) (h:iZ w g s T) (hn:(bv s T).length≤1032) (id:Int):
  CP 90 #[.pointer (some ⟨g,0,none⟩),.int .i64 id] w fun e w'=>e= .returned (.bool (HP s T id))∧w'=w:=by
 refine aJ (xw (some ⟨g,0,none⟩) id w) ?_;refine(jE w g s T h id).mono ?_;rintro e w1 ⟨rfl,rfl⟩;obtain⟨ids,rows,alone,mb,rs,hR⟩:=h;refine⟨_,_,rfl,ac.mk (fun h1=>?_) fun h1=>⟨?_,rfl⟩⟩
 ·obtain⟨i,hi⟩:=Option.isSome_iff_exists.1 h1;obtain⟨hi1,hi2,hi3⟩:=dk hi;have al1:=co.of_own px hR.oal;refine ag.mk _ rfl ⟨alone.a,alone.n,alone.c,by rw [aM hR.blk];rfl,?_⟩;rw [hi];refine(i9 w1 alone.a alone.n alone.c _ (kK s T) al1.r al1.n (by omega) i hi1).mono ?_;rintro e w2 ⟨rfl,rfl⟩;refine⟨_,rfl,?_,rfl⟩;unfold HP kK;rw [hi2,hi3,Bool.true_and]
 ·rw [zt]at h1;unfold HP;rw [h1,Bool.false_and]
theorem EA {s:au} {T:List aQ} {w:World} {g:Nat} {ids rows alone:Sl} {mb:Nat} {rs:List Sl} (hR:ji w g (bv s T) (kK s T) (dI s T) ids rows alone mb rs (bv s T).length) (i:Nat) (hi:i< (bv s T).length):∃(p:Addr) (r:Sl),rows.a=some p∧i<rows.n∧w.cell? (p.add (i*1))=some (.slice r.a r.n r.c)∧co cD 1 w r (ba (bv s T).length (dI s T i)):=by
 have hls:=co.of_own CO hR.orows;have hl:=hR.rl;have hi2:i<rs.length:=by omega
 obtain⟨p,hp,c0⟩:=be hls.r hi2 (v:=rs[i].v) rfl;exact⟨p,rs[i],hp,by rw [hls.n];exact hi2,c0,co.of_own px (hR.each i _ (List.getElem?_eq_getElem hi2))⟩
theorem iD (w:World) (g:Nat) (s:au) (T:List aQ) (h:iZ w g s T):
  CP 19 #[.pointer (some ⟨g,0,none⟩)] w fun e w'=>e= .returned (.int .i64 (((bv s T).length:Nat):Int))∧w'=w:=by
 refine aJ (xe (some ⟨g,0,none⟩) w) ?_;obtain⟨ids,rows,alone,mb,rs,hR⟩:=h;refine ac.no rfl (ag.mk _ rfl ⟨ids.a,ids.n,ids.c,by rw [aM hR.blk];rfl,?_,rfl⟩);rw [(co.of_own eT hR.oi).n]
theorem wZ (w:World) (g:Nat) (s:au) (T:List aQ) (h:iZ w g s T) (place:Int):
  CP 38 #[.pointer (some ⟨g,0,none⟩),.int .i64 place] w fun e w'=>e= .returned (if 0≤place∧place< ((bv s T).length:Int)then .tuple #[.int .i64 ((bv s T).getD place.toNat 0),.bool true]else .tuple #[.int .i64 0,.bool false])∧w'=w:=by
 refine aN (ya (some ⟨g,0,none⟩) place w (fun u w'=>u=(if 0≤place∧place< ((bv s T).length:Int)then .tuple #[.int .i64 ((bv s T).getD place.toNat 0),.bool true]else .tuple #[.int .i64 0,.bool false])∧w'=w) ?_) (by rintro v w' ⟨rfl,h⟩;exact⟨rfl,h⟩);refine ac.mk (fun h1=>⟨?_,rfl⟩) fun h1=>?_
 ·rw [if_neg (by have:=of_decide_eq_true h1;omega)]
 have h1:=of_decide_eq_false h1;refine(iD w g s T h).mono ?_;rintro e w1 ⟨rfl,rfl⟩;refine⟨_,rfl,ac.mk (fun h2=>⟨?_,rfl⟩) fun h2=>?_⟩
 ·rw [if_neg (by have:=of_decide_eq_true h2;omega)]
 have h2:=of_decide_eq_false h2;obtain⟨ids,rows,alone,mb,rs,hR⟩:=h;obtain⟨i,rfl⟩:∃i:Nat,place=i:=⟨place.toNat,by omega⟩;have hi:i< (bv s T).length:=by omega
 have hls:=co.of_own eT hR.oi;obtain⟨p,hp,c0⟩:=be hls.r hi rfl;have:=hls.n;refine ag.mk _ rfl ⟨ids.a,ids.n,ids.c,by rw [aM hR.blk];rfl,ag.mk p hp ⟨by omega,by omega,_,c0,?_,rfl⟩⟩;rw [if_pos ⟨by omega,by omega⟩];show _=Value.tuple #[.int .i64 ((bv s T).getD i 0),.bool true];rw [fk hi]
theorem vx (w:World) (a:Option Addr) (c:Nat) (xs:List Int) (hr:Rw cD 1 w a xs) (hl:xs.length≤1000000000):
  CP 162 #[.slice a xs.length c] w fun e w'=>∃s:Sl,e= .returned s.v∧s.n=xs.length∧w'.ownsRow w.heap.size gg 1 s.v s.n (xs.flatMap cD)∧Below w.heap.size w w':=by
 refine aJ (vq a xs.length c w) ?_;refine ac.mk (fun h0=>?_) fun h0=>?_
 ·have hx:xs= []:=by
   cases xs with
   |nil=>rfl
   |cons x t=>
    obtain⟨p,hp,_⟩:=hr 0 x rfl;rw [hp]at h0;cases h0
  subst hx;exact⟨⟨none,0,0⟩,rfl,rfl,c_ _ _ _ _,Below.refl _ _⟩
 ·obtain⟨p,rfl⟩:∃p,a=some p:=by
   cases a with
   |none=>cases h0
   |some p=>exact⟨p,rfl⟩
  intro w1 hw1;obtain⟨A,C,w2,h2,h3,h4⟩:=ii (enc:=cD) (sz:=1) (fun _=>rfl) (by decide) (fun x u hu=>by rw [List.mem_singleton.1 hu];rfl) my gg xf rV rfl w ⟨some p,xs.length,c⟩ xs (.inr ⟨p,rfl⟩) hr rfl (by simp only;omega) (by simp only;omega) w1 hw1;exact⟨A,xs.length,C,w2,h2,⟨A,xs.length,C⟩,rfl,rfl,h3,h4⟩
theorem Bg (w:World) (g:Nat) (s:au) (T:List aQ) (h:iZ w g s T) (hn:(bv s T).length≤1032) (id:Int):
  CP 103 #[.pointer (some ⟨g,0,none⟩),.int .i64 id] w fun e w'=>Below w.heap.size w w'∧((m' s T id=none∧e= .returned (.slice none 0 0))∨∃i l,m' s T id=some i∧e= .returned (Sl.v l)∧w'.ownsRow w.heap.size gg 1 l.v l.n ((ba (bv s T).length (dI s T i)).flatMap cD)):=by
 refine aN (uD (some ⟨g,0,none⟩) id w (fun u w'=>Below w.heap.size w w'∧((m' s T id=none∧u= .slice none 0 0)∨∃i l,m' s T id=some i∧u=Sl.v l∧w'.ownsRow w.heap.size gg 1 l.v l.n ((ba (bv s T).length (dI s T i)).flatMap cD))) ?_) (by rintro v w' ⟨h1,⟨h2,rfl⟩ |⟨i,l,h2,rfl,h3⟩⟩;exact⟨h1,.inl ⟨h2,rfl⟩⟩;exact⟨h1,.inr ⟨i,l,h2,rfl,h3⟩⟩);refine(jE w g s T h id).mono ?_;rintro e w1 ⟨rfl,rfl⟩;obtain⟨ids,rows,alone,mb,rs,hR⟩:=h;refine⟨_,_,rfl,ac.mk (fun h1=>⟨Below.refl _ _,.inl ⟨?_,rfl⟩⟩) fun h1=>?_⟩
 ·cases hp:m' s T id with
  |none=>rfl
  |some i=>rw [hp]at h1;cases h1
 ·obtain⟨i,hi⟩:=Option.isSome_iff_exists.1 (by simpa using h1);obtain⟨hi1,hi2,hi3⟩:=dk hi;obtain⟨p,r,hp,hin,hc,hls⟩:=EA hR i hi1;rw [hi];refine ag.mk _ rfl ⟨rows.a,rows.n,rows.c,by rw [aM hR.blk];rfl,ag.mk p hp ⟨by omega,by show((i:Nat):Int) <_;omega,r.a,r.n,r.c,hc,?_⟩⟩;rw [hls.n];refine(vx w1 r.a r.c _ hls.r (by rw [cd];omega)).mono ?_;rintro e w2 ⟨l,rfl,hl,ho,b2⟩;exact⟨l.a,l.n,l.c,rfl,b2,.inr ⟨i,l,rfl,rfl,ho⟩⟩
def o8 (V:Voc) (ids:List Int):Option Nat→Prop
 |none=>∀(i:Nat) (h:i<ids.length),V.Has ids[i]∧V.Canon (ids.take (i+1))
 |some k=>(∀(i:Nat) (h:i<ids.length),i<k→V.Has ids[i]∧V.Canon (ids.take (i+1)))∧∃h:k<ids.length,¬(V.Has ids[k]∧V.Canon (ids.take (k+1)))
theorem jz {s:au} {T:List aQ} (hok:iW T) (t:Int):fK s T t=true↔(aI s T).Has t:=by
 unfold fK;rw [decide_eq_true_eq,gM hok];exact Or.comm
theorem Hs (w w1:World) (xs:List Int) (c:Array Value) (hc:c=(xs.map fun n=>Value.int .i64 n).toArray) (hw1:w1=w.alloc (.cells c aW)):Rw aK 1 w1 (some (nb w)) xs:=by
 intro j x hj;have l1:w1.heap[w.heap.size]? =some (.cells c aW (0,0)):=by subst hw1;exact ao _ _
 refine⟨nb w,rfl,(Array.getElem?_eq_some_iff.1 l1).1,fun k v hk=>?_⟩
 match k,hk with
 |0,hk=>
  cases hk;rw [aw,Nat.mul_one,aj _ _ l1,hc];simp [hj]
open Go Go.Value
def Ll (a b:Int) (w:World) (R:RW):Prop:=
 CP 35 #[] w (fun c d=>
 ∃f,c= .returned (bool f)∧
 ac (!f)
 (R (bool false) d)
 (CP 31 #[agg #[bool false,slice none 0 0,slice none 0 0,slice none 0 0,slice none 0 0,slice none 0 0]] d (fun g h=>
 ∃i j k,g= .returned (tuple #[pointer i,int .i64 j,int .i64 k])∧
 CP 32 #[pointer i,int .i64 1048576] h (fun l m=>
 ∃n o,l= .returned (tuple #[pointer n,int .i64 o])∧
 CP 54 #[pointer n,int .i64 1048576] m (fun p q=>
 ∃r s,p= .returned (tuple #[pointer r,int .i64 s])∧
 CP 55 #[pointer none,pointer n,int .i64 a] q (fun t x=>
 ∃y z,t= .returned (tuple #[pointer y,int .i64 z])∧
 CP 55 #[pointer r,pointer none,int .i64 a] x (fun a1 b1=>
 ∃c1 d1,a1= .returned (tuple #[pointer c1,int .i64 d1])∧
 CP 56 #[pointer r] b1 (fun e1 f1=>
 ∃g1,e1= .returned (pointer g1)∧
 CP 55 #[pointer g1,pointer n,int .i64 a] f1 (fun h1 i1=>
 ∃j1 k1,h1= .returned (tuple #[pointer j1,int .i64 k1])∧
 ∀l1:KW,(∀(m1:Int) (n1:World),(∀o1:KW,(∀(p1:Int) (q1:World),(∀r1,r1=q1.alloc (.cells #[int .i64 b] 3)→
 CP 51 #[pointer none,slice (some (nb q1)) 1 1] r1 (fun s1 t1=>
 ∃u1 v1 x1 y1,s1= .returned (tuple #[agg #[slice u1 v1 x1],int .i64 y1])∧
 ∀z1,z1=t1.alloc (.cells #[slice none 0 0] 88)→
 (slice u1 v1 x1).oneCell'=true∧(∃u,z1.cell? (nb t1)=some u)∧z1.frozen? (nb t1)=false∧
 ∀a2,a2=(z1.setCell (nb t1) (slice u1 v1 x1))→
 CP 50 #[pointer none,int .i64 a,agg #[slice none 0 0]] a2 (fun b2 c2=>
 ∃d2 e2 f2 g2,b2= .returned (tuple #[slice d2 e2 f2,int .i64 g2])∧
 ∀h2,h2=c2.alloc (.cells #[int .i64 b] 3)→
 CP 52 #[pointer none,slice (some (nb c2)) 1 1] h2 (fun i2 j2=>
 ∃k2 l2 m2 n2,i2= .returned (tuple #[slice k2 l2 m2,int .i64 n2])∧
 ac (z==1)
 (ac (d1==1)
 (ac (k1==p1)
 (ac (y1==1)
 (ac (g2==1)
 (ac (n2==1)
 (CP 45 #[pointer none,int .i64 a] j2 (fun o2 p2=>
 ∃q2 r2 s2,o2= .returned (agg #[slice q2 r2 s2])∧
 CP 43 #[agg #[slice q2 r2 s2]] p2 (fun t2 u2=>
 ∃v2,t2= .returned (bool v2)∧
 ac v2
 (CP 41 #[pointer none,int .i64 b,int .i64 a] u2 (fun x2 y2=>
 ∃z2 a3 b3,x2= .returned (agg #[slice z2 a3 b3])∧
 CP 43 #[agg #[slice z2 a3 b3]] y2 (fun c3 d3=>
 ∃e3,c3= .returned (bool e3)∧
 R (bool e3) d3)))
 (R (bool false) u2))))
 (R (bool false) j2))
 (R (bool false) j2))
 (R (bool false) j2))
 (R (bool false) j2))
 (R (bool false) j2))
 (R (bool false) j2)))))→o1 [int .i64 p1] q1)→
 ac (decide (a>20000))
 (o1 [int .i64 5] n1)
 (o1 [int .i64 m1] n1))→l1 [int .i64 m1] n1)→
 ac (decide (a<0))
 (l1 [int .i64 1] i1)
 (l1 [int .i64 0] i1))))))))))
theorem yP (a b:Int) (w:World) (R:RW) (hh:Ll a b w R):CR 10 #[int .i64 a,int .i64 b] w R:=
 aC (fn:=Tryz.f10) (by kernel_rfl) (by kernel_rfl) (by kernel_rfl) (by kernel_rfl) (by kernel_rfl) hh
def KR (w:World) (R:RW):Prop:=
 CP 31 #[agg #[bool false,slice none 0 0,slice none 0 0,slice none 0 0,slice none 0 0,slice none 0 0]] w (fun a b=>
 ∃c d f,a= .returned (tuple #[pointer c,int .i64 d,int .i64 f])∧
 CP 32 #[pointer c,int .i64 1048576] b (fun g h=>
 ∃i j,g= .returned (tuple #[pointer i,int .i64 j])∧
 CP 54 #[pointer i,int .i64 1048576] h (fun k l=>
 ∃m n,k= .returned (tuple #[pointer m,int .i64 n])∧
 CP 56 #[pointer m] l (fun o p=>
 ∃q,o= .returned (pointer q)∧
 CP 55 #[pointer q,pointer i,int .i64 3] p (fun r s=>
 ∃t x,r= .returned (tuple #[pointer t,int .i64 x])∧
 ∀y,y=s.alloc (.cells #[int .i64 97,int .i64 98] 3)→
 CP 51 #[pointer t,slice (some (nb s)) 2 2] y (fun z a1=>
 ∃b1 c1 d1 e1,z= .returned (tuple #[agg #[slice b1 c1 d1],int .i64 e1])∧
 ∀f1,f1=a1.alloc (.cells #[slice none 0 0] 88)→
 (slice b1 c1 d1).oneCell'=true∧(∃u,f1.cell? (nb a1)=some u)∧f1.frozen? (nb a1)=false∧
 ∀g1,g1=(f1.setCell (nb a1) (slice b1 c1 d1))→
 ac (x==0)
 (CP 45 #[pointer t,int .i64 2] g1 (fun h1 i1=>
 ∃j1 k1 l1,h1= .returned (agg #[slice j1 k1 l1])∧
 CP 46 #[agg #[slice j1 k1 l1]] i1 (fun m1 n1=>
 ∃o1,m1= .returned (string o1)∧
 ac (o1.toList==(⟨#[54,53,53,51,54]⟩:ByteArray).toList)
 (∃p1 q1 r1,(n1.cell? (nb a1)=some (slice p1 q1 r1)∧True)∧
 CP 46 #[agg #[slice p1 q1 r1]] n1 (fun s1 t1=>
 ∃u1,s1= .returned (string u1)∧
 ac (u1.toList==(⟨#[50,52,57,51,48]⟩:ByteArray).toList)
 (R (bool (e1==0)) t1)
 (R (bool false) t1)))
 (R (bool false) n1))))
 (R (bool false) g1)))))))
theorem xA (w:World) (R:RW) (hh:KR w R):CR 35 #[] w R:=
 aC (fn:=Tryz.f35) (by kernel_rfl) (by kernel_rfl) (by kernel_rfl) (by kernel_rfl) (by kernel_rfl) hh
def Lf (a:OA) (b c:Nat) (d:OA) (f g:Nat) (w:World) (R:RW):Prop:=
 ∀h,h=w.alloc (.cells #[slice a b c] 88)→
 ∀i,i=h.alloc (.cells #[slice none 0 0] 88)→
 ∀j:KW,(∀(k:Int) (l:World),(ac (decide (k< (f:Int)))
 (ag d (fun m=>
 (0:Int)≤k∧k< (f:Int)∧
 ∃n o p,(l.cell? (m.add (k.toNat*1))=some (slice n o p)∧True)∧
 ∀q,q=l.alloc (.cells #[slice none 0 0] 88)→
 (slice n o p).oneCell'=true∧(∃u,q.cell? (nb l)=some u)∧q.frozen? (nb l)=false∧
 ∀r,r=(q.setCell (nb l) (slice n o p))→
 ∃s t x,(r.cell? (nb w)=some (slice s t x)∧True)∧
 ∃y z a1,(r.cell? (nb l)=some (slice y z a1)∧True)∧
 CP 82 #[agg #[slice s t x],agg #[slice y z a1]] r (fun b1 c1=>
 ∃d1 e1 f1,b1= .returned (agg #[slice d1 e1 f1])∧
 (slice d1 e1 f1).oneCell'=true∧(∃u,c1.cell? (nb w)=some u)∧c1.frozen? (nb w)=false∧
 ∀g1,g1=(c1.setCell (nb w) (slice d1 e1 f1))→
 Ar .i64 (k+1) (fun h1=>
 j [int .i64 h1] g1))))
 (∃i1 j1 k1,(l.cell? (nb w)=some (slice i1 j1 k1)∧True)∧
 (slice i1 j1 k1).oneCell'=true∧(∃u,l.cell? (nb h)=some u)∧l.frozen? (nb h)=false∧
 ∀l1,l1=(l.setCell (nb h) (slice i1 j1 k1))→
 ∃m1 n1 o1,(l1.cell? (nb h)=some (slice m1 n1 o1)∧True)∧
 R (agg #[slice m1 n1 o1]) l1))→j [int .i64 k] l)→
 j [int .i64 0] i
theorem yo (a:OA) (b c:Nat) (d:OA) (f g:Nat) (w:World) (R:RW) (hh:Lf a b c d f g w R):CR 40 #[agg #[slice a b c],slice d f g] w R:=
 aC (fn:=Tryz.f40) (by kernel_rfl) (by kernel_rfl) (by kernel_rfl) (by kernel_rfl) (by kernel_rfl) hh
def Lj (a:OA) (b c:Int) (w:World) (R:RW):Prop:=
 ∀d,d=w.alloc (.cells #[slice none 0 0] 88)→
 ac (Option.isNone a)
 ((slice none 0 0).oneCell'=true∧(∃u,d.cell? (nb w)=some u)∧d.frozen? (nb w)=false∧
 ∀f,f=(d.setCell (nb w) (slice none 0 0))→
 ∃g h i,(f.cell? (nb w)=some (slice g h i)∧True)∧
 R (agg #[slice g h i]) f)
 (ac (decide (c<0))
 ((slice none 0 0).oneCell'=true∧(∃u,d.cell? (nb w)=some u)∧d.frozen? (nb w)=false∧
 ∀j,j=(d.setCell (nb w) (slice none 0 0))→
 ∃k l m,(j.cell? (nb w)=some (slice k l m)∧True)∧
 R (agg #[slice k l m]) j)
 (ag a (fun n=>
 ∃o,d.cell? (n.add 2)=some (int .i64 o)∧
 ac (decide (c>o))
 ((slice none 0 0).oneCell'=true∧(∃u,d.cell? (nb w)=some u)∧d.frozen? (nb w)=false∧
 ∀p,p=(d.setCell (nb w) (slice none 0 0))→
 ∃q r s,(p.cell? (nb w)=some (slice q r s)∧True)∧
 R (agg #[slice q r s]) p)
 (ac (decide (b<0))
 ((slice none 0 0).oneCell'=true∧(∃u,d.cell? (nb w)=some u)∧d.frozen? (nb w)=false∧
 ∀t,t=(d.setCell (nb w) (slice none 0 0))→
 ∃x y z,(t.cell? (nb w)=some (slice x y z)∧True)∧
 R (agg #[slice x y z]) t)
 (ag a (fun a1=>
 ∃b1,d.cell? (a1.add 0)=some (pointer b1)∧
 CP 37 #[pointer b1] d (fun c1 d1=>
 ∃e1,c1= .returned (int .i64 e1)∧
 ac (decide (b≥e1))
 ((slice none 0 0).oneCell'=true∧(∃u,d1.cell? (nb w)=some u)∧d1.frozen? (nb w)=false∧
 ∀f1,f1=(d1.setCell (nb w) (slice none 0 0))→
 ∃g1 h1 i1,(f1.cell? (nb w)=some (slice g1 h1 i1)∧True)∧
 R (agg #[slice g1 h1 i1]) f1)
 (ag a (fun j1=>
 CP 83 #[pointer (some ((j1.add 3).add 0)),func (.func 84) #[pointer a] #[]] d1 (fun k1 l1=>
 k1= .returned (tuple #[])∧
 ag a (fun m1=>
 ∃n1 o1 p1,l1.cell? ((m1.add 3).add 3)=some (slice n1 o1 p1)∧
 ag n1 (fun q1=>
 (0:Int)≤c∧c< (o1:Int)∧
 ∃r1 s1 t1,l1.cell? (q1.add (c.toNat*1))=some (slice r1 s1 t1)∧
 ag r1 (fun u1=>
 (0:Int)≤b∧b< (s1:Int)∧
 ∃v1 x1 y1,(l1.cell? (u1.add (b.toNat*1))=some (slice v1 x1 y1)∧True)∧
 (slice v1 x1 y1).oneCell'=true∧(∃u,l1.cell? (nb w)=some u)∧l1.frozen? (nb w)=false∧
 ∀z1,z1=(l1.setCell (nb w) (slice v1 x1 y1))→
 ∃a2 b2 c2,(z1.cell? (nb w)=some (slice a2 b2 c2)∧True)∧
 R (agg #[slice a2 b2 c2]) z1)))))))))))))
theorem pB (a:OA) (b c:Int) (w:World) (R:RW) (hh:Lj a b c w R):CR 41 #[pointer a,int .i64 b,int .i64 c] w R:=
 aC (fn:=Tryz.f41) (by kernel_rfl) (by kernel_rfl) (by kernel_rfl) (by kernel_rfl) (by kernel_rfl) hh
def Lb (a:OA) (b c:Nat) (w:World) (R:RW):Prop:=
 ∀d,d=w.alloc (.cells #[slice a b c] 88)→
 ∃f g h,d.cell? ((nb w).add 0)=some (slice f g h)∧
 R (bool ((g:Int)==0)) d
theorem xc (a:OA) (b c:Nat) (w:World) (R:RW) (hh:Lb a b c w R):CR 43 #[agg #[slice a b c]] w R:=
 aC (fn:=Tryz.f43) (by kernel_rfl) (by kernel_rfl) (by kernel_rfl) (by kernel_rfl) (by kernel_rfl) hh
def Lt (a:OA) (b:Int) (w:World) (R:RW):Prop:=
 ∀c,c=w.alloc (.cells #[slice none 0 0] 88)→
 CP 41 #[pointer a,int .i64 0,int .i64 b] c (fun d f=>
 ∃g h i,d= .returned (agg #[slice g h i])∧
 (slice g h i).oneCell'=true∧(∃u,f.cell? (nb w)=some u)∧f.frozen? (nb w)=false∧
 ∀j,j=(f.setCell (nb w) (slice g h i))→
 ∃k l m,(j.cell? (nb w)=some (slice k l m)∧True)∧
 R (agg #[slice k l m]) j)
theorem oY (a:OA) (b:Int) (w:World) (R:RW) (hh:Lt a b w R):CR 45 #[pointer a,int .i64 b] w R:=
 aC (fn:=Tryz.f45) (by kernel_rfl) (by kernel_rfl) (by kernel_rfl) (by kernel_rfl) (by kernel_rfl) hh
def Lv (a:OA) (b c:Nat) (w:World) (R:RW):Prop:=
 ∀d,d=w.alloc (.cells #[slice a b c] 88)→
 ∃f g h,(d.cell? (nb w)=some (slice f g h)∧True)∧
 CP 43 #[agg #[slice f g h]] d (fun i j=>
 ∃k,i= .returned (bool k)∧
 ac k
 (R (string ⟨#[48]⟩) j)
 (∀l:KW,(∀(m:OA) (n o:Nat) (p:World),(∃q r s,(p.cell? (nb w)=some (slice q r s)∧True)∧
 CP 43 #[agg #[slice q r s]] p (fun t x=>
 ∃y,t= .returned (bool y)∧
 ac (!y)
 (∃z a1 b1,(x.cell? (nb w)=some (slice z a1 b1)∧True)∧
 CP 87 #[agg #[slice z a1 b1],int .u32 1000000000] x (fun c1 d1=>
 ∃e1 f1 g1 h1,c1= .returned (tuple #[agg #[slice e1 f1 g1],int .u32 h1])∧
 ∀i1,i1=d1.alloc (.cells #[slice none 0 0] 88)→
 (slice e1 f1 g1).oneCell'=true∧(∃u,i1.cell? (nb d1)=some u)∧i1.frozen? (nb d1)=false∧
 ∀j1,j1=(i1.setCell (nb d1) (slice e1 f1 g1))→
 ∀k1:KW,(∀(l1 m1:Int) (n1:OA) (o1 p1:Nat) (q1:World),(ac (decide (l1<9))
 (ac (decide (m1>0))
 ((10:Int)≠0∧
 Ar .u32 ((48:Int)+(Int.tmod m1 10)) (fun r1=>
 ∀s1,s1=q1.alloc (.cells #[int .u8 (IntKind.wrap .u8 r1)] 5)→
 ∃t1 u1 v1 x1,(Builtin.append_ #[97,97] 97 #[slice n1 o1 p1,slice (some (nb q1)) 1 1]).run Tryz.prog s1= .ok (slice t1 u1 v1) x1∧
 (10:Int)≠0∧
 Ar .i64 (l1+1) (fun y1=>
 k1 [int .i64 y1,int .u32 (IntKind.wrap .u32 (Int.tdiv m1 10)),slice t1 u1 v1] x1)))
 (∃z1 a2 b2,(q1.cell? (nb d1)=some (slice z1 a2 b2)∧True)∧
 CP 43 #[agg #[slice z1 a2 b2]] q1 (fun c2 d2=>
 ∃e2,c2= .returned (bool e2)∧
 ac (!e2)
 ((10:Int)≠0∧
 Ar .u32 ((48:Int)+(Int.tmod m1 10)) (fun f2=>
 ∀g2,g2=d2.alloc (.cells #[int .u8 (IntKind.wrap .u8 f2)] 5)→
 ∃h2 i2 j2 k2,(Builtin.append_ #[97,97] 97 #[slice n1 o1 p1,slice (some (nb d2)) 1 1]).run Tryz.prog g2= .ok (slice h2 i2 j2) k2∧
 (10:Int)≠0∧
 Ar .i64 (l1+1) (fun l2=>
 k1 [int .i64 l2,int .u32 (IntKind.wrap .u32 (Int.tdiv m1 10)),slice h2 i2 j2] k2)))
 (∃m2 n2 o2,(d2.cell? (nb d1)=some (slice m2 n2 o2)∧True)∧
 (slice m2 n2 o2).oneCell'=true∧(∃u,d2.cell? (nb w)=some u)∧d2.frozen? (nb w)=false∧
 ∀p2,p2=(d2.setCell (nb w) (slice m2 n2 o2))→
 l [slice n1 o1 p1] p2))))
 (∃q2 r2 s2,(q1.cell? (nb d1)=some (slice q2 r2 s2)∧True)∧
 (slice q2 r2 s2).oneCell'=true∧(∃u,q1.cell? (nb w)=some u)∧q1.frozen? (nb w)=false∧
 ∀t2,t2=(q1.setCell (nb w) (slice q2 r2 s2))→
 l [slice n1 o1 p1] t2))→k1 [int .i64 l1,int .u32 m1,slice n1 o1 p1] q1)→
 k1 [int .i64 0,int .u32 h1,slice m n o] j1))
 (CP 88 #[slice m n o] x (fun u2 v2=>
 u2= .returned (tuple #[])∧
 ∃x2 y2,(convert 97 9 (slice m n o)).run Tryz.prog v2= .ok (string x2) y2∧
 R (string x2) y2))))→l [slice m n o] p)→
 l [slice none 0 0] j))
theorem yk (a:OA) (b c:Nat) (w:World) (R:RW) (hh:Lv a b c w R):CR 46 #[agg #[slice a b c]] w R:=
 aC (fn:=Tryz.f46) (by kernel_rfl) (by kernel_rfl) (by kernel_rfl) (by kernel_rfl) (by kernel_rfl) hh
def KL (a:OA) (b:Int) (c:OA) (d f:Nat) (w:World) (R:RW):Prop:=
 ∀g,g=w.alloc (.cells #[slice c d f] 88)→
 ac (Option.isNone a)
 (R (tuple #[slice none 0 0,int .i64 1]) g)
 (ac (decide (b<0))
 (R (tuple #[slice none 0 0,int .i64 3]) g)
 (ag a (fun h=>
 ∃i,g.cell? (h.add 2)=some (int .i64 i)∧
 ac (decide (b>i))
 (R (tuple #[slice none 0 0,int .i64 3]) g)
 (∀j,j=g.drew→
 ∃k l m,(j.cell? (nb w)=some (slice k l m)∧True)∧
 CP 45 #[pointer a,int .i64 b] j (fun n o=>
 ∃p q r,n= .returned (agg #[slice p q r])∧
 (o.cell? (nb w)=some (slice k l m)∧True)∧
 CP 42 #[agg #[slice k l m],agg #[slice p q r]] o (fun s t=>
 ∃x,s= .returned (int .i64 x)∧
 ac (decide (x≥0))
 (R (tuple #[slice none 0 0,int .i64 7]) t)
 (∀y,y=t.alloc (.cells #[slice none 0 0] 28)→
 ∀z,z=y.alloc (.cells #[int .i64 0] 3)→
 (int .i64 0).oneCell'=true∧(∃u,z.cell? (nb y)=some u)∧z.frozen? (nb y)=false∧
 ∀a1,a1=(z.setCell (nb y) (int .i64 0))→
 Ar .i64 (b-1) (fun b1=>
 ∀c1:KW,(∀(d1:Int) (e1:World),(ac (decide (d1≥0))
 (∃f1,e1.cell? (nb y)=some (int .i64 f1)∧
 CP 95 #[pointer a,int .i64 f1,int .i64 d1,func (.func 96) #[] #[pointer (some (nb w)),pointer (some (nb t)),pointer (some (nb y))]] e1 (fun g1 h1=>
 ∃i1,g1= .returned (bool i1)∧
 Ar .i64 (d1-1) (fun j1=>
 c1 [int .i64 j1] h1)))
 (∃k1 l1 m1,e1.cell? (nb t)=some (slice k1 l1 m1)∧
 R (tuple #[slice k1 l1 m1,int .i64 0]) e1))→c1 [int .i64 d1] e1)→
 c1 [int .i64 b1] a1))))))))
theorem xN (a:OA) (b:Int) (c:OA) (d f:Nat) (w:World) (R:RW) (hh:KL a b c d f w R):CR 50 #[pointer a,int .i64 b,agg #[slice c d f]] w R:=
 aC (fn:=Tryz.f50) (by kernel_rfl) (by kernel_rfl) (by kernel_rfl) (by kernel_rfl) (by kernel_rfl) hh
def KU (a b:OA) (c d:Nat) (w:World) (R:RW):Prop:=
 ∀f,f=w.alloc (.cells #[slice none 0 0] 88)→
 ac (Option.isNone a)
 ((slice none 0 0).oneCell'=true∧(∃u,f.cell? (nb w)=some u)∧f.frozen? (nb w)=false∧
 ∀g,g=(f.setCell (nb w) (slice none 0 0))→
 ∃h i j,(g.cell? (nb w)=some (slice h i j)∧True)∧
 R (tuple #[agg #[slice h i j],int .i64 1]) g)
 (ag a (fun k=>
 ∃l,f.cell? (k.add 2)=some (int .i64 l)∧
 ac (decide ((c:Int)>l))
 ((slice none 0 0).oneCell'=true∧(∃u,f.cell? (nb w)=some u)∧f.frozen? (nb w)=false∧
 ∀m,m=(f.setCell (nb w) (slice none 0 0))→
 ∃n o p,(m.cell? (nb w)=some (slice n o p)∧True)∧
 R (tuple #[agg #[slice n o p],int .i64 3]) m)
 (ag a (fun q=>
 ∃r,f.cell? (q.add 0)=some (pointer r)∧
 CP 98 #[pointer r,slice b c d] f (fun s t=>
 ∃x y,s= .returned (tuple #[int .i64 x,bool y])∧
 ac (!y)
 ((slice none 0 0).oneCell'=true∧(∃u,t.cell? (nb w)=some u)∧t.frozen? (nb w)=false∧
 ∀z,z=(t.setCell (nb w) (slice none 0 0))→
 ∃a1 b1 c1,(z.cell? (nb w)=some (slice a1 b1 c1)∧True)∧
 R (tuple #[agg #[slice a1 b1 c1],int .i64 4]) z)
 (ag a (fun d1=>
 ∃e1,t.cell? (d1.add 0)=some (pointer e1)∧
 CP 44 #[pointer e1,int .i64 x] t (fun f1 g1=>
 ∃h1,f1= .returned (bool h1)∧
 ac (!h1)
 ((slice none 0 0).oneCell'=true∧(∃u,g1.cell? (nb w)=some u)∧g1.frozen? (nb w)=false∧
 ∀i1,i1=(g1.setCell (nb w) (slice none 0 0))→
 ∃j1 k1 l1,(i1.cell? (nb w)=some (slice j1 k1 l1)∧True)∧
 R (tuple #[agg #[slice j1 k1 l1],int .i64 8]) i1)
 (∀m1,m1=g1.alloc (.cells #[slice none 0 0] 88)→
 ∀n1,n1=m1.alloc (.cells #[int .i64 0] 3)→
 (int .i64 0).oneCell'=true∧(∃u,n1.cell? (nb m1)=some u)∧n1.frozen? (nb m1)=false∧
 ∀o1,o1=(n1.setCell (nb m1) (int .i64 0))→
 ∀p1:KW,(∀(q1:Int) (r1:World),(ac (decide (q1< (c:Int)))
 (ag b (fun s1=>
 (0:Int)≤q1∧q1< (c:Int)∧
 ∃t1,r1.cell? (s1.add (q1.toNat*1))=some (int .i64 t1)∧
 ∀u1,u1=r1.alloc (.cells #[int .i64 0] 3)→
 (int .i64 t1).oneCell'=true∧(∃u,u1.cell? (nb r1)=some u)∧u1.frozen? (nb r1)=false∧
 ∀v1,v1=(u1.setCell (nb r1) (int .i64 t1))→
 ∃x1,v1.cell? (nb m1)=some (int .i64 x1)∧
 Ar .i64 ((c:Int)-1) (fun y1=>
 Ar .i64 (y1-q1) (fun z1=>
 CP 95 #[pointer a,int .i64 x1,int .i64 z1,func (.func 99) #[] #[pointer (some (nb r1)),pointer (some (nb m1)),pointer (some (nb g1))]] v1 (fun a2 b2=>
 ∃c2,a2= .returned (bool c2)∧
 Ar .i64 (q1+1) (fun d2=>
 p1 [int .i64 d2] b2))))))
 (∃e2 f2 g2,(r1.cell? (nb g1)=some (slice e2 f2 g2)∧True)∧
 (slice e2 f2 g2).oneCell'=true∧(∃u,r1.cell? (nb w)=some u)∧r1.frozen? (nb w)=false∧
 ∀h2,h2=(r1.setCell (nb w) (slice e2 f2 g2))→
 ∃i2 j2 k2,(h2.cell? (nb w)=some (slice i2 j2 k2)∧True)∧
 R (tuple #[agg #[slice i2 j2 k2],int .i64 0]) h2))→p1 [int .i64 q1] r1)→
 p1 [int .i64 0] o1)))))))))
theorem oV (a b:OA) (c d:Nat) (w:World) (R:RW) (hh:KU a b c d w R):CR 51 #[pointer a,slice b c d] w R:=
 aC (fn:=Tryz.f51) (by kernel_rfl) (by kernel_rfl) (by kernel_rfl) (by kernel_rfl) (by kernel_rfl) hh
def Le (a b:OA) (c d:Nat) (w:World) (R:RW):Prop:=
 CP 51 #[pointer a,slice b c d] w (fun f g=>
 ∃h i j k,f= .returned (tuple #[agg #[slice h i j],int .i64 k])∧
 ∀l,l=g.alloc (.cells #[slice none 0 0] 88)→
 (slice h i j).oneCell'=true∧(∃u,l.cell? (nb g)=some u)∧l.frozen? (nb g)=false∧
 ∀m,m=(l.setCell (nb g) (slice h i j))→
 ac (k != 0)
 (R (tuple #[slice none 0 0,int .i64 k]) m)
 (∀n,n=m.drew→
 ∃o p q,(n.cell? (nb g)=some (slice o p q)∧True)∧
 CP 53 #[int .u64 1] n (fun r s=>
 ∃t x y,r= .returned (agg #[slice t x y])∧
 (s.cell? (nb g)=some (slice o p q)∧True)∧
 ∀z,z=s.alloc (.cells #[slice t x y] 88)→
 (z.cell? (nb g)=some (slice o p q)∧True)∧
 CP 40 #[agg #[slice o p q],slice (some (nb s)) 1 1] z (fun a1 b1=>
 ∃c1 d1 e1,a1= .returned (agg #[slice c1 d1 e1])∧
 CP 50 #[pointer a,int .i64 (c:Int),agg #[slice c1 d1 e1]] b1 (fun f1 g1=>
 ∃h1 i1 j1 k1,f1= .returned (tuple #[slice h1 i1 j1,int .i64 k1])∧
 ac (k1==7)
 (R (tuple #[slice none 0 0,int .i64 9]) g1)
 (R (tuple #[slice h1 i1 j1,int .i64 k1]) g1))))))
theorem yf (a b:OA) (c d:Nat) (w:World) (R:RW) (hh:Le a b c d w R):CR 52 #[pointer a,slice b c d] w R:=
 aC (fn:=Tryz.f52) (by kernel_rfl) (by kernel_rfl) (by kernel_rfl) (by kernel_rfl) (by kernel_rfl) hh
def Lh (a:Int) (w:World) (R:RW):Prop:=
 ∀b,b=w.alloc (.cells #[slice none 0 0] 88)→
 (0:Int)≤32∧
 ∀c,c=b.alloc (.cells #[int .u32 (IntKind.wrap .u32 a),int .u32 (IntKind.wrap .u32 (Int.fdiv a (2^(min (32:Int).toNat (IntKind.bits .u64)))))] 153)→
 CP 93 #[slice (some (nb b)) 2 2] c (fun d f=>
 ∃g h i,d= .returned (agg #[slice g h i])∧
 (slice g h i).oneCell'=true∧(∃u,f.cell? (nb w)=some u)∧f.frozen? (nb w)=false∧
 ∀j,j=(f.setCell (nb w) (slice g h i))→
 ∃k l m,(j.cell? (nb w)=some (slice k l m)∧True)∧
 R (agg #[slice k l m]) j)
theorem xE (a:Int) (w:World) (R:RW) (hh:Lh a w R):CR 53 #[int .u64 a] w R:=
 aC (fn:=Tryz.f53) (by kernel_rfl) (by kernel_rfl) (by kernel_rfl) (by kernel_rfl) (by kernel_rfl) hh
def K6 (a b:OA) (c:Int) (w:World) (R:RW):Prop:=
 ac (Option.isNone a)
 (R (tuple #[pointer none,int .i64 1]) w)
 (ac (Option.isNone b)
 (R (tuple #[pointer none,int .i64 1]) w)
 (ac (decide (c<0))
 (R (tuple #[pointer none,int .i64 1]) w)
 (CP 37 #[pointer a] w (fun d f=>
 ∃g,d= .returned (int .i64 g)∧
 g≠0∧
 ac (decide (c>(IntKind.wrap .i64 (Int.tdiv 20000 g))))
 (R (tuple #[pointer none,int .i64 5]) f)
 (∀h,h=f.alloc (.cells #[pointer a,pointer b,int .i64 c,int .u32 0,int .i32 0,int .u32 0,slice none 0 0] 172)→
 R (tuple #[pointer (some (nb f)),int .i64 0]) h)))))
theorem kN (a b:OA) (c:Int) (w:World) (R:RW) (hh:K6 a b c w R):CR 55 #[pointer a,pointer b,int .i64 c] w R:=
 aC (fn:=Tryz.f55) (by kernel_rfl) (by kernel_rfl) (by kernel_rfl) (by kernel_rfl) (by kernel_rfl) hh
def K5 (a:OA) (b c:Nat) (d:OA) (f g:Nat) (w:World) (R:RW):Prop:=
 ∀h,h=w.alloc (.cells #[slice a b c] 88)→
 ∀i,i=h.alloc (.cells #[slice d f g] 88)→
 ∀j,j=i.alloc (.cells #[slice none 0 0] 88)→
 ∃k l m,j.cell? ((nb w).add 0)=some (slice k l m)∧
 ∃n o p,j.cell? ((nb h).add 0)=some (slice n o p)∧
 ∃q r,(Builtin.max_ #[3,3] 3 #[int .i64 (l:Int),int .i64 (o:Int)]).run Tryz.prog j= .ok (int .i64 q) r∧
 Ar .i64 (q+1) (fun s=>
 ∃t x y z,(Instr.makeSlice 86 (int .i64 0) (int .i64 s)).run Tryz.prog r= .ok (slice t x y) z∧
 ∀a1:KW,(∀(b1 c1:Int) (d1:OA) (e1 f1:Nat) (g1:World),(ac (decide (b1<q))
 (∀h1,h1=g1.drew→
 ∃i1 j1 k1,(h1.cell? (nb w)=some (slice i1 j1 k1)∧True)∧
 ∃l1 m1 n1,(h1.cell? (nb h)=some (slice l1 m1 n1)∧True)∧
 CP 153 #[agg #[slice i1 j1 k1],int .i64 b1] h1 (fun o1 p1=>
 ∃q1,o1= .returned (int .u32 q1)∧
 (p1.cell? (nb h)=some (slice l1 m1 n1)∧True)∧
 CP 153 #[agg #[slice l1 m1 n1],int .i64 b1] p1 (fun r1 s1=>
 ∃t1,r1= .returned (int .u32 t1)∧
 Ar .u64 ((IntKind.wrap .u64 q1:Int)+(IntKind.wrap .u64 t1)) (fun u1=>
 Ar .u64 (u1+c1) (fun v1=>
 ∀x1,x1=s1.alloc (.cells #[int .u32 (IntKind.wrap .u32 v1)] 153)→
 ∃y1 z1 a2 b2,(Builtin.append_ #[86,86] 86 #[slice d1 e1 f1,slice (some (nb s1)) 1 1]).run Tryz.prog x1= .ok (slice y1 z1 a2) b2∧
 (0:Int)≤32∧
 Ar .i64 (b1+1) (fun c2=>
 a1 [int .i64 c2,int .u64 (Int.fdiv v1 (2^(min (32:Int).toNat (IntKind.bits .u64)))),slice y1 z1 a2] b2))))))
 (∀d2,d2=g1.alloc (.cells #[int .u32 (IntKind.wrap .u32 c1)] 153)→
 ∃e2 f2 g2 h2,(Builtin.append_ #[86,86] 86 #[slice d1 e1 f1,slice (some (nb g1)) 1 1]).run Tryz.prog d2= .ok (slice e2 f2 g2) h2∧
 CP 93 #[slice e2 f2 g2] h2 (fun i2 j2=>
 ∃k2 l2 m2,i2= .returned (agg #[slice k2 l2 m2])∧
 (slice k2 l2 m2).oneCell'=true∧(∃u,j2.cell? (nb i)=some u)∧j2.frozen? (nb i)=false∧
 ∀n2,n2=(j2.setCell (nb i) (slice k2 l2 m2))→
 ∃o2 p2 q2,(n2.cell? (nb i)=some (slice o2 p2 q2)∧True)∧
 R (agg #[slice o2 p2 q2]) n2)))→a1 [int .i64 b1,int .u64 c1,slice d1 e1 f1] g1)→
 a1 [int .i64 0,int .u64 0,slice t x y] z)
theorem xP (a:OA) (b c:Nat) (d:OA) (f g:Nat) (w:World) (R:RW) (hh:K5 a b c d f g w R):CR 82 #[agg #[slice a b c],agg #[slice d f g]] w R:=
 aC (fn:=Tryz.f82) (by kernel_rfl) (by kernel_rfl) (by kernel_rfl) (by kernel_rfl) (by kernel_rfl) hh
def Lx (a:OA) (w:World) (R:RW):Prop:=
 ag a (fun b=>
 ∃c,w.cell? (b.add 0)=some (pointer c)∧
 CP 37 #[pointer c] w (fun d f=>
 ∃g,d= .returned (int .i64 g)∧
 ∃h i j k,(Instr.makeSlice 166 (int .i64 g) (int .i64 g)).run Tryz.prog f= .ok (slice h i j) k∧
 ∃l m n o,(Instr.makeSlice 252 (int .i64 g) (int .i64 g)).run Tryz.prog k= .ok (slice l m n) o∧
 ∀p:KW,(∀(q:Int) (r:World),(ac (decide (q<g))
 (∀s:KW,(∀t:World,(Ar .i64 (q+1) (fun x=>
 p [int .i64 x] t))→s [] t)→
 CP 156 #[pointer a,int .i64 q] r (fun y z=>
 ∃a1,y= .returned (map a1)∧
 ag l (fun b1=>
 (0:Int)≤q∧q< (m:Int)∧
 (map a1).oneCell'=true∧(∃u,z.cell? (b1.add (q.toNat*1))=some u)∧z.frozen? (b1.add (q.toNat*1))=false∧
 ∀c1,c1=(z.setCell (b1.add (q.toNat*1)) (map a1))→
 ag a (fun d1=>
 ∃e1,c1.cell? (d1.add 0)=some (pointer e1)∧
 CP 44 #[pointer e1,int .i64 q] c1 (fun f1 g1=>
 ∃h1,f1= .returned (bool h1)∧
 ac h1
 (CP 53 #[int .u64 1] g1 (fun i1 j1=>
 ∃k1 l1 m1,i1= .returned (agg #[slice k1 l1 m1])∧
 ag h (fun n1=>
 (0:Int)≤q∧q< (i:Int)∧
 (slice k1 l1 m1).oneCell'=true∧(∃u,j1.cell? (n1.add (q.toNat*1))=some u)∧j1.frozen? (n1.add (q.toNat*1))=false∧
 ∀o1,o1=(j1.setCell (n1.add (q.toNat*1)) (slice k1 l1 m1))→
 s [] o1)))
 (s [] g1))))))
 (ag a (fun p1=>
 ∃q1 r1 s1,r.cell? ((p1.add 3).add 3)=some (slice q1 r1 s1)∧
 ∀t1,t1=r.alloc (.cells #[slice h i j] 166)→
 ∃u1 v1 x1 y1,(Builtin.append_ #[168,168] 168 #[slice q1 r1 s1,slice (some (nb r)) 1 1]).run Tryz.prog t1= .ok (slice u1 v1 x1) y1∧
 ag a (fun z1=>
 (slice u1 v1 x1).oneCell'=true∧(∃u,y1.cell? ((z1.add 3).add 3)=some u)∧y1.frozen? ((z1.add 3).add 3)=false∧
 ∀a2,a2=(y1.setCell ((z1.add 3).add 3) (slice u1 v1 x1))→
 ∀b2:KW,(∀(c2:Int) (d2:World),(ag a (fun e2=>
 ∃f2,d2.cell? (e2.add 2)=some (int .i64 f2)∧
 ac (decide (c2≤f2))
 (∃g2 h2 i2 j2,(Instr.makeSlice 166 (int .i64 g) (int .i64 g)).run Tryz.prog d2= .ok (slice g2 h2 i2) j2∧
 ∀k2:KW,(∀(l2:Int) (m2:World),(ac (decide (l2<g))
 (ag l (fun n2=>
 (0:Int)≤l2∧l2< (m:Int)∧
 ∃o2,m2.cell? (n2.add (l2.toNat*1))=some (map o2)∧
 ∃p2 q2,(Instr.range 253 (map o2)).run Tryz.prog m2= .ok (pointer p2) q2∧
 ∀r2:KW,(∀s2:World,((∃t2 u2,(Instr.next (pointer p2) false 0).run Tryz.prog s2= .ok (tuple #[bool t2]) u2∧
 ∃v2,bool t2=bool v2∧
 ac v2
 (∃x2 y2 z2,(Instr.entry (pointer p2)).run Tryz.prog u2= .ok (tuple #[x2,y2]) z2∧
 ∃a3,x2=int .i64 a3∧
 ∃b3,y2=int .u32 b3∧
 ∀c3,c3=z2.drew→
 ag g2 (fun d3=>
 (0:Int)≤l2∧l2< (h2:Int)∧
 ∃e3 f3 g3,(c3.cell? (d3.add (l2.toNat*1))=some (slice e3 f3 g3)∧True)∧
 ag a (fun h3=>
 ∃i3 j3 k3,c3.cell? ((h3.add 3).add 3)=some (slice i3 j3 k3)∧
 Ar .i64 (c2-1) (fun l3=>
 ag i3 (fun m3=>
 (0:Int)≤l3∧l3< (j3:Int)∧
 ∃n3 o3 p3,c3.cell? (m3.add (l3.toNat*1))=some (slice n3 o3 p3)∧
 ag n3 (fun q3=>
 (0:Int)≤a3∧a3< (o3:Int)∧
 ∃r3 s3 t3,(c3.cell? (q3.add (a3.toNat*1))=some (slice r3 s3 t3)∧True)∧
 CP 157 #[agg #[slice r3 s3 t3],int .u32 b3] c3 (fun u3 v3=>
 ∃x3 y3 z3,u3= .returned (agg #[slice x3 y3 z3])∧
 (v3.cell? (d3.add (l2.toNat*1))=some (slice e3 f3 g3)∧True)∧
 ∀a4,a4=v3.alloc (.cells #[slice x3 y3 z3] 88)→
 (a4.cell? (d3.add (l2.toNat*1))=some (slice e3 f3 g3)∧True)∧
 CP 40 #[agg #[slice e3 f3 g3],slice (some (nb v3)) 1 1] a4 (fun b4 c4=>
 ∃d4 e4 f4,b4= .returned (agg #[slice d4 e4 f4])∧
 ag g2 (fun g4=>
 (0:Int)≤l2∧l2< (h2:Int)∧
 (slice d4 e4 f4).oneCell'=true∧(∃u,c4.cell? (g4.add (l2.toNat*1))=some u)∧c4.frozen? (g4.add (l2.toNat*1))=false∧
 ∀h4,h4=(c4.setCell (g4.add (l2.toNat*1)) (slice d4 e4 f4))→
 r2 [] h4)))))))))
 (Ar .i64 (l2+1) (fun i4=>
 k2 [int .i64 i4] u2)))∨
 (∃j4 k4 l4 m4,(Instr.next (pointer p2) false 0).run Tryz.prog s2= .ok (tuple #[bool j4,k4,l4]) m4∧
 ∃n4,bool j4=bool n4∧
 ac n4
 (∃o4 p4 q4,(Instr.entry (pointer p2)).run Tryz.prog m4= .ok (tuple #[o4,p4]) q4∧
 ∃r4,o4=int .i64 r4∧
 ∃s4,p4=int .u32 s4∧
 ∀t4,t4=q4.drew→
 ag g2 (fun u4=>
 (0:Int)≤l2∧l2< (h2:Int)∧
 ∃v4 x4 y4,(t4.cell? (u4.add (l2.toNat*1))=some (slice v4 x4 y4)∧True)∧
 ag a (fun z4=>
 ∃a5 b5 c5,t4.cell? ((z4.add 3).add 3)=some (slice a5 b5 c5)∧
 Ar .i64 (c2-1) (fun d5=>
 ag a5 (fun e5=>
 (0:Int)≤d5∧d5< (b5:Int)∧
 ∃f5 g5 h5,t4.cell? (e5.add (d5.toNat*1))=some (slice f5 g5 h5)∧
 ag f5 (fun i5=>
 (0:Int)≤r4∧r4< (g5:Int)∧
 ∃j5 k5 l5,(t4.cell? (i5.add (r4.toNat*1))=some (slice j5 k5 l5)∧True)∧
 CP 157 #[agg #[slice j5 k5 l5],int .u32 s4] t4 (fun m5 n5=>
 ∃o5 p5 q5,m5= .returned (agg #[slice o5 p5 q5])∧
 (n5.cell? (u4.add (l2.toNat*1))=some (slice v4 x4 y4)∧True)∧
 ∀r5,r5=n5.alloc (.cells #[slice o5 p5 q5] 88)→
 (r5.cell? (u4.add (l2.toNat*1))=some (slice v4 x4 y4)∧True)∧
 CP 40 #[agg #[slice v4 x4 y4],slice (some (nb n5)) 1 1] r5 (fun s5 t5=>
 ∃u5 v5 x5,s5= .returned (agg #[slice u5 v5 x5])∧
 ag g2 (fun y5=>
 (0:Int)≤l2∧l2< (h2:Int)∧
 (slice u5 v5 x5).oneCell'=true∧(∃u,t5.cell? (y5.add (l2.toNat*1))=some u)∧t5.frozen? (y5.add (l2.toNat*1))=false∧
 ∀z5,z5=(t5.setCell (y5.add (l2.toNat*1)) (slice u5 v5 x5))→
 r2 [] z5)))))))))
 (Ar .i64 (l2+1) (fun a6=>
 k2 [int .i64 a6] m4))))→r2 [] s2)→
 r2 [] q2))
 (ag a (fun b6=>
 ∃c6 d6 e6,m2.cell? ((b6.add 3).add 3)=some (slice c6 d6 e6)∧
 ∀f6,f6=m2.alloc (.cells #[slice g2 h2 i2] 166)→
 ∃g6 h6 i6 j6,(Builtin.append_ #[168,168] 168 #[slice c6 d6 e6,slice (some (nb m2)) 1 1]).run Tryz.prog f6= .ok (slice g6 h6 i6) j6∧
 ag a (fun k6=>
 (slice g6 h6 i6).oneCell'=true∧(∃u,j6.cell? ((k6.add 3).add 3)=some u)∧j6.frozen? ((k6.add 3).add 3)=false∧
 ∀l6,l6=(j6.setCell ((k6.add 3).add 3) (slice g6 h6 i6))→
 Ar .i64 (c2+1) (fun m6=>
 b2 [int .i64 m6] l6)))))→k2 [int .i64 l2] m2)→
 k2 [int .i64 0] j2)
 (R (tuple #[]) d2)))→b2 [int .i64 c2] d2)→
 b2 [int .i64 1] a2))))→p [int .i64 q] r)→
 p [int .i64 0] o))
theorem xy (a:OA) (w:World) (R:RW) (hh:Lx a w R):CR 84 #[pointer a] w R:=
 lR Hb (fn:=Tryz.f84) (by kernel_rfl) (body:=rQ Tryz.f84) (by kernel_rfl) (by kernel_rfl) (by kernel_rfl) (Eq.mp (by kernel_rfl) hh)
def KP (a:OA) (b c:Nat) (d:Int) (w:World) (R:RW):Prop:=
 ∀f,f=w.alloc (.cells #[slice a b c] 88)→
 ∀g,g=f.alloc (.cells #[slice none 0 0] 88)→
 ac (d==0)
 ((slice none 0 0).oneCell'=true∧(∃u,g.cell? (nb f)=some u)∧g.frozen? (nb f)=false∧
 ∀h,h=(g.setCell (nb f) (slice none 0 0))→
 ∃i j k,(h.cell? (nb f)=some (slice i j k)∧True)∧
 R (tuple #[agg #[slice i j k],int .u32 0]) h)
 (∃l m n,g.cell? ((nb w).add 0)=some (slice l m n)∧
 ∃o p q r,(Instr.makeSlice 86 (int .i64 (m:Int)) (int .i64 (m:Int))).run Tryz.prog g= .ok (slice o p q) r∧
 ∃s t x,r.cell? ((nb w).add 0)=some (slice s t x)∧
 Ar .i64 ((t:Int)-1) (fun y=>
 ∀z:KW,(∀(a1 b1:Int) (c1:World),(ac (decide (a1≥0))
 ((0:Int)≤32∧
 ∃d1 e1 f1,c1.cell? ((nb w).add 0)=some (slice d1 e1 f1)∧
 ag d1 (fun g1=>
 (0:Int)≤a1∧a1< (e1:Int)∧
 ∃h1,c1.cell? (g1.add (a1.toNat*1))=some (int .u32 h1)∧
 (IntKind.wrap .u64 d:Int)≠0∧
 ag o (fun i1=>
 (0:Int)≤a1∧a1< (p:Int)∧
 (int .u32 (IntKind.wrap .u32 (IntKind.wrap .u64 (Int.tdiv (IntKind.wrap .u64 ((BitVec.ofInt (IntKind.bits .u64) (IntKind.wrap .u64 (b1*2^(min (32:Int).toNat (IntKind.bits .u64))))|||BitVec.ofInt (IntKind.bits .u64) (IntKind.wrap .u64 h1)).toNat:Int)) (IntKind.wrap .u64 d))))).oneCell'=true∧(∃u,c1.cell? (i1.add (a1.toNat*1))=some u)∧c1.frozen? (i1.add (a1.toNat*1))=false∧
 ∀j1,j1=(c1.setCell (i1.add (a1.toNat*1)) (int .u32 (IntKind.wrap .u32 (IntKind.wrap .u64 (Int.tdiv (IntKind.wrap .u64 ((BitVec.ofInt (IntKind.bits .u64) (IntKind.wrap .u64 (b1*2^(min (32:Int).toNat (IntKind.bits .u64))))|||BitVec.ofInt (IntKind.bits .u64) (IntKind.wrap .u64 h1)).toNat:Int)) (IntKind.wrap .u64 d))))))→
 (IntKind.wrap .u64 d:Int)≠0∧
 Ar .i64 (a1-1) (fun k1=>
 z [int .i64 k1,int .u64 (Int.tmod (IntKind.wrap .u64 ((BitVec.ofInt (IntKind.bits .u64) (IntKind.wrap .u64 (b1*2^(min (32:Int).toNat (IntKind.bits .u64))))|||BitVec.ofInt (IntKind.bits .u64) (IntKind.wrap .u64 h1)).toNat:Int)) (IntKind.wrap .u64 d))] j1))))
 (CP 93 #[slice o p q] c1 (fun l1 m1=>
 ∃n1 o1 p1,l1= .returned (agg #[slice n1 o1 p1])∧
 (slice n1 o1 p1).oneCell'=true∧(∃u,m1.cell? (nb f)=some u)∧m1.frozen? (nb f)=false∧
 ∀q1,q1=(m1.setCell (nb f) (slice n1 o1 p1))→
 ∃r1 s1 t1,(q1.cell? (nb f)=some (slice r1 s1 t1)∧True)∧
 R (tuple #[agg #[slice r1 s1 t1],int .u32 (IntKind.wrap .u32 b1)]) q1)))→z [int .i64 a1,int .u64 b1] c1)→
 z [int .i64 y,int .u64 0] r))
theorem xT (a:OA) (b c:Nat) (d:Int) (w:World) (R:RW) (hh:KP a b c d w R):CR 87 #[agg #[slice a b c],int .u32 d] w R:=
 aC (fn:=Tryz.f87) (by kernel_rfl) (by kernel_rfl) (by kernel_rfl) (by kernel_rfl) (by kernel_rfl) hh
def K3 (a:OA) (b c:Nat) (w:World) (R:RW):Prop:=
 Ar .i64 ((b:Int)-1) (fun d=>
 ∀f:KW,(∀(g h:Int) (i:World),(ac (decide (h<g))
 (∀j,j=i.drew→
 ag a (fun k=>
 (0:Int)≤g∧g< (b:Int)∧
 ∃l,j.cell? (k.add (g.toNat*1))=some (int .u8 l)∧
 ag a (fun m=>
 (0:Int)≤h∧h< (b:Int)∧
 ∃n,j.cell? (m.add (h.toNat*1))=some (int .u8 n)∧
 ag a (fun o=>
 (0:Int)≤h∧h< (b:Int)∧
 (int .u8 l).oneCell'=true∧(∃u,j.cell? (o.add (h.toNat*1))=some u)∧j.frozen? (o.add (h.toNat*1))=false∧
 ∀p,p=(j.setCell (o.add (h.toNat*1)) (int .u8 l))→
 ag a (fun q=>
 (0:Int)≤g∧g< (b:Int)∧
 (int .u8 n).oneCell'=true∧(∃u,p.cell? (q.add (g.toNat*1))=some u)∧p.frozen? (q.add (g.toNat*1))=false∧
 ∀r,r=(p.setCell (q.add (g.toNat*1)) (int .u8 n))→
 Ar .i64 (h+1) (fun s=>
 Ar .i64 (g-1) (fun t=>
 f [int .i64 t,int .i64 s] r)))))))
 (R (tuple #[]) i))→f [int .i64 g,int .i64 h] i)→
 f [int .i64 d,int .i64 0] w)
theorem xb (a:OA) (b c:Nat) (w:World) (R:RW) (hh:K3 a b c w R):CR 88 #[slice a b c] w R:=
 aC (fn:=Tryz.f88) (by kernel_rfl) (by kernel_rfl) (by kernel_rfl) (by kernel_rfl) (by kernel_rfl) hh
def KN (a:OA) (b c:Nat) (w:World) (R:RW):Prop:=
 ∀d,d=w.alloc (.cells #[slice none 0 0] 88)→
 ∀f:KW,(∀(g:Int) (h:World),(ac (decide (g>0))
 (Ar .i64 (g-1) (fun i=>
 ag a (fun j=>
 (0:Int)≤i∧i< (b:Int)∧
 ∃k,h.cell? (j.add (i.toNat*1))=some (int .u32 k)∧
 ac (k==0)
 (Ar .i64 (g-1) (fun l=>
 f [int .i64 l] h))
 ((0:Int)≤(0:Int)∧(0:Int)≤g∧g≤g∧g≤(c:Int)∧True∧
 (slice (bN a (0:Int).toNat g.toNat 1) (g.toNat- (0:Int).toNat) (g.toNat- (0:Int).toNat)).oneCell'=true∧(∃u,h.cell? (nb w)=some u)∧h.frozen? (nb w)=false∧
 ∀m,m=(h.setCell (nb w) (slice (bN a (0:Int).toNat g.toNat 1) (g.toNat- (0:Int).toNat) (g.toNat- (0:Int).toNat)))→
 ∃n o p,(m.cell? (nb w)=some (slice n o p)∧True)∧
 R (agg #[slice n o p]) m))))
 ((0:Int)≤(0:Int)∧(0:Int)≤g∧g≤g∧g≤(c:Int)∧True∧
 (slice (bN a (0:Int).toNat g.toNat 1) (g.toNat- (0:Int).toNat) (g.toNat- (0:Int).toNat)).oneCell'=true∧(∃u,h.cell? (nb w)=some u)∧h.frozen? (nb w)=false∧
 ∀q,q=(h.setCell (nb w) (slice (bN a (0:Int).toNat g.toNat 1) (g.toNat- (0:Int).toNat) (g.toNat- (0:Int).toNat)))→
 ∃r s t,(q.cell? (nb w)=some (slice r s t)∧True)∧
 R (agg #[slice r s t]) q))→f [int .i64 g] h)→
 f [int .i64 (b:Int)] d
theorem yn (a:OA) (b c:Nat) (w:World) (R:RW) (hh:KN a b c w R):CR 93 #[slice a b c] w R:=
 aC (fn:=Tryz.f93) (by kernel_rfl) (by kernel_rfl) (by kernel_rfl) (by kernel_rfl) (by kernel_rfl) hh
def Ly (a:OA) (b c:Int) (d:Value) (w:World) (R:RW):Prop:=
 ag a (fun f=>
 ∃g,w.cell? (f.add 1)=some (pointer g)∧
 CP 19 #[pointer g] w (fun h i=>
 ∃j,h= .returned (int .i64 j)∧
 ∀k:KW,(∀(l:Int) (m:Bool) (n:World),(ac (decide (l<j))
 (CP 161 #[pointer a,int .i64 l] n (fun o p=>
 ∃q,o= .returned (int .i64 q)∧
 ag a (fun r=>
 ∃s,p.cell? (r.add 0)=some (pointer s)∧
 CP 39 #[pointer s,int .i64 b,int .i64 q] p (fun t u=>
 ∃x y,t= .returned (tuple #[int .i64 x,bool y])∧
 ac y
 (ag a (fun z=>
 ∃a1,u.cell? (z.add 0)=some (pointer a1)∧
 CP 44 #[pointer a1,int .i64 x] u (fun b1 c1=>
 ∃d1,b1= .returned (bool d1)∧
 ac d1
 (CP 41 #[pointer a,int .i64 x,int .i64 c] c1 (fun e1 f1=>
 ∃g1 h1 i1,e1= .returned (agg #[slice g1 h1 i1])∧
 bk fA d [int .i64 q,int .i64 x,agg #[slice g1 h1 i1]] f1 (fun j1 k1=>
 ∃l1,j1= .returned (bool l1)∧
 ac l1
 (R (bool true) k1)
 (Ar .i64 (l+1) (fun m1=>
 k [int .i64 m1,bool m] k1)))))
 (Ar .i64 (l+1) (fun n1=>
 k [int .i64 n1,bool m] c1)))))
 (Ar .i64 (l+1) (fun o1=>
 k [int .i64 o1,bool m] u))))))
 (R (bool false) n))→k [int .i64 l,bool m] n)→
 k [int .i64 0,bool false] i))
theorem xo (a:OA) (b c:Int) (d:Value) (w:World) (R:RW) (hh:Ly a b c d w R):CR 95 #[pointer a,int .i64 b,int .i64 c,d] w R:=
 aC (fn:=Tryz.f95) (by kernel_rfl) (by kernel_rfl) (by kernel_rfl) (by kernel_rfl) (by kernel_rfl) hh
def Lu (a b:Int) (c:OA) (d f:Nat) (g h i:OA) (w:World) (R:RW):Prop:=
 ∀j,j=w.alloc (.cells #[slice c d f] 88)→
 ag g (fun k=>
 ∃l,j.cell? k=some (int .i64 l)∧
 ac (a==l)
 (ag h (fun m=>
 (int .i64 b).oneCell'=true∧(∃u,j.cell? m=some u)∧j.frozen? m=false∧
 ∀n,n=(j.setCell m (int .i64 b))→
 R (bool true) n))
 (ag i (fun o=>
 ∃p q r,(j.cell? o=some (slice p q r)∧True)∧
 ∃s t x,(j.cell? (nb w)=some (slice s t x)∧True)∧
 ∀y,y=j.alloc (.cells #[slice s t x] 88)→
 CP 40 #[agg #[slice p q r],slice (some (nb j)) 1 1] y (fun z a1=>
 ∃b1 c1 d1,z= .returned (agg #[slice b1 c1 d1])∧
 ag i (fun e1=>
 (slice b1 c1 d1).oneCell'=true∧(∃u,a1.cell? e1=some u)∧a1.frozen? e1=false∧
 ∀f1,f1=(a1.setCell e1 (slice b1 c1 d1))→
 R (bool false) f1)))))
theorem yS (a b:Int) (c:OA) (d f:Nat) (g h i:OA) (w:World) (R:RW) (hh:Lu a b c d f g h i w R):CR 99 #[int .i64 a,int .i64 b,agg #[slice c d f],pointer g,pointer h,pointer i] w R:=
 aC (fn:=Tryz.f99) (by kernel_rfl) (by kernel_rfl) (by kernel_rfl) (by kernel_rfl) (by kernel_rfl) hh
def IN (a:OA) (b c:Nat) (d:Int) (w:World) (R:RW):Prop:=
 ∀f,f=w.alloc (.cells #[slice a b c] 88)→
 ∃g h i,f.cell? ((nb w).add 0)=some (slice g h i)∧
 ac (decide (d≥(h:Int)))
 (R (int .u32 0) f)
 (∃j k l,f.cell? ((nb w).add 0)=some (slice j k l)∧
 ag j (fun m=>
 (0:Int)≤d∧d< (k:Int)∧
 ∃n,f.cell? (m.add (d.toNat*1))=some (int .u32 n)∧
 R (int .u32 n) f))
theorem wl (a:OA) (b c:Nat) (d:Int) (w:World) (R:RW) (hh:IN a b c d w R):CR 153 #[agg #[slice a b c],int .i64 d] w R:=
 aC (fn:=Tryz.f153) (by kernel_rfl) (by kernel_rfl) (by kernel_rfl) (by kernel_rfl) (by kernel_rfl) hh
def JQ (a:OA) (b:Int) (w:World) (R:RW):Prop:=
 ∃c d,(Instr.makeMap 253 none).run Tryz.prog w= .ok (map c) d∧
 ag a (fun f=>
 ∃g,d.cell? (f.add 1)=some (pointer g)∧
 CP 19 #[pointer g] d (fun h i=>
 ∃j,h= .returned (int .i64 j)∧
 ∀k:KW,(∀(l:Int) (m:World),(ac (decide (l<j))
 (∀n:KW,(∀o:World,(Ar .i64 (l+1) (fun p=>
 k [int .i64 p] o))→n [] o)→
 ∀q,q=m.drew→
 ag a (fun r=>
 ∃s,q.cell? (r.add 0)=some (pointer s)∧
 CP 161 #[pointer a,int .i64 l] q (fun t u=>
 ∃x,t= .returned (int .i64 x)∧
 (u.cell? (r.add 0)=some (pointer s)∧True)∧
 CP 39 #[pointer s,int .i64 b,int .i64 x] u (fun y z=>
 ∃a1 b1,y= .returned (tuple #[int .i64 a1,bool b1])∧
 ac b1
 (ag a (fun c1=>
 ∃d1,z.cell? (c1.add 0)=some (pointer d1)∧
 CP 44 #[pointer d1,int .i64 a1] z (fun e1 f1=>
 ∃g1,e1= .returned (bool g1)∧
 ac g1
 (∃h1 i1,(Instr.lookup 253 (map c) (int .i64 a1) false).run Tryz.prog f1= .ok (int .u32 h1) i1∧
 Ar .u32 (h1+1) (fun j1=>
 ∃k1,(Instr.mapUpdate 253 (map c) (int .i64 a1) (int .u32 j1)).run Tryz.prog i1= .ok () k1∧
 n [] k1))
 (n [] f1))))
 (n [] z)))))
 (R (map c) m))→k [int .i64 l] m)→
 k [int .i64 0] i))
theorem s_ (a:OA) (b:Int) (w:World) (R:RW) (hh:JQ a b w R):CR 156 #[pointer a,int .i64 b] w R:=
 aC (fn:=Tryz.f156) (by kernel_rfl) (by kernel_rfl) (by kernel_rfl) (by kernel_rfl) (by kernel_rfl) hh
def IW (a:OA) (b c:Nat) (d:Int) (w:World) (R:RW):Prop:=
 ∀f,f=w.alloc (.cells #[slice a b c] 88)→
 ∀g,g=f.alloc (.cells #[slice none 0 0] 88)→
 ∃h i j,g.cell? ((nb w).add 0)=some (slice h i j)∧
 Ar .i64 ((i:Int)+1) (fun k=>
 ∃l m n o,(Instr.makeSlice 86 (int .i64 0) (int .i64 k)).run Tryz.prog g= .ok (slice l m n) o∧
 ∃p q r,o.cell? ((nb w).add 0)=some (slice p q r)∧
 ∀s:KW,(∀(t x:Int) (y:OA) (z a1:Nat) (b1:World),(ac (decide (t< (q:Int)))
 (ag p (fun c1=>
 (0:Int)≤t∧t< (q:Int)∧
 ∃d1,b1.cell? (c1.add (t.toNat*1))=some (int .u32 d1)∧
 Ar .u64 ((IntKind.wrap .u64 d1:Int)*(IntKind.wrap .u64 d)) (fun e1=>
 Ar .u64 (e1+x) (fun f1=>
 ∀g1,g1=b1.alloc (.cells #[int .u32 (IntKind.wrap .u32 f1)] 153)→
 ∃h1 i1 j1 k1,(Builtin.append_ #[86,86] 86 #[slice y z a1,slice (some (nb b1)) 1 1]).run Tryz.prog g1= .ok (slice h1 i1 j1) k1∧
 (0:Int)≤32∧
 Ar .i64 (t+1) (fun l1=>
 s [int .i64 l1,int .u64 (Int.fdiv f1 (2^(min (32:Int).toNat (IntKind.bits .u64)))),slice h1 i1 j1] k1)))))
 (∀m1,m1=b1.alloc (.cells #[int .u32 (IntKind.wrap .u32 x)] 153)→
 ∃n1 o1 p1 q1,(Builtin.append_ #[86,86] 86 #[slice y z a1,slice (some (nb b1)) 1 1]).run Tryz.prog m1= .ok (slice n1 o1 p1) q1∧
 CP 93 #[slice n1 o1 p1] q1 (fun r1 s1=>
 ∃t1 u1 v1,r1= .returned (agg #[slice t1 u1 v1])∧
 (slice t1 u1 v1).oneCell'=true∧(∃u,s1.cell? (nb f)=some u)∧s1.frozen? (nb f)=false∧
 ∀x1,x1=(s1.setCell (nb f) (slice t1 u1 v1))→
 ∃y1 z1 a2,(x1.cell? (nb f)=some (slice y1 z1 a2)∧True)∧
 R (agg #[slice y1 z1 a2]) x1)))→s [int .i64 t,int .u64 x,slice y z a1] b1)→
 s [int .i64 0,int .u64 0,slice l m n] o)
theorem vk (a:OA) (b c:Nat) (d:Int) (w:World) (R:RW) (hh:IW a b c d w R):CR 157 #[agg #[slice a b c],int .u32 d] w R:=
 aC (fn:=Tryz.f157) (by kernel_rfl) (by kernel_rfl) (by kernel_rfl) (by kernel_rfl) (by kernel_rfl) hh
def H2 (a:OA) (b:Int) (w:World) (R:RW):Prop:=
 ag a (fun c=>
 ∃d,w.cell? (c.add 1)=some (pointer d)∧
 CP 38 #[pointer d,int .i64 b] w (fun f g=>
 ∃h i,f= .returned (tuple #[int .i64 h,bool i])∧
 R (int .i64 h) g))
theorem tZ (a:OA) (b:Int) (w:World) (R:RW) (hh:H2 a b w R):CR 161 #[pointer a,int .i64 b] w R:=
 aC (fn:=Tryz.f161) (by kernel_rfl) (by kernel_rfl) (by kernel_rfl) (by kernel_rfl) (by kernel_rfl) hh
def fD (b n:Nat):List Int:=if h:2≤b∧n≠0 then((n%b:Nat):Int)::fD b (n/b)else []
termination_by n
decreasing_by exact Nat.div_lt_self (by omega) (by omega)
def cQ (b:Nat):List Int→Nat
 | []=>0
 |x::r=>x.toNat+b*cQ b r
def An (b:Nat) (l:List Int):Prop:=∀x∈l,0≤x∧x< (b:Int)
section
variable {b:Nat}
theorem dP:fD b 0= []:=by unfold fD;simp
theorem jJ (hb:2≤b) {n:Nat} (h:n≠0):fD b n=((n%b:Nat):Int)::fD b (n/b):=by
 rw [fD,dif_pos ⟨hb,h⟩]
theorem CN (hb:2≤b) (n:Nat):cQ b (fD b n)=n:=by
 induction n using Nat.strongRecOn with
 |ind n ih=>
  by_cases h:n=0
  ·subst h;rw [dP];rfl
  ·rw [jJ hb h];show(((n%b:Nat):Int)).toNat+b*cQ b (fD b (n/b))=n;rw [ih _ (Nat.div_lt_self (by omega) (by omega)),Int.toNat_natCast];exact Nat.mod_add_div n b
theorem CQ (hb:2≤b) (n i:Nat):(fD b n)[i]? =if b^i≤n then some ((n/b^i%b:Nat):Int)else none:=by
 induction i generalizing n with
 |zero=>
  by_cases h:n=0
  ·subst h;rw [dP];simp
  ·rw [jJ hb h,if_pos (by simp;omega)];simp
 |succ i ih=>
  by_cases h:n=0
  ·subst h;rw [dP,if_neg (by have:=Nat.pow_pos (a:=b) (n:=i+1) (by omega);omega)];simp
  ·rw [jJ hb h,List.getElem?_cons_succ,ih];have e:b^i≤n/b↔b^(i+1)≤n:=by
    rw [Nat.le_div_iff_mul_le (by omega),Nat.pow_succ]
   rw [Nat.div_div_eq_div_mul,Nat.mul_comm b, ←Nat.pow_succ];simp only [e]
theorem iC (hb:2≤b) (n i:Nat):i< (fD b n).length↔b^i≤n:=by
 have h:=CQ hb n i;by_cases hi:b^i≤n
 ·rw [if_pos hi]at h;exact iff_of_true (List.getElem?_eq_some_iff.1 h).1 hi
 ·rw [if_neg hi]at h;exact iff_of_false (by have:=List.getElem?_eq_none_iff.1 h;omega) hi
theorem rW (hb:2≤b) {n i:Nat} (h:i< (fD b n).length):(fD b n)[i]=((n/b^i%b:Nat):Int):=by
 have e:=CQ hb n i;rw [if_pos ((iC hb n i).1 h),List.getElem?_eq_getElem h]at e;exact Option.some.inj e
theorem lx (hb:2≤b) {n i:Nat} (h:(fD b n).length≤i):n/b^i=0∧n%b^i=n:=by
 have:n<b^i:=Nat.lt_of_not_le fun hh=>by
  have:=(iC hb n i).2 hh;omega
 exact⟨Nat.div_eq_of_lt this,Nat.mod_eq_of_lt this⟩
theorem Fa (hb:2≤b) {n:Nat}:fD b n= []↔n=0:=by
 constructor
 ·intro h;have:=CN hb n;rw [h]at this;exact this.symm
 ·rintro rfl;exact dP
theorem zp (hb:2≤b):∀l:List Int,An b l→(∀x,l.getLast?=some x→x≠0)→fD b (cQ b l)=l
 | [],_,_=>dP
 |x::r,hr,hl=>by
  have hx:=hr x (by simp);have ih:fD b (cQ b r)=r:=zp hb r (fun y hy=>hr y (by simp [hy])) fun y hy=>by
   cases r with
   |nil=>cases hy
   |cons z r=>exact hl y (by rw [List.getLast?_cons_cons];exact hy)
  have hne:x.toNat+b*cQ b r≠0:=by
   intro h0;have h1:x=0:=by omega
   have h2:b*cQ b r=0:=by omega
   have h3:cQ b r=0:=by
    rcases Nat.mul_eq_zero.1 h2 with h |h
    ·omega
    ·exact h
   rw [h3,dP]at ih;rw [←ih]at hl;exact hl x rfl h1
  show fD b (x.toNat+b*cQ b r)=x::r;rw [jJ hb hne,Nat.add_mul_mod_self_left,Nat.mod_eq_of_lt (by omega),Nat.add_mul_div_left _ _ (by omega),Nat.div_eq_of_lt (by omega),Nat.zero_add,ih];congr 1;omega
theorem fu (l r:List Int):cQ b (l++r)=cQ b l+b^l.length*cQ b r:=by
 induction l with
 |nil=>simp [cQ]
 |cons x l ih=>
  rw [List.cons_append];show x.toNat+b*cQ b (l++r)=x.toNat+b*cQ b l+b^(l.length+1)*cQ b r;rw [ih,Nat.mul_add,Nat.pow_succ,Nat.mul_comm (b^l.length) b,Nat.mul_assoc];omega
theorem lP (x:Nat):cQ b [(x:Int)]=x:=by simp [cQ]
theorem pH:∀l:List Int,(∀x∈l,x=0)→cQ b l=0
 | [],_=>rfl
 |x::r,h=>by
  show x.toNat+b*cQ b r=0;rw [h x (by simp),pH r fun y hy=>h y (by simp [hy])];simp
theorem pJ (hb:2≤b) {m n:Nat} (h:m≤n):(fD b m).length≤(fD b n).length:=by
 refine Nat.le_of_not_lt fun hlt=>?_;have:=(iC hb m _).1 hlt;have:=(iC hb n (fD b n).length).2 (by omega);omega
theorem Cj (hb:2≤b) {l:List Int} (hr:An b l) {k:Nat} (hk:k≤l.length) (h0:∀(j:Nat) (hj:j<l.length),k≤j→l[j]=0) (h1:∀(hk:k-1<l.length),0<k→l[k-1]≠0):l.take k=fD b (cQ b l):=by
 have e:cQ b l=cQ b (l.take k):=by
  conv=>lhs;rw [←List.take_append_drop k l]
  rw [fu,pH (l.drop k),Nat.mul_zero,Nat.add_zero];intro x hx;obtain⟨j,hj,rfl⟩:=List.getElem_of_mem hx;rw [List.getElem_drop];rw [List.length_drop]at hj;exact h0 _ (by omega) (by omega)
 rw [e,zp hb]
 ·intro x hx;exact hr x (List.mem_of_mem_take hx)
 ·intro x hx;rw [List.getLast?_eq_getElem?,List.length_take,Nat.min_eq_left hk,List.getElem?_take]at hx;split at hx
  ·rename_i hlt;rw [List.getElem?_eq_getElem (by omega)]at hx;cases hx;exact h1 (by omega) (by omega)
  ·cases hx
theorem lS {l:List Int} (h:An b l) {x:Nat} (hx:x<b):An b (l++ [(x:Int)]):=by
 intro y hy;rcases List.mem_append.1 hy with hy |hy
 ·exact h y hy
 ·rw [List.mem_singleton.1 hy];omega
theorem C4 {L:List Int} {i x y c:Nat} (hL:L.length=i) (hI:cQ b L+c*b^i=x%b^i+y%b^i) {s:Nat} (hs:s=x/b^i%b+y/b^i%b+c):cQ b (L++ [((s%b:Nat):Int)])+s/b*b^(i+1)=x%b^(i+1)+y%b^(i+1):=by
 rw [fu,lP,hL,Nat.mod_pow_succ,Nat.mod_pow_succ];have e:s=s%b+b*(s/b):=(Nat.mod_add_div s b).symm;have e2:b^i*(s%b)+s/b*b^(i+1)=b^i*s:=by
  conv=>rhs;rw [e]
  rw [Nat.mul_add,Nat.pow_succ,Nat.mul_comm (s/b),Nat.mul_assoc]
 have e3:b^i*s=b^i*(x/b^i%b)+b^i*(y/b^i%b)+c*b^i:=by
  rw [hs,Nat.mul_add,Nat.mul_add,Nat.mul_comm (b^i) c]
 omega
theorem yG {L:List Int} {i x n c:Nat} (hL:L.length=i) (hI:cQ b L+c*b^i=x%b^i*n) {s:Nat} (hs:s=x/b^i%b*n+c):cQ b (L++ [((s%b:Nat):Int)])+s/b*b^(i+1)=x%b^(i+1)*n:=by
 rw [fu,lP,hL,Nat.mod_pow_succ];have e:s=s%b+b*(s/b):=(Nat.mod_add_div s b).symm;have e2:b^i*(s%b)+s/b*b^(i+1)=b^i*s:=by
  conv=>rhs;rw [e]
  rw [Nat.mul_add,Nat.pow_succ,Nat.mul_comm (s/b),Nat.mul_assoc]
 have e3:b^i*s=b^i*(x/b^i%b)*n+c*b^i:=by
  rw [hs,Nat.mul_add,Nat.mul_comm (b^i) c,Nat.mul_assoc]
 rw [Nat.add_mul];omega
theorem D9 (x i:Nat):x/b^i=b*(x/b^(i+1))+x/b^i%b:=by
 rw [Nat.pow_succ, ←Nat.div_div_eq_div_mul];exact(Nat.div_add_mod (x/b^i) b).symm
theorem A_ (hb:2≤b) {x n i rest q:Nat} (hn:0<n) (hI:q*n+rest=x/b^(i+1)) (hr:rest<n) {s:Nat} (hs:s=rest*b+x/b^i%b):(b*q+s/n)*n+s%n=x/b^i∧s%n<n∧s/n<b:=by
 refine⟨?_,Nat.mod_lt _ hn,?_⟩
 ·rw [D9 x i, ←hI,Nat.add_mul,Nat.add_assoc,Nat.mul_comm (s/n) n,Nat.div_add_mod,hs,Nat.mul_add,Nat.mul_assoc,Nat.mul_comm rest b];omega
 ·rw [Nat.div_lt_iff_lt_mul hn,hs];have h1:=Nat.mod_lt (x/b^i) (show 0<b by omega);have h2:rest*b+b≤n*b:=by
   rw [←Nat.succ_mul];exact Nat.mul_le_mul_right _ hr
  rw [Nat.mul_comm b n];omega
end
abbrev bS:TypeId:=88
abbrev dG:TypeId:=153
abbrev qE:TypeId:=86
theorem rx:Tryz.prog.underlying qE=some (.slice dG):=by kernel_rfl
theorem sj:(Tryz.prog.info? dG).map (fun i=>(i.zero,i.size,i.bytes))=some (some (.int .u32 0),1,4):=by kernel_rfl
def d7 (n:Int):List Value:=[.int .u32 n]
theorem oW:zO d7 1 qE dG 4:=⟨fun _=>rfl,by decide,fun x u hu=>by rw [List.mem_singleton.1 hu];rfl,rx,_,sj,rfl⟩
theorem fp:2≤4294967296:=by decide
def rn (e:TypeId) (w:World) (l:Sl):Prop:=∀p,l.a=some p→∃c fz,w.heap[p.block]? =some (.cells c e fz)
theorem rn.on {e:TypeId} {w w':World} {l:Sl} (h:rn e w l) (hb:Below w.heap.size w w'):rn e w' l:=fun p hp=>by
 obtain⟨c,fz,hc⟩:=h p hp;exact⟨c,fz,ai hb hc⟩
theorem jF {w:World} {B:Nat} {e:TypeId} {sz:Nat} {l:Sl} {xs:List Value} (h:w.ownsRow B e sz l.v l.n xs):rn e w l:=by
 intro p hp;obtain⟨la,ln,lc⟩:=l;rcases h.2 with⟨hv,_⟩ |⟨g,cap,cur,hv,_,hg,_⟩
 ·cases hv;cases hp
 ·cases hv;cases hp;exact⟨_,_,hg⟩
structure bf (w:World) (l:Sl) (n:Nat):Prop extends co d7 1 w l (fD 4294967296 n)where
 ty:rn dG w l
theorem bf.on {w w':World} {l:Sl} {n:Nat} (h:bf w l n) (hb:Below w.heap.size w w'):bf w' l n:=⟨co.on h.toco hb,h.ty.on hb⟩
theorem bf.keep {w w':World} {l:Sl} {n:Nat} (h:bf w l n) (hk:∀p c fz,l.a=some p→w.heap[p.block]? =some (.cells c dG fz)→w'.heap[p.block]? =w.heap[p.block]?) (hz:w.heap.size≤w'.heap.size):bf w' l n:=by
 refine⟨⟨h.n,fun j x hj=>?_,h.k⟩,fun p hp=>?_⟩
 ·obtain⟨p,hp,hlt,hc⟩:=h.r j x hj;obtain⟨c,fz,hb⟩:=h.ty p hp;refine⟨p,hp,Nat.lt_of_lt_of_le hlt hz,fun k v hv=>?_⟩;rw [←hc k v hv];unfold World.cell?;rw [ay,ay,hk p c fz hp hb]
 ·obtain⟨c,fz,hb⟩:=h.ty p hp;exact⟨c,fz,(hk p c fz hp hb).trans hb⟩
theorem bf.put {w w':World} {l s:Sl} {n b:Nat} {T:TypeId} {fz:Nat×Nat} (h:bf w l n) (hb:w.heap[b]? =some (.cells #[s.v] T fz)) (hT:T≠dG) (hne:∀j,j≠b→w'.heap[j]? =w.heap[j]?) (hz:w.heap.size≤w'.heap.size):bf w' l n:=
 h.keep (fun p c fz _ hc=>hne _ fun e=>by
  rw [e,hb]at hc;cases hc;exact hT rfl) hz
theorem bR {q:World} {b:Nat} {x s:Sl} {K:World→Prop} (h:q.heap[b]? =some (.cells #[x.v] bS (0,0))) (hk:∀q',q'.heap[b]? =some (.cells #[s.v] bS (0,0))→(∀l n,bf q l n→bf q' l n)→(∀B w0,B≤b→Below B w0 q→Below B w0 q')→(∀j,j≠b→q'.heap[j]? =q.heap[j]?)→q'.heap.size=q.heap.size→K q'):
  s.v.oneCell'=true∧(∃u,q.cell? ⟨b,0,none⟩=some u)∧q.frozen? ⟨b,0,none⟩=false∧∀q',q'=q.setCell ⟨b,0,none⟩ s.v→K q':=
 d_ (cw h [s.v] rfl (fun v hv=>by rw [List.mem_singleton.1 hv];rfl) fun q' h1 h2 h3 h4=>hk q' h1 (fun l n hn=>hn.put h (by decide) h2 (by omega)) h4 h2 h3)
theorem aO {w:World} {b:Nat} {x:Sl} {T:TypeId} {fz:Nat×Nat} (h:w.heap[b]? =some (.cells #[x.v] T fz)):w.cell? ⟨b,0,none⟩=some (.slice x.a x.n x.c)∧True:=⟨aH h,trivial⟩
theorem dm {w:World} {b:Nat} {x:Sl} {T:TypeId} {fz:Nat×Nat} (h:w.heap[b]? =some (.cells #[x.v] T fz)):w.cell? ((⟨b,0,none⟩:Addr).add 0)=some (.slice x.a x.n x.c):=by rw [aj _ _ h];rfl
theorem Rw.head {α:Type} {enc:α→List Value} {sz:Nat} {w:World} {a:Option Addr} {xs:List α} (h:Rw enc sz w a xs) (n:Nat):Rw enc sz w (bN a 0 n sz) (xs.take n):=by
 intro j x hj;have hlt:j<n:=by
  have:=(List.getElem?_eq_some_iff.1 hj).1;rw [List.length_take]at this;omega
 obtain⟨p,rfl,hp,hc⟩:=h.take n j x hj;unfold bN;rw [if_neg (by omega)];refine⟨p.add (0*sz),rfl,by rw [ay];exact hp,fun k v hk=>?_⟩;rw [Addr.add_add p,Nat.zero_mul,Nat.zero_add];exact hc k v hk
theorem Ar.u64 {z:Int} {F:Int→Prop} (n:Nat) (hz:z=(n:Int)) (hn:n<18446744073709551616) (h:F (n:Int)):Ar .u64 z F:=by
 subst hz;exact Ar.ok (k:=.u64) (by show(0:Int)≤_;omega) (by show _≤(18446744073709551615:Int);omega) h
theorem dM (x:Nat):IntKind.wrap .u32 (x:Int)=((x%4294967296:Nat):Int):=by
 simp [IntKind.wrap,IntKind.bits,IntKind.signed]
theorem dn {x:Nat} (h:x<18446744073709551616):IntKind.wrap .u64 (x:Int)=(x:Int):=dK (by show(0:Int)≤_;omega) (by show _≤(18446744073709551615:Int);omega)
theorem Hp (x:Nat):Int.fdiv (x:Int) (2^(min (32:Int).toNat (IntKind.bits .u64)))=((x/4294967296:Nat):Int):=by
 rw [show(2:Int)^(min (32:Int).toNat (IntKind.bits .u64))=((4294967296:Nat):Int) by decide,Int.fdiv_eq_ediv_of_nonneg _ (by omega)];rfl
theorem nY (w:World) (c:Nat) (hc:c≤1000000):∃w1,(Instr.makeSlice qE (.int .i64 0) (.int .i64 (c:Int))).run Tryz.prog w= .ok (.slice (some (nb w)) 0 c) w1∧w1.ownsRow w.heap.size dG 1 (.slice (some (nb w)) 0 c) 0 (([]:List Int).flatMap d7)∧Below w.heap.size w w1:=by
 obtain⟨i,hi,hz,hs,hb⟩:=info_parts sj;have:=Go.run_make (P:=Tryz.prog) w qE dG i (.int .u32 0) rx hi hz .i64 .i64 0 (c:Int) (by omega) (by omega) (by rw [hb];omega) (by omega);refine⟨_,this,?_,ah _ _⟩;refine⟨rfl,.inr ⟨w.heap.size,c,_,rfl,Nat.le_refl _,ao _ _,Nat.zero_le _,by unfold maxLen;omega,?_,by simp⟩⟩;rw [size_madeCells,hs];simp
theorem fQ (w:World) (l:Sl) (xs:List Int) (h:co d7 1 w l xs) (ht:rn dG w l) (hc:l.n≤l.c) (hr:An 4294967296 xs) (hl:xs.length≤1000000):
  CP 93 #[l.v] w fun e w'=>∃r:Sl,e= .returned (.agg #[r.v])∧bf w' r (cQ 4294967296 xs)∧Below w.heap.size w w':=by
 refine aJ (yn l.a l.n l.c w) ?_;intro w1 hw1;have b1:Below w.heap.size w w1:=by subst hw1;exact ah _ _
 have x1:w1.heap[w.heap.size]? =some (.cells #[bW.v] bS (0,0)):=by subst hw1;exact ao _ _
 have h1:=co.on h b1;have hn:=h.n;have out:∀n,n≤xs.length→(∀(j:Nat) (hj:j<xs.length),n≤j→xs[j]=0)→(∀(hk:n-1<xs.length),0<n→xs[n-1]≠0)→bf w1 ⟨bN l.a 0 n 1,n-0,n-0⟩ (cQ 4294967296 xs):=by
  intro n hn h0 h2;have e:=Cj fp hr hn h0 h2;refine⟨?_,fun p hp=>?_⟩;rotate_left
  ·unfold bN at hp;by_cases hz:n=0
   ·rw [if_pos hz]at hp;exact ht.on b1 p hp
   ·rw [if_neg hz]at hp;obtain⟨p',hp',rfl⟩:=Option.map_eq_some_iff.1 hp;rw [ay];exact ht.on b1 p' hp'
  rw [←e];refine⟨by rw [List.length_take];show n-0=_;omega,h1.r.head n,?_⟩;unfold bN;by_cases hz:n=0
  ·subst hz;rw [if_pos rfl];cases l.a with
   |none=>exact .inl rfl
   |some p=>exact .inr ⟨p,rfl⟩
  ·rw [if_neg hz];obtain⟨p,hp,_⟩:=be h1.r (show 0<xs.length by omega) rfl;rw [hp];exact .inr ⟨_,rfl⟩
 intro I hI;have key:∀n,n≤xs.length→(∀(j:Nat) (hj:j<xs.length),n≤j→xs[j]=0)→I [.int .i64 (n:Int)] w1:=by
  intro n;induction n with
  |zero=>
   intro _ h0;refine hI _ w1 (ac.no rfl ⟨by omega,by omega,by omega,by omega,trivial,bR (s:=⟨bN l.a 0 0 1,0-0,0-0⟩) x1 fun q' hx hN hB _ _=>⟨_,_,_,aO hx,⟨bN l.a 0 0 1,0-0,0-0⟩,rfl,hN _ _ (out 0 (Nat.zero_le _) h0 (fun _ h=>absurd h (by decide))),hB _ _ (Nat.le_refl _) b1⟩⟩)
  |succ n ih=>
   intro hle h0;obtain⟨p,hp,c0⟩:=be h1.r (show n<xs.length by omega) rfl;refine hI _ w1 (ac.yes (decide_eq_true (by omega)) (Ar.nat n (by omega) (by omega) (ag.mk p hp ⟨by omega,by omega,_,c0,ac.mk (fun he=>?_) fun he=>?_⟩)))
   ·have he:xs[n]=0:=by simpa using he
    refine Ar.nat n (by omega) (by omega) (ih (by omega) fun j hj hle2=>?_);by_cases e:j=n
    ·subst e;exact he
    ·exact h0 j hj (by omega)
   ·have he:xs[n]≠0:=by simpa using he
    exact⟨by omega,by omega,by omega,by omega,trivial,bR (s:=⟨bN l.a 0 (n+1) 1,n+1-0,n+1-0⟩) x1 fun q' hx hN hB _ _=>⟨_,_,_,aO hx,⟨bN l.a 0 (n+1) 1,n+1-0,n+1-0⟩,rfl,hN _ _ (out (n+1) hle h0 (fun _ _=>he)),hB _ _ (Nat.le_refl _) b1⟩⟩
 rw [hn];exact key xs.length (Nat.le_refl _) fun j hj hle=>absurd hj (by omega)
theorem vy (w:World) (n:Nat) (hn:n<18446744073709551616):
  CP 53 #[.int .u64 (n:Int)] w fun e w'=>∃r:Sl,e= .returned (.agg #[r.v])∧bf w' r n∧Below w.heap.size w w':=by
 refine aJ (xE (n:Int) w) ?_;intro w1 hw1;have b1:Below w.heap.size w w1:=by subst hw1;exact ah _ _
 have x1:w1.heap[w.heap.size]? =some (.cells #[bW.v] bS (0,0)):=by subst hw1;exact ao _ _
 refine⟨by decide,?_⟩;intro w2 hw2;rw [Hp,dM,dM]at hw2;have b2:Below w1.heap.size w1 w2:=by subst hw2;exact ah _ _
 have l2:w2.heap[w1.heap.size]? =some (.cells #[.int .u32 ((n%4294967296:Nat):Int),.int .u32 ((n/4294967296%4294967296:Nat):Int)] dG (0,0)):=by subst hw2;exact ao _ _
 have hls:co d7 1 w2 ⟨some (nb w1),2,2⟩ [((n%4294967296:Nat):Int),((n/4294967296%4294967296:Nat):Int)]:=by
  refine⟨rfl,fun j x hj=>?_,.inr ⟨_,rfl⟩⟩;refine⟨nb w1,rfl,(Array.getElem?_eq_some_iff.1 l2).1,fun k v hk=>?_⟩
  match k,hk with
  |0,hk=>
   cases hk;rw [aw,Nat.mul_one,aj _ _ l2]
   match j,hj with
   |0,hj=>cases hj;rfl
   |1,hj=>cases hj;rfl
 have hin:An 4294967296 [((n%4294967296:Nat):Int),((n/4294967296%4294967296:Nat):Int)]:=by
  intro x hx;simp only [List.mem_cons,List.not_mem_nil,or_false]at hx;rcases hx with rfl |rfl<;>omega
 have hv:cQ 4294967296 [((n%4294967296:Nat):Int),((n/4294967296%4294967296:Nat):Int)]=n:=by
  simp only [cQ,Int.toNat_natCast];omega
 refine(fQ w2 ⟨some (nb w1),2,2⟩ _ hls (fun p hp=>by cases hp;exact⟨_,_,l2⟩) (Nat.le_refl _) hin (by simp)).mono ?_;rintro e w3 ⟨r,rfl,hN,b3⟩;rw [hv]at hN;have b23:=ae b2 b3;refine⟨r.a,r.n,r.c,rfl,bR (s:=r) (ai b23 x1) fun q' hx hN' hB _ _=>⟨_,_,_,aO hx,r,rfl,hN' _ _ hN,hB _ _ (Nat.le_refl _) (ae b1 b23)⟩⟩
theorem eH (w:World) (l:Sl) (n:Nat) (h:bf w l n):
  CP 43 #[.agg #[l.v]] w fun e w'=>e= .returned (.bool (decide (n=0)))∧Below w.heap.size w w':=by
 refine aJ (xc l.a l.n l.c w) ?_;intro w1 hw1;have b1:Below w.heap.size w w1:=by subst hw1;exact ah _ _
 have x1:w1.heap[w.heap.size]? =some (.cells #[l.v] bS (0,0)):=by subst hw1;exact ao _ _
 refine⟨_,_,_,dm x1,?_,b1⟩;have hn:=h.n;congr 2;rw [Bool.eq_iff_iff,beq_iff_eq,decide_eq_true_eq, ←Fa fp, ←List.length_eq_zero_iff, ←hn];omega
theorem oH (w:World) (l:Sl) (n:Nat) (h:bf w l n) (i:Nat):
  CP 153 #[.agg #[l.v],.int .i64 (i:Int)] w fun e w'=>e= .returned (.int .u32 ((n/4294967296^i%4294967296:Nat):Int))∧Below w.heap.size w w':=by
 refine aJ (wl l.a l.n l.c (i:Int) w) ?_;intro w1 hw1;have b1:Below w.heap.size w w1:=by subst hw1;exact ah _ _
 have x1:w1.heap[w.heap.size]? =some (.cells #[l.v] bS (0,0)):=by subst hw1;exact ao _ _
 have hn:=h.n;refine⟨_,_,_,dm x1,ac.mk (fun h0=>?_) fun h0=>?_⟩
 ·have h0:=of_decide_eq_true h0;rw [(lx fp (n:=n) (i:=i) (by omega)).1];exact⟨rfl,b1⟩
 ·have h0:=of_decide_eq_false h0;have hlt:i< (fD 4294967296 n).length:=by omega
  obtain⟨p,hp,c0⟩:=be (bf.on h b1).r hlt rfl;rw [rW fp hlt]at c0;exact⟨_,_,_,dm x1,ag.mk p hp ⟨by omega,by omega,_,c0,rfl,b1⟩⟩
set_option maxHeartbeats 1000000 in
theorem rU (w:World) (la lb:Sl) (a b:Nat) (ha:bf w la a) (hb:bf w lb b) (h1:(fD 4294967296 a).length≤100000) (h2:(fD 4294967296 b).length≤100000):
  CP 82 #[.agg #[la.v],.agg #[lb.v]] w fun e w'=>∃r:Sl,e= .returned (.agg #[r.v])∧bf w' r (a+b)∧Below w.heap.size w w':=by
 refine aJ (xP la.a la.n la.c lb.a lb.n lb.c w) ?_;intro w1 hw1 w2 hw2 w3 hw3;have b1:Below w.heap.size w w1:=by subst hw1;exact ah _ _
 have b2:Below w1.heap.size w1 w2:=by subst hw2;exact ah _ _
 have b3:Below w2.heap.size w2 w3:=by subst hw3;exact ah _ _
 have z1:w1.heap.size=w.heap.size+1:=by subst hw1;exact ar _ _
 have z2:w2.heap.size=w1.heap.size+1:=by subst hw2;exact ar _ _
 have b13:=ae b2 b3;have b03:=ae b1 b13;have x1:w3.heap[w.heap.size]? =some (.cells #[la.v] bS (0,0)):=ai b13 (by subst hw1;exact ao _ _);have x2:w3.heap[w1.heap.size]? =some (.cells #[lb.v] bS (0,0)):=ai b3 (by subst hw2;exact ao _ _);have x3:w3.heap[w2.heap.size]? =some (.cells #[bW.v] bS (0,0)):=by subst hw3;exact ao _ _
 have hna:=ha.n;have hnb:=hb.n;obtain⟨N,hN⟩:∃N:Nat,(if((lb.n:Nat):Int)>((la.n:Nat):Int)then((lb.n:Nat):Int)else((la.n:Nat):Int))=(N:Int)∧la.n≤N∧lb.n≤N∧N≤100000:=by
  by_cases hh:((lb.n:Nat):Int)>((la.n:Nat):Int)
  ·exact⟨lb.n,if_pos hh,by omega,by omega,by omega⟩
  ·exact⟨la.n,if_neg hh,by omega,by omega,by omega⟩
 obtain⟨hN,n1,n2,n3⟩:=hN;obtain⟨w5,e5,o5,b5⟩:=nY w3 (N+1) (by omega);refine⟨_,_,_,dm x1,_,_,_,dm x2,(N:Int),w3,by rw [←hN];exact p_ _ _ _ _ _,Ar.nat (N+1) rfl (by omega) ⟨_,_,_,w5,e5,?_⟩⟩;intro I hI;have key:=bC (α:=Nat×List Int×Sl×World) N (fun i y=>y.2.1.length=i∧An 4294967296 y.2.1∧cQ 4294967296 y.2.1+y.1*4294967296^i=a%4294967296^i+b%4294967296^i∧y.1≤1∧y.2.2.2.ownsRow w3.heap.size dG 1 y.2.2.1.v y.2.2.1.n (y.2.1.flatMap d7)∧Below w3.heap.size w3 y.2.2.2) (fun i y=>I [.int .i64 (i:Int),.int .u64 (y.1:Int),y.2.2.1.v] y.2.2.2) (0,[],⟨some (nb w3),0,N+1⟩,w5) ⟨rfl,fun x hx=>(by cases hx),by simp [cQ,Nat.mod_one],Nat.zero_le _,o5,b5⟩ ?_ ?_
 ·exact key
 ·rintro i hi ih ⟨c,L,f,q⟩ ⟨hL,hin,hv,hc,ho,hq⟩;change L.length=i at hL;change An 4294967296 L at hin;change cQ 4294967296 L+c*4294967296^i=a%4294967296^i+b%4294967296^i at hv;change c≤1 at hc;change q.ownsRow w3.heap.size dG 1 f.v f.n (L.flatMap d7)at ho;change Below w3.heap.size w3 q at hq;have hfn:f.n=L.length:=(Rw.of_own ho (fun _=>rfl) (by decide)).2;refine hI _ _ f.a f.n f.c q (ac.yes (decide_eq_true (by omega)) ?_);intro w7 hw7;have b7:Below q.heap.size q w7:=by subst hw7;exact aP q
  have hq7:=ae hq b7;refine⟨_,_,_,aO (ai hq7 x1),_,_,_,aO (ai hq7 x2),?_⟩;have hb37:=ae b03 hq7;refine(oH w7 la a (ha.on hb37) i).mono ?_;rintro e w8 ⟨rfl,b8⟩;have hq8:=ae hq7 b8;refine⟨_,rfl,aO (ai hq8 x2),(oH w8 lb b (hb.on (ae b03 hq8)) i).mono ?_⟩;rintro e w9 ⟨rfl,b9⟩;have hq9:=ae hq8 b9;obtain⟨s,hs⟩:∃s,s=a/4294967296^i%4294967296+b/4294967296^i%4294967296+c:=⟨_,rfl⟩;have m1:=Nat.mod_lt (a/4294967296^i) (show 0<4294967296 by decide);have m2:=Nat.mod_lt (b/4294967296^i) (show 0<4294967296 by decide);refine⟨_,rfl,Ar.u64 (a/4294967296^i%4294967296+b/4294967296^i%4294967296) (by rw [dn (by omega),dn (by omega)];omega) (by omega) (Ar.u64 s (by omega) (by omega) ?_)⟩;intro w10 hw10;rw [dM]at hw10;obtain⟨f',w11,e1,e2,e3,e4,_⟩:=oW.push (aG (aG (aG ho b7) b8) b9) ((s%4294967296:Nat):Int) hw10 rfl hq9.size (by omega) (by decide);refine⟨f'.a,f'.n,f'.c,w11,e2,by decide,Ar.nat (i+1) rfl (by omega) ?_⟩;rw [Hp];exact ih (s/4294967296,L++ [((s%4294967296:Nat):Int)],f',w11) ⟨by rw [List.length_append];show _+1=_;omega,lS hin (Nat.mod_lt _ (by decide)),C4 hL hv hs,by show s/4294967296≤1;omega,e3,e4 _ hq9⟩
 ·rintro⟨c,L,f,q⟩ ⟨hL,hin,hv,hc,ho,hq⟩;change L.length=N at hL;change An 4294967296 L at hin;change cQ 4294967296 L+c*4294967296^N=a%4294967296^N+b%4294967296^N at hv;change c≤1 at hc;change q.ownsRow w3.heap.size dG 1 f.v f.n (L.flatMap d7)at ho;change Below w3.heap.size w3 q at hq;have hfn:f.n=L.length:=(Rw.of_own ho (fun _=>rfl) (by decide)).2;refine hI _ _ f.a f.n f.c q (ac.no (decide_eq_false (by omega)) ?_);intro w12 hw12;rw [dM,Nat.mod_eq_of_lt (by omega)]at hw12;obtain⟨f',w13,e1,e2,e3,e4,_⟩:=oW.push ho (c:Int) hw12 rfl hq.size (by omega) (by decide);have hv2:cQ 4294967296 (L++ [(c:Int)])=a+b:=by
   rw [fu,lP,hL,Nat.mul_comm,hv,(lx fp (n:=a) (i:=N) (by omega)).2,(lx fp (n:=b) (i:=N) (by omega)).2]
  have hB13:=e4 _ hq;refine⟨f'.a,f'.n,f'.c,w13,e2,(fQ w13 f' _ (co.of_own oW e3) (jF e3) (zf e3) (lS hin (by omega)) (by rw [List.length_append];show _+1≤_;omega)).mono ?_⟩;rintro e w14 ⟨r,rfl,hR,b14⟩;rw [hv2]at hR;have hB14:=ae hB13 b14;exact⟨r.a,r.n,r.c,rfl,bR (s:=r) (ai hB14 x3) fun q' hx hN' hB _ _=>⟨_,_,_,aO hx,r,rfl,hN' _ _ hR,hB _ _ (by omega) (ae b03 hB14)⟩⟩
theorem nf (w:World) (la lb:Sl) (a b:Nat) (ha:bf w la a) (hb:bf w lb b) (h1:(fD 4294967296 a).length≤100000) (h2:(fD 4294967296 b).length≤100000) (p:Addr) (C:Nat) (hp:w.cell? p=some lb.v) (hlt:p.block<w.heap.size):
  CP 40 #[.agg #[la.v],.slice (some p) 1 C] w fun e w'=>∃r:Sl,e= .returned (.agg #[r.v])∧bf w' r (a+b)∧Below w.heap.size w w':=by
 refine aJ (yo la.a la.n la.c (some p) 1 C w) ?_;intro w1 hw1 w2 hw2;have b1:Below w.heap.size w w1:=by subst hw1;exact ah _ _
 have b2:Below w1.heap.size w1 w2:=by subst hw2;exact ah _ _
 have z1:w1.heap.size=w.heap.size+1:=by subst hw1;exact ar _ _
 have z2:w2.heap.size=w1.heap.size+1:=by subst hw2;exact ar _ _
 have b02:=ae b1 b2;have x1:w2.heap[w.heap.size]? =some (.cells #[la.v] bS (0,0)):=ai b2 (by subst hw1;exact ao _ _);have x2:w2.heap[w1.heap.size]? =some (.cells #[bW.v] bS (0,0)):=by subst hw2;exact ao _ _
 have hcell:∀q,Below w.heap.size w q→q.cell? (p.add ((0:Int).toNat*1))=some lb.v:=by
  intro q hq;show q.cell? (p.add 0)=_;rw [aw, ←hp];unfold World.cell?;rw [hq.block _ hlt]
 intro I hI;refine hI 0 w2 (ac.yes rfl (ag.mk p rfl ⟨by omega,by omega,_,_,_,⟨hcell w2 b02,trivial⟩,?_⟩));intro w4 hw4;have b4:Below w2.heap.size w2 w4:=by subst hw4;exact ah _ _
 have x4:w4.heap[w2.heap.size]? =some (.cells #[bW.v] bS (0,0)):=by subst hw4;exact ao _ _
 refine bR (s:=lb) x4 fun w5 hx5 hN5 hB5 hs5 hz5=>?_;have b5:Below w2.heap.size w2 w5:=hB5 _ _ (Nat.le_refl _) b4;have hb5:=ae b02 b5;have y1:=ai b5 x1;refine⟨_,_,_,aO y1,_,_,_,aO hx5,(rU w5 la lb a b (ha.on hb5) (hb.on hb5) h1 h2).mono ?_⟩;rintro e w6 ⟨r,rfl,hR,b6⟩;have b26:=ae b5 b6;refine⟨r.a,r.n,r.c,rfl,bR (s:=r) (ai b26 x1) fun w7 hx7 hN7 hB7 hs7 hz7=>Ar.nat 1 rfl (by decide) ?_⟩;have b7:Below w.heap.size w w7:=hB7 _ _ (Nat.le_refl _) (ae b02 b26);have y2:w7.heap[w1.heap.size]? =some (.cells #[bW.v] bS (0,0)):=(hs7 _ (by omega)).trans (ai b26 x2);refine hI 1 w7 (ac.no rfl ⟨_,_,_,aO hx7,bR (s:=r) y2 fun w8 hx8 hN8 hB8 hs8 hz8=>⟨_,_,_,aO hx8,r,rfl,hN8 _ _ (hN7 _ _ hR),hB8 _ _ (by omega) b7⟩⟩)
set_option maxHeartbeats 1000000 in
theorem qo (w:World) (la:Sl) (a m:Nat) (ha:bf w la a) (hm:m<4294967296) (h1:(fD 4294967296 a).length≤100000):
  CP 157 #[.agg #[la.v],.int .u32 (m:Int)] w fun e w'=>∃r:Sl,e= .returned (.agg #[r.v])∧bf w' r (a*m)∧Below w.heap.size w w':=by
 refine aJ (vk la.a la.n la.c (m:Int) w) ?_;intro w1 hw1 w2 hw2;have b1:Below w.heap.size w w1:=by subst hw1;exact ah _ _
 have b2:Below w1.heap.size w1 w2:=by subst hw2;exact ah _ _
 have z1:w1.heap.size=w.heap.size+1:=by subst hw1;exact ar _ _
 have b02:=ae b1 b2;have x1:w2.heap[w.heap.size]? =some (.cells #[la.v] bS (0,0)):=ai b2 (by subst hw1;exact ao _ _);have x2:w2.heap[w1.heap.size]? =some (.cells #[bW.v] bS (0,0)):=by subst hw2;exact ao _ _
 have hna:=ha.n;obtain⟨N,hN⟩:∃N,N=(fD 4294967296 a).length:=⟨_,rfl⟩;rw [←hN]at hna h1;obtain⟨w3,e3,o3,b3⟩:=nY w2 (N+1) (by omega);refine⟨_,_,_,dm x1,Ar.nat (N+1) (by rw [hna];rfl) (by omega) ⟨_,_,_,w3,e3,_,_,_,dm (ai b3 x1),?_⟩⟩;rw [hna];intro I hI;have key:=bC (α:=Nat×List Int×Sl×World) N (fun i y=>y.2.1.length=i∧An 4294967296 y.2.1∧cQ 4294967296 y.2.1+y.1*4294967296^i=a%4294967296^i*m∧y.1<4294967296∧y.2.2.2.ownsRow w2.heap.size dG 1 y.2.2.1.v y.2.2.1.n (y.2.1.flatMap d7)∧Below w2.heap.size w2 y.2.2.2) (fun i y=>I [.int .i64 (i:Int),.int .u64 (y.1:Int),y.2.2.1.v] y.2.2.2) (0,[],⟨some (nb w2),0,N+1⟩,w3) ⟨rfl,fun x hx=>(by cases hx),by simp [cQ,Nat.mod_one],(by show 0<4294967296;decide),o3,b3⟩ ?_ ?_
 ·exact key
 ·rintro i hi ih ⟨c,L,f,q⟩ ⟨hL,hin,hv,hc,ho,hq⟩;change L.length=i at hL;change An 4294967296 L at hin;change cQ 4294967296 L+c*4294967296^i=a%4294967296^i*m at hv;change c<4294967296 at hc;change q.ownsRow w2.heap.size dG 1 f.v f.n (L.flatMap d7)at ho;change Below w2.heap.size w2 q at hq;have hfn:f.n=L.length:=(Rw.of_own ho (fun _=>rfl) (by decide)).2;have hlt:i< (fD 4294967296 a).length:=by omega
  obtain⟨p,hp,c0⟩:=be (bf.on ha (ae b02 hq)).r hlt rfl;rw [rW fp hlt]at c0;obtain⟨x,hx⟩:∃x,x=a/4294967296^i%4294967296:=⟨_,rfl⟩;rw [←hx]at c0;have m1:x<4294967296:=by rw [hx];exact Nat.mod_lt _ (by decide)
  obtain⟨s,hs⟩:∃s,s=x*m+c:=⟨_,rfl⟩;have hxm:x*m≤4294967295*4294967295:=Nat.mul_le_mul (by omega) (by omega);refine hI _ _ f.a f.n f.c q (ac.yes (decide_eq_true (by omega)) (ag.mk p hp ⟨by omega,by omega,_,c0,Ar.u64 (x*m) (by rw [dn (by omega),dn (by omega),Int.natCast_mul]) (by omega) (Ar.u64 s (by omega) (by omega) ?_)⟩));intro w5 hw5;rw [dM]at hw5;obtain⟨f',w6,e1,e2,e3,e4,_⟩:=oW.push ho ((s%4294967296:Nat):Int) hw5 rfl hq.size (by omega) (by decide);refine⟨f'.a,f'.n,f'.c,w6,e2,by decide,Ar.nat (i+1) rfl (by omega) ?_⟩;rw [Hp];exact ih (s/4294967296,L++ [((s%4294967296:Nat):Int)],f',w6) ⟨by rw [List.length_append];show _+1=_;omega,lS hin (Nat.mod_lt _ (by decide)),yG hL hv (by rw [hs,hx]),by show s/4294967296<_;omega,e3,e4 _ hq⟩
 ·rintro⟨c,L,f,q⟩ ⟨hL,hin,hv,hc,ho,hq⟩;change L.length=N at hL;change An 4294967296 L at hin;change cQ 4294967296 L+c*4294967296^N=a%4294967296^N*m at hv;change c<4294967296 at hc;change q.ownsRow w2.heap.size dG 1 f.v f.n (L.flatMap d7)at ho;change Below w2.heap.size w2 q at hq;have hfn:f.n=L.length:=(Rw.of_own ho (fun _=>rfl) (by decide)).2;refine hI _ _ f.a f.n f.c q (ac.no (decide_eq_false (by omega)) ?_);intro w7 hw7;rw [dM,Nat.mod_eq_of_lt hc]at hw7;obtain⟨f',w8,e1,e2,e3,e4,_⟩:=oW.push ho (c:Int) hw7 rfl hq.size (by omega) (by decide);have hv2:cQ 4294967296 (L++ [(c:Int)])=a*m:=by
   rw [fu,lP,hL,Nat.mul_comm (4294967296^N),hv,(lx fp (n:=a) (i:=N) (by omega)).2]
  have hB8:=e4 _ hq;refine⟨f'.a,f'.n,f'.c,w8,e2,(fQ w8 f' _ (co.of_own oW e3) (jF e3) (zf e3) (lS hin hc) (by rw [List.length_append];show _+1≤_;omega)).mono ?_⟩;rintro e w9 ⟨r,rfl,hR,b9⟩;rw [hv2]at hR;have hB9:=ae hB8 b9;exact⟨r.a,r.n,r.c,rfl,bR (s:=r) (ai hB9 x2) fun q' hx hN' hB _ _=>⟨_,_,_,aO hx,r,rfl,hN' _ _ hR,hB _ _ (by omega) (ae b02 hB9)⟩⟩
section
variable {κ:Type} [DecidableEq κ] (k:Nat→κ)
def aE:Nat→List Nat
 |0=>[]
 |i+1=>match(aE i).findIdx? (fun a=>decide (k a=k i))with
  |some _=>aE i
  |none=>aE i++ [i]
def clsOf (i:Nat):Nat:=((aE k i).findIdx? (fun a=>decide (k a=k i))).getD (aE k i).length
variable {k}
theorem tQ (i:Nat):aE k (i+1)=match(aE k i).findIdx? (fun a=>decide (k a=k i))with
  |some _=>aE k i
  |none=>aE k i++ [i]:=rfl
theorem hD:∀ {n:Nat} {a:Nat},a∈aE k n→a<n
 |0,a,h=>by cases h
 |n+1,a,h=>by
  unfold aE at h;split at h
  ·have:=hD h;omega
  ·rcases List.mem_append.1 h with h |h
   ·have:=hD h;omega
   ·rw [List.mem_singleton.1 h];omega
theorem oD:∀ {n:Nat} (d:Nat),∃t,aE k (n+d)=aE k n++t
 |n,0=>⟨[],by simp⟩
 |n,d+1=>by
  obtain⟨t,h⟩:=oD (n:=n) d;rw [←Nat.add_assoc,aE];split
  ·exact⟨t,h⟩
  ·exact⟨t++ [n+d],by rw [h,List.append_assoc]⟩
theorem iB:∀ {n:Nat} (c c':Nat) (h:c< (aE k n).length) (h':c'< (aE k n).length),k (aE k n)[c]=k (aE k n)[c']→c=c'
 |0,c,c',h,_,_=>absurd h (Nat.not_lt_zero c)
 |n+1,c,c',h,h',e=>by
  have key:(aE k (n+1)=aE k n)∨(aE k (n+1)=aE k n++ [n]∧∀a∈aE k n,k a≠k n):=by
   rw [tQ];split
   ·exact .inl rfl
   ·next hh=>
    refine .inr ⟨rfl,fun a ha=>?_⟩;have:=List.findIdx?_eq_none_iff.1 hh a ha;simpa using this
  rcases key with hk |⟨hk,hn⟩
  ·simp only [hk]at h h' e;exact iB c c' h h' e
  ·simp only [hk]at h h' e;rw [List.length_append,List.length_singleton]at h h';by_cases h1:c< (aE k n).length
   ·by_cases h2:c'< (aE k n).length
    ·rw [List.getElem_append_left h1,List.getElem_append_left h2]at e;exact iB c c' h1 h2 e
    ·have:c'=(aE k n).length:=by omega
     subst this;rw [List.getElem_append_left h1,List.getElem_append_right (Nat.le_refl _)]at e;simp only [Nat.sub_self,List.getElem_singleton]at e;exact absurd e (hn _ (List.getElem_mem h1))
   ·have:c=(aE k n).length:=by omega
    subst this;by_cases h2:c'< (aE k n).length
    ·rw [List.getElem_append_left h2,List.getElem_append_right (Nat.le_refl _)]at e;simp only [Nat.sub_self,List.getElem_singleton]at e;exact absurd e.symm (hn _ (List.getElem_mem h2))
    ·omega
theorem dH (i:Nat):(∃c,(aE k i).findIdx? (fun a=>decide (k a=k i))=some c∧aE k (i+1)=aE k i∧clsOf k i=c∧∃h:c< (aE k i).length,k (aE k i)[c]=k i)∨((aE k i).findIdx? (fun a=>decide (k a=k i))=none∧aE k (i+1)=aE k i++ [i]∧clsOf k i=(aE k i).length∧∀a∈aE k i,k a≠k i):=by
 cases h:(aE k i).findIdx? (fun a=>decide (k a=k i))with
 |none=>
  refine .inr ⟨rfl,by rw [aE,h],by rw [clsOf,h];rfl,fun a ha=>?_⟩;have:=List.findIdx?_eq_none_iff.1 h a ha;simpa using this
 |some c=>
  obtain⟨h1,h2,_⟩:=List.findIdx?_eq_some_iff_getElem.1 h;exact .inl ⟨c,rfl,by rw [aE,h],by rw [clsOf,h];rfl,h1,by simpa using h2⟩
theorem tC (i:Nat):clsOf k i≤(aE k i).length∧(aE k (i+1)).length=max (aE k i).length (clsOf k i+1):=by
 rcases dH (k:=k) i with⟨c,_,h2,h3,h4,_⟩ |⟨_,h2,h3,_⟩
 ·rw [h2,h3];omega
 ·rw [h2,h3,List.length_append,List.length_singleton];omega
theorem oX {n i:Nat} (hi:i<n):∃h:clsOf k i< (aE k n).length,k (aE k n)[clsOf k i]=k i:=by
 obtain⟨t,ht⟩:=oD (k:=k) (n:=i+1) (n- (i+1));rw [show i+1+(n- (i+1))=n by omega]at ht;have key:∃h:clsOf k i< (aE k (i+1)).length,k (aE k (i+1))[clsOf k i]=k i:=by
  rcases dH (k:=k) i with⟨c,_,h2,h3,h4,h5⟩ |⟨_,h2,h3,_⟩
  ·simp only [h2,h3];exact⟨h4,h5⟩
  ·simp only [h2,h3];exact⟨by simp,by simp⟩
 obtain⟨h1,h2⟩:=key;simp only [ht];exact⟨by rw [List.length_append];omega,by rw [List.getElem_append_left h1];exact h2⟩
theorem nK {n i j:Nat} (hi:i<n) (hj:j<n):clsOf k i=clsOf k j↔k i=k j:=by
 obtain⟨h1,h2⟩:=oX (k:=k) hi;obtain⟨h3,h4⟩:=oX (k:=k) hj;constructor
 ·intro e;rw [←h2, ←h4];simp only [e]
 ·intro e;exact iB _ _ h1 h3 (by rw [h2,h4,e])
end
theorem rD (z:Nat):IntKind.wrap .u8 (z:Int)=(((UInt8.ofNat z).toNat:Nat):Int):=by
 rw [UInt8.toNat_ofNat'];unfold IntKind.wrap;rw [if_neg (by rw [show IntKind.u8.signed=false from rfl,Bool.false_and];exact Bool.false_ne_true)];rfl
theorem sN (w:World) (n:Nat) (hn:n≤1000000):(Instr.makeSlice qE (.int .i64 n) (.int .i64 n)).run Tryz.prog w= .ok (.slice (some (nb w)) n n) (w.alloc (.cells (Array.replicate n (.int .u32 0)) dG)):=by
 obtain⟨i,hi,hz,hs,hb⟩:=info_parts sj;have:=Go.run_make (P:=Tryz.prog) w qE dG i (.int .u32 0) rx hi hz .i64 .i64 (n:Int) (n:Int) (by omega) (Int.le_refl _) (by rw [hb];omega) (by omega);rw [this];congr 3;rw [hs];apply Array.ext
 ·rw [size_madeCells];simp
 ·intro j h1 h2;simp only [madeCells,Array.getElem_map,Array.getElem_range,Array.getElem_replicate];show(#[Value.int .u32 0]:Array Value)[j%1]! =_;rw [Nat.mod_one];rfl
theorem HC {x y:Nat} (hx:x<4294967296) (hy:y<4294967296):IntKind.wrap .u64 ((BitVec.ofInt (IntKind.bits .u64) (IntKind.wrap .u64 ((x:Int)*2^(min (32:Int).toNat (IntKind.bits .u64))))|||BitVec.ofInt (IntKind.bits .u64) (IntKind.wrap .u64 (y:Int))).toNat:Int)=((x*4294967296+y:Nat):Int):=by
 have h1:(x:Int)*2^(min (32:Int).toNat (IntKind.bits .u64))=((x*4294967296:Nat):Int):=by
  rw [show(2:Int)^(min (32:Int).toNat (IntKind.bits .u64))=4294967296 by decide];omega
 have hxb:x*4294967296<18446744073709551616:=by omega
 have hz:x*4294967296+y<18446744073709551616:=by
  have h1:=Nat.add_lt_add_left hy (x*4294967296);rw [←Nat.succ_mul]at h1;exact Nat.lt_of_lt_of_le h1 (Nat.mul_le_mul_right 4294967296 hx)
 rw [h1,dn hxb,dn (x:=y) (by omega)];show IntKind.wrap .u64 ((BitVec.ofInt 64 ((x*4294967296:Nat):Int)|||BitVec.ofInt 64 (y:Int)).toNat:Int)=_;rw [BitVec.toNat_or,eX _ hxb,eX _ (by omega)];have gen:∀B:Nat,B=2^32→∀x y:Nat,y<B→x*B|||y=x*B+y:=by
  intro B hB x y hy;subst hB;rw [Nat.mul_comm x];exact(Nat.two_pow_add_eq_or_of_lt hy x).symm
 have h2:x*4294967296|||y=x*4294967296+y:=gen _ (by decide) x y hy;rw [h2];exact dn hz
set_option maxHeartbeats 1000000 in
theorem oe (w:World) (la:Sl) (a m:Nat) (ha:bf w la a) (hm:m<4294967296) (h0:0<m) (h1:(fD 4294967296 a).length≤100000):
  CP 87 #[.agg #[la.v],.int .u32 (m:Int)] w fun e w'=>∃r:Sl,e= .returned (.tuple #[.agg #[r.v],.int .u32 ((a%m:Nat):Int)])∧bf w' r (a/m)∧Below w.heap.size w w':=by
 refine aJ (xT la.a la.n la.c (m:Int) w) ?_;intro w1 hw1 w2 hw2;have b1:Below w.heap.size w w1:=by subst hw1;exact ah _ _
 have b2:Below w1.heap.size w1 w2:=by subst hw2;exact ah _ _
 have z1:w1.heap.size=w.heap.size+1:=by subst hw1;exact ar _ _
 have b02:=ae b1 b2;have x1:w2.heap[w.heap.size]? =some (.cells #[la.v] bS (0,0)):=ai b2 (by subst hw1;exact ao _ _);have x2:w2.heap[w1.heap.size]? =some (.cells #[bW.v] bS (0,0)):=by subst hw2;exact ao _ _
 have hna:=ha.n;obtain⟨N,hN⟩:∃N,N=(fD 4294967296 a).length:=⟨_,rfl⟩;rw [←hN]at hna h1;have b4:=ah w2 (.cells (Array.replicate N (.int .u32 0)) dG);have o4:(w2.alloc (.cells (Array.replicate N (.int .u32 0)) dG)).ownsRow w2.heap.size dG 1 (.slice (some (nb w2)) N N) N ((List.replicate N (0:Int)).flatMap d7):=by
  have:=fo (w:=w2) (e:=dG) (n:=N) (List.replicate N (Value.int .u32 0)) (by simp) (by omega) (Nat.le_refl w2.heap.size);have e:(List.replicate N (0:Int)).flatMap d7=List.replicate N (Value.int .u32 0):=by
   clear this hN hna h1 b4;induction N with
   |zero=>rfl
   |succ M ih=>rw [List.replicate_succ,List.flatMap_cons,ih,List.replicate_succ];rfl
  rw [e];simpa using this
 obtain⟨w4,hw4⟩:∃w4,w4=w2.alloc (.cells (Array.replicate N (.int .u32 0)) dG):=⟨_,rfl⟩;rw [←hw4]at b4 o4;refine ac.no (by simp;omega) ⟨_,_,_,dm x1,_,_,_,w4,by rw [hna,hw4];exact sN w2 N (by omega),_,_,_,dm (ai b4 x1),?_⟩;rw [hna];refine Ar.ok64 (by omega) (by omega) ?_;intro I hI;have key:∀i,i≤N→∀(rest:Nat) (L:List Int) (q:World),L.length=N→An 4294967296 L→(∀(j:Nat) (hj:j<L.length),j<i→L[j]=0)→cQ 4294967296 (L.drop i)*m+rest=a/4294967296^i→rest<m→q.ownsRow w2.heap.size dG 1 (.slice (some (nb w2)) N N) N (L.flatMap d7)→Below w2.heap.size w2 q→I [.int .i64 ((i:Int)-1),.int .u64 (rest:Int)] q:=by
  intro i;induction i with
  |zero=>
   intro _ rest L q hL hin hz hv hr ho hq;rw [List.drop_zero,Nat.pow_zero,Nat.div_one]at hv;refine hI _ _ q (ac.no rfl ((fQ q ⟨some (nb w2),N,N⟩ L (co.of_own oW ho) (jF (l:=⟨some (nb w2),N,N⟩) ho) (Nat.le_refl _) hin (by omega)).mono ?_));rintro e w7 ⟨r,rfl,hR,b7⟩;have hB7:=ae hq b7;refine⟨r.a,r.n,r.c,rfl,bR (s:=r) (ai hB7 x2) fun q' hx hN' hB _ _=>⟨_,_,_,aO hx,r,?_,hN' _ _ ?_,hB _ _ (by omega) (ae b02 hB7)⟩⟩
   ·have e1:a%m=rest:=by rw [←hv,Nat.mul_comm,Nat.mul_add_mod,Nat.mod_eq_of_lt hr]
    rw [e1,dM,Nat.mod_eq_of_lt (by omega)]
   ·have e2:a/m=cQ 4294967296 L:=by rw [←hv,Nat.mul_comm,Nat.mul_add_div h0,Nat.div_eq_of_lt hr,Nat.add_zero]
    rw [e2];exact hR
  |succ i ih=>
   intro hle rest L q hL hin hz hv hr ho hq;rw [show((i+1:Nat):Int)-1=(i:Int) by omega];have hlt:i< (fD 4294967296 a).length:=by omega
   obtain⟨p,hp,c0⟩:=be (bf.on ha (ae b02 hq)).r hlt rfl;rw [rW fp hlt]at c0;have m1:=Nat.mod_lt (a/4294967296^i) (show 0<4294967296 by decide);obtain⟨s,hs⟩:∃s,s=rest*4294967296+a/4294967296^i%4294967296:=⟨_,rfl⟩;obtain⟨q1,q2,q3⟩:=A_ (b:=4294967296) fp h0 hv hr hs;have hsb:s<18446744073709551616:=by omega
   refine hI _ _ q (ac.yes (decide_eq_true (by omega)) ⟨by decide,_,_,_,dm (ai hq x1),ag.mk p hp ⟨by omega,by omega,_,c0,by rw [dn (by omega)];omega,ag.mk _ rfl ⟨by omega,by omega,?_⟩⟩⟩);rw [HC (by omega) m1, ←hs,dn (show m<18446744073709551616 by omega)];have ed:Int.tdiv (s:Int) (m:Int)=((s/m:Nat):Int):=rfl;have em:Int.tmod (s:Int) (m:Int)=((s%m:Nat):Int):=rfl;rw [ed,em,dn (Nat.lt_trans q3 (by decide)),dM,Nat.mod_eq_of_lt q3];have hst:=iU (enc:=d7) (fun _=>rfl) (by decide) (fun y u hu=>by rw [List.mem_singleton.1 hu];rfl) (l:=⟨some (nb w2),N,N⟩) ho hL.symm rfl i (by omega) ((s/m:Nat):Int) (k:=fun w6=>((m:Nat):Int)≠0∧Ar .i64 ((i:Int)-1) fun n_14=>I [Value.int .i64 n_14,Value.int .u64 ((s%m:Nat):Int)] w6) (fun w6 h6 hs6 hz6 hB6=>⟨by omega,Ar.ok64 (by omega) (by omega) (ih (by omega) (s%m) (L.set i ((s/m:Nat):Int)) w6 (by rw [List.length_set];exact hL) ?_ ?_ ?_ q2 h6 (hB6 _ _ (Nat.le_refl _) hq))⟩)
   ·exact d_ hst
   ·intro x hx;rcases List.mem_or_eq_of_mem_set hx with hx |rfl
    ·exact hin x hx
    ·exact⟨Int.natCast_nonneg _,Int.ofNat_lt.2 q3⟩
   ·intro j hj hji;rw [List.length_set]at hj;rw [List.getElem_set_ne (by omega)];exact hz j hj (by omega)
   ·rw [←q1];congr 2;have e:(L.set i ((s/m:Nat):Int)).drop i=((s/m:Nat):Int)::L.drop (i+1):=by
     rw [List.drop_set,if_neg (by omega),Nat.sub_self,List.drop_eq_getElem_cons (show i<L.length by omega),List.set_cons_zero]
    rw [e];show(((s/m:Nat):Int)).toNat+_=_;rw [Int.toNat_natCast,Nat.add_comm]
 have hz:=lx fp (n:=a) (i:=N) (by omega);refine key N (Nat.le_refl _) 0 (List.replicate N 0) w4 (by simp) ?_ ?_ ?_ h0 o4 b4
 ·intro x hx;rw [List.eq_of_mem_replicate hx];decide
 ·intro j hj _;simp
 ·rw [List.drop_of_length_le (by simp),hz.1];simp [cQ]
def mA (xs:List UInt8) (i:Nat):List UInt8:=(List.range xs.length).map fun k=>if k<i∨xs.length-i≤k then xs.getD (xs.length-1-k) 0 else xs.getD k 0
theorem bQ (xs:List UInt8) (i:Nat):(mA xs i).length=xs.length:=by simp [mA]
theorem iu (xs:List UInt8) (i:Nat) {k:Nat} (hk:k< (mA xs i).length):(mA xs i)[k]=if k<i∨xs.length-i≤k then xs.getD (xs.length-1-k) 0 else xs.getD k 0:=by simp [mA]
theorem Ax (xs:List UInt8):mA xs 0=xs:=by
 apply List.ext_getElem
 ·exact bQ xs 0
 ·intro k h1 h2;rw [iu,if_neg (by omega)];simp [List.getD,h2]
theorem qU {xs:List UInt8} {i:Nat} (h:xs.length≤2*i+1) (hi:i≤xs.length):mA xs i=xs.reverse:=by
 apply List.ext_getElem
 ·rw [bQ,List.length_reverse]
 ·intro k h1 h2;rw [List.length_reverse]at h2;rw [iu,List.getElem_reverse];by_cases hk:k<i∨xs.length-i≤k
  ·rw [if_pos hk];simp [List.getD,show xs.length-1-k<xs.length by omega]
  ·rw [if_neg hk];have:xs.length-1-k=k:=by omega
   simp [List.getD,h2,this]
theorem Al {xs:List UInt8} {i:Nat} (h:2*i+1<xs.length):((mA xs i).set i (xs.getD (xs.length-1-i) 0)).set (xs.length-1-i) (xs.getD i 0)=mA xs (i+1):=by
 apply List.ext_getElem
 ·rw [List.length_set,List.length_set,bQ,bQ]
 ·intro k h1 h2;rw [bQ]at h2;rw [List.getElem_set,List.getElem_set,iu,iu];by_cases e1:xs.length-1-i=k
  ·rw [if_pos e1,if_pos (by omega)];congr 1;omega
  ·rw [if_neg e1];by_cases e2:i=k
   ·rw [if_pos e2,if_pos (by omega)];congr 1;omega
   ·rw [if_neg e2];by_cases hk:k<i∨xs.length-i≤k
    ·rw [if_pos hk,if_pos (by omega)]
    ·rw [if_neg hk,if_neg (by omega)]
theorem qg (w0 w:World) (B:Nat) (hB0:Below B w0 w) (l:Sl) (xs:List UInt8) (ho:w.ownsRow B sm 1 l.v l.n (xs.flatMap fr)) (hl:xs.length≤1000000):
  CP 88 #[l.v] w fun e w'=>e= .returned (.tuple #[])∧w'.ownsRow B sm 1 l.v l.n (xs.reverse.flatMap fr)∧Below B w0 w':=by
 refine aJ (xb l.a l.n l.c w) ?_;have hn:l.n=xs.length:=(Rw.of_own ho (fun _=>rfl) (by decide)).2;rw [hn]at ho⊢;refine Ar.ok64 (by omega) (by omega) ?_;intro I hI;have key:∀(d i:Nat) (q:World),xs.length-2*i≤d→i≤xs.length→q.ownsRow B sm 1 l.v xs.length ((mA xs i).flatMap fr)→Below B w0 q→I [.int .i64 ((xs.length:Int)-1- (i:Int)),.int .i64 (i:Int)] q:=by
  intro d;induction d with
  |zero=>
   intro i q hd hi ho hq;refine hI _ _ q (ac.no (decide_eq_false (by omega)) ⟨rfl,?_,hq⟩);rw [qU (by omega) hi]at ho;exact ho
  |succ d ih=>
   intro i q hd hi ho hq;by_cases hlt:(i:Int) < (xs.length:Int)-1- (i:Int)
   ·have hj:xs.length-1-i<xs.length:=by omega
    refine hI _ _ q (ac.yes (decide_eq_true hlt) ?_);intro w2 hw2;have b2:Below q.heap.size q w2:=by subst hw2;exact aP q
    have hq2:Below B w0 w2:=by subst hw2;exact hq.drew
    have ho2:=aG ho b2;have ho2':w2.ownsRow B sm 1 (Sl.v ⟨l.a,xs.length,l.c⟩) (Sl.n ⟨l.a,xs.length,l.c⟩) ((mA xs i).flatMap fr):=by
     have:Sl.v ⟨l.a,xs.length,l.c⟩=l.v:=by rw [←hn]
     rw [this];exact ho2
    have hr:=(Rw.of_own ho2' (fun _=>rfl) (by decide)).1;have gi:(mA xs i)[i]'(by rw [bQ];omega)=xs.getD i 0:=by rw [iu,if_neg (by omega)]
    have gj:(mA xs i)[xs.length-1-i]'(by rw [bQ];omega)=xs.getD (xs.length-1-i) 0:=by rw [iu,if_neg (by omega)]
    obtain⟨p,hp,ci⟩:=be hr (i:=i) (by rw [bQ];omega) rfl;obtain⟨p2,hp2,cj⟩:=be hr (i:=xs.length-1-i) (by rw [bQ];omega) rfl;rw [gi]at ci;rw [gj]at cj;have hp:l.a=some p:=hp;obtain rfl:p2=p:=by rw [show l.a=some p2 from hp2]at hp;cases hp;rfl
    have ej:(xs.length:Int)-1- (i:Int)=((xs.length-1-i:Nat):Int):=by omega
    rw [ej];refine ag.mk p2 hp ⟨by omega,by omega,_,cj,ag.mk p2 hp ⟨by omega,by omega,_,ci,ag.mk p2 hp ⟨by omega,by omega,?_⟩⟩⟩;have hst:=iU (enc:=fr) (fun _=>rfl) (by decide) (fun y u hu=>by rw [List.mem_singleton.1 hu];rfl) (l:=⟨l.a,xs.length,l.c⟩) ho2' (bQ xs i).symm (a:=p2) hp i (by rw [bQ];omega) (xs.getD (xs.length-1-i) 0) (k:=fun w3=>ag l.a fun pa_6=>(0:Int)≤((xs.length-1-i:Nat):Int)∧((xs.length-1-i:Nat):Int) < (xs.length:Int)∧(Value.int .u8 (((xs.getD i 0).toNat:Nat):Int)).oneCell'=true∧(∃u,w3.cell? (pa_6.add ((((xs.length-1-i:Nat):Int)).toNat*1))=some u)∧w3.frozen? (pa_6.add ((((xs.length-1-i:Nat):Int)).toNat*1))=false∧∀w4:World,w4=w3.setCell (pa_6.add ((((xs.length-1-i:Nat):Int)).toNat*1)) (Value.int .u8 (((xs.getD i 0).toNat:Nat):Int))→Ar .i64 ((i:Int)+1) fun n_7=>Ar .i64 (((xs.length-1-i:Nat):Int)-1) fun n_8=>I [Value.int .i64 n_8,Value.int .i64 n_7] w4) (fun w3 h3 hs3 hz3 hB3=>?_)
    ·exact d_ hst
    ·refine ag.mk p2 hp ⟨by omega,by omega,?_⟩;have hst2:=iU (enc:=fr) (fun _=>rfl) (by decide) (fun y u hu=>by rw [List.mem_singleton.1 hu];rfl) (l:=⟨l.a,xs.length,l.c⟩) h3 (by rw [List.length_set,bQ]) (a:=p2) hp (xs.length-1-i) (by rw [List.length_set,bQ];omega) (xs.getD i 0) (k:=fun w4=>Ar .i64 ((i:Int)+1) fun n_7=>Ar .i64 (((xs.length-1-i:Nat):Int)-1) fun n_8=>I [Value.int .i64 n_8,Value.int .i64 n_7] w4) (fun w4 h4 hs4 hz4 hB4=>?_)
     ·exact d_ hst2
     ·rw [Al (by omega)]at h4;have:Sl.v ⟨l.a,xs.length,l.c⟩=l.v:=by rw [←hn]
      rw [this]at h4;refine Ar.nat (i+1) rfl (by omega) (Ar.ok64 (by omega) (by omega) ?_);rw [show((xs.length-1-i:Nat):Int)-1=(xs.length:Int)-1- ((i+1:Nat):Int) by omega];exact ih (i+1) w4 (by omega) (by omega) h4 (hB4 _ _ (Nat.le_refl _) (hB3 _ _ (Nat.le_refl _) hq2))
   ·refine hI _ _ q (ac.no (decide_eq_false hlt) ⟨rfl,?_,hq⟩);rw [qU (by omega) hi]at ho;exact ho
 have:=key xs.length 0 w (by omega) (Nat.zero_le _) (by rw [Ax];exact ho) hB0;rw [show(xs.length:Int)-1- ((0:Nat):Int)=(xs.length:Int)-1 by omega]at this;exact this
open Go Go.RowKit Go.Shelf
attribute [local go_sem] Oper.semAt_some
attribute [local go_sem] Oper.semAt_some
end Go.Proofs.YtdlcfegnaphclaaGreat.Eng
