/- Tokens: the table, walked by the engine. -/
import Derived.Test.YtijbcdiffjjefaaGreatDoorZtRw
import Derived.Test.YtijbcdiffjjefaaGreatDoorZtRy
set_option linter.unusedVariables false
set_option linter.unusedSimpArgs false
set_option maxRecDepth 100000
namespace Go.Proofs.YtijbcdiffjjefaaGreatDoor.Eng
open Go Go.RowKit
theorem eV {P:Program} {B b:Nat} {c:Array Value} {T e:TypeId} {w1:World} {sz:Nat} {s:Sl} {xs:List Value} (jj:Nat) (hblk:w1.heap[b]? =some (.cells c T (0,0))) (hjj:jj<c.size) (hown:w1.ownsRow B e sz s.v s.n xs) (hoff:s.v.ownBlock≠some b) (hBb:B≤b)
  (t:TypeId) {z:Value} {bytes:Nat} (ht:P.underlying t=some (.slice e)) (hi:(P.info? e).map (fun i=>(i.zero,i.size,i.bytes))=some (some z,sz,bytes)) (hzs:z.cells.size=sz) (hsz:0<sz)
  (news:List Value) (hl:news.length=sz) (h1:∀u∈news,u.oneCell'=true) (hbytes:(s.n+1)*bytes≤140737488355328) (h63:s.n+1≤140737488355328):
  ∃a' c' w3,(Builtin.append_ #[t,t] t #[s.v,.slice (some (nb w1)) 1 1]).run P (w1.alloc (.cells news.toArray e))= .ok (.slice a' (s.n+1) c') w3∧
   (∃u,w3.cell? ((⟨b,0,none⟩:Addr).add jj)=some u)∧w3.frozen? ((⟨b,0,none⟩:Addr).add jj)=false∧
   ∀w4,w4=w3.setCell ((⟨b,0,none⟩:Addr).add jj) (.slice a' (s.n+1) c')→
    w4.heap[b]? =some (.cells (c.setIfInBounds jj (.slice a' (s.n+1) c')) T (0,0))∧w4.ownsRow B e sz (.slice a' (s.n+1) c') (s.n+1) (xs++news)∧
    (Value.slice a' (s.n+1) c').ownBlock≠some b∧(∀w0,Below B w0 w1→Below B w0 w4)∧(∀k,k<w1.heap.size→k≠b→s.v.ownBlock≠some k→w4.heap[k]? =w1.heap[k]?)∧w1.heap.size<w4.heap.size∧(∀k,(Value.slice a' (s.n+1) c').ownBlock=some k→s.v.ownBlock=some k∨w1.heap.size≤k):=by
 have hlt:b<w1.heap.size:=(Array.getElem?_eq_some_iff.1 hblk).1;obtain⟨a',c',w3,hr,hown',hg,hnb⟩:=eG (P:=P) t e ht hi hzs hsz hown news hl h1 hbytes h63 (by omega);have hkeep:∀k,k<w1.heap.size→s.v.ownBlock≠some k→w3.heap[k]? =w1.heap[k]? :=fun k hk hne=>rK hg hk (fun e=>hne e.symm);have hblk3:w3.heap[b]? =some (.cells c T (0,0)):=by rw [hkeep b hlt hoff];exact hblk
 have hoff':(Value.slice a' (s.n+1) c').ownBlock≠some b:=by
  rcases hnb with h |h
  ·rw [h];exact hoff
  ·rw [h];intro e;cases e;omega
 have hsize:=sX hg;refine⟨a',c',w3,hr,⟨c[jj],?_⟩,a_ hblk3,?_⟩
 ·rw [aE hblk3];simp [hjj]
 ·rintro w4 rfl;refine⟨bo hblk3 _,db hown' _ (by rw [aq];exact hoff'),hoff',fun w0 hb=>bg (di hb hown hg (by omega)) hBb _,fun k hk hkb hne=>?_,?_⟩
  ·rw [ay (by rw [aq];exact hkb)];exact hkeep k hk hne
  ·rw [aO];exact⟨by omega,fun k hk=>by
    rcases hnb with h |h
    ·rw [h]at hk;exact .inl hk
    ·rw [h]at hk;cases hk;exact .inr (by omega)⟩
theorem cZ (a b:Int):∀v∈ [Value.int .i64 a,Value.int .i64 b],v.oneCell'=true:=by
 intro v hv;simp only [List.mem_cons,List.not_mem_nil,or_false]at hv;rcases hv with rfl |rfl<;>rfl
theorem cC {w:World} {B:Nat} {e:TypeId} {sz n:Nat} {v:Value} {xs:List Value} {r:Nat} {κ:Type} {kv:κ→Value} {m:List (κ×Value)} (h:w.ownsRow B e sz v n xs) (hm:cv kv w r m):v.ownBlock≠some r:=by
 intro hb;obtain⟨es,clock,hm,_⟩:=hm;rcases h.2 with⟨rfl,_⟩ |⟨g,cap,cur,rfl,_,hg,_⟩
 ·cases hb
 ·cases hb;rw [hm]at hg;cases hg
theorem mo {P:Program} {src dst e:TypeId} (hs:P.underlying src=some (.slice e)) (he:P.underlying e=some (.int .u8)) (hd:P.underlying dst=some .string) (w:World) (i:Nat) (hi:i<256):
  (convert src dst (.slice (some (nb w)) 1 1)).run P (w.alloc (.cells #[.int .u8 (i:Int)] e))= .ok (.string (str [UInt8.ofNat i])) (w.alloc (.cells #[.int .u8 (i:Int)] e)):=by
 have hn:(UInt8.ofNat i).toNat=i:=by simp;omega
 refine ig hs he hd (base:=w.heap.size) (l:=[UInt8.ofNat i]) ⟨by simp [Lib.byteCells],.inr ⟨w.heap.size,1,_,rfl,Nat.le_refl _,ao w _,Nat.le_refl _,by decide,by simp,by simp [Lib.byteCells,hn]⟩⟩
abbrev bl:=Bs×(Int×Int)
def fN (e:bl):List Value:=[.string (str e.1),.int .i64 e.2.1,.int .i64 e.2.2]
def kV (es:List bl):List (Bs×Value):=es.zipIdx.map fun x=>(x.1.1,.int .i64 (x.2:Int))
def lT (es:List bl):List ((Int×Int)×Value):=((es.drop 256).zipIdx 256).map fun x=>(x.1.2,.int .i64 (x.2:Int))
def b_ (i:Nat):bl:=([UInt8.ofNat i],(-1, -1))
def bf:List bl:=(List.range 256).map b_
theorem tv (es:List bl) (e:bl):kV (es++ [e])=kV es++ [(e.1,.int .i64 (es.length:Int))]:=by simp [kV,List.zipIdx_append]
theorem BW (es:List bl) (e:bl) (h:256≤es.length):lT (es++ [e])=lT es++ [(e.2,.int .i64 (es.length:Int))]:=by
 have hl:256+(es.length-256)=es.length:=by omega
 simp only [lT,List.drop_append_of_le_length h,List.zipIdx_append,List.map_append,List.length_drop,hl,List.zipIdx_cons,List.zipIdx_nil,List.map_cons,List.map_nil]
theorem qF (es:List bl) (h:es.length≤256):lT es= []:=by simp [lT,List.drop_eq_nil_of_le h]
theorem ng {s:Bs} {es:List bl}:gp s (kV es)=none↔∀e∈es,e.1≠s:=by
 rw [sG];constructor
 ·intro h e he;obtain⟨i,hi,rfl⟩:=List.getElem_of_mem he;exact h (es[i].1,.int .i64 (i:Int)) (by
   simp only [kV,List.mem_map];exact⟨(es[i],i),by rw [List.mem_zipIdx_iff_getElem?];simp [hi],rfl⟩)
 ·intro h p hp;simp only [kV,List.mem_map]at hp;obtain⟨⟨e,i⟩,hi,rfl⟩:=hp;rw [List.mem_zipIdx_iff_getElem?]at hi;exact h e (List.mem_of_getElem? hi)
theorem vl {m:Int×Int}:∀(l:List bl) (k:Nat),gp m ((l.zipIdx k).map fun x=>(x.1.2,Value.int .i64 (x.2:Int)))=((l.map (·.2)).idxOf? m).map fun i=>Value.int .i64 ((k+i:Nat):Int)
 | [],k=>rfl
 |e::l,k=>by
  simp only [List.zipIdx_cons,List.map_cons,gp,List.idxOf?_cons];by_cases h:m=e.2
  ·simp [h]
  ·rw [if_neg h,vl l (k+1)];have:(e.2==m)=false:=by simp;exact fun e'=>h e'.symm
   rw [this];simp only [Bool.false_eq_true,if_false,Option.map_map];congr 1;funext i;simp;omega
def au (es:List bl):List (Int×Int):=(es.drop 256).map (·.2)
theorem Be (m:Int×Int) (es:List bl):gp m (lT es)=((au es).idxOf? m).map fun i=>Value.int .i64 ((256+i:Nat):Int):=vl _ 256
abbrev nz:TypeId:=261
abbrev zL:TypeId:=300
abbrev pL:TypeId:=258
abbrev AJ:TypeId:=205
abbrev Hv:TypeId:=259
theorem pE:Tryz.prog.underlying pL=some (.slice zL):=by kernel_rfl
theorem tz:(Tryz.prog.info? zL).map (fun i=>(i.zero,i.size,i.bytes))=some (some (.agg #[.string ⟨#[]⟩,.int .i64 0,.int .i64 0]),3,32):=by kernel_rfl
theorem mK:Tryz.prog.underlying AJ=some (.map 9 cE):=by kernel_rfl
theorem AX:Tryz.prog.underlying Hv=some (.map lG cE):=by kernel_rfl
theorem gu:(Tryz.prog.info? cE).map (·.zero)=some (some (.int .i64 0)):=by kernel_rfl
theorem wo:k_ Tryz.prog 9 Bs ez:=CA (by kernel_rfl)
theorem Di:k_ Tryz.prog cE Int jW:=Ef (by kernel_rfl)
theorem HP:k_ Tryz.prog lG (Int×Int) dq:=by
 refine Bc (fs:=bc (Tryz.prog.underlying lG)) (by kernel_rfl) (by kernel_rfl) (fun e k w=>?_);cases e<;>kernel_rfl
structure HW (w:World) (B p:Nat) (l:Sl) (mb mp:Nat) (most:Int) (es:List bl):Prop where
 blk:w.heap[p]? =some (.cells #[l.v,.map (some mb),.map (some mp),.int .i64 most] nz (0,0))
 row:w.ownsRow B zL 3 l.v l.n (es.flatMap fN)
 len:l.n=es.length
 off:l.v.ownBlock≠some p
 bytes:cv ez w mb (kV es)
 pairs:cv dq w mp (lT es)
 bp:B≤p
 bb:B≤mb
 bm:B≤mp
 ne:mb≠mp
def gi (w:World) (B p:Nat) (es:List bl):Prop:=∃l mb mp most,HW w B p l mb mp most es∧1≤most∧most≤64∧∀e∈es,(e.1.length:Int)≤most
def eF (w:World) (p:Nat) (es:List bl):Prop:=∃(l:Sl) (mb mp:Nat) (most:Int),w.heap[p]? =some (.cells #[l.v,.map (some mb),.map (some mp),.int .i64 most] nz (0,0))∧l.n=es.length∧Rw fN 3 w l.a es∧cv ez w mb (kV es)∧cv dq w mp (lT es)∧most≤64∧∀e∈es,(e.1.length:Int)≤most
theorem eF.on {w w':World} {p:Nat} {es:List bl} (h:eF w p es) (hb:Below w.heap.size w w'):eF w' p es:=by
 obtain⟨l,mb,mp,most,h1,h2,h3,h4,h5,h6⟩:=h;exact⟨l,mb,mp,most,ah hb h1,h2,h3.on hb,h4.on hb,h5.on hb,h6⟩
theorem eF.lt {w:World} {p:Nat} {es:List bl} (h:eF w p es):p<w.heap.size:=by
 obtain⟨l,mb,mp,most,h1,_⟩:=h;exact(Array.getElem?_eq_some_iff.1 h1).1
theorem qu (e:bl):(fN e).length=3:=rfl
theorem gi.is {w:World} {B p:Nat} {es:List bl} (h:gi w B p es):eF w p es:=by
 obtain⟨l,mb,mp,most,h,_,hm⟩:=h;exact⟨l,mb,mp,most,h.blk,h.len,(Rw.of_own h.row qu (by decide)).1,h.bytes,h.pairs,hm⟩
theorem gi.on {w w':World} {B p:Nat} {es:List bl} (h:gi w B p es) (hb:Below w.heap.size w w'):gi w' B p es:=by
 obtain⟨l,mb,mp,most,h,hm⟩:=h;exact⟨l,mb,mp,most,⟨ah hb h.blk,aL h.row hb,h.len,h.off,h.bytes.on hb,h.pairs.on hb,h.bp,h.bb,h.bm,h.ne⟩,hm⟩
theorem af (p:Nat) (w:World) {c:Array Value} {e:TypeId} {fz:Nat×Nat} (h:w.heap[p]? =some (.cells c e fz)) (j:Nat):w.cell? ((⟨p,0,none⟩:Addr).add j)=c[j]? :=by rw [aA,Nat.zero_add,cY h]
theorem ii (w:World) (p:Nat) (es:List bl) (h:eF w p es):CP 116 #[.pointer (some ⟨p,0,none⟩)] w fun e w'=>e= .returned (.int .i64 es.length)∧w'=w:=by
 obtain⟨l,mb,mp,most,h1,h2,_⟩:=h;refine aU (jB (some ⟨p,0,none⟩) w) ?_;exact aa.no rfl (ae.mk _ rfl ⟨l.a,l.n,l.c,by rw [af p w h1];rfl,by rw [h2],rfl⟩)
def cq (es:List bl) (id:Int):Prop:=0≤id∧id<es.length
instance (es:List bl) (id:Int):Decidable (cq es id):=by unfold cq;infer_instance
theorem jN (w:World) (p:Nat) (es:List bl) (h:eF w p es) (id:Int):CP 210 #[.pointer (some ⟨p,0,none⟩),.int .i64 id] w fun e w'=>e= .returned (.bool (decide (cq es id)))∧w'=w:=by
 refine az (yJ (some ⟨p,0,none⟩) id w (fun v w'=>v= .bool (decide (cq es id))∧w'=w) ?_) (by rintro v w' ⟨rfl,h⟩;exact⟨rfl,h⟩);refine aa.mk ?_ ?_
 ·intro h0;have h0:=of_decide_eq_true h0;refine(ii w p es h).mono ?_;rintro e w' ⟨rfl,hw⟩;subst hw;refine⟨_,rfl,?_,rfl⟩;congr 1;exact decide_eq_decide.2 ⟨fun h=>⟨h0,h⟩,fun h=>h.2⟩
 ·intro h0;have h0:=of_decide_eq_false h0;refine⟨?_,rfl⟩;rw [decide_eq_false];exact fun h=>h0 h.1
def aX (es:List bl) (id:Int):Bs:=((es[id.toNat]?).map (·.1)).getD []
theorem dY {es:List bl} {id:Int} (h:cq es id):∃e,es[id.toNat]? =some e∧aX es id=e.1:=by
 have hlt:id.toNat<es.length:=by have:=h.1;have:=h.2;omega
 exact⟨es[id.toNat],List.getElem?_eq_getElem hlt,by simp [aX,List.getElem?_eq_getElem hlt]⟩
theorem lg (w:World) (p:Nat) (es:List bl) (h:eF w p es) (id:Int):CP 163 #[.pointer (some ⟨p,0,none⟩),.int .i64 id] w fun e w'=>e= .returned (.tuple #[.string (str (if cq es id then aX es id else [])),.bool (decide (cq es id))])∧w'=w:=by
 refine aU (xj (some ⟨p,0,none⟩) id w) ?_;refine(jN w p es h id).mono ?_;rintro e w' ⟨rfl,hw⟩;subst hw;refine⟨_,rfl,aa.mk ?_ ?_⟩
 ·intro h0;have h0:¬cq es id:=by simpa using h0
  rw [if_neg h0,decide_eq_false h0];exact⟨rfl,rfl⟩
 ·intro h0;have h0:cq es id:=by simpa using h0
  obtain⟨l,mb,mp,most,h1,h2,h3,_⟩:=h;obtain⟨x,hx,hb⟩:=dY h0;obtain⟨a,ha,_,hc⟩:=h3 _ x hx;have:=h0.1;have:=h0.2;refine ae.mk _ rfl ⟨l.a,l.n,l.c,by rw [af p _ h1];rfl,ae.mk a ha ⟨by omega,by omega,str x.1,hc 0 _ rfl,?_⟩⟩;rw [if_pos h0,decide_eq_true h0,hb];exact⟨rfl,rfl⟩
theorem uJ (w:World) (p:Nat) (es:List bl) (h:eF w p es) (a b:Int):CP 285 #[.pointer (some ⟨p,0,none⟩),.int .i64 a,.int .i64 b] w fun e w'=>e= .returned (.tuple #[.int .i64 ((((au es).idxOf? (a,b)).map fun i=>((256+i:Nat):Int)).getD 0),.bool ((au es).idxOf? (a,b)).isSome])∧Below w.heap.size w w':=by
 obtain⟨l,mb,mp,most,h1,h2,h3,h4,h5,_⟩:=h;refine aU (yx (some ⟨p,0,none⟩) a b w) ?_;refine aa.no rfl (ae.mk _ rfl ⟨some mp,by rw [af p w h1];rfl,?_⟩);have hl:=jP HP AX gu h5 (a,b);rw [Be]at hl;cases hx:(au es).idxOf? (a,b)with
 |none=>rw [hx]at hl;exact⟨0,false,w,hl,rfl,Below.refl _ _⟩
 |some i=>rw [hx]at hl;exact⟨_,true,w,hl,rfl,Below.refl _ _⟩
structure gW (es:List bl):Prop where
 low:es.take 256=bf
 len:256≤es.length
 most:es.length≤1000
 step:∀(i:Nat) (e:bl),es[i]? =some e→256≤i→(0≤e.2.1∧e.2.1<i)∧(0≤e.2.2∧e.2.2<i)∧e.1=aX es e.2.1++aX es e.2.2
 short:∀e∈es,e.1.length≤64
 nodup:(es.map (·.1)).Nodup
def bu (es:List bl) (m:Int×Int):Bs:=aX es m.1++aX es m.2
def bj (es:List bl) (m:Int×Int):Except Int bl:=
 if ¬(cq es m.1∧cq es m.2)then .error 4
 else if 64< (bu es m).length then .error 3
 else if 1000≤es.length then .error 5
 else if bu es m∈es.map (·.1)then .error 10
 else .ok (bu es m,m)
theorem gn {es:List bl} (x:bl) {id:Int} (h:cq es id):aX (es++ [x]) id=aX es id:=by
 have:=h.1;have:=h.2;simp only [aX];rw [List.getElem?_append_left (by omega)]
theorem iQ {es:List bl} (h:gW es) {m:Int×Int} {x:bl} (hx:bj es m= .ok x):gW (es++ [x])∧x.2=m∧cq es m.1∧cq es m.2:=by
 unfold bj at hx;split at hx
 ·cases hx
 ·rename_i h1;split at hx
  ·cases hx
  ·rename_i h2;split at hx
   ·cases hx
   ·rename_i h3;split at hx
    ·cases hx
    ·rename_i h4;cases hx;have h1:cq es m.1∧cq es m.2:=Classical.not_not.1 h1;refine⟨⟨by rw [List.take_append_of_le_length h.len];exact h.low,by have:=h.len;simp;omega,by simp;omega,fun i e hi h256=>?_,fun e he=>?_,?_⟩,rfl,h1.1,h1.2⟩
     ·rcases Nat.lt_trichotomy i es.length with hl |hl |hl
      ·rw [List.getElem?_append_left hl]at hi;obtain⟨ha,hb,hc⟩:=h.step i e hi h256;refine⟨ha,hb,?_⟩;rw [gn _ ⟨ha.1,by omega⟩,gn _ ⟨hb.1,by omega⟩];exact hc
      ·subst hl;simp at hi;subst hi;refine⟨h1.1,h1.2,?_⟩;rw [gn _ h1.1,gn _ h1.2];rfl
      ·have:=(List.getElem?_eq_some_iff.1 hi).1;simp at this;omega
     ·rcases List.mem_append.1 he with he |he
      ·exact h.short e he
      ·rw [List.mem_singleton.1 he];exact Nat.le_of_not_lt h2
     ·rw [List.map_append,List.nodup_append];refine⟨h.nodup,by simp,fun a ha b hb=>?_⟩;simp at hb;subst hb;intro e;subst e;exact h4 ha
theorem Es {es:List bl} (h:gW es) {m:Int×Int} (hm:bu es m∉es.map (·.1)):gp m (lT es)=none:=by
 rw [sG];intro q hq e;simp only [lT,List.mem_map]at hq;obtain⟨⟨x,i⟩,hi,rfl⟩:=hq;simp only at e;have hi:=(List.mem_zipIdx_iff_le_and_getElem?_sub.1 hi);simp only [List.getElem?_drop]at hi;have hx:es[i]? =some x:=by
  have:=hi.2;rwa [show 256+(i-256)=i by omega]at this
 obtain⟨_,_,hc⟩:=h.step i x hx hi.1;apply hm;rw [bu, ←e, ←hc];exact List.mem_map.2 ⟨x,List.mem_of_getElem? hx,rfl⟩
theorem sw {s:Bs} {es:List bl} {v:Value} (h:gp s (kV es)=some v):∃n:Int,v= .int .i64 n:=by
 have:∀(m:List (Bs×Value)),(∀p∈m,∃n:Int,p.2= .int .i64 n)→gp s m=some v→∃n:Int,v= .int .i64 n:=by
  intro m;induction m with
  |nil=>intro _ h;cases h
  |cons p m ih=>
   intro hm h;simp only [gp]at h;split at h
   ·cases h;exact hm p (by simp)
   ·exact ih (fun q hq=>hm q (by simp [hq])) h
 refine this _ (fun p hp=>?_) h;simp only [kV,List.mem_map]at hp;obtain⟨x,_,rfl⟩:=hp;exact⟨_,rfl⟩
theorem dg {w:World} {p r:Nat} {c:Array Value} {T:TypeId} {fz:Nat×Nat} (h:w.heap[p]? =some (.cells c T fz)) {κ:Type} {kv:κ→Value} {m:List (κ×Value)} (hm:cv kv w r m):r≠p:=by
 rintro rfl;obtain⟨es,clock,hm,_⟩:=hm;rw [h]at hm;cases hm
theorem xc {P:Program} (a b:Int) (ts:Array TypeId) (t:TypeId) (w:World):(Builtin.max_ ts t #[.int .i64 a,.int .i64 b]).run P w= .ok (.int .i64 (if b>a then b else a)) w:=by
 simp [Builtin.max_,Builtin.max2]
def uj (w:World) (B p:Nat) (es:List bl) (m:Int×Int) (v:Value) (w':World):Prop:=Below B w w'∧match bj es m with
 | .error n=>v= .tuple #[.int .i64 0,.int .i64 n]∧gi w' B p es
 | .ok x=>v= .tuple #[.int .i64 es.length,.int .i64 0]∧gi w' B p (es++ [x])
theorem oB (w:World) (B p:Nat) (es:List bl) (h:gi w B p es) (hok:gW es) (hB:B≤w.heap.size) (m:Int×Int):
  CP 240 #[.pointer (some ⟨p,0,none⟩),.agg #[.int .i64 m.1,.int .i64 m.2]] w fun e w'=>∃v,e= .returned v∧uj w B p es m v w':=by
 refine vz (some ⟨p,0,none⟩) m.1 m.2 w (uj w B p es m) ?_;rintro w1 hw1;have hb1:Below w.heap.size w w1:=by subst hw1;exact ag _ _
 have h1:=h.on hb1;have hcell:∀j,w1.cell? ((nb w).add j)=(#[Value.int .i64 m.1,Value.int .i64 m.2]:Array Value)[j]? :=by
  intro j;subst hw1;rw [aA,Nat.zero_add,aT]
 refine aa.no rfl ⟨m.1,hcell 0,?_⟩;refine(jN w1 p es h1.is m.1).mono ?_;rintro e w2 ⟨rfl,hw⟩;subst hw;have fail:∀(n:Int) (w':World),bj es m= .error n→Below w2.heap.size w2 w'→uj w B p es m (.tuple #[.int .i64 0,.int .i64 n]) w':=by
  intro n w' hn hb;refine⟨(ab hb1 hb).mono hB,?_⟩;rw [hn];exact⟨rfl,h1.on hb⟩
 refine⟨_,rfl,aa.mk (fun h0=>?_) fun h0=>⟨m.2,hcell 1,?_⟩⟩
 ·have h0:¬cq es m.1:=by simpa using h0
  exact fail 4 _ (by rw [bj,if_pos fun h=>h0 h.1]) (Below.refl _ _)
 have i1:cq es m.1:=by simpa using h0
 refine(jN w2 p es h1.is m.2).mono ?_;rintro e w3 ⟨rfl,hw⟩;subst hw;refine⟨_,rfl,aa.mk (fun h0=>?_) fun h0=>?_⟩
 ·have h0:¬cq es m.2:=by simpa using h0
  exact fail 4 _ (by rw [bj,if_pos fun h=>h0 h.2]) (Below.refl _ _)
 have i2:cq es m.2:=by simpa using h0
 rintro w4 hw4;have hb4:Below w3.heap.size w3 w4:=by subst hw4;exact(Below.refl _ _).drew
 have hh4:w4.heap=w3.heap:=by subst hw4;rfl
 obtain⟨l,mb,mp,most,hT,hm0,hm1,hm2⟩:=h1.on hb4;have hcell4:∀j,w4.cell? ((nb w).add j)=(#[Value.int .i64 m.1,Value.int .i64 m.2]:Array Value)[j]? :=fun j=>by
  rw [hb4.cell (by rw [aq];subst hw1;rw [ax];exact Nat.lt_succ_self _)];exact hcell j
 have hrow:=(Rw.of_own hT.row qu (by decide)).1;obtain⟨x1,hx1,e1⟩:=dY i1;obtain⟨x2,hx2,e2⟩:=dY i2;obtain⟨a1,ha1,_,hc1⟩:=hrow _ x1 hx1;obtain⟨a2,ha2,_,hc2⟩:=hrow _ x2 hx2;have hlen:=hT.len;have:=i1.1;have:=i1.2;have:=i2.1;have:=i2.2;have s1:=hok.short x1 (List.mem_of_getElem? hx1);have s2:=hok.short x2 (List.mem_of_getElem? hx2);have hlen0:w4.cell? ((⟨p,0,none⟩:Addr).add 0)=some (.slice l.a l.n l.c):=by rw [af p _ hT.blk];rfl
 refine ae.mk _ rfl ⟨l.a,l.n,l.c,hlen0,m.1,hcell4 0,ae.mk a1 ha1 ⟨by omega,by omega,str x1.1,hc1 0 _ rfl,ae.mk _ rfl ⟨l.a,l.n,l.c,hlen0,m.2,hcell4 1,ae.mk a2 ha2 ⟨by omega,by omega,str x2.1,hc2 0 _ rfl,?_⟩⟩⟩⟩;have hj:str x1.1++str x2.1=str (bu es m):=by rw [bL,bu,e1,e2]
 have hjl:(bu es m).length=x1.1.length+x2.1.length:=by rw [bu,e1,e2,List.length_append]
 rw [hj];refine⟨by rw [aj,aj];show _≤(9223372036854775807:Int);omega,aa.mk (fun h0=>?_) fun h0=>?_⟩
 ·have h0:=of_decide_eq_true h0;rw [aj]at h0;exact fail 3 _ (by rw [bj,if_neg (Classical.not_not.2 ⟨i1,i2⟩),if_pos (by omega)]) hb4
 have hs:=of_decide_eq_false h0;rw [aj]at hs;have hs:¬64< (bu es m).length:=by omega
 refine ae.mk _ rfl ⟨l.a,l.n,l.c,hlen0,aa.mk (fun h0=>?_) fun h0=>?_⟩
 ·have h0:=of_decide_eq_true h0;exact fail 5 _ (by rw [bj,if_neg (Classical.not_not.2 ⟨i1,i2⟩),if_neg hs,if_pos (by omega)]) hb4
 have h0:=of_decide_eq_false h0;have hk:¬1000≤es.length:=by omega
 refine ae.mk _ rfl ⟨some mb,by rw [af p _ hT.blk];rfl,?_⟩;have hl:=jP wo mK gu hT.bytes (bu es m);cases hx:gp (bu es m) (kV es)with
 |some v=>
  obtain⟨n,rfl⟩:=sw hx;rw [hx]at hl;refine⟨n,true,w4,hl,aa.yes rfl ?_⟩;have hmem:bu es m∈es.map (·.1):=by
   rcases Classical.em (bu es m∈es.map (·.1))with h |h
   ·exact h
   ·have:gp (bu es m) (kV es)=none:=ng.2 fun e he he'=>h (List.mem_map.2 ⟨e,he,he'⟩);rw [this]at hx;cases hx
  exact fail 10 _ (by rw [bj,if_neg (Classical.not_not.2 ⟨i1,i2⟩),if_neg hs,if_neg hk,if_pos hmem]) hb4
 |none=>
  rw [hx]at hl;have hnew:bu es m∉es.map (·.1):=fun h=>by
   obtain⟨e,he,he'⟩:=List.mem_map.1 h;exact ng.1 hx e he he'
  have hadd:bj es m= .ok (bu es m,m):=by rw [bj,if_neg (Classical.not_not.2 ⟨i1,i2⟩),if_neg hs,if_neg hk,if_neg hnew]
  refine⟨0,false,w4,hl,aa.no rfl (ae.mk _ rfl ⟨l.a,l.n,l.c,hlen0,?_⟩)⟩;rintro w6 hw6;have hh6:w6.heap=w4.heap:=by subst hw6;rfl
  have hb6:Below w4.heap.size w4 w6:=by subst hw6;exact(Below.refl _ _).drew
  have hcell6:∀j,w6.cell? ((nb w).add j)=(#[Value.int .i64 m.1,Value.int .i64 m.2]:Array Value)[j]? :=fun j=>by
   rw [hb6.cell (by rw [aq,hh4];subst hw1;rw [ax];exact Nat.lt_succ_self _)];exact hcell4 j
  have hblk6:w6.heap[p]? =some (.cells #[l.v,.map (some mb),.map (some mp),.int .i64 most] nz (0,0)):=by rw [hh6];exact hT.blk
  have hsz6:w6.heap.size=w.heap.size+1:=by rw [hh6,hh4];subst hw1;rw [ax]
  have hmbp:mb≠p:=dg hT.blk hT.bytes;have hmpp:mp≠p:=dg hT.blk hT.pairs;have hrow6:=aL hT.row hb6;obtain⟨a',c',w8,hr8,hu8,hf8,h9⟩:=eV (P:=Tryz.prog) (s:=l) 0 hblk6 (show 0<4 by decide) hrow6 hT.off hT.bp pL pE tz rfl (by decide) (fN (bu es m,m)) rfl (by
   intro v hv;simp only [fN,List.mem_cons,List.not_mem_nil,or_false]at hv;rcases hv with rfl |rfl |rfl<;>rfl) (by omega) (by omega)
  refine ae.mk _ rfl ⟨l.a,l.n,l.c,by rw [af p _ hblk6];rfl,m.1,m.2,⟨by have:=hcell6 0;rwa [an]at this,hcell6 1,trivial⟩,?_⟩;rintro w7 rfl;refine⟨⟨by rw [(ag w6 _).cell (by rw [aq];exact(Array.getElem?_eq_some_iff.1 hblk6).1),af p _ hblk6];rfl,trivial⟩,a',l.n+1,c',w8,hr8,ae.mk _ rfl ⟨rfl,hu8,hf8,?_⟩⟩;intro w9 hw9;obtain⟨hblk9,hrow9,hoff9,hB9,hkeep9,hsz9⟩:=h9 w9 hw9;rintro w10 hw10;have hh10:w10.heap=w9.heap:=by subst hw10;rfl
  have hblk10:w10.heap[p]? =some (.cells #[.slice a' (l.n+1) c',.map (some mb),.map (some mp),.int .i64 most] nz (0,0)):=by rw [hh10];exact hblk9
  have hmbl:mb<w6.heap.size:=by rw [hh6];exact hT.bytes.lt
  have hmpl:mp<w6.heap.size:=by rw [hh6];exact hT.pairs.lt
  have hbm6:cv ez w6 mb (kV es):=hT.bytes.same (by rw [hh6]);have hpm6:cv dq w6 mp (lT es):=hT.pairs.same (by rw [hh6]);have hbm10:cv ez w10 mb (kV es):=hbm6.same (by rw [hh10];exact hkeep9 mb hmbl hmbp (cC hrow6 hbm6));have hpm10:cv dq w10 mp (lT es):=hpm6.same (by rw [hh10];exact hkeep9 mp hmpl hmpp (cC hrow6 hpm6));have hloc:w6.heap[w.heap.size]? =some (.cells #[Value.int .i64 m.1,Value.int .i64 m.2] 85):=by
   rw [hh6,hh4];subst hw1;exact ao _ _
  have hlw:∀k,k<w.heap.size→w6.heap[k]? =w.heap[k]? :=fun k hk=>by rw [hh6,hh4];exact hb1.block k hk
  have hpw:p<w.heap.size:=h.is.lt;have hmbw:mb≠w.heap.size:=by
   rintro e;exact absurd (dg hloc hbm6) (fun h=>h e)
  have hmpw:mp≠w.heap.size:=by
   rintro e;exact absurd (dg hloc hpm6) (fun h=>h e)
  have hrw:l.v.ownBlock≠some w.heap.size:=by
   intro e;obtain⟨l0,_,_,_,hT0,_⟩:=h;have e1:l0=l:=by
    have:=hlw p hpw;rw [hblk6,hT0.blk]at this;have:=Option.some.inj this;simp only [Obj.cells.injEq,Array.mk.injEq,List.cons.injEq,Value.slice.injEq]at this;obtain⟨⟨⟨q1,q2,q3⟩,_⟩,_⟩:=this;cases l0;cases l;simp_all
   subst e1;have:=cn hT0.row _ e;omega
  have hloc9:w9.heap[w.heap.size]? =some (.cells #[Value.int .i64 m.1,Value.int .i64 m.2] 85):=by
   rw [hkeep9 w.heap.size (by omega) (by omega) hrw];exact hloc
  have agg:∀w':World,w'.heap[w.heap.size]? =w9.heap[w.heap.size]? →w'.cell? (nb w)=some (Value.int .i64 m.1)∧w'.cell? ((nb w).add 1)=some (Value.int .i64 m.2)∧True:=by
   intro w' hw';rw [hloc9]at hw';exact⟨by have:=af _ _ hw' 0;rwa [an]at this,af _ _ hw' 1,trivial⟩
  obtain⟨k1,w11,hr11,hp11,hs11,hz11,hB11⟩:=fT wo mK gu hbm10 (bu es m) hx;obtain⟨w12,hr12,hm12,hs12,hz12,hB12⟩:=fQ AJ hp11 (.int .i64 (l.n:Int));have hpm12:cv dq w12 mp (lT es):=hpm10.same (by rw [hs12 mp hT.ne.symm,hs11 mp hT.ne.symm]);obtain⟨k2,w13,hr13,hp13,hs13,hz13,hB13⟩:=fT HP AX gu hpm12 m (Es hok hnew);obtain⟨w14,hr14,hm14,hs14,hz14,hB14⟩:=fQ Hv hp13 (.int .i64 (l.n:Int));have h10:∀k,k≠mb→k≠mp→w14.heap[k]? =w9.heap[k]? :=fun k h1 h2=>by rw [hs14 k h2,hs13 k h2,hs12 k h1,hs11 k h1,hh10]
  refine ae.mk _ rfl ⟨some mb,by rw [af p _ hblk10];rfl,ae.mk _ rfl ⟨some mp,by rw [af p _ hblk10];rfl,m.1,m.2,agg w10 (by rw [hh10]),0,k1,w11,hr11,agg w11 (by rw [hs11 _ (Ne.symm hmbw),hh10]),w12,hr12,agg w12 (by rw [hs12 _ (Ne.symm hmbw),hs11 _ (Ne.symm hmbw),hh10]),0,k2,w13,hr13,w14,hr14,?_⟩⟩;have hblk14:w14.heap[p]? =some (.cells #[.slice a' (l.n+1) c',.map (some mb),.map (some mp),.int .i64 most] nz (0,0)):=by
   rw [h10 p (Ne.symm hmbp) (Ne.symm hmpp)];exact hblk9
  refine ae.mk _ rfl ⟨most,by rw [af p _ hblk14];rfl,_,w14,xc _ _ _ _ _,ae.mk _ rfl ⟨rfl,⟨_,by rw [af p _ hblk14];rfl⟩,a_ hblk14,?_⟩⟩;rintro w16 rfl;refine⟨?_,?_⟩
  ·refine bg (hB14 _ _ hT.bm (hB13 _ _ hT.bm (hB12 _ _ hT.bb (hB11 _ _ hT.bb ?_)))) hT.bp _;have:Below B w w9:=hB9 w (((ab hb1 hb4).trans ((hb6.mono (by rw [hh4];subst hw1;rw [ax];omega)))).mono hB);subst hw10;exact this.drew
  ·rw [hadd];refine⟨by rw [hlen],⟨a',l.n+1,c'⟩,mb,mp,_,⟨bo hblk14 _,?_,by simp;omega,hoff9,?_,?_,hT.bp,hT.bb,hT.bm,hT.ne⟩,?_⟩
   ·have hflat:(es++ [(bu es m,m)]).flatMap fN=es.flatMap fN++fN (bu es m,m):=by simp
    rw [hflat];refine db (bD hrow9 fun k hk=>h10 k ?_ ?_) _ (by rw [aq];exact hoff9)
    ·rintro rfl;refine cC hrow9 (?_:cv ez w9 _ (kV es)) hk;exact hbm10.same (by rw [hh10])
    ·rintro rfl;refine cC hrow9 (?_:cv dq w9 _ (lT es)) hk;exact hpm10.same (by rw [hh10])
   ·rw [tv, ←hlen];exact hm12.same (by rw [ay (by rw [aq];exact hmbp),hs14 _ hT.ne,hs13 _ hT.ne])
   ·rw [BW _ _ hok.len, ←hlen];exact hm14.same (by rw [ay (by rw [aq];exact hmpp)])
   ·rw [aj];refine⟨by split<;>omega,by split<;>omega,fun e he=>?_⟩
    rcases List.mem_append.1 he with he |he
    ·have:=hm2 e he;split<;>omega
    ·rw [List.mem_singleton.1 he];show((bu es m).length:Int)≤_;split<;>omega
theorem tm {i j:Nat} (hi:i<256) (hj:j<256) (h:UInt8.ofNat i=UInt8.ofNat j):i=j:=by
 have:=congrArg UInt8.toNat h;simp at this;omega
theorem Aw (w:World):CP 241 #[] w fun e w'=>∃p,e= .returned (.pointer (some ⟨p,0,none⟩))∧gi w' w.heap.size p bf∧Below w.heap.size w w':=by
 refine aU (xO w) ?_;refine⟨some w.heap.size,_,m_ _,some (w.alloc (.map #[] 0)).heap.size,_,m_ _,?_⟩;rintro w3 hw3;have hz1:(w.alloc (.map #[] 0)).heap.size=w.heap.size+1:=ax _ _;have hz2:((w.alloc (.map #[] 0)).alloc (.map #[] 0)).heap.size=w.heap.size+2:=by rw [ax,hz1]
 have hb3:Below w.heap.size w w3:=by
  subst hw3;exact(((Below.refl _ _).alloc (Nat.le_refl _) _).alloc (by omega) _).alloc (by omega) _
 have hT3:gi w3 w.heap.size (w.heap.size+2) ((List.range 0).map b_):=by
  subst hw3;refine⟨⟨none,0,0⟩,w.heap.size,w.heap.size+1,1,⟨?_,co _ _ _ _,rfl,(by intro h;cases h),?_,?_,by omega,by omega,by omega,by omega⟩,by omega,by omega,by simp⟩
  ·have:=ao ((w.alloc (.map #[] 0)).alloc (.map #[] 0)) (.cells #[Value.slice none 0 0,Value.map (some w.heap.size),Value.map (some (w.alloc (.map #[] 0)).heap.size),Value.int .i64 1] nz);rw [hz2]at this;rw [this,hz1]
  ·exact(pt (kv:=ez) w).same (by rw [cN _ _ (by omega),cN _ _ (by omega)])
  ·have h0:=pt (kv:=dq) (w.alloc (.map #[] 0));rw [hz1]at h0;exact h0.same (by rw [cN _ _ (by omega)])
 have hp2:nb ((w.alloc (.map #[] 0)).alloc (.map #[] 0))=⟨w.heap.size+2,0,none⟩:=by rw [nb,hz2]
 rw [hp2];intro I hI;have key:=aK (α:=World) 256 (fun i x=>gi x w.heap.size (w.heap.size+2) ((List.range i).map b_)∧Below w.heap.size w x) (fun i x=>I [.int .i64 (i:Int)] x) w3 ⟨hT3,hb3⟩ ?_ ?_
 ·exact key
 ·rintro i hi ih w4 ⟨⟨l,mb,mp,most,hT,hm⟩,hB⟩;refine hI _ _ (aa.yes (by simp;omega) ?_);have hwr:IntKind.wrap .u8 (i:Int)=(i:Int):=bY (by show(0:Int)≤_;omega) (by show _≤(255:Int);omega);rw [hwr];rintro w5 rfl;have hb5:=ag w4 (.cells #[Value.int .u8 (i:Int)] 5);refine⟨_,_,mo (P:=Tryz.prog) (by kernel_rfl) (by kernel_rfl) (by kernel_rfl) w4 i hi,?_⟩;have hblk:=ah hb5 hT.blk;refine⟨l.a,l.n,l.c,by rw [af _ _ hblk];rfl,?_⟩;rintro w7 rfl;have hrow5:=aL hT.row hb5;have hbm5:=hT.bytes.on hb5;have hpm5:=hT.pairs.on hb5;have hlen:l.n=i:=by rw [hT.len];simp
  obtain⟨a',c',w8,hr8,hu8,hf8,h9⟩:=eV (P:=Tryz.prog) (s:=l) 0 hblk (show 0<4 by decide) hrow5 hT.off hT.bp pL pE tz rfl (by decide) (fN (b_ i)) rfl (by
   intro v hv;simp only [fN,List.mem_cons,List.not_mem_nil,or_false]at hv;rcases hv with rfl |rfl |rfl<;>rfl) (by omega) (by omega)
  refine⟨a',l.n+1,c',w8,hr8,rfl,hu8,hf8,?_⟩;intro w9 hw9;obtain⟨hblk9,hrow9,hoff9,hB9,hkeep9,hsz9⟩:=h9 w9 hw9;have hmbp:mb≠w.heap.size+2:=dg hblk hbm5;have hmpp:mp≠w.heap.size+2:=dg hblk hpm5;have hbm9:cv ez w9 mb (kV ((List.range i).map b_)):=hbm5.same (hkeep9 mb hbm5.lt hmbp (cC hrow5 hbm5));have hpm9:cv dq w9 mp (lT ((List.range i).map b_)):=hpm5.same (hkeep9 mp hpm5.lt hmpp (cC hrow5 hpm5));refine⟨some mb,by rw [af _ _ hblk9];rfl,?_⟩;obtain⟨w10,hr10,hm10,hs10,hz10,hB10⟩:=xF wo mK hbm9 [UInt8.ofNat i] (.int .i64 (i:Int)) (ng.2 fun e he heq=>by
   obtain⟨j,hj,rfl⟩:=List.mem_map.1 he;have hj:=List.mem_range.1 hj;have:=tm (by omega) hi (List.cons.inj heq).1;omega)
  have hrange:(List.range (i+1)).map b_=(List.range i).map b_++ [b_ i]:=by rw [List.range_succ];simp
  refine⟨w10,hr10,Ar.ok64 (by omega) (by omega) (ih w10 ⟨⟨⟨a',l.n+1,c'⟩,mb,mp,most,⟨?_,?_,by simp [hlen],hoff9,?_,?_,hT.bp,hT.bb,hT.bm,hT.ne⟩,hm.1,hm.2.1,?_⟩,?_⟩)⟩
  ·rw [hs10 _ (Ne.symm hmbp)];exact hblk9
  ·rw [hrange];have hflat:((List.range i).map b_++ [b_ i]).flatMap fN=((List.range i).map b_).flatMap fN++fN (b_ i):=by simp
   rw [hflat];refine bD hrow9 fun k hk=>hs10 k ?_;rintro rfl;exact cC hrow9 hbm9 hk
  ·rw [hrange,tv];simpa [b_]using hm10
  ·rw [hrange,qF _ (by simp;omega)];rw [qF _ (by simp;omega)]at hpm9;exact hpm9.same (hs10 _ (Ne.symm hT.ne))
  ·intro e he;rw [hrange]at he;rcases List.mem_append.1 he with he |he
   ·exact hm.2.2 e he
   ·rw [List.mem_singleton.1 he];exact hm.1
  ·exact hB10 _ _ hT.bb (hB9 w (hB.alloc hB.size _))
 ·rintro w4 ⟨hT,hB⟩;exact hI _ _ (aa.no (by simp) ⟨_,rfl,hT,hB⟩)
theorem rd {i:Nat} {e:bl} (h:bf[i]? =some e):i<256∧e=b_ i:=by
 simp only [bf,List.getElem?_map,List.getElem?_range]at h;have hi:i<256:=by
  rcases Nat.lt_or_ge i 256 with h' |h'
  ·exact h'
  ·rw [List.getElem?_eq_none (by simpa using h')]at h;cases h
 rw [List.getElem?_range hi]at h;exact⟨hi,(Option.some.inj h).symm⟩
theorem kw:gW bf:=by
 refine⟨List.take_of_length_le (by simp [bf]),by simp [bf],by simp [bf],fun i e hi h256=>?_,fun e he=>?_,?_⟩
 ·have:=(rd hi).1;omega
 ·obtain⟨i,hi,rfl⟩:=List.getElem_of_mem he;rw [(rd (List.getElem?_eq_getElem hi)).2];simp [b_]
 ·simp only [bf,List.map_map,List.Nodup];rw [List.pairwise_map];refine List.Pairwise.imp_of_mem ?_ (List.nodup_range (n:=256));intro i j hi hj hne h;simp only [Function.comp,b_,List.cons.injEq,and_true]at h;exact hne (tm (List.mem_range.1 hi) (List.mem_range.1 hj) h)
def bG:List bl→Nat→List (Int×Int)→Except (Nat×Int) (List bl)
 |es,_,[]=>.ok es
 |es,i,m::r=>match bj es m with
  | .error n=>.error (i,n)
  | .ok x=>bG (es++ [x]) (i+1) r
def AY (w:World) (ms:List (Int×Int)) (v:Value) (w':World):Prop:=Below w.heap.size w w'∧match bG bf 0 ms with
 | .error q=>v= .tuple #[.pointer none,.int .i64 q.1,.int .i64 q.2]
 | .ok es=>∃p,v= .tuple #[.pointer (some ⟨p,0,none⟩),.int .i64 ms.length,.int .i64 0]∧gi w' w.heap.size p es∧gW es
theorem dV {es:List bl} {m:Int×Int} {n:Int} (h:bj es m= .error n):n≠0:=by
 unfold bj at h
 repeat' split at h
 all_goals (cases h;try decide)
theorem oE (w:World) (a:Option Addr) (c:Nat) (ms:List (Int×Int)) (hr:Rw aD 2 w a ms) (hl:ms.length≤1000000000):
  CP 189 #[.slice a ms.length c] w fun e w'=>∃v,e= .returned v∧AY w ms v w':=by
 refine wd a ms.length c w (AY w ms) ?_;refine(Aw w).mono ?_;rintro e w1 ⟨p,rfl,hT,hB⟩;refine⟨_,rfl,?_⟩;intro I hI;have key:=aK (α:=Int×Int×Option Addr×World) ms.length (fun i x=>∃es,gi x.2.2.2 w.heap.size p es∧gW es∧bG bf 0 ms=bG es i (ms.drop i)∧Below w.heap.size w x.2.2.2) (fun i x=>I [.int .i64 (i:Int),.int .i64 x.1,.int .i64 x.2.1,.pointer x.2.2.1] x.2.2.2) (0,0,none,w1) ⟨bf,hT,kw,by rw [List.drop_zero],hB⟩ ?_ ?_
 ·exact key
 ·rintro i hi ih ⟨y4,y3,y2,w2⟩ ⟨es,hT,hok,heq,hB⟩;change gi w2 _ _ _ at hT;change Below w.heap.size w w2 at hB;obtain⟨q,hq,_,hc⟩:=(hr.on hB) i _ (List.getElem?_eq_getElem hi);have h0:=hc 0 _ rfl;rw [an]at h0;refine hI _ _ _ _ _ (aa.yes (by simp;omega) (ae.mk q hq ⟨by omega,by omega,_,_,⟨h0,hc 1 _ rfl,trivial⟩,?_⟩));intro w3 hw3;refine aJ [.int .i64 0,.int .i64 0] [.int .i64 ms[i].1,.int .i64 ms[i].2] rfl (cZ _ _) w3 hw3 ?_;intro w4 h4 hz4 hB4;refine⟨_,_,⟨by have:=af _ _ h4 0;rw [an]at this;exact this,af _ _ h4 1,trivial⟩,?_⟩;refine(oB w4 w.heap.size p es (hT.on hB4) hok (by have h1:w.heap.size≤w2.heap.size:=hB.size;have h2:w4.heap.size=w2.heap.size+1:=hz4;omega) ms[i]).mono ?_;rintro e w5 ⟨v,rfl,hB5,hpost⟩;have hdrop:ms.drop i=ms[i]::ms.drop (i+1):=(List.drop_eq_getElem_cons hi);have hB6:Below w.heap.size w w5:=(hB.trans (hB4.mono hB.size)).trans hB5;cases hx:bj es ms[i]with
  |error n=>
   rw [hx]at hpost;obtain⟨rfl,_⟩:=hpost;refine⟨_,_,rfl,aa.yes (by simpa using dV hx) ⟨hB6,?_⟩⟩;rw [heq,hdrop,bG,hx]
  |ok x=>
   rw [hx]at hpost;obtain⟨rfl,hT'⟩:=hpost;refine⟨_,_,rfl,aa.no (by simp) (Ar.ok64 (by omega) (by omega) (ih (y4,y3,y2,w5) ⟨_,hT',(iQ hok hx).1,?_,hB6⟩))⟩;rw [heq,hdrop,bG,hx]
 ·rintro⟨y4,y3,y2,w2⟩ ⟨es,hT,hok,heq,hB⟩;refine hI _ _ _ _ _ (aa.no (by simp) ⟨hB,?_⟩);rw [heq,List.drop_length,bG];exact⟨p,rfl,hT,hok⟩
theorem nD {α κ:Type} [DecidableEq κ] [BEq κ] [LawfulBEq κ] (f:α→κ) (m:κ):∀(l:List α) (k:Nat),gp m ((l.zipIdx k).map fun x=>(f x.1,Value.int .i64 (x.2:Int)))=((l.map f).idxOf? m).map fun i=>Value.int .i64 ((k+i:Nat):Int)
 | [],k=>rfl
 |e::l,k=>by
  simp only [List.zipIdx_cons,List.map_cons,gp,List.idxOf?_cons];by_cases h:m=f e
  ·simp [h]
  ·rw [if_neg h,nD f m l (k+1)];have:(f e==m)=false:=by simp;exact fun e'=>h e'.symm
   rw [this];simp only [Bool.false_eq_true,if_false,Option.map_map];congr 1;funext i;simp;omega
def vn (xs:List (Int×Bs)):List (Int×Value):=xs.zipIdx.map fun x=>(x.1.1,.int .i64 (x.2:Int))
def ua (xs:List (Int×Bs)):List (Bs×Value):=xs.zipIdx.map fun x=>(x.1.2,.int .i64 (x.2:Int))
theorem Br (xs:List (Int×Bs)) (x:Int×Bs):vn (xs++ [x])=vn xs++ [(x.1,.int .i64 (xs.length:Int))]:=by simp [vn,List.zipIdx_append]
theorem B4 (xs:List (Int×Bs)) (x:Int×Bs):ua (xs++ [x])=ua xs++ [(x.2,.int .i64 (xs.length:Int))]:=by simp [ua,List.zipIdx_append]
theorem nI (xs:List (Int×Bs)) (k:Int):gp k (vn xs)=((xs.map (·.1)).idxOf? k).map fun i:Nat=>Value.int .i64 (i:Int):=by
 have:=nD (fun x:Int×Bs=>x.1) k xs 0;simpa [vn]using this
theorem tl (xs:List (Int×Bs)) (k:Bs):gp k (ua xs)=((xs.map (·.2)).idxOf? k).map fun i:Nat=>Value.int .i64 (i:Int):=by
 have:=nD (fun x:Int×Bs=>x.2) k xs 0;simpa [ua]using this
theorem ko {κ:Type} [BEq κ] [LawfulBEq κ] {l:List κ} {k:κ}:(l.idxOf? k).isSome=true↔k∈l:=by
 cases h:l.idxOf? k with
 |none=>
  have:=List.idxOf?_eq_none_iff.1 h;simp [this]
 |some i=>
  have:k∈l:=by
   rcases Classical.em (k∈l)with h' |h'
   ·exact h'
   ·rw [List.idxOf?_eq_none_iff.2 h']at h;cases h
  simp [this]
abbrev tY:TypeId:=250
abbrev Dr:TypeId:=108
theorem tS:Tryz.prog.underlying Dr=some (.map cE cE):=by kernel_rfl
def ji (xs:List (Int×Bs)):Int:=xs.foldl (fun n x=>if(x.2.length:Int)>n then(x.2.length:Int)else n) 0
def mC (xs:List (Int×Bs)) (i:Nat):Bool:=xs.any fun x=>x.2.head?.map (·.toNat)==some i
structure vg (c:Array Value) (l:Sl) (mi mt:Nat) (xs:List (Int×Bs)):Prop where
 size:c.size=260
 c0:c[0]? =some l.v
 c1:c[1]? =some (.map (some mi))
 c2:c[2]? =some (.map (some mt))
 most:c[259]? =some (.int .i64 (ji xs))
 first:∀i,i<256→c[3+i]? =some (.bool (mC xs i))
structure pK (w:World) (B p:Nat) (l:Sl) (mi mt:Nat) (c:Array Value) (xs:List (Int×Bs)):Prop where
 blk:w.heap[p]? =some (.cells c tY (0,0))
 cells:vg c l mi mt xs
 row:w.ownsRow B kU 2 l.v l.n (xs.flatMap av)
 len:l.n=xs.length
 off:l.v.ownBlock≠some p
 ids:cv jW w mi (vn xs)
 texts:cv ez w mt (ua xs)
 bp:B≤p
 bi:B≤mi
 bt:B≤mt
 ne:mi≠mt
theorem pK.on {w w':World} {B p:Nat} {l:Sl} {mi mt:Nat} {c:Array Value} {xs:List (Int×Bs)} (h:pK w B p l mi mt c xs) (hb:Below w.heap.size w w'):pK w' B p l mi mt c xs:=
 ⟨ah hb h.blk,h.cells,aL h.row hb,h.len,h.off,h.ids.on hb,h.texts.on hb,h.bp,h.bi,h.bt,h.ne⟩
theorem ba (w:World):Below w.heap.size w w.drew:=(Below.refl _ _).drew
def pe (w:World) (B p:Nat) (xs:List (Int×Bs)):Prop:=∃l mi mt c,pK w B p l mi mt c xs
def un (w:World) (p:Nat) (xs:List (Int×Bs)):Prop:=∃(l:Sl) (mi mt:Nat) (c:Array Value),w.heap[p]? =some (.cells c tY (0,0))∧vg c l mi mt xs∧l.n=xs.length∧Rw av 2 w l.a xs∧cv jW w mi (vn xs)∧cv ez w mt (ua xs)
theorem un.on {w w':World} {p:Nat} {xs:List (Int×Bs)} (h:un w p xs) (hb:Below w.heap.size w w'):un w' p xs:=by
 obtain⟨l,mi,mt,c,h1,h2,h3,h4,h5,h6⟩:=h;exact⟨l,mi,mt,c,ah hb h1,h2,h3,h4.on hb,h5.on hb,h6.on hb⟩
theorem pe.on {w w':World} {B p:Nat} {xs:List (Int×Bs)} (h:pe w B p xs) (hb:Below w.heap.size w w'):pe w' B p xs:=by
 obtain⟨l,mi,mt,c,h⟩:=h;exact⟨l,mi,mt,c,ah hb h.blk,h.cells,aL h.row hb,h.len,h.off,h.ids.on hb,h.texts.on hb,h.bp,h.bi,h.bt,h.ne⟩
theorem pZ (x:Int×Bs):(av x).length=2:=rfl
theorem pe.is {w:World} {B p:Nat} {xs:List (Int×Bs)} (h:pe w B p xs):un w p xs:=by
 obtain⟨l,mi,mt,c,h⟩:=h;exact⟨l,mi,mt,c,h.blk,h.cells,h.len,(Rw.of_own h.row pZ (by decide)).1,h.ids,h.texts⟩
theorem un.lt {w:World} {p:Nat} {xs:List (Int×Bs)} (h:un w p xs):p<w.heap.size:=by
 obtain⟨l,mi,mt,c,h1,_⟩:=h;exact(Array.getElem?_eq_some_iff.1 h1).1
theorem sf (i:Nat) (hi:i≤1000000) (w:World):CP 160 #[.int .i64 (i:Int)] w fun e w'=>e= .returned (.int .i64 (-1- (i:Int)))∧w'=w:=by
 refine aU (vQ (i:Int) w) ?_;exact Ar.ok64 (by omega) (by omega) ⟨rfl,rfl⟩
def eN (xs:List (Int×Bs)) (id:Int):Option Nat:=(xs.map (·.1)).idxOf? id
theorem iD (w:World) (p:Nat) (xs:List (Int×Bs)) (h:un w p xs) (hx:xs.length≤1000000) (id:Int):CP 106 #[.pointer (some ⟨p,0,none⟩),.int .i64 id] w fun e w'=>e= .returned (.tuple #[.int .i64 (((eN xs id).map fun i:Nat=> -1- (i:Int)).getD 0),.bool (eN xs id).isSome])∧w'=w:=by
 obtain⟨l,mi,mt,c,h1,h2,h3,h4,h5,h6⟩:=h;refine aU (ou (some ⟨p,0,none⟩) id w) ?_;refine aa.no rfl (ae.mk _ rfl ⟨some mi,by rw [af p w h1];exact h2.c1,?_⟩);have hl:=jP Di tS gu h5 id;rw [nI]at hl;unfold eN;cases hx':(xs.map (·.1)).idxOf? id with
 |none=>
  rw [hx']at hl;exact⟨0,false,w,hl,aa.yes rfl ⟨rfl,rfl⟩⟩
 |some i=>
  rw [hx']at hl;have hi:i<xs.length:=by
   have:=(List.idxOf?_eq_some_iff.1 hx').1;simpa using this
  refine⟨_,true,w,hl,aa.no rfl ?_⟩;refine(sf i (by omega) w).mono ?_;rintro e w2 ⟨rfl,hw⟩;subst hw;exact⟨_,rfl,rfl,rfl⟩
theorem uy (w:World) (id:Int):CP 106 #[.pointer none,.int .i64 id] w fun e w'=>e= .returned (.tuple #[.int .i64 0,.bool false])∧w'=w:=by
 refine aU (ou none id w) ?_;exact aa.yes rfl ⟨rfl,rfl⟩
theorem ft (a:Int) (b:ByteArray):∀v∈ [Value.int .i64 a,Value.string b],v.oneCell'=true:=by
 intro v hv;simp only [List.mem_cons,List.not_mem_nil,or_false]at hv;rcases hv with rfl |rfl<;>rfl
theorem lf (w w1:World) (x:Int×Bs) (hw1:w1=w.alloc (.cells #[.int .i64 x.1,.string (str x.2)] kU)) (j:Nat):w1.cell? ((nb w).add j)=(#[Value.int .i64 x.1,Value.string (str x.2)]:Array Value)[j]? :=by
 subst hw1;rw [aA,Nat.zero_add,aT]
theorem ri (x:Int×Bs) (w:World):CP 242 #[.agg #[.int .i64 x.1,.string (str x.2)]] w fun e w'=>e= .returned (.bool (aY x))∧Below w.heap.size w w':=by
 refine az (wr x.1 (str x.2) w (fun v w'=>v= .bool (aY x)∧Below w.heap.size w w') ?_) (by rintro v w' ⟨rfl,h⟩;exact⟨rfl,h⟩);intro w1 hw1;have hb:Below w.heap.size w w1:=by subst hw1;exact ag _ _
 have hc:=lf w w1 x hw1;have off:aY x=false→(Value.bool false= .bool (aY x)∧Below w.heap.size w w1):=fun h=>⟨by rw [h],hb⟩;refine⟨x.1,hc 0,aa.mk (fun h1=>?_) fun h1=>off ?_⟩
 ·have h1:=of_decide_eq_true h1;refine⟨x.1,hc 0,aa.mk (fun h2=>?_) fun h2=>off ?_⟩
  ·have h2:=of_decide_eq_true h2;refine⟨_,hc 1,aa.mk (fun h3=>?_) fun h3=>off ?_⟩
   ·refine⟨_,hc 1,?_,hb⟩;congr 1;rw [aj];have:x.2≠ []:=by
     intro e;rw [e]at h3;simp at h3
    have:0<x.2.length:=List.length_pos_iff.2 this;unfold aY;exact decide_eq_decide.2 (by omega)
   ·have:x.2= []:=by
     rw [cr]at h3;simpa using h3
    unfold aY;exact decide_eq_false (by rw [this];simp)
  ·have h2:=of_decide_eq_false h2;unfold aY;exact decide_eq_false (by omega)
 ·have h1:=of_decide_eq_false h1;unfold aY;exact decide_eq_false (by omega)
def cf (xs:List (Int×Bs)) (x:Int×Bs):Int:=if aY x=false then 1 else if 32≤xs.length then 3 else if x.1∈xs.map (·.1)∨x.2∈xs.map (·.2)then 10 else 0
def qK (w:World) (B p:Nat) (xs:List (Int×Bs)) (x:Int×Bs) (v:Value) (w':World):Prop:=Below B w w'∧v= .int .i64 (cf xs x)∧(cf xs x=0→pe w' B p (xs++ [x]))
theorem xS (xs:List (Int×Bs)) (x:Int×Bs):ji (xs++ [x])=if(x.2.length:Int)>ji xs then(x.2.length:Int)else ji xs:=by simp [ji]
theorem uB (w:World) (B p:Nat) (xs:List (Int×Bs)) (h:pe w B p xs) (hB:B≤w.heap.size) (x:Int×Bs):
  CP 190 #[.pointer (some ⟨p,0,none⟩),.agg #[.int .i64 x.1,.string (str x.2)]] w fun e w'=>∃v,e= .returned v∧qK w B p xs x v w':=by
 refine wX (some ⟨p,0,none⟩) x.1 (str x.2) w (qK w B p xs x) ?_;intro w1 hw1;have hb1:Below w.heap.size w w1:=by subst hw1;exact ag _ _
 intro w2 hw2;have hb2:Below w.heap.size w w2:=by subst hw2;exact hb1.drew
 have hh2:w2.heap=w1.heap:=by subst hw2;rfl
 have hsz2:w2.heap.size=w.heap.size+1:=by rw [hh2];subst hw1;rw [ax]
 have hc2:∀j,w2.cell? ((nb w).add j)=(#[Value.int .i64 x.1,Value.string (str x.2)]:Array Value)[j]? :=by
  intro j;rw [←lf w w1 x hw1 j];subst hw2;rfl
 obtain⟨l,mi,mt,c,hM⟩:=h.on hb2;have hcell:∀j,w2.cell? ((⟨p,0,none⟩:Addr).add j)=c[j]? :=fun j=>af p _ hM.blk j;have hL:=jP Di tS gu hM.ids x.1;rw [nI]at hL;obtain⟨r0,r1,hr1,hL⟩:∃(r0:Int) (r1:Bool),(r1=true↔x.1∈xs.map (·.1))∧(Instr.lookup Dr (Value.map (some mi)) (jW x.1) true).run Tryz.prog w2= .ok (Value.tuple #[Value.int .i64 r0,Value.bool r1]) w2:=by
  have hm:=ko (l:=xs.map (·.1)) (k:=x.1);cases hx:(xs.map (·.1)).idxOf? x.1 with
  |none=>rw [hx]at hL hm;exact⟨0,false,hm,hL⟩
  |some i=>rw [hx]at hL hm;exact⟨_,true,hm,hL⟩
 refine ae.mk _ rfl ⟨some mi,by rw [hcell];exact hM.cells.c1,x.1,hc2 0,r0,r1,w2,hL,?_⟩;intro w4 hw4;have hh4:w4.heap=w2.heap:=by subst hw4;rfl
 have hb4:Below w.heap.size w w4:=by subst hw4;exact hb2.drew
 have hcell4:∀j,w4.cell? ((⟨p,0,none⟩:Addr).add j)=c[j]? :=fun j=>by rw [←hcell j];subst hw4;rfl
 have hc4:∀j,w4.cell? ((nb w).add j)=(#[Value.int .i64 x.1,Value.string (str x.2)]:Array Value)[j]? :=fun j=>by rw [←hc2 j];subst hw4;rfl
 have hM4:pK w4 B p l mi mt c xs:=by subst hw4;exact hM.on (ba _)
 have hL:=jP wo mK gu hM4.texts x.2;rw [tl]at hL;obtain⟨r4,r5,hr5,hL⟩:∃(r4:Int) (r5:Bool),(r5=true↔x.2∈xs.map (·.2))∧(Instr.lookup AJ (Value.map (some mt)) (ez x.2) true).run Tryz.prog w4= .ok (Value.tuple #[Value.int .i64 r4,Value.bool r5]) w4:=by
  have hm:=ko (l:=xs.map (·.2)) (k:=x.2);cases hx:(xs.map (·.2)).idxOf? x.2 with
  |none=>rw [hx]at hL hm;exact⟨0,false,hm,hL⟩
  |some i=>rw [hx]at hL hm;exact⟨_,true,hm,hL⟩
 refine ae.mk _ rfl ⟨some mt,by rw [hcell4];exact hM.cells.c2,_,hc4 1,r4,r5,w4,hL,x.1,_,⟨by have:=hc4 0;rwa [an]at this,hc4 1,trivial⟩,?_⟩;refine(ri x w4).mono ?_;rintro e w6 ⟨rfl,hb6'⟩;have hb6:Below w.heap.size w w6:=hb4.trans (hb6'.mono hb4.size);have hM6:pK w6 B p l mi mt c xs:=⟨ah hb6' hM4.blk,hM4.cells,aL hM4.row hb6',hM4.len,hM4.off,hM4.ids.on hb6',hM4.texts.on hb6',hM4.bp,hM4.bi,hM4.bt,hM4.ne⟩;have hcell6:∀j,w6.cell? ((⟨p,0,none⟩:Addr).add j)=c[j]? :=fun j=>af p _ hM6.blk j;have fail:∀n:Int,n≠0→cf xs x=n→qK w B p xs x (.int .i64 n) w6:=fun n h0 hn=>⟨hb6.mono hB,by rw [hn],fun h=>absurd (hn▸h) h0⟩;refine⟨_,rfl,aa.mk (fun h0=>fail 1 (by decide) ?_) fun h0=>?_⟩
 ·rw [cf,if_pos (by simpa using h0)]
 have hok:aY x=true:=by simpa using h0
 refine ae.mk _ rfl ⟨l.a,l.n,l.c,by rw [hcell6];exact hM.cells.c0,aa.mk (fun h1=>fail 3 (by decide) ?_) fun h1=>?_⟩
 ·have h1:=of_decide_eq_true h1;rw [cf,if_neg (by rw [hok];simp),if_pos (by rw [←hM.len];omega)]
 have h1:=of_decide_eq_false h1;have hlen:=hM.len;have hk:¬32≤xs.length:=by rw [←hlen];omega
 refine aa.mk (fun h2=>fail 10 (by decide) ?_) fun h2=>aa.mk (fun h3=>fail 10 (by decide) ?_) fun h3=>?_
 ·rw [cf,if_neg (by rw [hok];simp),if_neg hk,if_pos (.inl (hr1.1 h2))]
 ·rw [cf,if_neg (by rw [hok];simp),if_neg hk,if_pos (.inr (hr5.1 h3))]
 have n1:x.1∉xs.map (·.1):=fun h=>by rw [hr1.2 h]at h2;cases h2
 have n2:x.2∉xs.map (·.2):=fun h=>by rw [hr5.2 h]at h3;cases h3
 have hadd:cf xs x=0:=by rw [cf,if_neg (by rw [hok];simp),if_neg hk,if_neg (fun h=>h.elim n1 n2)]
 have hkl:1≤x.2.length∧x.2.length≤64:=by
  have:=of_decide_eq_true (by simpa [aY]using hok:decide _=true);omega
 intro w7 hw7;have hh7:w7.heap=w6.heap:=by subst hw7;rfl
 have hb7:Below w.heap.size w w7:=by subst hw7;exact hb6.drew
 have hM7:pK w7 B p l mi mt c xs:=by subst hw7;exact hM6.on (ba _)
 have hcell7:∀j,w7.cell? ((⟨p,0,none⟩:Addr).add j)=c[j]? :=fun j=>af p _ hM7.blk j;have hloc4:w4.heap[w.heap.size]? =some (.cells #[Value.int .i64 x.1,Value.string (str x.2)] kU):=by
  rw [hh4,hh2];subst hw1;exact ao _ _
 have hloc7:w7.heap[w.heap.size]? =some (.cells #[Value.int .i64 x.1,Value.string (str x.2)] kU):=by rw [hh7];exact ah hb6' hloc4
 have loc:∀w':World,w'.heap[w.heap.size]? =w7.heap[w.heap.size]? →∀j,w'.cell? ((nb w).add j)=(#[Value.int .i64 x.1,Value.string (str x.2)]:Array Value)[j]? :=fun w' hw' j=>by
  rw [hloc7]at hw';exact af _ _ hw' j
 have hpw:p<w.heap.size:=h.is.lt;have hmip:mi≠p:=dg hM7.blk hM7.ids;have hmtp:mt≠p:=dg hM7.blk hM7.texts;have hmiw:mi≠w.heap.size:=dg hloc7 hM7.ids;have hmtw:mt≠w.heap.size:=dg hloc7 hM7.texts;refine ae.mk _ rfl ⟨some mi,by rw [hcell7];exact hM.cells.c1,x.1,loc w7 rfl 0,ae.mk _ rfl ⟨some mt,by rw [hcell7];exact hM.cells.c2,_,loc w7 rfl 1,ae.mk _ rfl ⟨l.a,l.n,l.c,by rw [hcell7];exact hM.cells.c0,ae.mk _ rfl ⟨l.a,l.n,l.c,by rw [hcell7];exact hM.cells.c0,?_⟩⟩⟩⟩;obtain⟨k1,w8,hr8,hp8,hs8,hz8,hB8⟩:=fT Di tS gu hM7.ids x.1 (by rw [nI,List.idxOf?_eq_none_iff.2 n1];rfl);obtain⟨w9,hr9,hm9,hs9,hz9,hB9⟩:=fQ Dr hp8 (.int .i64 (l.n:Int));have ht9:cv ez w9 mt (ua xs):=hM7.texts.same (by rw [hs9 mt hM.ne.symm,hs8 mt hM.ne.symm]);obtain⟨k2,w10,hr10,hp10,hs10,hz10,hB10⟩:=fT wo mK gu ht9 x.2 (by rw [tl,List.idxOf?_eq_none_iff.2 n2];rfl);obtain⟨w11,hr11,hm11,hs11,hz11,hB11⟩:=fQ AJ hp10 (.int .i64 (l.n:Int));have hblk8:w8.heap[p]? =some (.cells c tY (0,0)):=by rw [hs8 p (Ne.symm hmip)];exact hM7.blk
 refine⟨0,k1,w8,hr8,⟨by rw [af p _ hblk8];exact hM.cells.c0,trivial⟩,⟨loc w8 (hs8 _ (Ne.symm hmiw)) 1,trivial⟩,w9,hr9,⟨loc w9 (by rw [hs9 _ (Ne.symm hmiw),hs8 _ (Ne.symm hmiw)]) 1,trivial⟩,0,k2,w10,hr10,w11,hr11,?_⟩;have h11:∀k,k≠mi→k≠mt→w11.heap[k]? =w7.heap[k]? :=fun k h1 h2=>by rw [hs11 k h2,hs10 k h2,hs9 k h1,hs8 k h1]
 have hsz7:w11.heap.size=w7.heap.size:=by rw [hz11,hz10,hz9,hz8]
 intro w12 hw12;have hh12:w12.heap=w11.heap:=by subst hw12;rfl
 have hblk12:w12.heap[p]? =some (.cells c tY (0,0)):=by rw [hh12,h11 p (Ne.symm hmip) (Ne.symm hmtp)];exact hM7.blk
 have hb12:Below B w w12:=by
  have:=hB11 _ _ hM.bt (hB10 _ _ hM.bt (hB9 _ _ hM.bi (hB8 _ _ hM.bi (hb7.mono hB))));subst hw12;exact this.drew
 have hw12':∀w':World,w'.heap[w.heap.size]? =w12.heap[w.heap.size]? →∀j,w'.cell? ((nb w).add j)=(#[Value.int .i64 x.1,Value.string (str x.2)]:Array Value)[j]? :=fun w' hw' j=>loc w' (by rw [hw',hh12,h11 _ (Ne.symm hmiw) (Ne.symm hmtw)]) j;obtain⟨b0,t0,hx0⟩:∃b0 t0,x.2=b0::t0:=by
  cases hx:x.2 with
  |nil=>rw [hx]at hkl;simp at hkl
  |cons a t=>exact⟨a,t,rfl⟩
 have hbt:btAt (str x.2) 0=(b0.toNat:Int):=by
  have:=cd x.2 0 (by omega);rw [show((0:Nat):Int)=0 from rfl]at this;rw [this];simp [hx0]
 have hb0:b0.toNat<256:=b0.toNat_lt;have hadr:((⟨p,0,none⟩:Addr).add 3).add ((b0.toNat:Int).toNat*1)=(⟨p,0,none⟩:Addr).add (3+b0.toNat):=by
  rw [aA,aA,aA];simp
 refine⟨_,hw12' w12 rfl 1,Int.le_refl _,by rw [aj];omega,ae.mk _ rfl ?_⟩;rw [hbt,hadr];refine⟨by omega,by omega,rfl,⟨_,by rw [af p _ hblk12];exact hM.cells.first _ hb0⟩,a_ hblk12,?_⟩;intro w13 hw13;have hblk13:w13.heap[p]? =some (.cells (c.setIfInBounds (3+b0.toNat) (.bool true)) tY (0,0)):=by subst hw13;exact bo hblk12 _
 have hb13:Below B w w13:=by subst hw13;exact bg hb12 hM.bp _
 have hs13:∀k,k≠p→w13.heap[k]? =w12.heap[k]? :=fun k hk=>by subst hw13;exact ay (by rw [aq];exact hk)
 have hz13:w13.heap.size=w12.heap.size:=by subst hw13;exact aO _ _ _
 intro w14 hw14;have hh14:w14.heap=w13.heap:=by subst hw14;rfl
 have hblk14:w14.heap[p]? =some (.cells (c.setIfInBounds (3+b0.toNat) (.bool true)) tY (0,0)):=by rw [hh14];exact hblk13
 have hcs:=hM.cells.size;refine ae.mk _ rfl ⟨ji xs,by rw [af p _ hblk14,Array.getElem?_setIfInBounds_ne (by omega)];exact hM.cells.most,_,hw12' w14 (by rw [hh14,hs13 _ (by omega)]) 1,_,w14,xc _ _ _ _ _,ae.mk _ rfl ⟨rfl,⟨_,by rw [af p _ hblk14,Array.getElem?_setIfInBounds_ne (by omega)];exact hM.cells.most⟩,a_ hblk14,?_⟩⟩;rw [aj, ←xS];intro w16 hw16;have hblk16:w16.heap[p]? =some (.cells ((c.setIfInBounds (3+b0.toNat) (.bool true)).setIfInBounds 259 (.int .i64 (ji (xs++ [x])))) tY (0,0)):=by subst hw16;exact bo hblk14 _
 have hb16:Below B w w16:=by
  subst hw16;refine bg ?_ hM.bp _;subst hw14;exact hb13.drew
 have hs16:∀k,k≠p→w16.heap[k]? =w12.heap[k]? :=fun k hk=>by
  rw [←hs13 k hk, ←hh14];subst hw16;exact ay (by rw [aq];exact hk)
 have hz16:w16.heap.size=w12.heap.size:=by rw [←hz13, ←hh14];subst hw16;exact aO _ _ _
 intro w17 hw17;have hh17:w17.heap=w16.heap:=by subst hw17;rfl
 have hb17:Below B w w17:=by subst hw17;exact hb16.drew
 have hblk17:w17.heap[p]? =some (.cells ((c.setIfInBounds (3+b0.toNat) (.bool true)).setIfInBounds 259 (.int .i64 (ji (xs++ [x])))) tY (0,0)):=by rw [hh17];exact hblk16
 have hc17:((c.setIfInBounds (3+b0.toNat) (.bool true)).setIfInBounds 259 (.int .i64 (ji (xs++ [x]))))[0]? =some l.v:=by
  rw [Array.getElem?_setIfInBounds_ne (by omega),Array.getElem?_setIfInBounds_ne (by omega)];exact hM.cells.c0
 have hsame:∀k,k≠p→k≠mi→k≠mt→w17.heap[k]? =w7.heap[k]? :=fun k h1 h2 h3=>by rw [hh17,hs16 k h1,hh12,h11 k h2 h3]
 have hrow17:w17.ownsRow B kU 2 l.v l.n (xs.flatMap av):=bD hM7.row fun k hk=>hsame k (fun e=>hM.off (e▸hk)) (fun e=>cC hM7.row hM7.ids (e▸hk)) (fun e=>cC hM7.row hM7.texts (e▸hk));have hi17:cv jW w17 mi (vn (xs++ [x])):=by
  rw [Br, ←hlen];exact hm9.same (by rw [hh17,hs16 _ hmip,hh12,hs11 _ hM.ne,hs10 _ hM.ne])
 have ht17:cv ez w17 mt (ua (xs++ [x])):=by
  rw [B4, ←hlen];exact hm11.same (by rw [hh17,hs16 _ hmtp,hh12])
 have hsz17:w7.heap.size=w17.heap.size:=by rw [hh17,hz16,hh12,hsz7]
 have hw17:w.heap.size<w17.heap.size:=by
  have:=(Array.getElem?_eq_some_iff.1 hloc7).1;omega
 have hc17':=hw12' w17 (by rw [hh17,hs16 _ (by omega)]);obtain⟨a',c',w19,hr19,hu19,hf19,h20⟩:=eV (P:=Tryz.prog) (s:=l) 0 hblk17 (by simp;omega) hrow17 hM.off hM.bp 25 jZ np rfl (by decide) (av x) rfl (ft _ _) (by omega) (by omega);refine ae.mk _ rfl ⟨l.a,l.n,l.c,by rw [af p _ hblk17];exact hc17,x.1,_,⟨by have:=hc17' 0;rwa [an]at this,hc17' 1,trivial⟩,?_⟩;rintro w18 rfl;refine⟨⟨by rw [(ag w17 _).cell (by rw [aq];exact(Array.getElem?_eq_some_iff.1 hblk17).1),af p _ hblk17];exact hc17,trivial⟩,a',l.n+1,c',w19,hr19,ae.mk _ rfl ⟨rfl,hu19,hf19,?_⟩⟩;intro w20 hw20;obtain⟨hblk20,hrow20,hoff20,hB20,hkeep20,hsz20⟩:=h20 w20 hw20;refine⟨hB20 w hb17,by rw [hadd],fun _=>⟨⟨a',l.n+1,c'⟩,mi,mt,_,hblk20,⟨by simp [hcs],?_,?_,?_,?_,?_⟩,?_,by simp;omega,hoff20,?_,?_,hM.bp,hM.bi,hM.bt,hM.ne⟩⟩
 ·rw [Array.getElem?_setIfInBounds_self_of_lt (by simp;omega)]
 ·rw [Array.getElem?_setIfInBounds_ne (by omega),Array.getElem?_setIfInBounds_ne (by omega),Array.getElem?_setIfInBounds_ne (by omega)];exact hM.cells.c1
 ·rw [Array.getElem?_setIfInBounds_ne (by omega),Array.getElem?_setIfInBounds_ne (by omega),Array.getElem?_setIfInBounds_ne (by omega)];exact hM.cells.c2
 ·rw [Array.getElem?_setIfInBounds_ne (by omega),Array.getElem?_setIfInBounds_self_of_lt (by simp;omega)]
 ·intro i hi;rw [Array.getElem?_setIfInBounds_ne (by omega),Array.getElem?_setIfInBounds_ne (by omega)];have hf:mC (xs++ [x]) i=(mC xs i||decide (b0.toNat=i)):=by
   simp [mC,hx0,Bool.beq_eq_decide_eq]
  rw [hf];by_cases he:b0.toNat=i
  ·subst he;rw [Array.getElem?_setIfInBounds_self_of_lt (by omega)];simp
  ·rw [Array.getElem?_setIfInBounds_ne (by omega),hM.cells.first i hi,decide_eq_false he,Bool.or_false]
 ·have hflat:(xs++ [x]).flatMap av=xs.flatMap av++av x:=by simp
  rw [hflat];exact hrow20
 ·exact hi17.same (hkeep20 mi hi17.lt hmip (cC hrow17 hi17))
 ·exact ht17.same (hkeep20 mt ht17.lt hmtp (cC hrow17 ht17))
def bn:List (Int×Bs)→Nat→List (Int×Bs)→Option (Nat×Int)
 |_,_,[]=>none
 |xs,i,x::r=>if cf xs x=0 then bn (xs++ [x]) (i+1) r else some (i,cf xs x)
def od (w:World) (xs:List (Int×Bs)) (v:Value) (w':World):Prop:=Below w.heap.size w w'∧match bn [] 0 xs with
 |some q=>v= .tuple #[.pointer none,.int .i64 q.1,.int .i64 q.2]
 |none=>∃p,v= .tuple #[.pointer (some ⟨p,0,none⟩),.int .i64 xs.length,.int .i64 0]∧pe w' w.heap.size p xs
theorem ug (w:World) (a:Option Addr) (c:Nat) (xs:List (Int×Bs)) (hr:Rw av 2 w a xs) (hl:xs.length≤1000000000):
  CP 131 #[.slice a xs.length c] w fun e w'=>∃v,e= .returned v∧od w xs v w':=by
 refine ym a xs.length c w (od w xs) ?_;refine⟨some w.heap.size,_,m_ _,some (w.alloc (.map #[] 0)).heap.size,_,m_ _,?_⟩;rintro w3 hw3;have hz1:(w.alloc (.map #[] 0)).heap.size=w.heap.size+1:=ax _ _;have hz2:((w.alloc (.map #[] 0)).alloc (.map #[] 0)).heap.size=w.heap.size+2:=by rw [ax,hz1]
 have hb3:Below w.heap.size w w3:=by
  subst hw3;exact(((Below.refl _ _).alloc (Nat.le_refl _) _).alloc (by omega) _).alloc (by omega) _
 have hT3:pe w3 w.heap.size (w.heap.size+2) (xs.take 0):=by
  subst hw3;refine⟨⟨none,0,0⟩,w.heap.size,w.heap.size+1,List.toArray ([Value.slice none 0 0,Value.map (some w.heap.size),Value.map (some (w.alloc (.map #[] 0)).heap.size)]++List.replicate 256 (Value.bool false)++ [Value.int .i64 0]),?_,⟨?_,rfl,rfl,?_,?_,?_⟩,co _ _ _ _,rfl,(by intro h;cases h),?_,?_,by omega,by omega,by omega,by omega⟩
  ·have:=ao ((w.alloc (.map #[] 0)).alloc (.map #[] 0)) (.cells (List.toArray ([Value.slice none 0 0,Value.map (some w.heap.size),Value.map (some (w.alloc (.map #[] 0)).heap.size)]++List.replicate 256 (Value.bool false)++ [Value.int .i64 0])) tY);rw [hz2]at this;exact this
  ·simp
  ·rw [←hz1];rfl
  ·rfl
  ·intro i hi;simp only [List.getElem?_toArray,List.append_assoc,List.cons_append,List.nil_append];rw [show 3+i=i+1+1+1 by omega];simp only [List.getElem?_cons_succ];rw [List.getElem?_append_left (by simpa using hi),List.getElem?_replicate];simp [hi,mC]
  ·exact(pt (kv:=jW) w).same (by rw [cN _ _ (by omega),cN _ _ (by omega)])
  ·have h0:=pt (kv:=ez) (w.alloc (.map #[] 0));rw [hz1]at h0;exact h0.same (by rw [cN _ _ (by omega)])
 have hp2:nb ((w.alloc (.map #[] 0)).alloc (.map #[] 0))=⟨w.heap.size+2,0,none⟩:=by rw [nb,hz2]
 rw [hp2];intro I hI;have key:=aK (α:=Int×Int×Option Addr×World) xs.length (fun i x=>pe x.2.2.2 w.heap.size (w.heap.size+2) (xs.take i)∧bn [] 0 xs=bn (xs.take i) i (xs.drop i)∧Below w.heap.size w x.2.2.2) (fun i x=>I [.int .i64 (i:Int),.int .i64 x.1,.int .i64 x.2.1,.pointer x.2.2.1] x.2.2.2) (0,0,none,w3) ⟨hT3,by rw [List.drop_zero,List.take_zero],hb3⟩ ?_ ?_
 ·exact key
 ·rintro i hi ih ⟨y4,y3,y2,w4⟩ ⟨hT,heq,hB⟩;change pe w4 _ _ _ at hT;change Below w.heap.size w w4 at hB;obtain⟨q,hq,_,hc⟩:=(hr.on hB) i _ (List.getElem?_eq_getElem hi);have h0:=hc 0 _ rfl;rw [an]at h0;refine hI _ _ _ _ _ (aa.yes (by simp;omega) (ae.mk q hq ⟨by omega,by omega,_,_,⟨h0,hc 1 _ rfl,trivial⟩,?_⟩));intro w5 hw5;refine aJ [.int .i64 0,.string ⟨#[]⟩] [.int .i64 xs[i].1,.string (str xs[i].2)] rfl (ft _ _) w5 hw5 ?_;intro w6 h6 hz6 hB6;refine⟨_,_,⟨by have:=af _ _ h6 0;rw [an]at this;exact this,af _ _ h6 1,trivial⟩,?_⟩;refine(uB w6 w.heap.size (w.heap.size+2) (xs.take i) (hT.on hB6) (by have h1:w.heap.size≤w4.heap.size:=hB.size;have h2:w6.heap.size=w4.heap.size+1:=hz6;omega) xs[i]).mono ?_;rintro e w7 ⟨v,rfl,hB7,rfl,hpost⟩;have hdrop:xs.drop i=xs[i]::xs.drop (i+1):=List.drop_eq_getElem_cons hi;have hB8:Below w.heap.size w w7:=(hB.trans (hB6.mono hB.size)).trans hB7;refine⟨_,rfl,aa.mk (fun h=>?_) fun h=>?_⟩
  ·have h:cf (xs.take i) xs[i]≠0:=by simpa using h
   refine⟨hB8,?_⟩;rw [heq,hdrop,bn,if_neg h]
  ·have h:cf (xs.take i) xs[i]=0:=by simpa using h
   have htake:xs.take (i+1)=xs.take i++ [xs[i]]:=by rw [List.take_add_one,List.getElem?_eq_getElem hi];rfl
   refine Ar.ok64 (by omega) (by omega) (ih (y4,y3,y2,w7) ⟨?_,?_,hB8⟩)
   ·rw [htake];exact hpost h
   ·rw [heq,hdrop,bn,if_pos h,htake]
 ·rintro⟨y4,y3,y2,w4⟩ ⟨hT,heq,hB⟩;change pe w4 _ _ _ at hT;refine hI _ _ _ _ _ (aa.no (by simp) ⟨hB,?_⟩);rw [heq,List.drop_length,List.take_length,bn];rw [List.take_length]at hT;exact⟨_,rfl,hT⟩
def bS (cls:List (Int×Int×Int)) (b:Int):Int:=cls.foldl (fun n c=>if c.1≤b∧b≤c.2.1 then c.2.2 else n) 0
theorem rn (cls:List (Int×Int×Int)) (c:Int×Int×Int) (b:Int):bS (cls++ [c]) b=if c.1≤b∧b≤c.2.1 then c.2.2 else bS cls b:=by simp [bS]
theorem oH {cls:List (Int×Int×Int)} (h:∀c∈cls,aR c=true) (b:Int):0≤bS cls b∧bS cls b<16:=by
 have:∀(l:List (Int×Int×Int)) (n:Int),(∀c∈l,aR c=true)→0≤n∧n<16→0≤l.foldl (fun n c=>if c.1≤b∧b≤c.2.1 then c.2.2 else n) n∧l.foldl (fun n c=>if c.1≤b∧b≤c.2.1 then c.2.2 else n) n<16:=by
  intro l;induction l with
  |nil=>intro n _ h;exact h
  |cons c l ih=>
   intro n hl hn;refine ih _ (fun c hc=>hl c (by simp [hc])) ?_;have hc:=of_decide_eq_true (by simpa [aR]using hl c (by simp):decide _=true);show 0≤(if c.1≤b∧b≤c.2.1 then c.2.2 else n)∧(if c.1≤b∧b≤c.2.1 then c.2.2 else n) <16;split
   ·omega
   ·exact hn
 exact this cls 0 h (by omega)
def cutB (cls:List (Int×Int×Int)) (js:List (Int×Int)) (a b:Int):Bool:=decide (bS cls a≠bS cls b∧(bS cls a,bS cls b)∉js)
abbrev lP:TypeId:=288
structure AV (c:Array Value) (f:Nat→Int) (g:Nat→Nat→Bool):Prop where
 size:c.size=512
 cls:∀b,b<256→c[b]? =some (.int .i64 (f b))
 join:∀x y,x<16→y<16→c[256+x*16+y]? =some (.bool (g x y))
def rp (js:List (Int×Int)) (x y:Nat):Bool:=decide (((x:Int),(y:Int))∈js)
def wZ (w:World) (p:Nat) (cls:List (Int×Int×Int)) (js:List (Int×Int)):Prop:=∃c,w.heap[p]? =some (.cells c lP (0,0))∧AV c (fun b=>bS cls b) (rp js)
theorem wZ.on {w w':World} {p:Nat} {cls:List (Int×Int×Int)} {js:List (Int×Int)} (h:wZ w p cls js) (hb:Below w.heap.size w w'):wZ w' p cls js:=by
 obtain⟨c,h1,h2⟩:=h;exact⟨c,ah hb h1,h2⟩
theorem gf (n:Int) (w:World):CP 192 #[.int .i64 n] w fun e w'=>e= .returned (.bool (decide (0≤n∧n≤15)))∧w'=w:=by
 refine az (yy n w (fun v w'=>v= .bool (decide (0≤n∧n≤15))∧w'=w) ?_) (by rintro v w' ⟨rfl,h⟩;exact⟨rfl,h⟩);refine aa.mk (fun h=>?_) fun h=>?_
 ·have h:=of_decide_eq_true h;refine⟨?_,rfl⟩;congr 1;exact decide_eq_decide.2 (by omega)
 ·have h:=of_decide_eq_false h;refine⟨?_,rfl⟩;rw [decide_eq_false (by omega)]
theorem rF (c:Int×Int×Int) (w:World):CP 191 #[.agg #[.int .i64 c.1,.int .i64 c.2.1,.int .i64 c.2.2]] w fun e w'=>e= .returned (.bool (aR c))∧Below w.heap.size w w':=by
 refine az (wP c.1 c.2.1 c.2.2 w (fun v w'=>v= .bool (aR c)∧Below w.heap.size w w') ?_) (by rintro v w' ⟨rfl,h⟩;exact⟨rfl,h⟩);intro w1 hw1;have hb:Below w.heap.size w w1:=by subst hw1;exact ag _ _
 have hc:∀j,w1.cell? ((nb w).add j)=(#[Value.int .i64 c.1,Value.int .i64 c.2.1,Value.int .i64 c.2.2]:Array Value)[j]? :=by
  intro j;subst hw1;rw [aA,Nat.zero_add,aT]
 have off:aR c=false→(Value.bool false= .bool (aR c)∧Below w.heap.size w w1):=fun h=>⟨by rw [h],hb⟩;refine⟨c.1,hc 0,aa.mk (fun h1=>?_) fun h1=>off ?_⟩
 ·have h1:=of_decide_eq_true h1;refine⟨c.1,hc 0,c.2.1,hc 1,aa.mk (fun h2=>?_) fun h2=>off ?_⟩
  ·have h2:=of_decide_eq_true h2;refine⟨c.2.1,hc 1,aa.mk (fun h3=>?_) fun h3=>off ?_⟩
   ·have h3:=of_decide_eq_true h3;refine⟨c.2.2,hc 2,?_⟩;refine(gf c.2.2 w1).mono ?_;rintro e w2 ⟨rfl,hw⟩;subst hw;refine⟨_,rfl,?_,hb⟩;congr 1;unfold aR;exact decide_eq_decide.2 (by omega)
   ·have h3:=of_decide_eq_false h3;unfold aR;exact decide_eq_false (by omega)
  ·have h2:=of_decide_eq_false h2;unfold aR;exact decide_eq_false (by omega)
 ·have h1:=of_decide_eq_false h1;unfold aR;exact decide_eq_false (by omega)
theorem fI (a b c:Int):∀v∈ [Value.int .i64 a,Value.int .i64 b,Value.int .i64 c],v.oneCell'=true:=by
 intro v hv;simp only [List.mem_cons,List.not_mem_nil,or_false]at hv;rcases hv with rfl |rfl |rfl<;>rfl
theorem AV.setCls {c:Array Value} {f:Nat→Int} {g:Nat→Nat→Bool} (h:AV c f g) {b:Nat} (hb:b<256) (n:Int):AV (c.setIfInBounds b (.int .i64 n)) (fun i=>if i=b then n else f i) g:=by
 refine⟨by simp [h.size],fun i hi=>?_,fun x y hx hy=>?_⟩
 ·by_cases he:i=b
  ·subst he;rw [Array.getElem?_setIfInBounds_self_of_lt (by have:=h.size;omega),if_pos rfl]
  ·rw [Array.getElem?_setIfInBounds_ne (fun e=>he e.symm),if_neg he,h.cls i hi]
 ·rw [Array.getElem?_setIfInBounds_ne (by omega)];exact h.join x y hx hy
theorem AV.setJoin {c:Array Value} {f:Nat→Int} {g:Nat→Nat→Bool} (h:AV c f g) {x y:Nat} (hx:x<16) (hy:y<16):AV (c.setIfInBounds (256+x*16+y) (.bool true)) f (fun a b=>g a b||decide (a=x∧b=y)):=by
 refine⟨by simp [h.size],fun i hi=>?_,fun a b ha hb=>?_⟩
 ·rw [Array.getElem?_setIfInBounds_ne (by omega)];exact h.cls i hi
 ·by_cases he:a=x∧b=y
  ·obtain⟨rfl,rfl⟩:=he;rw [Array.getElem?_setIfInBounds_self_of_lt (by have:=h.size;omega)];simp
  ·rw [Array.getElem?_setIfInBounds_ne (by omega),h.join a b ha hb,decide_eq_false he,Bool.or_false]
theorem AV.congr {c:Array Value} {f f':Nat→Int} {g g':Nat→Nat→Bool} (h:AV c f g) (hf:∀b,b<256→f b=f' b) (hg:∀x y,x<16→y<16→g x y=g' x y):AV c f' g':=
 ⟨h.size,fun b hb=>by rw [h.cls b hb,hf b hb],fun x y hx hy=>by rw [h.join x y hx hy,hg x y hx hy]⟩
theorem rO (w:World) (a1 a2:Option Addr) (c1 c2:Nat) (cls:List (Int×Int×Int)) (js:List (Int×Int)) (hr1:Rw aZ 3 w a1 cls) (hr2:Rw aD 2 w a2 js) (hl1:cls.length≤1000000) (hl2:js.length≤1000000)
  (ok1:∀c∈cls,aR c=true) (ok2:∀j∈js,bK j=true):
  CP 134 #[.slice a1 cls.length c1,.slice a2 js.length c2] w fun e w'=>∃p,e= .returned (.tuple #[.pointer (some ⟨p,0,none⟩),.int .i64 0])∧wZ w' p cls js∧Below w.heap.size w w'∧w.heap.size≤p:=by
 refine aU (xM a1 cls.length c1 a2 js.length c2 w) ?_;intro w1 hw1;have hb1:Below w.heap.size w w1:=by subst hw1;exact ag _ _
 have h1:∃c,w1.heap[w.heap.size]? =some (.cells c lP (0,0))∧AV c (fun b=>bS (cls.take 0) b) (fun _ _=>false):=by
  subst hw1;refine⟨_,ao _ _,by simp,fun b hb=>?_,fun x y hx hy=>?_⟩
  ·rw [List.getElem?_toArray,List.getElem?_append_left (by rw [List.length_replicate];exact hb),List.getElem?_replicate,if_pos hb];rfl
  ·rw [List.getElem?_toArray,List.getElem?_append_right (by simp;omega),List.getElem?_replicate,if_pos (by simp;omega)]
 intro I hI;have key:=aK (α:=Int×Option Addr×World) cls.length (fun i x=>(∃c,x.2.2.heap[w.heap.size]? =some (.cells c lP (0,0))∧AV c (fun b=>bS (cls.take i) b) (fun _ _=>false))∧Below w.heap.size w x.2.2) (fun i x=>I [.int .i64 (i:Int),.int .i64 x.1,.pointer x.2.1] x.2.2) (0,none,w1) ⟨h1,hb1⟩ ?_ ?_
 ·exact key
 ·rintro i hi ih ⟨y5,y4,w2⟩ ⟨⟨c,hblk,hc⟩,hB⟩;change w2.heap[w.heap.size]? =_ at hblk;change Below w.heap.size w w2 at hB;obtain⟨q,hq,_,hcx⟩:=(hr1.on hB) i _ (List.getElem?_eq_getElem hi);have q0:=hcx 0 _ rfl;rw [an]at q0;refine hI _ _ _ _ (aa.yes (by simp;omega) (ae.mk q hq ⟨by omega,by omega,_,_,_,⟨q0,hcx 1 _ rfl,hcx 2 _ rfl,trivial⟩,?_⟩));intro w3 hw3;refine aJ [.int .i64 0,.int .i64 0,.int .i64 0] [.int .i64 cls[i].1,.int .i64 cls[i].2.1,.int .i64 cls[i].2.2] rfl (fI _ _ _) w3 hw3 ?_;intro w4 h4 hz4 hB4;refine⟨_,_,_,⟨by have:=af _ _ h4 0;rw [an]at this;exact this,af _ _ h4 1,af _ _ h4 2,trivial⟩,?_⟩;refine(rF cls[i] w4).mono ?_;rintro e w5 ⟨rfl,hB5⟩;have hok:=ok1 cls[i] (List.getElem_mem hi);have hr:=of_decide_eq_true (by simpa [aR]using hok:decide _=true);have h5:=ah hB5 h4;have hB52:Below w2.heap.size w2 w5:=ab hB4 hB5;have hblk5:=ah hB52 hblk;have hne:w2.heap.size≠w.heap.size:=by have:=(Array.getElem?_eq_some_iff.1 hblk).1;omega
  refine⟨_,rfl,aa.no (by rw [hok];rfl) ⟨_,af _ _ h5 0,?_⟩⟩;obtain⟨lo,hlo⟩:∃lo:Nat,cls[i].1=(lo:Int):=⟨cls[i].1.toNat,by omega⟩;obtain⟨hi',hhi⟩:∃hi':Nat,cls[i].2.1=(hi':Int):=⟨cls[i].2.1.toNat,by omega⟩;rw [hlo,hhi]at hr;intro I5 hI5;rw [hlo];have key5:=aK (α:=World) (hi'+1-lo) (fun k x=>(∃c,x.heap[w.heap.size]? =some (.cells c lP (0,0))∧AV c (fun b=>if lo≤b∧b<lo+k then cls[i].2.2 else bS (cls.take i) b) (fun _ _=>false))∧Below w.heap.size w x∧x.heap[w2.heap.size]? =w5.heap[w2.heap.size]?) (fun k x=>I5 [.int .i64 ((lo+k:Nat):Int)] x) w5 ⟨⟨c,hblk5,hc.congr (fun b _=>by rw [if_neg (by omega)]) (fun _ _ _ _=>rfl)⟩,hB.trans (hB52.mono hB.size),rfl⟩ ?_ ?_
  ·exact key5
  ·rintro k hk ih5 w6 ⟨⟨c6,hblk6,hc6⟩,hB6,hs6⟩;have hl6:w6.heap[w2.heap.size]? =some (.cells #[Value.int .i64 cls[i].1,Value.int .i64 cls[i].2.1,Value.int .i64 cls[i].2.2] wK (0,0)):=by rw [hs6];exact h5
   refine hI5 _ _ ⟨_,af _ _ hl6 1,aa.yes (by rw [hhi];simp;omega) ?_⟩;intro w7 hw7;have hblk7:w7.heap[w.heap.size]? =some (.cells c6 lP (0,0)):=by subst hw7;exact hblk6
   have hl7:w7.heap[w2.heap.size]? =some (.cells #[Value.int .i64 cls[i].1,Value.int .i64 cls[i].2.1,Value.int .i64 cls[i].2.2] wK (0,0)):=by subst hw7;exact hl6
   have hB7:Below w.heap.size w w7:=by subst hw7;exact hB6.drew
   have hadr:((nb w).add 0).add (((lo+k:Nat):Int).toNat*1)=(⟨w.heap.size,0,none⟩:Addr).add (lo+k):=by
    rw [aA,aA,aA];simp
   rw [hadr];refine⟨_,af _ _ hl7 2,by omega,by omega,rfl,⟨_,by rw [af _ _ hblk7];exact hc6.cls (lo+k) (by omega)⟩,a_ hblk7,?_⟩;intro w8 hw8;refine Ar.ok64 (by omega) (by omega) ?_;rw [show((lo+k:Nat):Int)+1=((lo+(k+1):Nat):Int) by omega];refine ih5 w8 ⟨⟨_,by subst hw8;exact bo hblk7 _,(hc6.setCls (show lo+k<256 by omega) cls[i].2.2).congr (fun b hb=>?_) (fun _ _ _ _=>rfl)⟩,by subst hw8;exact bg hB7 (Nat.le_refl _) _,?_⟩
   ·by_cases he:b=lo+k
    ·subst he;rw [if_pos rfl,if_pos (by omega)]
    ·rw [if_neg he];by_cases h2:lo≤b∧b<lo+k
     ·rw [if_pos h2,if_pos (by omega)]
     ·rw [if_neg h2,if_neg (by omega)]
   ·subst hw8;rw [ay (by rw [aq];exact hne),hl7,h5]
  ·rintro w6 ⟨⟨c6,hblk6,hc6⟩,hB6,hs6⟩;have hl6:w6.heap[w2.heap.size]? =some (.cells #[Value.int .i64 cls[i].1,Value.int .i64 cls[i].2.1,Value.int .i64 cls[i].2.2] wK (0,0)):=by rw [hs6];exact h5
   refine hI5 _ _ ⟨_,af _ _ hl6 1,aa.no (by rw [hhi];simp;omega) ?_⟩;refine Ar.ok64 (by omega) (by omega) (ih (y5,y4,w6) ⟨⟨c6,hblk6,hc6.congr (fun b hb=>?_) (fun _ _ _ _=>rfl)⟩,hB6⟩);have htake:cls.take (i+1)=cls.take i++ [cls[i]]:=by rw [List.take_add_one,List.getElem?_eq_getElem hi];rfl
   rw [htake,rn,hlo,hhi];by_cases h2:lo≤b∧b<lo+(hi'+1-lo)
   ·rw [if_pos h2,if_pos (by omega)]
   ·rw [if_neg h2,if_neg (by omega)]
 ·rintro⟨y5,y4,w2⟩ ⟨⟨c,hblk,hc⟩,hB⟩;change w2.heap[w.heap.size]? =_ at hblk;change Below w.heap.size w w2 at hB;rw [List.take_length]at hc;refine hI _ _ _ _ (aa.no (by simp) ?_);intro I11 hI11;have key:=aK (α:=Int×Option Addr×World) js.length (fun i x=>(∃c,x.2.2.heap[w.heap.size]? =some (.cells c lP (0,0))∧AV c (fun b=>bS cls b) (rp (js.take i)))∧Below w.heap.size w x.2.2) (fun i x=>I11 [.int .i64 (i:Int),.int .i64 x.1,.pointer x.2.1] x.2.2) (y5,y4,w2) ⟨⟨c,hblk,hc.congr (fun _ _=>rfl) (fun x y _ _=>by simp [rp])⟩,hB⟩ ?_ ?_
  ·exact key
  ·rintro i hi ih ⟨y5,y4,w9⟩ ⟨⟨c,hblk,hc⟩,hB⟩;change w9.heap[w.heap.size]? =_ at hblk;change Below w.heap.size w w9 at hB;obtain⟨q,hq,_,hcx⟩:=(hr2.on hB) i _ (List.getElem?_eq_getElem hi);have q0:=hcx 0 _ rfl;rw [an]at q0;refine hI11 _ _ _ _ (aa.yes (by simp;omega) (ae.mk q hq ⟨by omega,by omega,_,_,⟨q0,hcx 1 _ rfl,trivial⟩,?_⟩));intro w10 hw10;refine aJ [.int .i64 0,.int .i64 0] [.int .i64 js[i].1,.int .i64 js[i].2] rfl (cZ _ _) w10 hw10 ?_;intro w11 h11 hz11 hB11;have hok:=ok2 js[i] (List.getElem_mem hi);have hr:=of_decide_eq_true (by simpa [bK]using hok:decide _=true);refine⟨_,af _ _ h11 0,(gf _ w11).mono ?_⟩;rintro e w12 ⟨rfl,hw⟩;subst hw;refine⟨_,rfl,aa.no (by rw [decide_eq_true (by omega)];rfl) ⟨_,af _ _ h11 1,(gf _ w12).mono ?_⟩⟩;rintro e w13 ⟨rfl,hw⟩;subst hw;refine⟨_,rfl,aa.no (by rw [decide_eq_true (by omega)];rfl) ?_⟩;intro w14 hw14;have hh14:w14.heap=w13.heap:=by subst hw14;rfl
   have hl14:w14.heap[w9.heap.size]? =some (.cells #[Value.int .i64 js[i].1,Value.int .i64 js[i].2] AN (0,0)):=by rw [hh14];exact h11
   have hblk14:w14.heap[w.heap.size]? =some (.cells c lP (0,0)):=by rw [hh14];exact ah hB11 hblk
   have hB14:Below w.heap.size w w14:=by subst hw14;exact(hB.trans (hB11.mono hB.size)).drew
   obtain⟨x,hx⟩:∃x:Nat,js[i].1=(x:Int):=⟨js[i].1.toNat,by omega⟩;obtain⟨y,hy⟩:∃y:Nat,js[i].2=(y:Int):=⟨js[i].2.toNat,by omega⟩;have hadr:(((nb w).add 256).add ((js[i].1).toNat*16)).add ((js[i].2).toNat*1)=(⟨w.heap.size,0,none⟩:Addr).add (256+x*16+y):=by
    rw [aA,aA,aA,aA,hx,hy];simp
   refine⟨_,af _ _ hl14 0,_,af _ _ hl14 1,by omega,by omega,by omega,by omega,?_⟩;rw [hadr];refine⟨rfl,⟨_,by rw [af _ _ hblk14];exact hc.join x y (by omega) (by omega)⟩,a_ hblk14,?_⟩;intro w15 hw15;refine Ar.ok64 (by omega) (by omega) (ih (y5,y4,w15) ⟨⟨_,by subst hw15;exact bo hblk14 _,(hc.setJoin (show x<16 by omega) (show y<16 by omega)).congr (fun _ _=>rfl) (fun a b ha hb=>?_)⟩,by subst hw15;exact bg hB14 (Nat.le_refl _) _⟩);have htake:js.take (i+1)=js.take i++ [js[i]]:=by rw [List.take_add_one,List.getElem?_eq_getElem hi];rfl
   rw [htake];have:js[i]=((x:Int),(y:Int)):=Prod.ext hx hy;rw [this];unfold rp;rw [Bool.eq_iff_iff];simp only [Bool.or_eq_true,decide_eq_true_eq,List.mem_append,List.mem_singleton,Prod.mk.injEq];have:((a:Int)=x∧(b:Int)=y)↔(a=x∧b=y):=by omega
   rw [this]
  ·rintro⟨y5,y4,w9⟩ ⟨⟨c,hblk,hc⟩,hB⟩;rw [List.take_length]at hc;exact hI11 _ _ _ _ (aa.no (by simp) ⟨w.heap.size,rfl,⟨c,hblk,hc⟩,hB,Nat.le_refl _⟩)
theorem BE (w:World) (p:Nat) (cls:List (Int×Int×Int)) (js:List (Int×Int)) (h:wZ w p cls js) (ok1:∀c∈cls,aR c=true) (a b:Int) (ha:0≤a∧a<256) (hb:0≤b∧b<256):
  CP 227 #[.pointer (some ⟨p,0,none⟩),.int .u8 a,.int .u8 b] w fun e w'=>e= .returned (.bool (cutB cls js a b))∧Below w.heap.size w w':=by
 refine aU (xy (some ⟨p,0,none⟩) a b w) ?_;refine aa.no rfl ?_;intro w1 hw1;have hB:Below w.heap.size w w1:=by subst hw1;exact(Below.refl _ _).drew
 obtain⟨c,hblk,hc⟩:=h.on hB;obtain⟨a,rfl⟩:∃n:Nat,a=n:=⟨a.toNat,by omega⟩;obtain⟨b,rfl⟩:∃n:Nat,b=n:=⟨b.toNat,by omega⟩;have adr:∀n:Nat,((⟨p,0,none⟩:Addr).add 0).add ((n:Int).toNat*1)=(⟨p,0,none⟩:Addr).add n:=fun n=>by
  rw [aA,aA,aA];simp
 have ra:=oH ok1 a;have rb:=oH ok1 b;refine ae.mk _ rfl ⟨ha.1,ha.2,_,by rw [adr,af p _ hblk];exact hc.cls a (by omega),ae.mk _ rfl ⟨hb.1,hb.2,_,by rw [adr,af p _ hblk];exact hc.cls b (by omega),aa.mk (fun h0=>?_) fun h0=>?_⟩⟩
 ·have h0:bS cls a≠bS cls b:=by simpa using h0
  obtain⟨x,hx⟩:∃x:Nat,bS cls a=(x:Int):=⟨(bS cls a).toNat,by omega⟩;obtain⟨y,hy⟩:∃y:Nat,bS cls b=(y:Int):=⟨(bS cls b).toNat,by omega⟩;have hadr:(((⟨p,0,none⟩:Addr).add 256).add ((bS cls a).toNat*16)).add ((bS cls b).toNat*1)=(⟨p,0,none⟩:Addr).add (256+x*16+y):=by
   rw [aA,aA,aA,aA,hx,hy];simp
  refine ae.mk _ rfl ⟨ra.1,ra.2,rb.1,rb.2,_,by rw [hadr,af p _ hblk];exact hc.join x y (by omega) (by omega),?_,hB⟩;congr 1;rw [cutB,rp, ←hx, ←hy];simp [h0]
 ·have h0:bS cls a=bS cls b:=by simpa using h0
  refine⟨?_,hB⟩;rw [cutB,decide_eq_false (by simp [h0])]
def gb (f:Nat→Bool):Nat→Nat
 |0=>0
 |i+1=>gb f i+if f i then 1 else 0
theorem oQ {f:Nat→Bool}:∀n,gb f n=0↔∀i,i<n→f i=false
 |0=>by simp [gb]
 |n+1=>by
  rw [gb];have:=oQ (f:=f) n;constructor
  ·intro h i hi;rcases Nat.lt_succ_iff_lt_or_eq.1 hi with h' |h'
   ·exact this.1 (by omega) i h'
   ·subst h';cases hf:f i with
    |false=>rfl
    |true=>rw [hf]at h;simp at h
  ·intro h;rw [this.2 fun i hi=>h i (by omega),h n (by omega)];rfl
theorem sZ (f:Nat→Bool):∀n,gb f n≤n
 |0=>Nat.le_refl _
 |n+1=>by
  have:=sZ f n;rw [gb];split<;>omega
def fc (cut:Int→Int→Bool) (s:Bs) (j:Nat):Bool:=if j=s.length then true else match s[j-1]?,s[j]? with
 |some x,some y=>decide (1≤j)&&cut x.toNat y.toNat
 |_,_=>false
theorem yR (w:World) (p:Nat) (cls:List (Int×Int×Int)) (js:List (Int×Int)) (h:wZ w p cls js) (ok1:∀c∈cls,aR c=true) (s:Bs) (hs:s.length≤1000000):
  CP 212 #[.pointer (some ⟨p,0,none⟩),.string (str s)] w fun e w'=>∃a n c,e= .returned (.slice a n c)∧(n=if s= []then 0 else gb (fc (cutB cls js) s) (s.length+1))∧Below w.heap.size w w':=by
 refine aU (uZ (some ⟨p,0,none⟩) (str s) w) ?_;intro I hI;have hz:(str s).size=s.length:=aj s;by_cases hn:s= []
 ·subst hn;refine hI _ _ _ _ _ _ (aa.no (by rw [hz];simp) ⟨none,0,0,rfl,by simp,Below.refl _ _⟩)
 have hpos:0<s.length:=List.length_pos_iff.2 hn;have c1:fc (cutB cls js) s 0=false:=by
  unfold fc;rw [if_neg (by omega)];split<;>simp
 have key:=aK (α:=Int×Sl×List Value×World) s.length (fun k x=>0≤x.1∧x.1≤k∧x.2.1.n=gb (fc (cutB cls js) s) (k+1)∧x.2.2.2.ownsRow w.heap.size bE 1 x.2.1.v x.2.1.n x.2.2.1∧Below w.heap.size w x.2.2.2) (fun k x=>I [.int .i64 ((k:Int)+1),.int .i64 x.1,x.2.1.v] x.2.2.2) (0,⟨none,0,0⟩,[],w) ⟨by simp,by simp,by simp [gb,c1],co _ _ _ _,Below.refl _ _⟩ ?_ ?_
 ·exact key
 ·rintro k hk ih ⟨from_,l,xs,w1⟩ ⟨f0,f1,hl,hown,hB⟩;change 0≤from_ at f0;change from_≤(k:Int)at f1;change l.n=_ at hl;change w1.ownsRow w.heap.size bE 1 l.v l.n xs at hown;change Below w.heap.size w w1 at hB;have hcl:=sZ (fc (cutB cls js) s) (k+1);refine hI _ _ _ _ _ _ (aa.yes (by rw [hz];simp;omega) ?_);intro J hJ w3 hw3;have hB3:Below w.heap.size w w3:=by subst hw3;exact hB.drew
  have hown3:w3.ownsRow w.heap.size bE 1 l.v l.n xs:=by subst hw3;exact du hown
  have push:∀(w4:World),Below w.heap.size w w4→w4.ownsRow w.heap.size bE 1 l.v l.n xs→fc (cutB cls js) s (k+1)=true→
    (0:Int)≤from_∧from_≤(k:Int)+1∧(k:Int)+1≤((str s).size:Int)∧
     ∀w5:World,w5=w4.alloc (.cells #[Value.string ((str s).extract from_.toNat ((k:Int)+1).toNat)] bE)→
     ∃lA_8:Option Addr,∃lN_9:Nat,∃lC_10:Nat,∃w6:World,(Builtin.append_ #[da,da] da #[Value.slice l.a l.n l.c,Value.slice (some (nb w4)) 1 1]).run Tryz.prog w5= .ok (Value.slice lA_8 lN_9 lC_10) w6∧
     J [Value.int .i64 ((k:Int)+1),Value.slice lA_8 lN_9 lC_10] w6:=by
   intro w4 hB4 hown4 hcut;refine⟨f0,by omega,by rw [hz];omega,?_⟩;rintro w5 rfl;obtain⟨A,C,w6,hr,hown',hg,_⟩:=eG (P:=Tryz.prog) da bE fp fO rfl (by decide) hown4 [Value.string ((str s).extract from_.toNat ((k:Int)+1).toNat)] rfl (by simp [Value.oneCell']) (by omega) (by omega) hB4.size;refine⟨A,l.n+1,C,w6,hr,hJ _ _ _ _ _ ?_⟩;refine Ar.ok64 (by omega) (by omega) (ih ((k:Int)+1,⟨A,l.n+1,C⟩,_,w6) ⟨by show(0:Int)≤(k:Int)+1;omega,by show(k:Int)+1≤((k+1:Nat):Int);omega,?_,hown',di hB4 hown4 hg hB4.size⟩);show l.n+1=_;rw [gb,hcut,hl];rfl
  refine aa.mk (fun h0=>?_) fun h0=>?_
  ·have h0:(k:Int)+1=((str s).size:Int):=by simpa using h0
   exact push w3 hB3 hown3 (by unfold fc;rw [if_pos (by omega)])
  ·have h0:(k:Int)+1≠((str s).size:Int):=by simpa using h0
   have hk1:k+1<s.length:=by omega
   refine Ar.ok64 (by omega) (by omega) ⟨by omega,by rw [hz];omega,by omega,by rw [hz];omega,?_⟩;have e1:btAt (str s) ((k:Int)+1-1)=((s[k]).toNat:Int):=by
    rw [show(k:Int)+1-1=((k:Nat):Int) by omega];exact cd s k hk
   have e2:btAt (str s) ((k:Int)+1)=((s[k+1]).toNat:Int):=by
    rw [show(k:Int)+1=((k+1:Nat):Int) by omega];exact cd s (k+1) hk1
   rw [e1,e2];have b1:=(s[k]).toNat_lt;have b2:=(s[k+1]).toNat_lt;refine(BE w3 p cls js (h.on (hB3.mono (by exact Nat.le_refl _))) ok1 _ _ (by omega) (by omega)).mono ?_;rintro e w6 ⟨rfl,hB6⟩;have hcp:fc (cutB cls js) s (k+1)=cutB cls js (s[k]).toNat (s[k+1]).toNat:=by
    unfold fc;rw [if_neg (by omega),Nat.add_sub_cancel,List.getElem?_eq_getElem hk,List.getElem?_eq_getElem hk1];simp
   have hB36:Below w.heap.size w w6:=hB3.trans (hB6.mono hB3.size);refine⟨_,rfl,aa.mk (fun h1=>?_) fun h1=>?_⟩
   ·exact push w6 hB36 (aL hown3 hB6) (by rw [hcp,h1])
   ·refine hJ _ _ _ _ _ (Ar.ok64 (by omega) (by omega) (ih (from_,l,xs,w6) ⟨f0,by show from_≤((k+1:Nat):Int);omega,?_,aL hown3 hB6,hB36⟩));show l.n=_;rw [gb,hcp,h1,hl];rfl
 ·rintro⟨from_,l,xs,w1⟩ ⟨f0,f1,hl,hown,hB⟩;refine hI _ _ _ _ _ _ (aa.no (by rw [hz];simp;omega) ⟨_,_,_,rfl,?_,hB⟩);rw [if_neg hn];exact hl
def kc (cut:Int→Int→Bool) (s:Bs):Bool:=decide (∀j,j<s.length→fc cut s j=false)
theorem zj (w:World) (p:Nat) (cls:List (Int×Int×Int)) (js:List (Int×Int)) (h:wZ w p cls js) (ok1:∀c∈cls,aR c=true) (s:Bs) (hs:s.length≤1000000):
  CP 165 #[.pointer (some ⟨p,0,none⟩),.string (str s)] w fun e w'=>e= .returned (.bool (kc (cutB cls js) s))∧Below w.heap.size w w':=by
 refine az (wI (some ⟨p,0,none⟩) (str s) w (fun v w'=>v= .bool (kc (cutB cls js) s)∧Below w.heap.size w w') ?_) (by rintro v w' ⟨rfl,h⟩;exact⟨rfl,h⟩);refine(yR w p cls js h ok1 s hs).mono ?_;rintro e w1 ⟨a,n,c,rfl,hn,hB⟩;refine⟨a,n,c,rfl,?_,hB⟩;congr 1;unfold kc;refine decide_eq_decide.2 ?_;by_cases he:s= []
 ·subst he;rw [if_pos rfl]at hn;subst hn;simp
 ·rw [if_neg he,gb]at hn;have:fc (cutB cls js) s s.length=true:=by unfold fc;rw [if_pos rfl]
  rw [this]at hn;rw [←oQ];simp only [if_true]at hn;omega
def fb (a b c:Int):List Int→List Int
 | []=>[]
 | [x]=>[x]
 |x::y::r=>if x=a∧y=b then c::fb a b c r else x::fb a b c (y::r)
theorem mP (a b c:Int) (r:List Int):fb a b c (a::b::r)=c::fb a b c r:=by simp [fb]
theorem ib {a b c x y:Int} (r:List Int) (h:¬(x=a∧y=b)):fb a b c (x::y::r)=x::fb a b c (y::r):=by simp [fb,h]
theorem sI {a b c x:Int} (l:List Int) (h:x≠a):fb a b c (x::l)=x::fb a b c l:=by
 cases l with
 |nil=>rfl
 |cons y r=>exact ib r fun e=>h e.1
def eO (a b:Int) (l:List Int):Prop:=∃u v,l=u++a::b::v
theorem kd {a b x:Int} {l:List Int} (h:eO a b l):eO a b (x::l):=by
 obtain⟨u,v,rfl⟩:=h;exact⟨x::u,v,rfl⟩
theorem td {a b c:Int}:∀l:List Int,¬eO a b l→fb a b c l=l
 | [],_=>rfl
 | [x],_=>rfl
 |x::y::r,h=>by
  have h1:¬(x=a∧y=b):=by
   rintro⟨rfl,rfl⟩;exact h ⟨[],r,rfl⟩
  rw [ib r h1,td (y::r) fun e=>h (kd e)]
theorem qX {a b c:Int}:∀(u v:List Int),¬eO a b (u++ [a])→fb a b c (u++a::b::v)=u++c::fb a b c v
 | [],v,_=>mP a b c v
 | [x],v,h=>by
  have hx:¬(x=a∧a=b):=by
   rintro⟨rfl,rfl⟩;exact h ⟨[],[],rfl⟩
  rw [List.cons_append,List.nil_append,ib (b::v) hx,mP];rfl
 |x::y::u,v,h=>by
  have hx:¬(x=a∧y=b):=by
   rintro⟨rfl,rfl⟩;exact h ⟨[],u++ [x],rfl⟩
  have:=qX (c:=c) (y::u) v fun e=>h (by rw [List.cons_append];exact kd e);rw [List.cons_append,List.cons_append,ib _ hx];rw [List.cons_append]at this;rw [this];rfl
theorem pX {a b c:Int} (hca:c≠a) (hcb:c≠b):∀(u v:List Int),¬eO a b u→fb a b c (u++c::v)=u++c::fb a b c v
 | [],v,_=>sI v hca
 | [x],v,_=>by
  rw [List.cons_append,List.nil_append,ib v fun e=>hcb e.2,sI v hca];rfl
 |x::y::u,v,h=>by
  have hx:¬(x=a∧y=b):=by
   rintro⟨rfl,rfl⟩;exact h ⟨[],u,rfl⟩
  have:=pX hca hcb (y::u) v fun e=>h (kd e);rw [List.cons_append,List.cons_append,ib _ hx];rw [List.cons_append]at this;rw [this];rfl
theorem uP {a b:Int} {u v:List Int} (h:eO a b u):eO a b (u++v):=by
 obtain⟨p,q,rfl⟩:=h;exact⟨p,q++v,by simp⟩
def dP (k:Int):List (Int×Int)→List Int→List Int
 | [],l=>l
 |m::ms,l=>dP (k+1) ms (fb m.1 m.2 k l)
def iH (k:Int):List (Int×Int)→Prop
 | []=>True
 |m::ms=>m.1<k∧m.2<k∧iH (k+1) ms
theorem gr:∀(ms:List (Int×Int)) (k:Int) (l:List Int),(∀m∈ms,¬eO m.1 m.2 l)→dP k ms l=l
 | [],k,l,_=>rfl
 |m::ms,k,l,h=>by
  simp only [dP];rw [td l (h m (by simp))];exact gr ms (k+1) l fun x hx=>h x (by simp [hx])
theorem fq:∀(a b:List (Int×Int)) (k:Int) (l:List Int),dP k (a++b) l=dP (k+a.length) b (dP k a l)
 | [],b,k,l=>by simp [dP]
 |m::a,b,k,l=>by
  simp only [List.cons_append,dP];rw [fq a b];congr 1;simp;omega
theorem qB:∀ {ms:List (Int×Int)} {k:Int},iH k ms→∀(i:Nat) (m:Int×Int),ms[i]? =some m→m.1<k+i∧m.2<k+i
 | [],k,_,i,m,hi=>by simp at hi
 |x::ms,k,h,0,m,hi=>by
  simp at hi;subst hi;exact⟨by have:=h.1;omega,by have:=h.2.1;omega⟩
 |x::ms,k,h,i+1,m,hi=>by
  have:=qB h.2.2 i m (by simpa using hi);omega
def G' (ms:List (Int×Int)) (l:List Int):Prop:=∀m∈ms,¬eO m.1 m.2 l
theorem Ay {a b c x y:Int} {u v:List Int} (h:eO x y (u++c::v)) (hn:¬eO x y (u++a::b::v)):x=c∨y=c:=by
 obtain⟨p,q,he⟩:=h;rcases List.append_eq_append_iff.1 he with⟨t,ht,hc⟩ |⟨t,ht,hc⟩
 ·cases t with
  |nil=>simp at hc;exact .inl hc.1.symm
  |cons t0 t=>
   simp at hc;exfalso;apply hn;rw [hc.2];exact⟨u++a::b::t,q,by simp⟩
 ·match t,ht,hc with
  | [],_,hc=>simp at hc;exact .inl hc.1
  | [x'],_,hc=>simp at hc;exact .inr hc.2.1
  |x'::y'::t,ht,hc=>
   simp at hc;exfalso;apply hn;rw [ht, ←hc.1, ←hc.2.1];exact⟨p,t++a::b::v,by simp⟩
theorem Ee {k:Int} {low high:List (Int×Int)} {m:Int×Int} {u v:List Int} (hs:iH k (low++m::high)) (hq:G' low (u++m.1::m.2::v)) (hf:¬eO m.1 m.2 (u++ [m.1])):
  dP k (low++m::high) (u++m.1::m.2::v)=dP k (low++m::high) (u++(k+low.length)::v):=by
 have hq':G' low (u++(k+low.length)::v):=by
  intro x hx hb;obtain⟨i,hi,hxi⟩:=List.getElem_of_mem hx;have hlt:=qB hs i x (by rw [List.getElem?_append_left hi,List.getElem?_eq_getElem hi,hxi]);rcases Ay (a:=m.1) (b:=m.2) hb (hq x hx)with e |e<;>omega
 rw [fq,fq,gr low k _ hq,gr low k _ hq'];have hm:=qB hs low.length m (by rw [List.getElem?_append_right (Nat.le_refl _)];simp);simp only [dP];rw [qX u v hf,pX (by omega) (by omega) u v fun e=>hf (uP e)]
def qb (ms:List (Int×Int)) (below:Int) (l:List Int):List Int:=dP 256 (ms.take (below-256).toNat) l
section
variable (ms:List (Int×Int))
def after (k:Nat) (s:List Int):List Int:=dP 256 (ms.take k) s
theorem qk (s:List Int):after ms 0 s=s:=by simp [after,dP]
theorem qC {k:Nat} {m:Int×Int} (h:ms[k]? =some m) (s:List Int):after ms (k+1) s=fb m.1 m.2 (256+k) (after ms k s):=by
 have hk:=(List.getElem?_eq_some_iff.1 h).1;unfold after;rw [List.take_add_one,h,fq,List.length_take,Nat.min_eq_left (by omega)];rfl
variable (ex:Int→List Int)
variable {ms ex}
end
theorem ox (l:List Int) {r:List Int} (h:r≠ []):(l++r).getLast?=r.getLast?:=by
 rw [List.getLast?_append];cases hr:r.getLast? with
 |none=>exact absurd (List.getLast?_eq_none_iff.1 hr) h
 |some x=>rfl
theorem Eg (r:List Int) {l:List Int} (h:l≠ []):(l++r).head?=l.head?:=by
 cases l with
 |nil=>exact absurd rfl h
 |cons x l=>rfl
section
variable {ms:List (Int×Int)} {ex:Int→List Int}
def Lg (ms:List (Int×Int)) (t:Int):Prop:=0≤t∧t<256+(ms.length:Nat)
end
section
variable {ms:List (Int×Int)} {ex:Int→List Int}
end
section
variable (cut:Int→Int→Bool)
def ew:List Int→List (List Int)
 | []=>[]
 | [x]=>[[x]]
 |x::y::r=>if cut x y=true then [x]::ew (y::r)else match ew (y::r)with
  | []=>[[x]]
  |p::ps=>(x::p)::ps
def eS:List Int→Prop
 | []=>True
 | [_]=>True
 |x::y::r=>cut x y=false∧eS (y::r)
def DJ (p q:List Int):Prop:=∃x y,p.getLast?=some x∧q.head?=some y∧cut x y=true
def bH:List (List Int)→Prop
 | []=>True
 | [p]=>p≠ []∧eS cut p
 |p::q::r=>p≠ []∧eS cut p∧DJ cut p q∧bH (q::r)
variable {cut}
theorem bH.head {p:List Int} {r:List (List Int)} (h:bH cut (p::r)):p≠ []∧eS cut p:=by
 cases r with
 |nil=>exact h
 |cons q r=>exact⟨h.1,h.2.1⟩
theorem bH.tail {p:List Int} {r:List (List Int)} (h:bH cut (p::r)):bH cut r:=by
 cases r with
 |nil=>trivial
 |cons q r=>exact h.2.2.2
theorem bH.cons {p:List Int} {r:List (List Int)} (h1:p≠ []) (h2:eS cut p) (h3:∀q r',r=q::r'→DJ cut p q) (h4:bH cut r):bH cut (p::r):=by
 cases r with
 |nil=>exact⟨h1,h2⟩
 |cons q r=>exact⟨h1,h2,h3 q r rfl,h4⟩
theorem xn (rest:List (List Int)) (hr:ew cut rest.flatten=rest):∀p:List Int,bH cut (p::rest)→ew cut (p++rest.flatten)=p::rest
 | [],h=>absurd rfl h.head.1
 | [x],h=>by
  cases rest with
  |nil=>rfl
  |cons q r=>
   obtain⟨u,y,hu,hy,hc⟩:=h.2.2.1;simp at hu;subst hu;cases q with
   |nil=>cases hy
   |cons z q=>
    simp at hy;subst hy;rw [List.flatten_cons]at hr⊢;rw [List.cons_append]at hr;simp only [List.cons_append,List.nil_append,ew,hc,if_true,hr]
 |x::y::p,h=>by
  have h2:=h.head.2;have hc:bH cut ((y::p)::rest):=by
   refine bH.cons (by simp) h2.2 (fun q r' hq=>?_) h.tail;subst hq;obtain⟨u,v,hu,hv,hcc⟩:=h.2.2.1;exact⟨u,v,by rw [List.getLast?_cons_cons]at hu;exact hu,hv,hcc⟩
  have ih:=xn rest hr (y::p) hc;rw [List.cons_append]at ih;simp only [List.cons_append,ew];rw [if_neg (by rw [h2.1];simp),ih]
theorem iu:∀ps:List (List Int),bH cut ps→ew cut ps.flatten=ps
 | [],_=>rfl
 |p::rest,h=>by
  rw [List.flatten_cons];exact xn rest (iu rest h.tail) p h
theorem FX {Z:List Int} (h:Z≠ []):∃p ps,ew cut Z=p::ps∧p.head?=Z.head?:=by
 match Z,h with
 | [x],_=>exact⟨[x],[],rfl,rfl⟩
 |x::y::r,_=>
  simp only [ew];split
  ·exact⟨[x],_,rfl,rfl⟩
  ·cases ew cut (y::r)with
   |nil=>exact⟨[x],[],rfl,rfl⟩
   |cons p ps=>exact⟨x::p,ps,rfl,rfl⟩
theorem mH:∀Z:List Int,bH cut (ew cut Z)∧(ew cut Z).flatten=Z
 | []=>⟨trivial,rfl⟩
 | [x]=>⟨⟨by simp,trivial⟩,rfl⟩
 |x::y::r=>by
  obtain⟨h1,h2⟩:=mH (y::r);obtain⟨p,ps,hp,hh⟩:=FX (cut:=cut) (Z:=y::r) (by simp);simp only [ew];split
  ·rename_i hc;refine⟨bH.cons (by simp) trivial (fun q r' hq=>?_) h1,by rw [List.flatten_cons,h2];rfl⟩;rw [hp]at hq;cases hq;exact⟨x,y,rfl,hh,hc⟩
  ·rename_i hc;rw [hp]at h1 h2⊢;dsimp only;have hpp:=h1.head;refine⟨bH.cons (by simp) ?_ (fun q r' hq=>?_) h1.tail,by rw [List.flatten_cons]at h2⊢;rw [List.cons_append,h2]⟩
   ·cases p with
    |nil=>exact absurd rfl hpp.1
    |cons z p=>
     simp at hh;subst hh;exact⟨by simpa using hc,hpp.2⟩
   ·subst hq;obtain⟨u,v,hu,hv,hcc⟩:=h1.2.2.1;cases p with
    |nil=>exact absurd rfl hpp.1
    |cons z p=>exact⟨u,v,by rw [List.getLast?_cons_cons];exact hu,hv,hcc⟩
theorem bH.append {a b:List (List Int)} (h:bH cut (a++b)):bH cut a∧bH cut b:=by
 induction a with
 |nil=>exact⟨trivial,h⟩
 |cons p a ih=>
  rw [List.cons_append]at h;obtain⟨h1,h2⟩:=ih h.tail;refine⟨bH.cons h.head.1 h.head.2 (fun q r' hq=>?_) h1,h2⟩;subst hq;exact h.2.2.1
theorem bH.glue {a:List (List Int)} {p:List Int} {b:List (List Int)} (ha:bH cut (a++ [p])) (hb:bH cut b) (hc:∀q r',b=q::r'→DJ cut p q):bH cut (a++p::b):=by
 induction a with
 |nil=>exact bH.cons ha.head.1 ha.head.2 hc hb
 |cons x a ih=>
  rw [List.cons_append]at ha⊢;refine bH.cons ha.head.1 ha.head.2 (fun q r' hq=>?_) (ih ha.tail);cases a with
  |nil=>cases hq;exact ha.2.2.1
  |cons z a=>cases hq;exact ha.2.2.1
theorem mU:∀(p q:List Int),eS cut (p++q)↔eS cut p∧eS cut q∧(∀x y,p.getLast?=some x→q.head?=some y→cut x y=false)
 | [],q=>by simp [eS]
 | [x],[]=>by simp [eS]
 | [x],y::q=>by
  simp only [List.cons_append,List.nil_append,eS];constructor
  ·rintro⟨h1,h2⟩;refine⟨trivial,h2,?_⟩;intro a b ha hb;simp at ha hb;rw [←ha, ←hb];exact h1
  ·rintro⟨_,h2,h3⟩;exact⟨h3 x y rfl rfl,h2⟩
 |x::y::p,q=>by
  have:=mU (y::p) q;simp only [List.cons_append,eS]at this⊢;rw [this];constructor
  ·rintro⟨h1,h2,h3,h4⟩;exact⟨⟨h1,h2⟩,h3,fun a b ha hb=>h4 a b (by rwa [List.getLast?_cons_cons]at ha) hb⟩
  ·rintro⟨⟨h1,h2⟩,h3,h4⟩;exact⟨h1,h2,h3,fun a b ha hb=>h4 a b (by rw [List.getLast?_cons_cons];exact ha) hb⟩
end
structure Voc where
 ms:List (Int×Int)
 ex:Int→List Int
 cutB:Int→Int→Bool
 sp:List Int
namespace Voc
variable (V:Voc)
def cut (x y:Int):Bool:=decide (x<0)||decide (y<0)||V.cutB x y
def place (t:Int):Option Nat:=V.sp.idxOf? t
def items (t:Int):List Int:=match V.place t with
 |some i=>[-1- (i:Int)]
 |none=>V.ex t
def encP:List Int→List Int
 | []=>[]
 |x::r=>if x<0 then [V.sp.getD (-1-x).toNat 0]else after V.ms V.ms.length (x::r)
def encode (Z:List Int):List Int:=(ew V.cut Z).flatMap V.encP
def itemsAll (ids:List Int):List Int:=ids.flatMap V.items
def Canon (ids:List Int):Prop:=V.encode (V.itemsAll ids)=ids
def Has (t:Int):Prop:=Lg V.ms t∨t∈V.sp
variable {V}
theorem itemsAll_append (a b:List Int):V.itemsAll (a++b)=V.itemsAll a++V.itemsAll b:=by simp [itemsAll]
end Voc
structure HE where
 r:Int
 p:Int
 t:Int
 f:Int
 a:Int
 b:Int
 deriving DecidableEq,Inhabited
def HE.lt (x y:HE):Prop:=x.r<y.r∨x.r=y.r∧(x.p<y.p∨x.p=y.p∧x.t<y.t)
instance (x y:HE):Decidable (x.lt y):=by unfold HE.lt;infer_instance
theorem HE.asymm {x y:HE} (h:x.lt y):¬y.lt x:=by unfold HE.lt at*;omega
theorem HE.le_trans {x y z:HE} (h1:¬y.lt x) (h2:¬z.lt y):¬z.lt x:=by unfold HE.lt at*;omega
theorem HE.lt_le {x y z:HE} (h1:x.lt y) (h2:¬z.lt y):¬z.lt x:=HE.le_trans (HE.asymm h1) h2
abbrev hat (l:List HE) (j:Nat):HE:=l.getD j default
def pr (l:List HE) (i k:Nat):List HE:=(l.set i (hat l k)).set k (hat l i)
theorem bJ (l:List HE) (i k:Nat):(pr l i k).length=l.length:=by simp [pr]
theorem ix {l:List HE} {i k:Nat} (hi:i<l.length) (hk:k<l.length) (j:Nat):hat (pr l i k) j=if j=k then hat l i else if j=i then hat l k else hat l j:=by
 unfold hat pr;simp only [List.getD_eq_getElem?_getD,List.getElem?_set,List.length_set];by_cases h1:j=k
 ·subst h1;simp [hk]
 ·by_cases h2:j=i
  ·subst h2;rw [if_neg (fun e=>h1 e.symm),if_pos rfl,if_pos hi,if_neg h1,if_pos rfl];rfl
  ·rw [if_neg (fun e=>h1 e.symm),if_neg (fun e=>h2 e.symm),if_neg h1,if_neg h2]
theorem mm {l:List HE} {e:HE}:e∈l↔∃j,j<l.length∧hat l j=e:=by
 constructor
 ·intro h;obtain⟨j,hj,rfl⟩:=List.getElem_of_mem h;exact⟨j,hj,by simp [hat,hj]⟩
 ·rintro⟨j,hj,rfl⟩;simp only [hat,List.getD_eq_getElem?_getD,List.getElem?_eq_getElem hj,Option.getD_some];exact List.getElem_mem hj
theorem pz {l:List HE} {i k:Nat} (hi:i<l.length) (hk:k<l.length) (e:HE):e∈pr l i k↔e∈l:=by
 rw [mm,mm,bJ];constructor
 ·rintro⟨j,hj,rfl⟩;rw [ix hi hk];split
  ·exact⟨i,hi,rfl⟩
  ·split
   ·exact⟨k,hk,rfl⟩
   ·exact⟨j,hj,rfl⟩
 ·rintro⟨j,hj,rfl⟩;by_cases h1:j=i
  ·subst h1;exact⟨k,hk,by rw [ix hi hk,if_pos rfl]⟩
  ·by_cases h2:j=k
   ·subst h2;exact⟨i,hi,by rw [ix hi hk,if_neg (fun e=>h1 e.symm),if_pos rfl]⟩
   ·exact⟨j,hj,by rw [ix hi hk,if_neg h2,if_neg h1]⟩
def par (j:Nat):Nat:=(j-1)/2
theorem gH {j:Nat} (h:0<j):par j<j:=by unfold par;omega
def dZ (l:List HE):Prop:=∀j,0<j→j<l.length→¬(hat l j).lt (hat l (par j))
def Bh (l:List HE) (i:Nat):Prop:=∀j,0<j→j<l.length→(j≠i→¬(hat l j).lt (hat l (par j)))∧(par j=i→0<i→¬(hat l j).lt (hat l (par i)))
theorem tO {l:List HE} {i:Nat} (h:Bh l i) (hi:i=0∨¬(hat l i).lt (hat l (par i))):dZ l:=by
 intro j h0 hj;by_cases e:j=i
 ·subst e;rcases hi with hi |hi
  ·omega
  ·exact hi
 ·exact(h j h0 hj).1 e
theorem FV {l:List HE} {i:Nat} (h:Bh l i) (h0:0<i) (hi:i<l.length) (hl:(hat l i).lt (hat l (par i))):Bh (pr l i (par i)) (par i):=by
 have hp:=gH h0;have hpl:par i<l.length:=by omega
 intro j j0 hj;rw [bJ]at hj;have hjp:=gH j0;have at_:∀x,hat (pr l i (par i)) x=if x=par i then hat l i else if x=i then hat l (par i)else hat l x:=ix hi hpl
 constructor
 ·intro hne;rw [at_ j,at_ (par j),if_neg hne];by_cases e1:j=i
  ·subst e1;rw [if_pos rfl,if_pos rfl];exact HE.asymm hl
  ·rw [if_neg e1];by_cases e2:par j=par i
   ·rw [if_pos e2];have h1:=(h j j0 hj).1 e1;rw [e2]at h1;exact HE.lt_le hl h1
   ·rw [if_neg e2];by_cases e3:par j=i
    ·rw [if_pos e3];exact(h j j0 hj).2 e3 h0
    ·rw [if_neg e3];exact(h j j0 hj).1 e1
 ·intro e2 hp0;have hpp:=gH hp0;have a1:hat (pr l i (par i)) j=if j=i then hat l (par i)else hat l j:=by rw [at_ j,if_neg (by omega)]
  have a2:hat (pr l i (par i)) (par (par i))=hat l (par (par i)):=by rw [at_ _,if_neg (by omega),if_neg (by omega)]
  rw [a1,a2];have h1:=(h (par i) hp0 hpl).1 (by omega);by_cases e1:j=i
  ·subst e1;rw [if_pos rfl];exact h1
  ·rw [if_neg e1];have h2:=(h j j0 hj).1 e1;rw [e2]at h2;exact HE.le_trans h1 h2
def lE (l:List HE) (i:Nat):Prop:=∀j,0<j→j<l.length→(par j≠i→¬(hat l j).lt (hat l (par j)))∧(par j=i→0<i→¬(hat l j).lt (hat l (par i)))
theorem tr {l:List HE} {i:Nat} (h:lE l i) (hc:∀j,0<j→j<l.length→par j=i→¬(hat l j).lt (hat l i)):dZ l:=by
 intro j h0 hj;by_cases e:par j=i
 ·rw [e];exact hc j h0 hj e
 ·exact(h j h0 hj).1 e
theorem B2 {l:List HE} {i c:Nat} (h:lE l i) (hc0:0<c) (hc:c<l.length) (hpc:par c=i) (hl:(hat l c).lt (hat l i)) (ho:∀j,0<j→j<l.length→par j=i→¬(hat l j).lt (hat l c)):lE (pr l i c) c:=by
 have hp:=gH hc0;have hil:i<l.length:=by omega
 have at_:∀x,hat (pr l i c) x=if x=c then hat l i else if x=i then hat l c else hat l x:=ix hil hc
 intro j j0 hj;rw [bJ]at hj;have hjp:=gH j0;constructor
 ·intro hne;rw [at_ j,at_ (par j),if_neg hne];by_cases e1:j=c
  ·subst e1;rw [if_pos rfl,if_pos hpc];exact HE.asymm hl
  ·rw [if_neg e1];by_cases e2:j=i
   ·subst e2;rw [if_pos rfl,if_neg (by omega)];exact(h c hc0 hc).2 hpc j0
   ·rw [if_neg e2];by_cases e3:par j=i
    ·rw [if_pos e3];exact ho j j0 hj e3
    ·rw [if_neg e3];exact(h j j0 hj).1 e3
 ·intro e1 _;have a1:hat (pr l i c) j=hat l j:=by rw [at_ j,if_neg (by omega),if_neg (by omega)]
  have a2:hat (pr l i c) i=hat l c:=by rw [at_ i,if_neg (by omega),if_pos rfl]
  rw [hpc,a1,a2];have:=(h j j0 hj).1 (by omega);rw [e1]at this;exact this
theorem F2 {l:List HE} (h:dZ l) (x:HE):Bh (l++ [x]) l.length:=by
 intro j j0 hj;have hjp:=gH j0;simp at hj;constructor
 ·intro hne;have hlt:j<l.length:=by omega
  have e:∀y,y<l.length→hat (l++ [x]) y=hat l y:=by
   intro y hy;simp only [hat,List.getD_eq_getElem?_getD,List.getElem?_append_left hy]
  rw [e j hlt,e _ (by omega)];exact h j j0 hlt
 ·intro e;omega
theorem E2 {l:List HE} (h:dZ l) (n:Nat) (hn:l.length=n+1):lE ((pr l 0 n).take n) 0:=by
 intro j j0 hj;rw [List.length_take,bJ,hn]at hj;have hjn:j<n:=by omega
 have hjp:=gH j0;have e:∀y,y<n→0<y→hat ((pr l 0 n).take n) y=hat l y:=by
  intro y hy hy0;have:hat ((pr l 0 n).take n) y=hat (pr l 0 n) y:=by simp only [hat,List.getD_eq_getElem?_getD,List.getElem?_take_of_lt hy]
  rw [this,ix (by omega) (by omega),if_neg (by omega),if_neg (by omega)]
 constructor
 ·intro hne;rw [e j hjn j0,e _ (by omega) (by omega)];exact h j j0 (by omega)
 ·intro _ h0;omega
theorem zE {l:List HE} (h:dZ l):∀j,j<l.length→¬(hat l j).lt (hat l 0):=by
 intro j;induction j using Nat.strongRecOn with
 |ind j ih=>
  intro hj;by_cases h0:j=0
  ·subst h0;intro e;exact HE.asymm e e
  ·have hp:=gH (Nat.pos_of_ne_zero h0);exact HE.le_trans (ih (par j) hp (by omega)) (h j (Nat.pos_of_ne_zero h0) hj)
theorem Fh {l:List HE} (n:Nat) (hn:l.length=n+1):(∀e∈l,e=hat l 0∨e∈(pr l 0 n).take n)∧∀e∈(pr l 0 n).take n,e∈l:=by
 constructor
 ·intro e he;rw [←pz (l:=l) (i:=0) (k:=n) (by omega) (by omega)]at he;obtain⟨j,hj,rfl⟩:=mm.1 he;rw [bJ]at hj;by_cases hjn:j=n
  ·subst hjn;rw [ix (by omega) (by omega),if_pos rfl];exact .inl rfl
  ·refine .inr (mm.2 ⟨j,by rw [List.length_take,bJ];omega,?_⟩);simp only [hat,List.getD_eq_getElem?_getD,List.getElem?_take_of_lt (show j<n by omega)]
 ·intro e he;exact(pz (by omega) (by omega) e).1 (List.mem_of_mem_take he)
end Go.Proofs.YtijbcdiffjjefaaGreatDoor.Eng
