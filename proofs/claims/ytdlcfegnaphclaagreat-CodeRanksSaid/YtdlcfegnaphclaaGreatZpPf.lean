/- The chain and its queue, in plain Lean: joining what is least comes to what the passes make. -/
import Derived.Test.YtdlcfegnaphclaaGreatZpBd
import Derived.Laws.MakeOwn
import Derived.Tactics
import Derived.Tactics2
import Derived.Defers
import Derived.Laws.Pointers
import Derived.Laws.LoneSync
import Derived.RegionTactic
import Derived.RegionCalls
import Derived.ChangeAlike
set_option linter.unusedVariables false
namespace Go.Proofs.YtdlcfegnaphclaaGreat.Eng
structure Nd where
 id:Int
 ahead:Int
 next:Int
 deriving Inhabited
abbrev aJ (ns:List Nd) (p:Nat):Nd:=ns.getD p default
theorem kC {ns:List Nd} {q:Nat} (hq:q<ns.length) (x:Nd) (p:Nat):aJ (ns.set q x) p=if p=q then x else aJ ns p:=by
 unfold aJ;simp only [List.getD_eq_getElem?_getD,List.getElem?_set];by_cases h:q=p
 ·subst h;simp [hq]
 ·rw [if_neg h,if_neg (fun e=>h e.symm)]
def hd (vs:List Nat) (nxt:Int):Int:=match vs with
 | []=>nxt
 |p::_=>p
def CC:List Nat→Int→Int
 | [],prev=>prev
 |p::r,_=>CC r p
def Ch (ns:List Nd):Int→List Nat→Int→Prop
 |_,[],_=>True
 |prev,p::r,nxt=>(aJ ns p).ahead=prev∧(aJ ns p).next=hd r nxt∧Ch ns p r nxt
theorem dU {ns:List Nd} {vs:List Nat} {nxt:Int}:∀(us:List Nat) (prev:Int),Ch ns prev (us++vs) nxt↔Ch ns prev us (hd vs nxt)∧Ch ns (CC us prev) vs nxt
 | [],prev=>by simp [Ch,CC]
 |p::r,prev=>by
  have hh:hd (r++vs) nxt=hd r (hd vs nxt):=by cases r<;>rfl
  simp only [List.cons_append,Ch,CC,dU r p,hh,and_assoc]
theorem rz {ns ns':List Nd}:∀(ps:List Nat) (prev nxt:Int),(∀p∈ps,(aJ ns' p).ahead=(aJ ns p).ahead∧(aJ ns' p).next=(aJ ns p).next)→Ch ns prev ps nxt→Ch ns' prev ps nxt
 | [],_,_,_,_=>trivial
 |p::r,prev,nxt,h,hc=>⟨(h p (by simp)).1.trans hc.1,(h p (by simp)).2.trans hc.2.1,rz r p nxt (fun q hq=>h q (by simp [hq])) hc.2.2⟩
structure kF (ns:List Nd) (ps:List Nat):Prop where
 ch:Ch ns (-1) ps (-1)
 sorted:ps.Pairwise (·< ·)
 lt:∀p∈ps,p<ns.length
 alive:∀p∈ps,0≤(aJ ns p).id
 dead:∀p,p<ns.length→p∉ps→(aJ ns p).id= -2
 head:ns≠ []→hd ps (-1)=0
def db (ns:List Nd) (ps:List Nat):List Int:=ps.map fun p=>(aJ ns p).id
def sW (ns:List Nd) (i q:Nat) (a c:Int):List Nd:=
 if a= -1 then(ns.set q ⟨-2,(aJ ns q).ahead,(aJ ns q).next⟩).set i ⟨c,(aJ ns i).ahead,a⟩
 else((ns.set q ⟨-2,(aJ ns q).ahead,(aJ ns q).next⟩).set i ⟨c,(aJ ns i).ahead,a⟩).set a.toNat ⟨(aJ ((ns.set q ⟨-2,(aJ ns q).ahead,(aJ ns q).next⟩).set i ⟨c,(aJ ns i).ahead,a⟩) a.toNat).id,(i:Int),(aJ ((ns.set q ⟨-2,(aJ ns q).ahead,(aJ ns q).next⟩).set i ⟨c,(aJ ns i).ahead,a⟩) a.toNat).next⟩
def cI (ns:List Nd) (i:Nat) (c:Int):List Nd:=sW ns i (aJ ns i).next.toNat (aJ ns (aJ ns i).next.toNat).next c
theorem da (ns:List Nd) (i:Nat) (c:Int):(cI ns i c).length=ns.length:=by
 unfold cI sW;split<;>simp
theorem wT {ns:List Nd} {i q:Nat} {c z:Int} (hi:i<ns.length) (hq:q<ns.length) (hiq:i<q) (hz:z= -1∨∃a:Nat,z=a∧q<a∧a<ns.length) (p:Nat):
  aJ (sW ns i q z c) p=if p=i then⟨c,(aJ ns i).ahead,z⟩else if p=q then⟨-2,(aJ ns q).ahead,(aJ ns q).next⟩else if z=(p:Int)then⟨(aJ ns p).id,(i:Int),(aJ ns p).next⟩else aJ ns p:=by
 have n2:∀(a:Int) (p:Nat),aJ ((ns.set q ⟨-2,(aJ ns q).ahead,(aJ ns q).next⟩).set i ⟨c,(aJ ns i).ahead,a⟩) p=if p=i then⟨c,(aJ ns i).ahead,a⟩else if p=q then⟨-2,(aJ ns q).ahead,(aJ ns q).next⟩else aJ ns p:=by
  intro a p;rw [kC (by simpa using hi),kC hq]
 unfold sW;rcases hz with rfl |⟨a,rfl,ha1,ha2⟩
 ·rw [if_pos rfl,n2];have:¬((-1:Int)=(p:Int)):=by omega
  rw [if_neg this]
 ·rw [if_neg (by omega),Int.toNat_natCast,kC (by simp;exact ha2),n2,n2];by_cases e:p=a
  ·subst e;rw [if_pos rfl,if_neg (by omega),if_neg (by omega),if_neg (by omega),if_neg (by omega),if_pos rfl]
  ·rw [if_neg e];have:¬((a:Int)=(p:Int)):=by omega
   rw [if_neg this]
theorem lv {ns:List Nd} {us vs:List Nat} {i q:Nat} {c:Int} (h:kF ns (us++i::q::vs)) (hc:0≤c):
  kF (cI ns i c) (us++i::vs)∧db (cI ns i c) (us++i::vs)=db ns us++c::db ns vs∧(aJ ns i).next=q∧(aJ ns i).ahead=CC us (-1)∧(∀p,p∈us∨p∈vs→(aJ (cI ns i c) p).id=(aJ ns p).id)∧(aJ (cI ns i c) i).id=c∧(aJ (cI ns i c) i).ahead=CC us (-1)∧(aJ (cI ns i c) i).next=hd vs (-1):=by
 obtain⟨c1,c2⟩:=(dU us (-1)).1 h.ch;obtain⟨a1,a2,a3,a4,c3⟩:=c2;simp only [hd]at a2;have hs:=h.sorted;rw [List.pairwise_append,List.pairwise_cons,List.pairwise_cons]at hs;obtain⟨s1,⟨s2,s3,s4⟩,s5⟩:=hs;have hi:i<ns.length:=h.lt i (by simp);have hq:q<ns.length:=h.lt q (by simp);have hiq:i<q:=s2 q (by simp);have hus:∀p∈us,p<i:=fun p hp=>s5 p hp i (by simp);have hvs:∀p∈vs,q<p:=s3;have hvl:∀p∈vs,p<ns.length:=fun p hp=>h.lt p (by simp [hp]);have at_:∀p,aJ (cI ns i c) p=if p=i then⟨c,(aJ ns i).ahead,hd vs (-1)⟩else if p=q then⟨-2,(aJ ns q).ahead,(aJ ns q).next⟩else if hd vs (-1)=(p:Int)then⟨(aJ ns p).id,(i:Int),(aJ ns p).next⟩else aJ ns p:=by
  intro p;unfold cI;rw [a2,Int.toNat_natCast,a4];refine(wT hi hq hiq ?_ p).trans (by rw [a4]);cases hv:vs with
  |nil=>exact .inl rfl
  |cons a r=>exact .inr ⟨a,rfl,hvs a (by simp [hv]),hvl a (by simp [hv])⟩
 have hvh:∀p:Nat,hd vs (-1)=(p:Int)→p∈vs:=fun p hp=>by
  cases hv:vs with
  |nil=>
   rw [hv]at hp;simp only [hd]at hp;omega
  |cons a r=>
   rw [hv]at hp;simp only [hd]at hp;have:a=p:=by omega
   simp [this]
 have atU:∀p∈us,aJ (cI ns i c) p=aJ ns p:=by
  intro p hp;have h1:=hus p hp;rw [at_,if_neg (by omega),if_neg (by omega),if_neg fun e=>by have:=hvs p (hvh p e);omega]
 have atV:∀p∈vs,(aJ (cI ns i c) p).id=(aJ ns p).id∧(aJ (cI ns i c) p).next=(aJ ns p).next∧(aJ (cI ns i c) p).ahead=if hd vs (-1)=(p:Int)then(i:Int)else(aJ ns p).ahead:=by
  intro p hp;have h1:=hvs p hp;rw [at_,if_neg (by omega),if_neg (by omega)];by_cases e:hd vs (-1)=(p:Int)
  ·rw [if_pos e,if_pos e];exact⟨rfl,rfl,rfl⟩
  ·rw [if_neg e,if_neg e];exact⟨rfl,rfl,rfl⟩
 have atI:aJ (cI ns i c) i=⟨c,(aJ ns i).ahead,hd vs (-1)⟩:=by rw [at_,if_pos rfl]
 refine⟨⟨(dU us (-1)).2 ⟨rz us _ _ (fun p hp=>by rw [atU p hp];exact⟨rfl,rfl⟩) c1,?_⟩,?_,?_,?_,?_,?_⟩,?_,a2,a1,fun p hp=>?_,by rw [atI],by rw [atI];exact a1,by rw [atI]⟩
 ·refine⟨by rw [atI];exact a1,by rw [atI],?_⟩;cases hv:vs with
  |nil=>trivial
  |cons a r=>
   rw [hv]at c3;obtain⟨b1,b2,b3⟩:=c3;have ha:=atV a (by rw [hv];simp);have hrs:∀p∈r,a<p:=by
    rw [hv]at s4;exact(List.pairwise_cons.1 s4).1
   refine⟨by rw [ha.2.2,hv];simp [hd],by rw [ha.2.1];exact b2,rz r _ _ (fun p hp=>?_) b3⟩;have h2:=atV p (by rw [hv];simp [hp]);refine⟨?_,h2.2.1⟩;rw [h2.2.2,hv,if_neg fun e=>by have:=hrs p hp;simp only [hd]at e;omega]
 ·rw [List.pairwise_append,List.pairwise_cons];exact⟨s1,⟨fun p hp=>s2 p (by simp [hp]),s4⟩,fun p hp x hx=>s5 p hp x (by
   rcases List.mem_cons.1 hx with rfl |hx
   ·simp
   ·simp [hx])⟩
 ·intro p hp;rw [da];exact h.lt p (by
   rcases List.mem_append.1 hp with hp |hp
   ·simp [hp]
   ·rcases List.mem_cons.1 hp with rfl |hp
    ·simp
    ·simp [hp])
 ·intro p hp;rcases List.mem_append.1 hp with hp |hp
  ·rw [atU p hp];exact h.alive p (by simp [hp])
  ·rcases List.mem_cons.1 hp with rfl |hp
   ·rw [atI];exact hc
   ·rw [(atV p hp).1];exact h.alive p (by simp [hp])
 ·intro p hp hn;rw [da]at hp;simp only [List.mem_append,List.mem_cons,not_or]at hn;rw [at_,if_neg hn.2.1];by_cases e:p=q
  ·rw [if_pos e]
  ·rw [if_neg e,if_neg fun e=>hn.2.2 (hvh p e)];exact h.dead p hp (by simp [hn.1,hn.2.1,hn.2.2,e])
 ·intro hne;have hne':ns≠ []:=fun e=>by rw [e]at hi;simp at hi
  have:=h.head hne';cases us with
  |nil=>exact this
  |cons u us=>exact this
 ·rw [db,List.map_append,List.map_cons,atI];congr 1
  ·exact List.map_congr_left fun p hp=>by rw [atU p hp]
  ·congr 1;exact List.map_congr_left fun p hp=>(atV p hp).1
 ·rcases hp with hp |hp
  ·rw [atU p hp]
  ·exact(atV p hp).1
def qa (ms:List (Int×Int)) (below:Int) (n:Nat) (e:HE):Prop:=∃(i f:Nat),ms.idxOf? (e.a,e.b)=some i∧e.r=((256+i:Nat):Int)∧e.r<below∧e.f=(f:Int)∧e.p=(f:Int)∧f<n
structure pT (ms:List (Int×Int)) (below:Int) (ns:List Nd) (ps:List Nat) (es:List HE):Prop where
 good:∀e∈es,qa ms below ns.length e
 all:∀us p q vs,ps=us++p::q::vs→∀i,ms.idxOf? ((aJ ns p).id,(aJ ns q).id)=some i→((256+i:Nat):Int) <below→∃e∈es,e.f=(p:Int)∧e.a=(aJ ns p).id∧e.b=(aJ ns q).id
def iO (ns:List Nd) (e:HE):Prop:=(aJ ns e.f.toNat).id≠e.a∨(aJ ns e.f.toNat).next= -1∨(aJ ns (aJ ns e.f.toNat).next.toNat).id≠e.b
instance (ns:List Nd) (e:HE):Decidable (iO ns e):=by unfold iO;infer_instance
theorem mB {ns:List Nd} {ps:List Nat} {a b:Int} (h:e_ a b (db ns ps)):∃us p q vs,ps=us++p::q::vs∧(aJ ns p).id=a∧(aJ ns q).id=b:=by
 obtain⟨u,v,he⟩:=h;obtain⟨us,rest,rfl,h1,h2⟩:=List.map_eq_append_iff.1 he;obtain⟨p,r1,rfl,h3,h4⟩:=List.map_eq_cons_iff.1 h2;obtain⟨q,vs,rfl,h5,h6⟩:=List.map_eq_cons_iff.1 h4;exact⟨us,p,q,vs,rfl,h3,h5⟩
theorem qw {ms:List (Int×Int)} {below:Int} {ns:List Nd} {ps:List Nat} {e:HE} (hL:kF ns ps) (hg:qa ms below ns.length e) (hpos:∀m∈ms,0≤m.1) (hs:¬iO ns e):
  ∃(us:List Nat) (f q:Nat) (vs:List Nat),ps=us++f::q::vs∧e.f=(f:Int)∧(aJ ns f).id=e.a∧(aJ ns q).id=e.b∧(aJ ns f).next=(q:Int):=by
 obtain⟨i,f,hi,hr,hb,hf,hp,hn⟩:=hg;simp only [iO,not_or,Classical.not_not]at hs;obtain⟨h1,h2,h3⟩:=hs;rw [hf,Int.toNat_natCast]at h1 h2 h3;have hmem:(e.a,e.b)∈ms:=by
  rcases Classical.em ((e.a,e.b)∈ms)with h |h
  ·exact h
  ·rw [List.idxOf?_eq_none_iff.2 h]at hi;cases hi
 have h0:=hpos _ hmem;have hfm:f∈ps:=by
  rcases Classical.em (f∈ps)with h |h
  ·exact h
  ·have:=hL.dead f hn h;omega
 obtain⟨us,rest,rfl⟩:=List.append_of_mem hfm;obtain⟨_,c2⟩:=(dU us (-1)).1 hL.ch;obtain⟨_,a2,_⟩:=c2;cases rest with
 |nil=>exact absurd a2 h2
 |cons q vs=>
  simp only [hd]at a2;rw [a2,Int.toNat_natCast]at h3;exact⟨us,f,q,vs,rfl,hf,h1,h3,a2⟩
theorem rO {k:Int}:∀ {ms:List (Int×Int)} {k:Int} (n:Nat),iM k ms→iM k (ms.take n)
 | [],_,n,_=>by simp [iM]
 |m::ms,k,0,_=>by simp [iM]
 |m::ms,k,n+1,h=>⟨h.1,h.2.1,rO (k:=k) n h.2.2⟩
theorem wG {ms:List (Int×Int)} {i:Nat} {m:Int×Int} (h:m∈ms.take i):∃j,j<i∧ms.idxOf? m=some j:=by
 have hm:m∈ms:=List.mem_of_mem_take h;cases hx:ms.idxOf? m with
 |none=>exact absurd hm (List.idxOf?_eq_none_iff.1 hx)
 |some j=>
  refine⟨j,?_,rfl⟩;obtain⟨hj,he,hb⟩:=List.findIdx?_eq_some_iff_getElem.1 hx;obtain⟨k,hk,rfl⟩:=List.getElem_of_mem h;simp only [List.length_take]at hk;rcases Nat.lt_or_ge j i with h' |h'
  ·exact h'
  ·exfalso;have:=hb k (by omega);simp at this
theorem Bo {ms:List (Int×Int)} {below:Int} {ns:List Nd} {ps:List Nat} {es:List HE} {e:HE} (hL:kF ns ps) (hW:pT ms below ns ps es) (hS:iM 256 ms) (hpos:∀m∈ms,0≤m.1) (he:e∈es) (hmin:∀x∈es,¬x.lt e) {us:List Nat} {f q:Nat} {vs:List Nat} (hps:ps=us++f::q::vs) (hf:e.f=(f:Int)) (ha:(aJ ns f).id=e.a) (hb:(aJ ns q).id=e.b):
  rp ms below (db ns ps)=rp ms below (db ns us++e.r::db ns vs):=by
 obtain⟨i,f',hi,hr,hlt,hf',hp,hn⟩:=hW.good e he;have hff:f'=f:=by omega
 subst hff;obtain⟨hil,hie,hib⟩:=List.findIdx?_eq_some_iff_getElem.1 hi;have hie:ms[i]=(e.a,e.b):=by simpa using hie
 have hi2:i< (below-256).toNat:=by omega
 have hsplit:ms.take (below-256).toNat=ms.take i++(e.a,e.b)::(ms.drop (i+1)).take ((below-256).toNat- (i+1)):=by
  have h1:ms.take (below-256).toNat=(ms.take (below-256).toNat).take i++(ms.take (below-256).toNat).drop i:=(List.take_append_drop _ _).symm;rw [h1,List.take_take,Nat.min_eq_left (by omega)];congr 1;rw [List.drop_take,List.drop_eq_getElem_cons hil,hie];rw [show(below-256).toNat-i=((below-256).toNat- (i+1))+1 by omega,List.take_succ_cons]
 have hids:db ns ps=db ns us++e.a::e.b::db ns vs:=by rw [hps,db,List.map_append,List.map_cons,List.map_cons,ha,hb];rfl
 have entry:∀(us':List Nat) (p q':Nat) (vs':List Nat),ps=us'++p::q'::vs'→∀j,ms.idxOf? ((aJ ns p).id,(aJ ns q').id)=some j→j≤i→¬(j<i∨p<f'):=by
  intro us' p q' vs' hps' j hj hji hor;obtain⟨x,hx,hxf,hxa,hxb⟩:=hW.all us' p q' vs' hps' j hj (by omega);obtain⟨j',fx,hj',hxr,_,hxf',hxp,_⟩:=hW.good x hx;rw [hxa,hxb,hj]at hj';cases hj';apply hmin x hx;unfold HE.lt;omega
 unfold rp;rw [hsplit,hids];have hlen:(ms.take i).length=i:=by rw [List.length_take];omega
 have:=GY (k:=256) (low:=ms.take i) (high:=(ms.drop (i+1)).take ((below-256).toNat- (i+1))) (m:=(e.a,e.b)) (u:=db ns us) (v:=db ns vs) (by rw [←hsplit];exact rO (k:=0) _ hS) ?_ ?_
 ·rw [hlen]at this;rw [this];congr 2;congr 1;omega
 ·intro m hm hbs;have hbs:e_ m.1 m.2 (db ns ps):=by rw [hids];exact hbs
  obtain⟨us',p,q',vs',hps',h1,h2⟩:=mB hbs;obtain⟨j,hj,hjx⟩:=wG hm;exact entry us' p q' vs' hps' j (by rw [h1,h2];exact hjx) (by omega) (.inl hj)
 ·intro hbs;have hbs:e_ e.a e.b (db ns (us++ [f'])):=by
   have:db ns (us++ [f'])=db ns us++ [e.a]:=by rw [db,List.map_append,List.map_cons,ha];rfl
   rw [this];exact hbs
  obtain⟨us',p,q',vs',hps',h1,h2⟩:=mB hbs;have hps2:ps=us'++p::q'::(vs'++q::vs):=by
   rw [hps];have:us++f'::q::vs=(us++ [f'])++q::vs:=by simp
   rw [this,hps'];simp
  have hpf:p<f':=by
   have hs:=hL.sorted;rw [hps,show us++f'::q::vs=(us++ [f'])++q::vs by simp]at hs;have hs:=(List.pairwise_append.1 hs).1;have hq:q'∈us++ [f']:=by rw [hps'];simp
   have hpq:p<q':=by
    rw [hps',List.pairwise_append,List.pairwise_cons]at hs;exact hs.2.1.1 q' (by simp)
   rcases List.mem_append.1 hq with hq |hq
   ·have hs2:=(List.pairwise_append.1 ((by
     have h0:=hL.sorted;rw [hps]at h0;exact h0):(us++f'::q::vs).Pairwise (·< ·))).2.2 q' hq f' (by simp)
    omega
   ·have:=List.mem_singleton.1 hq;omega
  exact entry us' p q' _ hps2 i (by rw [h1,h2];exact hi) (Q0 _) (.inr hpf)
theorem yq {ms:List (Int×Int)} {below:Int} {ns:List Nd} {ps:List Nat} {es es':List HE} {e:HE} (hL:kF ns ps) (hW:pT ms below ns ps es) (h1:∀x∈es,x=e∨x∈es') (h2:∀x∈es',x∈es) (hs:iO ns e):pT ms below ns ps es':=by
 refine⟨fun x hx=>hW.good x (h2 x hx),fun us p q vs hps i hi hb=>?_⟩;obtain⟨x,hx,hf,ha,hb'⟩:=hW.all us p q vs hps i hi hb;rcases h1 x hx with rfl |hx
 ·exfalso;have hc:=hL.ch;rw [hps]at hc;obtain⟨_,_,a2,_⟩:=(dU us (-1)).1 hc;simp only [hd]at a2;unfold iO at hs;rw [hf,Int.toNat_natCast,a2,Int.toNat_natCast]at hs;rcases hs with h |h |h
  ·exact h ha.symm
  ·omega
  ·exact h hb'.symm
 ·exact⟨x,hx,hf,ha,hb'⟩
def kd (ms:List (Int×Int)) (below:Int) (ns:List Nd) (j:Int) (es:List HE):Prop:=∀(p q:Nat) (i:Nat),j=(p:Int)→(aJ ns p).next=(q:Int)→ms.idxOf? ((aJ ns p).id,(aJ ns q).id)=some i→((256+i:Nat):Int) <below→∃e∈es,e.f=(p:Int)∧e.a=(aJ ns p).id∧e.b=(aJ ns q).id
theorem q_:∀(us:List Nat) (p:Nat) (prev:Int),CC (us++ [p]) prev=p
 | [],p,prev=>rfl
 |u::us,p,prev=>q_ us p u
theorem CG {ms:List (Int×Int)} {below:Int} {ns:List Nd} {us vs:List Nat} {i q:Nat} {c:Int} {es es1 es':List HE} {e:HE} (hL:kF ns (us++i::q::vs)) (hc:0≤c) (hW:pT ms below ns (us++i::q::vs) es) (hei:e.f=(i:Int)) (h1:∀x∈es,x=e∨x∈es1) (h2:∀x∈es1,x∈es)
  (g1:∀x∈es1,x∈es') (g2:∀x∈es',x∈es1∨qa ms below ns.length x) (q1:kd ms below (cI ns i c) (CC us (-1)) es') (q2:kd ms below (cI ns i c) i es'):pT ms below (cI ns i c) (us++i::vs) es':=by
 obtain⟨hL',_,hnx,hah,hid,hidi,hahi,hnxi⟩:=lv hL hc;have hs:=hL.sorted;rw [List.pairwise_append,List.pairwise_cons]at hs;have hiu:i∉us:=fun h=>by have:=hs.2.2 i h i (by simp);omega
 have hiv:i∉vs:=fun h=>by have:=hs.2.1.1 i (by simp [h]);omega
 refine⟨fun x hx=>?_,fun us' p r vs' hps j hj hb=>?_⟩
 ·rw [da];rcases g2 x hx with h |h
  ·exact hW.good x (h2 x h)
  ·exact h
 ·have hch:=hL'.ch;rw [hps]at hch;obtain⟨_,b1,b2,_⟩:=(dU us' (-1)).1 hch;simp only [hd]at b2;have old:(∃us0 vs0,us++i::q::vs=us0++p::r::vs0)→p≠i→(p∈us∨p∈vs)→(r∈us∨r∈vs)→∃x∈es',x.f=(p:Int)∧x.a=(aJ (cI ns i c) p).id∧x.b=(aJ (cI ns i c) r).id:=by
   rintro⟨us0,vs0,h0⟩ hpi hp hr;rw [hid p hp,hid r hr]at hj⊢;obtain⟨x,hx,hf,ha,hb'⟩:=hW.all us0 p r vs0 h0 j hj hb;refine⟨x,?_,hf,ha,hb'⟩;rcases h1 x hx with rfl |h
   ·exfalso;omega
   ·exact g1 x h
  rcases List.append_eq_append_iff.1 hps with⟨t,ht,hc'⟩ |⟨t,ht,hc'⟩
  ·-- us' = us ++ t, i :: vs = t ++ p :: r :: vs'
   cases t with
   |nil=>
    simp only [List.nil_append,List.cons.injEq]at hc';obtain⟨rfl,_⟩:=hc';exact q2 i r j rfl b2 hj hb
   |cons t0 t=>
    simp only [List.cons_append,List.cons.injEq]at hc';obtain⟨rfl,hv⟩:=hc';have hpv:p∈vs:=by rw [hv];simp
    refine old ⟨us++i::q::t,vs',by rw [hv];simp⟩ (fun e=>hiv (e▸hpv)) (.inr hpv) (.inr (by rw [hv];simp))
  ·-- us = us' ++ t, p :: r :: vs' = t ++ i :: vs
   match t,hc' with
   | [],hc'=>
    simp only [List.nil_append,List.cons.injEq]at hc';obtain⟨rfl,_⟩:=hc';exact q2 p r j rfl b2 hj hb
   | [t0],hc'=>
    simp only [List.cons_append,List.nil_append,List.cons.injEq]at hc';obtain⟨rfl,rfl,_⟩:=hc';have:CC us (-1)=(p:Int):=by rw [ht];exact q_ us' p (-1)
    rw [this]at q1;exact q1 p r j rfl b2 hj hb
   |t0::t1::t,hc'=>
    simp only [List.cons_append,List.cons.injEq]at hc';obtain⟨rfl,rfl,_⟩:=hc';have hpu:p∈us:=by rw [ht];simp
    have hru:r∈us:=by rw [ht];simp
    exact old ⟨us',t++i::q::vs,by rw [ht];simp⟩ (fun e=>hiu (e▸hpu)) (.inl hpu) (.inl hru)
theorem BC {ms:List (Int×Int)} {below:Int} {ns:List Nd} {ps:List Nat} (hW:pT ms below ns ps []):rp ms below (db ns ps)=db ns ps:=by
 refine gT _ _ _ fun m hm hb=>?_;obtain⟨us,p,q,vs,hps,h1,h2⟩:=mB hb;obtain⟨j,hj,hjx⟩:=wG hm;obtain⟨x,hx,_⟩:=hW.all us p q vs hps j (by rw [h1,h2];exact hjx) (by omega);cases hx
def jh (bs:List Int):List Nd:=bs.zipIdx.map fun x=>{id:=x.1,ahead:=(x.2:Int)-1,next:=if x.2+1=bs.length then -1 else(x.2:Int)+1}
theorem eC (bs:List Int):(jh bs).length=bs.length:=by simp [jh]
theorem qT {bs:List Int} {p:Nat} (hp:p<bs.length):aJ (jh bs) p= {id:=bs[p],ahead:=(p:Int)-1,next:=if p+1=bs.length then -1 else(p:Int)+1}:=by
 simp [aJ,jh,List.getD_eq_getElem?_getD,hp]
theorem Ba (bs:List Int):∀(k p:Nat),p+k=bs.length→Ch (jh bs) ((p:Int)-1) (List.range' p k) (-1)
 |0,p,h=>trivial
 |k+1,p,h=>by
  simp only [List.range'_succ,Ch];rw [qT (show p<bs.length by omega)];refine⟨rfl,?_,?_⟩
  ·cases k with
   |zero=>simp [hd];omega
   |succ k=>
    rw [if_neg (by omega)];simp [List.range'_succ,hd]
  ·have:=Ba bs k (p+1) (by omega);rw [show((p+1:Nat):Int)-1=(p:Int) by omega]at this;exact this
theorem FD {bs:List Int} (h:∀b∈bs,0≤b):kF (jh bs) (List.range' 0 bs.length)∧db (jh bs) (List.range' 0 bs.length)=bs:=by
 refine⟨⟨by have:=Ba bs bs.length 0 (by omega);simpa using this,?_,fun p hp=>?_,fun p hp=>?_,fun p hp hn=>?_,fun hne=>?_⟩,?_⟩
 ·exact List.pairwise_lt_range' (s:=0) (n:=bs.length)
 ·rw [eC];have:=List.mem_range'_1.1 hp;omega
 ·have:=List.mem_range'_1.1 hp;rw [qT (by omega)];exact h _ (List.getElem_mem _)
 ·rw [eC]at hp;exact absurd (List.mem_range'_1.2 ⟨by omega,by omega⟩) hn
 ·cases bs with
  |nil=>exact absurd rfl hne
  |cons b bs=>rfl
 ·apply List.ext_getElem
  ·simp [db]
  ·intro i h1 h2;simp only [db,List.getElem_map,List.getElem_range'];rw [show 0+1*i=i by omega,qT h2]
theorem ED {ms:List (Int×Int)} {below:Int} {bs:List Int} {es:List HE} (hg:∀e∈es,qa ms below bs.length e) (ha:∀p,p<bs.length→kd ms below (jh bs) p es):pT ms below (jh bs) (List.range' 0 bs.length) es:=by
 refine⟨by rw [eC];exact hg,fun us p q vs hps i hi hb=>?_⟩;have hpm:p∈List.range' 0 bs.length:=by rw [hps];simp
 have hp:p<bs.length:=by have:=List.mem_range'_1.1 hpm;omega
 refine ha p hp p q i rfl ?_ hi hb;have hc:=Ba bs bs.length 0 (by omega);rw [hps]at hc;obtain⟨_,_,a2,_⟩:=(dU us _).1 hc;exact a2
set_option linter.unusedSimpArgs false
set_option maxRecDepth 100000
open Go Go.RowKit
theorem tV {α:Type} {enc:α→List Value} {sz:Nat} (hsz:∀x,(enc x).length=sz) (m:α) (k:Nat) (v:Value):∀(xs:List α) (i:Nat) (x:α),xs[i]? =some x→k<sz→enc m=(enc x).set k v→(xs.flatMap enc).set (i*sz+k) v=(xs.set i m).flatMap enc
 | [],i,x,h,_,_=>by simp at h
 |y::t,0,x,h,hk,he=>by
  simp at h;subst h;simp only [List.flatMap_cons,List.set_cons_zero,Nat.zero_mul,Nat.zero_add,he];rw [List.set_append_left _ _ (by rw [hsz];exact hk)]
 |y::t,i+1,x,h,hk,he=>by
  have ih:=tV hsz m k v t i x (by simpa using h) hk he;simp only [List.flatMap_cons,List.set_cons_succ];rw [←ih,Nat.add_mul,Nat.one_mul,List.set_append_right _ _ (by rw [hsz];omega)];congr 1;rw [hsz];congr 1;omega
theorem kW {w:World} {B:Nat} {e:TypeId} {sz:Nat} {l:Sl} {α:Type} {enc:α→List Value} {xs:List α} (hsz:∀x,(enc x).length=sz) (h0:0<sz) (h:w.ownsRow B e sz l.v l.n (xs.flatMap enc)) {i:Nat} {x:α} (hi:xs[i]? =some x):∃a,l.a=some a∧∀k v,(enc x)[k]? =some v→w.cell? ((a.add (i*sz)).add k)=some v:=by
 obtain⟨a,ha,_,hc⟩:=(Rw.of_own h hsz h0).1 i _ hi;exact⟨a,ha,hc⟩
theorem gf {w:World} {B:Nat} {e:TypeId} {sz:Nat} {l:Sl} {α:Type} {enc:α→List Value} {xs:List α} (hsz:∀x,(enc x).length=sz) (h0:0<sz) (h:w.ownsRow B e sz l.v l.n (xs.flatMap enc)) (hn:l.n=xs.length) {a:Addr} (ha:l.a=some a) {i:Nat} {x:α} (hi:xs[i]? =some x) {k:Nat} (hk:k<sz) (m:α) (v:Value) (he:enc m=(enc x).set k v):
  (∃u,w.cell? ((a.add (i*sz)).add k)=some u)∧w.frozen? ((a.add (i*sz)).add k)=false∧∀w',w'=w.setCell ((a.add (i*sz)).add k) v→w'.ownsRow B e sz l.v l.n ((xs.set i m).flatMap enc)∧(∀j,l.v.ownBlock≠some j→w'.heap[j]? =w.heap[j]?)∧w'.heap.size=w.heap.size∧(∀B0 w0,B0≤B→Below B0 w0 w→Below B0 w0 w'):=by
 have hlt:i<xs.length:=(List.getElem?_eq_some_iff.1 hi).1;rcases h.2 with⟨hv,_⟩ |⟨g,cap,cur,hv,hb,hg,hc,hm,hz,ht⟩
 ·obtain⟨la,ln,lc⟩:=l;cases hv;cases ha
 ·obtain⟨la,ln,lc⟩:=l;cases hv;cases ha;simp only at hn;change ln≤lc at hc;change cur.size=lc*sz at hz;change cur.toList.take (ln*sz)=_ at ht;have hle:(i+1)*sz≤xs.length*sz:=Nat.mul_le_mul_right sz hlt;have hle2:xs.length*sz≤lc*sz:=Nat.mul_le_mul_right sz (by omega);have hle3:ln*sz=xs.length*sz:=by rw [hn]
  rw [Nat.add_mul,Nat.one_mul]at hle;have hadr:(((⟨g,0,none⟩:Addr).add (i*sz)).add k)=(⟨g,0,none⟩:Addr).add (i*sz+k):=by rw [Addr.add_add]
  rw [hadr];refine⟨⟨cur[i*sz+k]'(by omega),by rw [ba hg];simp⟩,bk hg,?_⟩;rintro w' rfl;refine⟨⟨?_,.inr ⟨g,lc,_,rfl,hb,bP hg _,hc,hm,by simpa using hz,?_⟩⟩,fun j hj=>au (by rw [ay];exact fun e=>hj (by rw [e];rfl)),aY _ _ _,fun B0 w0 hB0 h0=>bM h0 (by omega) _⟩
  ·show((xs.set i m).flatMap enc).length=ln*sz;rw [bY hsz,List.length_set,hn]
  ·show(cur.setIfInBounds (i*sz+k) v).toList.take (ln*sz)=_;rw [←tV hsz m k v xs i x hi hk he, ←ht,Array.toList_setIfInBounds,List.take_set]
theorem aA {w:World} {B:Nat} {e e':TypeId} {sz n k:Nat} {v:Value} {xs:List Value} {c:Array Value} {fz:Nat×Nat} (h:w.ownsRow B e sz v n xs) (hk:w.heap[k]? =some (.cells c e' fz)) (hne:e≠e'):v.ownBlock≠some k:=by
 intro hb;rcases h.2 with⟨rfl,_⟩ |⟨g,cap,cur,rfl,_,hg,_⟩
 ·cases hb
 ·cases hb;rw [hk]at hg;cases hg;exact hne rfl
theorem bR {w:World} {B B':Nat} {e e':TypeId} {sz sz' n n':Nat} {v v':Value} {xs xs':List Value} (h:w.ownsRow B e sz v n xs) (h':w.ownsRow B' e' sz' v' n' xs') (hne:e≠e'):∀k,v.ownBlock=some k→v'.ownBlock≠some k:=by
 intro k hb;rcases h.2 with⟨rfl,_⟩ |⟨g,cap,cur,rfl,_,hg,_⟩
 ·cases hb
 ·cases hb;exact aA h' hg (fun e=>hne e.symm)
abbrev Oz:TypeId:=381
abbrev wl:TypeId:=383
abbrev HZ:TypeId:=379
abbrev LI:TypeId:=378
theorem H4:Tryz.prog.underlying HZ=some (.slice wl):=by kernel_rfl
theorem Gp:(Tryz.prog.info? wl).map (fun i=>(i.zero,i.size,i.bytes))=some (some (.agg #[.int .i64 0,.int .i64 0,.int .i64 0]),3,24):=by kernel_rfl
def mm (x:Nd):List Value:=[.int .i64 x.id,.int .i64 x.ahead,.int .i64 x.next]
theorem uB (x:Nd):(mm x).length=3:=rfl
theorem uv (x:Nd):∀u∈mm x,u.oneCell'=true:=f_ _ _ _
structure cE (w:World) (B tp p q:Nat) (l lq:Sl) (turn:Nat) (below steps:Int) (ns:List Nd) (es:List HE):Prop where
 blk:w.heap[p]? =some (.cells #[.pointer (some ⟨tp,0,none⟩),l.v,.pointer (some ⟨q,0,none⟩),.int .i64 below,.int .i64 steps] Oz (0,0))
 row:w.ownsRow B wl 3 l.v l.n (ns.flatMap mm)
 len:l.n=ns.length
 hp:dt w B q lq turn es
 bp:B≤p
theorem cE.on {w w':World} {B tp p q:Nat} {l lq:Sl} {turn:Nat} {below steps:Int} {ns:List Nd} {es:List HE} (h:cE w B tp p q l lq turn below steps ns es) (hb:Below w.heap.size w w'):cE w' B tp p q l lq turn below steps ns es:=⟨ag hb h.blk,aB h.row hb,h.len,h.hp.on hb,h.bp⟩
theorem cE.pq {w:World} {B tp p q:Nat} {l lq:Sl} {turn:Nat} {below steps:Int} {ns:List Nd} {es:List HE} (h:cE w B tp p q l lq turn below steps ns es):p≠q:=by
 rintro rfl;have:=h.blk;rw [h.hp.blk]at this;cases this
theorem cE.lt {w:World} {B tp p q:Nat} {l lq:Sl} {turn:Nat} {below steps:Int} {ns:List Nd} {es:List HE} (h:cE w B tp p q l lq turn below steps ns es):p<w.heap.size:=(QV.1 h.blk).1
theorem cE.move {w w':World} {B tp p q:Nat} {l lq lq':Sl} {turn turn':Nat} {below steps:Int} {ns:List Nd} {es es':List HE} (h:cE w B tp p q l lq turn below steps ns es) (hd:j_ w w' B q lq lq' turn' es'):cE w' B tp p q l lq' turn' below steps ns es':=by
 refine⟨?_,aR h.row fun k hk=>hd.moves.keep k (cm h.row k hk).2 ?_ ?_,h.len,hd.raw,h.bp⟩
 ·rw [hd.moves.keep p h.lt h.pq (aA h.hp.row h.blk (by decide))];exact h.blk
 ·rintro rfl;exact aA h.row h.hp.blk (by decide) hk
 ·exact bR h.row h.hp.row (by decide) k hk
theorem cE.cell {w:World} {B tp p q:Nat} {l lq:Sl} {turn:Nat} {below steps:Int} {ns:List Nd} {es:List HE} (h:cE w B tp p q l lq turn below steps ns es) {i:Nat} (hi:i<ns.length):∃a,l.a=some a∧∀k v,(mm (aJ ns i))[k]? =some v→w.cell? ((a.add (i*3)).add k)=some v:=by
 have e:ns[i]? =some (aJ ns i):=by simp [aJ,hi]
 exact kW uB (by decide) h.row e
theorem cE.words {w:World} {B tp p q:Nat} {l lq:Sl} {turn:Nat} {below steps:Int} {ns:List Nd} {es:List HE} (h:cE w B tp p q l lq turn below steps ns es):∀j,w.cell? ((⟨p,0,none⟩:Addr).add j)=(#[.pointer (some ⟨tp,0,none⟩),l.v,.pointer (some ⟨q,0,none⟩),.int .i64 below,.int .i64 steps]:Array Value)[j]? :=fun j=>aj p _ h.blk j
def mL (ns:List Nd):Prop:=∀i,i<ns.length→(aJ ns i).next= -1∨∃k:Nat,(aJ ns i).next=(k:Int)∧k<ns.length
structure vD (w w':World) (B tp p q:Nat) (l:Sl) (turn:Nat) (below steps:Int) (ns:List Nd) (es:List HE) (ms:List (Int×Int)) (lq':Sl) (turn':Nat) (es':List HE):Prop where
 raw:cE w' B tp p q l lq' turn' below steps ns es'
 heap:en es'
 keep:∀x∈es,x∈es'
 new:∀x∈es',x∈es∨qa ms below ns.length x
 len:es'.length≤es.length+1
 turn:turn'≤turn+1
 below:Below B w w'
theorem px (W w:World) (B tp p q:Nat) (l lq:Sl) (turn:Nat) (below steps:Int) (ns:List Nd) (es:List HE) (T:List aP) (hT:dk W tp T) (hW:W.heap.size≤B) (hWw:Below B W w)
  (h:cE w B tp p q l lq turn below steps ns es) (hh:en es) (hB:B≤w.heap.size) (hn:mL ns) (hl:es.length≤900000) (ht:turn≤1000000000) (j:Int) (hj:j= -1∨∃f:Nat,j=(f:Int)∧f<ns.length):
  CP 271 #[.pointer (some ⟨p,0,none⟩),.int .i64 j] w fun e w'=>e= .returned (.tuple #[])∧∃lq' turn' es',vD w w' B tp p q l turn below steps ns es (ao T) lq' turn' es'∧kd (ao T) below ns j es':=by
 refine aT (yP (some ⟨p,0,none⟩) j w (fun v w'=>v= .tuple #[]∧∃lq' turn' es',vD w w' B tp p q l turn below steps ns es (ao T) lq' turn' es'∧kd (ao T) below ns j es') ?_) (by rintro v w' ⟨rfl,h⟩;exact⟨rfl,h⟩);have stay:∀w':World,Below w.heap.size w w'→kd (ao T) below ns j es→(Value.tuple #[]=Value.tuple #[]∧∃lq' turn' es',vD w w' B tp p q l turn below steps ns es (ao T) lq' turn' es'∧kd (ao T) below ns j es'):=fun w' hb ha=>⟨rfl,lq,turn,es,⟨h.on hb,hh,fun _ h=>h,fun _ h=>.inl h,by omega,by omega,hb.mono hB⟩,ha⟩;refine ac.mk (fun h0=>?_) fun h0=>?_
 ·have h0:j= -1:=by simpa using h0
  exact stay w (Below.refl _ _) fun p' q' i hp'=>by omega
 ·have h0:j≠ -1:=by simpa using h0
  obtain⟨f,rfl,hf⟩:=hj.resolve_left h0;obtain⟨a,ha,hc⟩:=h.cell hf;have hlen:=h.len;have ef:((f:Int)).toNat=f:=by omega
  rw [ef];refine ah.mk _ rfl ⟨l.a,l.n,l.c,h.words 1,ah.mk a ha ⟨by omega,by omega,_,hc 2 _ rfl,ac.mk (fun h1=>?_) fun h1=>?_⟩⟩
  ·have h1:(aJ ns f).next= -1:=by simpa using h1
   refine stay w (Below.refl _ _) fun p' q' i hp' hq'=>?_;have:p'=f:=by omega
   subst this;omega
  ·have h1:(aJ ns f).next≠ -1:=by simpa using h1
   obtain⟨g,hg,hgl⟩:=(hn f hf).resolve_left h1;intro w1 hw1;have hb1:Below w.heap.size w w1:=by subst hw1;exact aI w
   have hL1:=h.on hb1;obtain⟨a1,ha1,hc1⟩:=hL1.cell hf;have hea:a1=a:=by rw [ha]at ha1;exact(Option.some.inj ha1).symm
   subst hea;obtain⟨a2,ha2,hcg⟩:=hL1.cell hgl;have hea:a2=a1:=by rw [ha]at ha2;exact(Option.some.inj ha2).symm
   subst hea;have eg:((g:Int)).toNat=g:=by omega
   refine ah.mk _ rfl ⟨l.a,l.n,l.c,hL1.words 1,ah.mk a2 ha ⟨by omega,by omega,_,hc1 0 _ rfl,ah.mk _ rfl ⟨l.a,l.n,l.c,hL1.words 1,ah.mk _ rfl ⟨l.a,l.n,l.c,hL1.words 1,ah.mk a2 ha ⟨by omega,by omega,_,hc1 2 _ rfl,ah.mk a2 ha ⟨by rw [hg];omega,by rw [hg];omega,?_⟩⟩⟩⟩⟩⟩;rw [hg,eg];refine⟨_,hcg 0 _ rfl,?_⟩;intro w2 hw2;have hb2:Below w1.heap.size w1 w2:=by subst hw2;exact af _ _
   have hL2:=hL1.on hb2;obtain⟨a3,ha3,hc2⟩:=hL2.cell hf;have hea:a3=a2:=by rw [ha]at ha3;exact(Option.some.inj ha3).symm
   subst hea;obtain⟨a4,ha4,hcg2⟩:=hL2.cell hgl;have hea:a4=a3:=by rw [ha]at ha4;exact(Option.some.inj ha4).symm
   subst hea;refine⟨⟨hcg2 0 _ rfl,trivial⟩,⟨by have:=hc2 2 _ rfl;rwa [hg]at this,trivial⟩,⟨hL2.words 1,trivial⟩,⟨hL2.words 1,trivial⟩,⟨hc2 0 _ rfl,trivial⟩,⟨hL2.words 1,trivial⟩,?_⟩;refine aX [.int .i64 0,.int .i64 0] [.int .i64 (aJ ns f).id,.int .i64 (aJ ns g).id] rfl (cz _ _) w2 hw2 ?_;intro w3 h3 hz3 hB3 w4 hw4;have hb4:Below w1.heap.size w1 w4:=by subst hw4;exact hB3.drew
   have h4:w4.heap[w1.heap.size]? =some (.cells #[Value.int .i64 (aJ ns f).id,Value.int .i64 (aJ ns g).id] nn (0,0)):=by subst hw4;exact h3
   have hL4:=hL1.on hb4;have hb04:=ae hb1 hb4;have hB04:Below B W w4:=hWw.trans (hb04.mono hB);refine ah.mk _ rfl ⟨_,hL4.words 0,_,aj _ _ h4 0,_,aj _ _ h4 1,?_⟩;refine(nm w4 tp T (hT.on (hB04.mono hW)) _ _).mono ?_;rintro e w5 ⟨rfl,hb5⟩;have hL5:=hL4.on hb5;have hb05:=ae hb04 hb5;have h5:=ag hb5 h4;cases hx:(ao T).idxOf? ((aJ ns f).id,(aJ ns g).id)with
   |none=>
    refine⟨_,_,rfl,ac.no rfl (stay w5 hb05 fun p' q' i hp' hq' hi=>?_)⟩;have:p'=f:=by omega
    subst this;have:q'=g:=by omega
    subst this;rw [hx]at hi;cases hi
   |some i=>
    refine⟨_,_,rfl,ac.yes rfl (ah.mk _ rfl ⟨below,hL5.words 3,ac.mk (fun hlt=>?_) fun hlt=>?_⟩)⟩
    ·have hlt:((256+i:Nat):Int) <below:=by simpa using hlt
     intro w6 hw6;have hb6:Below w5.heap.size w5 w6:=by subst hw6;exact aI w5
     have hL6:=hL5.on hb6;have h6:=ag hb6 h5;have hb06:=ae hb05 hb6;have hz06:=hb06.size;refine ah.mk _ rfl ⟨_,hL6.words 2,_,_,⟨by have:=aj _ _ h6 0;rw [ax]at this;exact this,aj _ _ h6 1,trivial⟩,?_⟩;refine(tL w6 B q lq turn es hL6.hp (by omega) hh hl ht _ _ _ _ _).mono ?_;rintro e w7 ⟨rfl,lq',es',hd,hl',hm'⟩;refine⟨rfl,rfl,lq',turn+1,es',⟨hL6.move hd,hd.heap,fun x hx1=>(hm' x).2 (.inl hx1),fun x hx1=>?_,by omega,by omega,(hb06.mono hB).trans hd.moves.below⟩,fun p' q' i' hp' hq' hi' hlt'=>?_⟩
     ·rcases(hm' x).1 hx1 with h |h
      ·exact .inl h
      ·right;subst h;exact⟨i,f,hx,rfl,hlt,rfl,rfl,hf⟩
     ·have:p'=f:=by omega
      subst this;have:q'=g:=by omega
      subst this;exact⟨_,(hm' _).2 (.inr rfl),rfl,rfl,rfl⟩
    ·have hlt:¬((256+i:Nat):Int) <below:=by simpa using hlt
     refine stay w5 hb05 fun p' q' i' hp' hq' hi' hlt'=>?_;have:p'=f:=by omega
     subst this;have:q'=g:=by omega
     subst this;rw [hx]at hi';cases hi';exact absurd hlt' hlt
theorem C9 (w:World) (B tp p q:Nat) (l lq:Sl) (turn:Nat) (below steps:Int) (ns:List Nd) (es:List HE) (h:cE w B tp p q l lq turn below steps ns es) (hn:mL ns) (x:HE) (f:Nat) (hf:x.f=(f:Int)) (hfl:f<ns.length):
  CP 273 #[.pointer (some ⟨p,0,none⟩),.agg #[.int .i64 x.f,.int .i64 x.a,.int .i64 x.b]] w fun e w'=>e= .returned (.bool (decide (iO ns x)))∧Below w.heap.size w w':=by
 refine aT (yN (some ⟨p,0,none⟩) x.f x.a x.b w (fun v w'=>v= .bool (decide (iO ns x))∧Below w.heap.size w w') ?_) (by rintro v w' ⟨rfl,h⟩;exact⟨rfl,h⟩);intro w1 hw1 w2 hw2;have hb2:Below w.heap.size w w2:=by subst hw2;subst hw1;exact(af _ _).drew
 have hl2:w2.heap[w.heap.size]? =some (.cells #[Value.int .i64 x.f,Value.int .i64 x.a,Value.int .i64 x.b] LI (0,0)):=by subst hw2;subst hw1;exact ak _ _
 have hL2:=h.on hb2;obtain⟨a,ha,hc⟩:=hL2.cell hfl;have hlen:=h.len;have ef:(x.f).toNat=f:=by omega
 have c0:=hc 0 _ rfl;rw [ax]at c0;refine ah.mk _ rfl ⟨l.a,l.n,l.c,hL2.words 1,_,aj _ _ hl2 0,ah.mk a ha ⟨by omega,by omega,?_⟩⟩;rw [ef];refine⟨_,_,_,⟨c0,hc 1 _ rfl,hc 2 _ rfl,trivial⟩,?_⟩;intro w3 hw3;have hb3:Below w2.heap.size w2 w3:=by subst hw3;exact af _ _
 obtain⟨a',ha',hc'⟩:=(hL2.on hb3).cell hfl;have hea:a'=a:=by rw [ha]at ha';exact(Option.some.inj ha').symm
 subst hea;have c0':=hc' 0 _ rfl;rw [ax]at c0';refine⟨⟨c0',hc' 1 _ rfl,hc' 2 _ rfl,trivial⟩,⟨aj _ _ (ag hb3 hl2) 0,trivial⟩,⟨(hL2.on hb3).words 1,trivial⟩,?_⟩;refine aX [.int .i64 0,.int .i64 0,.int .i64 0] (mm (aJ ns f)) rfl (uv _) w3 hw3 ?_;intro w4 h4 hz4 hB4 w5 hw5;have hb5:Below w2.heap.size w2 w5:=by subst hw5;exact hB4.drew
 have h5:w5.heap[w2.heap.size]? =some (.cells (mm (aJ ns f)).toArray wl (0,0)):=by subst hw5;exact h4
 have hl5:=ag hb5 hl2;have hL5:=hL2.on hb5;have hb05:=ae hb2 hb5;have st:∀b:Bool,(b=true↔iO ns x)→(Value.bool b= .bool (decide (iO ns x))∧Below w.heap.size w w5):=fun b hb=>⟨by congr 1;rw [Bool.eq_iff_iff,hb,decide_eq_true_eq],hb05⟩;have hS:iO ns x↔((aJ ns f).id≠x.a∨(aJ ns f).next= -1∨(aJ ns (aJ ns f).next.toNat).id≠x.b):=by unfold iO;rw [ef]
 refine⟨_,aj _ _ h5 0,_,by rw [Addr.add_add];exact aj _ _ hl5 1,ac.mk (fun h0=>?_) fun h0=>?_⟩
 ·have h0:(aJ ns f).id≠x.a:=by simpa using h0
  exact st true ⟨fun _=>hS.2 (.inl h0),fun _=>rfl⟩
 ·have h0:(aJ ns f).id=x.a:=by simpa using h0
  refine⟨_,aj _ _ h5 2,ac.mk (fun h1=>?_) fun h1=>?_⟩
  ·have h1:(aJ ns f).next= -1:=by simpa using h1
   exact st true ⟨fun _=>hS.2 (.inr (.inl h1)),fun _=>rfl⟩
  ·have h1:(aJ ns f).next≠ -1:=by simpa using h1
   obtain⟨g,hg,hgl⟩:=(hn f hfl).resolve_left h1;obtain⟨a2,ha2,hcg⟩:=hL5.cell hgl;have eg:((g:Int)).toNat=g:=by omega
   refine ah.mk _ rfl ⟨l.a,l.n,l.c,hL5.words 1,_,aj _ _ h5 2,ah.mk a2 ha2 ⟨by rw [hg];omega,by rw [hg];omega,?_⟩⟩;rw [hg,eg];refine⟨_,hcg 0 _ rfl,_,by rw [Addr.add_add];exact aj _ _ hl5 2,?_⟩;refine st _ ?_;rw [hS,hg,eg];constructor
   ·intro hb;exact .inr (.inr (by simpa only [bne_iff_ne,ne_eq]using hb))
   ·rintro(h |h |h)
    ·exact absurd h0 h
    ·omega
    ·simpa only [bne_iff_ne,ne_eq]using h
theorem cE.nodes {w w':World} {B tp p q:Nat} {l lq:Sl} {turn:Nat} {below steps:Int} {ns ns':List Nd} {es:List HE} (h:cE w B tp p q l lq turn below steps ns es) (hr:w'.ownsRow B wl 3 l.v l.n (ns'.flatMap mm)) (hl:ns'.length=ns.length) (hs:∀j,l.v.ownBlock≠some j→w'.heap[j]? =w.heap[j]?):cE w' B tp p q l lq turn below steps ns' es:=by
 have hq:l.v.ownBlock≠some q:=aA h.row h.hp.blk (by decide);refine⟨?_,hr,by rw [hl];exact h.len,⟨by rw [hs q hq];exact h.hp.blk,aR h.hp.row fun k hk=>hs k fun e=>bR h.row h.hp.row (by decide) k e hk,h.hp.len,h.hp.off,h.hp.bp⟩,h.bp⟩;rw [hs p (aA h.row h.blk (by decide))];exact h.blk
theorem LN {ns:List Nd} {i:Nat} (hi:i<ns.length):ns[i]? =some (aJ ns i):=by simp [aJ,hi]
theorem cE.write {w:World} {B tp p q:Nat} {l lq:Sl} {turn:Nat} {below steps:Int} {ns:List Nd} {es:List HE} (h:cE w B tp p q l lq turn below steps ns es) {i:Nat} (hi:i<ns.length) {a:Addr} (ha:l.a=some a) {k:Nat} (hk:k<3) (m:Nd) (v:Value) (he:mm m=(mm (aJ ns i)).set k v):
  (∃u,w.cell? ((a.add (i*3)).add k)=some u)∧w.frozen? ((a.add (i*3)).add k)=false∧∀w',w'=w.setCell ((a.add (i*3)).add k) v→cE w' B tp p q l lq turn below steps (ns.set i m) es∧w'.heap.size=w.heap.size∧(∀w0,Below B w0 w→Below B w0 w'):=by
 obtain⟨h1,h2,h3⟩:=gf uB (by decide) h.row h.len ha (LN hi) hk m v he;refine⟨h1,h2,fun w' hw'=>?_⟩;obtain⟨r,s,z,b⟩:=h3 w' hw';exact⟨h.nodes r (by simp) s,z,fun w0 h0=>b B w0 (Q0 _) h0⟩
theorem cE.drew {w:World} {B tp p q:Nat} {l lq:Sl} {turn:Nat} {below steps:Int} {ns:List Nd} {es:List HE} (h:cE w B tp p q l lq turn below steps ns es):cE w.drew B tp p q l lq turn below steps ns es:=h.on (aI w)
theorem EJ (W w:World) (B tp p q:Nat) (l lq:Sl) (turn:Nat) (below steps:Int) (ns:List Nd) (es:List HE) (T:List aP) (hT:dk W tp T) (hW:W.heap.size≤B) (hWw:Below B W w)
  (h:cE w B tp p q l lq turn below steps ns es) (hh:en es) (hB:B≤w.heap.size) (hl:es.length≤800000) (ht:turn≤900000000) (hst:0≤steps∧steps≤1000000000) (i:Nat) (c:Int) (us vs:List Nat) (y:Nat) (hL:kF ns (us++i::y::vs)) (hc:0≤c) (hn':mL (cI ns i c)):
  CP 274 #[.pointer (some ⟨p,0,none⟩),.int .i64 (i:Int),.int .i64 c] w fun e w'=>e= .returned (.tuple #[])∧∃lq' turn' es',cE w' B tp p q l lq' turn' below (steps+1) (cI ns i c) es'∧en es'∧(∀x∈es,x∈es')∧(∀x∈es',x∈es∨qa (ao T) below ns.length x)∧es'.length≤es.length+2∧turn'≤turn+2∧Below B w w'∧
   kd (ao T) below (cI ns i c) (CC us (-1)) es'∧kd (ao T) below (cI ns i c) i es':=by
 obtain⟨hL',_,hnx,hah,hid,hidi,hahi,hnxi⟩:=lv hL hc;have hi:i<ns.length:=hL.lt i (by simp);have hy:y<ns.length:=hL.lt y (by simp);have hsort:=hL.sorted;rw [List.pairwise_append,List.pairwise_cons,List.pairwise_cons]at hsort;have hiy:i<y:=hsort.2.1.1 y (by simp);have hyn:(aJ ns y).next=hd vs (-1):=by
  obtain⟨_,_,_,_,a4,_⟩:=(dU us (-1)).1 hL.ch;exact a4
 refine aT (xS (some ⟨p,0,none⟩) i c w (fun v w'=>v= .tuple #[]∧∃lq' turn' es',cE w' B tp p q l lq' turn' below (steps+1) (cI ns i c) es'∧en es'∧(∀x∈es,x∈es')∧(∀x∈es',x∈es∨qa (ao T) below ns.length x)∧es'.length≤es.length+2∧turn'≤turn+2∧Below B w w'∧
   kd (ao T) below (cI ns i c) (CC us (-1)) es'∧kd (ao T) below (cI ns i c) i es') ?_) (by rintro v w' ⟨rfl,h⟩;exact⟨rfl,h⟩)
 obtain⟨a,ha,hci⟩:=h.cell hi;obtain⟨a2,ha2,hcy⟩:=h.cell hy;have hea:a2=a:=by rw [ha]at ha2;exact(Option.some.inj ha2).symm
 subst hea;have hlen:=h.len;have ei:((i:Int)).toNat=i:=by omega
 have ey:((y:Int)).toNat=y:=by omega
 have hci2:=hci 2 _ rfl;rw [hnx]at hci2;refine ah.mk _ rfl ⟨l.a,l.n,l.c,h.words 1,ah.mk a2 ha ⟨by omega,by omega,(y:Int),hci2,ah.mk _ rfl ⟨l.a,l.n,l.c,h.words 1,ah.mk a2 ha ⟨by omega,by omega,?_⟩⟩⟩⟩;rw [ey];obtain⟨u1,f1,s1⟩:=h.write hy ha (k:=0) (by decide) ⟨-2,(aJ ns y).ahead,(aJ ns y).next⟩ (.int .i64 (-2)) rfl;refine⟨_,hcy 2 _ rfl,ah.mk _ rfl ⟨l.a,l.n,l.c,h.words 1,ah.mk a2 ha ⟨by omega,by omega,rfl,u1,f1,?_⟩⟩⟩;intro w1 hw1 w2 hw2;obtain⟨h1,z1,b1⟩:=s1 w1 hw1;have h2:cE w2 B tp p q l lq turn below steps (ns.set y ⟨-2,(aJ ns y).ahead,(aJ ns y).next⟩) es:=by subst hw2;exact h1.drew
 have z2:w2.heap.size=w.heap.size:=by subst hw2;exact z1
 have b2:Below B w w2:=by subst hw2;exact(b1 w (Below.refl _ _)).drew
 have n1i:aJ (ns.set y ⟨-2,(aJ ns y).ahead,(aJ ns y).next⟩) i=aJ ns i:=by rw [kC hy,if_neg (by omega)]
 obtain⟨u3,f3,s3⟩:=h2.write (i:=i) (by simpa using hi) ha (k:=0) (by decide) ⟨c,(aJ ns i).ahead,(aJ ns i).next⟩ (.int .i64 c) (by rw [n1i];rfl);refine ah.mk _ rfl ⟨l.a,l.n,l.c,h2.words 1,ah.mk _ rfl ⟨l.a,l.n,l.c,h2.words 1,ah.mk a2 ha ⟨by omega,by omega,rfl,u3,f3,?_⟩⟩⟩;intro w3 hw3;obtain⟨h3,z3,b3⟩:=s3 w3 hw3;have n2i:aJ ((ns.set y ⟨-2,(aJ ns y).ahead,(aJ ns y).next⟩).set i ⟨c,(aJ ns i).ahead,(aJ ns i).next⟩) i=⟨c,(aJ ns i).ahead,(aJ ns i).next⟩:=by rw [kC (by simpa using hi),if_pos rfl]
 obtain⟨u4,f4,s4⟩:=h3.write (i:=i) (by simpa using hi) ha (k:=2) (by decide) ⟨c,(aJ ns i).ahead,(aJ ns y).next⟩ (.int .i64 (aJ ns y).next) (by rw [n2i];rfl);refine ah.mk a2 ha ⟨by omega,by omega,rfl,u4,f4,?_⟩;intro w4 hw4;obtain⟨h4,z4,b4⟩:=s4 w4 hw4;rw [List.set_set]at h4;have b04:Below B w w4:=b4 _ (b3 _ b2);intro J hJ;have fin:∀w5:World,cE w5 B tp p q l lq turn below steps (cI ns i c) es→w5.heap.size=w.heap.size→Below B w w5→J [] w5:=by
  intro w5 h5 z5 b5;refine hJ _ (ah.mk _ rfl ⟨steps,h5.words 4,Ar.ok64 (by omega) (by omega) (ah.mk _ rfl ⟨rfl,⟨_,h5.words 4⟩,bk h5.blk,?_⟩)⟩);intro w6 hw6;have h6:cE w6 B tp p q l lq turn below (steps+1) (cI ns i c) es:=by
   have hpq:=h5.pq;subst hw6;refine⟨bP h5.blk _,bH h5.row _ (by rw [ay];exact aA h5.row h5.blk (by decide)),h5.len,⟨?_,bH h5.hp.row _ (by rw [ay];exact aA h5.hp.row h5.blk (by decide)),h5.hp.len,h5.hp.off,h5.hp.bp⟩,h5.bp⟩;rw [au (by rw [ay];exact fun e=>hpq e.symm)];exact h5.hp.blk
  have z6:w6.heap.size=w.heap.size:=by rw [←z5];subst hw6;exact aY _ _ _
  have b6:Below B w w6:=by subst hw6;exact bM b5 h5.bp _
  have hi':i< (cI ns i c).length:=by rw [da];exact hi
  obtain⟨a6,ha6,hc6⟩:=h6.cell hi';have hea:a6=a2:=by rw [ha]at ha6;exact(Option.some.inj ha6).symm
  subst hea;have hca:=hc6 1 _ rfl;rw [hahi]at hca;refine ah.mk _ rfl ⟨l.a,l.n,l.c,h6.words 1,ah.mk a6 ha ⟨by omega,by omega,CC us (-1),hca,?_⟩⟩;have hlu:CC us (-1)= -1∨∃f:Nat,CC us (-1)=(f:Int)∧f< (cI ns i c).length:=by
   rcases List.eq_nil_or_concat us with rfl |⟨us',u,rfl⟩
   ·exact .inl rfl
   ·right;rw [List.concat_eq_append,q_];exact⟨u,rfl,by rw [da];exact hL.lt u (by simp)⟩
  refine(px W w6 B tp p q l lq turn below (steps+1) (cI ns i c) es T hT hW (hWw.trans b6) h6 hh (by omega) hn' (by omega) (by omega) (CC us (-1)) hlu).mono ?_;rintro e w7 ⟨rfl,lq7,turn7,es7,P7,A7⟩;have z7:=P7.below.size;refine⟨rfl,(px W w7 B tp p q l lq7 turn7 below (steps+1) (cI ns i c) es7 T hT hW ((hWw.trans b6).trans P7.below) P7.raw P7.heap (by omega) hn' (by have:=P7.len;omega) (by have:=P7.turn;omega) (i:Int) (.inr ⟨i,rfl,hi'⟩)).mono ?_⟩;rintro e w8 ⟨rfl,lq8,turn8,es8,P8,A8⟩;refine⟨rfl,rfl,lq8,turn8,es8,P8.raw,P8.heap,fun x hx=>P8.keep x (P7.keep x hx),fun x hx=>?_,by have:=P7.len;have:=P8.len;omega,by have:=P7.turn;have:=P8.turn;omega,(b6.trans P7.below).trans P8.below,?_,A8⟩
  ·rcases P8.new x hx with h |h
   ·rcases P7.new x h with h |h
    ·exact .inl h
    ·rw [da]at h;exact .inr h
   ·rw [da]at h;exact .inr h
  ·intro p' q' i' h1 h2 h3 h4;obtain⟨x,hx,hr⟩:=A7 p' q' i' h1 h2 h3 h4;exact⟨x,P8.keep x hx,hr⟩
 have hJN:cI ns i c=sW ns i y (aJ ns y).next c:=by unfold cI;rw [hnx,Int.toNat_natCast]
 refine ac.mk (fun h0=>?_) fun h0=>?_
 ·have h0:(aJ ns y).next≠ -1:=by simpa using h0
  obtain⟨g,vs',hv⟩:∃g vs',vs=g::vs':=by
   cases hv:vs with
   |nil=>rw [hv]at hyn;exact absurd hyn h0
   |cons g vs'=>exact⟨g,vs',rfl⟩
  have hgn:(aJ ns y).next=(g:Int):=by rw [hyn,hv];rfl
  have hg:g<ns.length:=hL.lt g (by rw [hv];simp);have hyg:y<g:=by rw [hv]at hsort;exact hsort.2.1.2.1 g (by simp)
  have eg:((g:Int)).toNat=g:=by omega
  obtain⟨u9,f9,s9⟩:=h4.write (i:=g) (by simpa using hg) ha (k:=1) (by decide) ⟨(aJ ((ns.set y ⟨-2,(aJ ns y).ahead,(aJ ns y).next⟩).set i ⟨c,(aJ ns i).ahead,(aJ ns y).next⟩) g).id,(i:Int),(aJ ((ns.set y ⟨-2,(aJ ns y).ahead,(aJ ns y).next⟩).set i ⟨c,(aJ ns i).ahead,(aJ ns y).next⟩) g).next⟩ (.int .i64 (i:Int)) rfl;refine ah.mk _ rfl ⟨l.a,l.n,l.c,h4.words 1,ah.mk a2 ha ⟨by rw [hgn];omega,by rw [hgn];omega,?_⟩⟩;rw [show((aJ ns y).next).toNat=g by omega];refine⟨rfl,u9,f9,fun w9 hw9=>?_⟩;obtain⟨h9,z9,b9⟩:=s9 w9 hw9;refine fin w9 ?_ (by omega) (b9 _ b04);rw [hJN];unfold sW;rw [if_neg h0,show((aJ ns y).next).toNat=g by omega];exact h9
 ·have h0:(aJ ns y).next= -1:=by simpa using h0
  refine fin w4 ?_ (by omega) b04;rw [hJN];unfold sW;rw [if_pos h0];exact h4
theorem pL {ns:List Nd} {us vs:List Nat} {i y:Nat} {c:Int} (h:kF ns (us++i::y::vs)) (hc:0≤c) (hn:mL ns):mL (cI ns i c):=by
 obtain⟨_,_,hnx,_⟩:=lv h hc;have hi:i<ns.length:=h.lt i (by simp);have hy:y<ns.length:=h.lt y (by simp);have hs:=h.sorted;rw [List.pairwise_append,List.pairwise_cons,List.pairwise_cons]at hs;have hiy:i<y:=hs.2.1.1 y (by simp);have hyn:(aJ ns y).next=hd vs (-1):=by
  obtain⟨_,_,_,_,a4,_⟩:=(dU us (-1)).1 h.ch;exact a4
 intro k hk;rw [da]at hk⊢;have hat:aJ (cI ns i c) k=if k=i then⟨c,(aJ ns i).ahead,hd vs (-1)⟩else if k=y then⟨-2,(aJ ns y).ahead,(aJ ns y).next⟩else if hd vs (-1)=(k:Int)then⟨(aJ ns k).id,(i:Int),(aJ ns k).next⟩else aJ ns k:=by
  unfold cI;rw [hnx,Int.toNat_natCast,hyn];refine(wT hi hy hiy ?_ k).trans (by rw [hyn]);cases hv:vs with
  |nil=>exact .inl rfl
  |cons a r=>exact .inr ⟨a,rfl,by rw [hv]at hs;exact hs.2.1.2.1 a (by simp),h.lt a (by rw [hv];simp)⟩
 rw [hat];split
 ·show hd vs (-1)= -1∨∃k:Nat,hd vs (-1)=(k:Int)∧k<ns.length;rw [←hyn];exact hn y hy
 ·split
  ·exact hn y hy
  ·split
   ·exact hn k hk
   ·exact hn k hk
structure vi (W w:World) (B tp p q:Nat) (l:Sl) (below:Int) (n:Nat) (bs:List Int) (T:List aP) (lq:Sl) (turn:Nat) (steps:Int) (ns:List Nd) (ps:List Nat) (es:List HE):Prop where
 raw:cE w B tp p q l lq turn below steps ns es
 heap:en es
 link:kF ns ps
 waits:pT (ao T) below ns ps es
 next:mL ns
 nlen:ns.length=n
 ids:rp (ao T) below (db ns ps)=rp (ao T) below bs
 size:es.length+3*ps.length≤5*n
 turn:turn+2*ps.length≤5*n
 steps:0≤steps∧steps+ps.length≤n+1
 below:Below B W w
theorem D7 (x:HE) (t:List HE):EP (x::t)= .tuple #[.agg #[.int .i64 x.f,.int .i64 x.a,.int .i64 x.b],.int .i64 x.r,.int .i64 x.p,.bool true]:=rfl
theorem HA (W w:World) (B tp p q:Nat) (l lq:Sl) (turn:Nat) (below steps:Int) (n:Nat) (bs:List Int) (ns:List Nd) (ps:List Nat) (es:List HE) (T:List aP) (hT:dk W tp T) (hW:W.heap.size≤B) (hS:iM 256 (ao T)) (hpos:∀m∈ao T,0≤m.1) (hnb:n≤100000) (hBW:B≤w.heap.size)
  (h:vi W w B tp p q l below n bs T lq turn steps ns ps es):
  CP 257 #[.pointer (some ⟨p,0,none⟩)] w fun e w'=>e= .returned (.tuple #[])∧∃lq' turn' steps' ns' ps',vi W w' B tp p q l below n bs T lq' turn' steps' ns' ps' []:=by
 refine aO (Ay (some ⟨p,0,none⟩) w) ?_;intro I hI;have key:∀(m:Nat) (w1:World) (lq:Sl) (turn:Nat) (steps:Int) (ns:List Nd) (ps:List Nat) (es:List HE),es.length+3*ps.length≤m→B≤w1.heap.size→vi W w1 B tp p q l below n bs T lq turn steps ns ps es→I [] w1:=by
  intro m;induction m using Nat.strongRecOn with
  |ind m ih=>
   intro w1 lq turn steps ns ps es hm hBw h;refine hI w1 ?_;intro J hJ;have hsz:=h.size;refine ah.mk _ rfl ⟨_,h.raw.words 2,?_⟩;refine(vd w1 B q lq turn es h.raw.hp hBw h.heap (by omega)).mono ?_;rintro e w3 ⟨rfl,lq',es',hd,hlen,hm1,hm2⟩;have hraw3:=h.raw.move hd;have hB3:B≤w3.heap.size:=QU hBw hd.moves.size;have hWB3:Below B W w3:=h.below.trans hd.moves.below;cases es with
   |nil=>
    refine⟨0,0,0,0,0,false,rfl,?_⟩;intro w4 hw4;refine aX [.int .i64 0,.int .i64 0,.int .i64 0] [.int .i64 0,.int .i64 0,.int .i64 0] rfl (fi _ _ _) w4 hw4 ?_;intro w5 h5 hz5 hB5;refine ac.yes rfl ⟨rfl,lq',turn,steps,ns,ps,?_⟩;have hes:es'= []:=List.eq_nil_of_length_eq_zero (by simpa using hlen);subst hes;exact⟨hraw3.on hB5,hd.heap,h.link,h.waits,h.next,h.nlen,h.ids,h.size,h.turn,h.steps,hWB3.trans (hB5.mono hB3)⟩
   |cons x t=>
    rw [D7];have hx0:hat (x::t) 0=x:=rfl;rw [hx0]at hm1;have hxm:x∈x::t:=by simp
    have hmin:∀z∈x::t,¬z.lt x:=by
     intro z hz;obtain⟨j,hj,rfl⟩:=nV.1 hz;have:=Dc h.heap j hj;rwa [hx0]at this
    obtain⟨i,f,hi,hxr,hxb,hxf,hxp,hfl⟩:=h.waits.good x hxm;refine⟨_,_,_,_,_,true,rfl,?_⟩;intro w4 hw4;refine aX [.int .i64 0,.int .i64 0,.int .i64 0] [.int .i64 x.f,.int .i64 x.a,.int .i64 x.b] rfl (fi _ _ _) w4 hw4 ?_;intro w5 h5 hz5 hB5;have hraw5:=hraw3.on hB5;refine ac.no rfl ⟨_,_,_,D1 h5,?_⟩;refine(C9 w5 B tp p q l lq' turn below steps ns es' hraw5 h.next x f hxf hfl).mono ?_;rintro e w6 ⟨rfl,hB6⟩;have hraw6:=hraw5.on hB6;have h6:=ag hB6 h5;have hB56:=ae hB5 hB6;have hWB6:Below B W w6:=hWB3.trans (hB56.mono hB3);have hB6':B≤w6.heap.size:=QU hB3 hB56.size;simp only [List.length_cons]at hlen hsz hm;refine⟨_,rfl,ac.mk (fun h0=>?_) fun h0=>?_⟩
    ·have h0:¬iO ns x:=by simpa using h0
     obtain⟨us,f',y,vs,hps,hf',hfa,hyb,hfn⟩:=qw h.link (h.waits.good x hxm) hpos h0;have hff:f'=f:=by omega
     subst hff;have hL:=h.link;rw [hps]at hL;have hc:0≤x.r:=by omega
     refine⟨x.f,aj _ _ h6 0,?_⟩;rw [hxf];have hstp:=h.steps;have htn:=h.turn;have hpl:ps.length=us.length+vs.length+2:=by rw [hps];simp;omega
     refine(EJ W w6 B tp p q l lq' turn below steps ns es' T hT hW hWB6 hraw6 hd.heap hB6' (by omega) (by omega) (by omega) f' x.r us vs y hL hc (pL hL hc h.next)).mono ?_;rintro e w7 ⟨rfl,lq7,turn7,es7,hraw7,hh7,k7,n7,l7,t7,b7,q1,q2⟩;have hids:=Bo h.link h.waits hS hpos hxm hmin hps hf' hfa hyb;obtain⟨hL7,hids7,_⟩:=lv hL hc;refine⟨rfl,hJ _ (ih (es7.length+3*(us++f'::vs).length) ?_ w7 lq7 turn7 (steps+1) _ _ es7 (Q0 _) (QU hB6' b7.size) ⟨hraw7,hh7,hL7,?_,pL hL hc h.next,by rw [da];exact h.nlen,?_,?_,?_,?_,hWB6.trans b7⟩)⟩
     ·simp only [List.length_append,List.length_cons];omega
     ·rw [hps]at h;exact CG hL hc h.waits hxf hm1 hm2 k7 (fun z hz=>n7 z hz) q1 q2
     ·rw [hids7, ←hids];exact h.ids
     ·simp only [List.length_append,List.length_cons];omega
     ·simp only [List.length_append,List.length_cons];omega
     ·simp only [List.length_append,List.length_cons];omega
    ·have h0:iO ns x:=by simpa using h0
     refine hJ _ (ih (es'.length+3*ps.length) (by omega) w6 lq' turn steps ns ps es' (Q0 _) hB6' ⟨hraw6,hd.heap,h.link,yq h.link h.waits hm1 hm2 h0,h.next,h.nlen,h.ids,by omega,h.turn,h.steps,hWB6⟩)
 exact key _ w lq turn steps ns ps es (Q0 _) hBW h
theorem H3 (w:World) (B tp p q:Nat) (l lq:Sl) (turn:Nat) (below steps:Int) (ns:List Nd) (ps:List Nat) (es:List HE) (h:cE w B tp p q l lq turn below steps ns es) (hL:kF ns ps) (hl:ps.length≤1000000) (hnl:ns.length≤1000000):
  CP 258 #[.pointer (some ⟨p,0,none⟩)] w fun e w'=>∃a n c,e= .returned (.slice a n c)∧w'.ownsRow w.heap.size aV 1 (.slice a n c) n ((db ns ps).flatMap aC)∧n=ps.length∧Below w.heap.size w w':=by
 refine aO (xN (some ⟨p,0,none⟩) w) ?_;intro I hI;have hlen:=h.len;by_cases hne:ns= []
 ·subst hne;have hps:ps= []:=by
   cases ps with
   |nil=>rfl
   |cons p' r=>exact absurd (hL.lt p' (by simp)) (by simp)
  subst hps;refine hI _ _ _ _ _ (ac.yes rfl (ah.mk _ rfl ⟨l.a,l.n,l.c,h.words 1,ac.no (by simp at hlen;simp [hlen]) ⟨none,0,0,rfl,c_ _ _ _ _,rfl,Below.refl _ _⟩⟩))
 have key:∀(rest us:List Nat) (A:Option Addr) (N C:Nat) (w1:World),ps=us++rest→w1.ownsRow w.heap.size aV 1 (.slice A N C) N ((db ns us).flatMap aC)→N=us.length→Below w.heap.size w w1→I [.int .i64 (hd rest (-1)),.slice A N C] w1:=by
  intro rest;induction rest with
  |nil=>
   intro us A N C w1 hps hown hN hB;refine hI _ _ _ _ _ (ac.no rfl ⟨A,N,C,rfl,?_,?_,hB⟩)
   ·rw [hps,List.append_nil];exact hown
   ·rw [hps,List.append_nil];exact hN
  |cons f rest ih=>
   intro us A N C w1 hps hown hN hB;have hf:f<ns.length:=hL.lt f (by rw [hps];simp);have h1:=h.on hB;obtain⟨a,ha,hc⟩:=h1.cell hf;have hus:us.length<ps.length:=by rw [hps];simp
   refine hI _ _ _ _ _ (ac.yes (show((f:Int) != -1)=true by simp) (ah.mk _ rfl ⟨l.a,l.n,l.c,h1.words 1,ac.yes (show decide ((f:Int) < ((l.n:Nat):Int))=true by simp;omega) (ah.mk _ rfl ⟨l.a,l.n,l.c,h1.words 1,ah.mk a ha ⟨show(0:Int)≤(f:Int) by omega,show(f:Int) < ((l.n:Nat):Int) by omega,_,hc 0 _ rfl,?_⟩⟩)⟩));rintro w2 rfl;obtain⟨A',C',w3,hr,hown',hg,_⟩:=nD (P:=Tryz.prog) cJ aV vV Dv rfl (by decide) hown [Value.int .i64 (aJ ns f).id] rfl (by intro u hu;rw [List.mem_singleton.1 hu];rfl) (by omega) (by omega) hB.size;have hB3:Below w.heap.size w w3:=mE hB hown hg hB.size;have h3:=h.on hB3;obtain⟨a3,ha3,hc3⟩:=h3.cell hf;obtain⟨_,_,a2,_⟩:=(dU us (-1)).1 (by have:=hL.ch;rw [hps]at this;exact this);have hnx:=hc3 2 _ rfl;rw [a2]at hnx;refine⟨A',N+1,C',w3,hr,ah.mk _ rfl ⟨l.a,l.n,l.c,h3.words 1,ah.mk a3 ha3 ⟨show(0:Int)≤(f:Int) by omega,show(f:Int) < ((l.n:Nat):Int) by omega,_,hnx,?_⟩⟩⟩;refine ih (us++ [f]) A' (N+1) C' w3 (by rw [hps];simp) ?_ (by simp;omega) hB3;have:(db ns (us++ [f])).flatMap aC=(db ns us).flatMap aC++ [Value.int .i64 (aJ ns f).id]:=by
    rw [db,List.map_append,List.flatMap_append];rfl
   rw [this];exact hown'
 have h0:=hL.head hne;have:=key ps [] none 0 0 w rfl (c_ _ _ _ _) rfl (Below.refl _ _);rw [h0]at this;exact this
def jM (bs:List Int) (i:Nat):List Nd:=(bs.take i).zipIdx.map fun x=>⟨x.1,(x.2:Int)-1,(x.2:Int)+1⟩
theorem iF (bs:List Int) (i:Nat) (h:i≤bs.length):(jM bs i).length=i:=by simp [jM,h]
theorem Ee {bs:List Int} {i:Nat} (h:i<bs.length):jM bs (i+1)=jM bs i++ [⟨bs[i],(i:Int)-1,(i:Int)+1⟩]:=by
 have:bs.take (i+1)=bs.take i++ [bs[i]]:=by rw [List.take_add_one,QW h];rfl
 rw [jM,this,List.zipIdx_append,List.map_append];have hl:min i bs.length=i:=by omega
 simp [jM,hl]
theorem Er {bs:List Int} {n:Nat} (h:bs.length=n+1):(jM bs bs.length).set n ⟨(aJ (jM bs bs.length) n).id,(aJ (jM bs bs.length) n).ahead, -1⟩=jh bs:=by
 have hn:aJ (jM bs bs.length) n=⟨bs[n],(n:Int)-1,(n:Int)+1⟩:=by
  simp [aJ,jM,List.getD_eq_getElem?_getD,h]
 rw [hn];apply List.ext_getElem
 ·simp [jM,jh]
 ·intro i h1 h2;rw [List.getElem_set];simp only [jM,jh,List.getElem_map,List.getElem_zipIdx,List.getElem_take];by_cases e:n=i
  ·subst e;simp [h]
  ·have hi:i<bs.length:=by simpa [jh]using h2
   simp only [e,if_false];rw [if_neg (by omega)]
def a_ (s:Bs):List Int:=s.map fun b=>(b.toNat:Int)
theorem zw (s:Bs):∀b∈a_ s,0≤b:=by
 intro b hb;obtain⟨x,_,rfl⟩:=List.mem_map.1 hb;omega
theorem qz (w:World) (tp:Nat) (T:List aP) (hT:dk w tp T) (s:Bs) (hs:s.length≤100000) (below:Int):
  CP 256 #[.pointer (some ⟨tp,0,none⟩),.string (str s),.int .i64 below] w fun e w'=>∃p q l lq turn ps es,e= .returned (.pointer (some ⟨p,0,none⟩))∧vi w w' w.heap.size tp p q l below s.length (a_ s) T lq turn 0 (jh (a_ s)) ps es:=by
 refine aO (yO (some ⟨tp,0,none⟩) (str s) below w) ?_;refine(vh w).mono ?_;rintro e w1 ⟨rfl,hH,hB1,hz1⟩;refine⟨_,rfl,?_⟩;intro w2 hw2;have hB2:Below w.heap.size w w2:=by subst hw2;exact hB1.alloc (by omega) _
 have hLk2:cE w2 w.heap.size tp w1.heap.size w.heap.size ⟨none,0,0⟩ ⟨none,0,0⟩ 0 below 0 (jM (a_ s) 0) []:=by
  subst hw2;exact⟨ak _ _,c_ _ _ _ _,rfl,hH.on (af _ _),by omega⟩
 have hil:(a_ s).length=s.length:=by simp [a_]
 intro I hI;have key:=aU (α:=World) s.length (fun i x=>∃l,cE x w.heap.size tp w1.heap.size w.heap.size l ⟨none,0,0⟩ 0 below 0 (jM (a_ s) i) []∧Below w.heap.size w x) (fun i x=>I [.int .i64 (i:Int)] x) w2 ⟨_,hLk2,hB2⟩ ?_ ?_
 ·exact key
 ·rintro i hi ih w3 ⟨l,h3,hB3⟩;refine hI _ _ (ac.yes (by rw [be];simp;omega) ?_);intro w4 hw4;have h4:cE w4 w.heap.size tp w1.heap.size w.heap.size l ⟨none,0,0⟩ 0 below 0 (jM (a_ s) i) []:=by subst hw4;exact h3.drew
  have hB4:Below w.heap.size w w4:=by subst hw4;exact hB3.drew
  have hlen:l.n=i:=by rw [h4.len,iF _ _ (by omega)]
  have hbt:eN (str s) (i:Int)=((s[i]).toNat:Int):=eS s i hi;have hb256:=(s[i]).toNat_lt;refine⟨l.a,l.n,l.c,h4.words 1,by omega,by rw [be];omega,Ar.ok64 (by omega) (by omega) (Ar.ok64 (by omega) (by omega) ?_)⟩;have hwr:IntKind.wrap .i64 (eN (str s) (i:Int))=((s[i]).toNat:Int):=by
   rw [hbt];exact cZ (by show(-9223372036854775808:Int)≤_;omega) (by show _≤(9223372036854775807:Int);omega)
  rw [hwr];rintro w5 rfl;obtain⟨a',c',w6,hr6,hu6,hf6,h7⟩:=fo (P:=Tryz.prog) (s:=l) 1 h4.blk (show 1<5 by decide) h4.row (aA h4.row h4.blk (by decide)) h4.bp HZ H4 Gp rfl (by decide) (mm ⟨((s[i]).toNat:Int),(i:Int)-1,(i:Int)+1⟩) rfl (uv _) (by omega) (by omega);refine⟨⟨by rw [(af w4 _).cell (by rw [ay];exact h4.lt)];exact h4.words 1,trivial⟩,a',l.n+1,c',w6,hr6,rfl,hu6,hf6,?_⟩;intro w7 hw7;obtain⟨hblk7,hrow7,hoff7,hB7,hkeep7,hsz7,hnew7⟩:=h7 w7 hw7;have hil':(a_ s)[i]'(by omega)=((s[i]).toNat:Int):=by simp [a_]
  refine Ar.ok64 (by omega) (by omega) (ih w7 ⟨⟨a',l.n+1,c'⟩,⟨hblk7,?_,?_,⟨?_,c_ _ _ _ _,rfl,(by intro e;cases e),Q0 _⟩,h4.bp⟩,hB7 w hB4⟩)
  ·rw [Ee (show i< (a_ s).length by omega),List.flatMap_append,hil'];simpa using hrow7
  ·rw [iF _ _ (by omega)];show l.n+1=i+1;omega
  ·rw [hkeep7 w.heap.size h4.hp.lt (fun e=>h4.pq e.symm) (aA h4.row h4.hp.blk (by decide))];exact h4.hp.blk
 ·rintro w3 ⟨l,h3,hB3⟩;have hlen:l.n=s.length:=by rw [h3.len,iF _ _ (by omega)]
  refine hI _ _ (ac.no (by rw [be];simp) ?_);intro J hJ;have fin:∀w8:World,cE w8 w.heap.size tp w1.heap.size w.heap.size l ⟨none,0,0⟩ 0 below 0 (jh (a_ s)) []→Below w.heap.size w w8→J [] w8:=by
   intro w8 h8 hB8;refine hJ _ ⟨l.a,l.n,l.c,h8.words 1,?_⟩;intro I11 hI11;obtain⟨hLk,hids⟩:=FD (zw s);have hnx:mL (jh (a_ s)):=by
    intro i hi;rw [eC]at hi;rw [qT hi,eC];dsimp only;split
    ·exact .inl rfl
    ·exact .inr ⟨i+1,by omega,by omega⟩
   have key:=aU (α:=World) s.length (fun k x=>∃lq turn es,cE x w.heap.size tp w1.heap.size w.heap.size l lq turn below 0 (jh (a_ s)) es∧en es∧(∀e∈es,qa (ao T) below s.length e)∧(∀p',p'<k→kd (ao T) below (jh (a_ s)) (p':Int) es)∧es.length≤k∧turn≤k∧Below w.heap.size w x) (fun k x=>I11 [.int .i64 (k:Int)] x) w8 ⟨_,0,[],h8,(fun j _ hj=>by simp at hj),(fun e he=>by cases he),fun p' hp'=>absurd hp' (Nat.not_lt_zero _),Q0 _,Q0 _,hB8⟩ ?_ ?_
   ·exact key
   ·rintro k hk ih w9 ⟨lq,turn,es,h9,hh9,g9,a9,l9,t9,hB9⟩;refine hI11 _ _ (ac.yes (by simp;omega) ?_);have hbl:(jh (a_ s)).length=s.length:=by rw [eC,hil]
    refine(px w w9 w.heap.size tp w1.heap.size w.heap.size l lq turn below 0 (jh (a_ s)) es T hT (Q0 _) hB9 h9 hh9 hB9.size hnx (by omega) (by omega) (k:Int) (.inr ⟨k,rfl,by omega⟩)).mono ?_;rintro e w10 ⟨rfl,lq',turn',es',P,A⟩;refine⟨rfl,Ar.ok64 (by omega) (by omega) (ih w10 ⟨lq',turn',es',P.raw,P.heap,fun x hx=>?_,fun p' hp'=>?_,by have:=P.len;omega,by have:=P.turn;omega,hB9.trans P.below⟩)⟩
    ·rcases P.new x hx with h |h
     ·exact g9 x h
     ·rw [hbl]at h;exact h
    ·rcases Nat.lt_succ_iff_lt_or_eq.1 hp' with h |h
     ·intro p1 q1 i h1 h2 h3 h4;obtain⟨x,hx,hr⟩:=a9 p' h p1 q1 i h1 h2 h3 h4;exact⟨x,P.keep x hx,hr⟩
     ·subst h;exact A
   ·rintro w9 ⟨lq,turn,es,h9,hh9,g9,a9,l9,t9,hB9⟩;refine hI11 _ _ (ac.no (by simp;omega) ⟨_,_,l,lq,turn,List.range' 0 (a_ s).length,es,rfl,h9,hh9,hLk,ED (by rw [hil];exact g9) (by rw [hil];exact a9),hnx,by rw [eC,hil],by rw [hids],?_,?_,?_,hB9⟩)
    ·simp [hil];omega
    ·simp [hil];omega
    ·simp [hil];omega
  refine⟨l.a,l.n,l.c,h3.words 1,ac.mk (fun h0=>?_) fun h0=>?_⟩
  ·have h0:0<s.length:=by have:=QQ h0;omega
   obtain⟨n,hn⟩:∃n,s.length=n+1:=⟨s.length-1,by omega⟩;have hpl:(jM (a_ s) s.length).length=s.length:=iF _ _ (by omega);obtain⟨a,ha,_⟩:=h3.cell (i:=n) (by omega);obtain⟨u1,f1,s1⟩:=h3.write (i:=n) (by omega) ha (k:=2) (by decide) ⟨(aJ (jM (a_ s) s.length) n).id,(aJ (jM (a_ s) s.length) n).ahead, -1⟩ (.int .i64 (-1)) rfl;refine⟨l.a,l.n,l.c,h3.words 1,Ar.ok64 (by omega) (by omega) (ah.mk a ha ⟨by omega,by omega,rfl,?_⟩)⟩;rw [show(((l.n:Nat):Int)-1).toNat=n by omega];refine⟨u1,f1,fun w11 hw11=>?_⟩;obtain⟨h11,z11,b11⟩:=s1 w11 hw11;refine fin w11 ?_ (b11 w hB3);have:=Er (bs:=a_ s) (n:=n) (by omega);rw [hil]at this;rw [this]at h11;exact h11
  ·have h0:s.length=0:=by have:=QX h0;omega
   refine fin w3 ?_ hB3;have hs0:s= []:=List.eq_nil_of_length_eq_zero h0;subst hs0;exact h3
theorem CE (w:World) (tp:Nat) (T:List aP) (hT:dk w tp T) (hS:iM 256 (ao T)) (hpos:∀m∈ao T,0≤m.1) (s:Bs) (hs:s.length≤100000) (below:Int):
  CP 238 #[.pointer (some ⟨tp,0,none⟩),.string (str s),.int .i64 below] w fun e w'=>∃a n c,e= .returned (.slice a n c)∧w'.ownsRow w.heap.size aV 1 (.slice a n c) n ((rp (ao T) below (a_ s)).flatMap aC)∧n=(rp (ao T) below (a_ s)).length∧Below w.heap.size w w':=by
 refine aO (xD (some ⟨tp,0,none⟩) (str s) below w) ?_;refine ac.no rfl ?_;refine(qz w tp T hT s hs below).mono ?_;rintro e w1 ⟨p,q,l,lq,turn,ps,es,rfl,h1⟩;refine⟨_,rfl,?_⟩;refine(HA w w1 w.heap.size tp p q l lq turn below 0 s.length (a_ s) _ ps es T hT (Q0 _) hS hpos hs h1.below.size h1).mono ?_;rintro e w2 ⟨rfl,lq2,turn2,steps2,ns2,ps2,h2⟩;refine⟨rfl,?_⟩;have hsz:=h2.size;have hnl:=h2.nlen;refine(H3 w2 w.heap.size tp p q l lq2 turn2 below steps2 ns2 ps2 [] h2.raw h2.link (by omega) (by omega)).mono ?_;rintro e w3 ⟨a,n,c,rfl,hown,hn,hB⟩;have hids:db ns2 ps2=rp (ao T) below (a_ s):=by rw [←h2.ids,BC h2.waits]
 refine⟨a,n,c,rfl,a,n,c,rfl,?_,by rw [←hids,hn,db,List.length_map],h2.below.trans (hB.mono h2.below.size)⟩;rw [hids]at hown;have hz:=h2.below.size;refine⟨hown.1,hown.2.imp id ?_⟩;rintro⟨g,cap,cur,h1,h2,h3⟩;exact⟨g,cap,cur,h1,by omega,h3⟩
def fF (T:List aP) (s:Bs):List Int:=rp (ao T) T.length (a_ s)
theorem p_ (w:World) (tp:Nat) (T:List aP) (hT:dk w tp T) (hS:iM 256 (ao T)) (hpos:∀m∈ao T,0≤m.1) (s:Bs) (hs:s.length≤100000):
  CP 198 #[.pointer (some ⟨tp,0,none⟩),.string (str s)] w fun e w'=>∃a n c,e= .returned (.slice a n c)∧w'.ownsRow w.heap.size aV 1 (.slice a n c) n ((fF T s).flatMap aC)∧n=(fF T s).length∧Below w.heap.size w w':=by
 refine aO (yo (some ⟨tp,0,none⟩) (str s) w) ?_;refine(fc w tp T hT).mono ?_;rintro e w1 ⟨rfl,hw⟩;subst hw;refine⟨_,rfl,?_⟩;refine(CE w1 tp T hT hS hpos s hs T.length).mono ?_;rintro e w2 ⟨a,n,c,rfl,h⟩;exact⟨a,n,c,rfl,a,n,c,rfl,h⟩
theorem wx (w:World) (a:Option Addr) (c:Nat) (xs:List (Int×Int)) (hr:Rw bI 2 w a xs) (hl:xs.length≤1000000000):
  CP 192 #[.slice a xs.length c] w fun e w'=>∃s:Sl,e= .returned s.v∧s.n=xs.length∧w'.ownsRow w.heap.size nn 2 s.v s.n (xs.flatMap bI)∧Below w.heap.size w w':=by
 refine aO (zV a xs.length c w) ?_;refine ac.mk (fun h0=>?_) fun h0=>?_
 ·have hx:xs= []:=by
   cases xs with
   |nil=>rfl
   |cons x t=>
    obtain⟨p,hp,_⟩:=hr 0 x rfl;rw [hp]at h0;cases h0
  subst hx;exact⟨⟨none,0,0⟩,rfl,rfl,c_ _ _ _ _,Below.refl _ _⟩
 ·obtain⟨p,rfl⟩:∃p,a=some p:=by
   cases a with
   |none=>cases h0
   |some p=>exact⟨p,rfl⟩
  intro w1 hw1;obtain⟨A,C,w2,h2,h3,h4⟩:=jk (enc:=bI) (sz:=2) (fun _=>rfl) (by decide) (fun x=>cz _ _) 34 nn BG Cf rfl w ⟨some p,xs.length,c⟩ xs (.inr ⟨p,rfl⟩) hr rfl (by simp only;omega) (by simp only;omega) w1 hw1;exact⟨A,xs.length,C,w2,h2,⟨A,xs.length,C⟩,rfl,rfl,h3,h4⟩
theorem xl (w:World) (a:Option Addr) (c:Nat) (xs:List (Bs)) (hr:Rw cQ 1 w a xs) (hl:xs.length≤1000000000):
  CP 193 #[.slice a xs.length c] w fun e w'=>∃s:Sl,e= .returned s.v∧s.n=xs.length∧w'.ownsRow w.heap.size eM 1 s.v s.n (xs.flatMap cQ)∧Below w.heap.size w w':=by
 refine aO (zp a xs.length c w) ?_;refine ac.mk (fun h0=>?_) fun h0=>?_
 ·have hx:xs= []:=by
   cases xs with
   |nil=>rfl
   |cons x t=>
    obtain⟨p,hp,_⟩:=hr 0 x rfl;rw [hp]at h0;cases h0
  subst hx;exact⟨⟨none,0,0⟩,rfl,rfl,c_ _ _ _ _,Below.refl _ _⟩
 ·obtain⟨p,rfl⟩:∃p,a=some p:=by
   cases a with
   |none=>cases h0
   |some p=>exact⟨p,rfl⟩
  intro w1 hw1;obtain⟨A,C,w2,h2,h3,h4⟩:=jk (enc:=cQ) (sz:=1) (fun _=>rfl) (by decide) (fun x u hu=>by rw [List.mem_singleton.1 hu];rfl) jx eM lj lu rfl w ⟨some p,xs.length,c⟩ xs (.inr ⟨p,rfl⟩) hr rfl (by simp only;omega) (by simp only;omega) w1 hw1;exact⟨A,xs.length,C,w2,h2,⟨A,xs.length,C⟩,rfl,rfl,h3,h4⟩
theorem qm (w:World) (a:Option Addr) (c:Nat) (xs:List (Int×Bs)) (hr:Rw aM 2 w a xs) (hl:xs.length≤1000000000):
  CP 169 #[.slice a xs.length c] w fun e w'=>∃s:Sl,e= .returned s.v∧s.n=xs.length∧w'.ownsRow w.heap.size qR 2 s.v s.n (xs.flatMap aM)∧Below w.heap.size w w':=by
 refine aO (Ac a xs.length c w) ?_;refine ac.mk (fun h0=>?_) fun h0=>?_
 ·have hx:xs= []:=by
   cases xs with
   |nil=>rfl
   |cons x t=>
    obtain⟨p,hp,_⟩:=hr 0 x rfl;rw [hp]at h0;cases h0
  subst hx;exact⟨⟨none,0,0⟩,rfl,rfl,c_ _ _ _ _,Below.refl _ _⟩
 ·obtain⟨p,rfl⟩:∃p,a=some p:=by
   cases a with
   |none=>cases h0
   |some p=>exact⟨p,rfl⟩
  intro w1 hw1;obtain⟨A,C,w2,h2,h3,h4⟩:=jk (enc:=aM) (sz:=2) (fun _=>rfl) (by decide) (fun x=>fO _ _) 25 qR vt BM rfl w ⟨some p,xs.length,c⟩ xs (.inr ⟨p,rfl⟩) hr rfl (by simp only;omega) (by simp only;omega) w1 hw1;exact⟨A,xs.length,C,w2,h2,⟨A,xs.length,C⟩,rfl,rfl,h3,h4⟩
theorem wM (w:World) (a:Option Addr) (c:Nat) (xs:List (Int×Int×Int)) (hr:Rw cU 3 w a xs) (hl:xs.length≤1000000000):
  CP 194 #[.slice a xs.length c] w fun e w'=>∃s:Sl,e= .returned s.v∧s.n=xs.length∧w'.ownsRow w.heap.size IC 3 s.v s.n (xs.flatMap cU)∧Below w.heap.size w w':=by
 refine aO (zG a xs.length c w) ?_;refine ac.mk (fun h0=>?_) fun h0=>?_
 ·have hx:xs= []:=by
   cases xs with
   |nil=>rfl
   |cons x t=>
    obtain⟨p,hp,_⟩:=hr 0 x rfl;rw [hp]at h0;cases h0
  subst hx;exact⟨⟨none,0,0⟩,rfl,rfl,c_ _ _ _ _,Below.refl _ _⟩
 ·obtain⟨p,rfl⟩:∃p,a=some p:=by
   cases a with
   |none=>cases h0
   |some p=>exact⟨p,rfl⟩
  intro w1 hw1;obtain⟨A,C,w2,h2,h3,h4⟩:=jk (enc:=cU) (sz:=3) (fun _=>rfl) (by decide) (fun x=>f_ _ _ _) 23 IC CZ GO rfl w ⟨some p,xs.length,c⟩ xs (.inr ⟨p,rfl⟩) hr rfl (by simp only;omega) (by simp only;omega) w1 hw1;exact⟨A,xs.length,C,w2,h2,⟨A,xs.length,C⟩,rfl,rfl,h3,h4⟩
theorem xP (w:World) (a:Option Addr) (c:Nat) (xs:List (Int×Int)) (hr:Rw bI 2 w a xs) (hl:xs.length≤1000000000):
  CP 195 #[.slice a xs.length c] w fun e w'=>∃s:Sl,e= .returned s.v∧s.n=xs.length∧w'.ownsRow w.heap.size L3 2 s.v s.n (xs.flatMap bI)∧Below w.heap.size w w':=by
 refine aO (yE a xs.length c w) ?_;refine ac.mk (fun h0=>?_) fun h0=>?_
 ·have hx:xs= []:=by
   cases xs with
   |nil=>rfl
   |cons x t=>
    obtain⟨p,hp,_⟩:=hr 0 x rfl;rw [hp]at h0;cases h0
  subst hx;exact⟨⟨none,0,0⟩,rfl,rfl,c_ _ _ _ _,Below.refl _ _⟩
 ·obtain⟨p,rfl⟩:∃p,a=some p:=by
   cases a with
   |none=>cases h0
   |some p=>exact⟨p,rfl⟩
  intro w1 hw1;obtain⟨A,C,w2,h2,h3,h4⟩:=jk (enc:=bI) (sz:=2) (fun _=>rfl) (by decide) (fun x=>cz _ _) 24 L3 CD H6 rfl w ⟨some p,xs.length,c⟩ xs (.inr ⟨p,rfl⟩) hr rfl (by simp only;omega) (by simp only;omega) w1 hw1;exact⟨A,xs.length,C,w2,h2,⟨A,xs.length,C⟩,rfl,rfl,h3,h4⟩
theorem wo:∀ {ms:List (Int×Int)} {k:Int},(∀(i:Nat) (m:Int×Int),ms[i]? =some m→m.1<k+i∧m.2<k+i)→iM k ms
 | [],_,_=>trivial
 |m::ms,k,h=>by
  have h0:=h 0 m rfl;refine⟨by omega,by omega,wo fun i x hi=>?_⟩;have:=h (i+1) x (by simpa using hi);omega
theorem eF {T:List aP} (h:fW T) {i:Nat} {m:Int×Int} (hi:(ao T)[i]? =some m):(0≤m.1∧m.1<256+i)∧(0≤m.2∧m.2<256+i):=by
 simp only [ao,List.getElem?_map,List.getElem?_drop]at hi;obtain⟨e,he,rfl⟩:=Option.map_eq_some_iff.1 hi;obtain⟨h1,h2,_⟩:=h.step (256+i) e he (by omega);exact⟨⟨h1.1,by have:=h1.2;omega⟩,⟨h2.1,by have:=h2.2;omega⟩⟩
theorem fW.sound {T:List aP} (h:fW T):iM 256 (ao T):=wo fun i m hi=>⟨(eF h hi).1.2,(eF h hi).2.2⟩
theorem fW.pos {T:List aP} (h:fW T):∀m∈ao T,0≤m.1:=fun m hm=>by
 obtain⟨i,hi,rfl⟩:=List.getElem_of_mem hm;exact(eF h (QW hi)).1.1
def rI (l:List Int):Option (Int×Int):=match l with
 | [a,b]=>some (a,b)
 |_=>none
def JO (o:Option (Int×Int)):Value:=match o with
 |some m=>.tuple #[.agg #[.int .i64 m.1,.int .i64 m.2],.bool true]
 |none=>.tuple #[.agg #[.int .i64 0,.int .i64 0],.bool false]
theorem vE (w:World) (tp:Nat) (T:List aP) (hT:dk w tp T) (hok:fW T) (s:Bs) (hs:s.length≤100000):
  CP 234 #[.pointer (some ⟨tp,0,none⟩),.string (str s)] w fun e w'=>e= .returned (JO (rI (fF T s)))∧Below w.heap.size w w':=by
 refine aO (xC (some ⟨tp,0,none⟩) (str s) w) ?_;intro w1 hw1;have hb1:Below w.heap.size w w1:=by subst hw1;exact af _ _
 have hl1:w1.heap[w.heap.size]? =some (.cells #[Value.int .i64 0,Value.int .i64 0] nn):=by subst hw1;exact ak _ _
 refine(p_ w1 tp T (hT.on hb1) hok.sound hok.pos s hs).mono ?_;rintro e w2 ⟨a,n,c,rfl,hown,hn,hb2⟩;have hl2:=ag hb2 hl1;have hb12:=ae hb1 hb2;refine⟨a,n,c,rfl,ac.mk (fun h0=>?_) fun h0=>?_⟩
 ·have h0:n≠2:=by intro e;rw [e]at h0;simp at h0
  have hp:rI (fF T s)=none:=by
   rw [hn]at h0
   match hx:fF T s with
   | []=>rfl
   | [x]=>rfl
   | [x,y]=>rw [hx]at h0;exact absurd rfl h0
   |x::y::z::t=>rfl
  refine aW hl2 [.int .i64 0,.int .i64 0] rfl (cz _ _) ?_;intro w3 h3 _ _ hB3;exact⟨0,0,⟨by have:=aj _ _ h3 0;rw [ax]at this;exact this,aj _ _ h3 1,trivial⟩,by rw [hp];rfl,hB3 _ _ (Q0 _) hb12⟩
 ·have h0:n=2:=by have:((n:Nat):Int)=2:=by simpa using h0
                  omega
  rw [h0]at hn
  match hx:fF T s with
  | []=>rw [hx]at hn;simp at hn
  | [x]=>rw [hx]at hn;simp at hn
  |x::y::z::t=>rw [hx]at hn;simp at hn
  | [x,y]=>
   rw [hx]at hown;intro w4 hw4;have hb4:Below w2.heap.size w2 w4:=by subst hw4;exact aI w2
   obtain⟨p,hp,hc⟩:=kW (l:=⟨a,n,c⟩) (enc:=aC) (sz:=1) (fun _=>rfl) (by decide) (aB hown hb4) (i:=0) (x:=x) rfl;obtain⟨p',hp',hc'⟩:=kW (l:=⟨a,n,c⟩) (enc:=aC) (sz:=1) (fun _=>rfl) (by decide) (aB hown hb4) (i:=1) (x:=y) rfl;have hc0:=hc 0 _ rfl;have hc1:=hc' 0 _ rfl;rw [ax]at hc0 hc1;refine ah.mk p hp ⟨Int.le_refl _,by omega,x,hc0,ah.mk p' hp' ⟨by omega,by omega,y,hc1,?_⟩⟩;refine aW (ag hb4 hl2) [.int .i64 x,.int .i64 y] rfl (cz _ _) ?_;intro w5 h5 _ _ hB5;exact⟨x,y,⟨by have:=aj _ _ h5 0;rw [ax]at this;exact this,aj _ _ h5 1,trivial⟩,rfl,hB5 _ _ (Q0 _) (ae hb12 hb4)⟩
def eV:List aP→Nat→List Bs→Except (Nat×Int) (List aP)
 |es,_,[]=>.ok es
 |es,i,t::r=>match rI (fF es t)with
  |none=>.error (i,2)
  |some m=>match bV es m with
   | .error n=>.error (i,n)
   | .ok x=>eV (es++ [x]) (i+1) r
def fQ (w:World) (o:Except (Nat×Int) (List aP)) (k:Nat) (v:Value) (w':World):Prop:=Below w.heap.size w w'∧match o with
 | .error q=>v= .tuple #[.pointer none,.int .i64 q.1,.int .i64 q.2]∧q.2≠0
 | .ok es=>∃p,v= .tuple #[.pointer (some ⟨p,0,none⟩),.int .i64 (k:Int),.int .i64 0]∧dk w' p es∧fW es
theorem CT {ms:List (Int×Int)}:∀ {es:List aP} {i:Nat} {q:Nat×Int},cd es i ms= .error q→q.2≠0:=by
 induction ms with
 |nil=>intro es i q h;cases h
 |cons m ms ih=>
  intro es i q h;rw [cd]at h;cases hx:bV es m with
  |error n=>rw [hx]at h;cases h;exact gc hx
  |ok x=>rw [hx]at h;exact ih h
theorem yh (w:World) (a:Option Addr) (c:Nat) (ts:List Bs) (hr:Rw cQ 1 w a ts) (hl:ts.length≤1000000) (hts:∀t∈ts,t.length≤100000):
  CP 187 #[.slice a ts.length c] w fun e w'=>∃v,e= .returned v∧fQ w (eV aK 0 ts) ts.length v w':=by
 refine Ai a ts.length c w (fQ w (eV aK 0 ts) ts.length) ?_;refine(pC w none 0 [] (by intro j x hj;simp at hj) (by simp)).mono ?_;rintro e w1 ⟨v,rfl,hB,p,rfl,hT,hok⟩;refine⟨_,_,_,rfl,ac.no rfl ?_⟩;intro I hI;have key:=aU (α:=Int×Int×Option Addr×World) ts.length (fun i x=>∃es,gP x.2.2.2 w.heap.size p es∧fW es∧eV aK 0 ts=eV es i (ts.drop i)∧Below w.heap.size w x.2.2.2) (fun i x=>I [.int .i64 (i:Int),.int .i64 x.1,.int .i64 x.2.1,.pointer x.2.2.1] x.2.2.2) (0,0,none,w1) ⟨aK,hT,hok,by rw [List.drop_zero],hB⟩ ?_ ?_
 ·exact key
 ·rintro i hi ih ⟨y4,y3,y2,w2⟩ ⟨es,hT,hok,heq,hB⟩;change gP w2 _ _ _ at hT;change Below w.heap.size w w2 at hB;obtain⟨q,hq,_,hc⟩:=(hr.on hB) i _ (QW hi);have h0:=hc 0 _ rfl;rw [ax]at h0;have hdrop:ts.drop i=ts[i]::ts.drop (i+1):=List.drop_eq_getElem_cons hi;refine hI _ _ _ _ _ (ac.yes (by simp;omega) (ah.mk q hq ⟨by omega,by omega,_,h0,?_⟩));refine(vE w2 p es hT.is hok ts[i] (hts _ (List.getElem_mem hi))).mono ?_;rintro e w3 ⟨rfl,hB3⟩;have hz:w.heap.size≤w2.heap.size:=hB.size;have fin:∀(o:Option (Int×Int)),rI (fF es ts[i])=o→∀(x y:Int) (b:Bool),JO o= .tuple #[.agg #[.int .i64 x,.int .i64 y],.bool b]→(b=true→o=some (x,y))→(b=false→o=none)→∀w4:World,w4=w3.alloc (.cells #[Value.int .i64 0,Value.int .i64 0] nn)→
        aE w4 (nb w3) (fun w5=>
        ac (!b)
         (fQ w (eV aK 0 ts) ts.length (Value.tuple #[Value.pointer none,Value.int .i64 (i:Int),Value.int .i64 2]) w5)
         (∃g0:Int,∃g1:Int,(w5.cell? (nb w3)=some (Value.int .i64 g0)∧w5.cell? ((nb w3).add 1)=some (Value.int .i64 g1)∧True)∧
          CP 235 #[Value.pointer (some ⟨p,0,none⟩),Value.agg #[Value.int .i64 g0,Value.int .i64 g1]] w5 (fun e6 w6=>
          ∃r0_3:Int,∃r1_4:Int,e6= .returned (Value.tuple #[Value.int .i64 r0_3,Value.int .i64 r1_4])∧
          ac ((r1_4:Int) != 0)
           (fQ w (eV aK 0 ts) ts.length (Value.tuple #[Value.pointer none,Value.int .i64 (i:Int),Value.int .i64 r1_4]) w6)
           (Ar .i64 ((i:Int)+1) (fun n=>
            I [Value.int .i64 n,Value.int .i64 y4,Value.int .i64 y3,Value.pointer y2] w6))))) [Value.int .i64 x,Value.int .i64 y] 0:=by
   intro o ho x y b _ hb1 hb0 w4 hw4;refine aX [.int .i64 0,.int .i64 0] [.int .i64 x,.int .i64 y] rfl (cz _ _) w4 hw4 ?_;intro w5 h5 hz5 hB5;have hB35:Below w2.heap.size w2 w5:=ae hB3 hB5;have hB05:Below w.heap.size w w5:=hB.trans (hB35.mono hz);refine ac.mk (fun hb=>?_) fun hb=>?_
   ·have hn:=hb0 (by simpa using hb);rw [hn]at ho;refine⟨hB05,?_⟩;rw [heq,hdrop,eV,ho];exact⟨rfl,show(2:Int)≠0 by decide⟩
   ·have hs:=hb1 (by simpa using hb);rw [hs]at ho;refine⟨x,y,⟨by have:=aj _ _ h5 0;rw [ax]at this;exact this,aj _ _ h5 1,trivial⟩,?_⟩;refine(qd w5 w.heap.size p es (hT.on hB35) hok hB05.size (x,y)).mono ?_;rintro e w6 ⟨v,rfl,hB6,hpost⟩;have hB06:Below w.heap.size w w6:=hB05.trans hB6;cases hx:bV es (x,y)with
    |error n=>
     rw [hx]at hpost;obtain⟨rfl,_⟩:=hpost;refine⟨_,_,rfl,ac.yes (by simpa using gc hx) ⟨hB06,?_⟩⟩;rw [heq,hdrop,eV,ho];simp only [hx];exact⟨trivial,gc hx⟩
    |ok z=>
     rw [hx]at hpost;obtain⟨rfl,hT'⟩:=hpost;refine⟨_,_,rfl,ac.no (by simp) (Ar.ok64 (by omega) (by omega) (ih (y4,y3,y2,w6) ⟨_,hT',(lz hok hx).1,?_,hB06⟩))⟩;rw [heq,hdrop,eV,ho];simp only [hx]
  cases ho:rI (fF es ts[i])with
  |none=>exact⟨0,0,false,rfl,fin none ho 0 0 false rfl (by simp) (fun _=>rfl)⟩
  |some m=>exact⟨m.1,m.2,true,rfl,fin (some m) ho m.1 m.2 true rfl (fun _=>rfl) (by simp)⟩
 ·rintro⟨y4,y3,y2,w2⟩ ⟨es,hT,hok,heq,hB⟩;refine hI _ _ _ _ _ (ac.no (by simp) ⟨hB,?_⟩);rw [heq,List.drop_length,eV];exact⟨p,rfl,hT.is,hok⟩
def qc (s:ar):Except (Nat×Int) (List aP):=if s.ranked then eV aK 0 s.tokens else cd aK 0 s.merges
def DZ (s:ar):Nat:=if s.ranked then s.tokens.length else s.merges.length
theorem Et (w:World) (x:cw) (s:ar) (h:dw w x s) (hs:Ci s) (hts:∀t∈s.tokens,t.length≤100000):
  CP 139 #[x.v] w fun e w'=>∃v,e= .returned v∧fQ w (qc s) (DZ s) v w':=by
 refine yV x.ranked x.s1.a x.s1.n x.s1.c x.s2.a x.s2.n x.s2.c x.s3.a x.s3.n x.s3.c x.s4.a x.s4.n x.s4.c x.s5.a x.s5.n x.s5.c w (fQ w (qc s) (DZ s)) ?_;rintro w1 rfl;have hb:=af w (.cells x.cells dl);have h1:=h.on hb;have c0:∀j,(w.alloc (.cells x.cells dl)).cell? ((nb w).add j)=x.cells[j]? :=fun j=>by rw [aG,Nat.zero_add,bf]
 have shape:∀(o:Except (Nat×Int) (List aP)) (k:Nat) (v:Value) (w2:World),fQ (w.alloc (.cells x.cells dl)) o k v w2→∃(r0:Option Addr) (r1 r2:Int),v= .tuple #[.pointer r0,.int .i64 r1,.int .i64 r2]∧fQ w o k v w2:=by
  intro o k v w2 hp;obtain⟨hB,hm⟩:=hp;have hB':=ae hb hB;cases o with
  |error q=>obtain⟨rfl,hq⟩:=hm;exact⟨_,_,_,rfl,hB',rfl,hq⟩
  |ok es=>obtain⟨p,rfl,hT⟩:=hm;exact⟨_,_,_,rfl,hB',p,rfl,hT⟩
 refine⟨_,c0 0,ac.mk (fun h0=>?_) fun h0=>?_⟩
 ·have h0:s.ranked=true:=by rw [←h.ranked];exact h0
  refine⟨_,_,_,c0 2,?_⟩;have hI:=yh (w.alloc (.cells x.cells dl)) x.s2.a x.s2.c s.tokens h1.r2 hs.2.1 hts;rw [←h.n2]at hI;refine hI.mono ?_;rintro e w2 ⟨v,rfl,hp⟩;rw [h.n2]at hp;obtain⟨r0,r1,r2,rfl,hp'⟩:=shape _ _ _ _ hp;refine⟨r0,r1,r2,rfl,?_⟩;rw [qc,DZ,if_pos h0,if_pos h0];exact hp'
 ·have h0:s.ranked=false:=by rw [←h.ranked];exact h0
  refine⟨_,_,_,c0 1,?_⟩;have hI:=pC (w.alloc (.cells x.cells dl)) x.s1.a x.s1.c s.merges h1.r1 (by have:=hs.1;omega);rw [←h.n1]at hI;refine hI.mono ?_;rintro e w2 ⟨v,rfl,hB,hp⟩;have hp2:fQ (w.alloc (.cells x.cells dl)) (cd aK 0 s.merges) s.merges.length v w2:=by
   refine⟨hB,?_⟩;cases hx:cd aK 0 s.merges with
   |error q=>rw [hx]at hp;exact⟨hp,CT hx⟩
   |ok es=>rw [hx]at hp;obtain⟨p,hv,hT,hok⟩:=hp;exact⟨p,hv,hT.is,hok⟩
  obtain⟨r0,r1,r2,rfl,hp'⟩:=shape _ _ _ _ hp2;refine⟨r0,r1,r2,rfl,?_⟩;rw [qc,DZ,if_neg (by rw [h0];simp),if_neg (by rw [h0];simp)];exact hp'
def oT (S:List Nat) (w w':World):Prop:=w.heap.size≤w'.heap.size∧∀k,k<w.heap.size→k∉S→w'.heap[k]? =w.heap[k]?
theorem oT.trans {S:List Nat} {a b c:World} (h:oT S a b) (k:oT S b c):oT S a c:=⟨QU h.1 k.1,fun i hi hS=>(k.2 i (Nat.lt_of_lt_of_le hi h.1) hS).trans (h.2 i hi hS)⟩
theorem oT.of_below {S:List Nat} {a b:World} (h:Below a.heap.size a b):oT S a b:=⟨h.size,fun k hk _=>h.block k hk⟩
theorem oT.setCell {S:List Nat} {w:World} {a:Addr} (u:Value) (ha:a.block∈S):oT S w (w.setCell a u):=⟨by rw [aY];exact Q0 _,fun k _ hS=>au fun e=>hS (e▸ha)⟩
theorem nz {S:List Nat} {w w':World} {B:Nat} {e:TypeId} {sz n:Nat} {v:Value} {xs:List Value} (h:w.ownsRow B e sz v n xs) (hS:∀k,B≤k→k∉S) (ho:oT S w w'):w'.ownsRow B e sz v n xs:=
 aR h fun k hk=>ho.2 k (cm h k hk).2 (hS k (cm h k hk).1)
theorem wZ (w:World) (x:cw) (s:ar) (h:dw w x s) (hs:Ci s):
  CP 145 #[x.v] w fun e w'=>∃x':cw,e= .returned x'.v∧dw w' x' s∧Below w.heap.size w w':=by
 refine aT (wt x.ranked x.s1.a x.s1.n x.s1.c x.s2.a x.s2.n x.s2.c x.s3.a x.s3.n x.s3.c x.s4.a x.s4.n x.s4.c x.s5.a x.s5.n x.s5.c w (fun v w'=>∃x':cw,v=x'.v∧dw w' x' s∧Below w.heap.size w w') ?_) (by rintro v w' ⟨x',rfl,h⟩;exact⟨x',rfl,h⟩);intro w1 hw1 w2 hw2 w3 hw3;obtain⟨n1,n2,n3,n4,n5⟩:=hs;have hz1:w1.heap.size=w.heap.size+1:=by subst hw1;exact av _ _
 have hz2:w2.heap.size=w.heap.size+2:=by subst hw2;rw [av,hz1]
 have hz3:w3.heap.size=w.heap.size+2:=by subst hw3;exact hz2
 have hB3:Below w.heap.size w w3:=by
  subst hw3;subst hw2;subst hw1;exact(((Below.refl _ _).alloc (Q0 _) _).alloc (by rw [av];omega) _).drew
 have p3:w3.heap[w.heap.size]? =some (.cells x.cells dl (0,0)):=by
  subst hw3;show w2.heap[w.heap.size]? =_;rw [hw2,fe _ _ (by omega)];subst hw1;exact ak _ _
 have q3:w3.heap[w1.heap.size]? =some (.cells ov.cells dl (0,0)):=by
  subst hw3;show w2.heap[w1.heap.size]? =_;rw [hw2];exact ak _ _
 have h3:=h.on hB3;have c3:∀ {w':World},w'.heap[w.heap.size]? =some (.cells x.cells dl (0,0))→∀j,w'.cell? ((nb w).add j)=x.cells[j]? :=fun hw' j=>aj _ _ hw' j;refine⟨_,_,_,c3 p3 1,_,_,_,c3 p3 2,_,_,_,c3 p3 3,?_⟩;have k1:=wx w3 x.s1.a x.s1.c s.merges h3.r1 (by omega);rw [←h.n1]at k1;refine k1.mono ?_;rintro e w4 ⟨t1,rfl,e1,o1,b4⟩;have p4:=ag b4 p3;have z4:=b4.size;refine⟨_,_,_,rfl,⟨c3 p4 3,trivial⟩,⟨c3 p4 2,trivial⟩,?_⟩;have k2:=xl w4 x.s2.a x.s2.c s.tokens (h3.on b4).r2 (by omega);rw [←h.n2]at k2;refine k2.mono ?_;rintro e w5 ⟨t2,rfl,e2,o2,b5⟩;have p5:=ag b5 p4;have z5:=b5.size;refine⟨_,_,_,rfl,⟨c3 p5 3,trivial⟩,?_⟩;have k3:=qm w5 x.s3.a x.s3.c s.specials ((h3.on b4).on b5).r3 (by omega);rw [←h.n3]at k3;refine k3.mono ?_;rintro e w6 ⟨t3,rfl,e3,o3,b6⟩;have p6:=ag b6 p5;have z6:=b6.size;have hB6:Below w.heap.size w w6:=((hB3.trans (b4.mono hB3.size)).trans (b5.mono (by omega))).trans (b6.mono (by omega));refine⟨_,_,_,rfl,rfl,⟨_,c3 p6 1⟩,bk p6,?_⟩;intro w7 hw7;have p7:w7.heap[w.heap.size]? =some (.cells #[.bool x.ranked,t1.v,x.s2.v,x.s3.v,x.s4.v,x.s5.v] dl (0,0)):=by subst hw7;exact bP p6 _
 refine⟨rfl,⟨_,by rw [aj _ _ p7];rfl⟩,bk p7,?_⟩;intro w8 hw8;have p8:w8.heap[w.heap.size]? =some (.cells #[.bool x.ranked,t1.v,t2.v,x.s3.v,x.s4.v,x.s5.v] dl (0,0)):=by subst hw8;exact bP p7 _
 refine⟨rfl,⟨_,by rw [aj _ _ p8];rfl⟩,bk p8,?_⟩;intro w9 hw9;have p9:w9.heap[w.heap.size]? =some (.cells #[.bool x.ranked,t1.v,t2.v,t3.v,x.s4.v,x.s5.v] dl (0,0)):=by subst hw9;exact bP p8 _
 intro w10 hw10;have p10:w10.heap[w.heap.size]? =some (.cells #[.bool x.ranked,t1.v,t2.v,t3.v,x.s4.v,x.s5.v] dl (0,0)):=by subst hw10;exact p9
 have hB10:Below w.heap.size w w10:=by
  subst hw10;subst hw9;subst hw8;subst hw7;exact(bM (bM (bM hB6 (Q0 _) _) (Q0 _) _) (Q0 _) _).drew
 have off10:oT [w.heap.size,w1.heap.size] w6 w10:=by
  have a1:oT [w.heap.size,w1.heap.size] w6 w7:=by subst hw7;exact oT.setCell _ (by rw [ay];simp)
  have a2:oT [w.heap.size,w1.heap.size] w7 w8:=by subst hw8;exact oT.setCell _ (by rw [ay];simp)
  have a3:oT [w.heap.size,w1.heap.size] w8 w9:=by subst hw9;exact oT.setCell _ (by rw [ay];simp)
  have a4:oT [w.heap.size,w1.heap.size] w9 w10:=by subst hw10;exact oT.of_below (aI _)
  exact((a1.trans a2).trans a3).trans a4
 have z10:=off10.1;have h10:=h.on hB10;refine⟨_,_,_,by rw [aj _ _ p10];rfl,_,_,_,by rw [aj _ _ p10];rfl,?_⟩;have k4:=wM w10 x.s4.a x.s4.c s.classes h10.r4 (by omega);rw [←h.n4]at k4;refine k4.mono ?_;rintro e w11 ⟨t4,rfl,e4,o4,b11⟩;have p11:=ag b11 p10;have z11:=b11.size;refine⟨_,_,_,rfl,⟨by rw [aj _ _ p11];rfl,trivial⟩,?_⟩;have k5:=xP w11 x.s5.a x.s5.c s.joins (h10.on b11).r5 (by omega);rw [←h.n5]at k5;refine k5.mono ?_;rintro e w12 ⟨t5,rfl,e5,o5,b12⟩;have p12:=ag b12 p11;have z12:=b12.size;refine⟨_,_,_,rfl,rfl,⟨_,by rw [aj _ _ p12];rfl⟩,bk p12,?_⟩;intro w13 hw13;have p13:w13.heap[w.heap.size]? =some (.cells #[.bool x.ranked,t1.v,t2.v,t3.v,t4.v,x.s5.v] dl (0,0)):=by subst hw13;exact bP p12 _
 refine⟨rfl,⟨_,by rw [aj _ _ p13];rfl⟩,bk p13,?_⟩;intro w14 hw14;have p14:w14.heap[w.heap.size]? =some (.cells (⟨x.ranked,t1,t2,t3,t4,t5⟩:cw).cells dl (0,0)):=by subst hw14;exact bP p13 _
 have hB14:Below w.heap.size w w14:=by
  subst hw14;subst hw13;exact bM (bM ((hB10.trans (b11.mono hB10.size)).trans (b12.mono (QU hB10.size z11))) (Q0 _) _) (Q0 _) _
 have off14:oT [w.heap.size,w1.heap.size] w12 w14:=by
  have a1:oT [w.heap.size,w1.heap.size] w12 w13:=by subst hw13;exact oT.setCell _ (by rw [ay];simp)
  have a2:oT [w.heap.size,w1.heap.size] w13 w14:=by subst hw14;exact oT.setCell _ (by rw [ay];simp)
  exact a1.trans a2
 have off6:oT [w.heap.size,w1.heap.size] w6 w14:=((off10.trans (oT.of_below b11)).trans (oT.of_below b12)).trans off14;have q14:w14.heap[w1.heap.size]? =some (.cells ov.cells dl (0,0)):=by
  have e0:∀w':World,w1.heap.size≠w.heap.size:=fun _=>by omega
  have q6:=ag b6 (ag b5 (ag b4 q3));have q7:w7.heap[w1.heap.size]? =some (.cells ov.cells dl (0,0)):=by subst hw7;rw [au (by rw [ay];exact e0 w)];exact q6
  have q8:w8.heap[w1.heap.size]? =some (.cells ov.cells dl (0,0)):=by subst hw8;rw [au (by rw [ay];exact e0 w)];exact q7
  have q9:w9.heap[w1.heap.size]? =some (.cells ov.cells dl (0,0)):=by subst hw9;rw [au (by rw [ay];exact e0 w)];exact q8
  have q10:w10.heap[w1.heap.size]? =some (.cells ov.cells dl (0,0)):=by subst hw10;exact q9
  have q12:=ag b12 (ag b11 q10);have q13:w13.heap[w1.heap.size]? =some (.cells ov.cells dl (0,0)):=by subst hw13;rw [au (by rw [ay];exact e0 w)];exact q12
  subst hw14;rw [au (by rw [ay];exact e0 w)];exact q13
 have notin:∀(B k:Nat),w.heap.size+2≤B→B≤k→k∉ [w.heap.size,w1.heap.size]:=by
  intro B k h1 h2;simp;omega
 refine⟨_,_,_,_,_,_,_,_,_,_,_,_,_,_,_,_,dV p14,?_⟩;refine uE (w:=w1) (fun x' w'=>∃x'':cw,x'.v=x''.v∧dw w' x'' s∧Below w.heap.size w w') ⟨x.ranked,t1,t2,t3,t4,t5⟩ q14 rfl ?_;intro w15 hB15 hs15;have off15:oT [w.heap.size,w1.heap.size] w14 w15:=⟨(hB15 w14 (Below.refl _ _)).size,fun k hk hS=>hs15 k fun e=>hS (by rw [e];simp)⟩;have b15:Below w.heap.size w w15:=(hB14.trans ((hB15 w14 (Below.refl _ _)).mono (by omega)));have o1':=nz (aB (aB o1 b5) b6) (fun k hk=>notin _ k (by omega) hk) (off6.trans off15);have o2':=nz (aB o2 b6) (fun k hk=>notin _ k (by omega) hk) (off6.trans off15);have o3':=nz o3 (fun k hk=>notin _ k (by omega) hk) (off6.trans off15);have o4':=nz (aB o4 b12) (fun k hk=>notin _ k (by omega) hk) (off14.trans off15);have o5':=nz o5 (fun k hk=>notin _ k (by omega) hk) (off14.trans off15);exact⟨⟨x.ranked,t1,t2,t3,t4,t5⟩,rfl,⟨h.ranked,e1.trans h.n1,(Rw.of_own o1' (fun _=>rfl) (by decide)).1,e2.trans h.n2,(Rw.of_own o2' (fun _=>rfl) (by decide)).1,e3.trans h.n3,(Rw.of_own o3' (fun _=>rfl) (by decide)).1,e4.trans h.n4,(Rw.of_own o4' (fun _=>rfl) (by decide)).1,e5.trans h.n5,(Rw.of_own o5' (fun _=>rfl) (by decide)).1⟩,b15⟩
abbrev dI:TypeId:=237
abbrev bS:TypeId:=4
def gH (s:ar) (T:List aP) (i:Nat):Bool:=decide (fF T (bg T (i:Int))= [(i:Int)])&&mW (cutB s.classes s.joins) (bg T (i:Int))
def eY (s:ar) (T:List aP):List Bool:=(List.range T.length).map (gH s T)
def dQ (b:Bool):List Value:=[.bool b]
structure cF (w:World) (s:ar) (T:List aP) (x:cw) (tp bp mp:Nat):Prop where
 spec:dw w x s
 tab:dk w tp T
 ok:fW T
 bound:uW w bp s.classes s.joins
 marks:vf w mp s.specials
 right:s.right=true
 ids:∀y∈s.specials,(T.length:Int)≤y.1
 nodup:(s.specials.map (·.1)).Nodup
theorem cF.on {w w':World} {s:ar} {T:List aP} {x:cw} {tp bp mp:Nat} (h:cF w s T x tp bp mp) (hb:Below w.heap.size w w'):cF w' s T x tp bp mp:=
 ⟨h.spec.on hb,h.tab.on hb,h.ok,h.bound.on hb,h.marks.on hb,h.right,h.ids,h.nodup⟩
abbrev iu (x:cw) (tp bp mp:Nat) (d:Int) (l:Sl) (uses:Int):Array Value:=#[.bool x.ranked,x.s1.v,x.s2.v,x.s3.v,x.s4.v,x.s5.v,.pointer (some ⟨tp,0,none⟩),.pointer (some ⟨bp,0,none⟩),.pointer (some ⟨mp,0,none⟩),.int .u32 d,.int .i32 0,.int .u32 0,l.v,.int .i64 uses]
structure ja (w:World) (v:Nat) (s:ar) (T:List aP) (w0:World) (x:cw) (tp bp mp:Nat) (d:Int) (l:Sl) (uses:Int):Prop where
 parts:cF w0 s T x tp bp mp
 below:Below w0.heap.size w0 w
 lt:w0.heap.size≤v
 blk:w.heap[v]? =some (.cells (iu x tp bp mp d l uses) dI (0,0))
 once:(d=0∧l=⟨none,0,0⟩)∨(d=1∧l.n=T.length∧w.ownsRow (v+1) bS 1 l.v l.n ((eY s T).flatMap dQ))
def bC (w:World) (v:Nat) (s:ar) (T:List aP):Prop:=∃w0 x tp bp mp d l uses,ja w v s T w0 x tp bp mp d l uses
theorem ja.on {w w':World} {v:Nat} {s:ar} {T:List aP} {w0:World} {x:cw} {tp bp mp:Nat} {d:Int} {l:Sl} {uses:Int} (h:ja w v s T w0 x tp bp mp d l uses) (hb:Below w.heap.size w w'):ja w' v s T w0 x tp bp mp d l uses:=
 ⟨h.parts,h.below.trans (hb.mono h.below.size),h.lt,ag hb h.blk,h.once.imp id fun⟨a,b,c⟩=>⟨a,b,aB c hb⟩⟩
theorem bC.on {w w':World} {v:Nat} {s:ar} {T:List aP} (h:bC w v s T) (hb:Below w.heap.size w w'):bC w' v s T:=by
 obtain⟨w0,x,tp,bp,mp,d,l,uses,h⟩:=h;exact⟨w0,x,tp,bp,mp,d,l,uses,h.on hb⟩
theorem ja.now {w:World} {v:Nat} {s:ar} {T:List aP} {w0:World} {x:cw} {tp bp mp:Nat} {d:Int} {l:Sl} {uses:Int} (h:ja w v s T w0 x tp bp mp d l uses):cF w s T x tp bp mp:=h.parts.on h.below
structure ap (v:Nat) (w w':World):Prop where
 os:w'.os=w.os
 tape:w'.tape=w.tape
 output:w'.output=w.output
 size:w.heap.size≤w'.heap.size
 block:∀k,k<w.heap.size→k≠v→w'.heap[k]? =w.heap[k]?
theorem ap.of_below {v:Nat} {w w':World} (h:Below w.heap.size w w'):ap v w w':=⟨h.os,h.tape,h.output,h.size,fun k hk _=>h.block k hk⟩
theorem ap.trans {v:Nat} {a b c:World} (h:ap v a b) (k:ap v b c):ap v a c:=
 ⟨k.os.trans h.os,k.tape.trans h.tape,k.output.trans h.output,QU h.size k.size,fun i hi hv=>(k.block i (Nat.lt_of_lt_of_le hi h.size) hv).trans (h.block i hi hv)⟩
theorem ap.below {v B:Nat} {a b:World} (h:ap v a b) (hv:B≤v) (hB:B≤a.heap.size):Below B a b:=⟨h.os,h.tape,h.output,h.size,fun k hk=>h.block k (by omega) (by omega)⟩
theorem ap.held {v:Nat} {a b:World} (h:ap v a b) {k:Nat} (hk:k≠v) {o:Obj} (ho:a.heap[k]? =some o):b.heap[k]? =some o:=by
 rw [h.block k (QV.1 ho).1 hk,ho]
theorem ap.own {v:Nat} {a b:World} (h:ap v a b) {B:Nat} {e:TypeId} {sz n:Nat} {u:Value} {xs:List Value} (ho:a.ownsRow B e sz u n xs) (hne:u.ownBlock≠some v):b.ownsRow B e sz u n xs:=
 aR ho fun k hk=>h.block k (cm ho k hk).2 fun e=>hne (by rw [hk,e])
theorem vA (w:World) (cb:Nat) (tp:Nat) (T:List aP) (hT:dk w tp T) (y:Int×Bs) (hcb:cb<w.heap.size) (hc:w.cell? ⟨cb,0,none⟩=some (.pointer (some ⟨tp,0,none⟩))):
  CP 142 #[.agg #[.int .i64 y.1,.string (str y.2)],.pointer (some ⟨cb,0,none⟩)] w fun e w'=>e= .returned (.bool (decide (y.1< (T.length:Int))))∧Below w.heap.size w w':=by
 refine aO (wB y.1 (str y.2) (some ⟨cb,0,none⟩) w) ?_;intro w1 hw1 w2 hw2;have hb2:Below w.heap.size w w2:=by subst hw2;subst hw1;exact(af _ _).drew
 have hl2:w2.heap[w.heap.size]? =some (.cells #[.int .i64 y.1,.string (str y.2)] qR (0,0)):=by subst hw2;subst hw1;exact ak _ _
 refine⟨_,aj _ _ hl2 0,ah.mk _ rfl ⟨_,by rw [hb2.cell hcb];exact hc,?_⟩⟩;refine(fc w2 tp T (hT.on hb2)).mono ?_;rintro e w3 ⟨rfl,hw⟩;subst hw;exact⟨_,rfl,⟨aj _ _ hl2 0,trivial⟩,rfl,hb2⟩
def dx (s:ar):Except (Int×Nat×Int) (List aP):=match qc s with
 | .error q=>.error (1,q.1,q.2)
 | .ok T=>match bW [] 0 s.specials with
  |some q=>.error (2,q.1,q.2)
  |none=>match s.specials.findIdx? (fun y=>decide (y.1< (T.length:Int)))with
   |some i=>.error (2,i,4)
   |none=>.ok T
def oR (w:World) (s:ar) (v:Value) (w':World):Prop:=Below w.heap.size w w'∧match dx s with
 | .error q=>v= .tuple #[.pointer none,.int .i64 q.1,.int .i64 q.2.1,.int .i64 q.2.2]∧q.2.2≠0
 | .ok T=>∃p,v= .tuple #[.pointer (some ⟨p,0,none⟩),.int .i64 0,.int .i64 0,.int .i64 0]∧bC w' p s T∧w.heap.size≤p
theorem rJ {xs:List (Int×Bs)}:∀ {ys:List (Int×Bs)} {i:Nat} {q:Nat×Int},bW ys i xs=some q→q.2≠0:=by
 induction xs with
 |nil=>intro ys i q h;cases h
 |cons x xs ih=>
  intro ys i q h;rw [bW]at h;split at h
  ·exact ih h
  ·rename_i hne;cases h;exact hne
theorem lW {xs:List (Int×Bs)}:∀ {ys:List (Int×Bs)} {i:Nat},bW ys i xs=none→(ys.map (·.1)).Nodup→((ys++xs).map (·.1)).Nodup:=by
 induction xs with
 |nil=>intro ys i _ h;rw [List.append_nil];exact h
 |cons x xs ih=>
  intro ys i h hn;rw [bW]at h;split at h
  ·rename_i hz;have:=ih h (by
    rw [List.map_append,List.nodup_append];refine⟨hn,by simp,fun a ha b hb=>?_⟩;simp at hb;subst hb;rintro rfl;unfold cG at hz;split at hz
    ·omega
    ·split at hz
     ·omega
     ·split at hz
      ·omega
      ·rename_i h3;exact h3 (.inl ha))
   simpa using this
  ·cases h
theorem rB {s:ar} (h:s.right=true):(∀c∈s.classes,bc c=true)∧(∀j∈s.joins,cH j=true)∧(∀t∈s.tokens,t.length≤100000):=by
 obtain⟨_,_,h3,_,h5,h6⟩:=iP h;simp only [cu,Bool.and_eq_true,List.all_eq_true]at h3 h5 h6;refine⟨h5.2,h6.2,fun t ht=>?_⟩;have:=QQ (by simpa [gr]using h3.2 t ht:decide _=true);omega
theorem BP (w:World) (x:cw) (s:ar) (h:dw w x s) (hright:s.right=true):
  CP 70 #[x.v] w fun e w'=>∃v,e= .returned v∧oR w s v w':=by
 refine BN x.ranked x.s1.a x.s1.n x.s1.c x.s2.a x.s2.n x.s2.c x.s3.a x.s3.n x.s3.c x.s4.a x.s4.n x.s4.c x.s5.a x.s5.n x.s5.c w (oR w s) ?_;intro w1 hw1;have hs:=ee hright;obtain⟨okc,okj,okt⟩:=rB hright;have hb1:Below w.heap.size w w1:=by subst hw1;exact af _ _
 have hz1:w1.heap.size=w.heap.size+1:=by subst hw1;exact av _ _
 have p1:w1.heap[w.heap.size]? =some (.cells x.cells dl (0,0)):=by subst hw1;exact ak _ _
 have h1:=h.on hb1;refine⟨_,_,_,_,_,_,_,_,_,_,_,_,_,_,_,_,dV p1,?_⟩;refine(Et w1 x s h1 hs okt).mono ?_;rintro e w2 ⟨v,rfl,hb2,hload⟩;have hb12:=ae hb1 hb2;have p2:=ag hb2 p1;have hz2:=hb2.size;have store:∀(r0:Option Addr) (w3 w4:World),w3=w2.alloc (.cells #[Value.pointer none] 145)→w4=w3.setCell (nb w2) (.pointer r0)→w4.heap[w2.heap.size]? =some (.cells #[.pointer r0] 145 (0,0))∧Below w2.heap.size w2 w4:=by
  intro r0 w3 w4 hw3 hw4;have a3:w3.heap[w2.heap.size]? =some (.cells #[Value.pointer none] 145 (0,0)):=by subst hw3;exact ak _ _
  have b3:Below w2.heap.size w2 w3:=by subst hw3;exact af _ _
  have hp:=bP (j:=0) a3 (.pointer r0);have bp:=bM (j:=0) b3 (Q0 _) (.pointer r0);rw [ax]at hp bp;subst hw4;exact⟨hp,bp⟩
 have slot:∀(w3:World),w3=w2.alloc (.cells #[Value.pointer none] 145)→(∃u,w3.cell? (nb w2)=some u)∧w3.frozen? (nb w2)=false:=by
  intro w3 hw3;subst hw3;have a3:=ak w2 (.cells #[Value.pointer none] 145);refine⟨⟨.pointer none,by rw [bf];rfl⟩,bu a3⟩
 have fail:∀(q:Int×Nat×Int) (w':World),dx s= .error q→q.2.2≠0→Below w.heap.size w w'→oR w s (.tuple #[.pointer none,.int .i64 q.1,.int .i64 q.2.1,.int .i64 q.2.2]) w':=by
  intro q w' hq hne hb;refine⟨hb,?_⟩;rw [hq];exact⟨rfl,hne⟩
 cases hl:qc s with
 |error q=>
  rw [hl]at hload;obtain⟨rfl,hq⟩:=hload;refine⟨_,_,_,rfl,?_⟩;intro w3 hw3;obtain⟨u3,f3⟩:=slot w3 hw3;refine⟨rfl,u3,f3,?_⟩;intro w4 hw4;obtain⟨a4,b4⟩:=store none w3 w4 hw3 hw4;refine ac.yes (by simpa using hq) ?_;exact fail (1,q.1,q.2) w4 (by rw [dx,hl]) hq (ae hb12 b4)
 |ok T=>
  rw [hl]at hload;obtain⟨tp,rfl,hT,hok⟩:=hload;refine⟨_,_,_,rfl,?_⟩;intro w3 hw3;obtain⟨u3,f3⟩:=slot w3 hw3;refine⟨rfl,u3,f3,?_⟩;intro w4 hw4;obtain⟨a4,b4⟩:=store (some ⟨tp,0,none⟩) w3 w4 hw3 hw4;have hb14:=ae hb12 b4;have hz4:=b4.size;have p4:=ag b4 p2;have hT4:=hT.on b4;have h4:=h.on hb14;refine ac.no rfl ⟨_,_,_,by rw [aj _ _ p4];rfl,?_⟩;have hM:=vG w4 x.s3.a x.s3.c s.specials h4.r3 (by have:=hs.2.2.1;omega);rw [←h.n3]at hM;refine hM.mono ?_;rintro e w5 ⟨v,rfl,b5,hmark⟩;have hb15:=ae hb14 b5;have p5:=ag b5 p4;cases hm:bW [] 0 s.specials with
  |some q=>
   rw [hm]at hmark;subst hmark;have hne:=rJ hm;refine⟨_,_,_,rfl,ac.yes (by simpa using hne) ?_⟩;exact fail (2,q.1,q.2) w5 (by rw [dx,hl];simp only [hm]) hne hb15
  |none=>
   rw [hm]at hmark;obtain⟨mp,hv,hMk⟩:=hmark;subst hv;refine⟨_,_,_,rfl,ac.no rfl ⟨_,_,_,by rw [aj _ _ p5];rfl,?_⟩⟩;have hI:=qg x.s3.a x.s3.c s.specials (.func (.func 142) #[] #[.pointer (some (nb w2))]) (fun y=>decide (y.1< (T.length:Int))) w5 (h.on hb15).r3 (by have:=hs.2.2.1;omega) (by
    intro y hy w6 hb6;refine bT (by kernel_rfl) ?_;refine(vA w6 w2.heap.size tp T ((hT4.on b5).on hb6) y (by have:=b5.size;have:=hb6.size;have:=(QV.1 a4).1;omega) ?_);have:=aj _ _ (ag hb6 (ag b5 a4)) 0;rw [ax]at this;exact this)
   rw [←h.n3]at hI;refine hI.mono ?_;rintro e w6 ⟨rfl,b6⟩;have hb16:=ae hb15 b6;have p6:=ag b6 p5;refine⟨_,rfl,?_⟩;unfold AZ;cases hi:s.specials.findIdx? (fun y=>decide (y.1< (T.length:Int)))with
   |some i=>
    refine ac.yes (by simp) ?_;exact fail (2,i,4) w6 (by rw [dx,hl];simp only [hm,hi]) (show(4:Int)≠0 by decide) hb16
   |none=>
    refine ac.no (by simp) ?_;have h6:=h.on hb16;have hB:=tm w6 x.s4.a x.s5.a x.s4.c x.s5.c s.classes s.joins h6.r4 h6.r5 hs.2.2.2.1 hs.2.2.2.2 okc okj;rw [←h.n4, ←h.n5]at hB;refine⟨_,_,_,by rw [aj _ _ p6];rfl,_,_,_,by rw [aj _ _ p6];rfl,?_⟩;refine hB.mono ?_;rintro e w7 ⟨bp,rfl,hBd,b7,_⟩;refine⟨_,_,rfl,ac.no rfl ?_⟩;intro w8 hw8;have b8:Below w7.heap.size w7 w8:=by subst hw8;exact aI w7
    have b48:Below w4.heap.size w4 w8:=ae b5 (ae b6 (ae b7 b8));have p8:=ag b48 p4;have a8:=ag b48 a4;have hb18:=ae hb14 b48;have ptr8:∀ {w':World},w'.heap[w2.heap.size]? =some (.cells #[.pointer (some ⟨tp,0,none⟩)] 145 (0,0))→w'.cell? (nb w2)=some (.pointer (some ⟨tp,0,none⟩)):=fun hh=>by
     have:=aj _ _ hh 0;rw [ax]at this;exact this
    refine⟨_,_,_,_,_,_,_,_,_,_,_,_,_,_,_,_,dV p8,_,ptr8 a8,?_⟩;refine(wZ w8 x s (h.on hb18) hs).mono ?_;rintro e w9 ⟨x',rfl,hx',b9⟩;refine⟨_,_,_,_,_,_,_,_,_,_,_,_,_,_,_,_,rfl,⟨ptr8 (ag b9 a8),trivial⟩,?_⟩;rintro w10 rfl;have b10:=af w9 (.cells (iu x' tp bp mp 0 ⟨none,0,0⟩ 0) dI);have b19:=ae hb18 b9;refine⟨ae b19 b10,?_⟩;have hbv:dx s= .ok T:=by rw [dx,hl];simp only [hm,hi]
    rw [hbv];refine⟨w9.heap.size,rfl,⟨w9,x',tp,bp,mp,0,⟨none,0,0⟩,0,⟨⟨hx',?_,hok,?_,?_,hright,?_,?_⟩,b10,Q0 _,ak _ _,.inl ⟨rfl,rfl⟩⟩⟩,b19.size⟩
    ·exact(hT4.on b48).on b9
    ·exact(hBd.on b8).on b9
    ·exact((((hMk.is).on b6).on b7).on b8).on b9
    ·intro y hy;have:=List.findIdx?_eq_none_iff.1 hi y hy;have:=QX this;omega
    ·have:=lW (ys:=[]) hm (by simp);simpa using this
def xJ (w:World) (s:ar) (v:Value) (w':World):Prop:=Below w.heap.size w w'∧if s.right=true then(match dx s with
 | .error q=>v= .tuple #[.pointer none,.int .i64 q.2.1,.int .i64 q.2.2]∧q.2.2≠0
 | .ok T=>∃p,v= .tuple #[.pointer (some ⟨p,0,none⟩),.int .i64 0,.int .i64 0]∧bC w' p s T∧w.heap.size≤p)else v= .tuple #[.pointer none,.int .i64 0,.int .i64 1]
theorem ma (w:World) (x:cw) (s:ar) (h:dw w x s):
  CP 31 #[x.v] w fun e w'=>∃v,e= .returned v∧xJ w s v w':=by
 refine Cp x.ranked x.s1.a x.s1.n x.s1.c x.s2.a x.s2.n x.s2.c x.s3.a x.s3.n x.s3.c x.s4.a x.s4.n x.s4.c x.s5.a x.s5.n x.s5.c w (xJ w s) ?_;intro w1 hw1;have hb1:Below w.heap.size w w1:=by subst hw1;exact af _ _
 have p1:w1.heap[w.heap.size]? =some (.cells x.cells dl (0,0)):=by subst hw1;exact ak _ _
 have h1:=h.on hb1;refine⟨_,_,_,_,_,_,_,_,_,_,_,_,_,_,_,_,dV p1,?_⟩;refine(Ca x s w1 h1).mono ?_;rintro e w2 ⟨rfl,b2⟩;have hb2:=ae hb1 b2;refine⟨_,rfl,ac.mk (fun h0=>?_) fun h0=>?_⟩
 ·have h0:s.right=false:=by simpa using h0
  refine⟨hb2,?_⟩;rw [if_neg (by rw [h0];simp)]
 ·have h0:s.right=true:=by simpa using h0
  have p2:=ag b2 p1;refine⟨_,_,_,_,_,_,_,_,_,_,_,_,_,_,_,_,dV p2,?_⟩;refine(BP w2 x s (h.on hb2) h0).mono ?_;rintro e w3 ⟨v,rfl,b3,hp⟩;have hb3:=ae hb2 b3;cases hx:dx s with
  |error q=>
   rw [hx]at hp;obtain⟨rfl,hq⟩:=hp;refine⟨_,_,_,_,rfl,hb3,?_⟩;rw [if_pos h0,hx];exact⟨rfl,hq⟩
  |ok T=>
   rw [hx]at hp;obtain⟨p,rfl,hV,hpl⟩:=hp;refine⟨_,_,_,_,rfl,hb3,?_⟩;rw [if_pos h0,hx];exact⟨p,rfl,hV,by have:=hb2.size;omega⟩
structure oy (w:World) (v:Nat) (c:Array Value) (tp bp mp:Nat):Prop where
 blk:w.heap[v]? =some (.cells c dI (0,0))
 size:c.size=14
 c6:c[6]? =some (.pointer (some ⟨tp,0,none⟩))
 c7:c[7]? =some (.pointer (some ⟨bp,0,none⟩))
 c8:c[8]? =some (.pointer (some ⟨mp,0,none⟩))
theorem ja.vblk {w:World} {v:Nat} {s:ar} {T:List aP} {w0:World} {x:cw} {tp bp mp:Nat} {d:Int} {l:Sl} {uses:Int} (h:ja w v s T w0 x tp bp mp d l uses):oy w v (iu x tp bp mp d l uses) tp bp mp:=⟨h.blk,rfl,rfl,rfl,rfl⟩
theorem oy.on {w w':World} {v:Nat} {c:Array Value} {tp bp mp:Nat} (h:oy w v c tp bp mp) (hb:Below w.heap.size w w'):oy w' v c tp bp mp:=⟨ag hb h.blk,h.size,h.c6,h.c7,h.c8⟩
theorem lR (w:World) (v:Nat) {c:Array Value} (h:w.heap[v]? =some (.cells c dI (0,0))) (a b:Nat):w.cell? (((⟨v,0,none⟩:Addr).add a).add b)=c[a+b]? :=by rw [Addr.add_add];exact aj _ _ h _
theorem gq {w:World} {v:Nat} {c:Array Value} {tp bp mp:Nat} (h:oy w v c tp bp mp):CP 78 #[.pointer (some ⟨v,0,none⟩)] w fun e w'=>e= .returned (.pointer (some ⟨tp,0,none⟩))∧w'=w:=by
 refine aO (Bl (some ⟨v,0,none⟩) w) ?_;exact ac.no rfl (ah.mk _ rfl ⟨_,by rw [lR w v h.blk];exact h.c6,rfl,rfl⟩)
theorem sm {w:World} {v:Nat} {c:Array Value} {tp bp mp:Nat} (h:oy w v c tp bp mp):CP 201 #[.pointer (some ⟨v,0,none⟩)] w fun e w'=>e= .returned (.pointer (some ⟨bp,0,none⟩))∧w'=w:=by
 refine aO (v_ (some ⟨v,0,none⟩) w) ?_;exact ac.no rfl (ah.mk _ rfl ⟨_,by rw [lR w v h.blk];exact h.c7,rfl,rfl⟩)
theorem mf {w:World} {v:Nat} {c:Array Value} {tp bp mp:Nat} (h:oy w v c tp bp mp):CP 120 #[.pointer (some ⟨v,0,none⟩)] w fun e w'=>e= .returned (.pointer (some ⟨mp,0,none⟩))∧w'=w:=by
 refine aO (xb (some ⟨v,0,none⟩) w) ?_;exact ac.no rfl (ah.mk _ rfl ⟨_,by rw [lR w v h.blk];exact h.c8,rfl,rfl⟩)
theorem nW {w:World} {v:Nat} {c:Array Value} {tp bp mp:Nat} (h:oy w v c tp bp mp) {T:List aP} (hT:dk w tp T):CP 119 #[.pointer (some ⟨v,0,none⟩)] w fun e w'=>e= .returned (.int .i64 T.length)∧w'=w:=by
 refine aO (At (some ⟨v,0,none⟩) w) ?_;refine(gq h).mono ?_;rintro e w1 ⟨rfl,hw⟩;subst hw;refine⟨_,rfl,(fc w1 tp T hT).mono ?_⟩;rintro e w2 ⟨rfl,hw⟩;subst hw;exact⟨_,rfl,rfl,rfl⟩
theorem cF.few {w:World} {s:ar} {T:List aP} {x:cw} {tp bp mp:Nat} (h:cF w s T x tp bp mp):s.specials.length≤1000000:=(ee h.right).2.2.1
def di (s:ar) (T:List aP) (id:Int):Bool:=decide (id∈s.specials.map (·.1)∨bA T id)
theorem yb:∃i,Tryz.prog.info? bS=some i∧i.zero=some (.bool false)∧i.size=1∧i.bytes=1:=by
 have h:(Tryz.prog.info? bS).map (fun i=>(i.zero,i.size,i.bytes))=some (some (.bool false),1,1):=by kernel_rfl
 obtain⟨i,hi,he⟩:=Option.map_eq_some_iff.1 h;simp only [Prod.mk.injEq]at he;exact⟨i,hi,he.1,he.2.1,he.2.2⟩
theorem lQ (w:World) (n:Nat) (hn:n≤1000000):(Instr.makeSlice 149 (.int .i64 n) (.int .i64 n)).run Tryz.prog w= .ok (.slice (some (nb w)) n n) (w.alloc (.cells (Array.replicate n (.bool false)) bS)):=by
 obtain⟨i,hi,hz,hs,hb⟩:=yb;have:=Go.run_make (P:=Tryz.prog) w 149 bS i (.bool false) (by kernel_rfl) hi hz .i64 .i64 (n:Int) (n:Int) (by omega) (Int.le_refl _) (by rw [hb];omega) (by omega);rw [this];congr 3;rw [hs];apply Array.ext
 ·rw [size_madeCells];simp
 ·intro j h1 h2;simp only [madeCells,Array.getElem_map,Array.getElem_range,Array.getElem_replicate];show(#[Value.bool false]:Array Value)[j%1]! =_;rw [Nat.mod_one];rfl
theorem dz (s:ar) (T:List aP):(eY s T).length=T.length:=by simp [eY]
theorem te (s:ar) (T:List aP) {i:Nat} (hi:i<T.length):(eY s T)[i]'(by rw [dz];exact hi)=gH s T i:=by simp [eY]
def fL (s:ar) (T:List aP) (i:Nat):List Bool:=(eY s T).take i++List.replicate (T.length-i) false
theorem tD (s:ar) (T:List aP) (i:Nat) (hi:i≤T.length):(fL s T i).length=T.length:=by
 simp [fL,dz];omega
theorem B2 (s:ar) (T:List aP) (i:Nat) (hi:i<T.length):(fL s T i).set i (gH s T i)=fL s T (i+1):=by
 have hl:((eY s T).take i).length=i:=by simp [dz];omega
 have ht:(eY s T).take (i+1)=(eY s T).take i++ [gH s T i]:=by
  rw [List.take_add_one,QW (by rw [dz];exact hi),te s T hi];rfl
 unfold fL;rw [List.set_append_right _ _ (by omega),hl,Nat.sub_self,ht,show T.length-i=(T.length- (i+1))+1 by omega,List.replicate_succ,List.set_cons_zero];simp
theorem Fh (w w0:World) (v:Nat) (c:Array Value) (tp bp mp:Nat) (h:oy w v c tp bp mp) (s:ar) (T:List aP) (x:cw) (hp:cF w0 s T x tp bp mp) (h0:Below w0.heap.size w0 w) (hv:w0.heap.size≤v):
  CP 149 #[.pointer (some ⟨v,0,none⟩)] w fun e w'=>e= .returned (.tuple #[])∧∃l:Sl,w'.heap[v]? =some (.cells (c.setIfInBounds 12 l.v) dI (0,0))∧l.n=T.length∧w'.ownsRow w.heap.size bS 1 l.v l.n ((eY s T).flatMap dQ)∧ap v w w':=by
 refine aO (AW (some ⟨v,0,none⟩) w) ?_;have hpn:=hp.on h0;refine(nW h hpn.tab).mono ?_;rintro e w1 ⟨rfl,hw⟩;subst hw;have hmost:=hp.ok.most;have hvl:v<w1.heap.size:=(QV.1 h.blk).1;refine⟨_,rfl,some (nb w1),T.length,T.length,_,lQ w1 T.length (by omega),?_⟩;have hb2:=af w1 (.cells (Array.replicate T.length (.bool false)) bS);have hblk2:=ag hb2 h.blk;have hz2:(w1.alloc (.cells (Array.replicate T.length (Value.bool false)) bS)).heap.size=w1.heap.size+1:=av _ _;have hown2:(w1.alloc (.cells (Array.replicate T.length (.bool false)) bS)).ownsRow w1.heap.size bS 1 (.slice (some (nb w1)) T.length T.length) T.length ((fL s T 0).flatMap dQ):=by
  have hf:(fL s T 0).flatMap dQ=List.replicate T.length (.bool false):=by
   simp [fL,dQ,List.flatMap_replicate]
  rw [hf];refine⟨by simp,.inr ⟨w1.heap.size,T.length,_,rfl,Q0 _,ak _ _,Q0 _,by unfold maxLen;omega,by simp,by simp⟩⟩
 refine ah.mk _ rfl ⟨rfl,⟨_,by rw [lR _ v hblk2,Array.getElem?_eq_getElem (by rw [h.size];decide)]⟩,by rw [Addr.add_add];exact bk hblk2,?_⟩;intro w3 hw3;rw [Addr.add_add]at hw3;have hblk3:w3.heap[v]? =some (.cells (c.setIfInBounds 12 (.slice (some (nb w1)) T.length T.length)) dI (0,0)):=by subst hw3;exact bP hblk2 _
 have ht3:ap v w1 w3:=by
  refine(ap.of_below hb2).trans ?_;subst hw3;exact⟨rfl,rfl,rfl,by rw [aY];exact Q0 _,fun k _ hk=>au (by rw [ay];exact hk)⟩
 have hown3:w3.ownsRow w1.heap.size bS 1 (.slice (some (nb w1)) T.length T.length) T.length ((fL s T 0).flatMap dQ):=by
  subst hw3;exact bH hown2 _ (by rw [ay];intro e;have:=Option.some.inj e;simp at this;omega)
 have hz3:w3.heap.size=w1.heap.size+1:=by subst hw3;rw [aY];exact hz2
 have g12:∀ {w':World},w'.heap[v]? =some (.cells (c.setIfInBounds 12 (.slice (some (nb w1)) T.length T.length)) dI (0,0))→w'.cell? (((⟨v,0,none⟩:Addr).add 9).add 3)=some (.slice (some (nb w1)) T.length T.length):=fun hh=>by
  rw [lR _ v hh,Array.getElem?_setIfInBounds_self_of_lt (by rw [h.size];decide)]
 have gk:∀ {w':World},w'.heap[v]? =some (.cells (c.setIfInBounds 12 (.slice (some (nb w1)) T.length T.length)) dI (0,0))→oy w' v (c.setIfInBounds 12 (.slice (some (nb w1)) T.length T.length)) tp bp mp:=fun hh=>⟨hh,by simp [h.size],by rw [Array.getElem?_setIfInBounds_ne (by decide)];exact h.c6,by rw [Array.getElem?_setIfInBounds_ne (by decide)];exact h.c7,by rw [Array.getElem?_setIfInBounds_ne (by decide)];exact h.c8⟩;refine ah.mk _ rfl ⟨_,_,_,g12 hblk3,?_⟩;intro I hI;have key:=aU (α:=World) T.length (fun i w'=>w'.heap[v]? =some (.cells (c.setIfInBounds 12 (.slice (some (nb w1)) T.length T.length)) dI (0,0))∧w'.ownsRow w1.heap.size bS 1 (.slice (some (nb w1)) T.length T.length) T.length ((fL s T i).flatMap dQ)∧ap v w1 w') (fun i w'=>I [.int .i64 (i:Int)] w') w3 ⟨hblk3,hown3,ht3⟩ ?_ ?_
 ·exact key
 ·rintro i hi ih w4 ⟨hblk4,hown4,ht4⟩;have hB4:Below w0.heap.size w0 w4:=h0.trans (ht4.below hv h0.size);have hp4:=hp.on hB4;have hin:bA T (i:Int):=⟨by omega,by omega⟩;refine hI _ _ (ac.yes (by simp;omega) (ah.mk _ rfl ⟨_,by rw [lR _ v hblk4];exact(gk hblk4).c6,?_⟩));refine(iV w4 tp T hp4.tab (i:Int)).mono ?_;rintro e w5 ⟨rfl,hw⟩;subst hw;rw [if_pos hin];have hshort:(bg T (i:Int)).length≤64:=by
   obtain⟨y,hy,hyb⟩:=eB hin;rw [hyb];exact hp.ok.short y (List.mem_of_getElem? hy)
  refine⟨_,_,rfl,ah.mk _ rfl ⟨_,by rw [lR _ v hblk4];exact(gk hblk4).c6,?_⟩⟩;refine(p_ w5 tp T hp4.tab hp.ok.sound hp.ok.pos (bg T (i:Int)) (by omega)).mono ?_;rintro e w6 ⟨A,N,C,rfl,hown6,hN,hB6⟩;refine⟨A,N,C,rfl,?_⟩;intro w7 hw7;have hB7:Below w5.heap.size w5 w7:=by subst hw7;exact hB6.drew
  have hblk7:=ag hB7 hblk4;have hown7:=aB hown4 hB7;have henc7:w7.ownsRow w5.heap.size aV 1 (.slice A N C) N ((fF T (bg T (i:Int))).flatMap aC):=by subst hw7;exact eQ hown6
  have ht7:=ht4.trans (ap.of_below hB7);have fin:∀(b:Bool) (w8:World),b=gH s T i→Below w7.heap.size w7 w8→
    ah (some (nb w1)) (fun pa_20=>
         (0:Int)≤(i:Int)∧(i:Int) < ((T.length:Nat):Int)∧
         (Value.bool b).oneCell'=true∧(∃u,w8.cell? (pa_20.add ((i:Int).toNat*1))=some u)∧w8.frozen? (pa_20.add ((i:Int).toNat*1))=false∧
         ∀w9:World,w9=(w8.setCell (pa_20.add ((i:Int).toNat*1)) (Value.bool b))→
         Ar .i64 ((i:Int)+1) (fun n_21=>I [Value.int .i64 n_21] w9)):=by
   intro b w8 hb hB8;have hblk8:=ag hB8 hblk7;have hown8:=aB hown7 hB8;have hget:(fL s T i)[i]? =some false:=by
    unfold fL;have hl:((eY s T).take i).length=i:=by simp [dz];omega
    rw [List.getElem?_append_right (by omega),hl,Nat.sub_self,List.getElem?_replicate,if_pos (by omega)]
   obtain⟨u,f,k⟩:=gf (l:=⟨some (nb w1),T.length,T.length⟩) (enc:=dQ) (sz:=1) (fun _=>rfl) (by decide) hown8 (tD s T i (by omega)).symm rfl hget (k:=0) (by decide) b (.bool b) rfl;rw [ax]at u f k;refine ah.mk _ rfl ⟨by omega,by omega,rfl,u,f,?_⟩;intro w9 hw9;obtain⟨r9,s9,z9,b9⟩:=k w9 hw9;refine Ar.ok64 (by omega) (by omega) (ih w9 ⟨?_,?_,?_⟩)
   ·rw [s9 v (by intro e;have:=Option.some.inj e;simp at this;omega)];exact hblk8
   ·rw [hb,B2 s T i hi]at r9;exact r9
   ·have t8:=ht7.trans (ap.of_below hB8);have hbb:=b9 w1.heap.size w1 (Q0 _);have ob:(Value.slice (some (nb w1)) T.length T.length).ownBlock=some w1.heap.size:=rfl;refine⟨?_,?_,?_,by rw [z9];exact t8.size,fun j hj hjv=>?_⟩
    ·subst hw9;exact t8.os
    ·subst hw9;exact t8.tape
    ·subst hw9;exact t8.output
    ·rw [s9 j (by rw [show(Sl.v ⟨some (nb w1),T.length,T.length⟩).ownBlock=some w1.heap.size from rfl];intro e;have:=Option.some.inj e;omega),t8.block j hj hjv]
  refine ah.mk _ rfl ⟨_,_,_,g12 hblk7,ac.mk (fun h1=>?_) fun h1=>?_⟩
  ·have h1:N=1:=by have:((N:Nat):Int)=1:=by simpa using h1
                   omega
   rw [h1]at hN
   match hx:fF T (bg T (i:Int))with
   | []=>rw [hx]at hN;simp at hN
   |y::z::t=>rw [hx]at hN;simp at hN
   | [y]=>
    rw [hx]at henc7;obtain⟨a,ha,hc⟩:=kW (l:=⟨A,N,C⟩) (enc:=aC) (sz:=1) (fun _=>rfl) (by decide) henc7 (i:=0) (x:=y) rfl;have hc0:=hc 0 _ rfl;rw [ax]at hc0;refine ah.mk a ha ⟨Int.le_refl _,by omega,y,hc0,ac.mk (fun h2=>?_) fun h2=>?_⟩
    ·have h2:y=(i:Int):=by simpa using h2
     refine ah.mk _ rfl ⟨_,by rw [lR _ v hblk7];exact(gk hblk7).c7,?_⟩;refine(Bc w7 bp s.classes s.joins (hp4.on hB7).bound (rB hp.right).1 (bg T (i:Int)) (by omega)).mono ?_;rintro e w8 ⟨rfl,hB8⟩;refine⟨_,rfl,⟨g12 (ag hB8 hblk7),trivial⟩,fin _ w8 ?_ hB8⟩;unfold gH;rw [hx,h2];simp
    ·have h2:y≠(i:Int):=by simpa using h2
     refine fin false w7 ?_ (Below.refl _ _);unfold gH;rw [hx];simp [h2]
  ·have h1:N≠1:=by intro e;rw [e]at h1;simp at h1
   refine fin false w7 ?_ (Below.refl _ _);unfold gH;rw [QZ (fun e=>by rw [e]at hN;simp at hN;exact h1 hN)];rfl
 ·rintro w4 ⟨hblk4,hown4,ht4⟩;refine hI _ _ (ac.no (by simp) ⟨rfl,⟨some (nb w1),T.length,T.length⟩,hblk4,rfl,?_,ht4⟩);have:fL s T T.length=eY s T:=by
   unfold fL;rw [Nat.sub_self,List.replicate_zero,List.append_nil,List.take_of_length_le (by rw [dz];exact Q0 _)]
  rw [this]at hown4;exact hown4
theorem oF (w:World):(callFunc 261 #[]).run Tryz.prog w= .ok (.value (.tuple #[])) w:=run_call_mark0 Tryz.func261 (by kernel_rfl) (by kernel_rfl) (by kernel_rfl) .disable (by kernel_rfl) w
theorem pM (w:World):(callFunc 263 #[]).run Tryz.prog w= .ok (.value (.tuple #[])) w:=run_call_mark0 Tryz.func263 (by kernel_rfl) (by kernel_rfl) (by kernel_rfl) .enable (by kernel_rfl) w
theorem vk (a:Addr) (w:World):(callFunc 264 #[.pointer (some a)]).run Tryz.prog w= .ok (.value (.tuple #[])) w:=run_call_marked Tryz.func264 (by kernel_rfl) (by kernel_rfl) (by kernel_rfl) .acquire (by kernel_rfl) a w
theorem n_ (a:Addr) (w:World):(callFunc 266 #[.pointer (some a)]).run Tryz.prog w= .ok (.value (.tuple #[])) w:=run_call_marked Tryz.func266 (by kernel_rfl) (by kernel_rfl) (by kernel_rfl) .releaseMerge (by kernel_rfl) a w
theorem rZ (a:Addr) (n:Int) (w:World) (hc:w.cell? a=some (.int .i64 n)) (hz:w.frozen? a=false):
  CP 147 #[.pointer (some a),.int .i64 1] w fun e w'=>∃m:Int,e= .returned (.int .i64 m)∧w'=w.setCell a (.int .i64 m):=by
 have hadd:=run_call_add (P:=Tryz.prog) Tryz.func196 (by kernel_rfl) (by kernel_rfl) (by kernel_rfl) .i64 (by kernel_rfl) (y:=1) (s:=IntKind.i64.wrap (n+1)) hc hz (by simp [go_sem])
 go_enter Tryz.func147,Tryz.ntmps147
 go_wp2
 go_ret
 exact⟨_,rfl,rfl⟩
theorem mO (a:Addr) (x:Value) (u:FrameMode) (w:World) (hc:w.cell? a=some x) (hz:w.frozen? a=false):
  CallsD Tryz.prog 207 #[.pointer (some a),.bool true] u w fun e u' w'=>u'=u∧(e= .returned (.tuple #[])∧w'=w.drew.setCell a (.int .u32 1)):=by
 have hc':w.drew.cell? a=some x:=by go_simp
 have hz':w.drew.frozen? a=false:=by go_simp
 have hst:=run_call_store (P:=Tryz.prog) Tryz.func246 (by kernel_rfl) (by kernel_rfl) (by kernel_rfl) (by kernel_rfl) (k:=.u32) (y:=1) hc' hz'
 go_enter_d Tryz.func207,Tryz.ntmps207
 go_wp2
 go_region_calls
 all_goals (go_end0;exact⟨rfl,rfl⟩)
theorem kD (a:Addr) (u:FrameMode) (w:World) (hc:w.cell? a=some (.int .i32 1)) (hz:w.frozen? a=false):
  CallsD Tryz.prog 206 #[.pointer (some a)] u w fun e u' w'=>u'=u∧(e= .returned (.tuple #[])∧w'=w.setCell a (.int .i32 0)):=by
 have hd:=oF;have he:=pM;have hr:=n_;have hadd:=run_call_add (P:=Tryz.prog) Tryz.func267 (by kernel_rfl) (by kernel_rfl) (by kernel_rfl) .i32 (by kernel_rfl) (y:= -1) (s:=0) hc hz (by simp [go_sem];rfl);have hcv:=run_convert_to_unsafe (P:=Tryz.prog) (src:=366) (dst:=370) Tryz.underlying366 Tryz.underlying370 (by kernel_rfl) hc
 go_enter_d Tryz.func206,Tryz.ntmps206
 go_wp2
 go_end0
 go_wp2
 go_end0
 exact⟨rfl,rfl⟩
theorem oZ (a:Addr) (w:World) (hc:w.cell? a=some (.int .i32 0)) (hz:w.frozen? a=false):
  CP 205 #[.pointer (some a)] w fun e w'=>e= .returned (.tuple #[])∧w'=w.setCell a (.int .i32 1):=by
 have hd:=oF;have he:=pM;have ha:=vk;have hcas:=run_call_cas_hit (P:=Tryz.prog) Tryz.func262 (by kernel_rfl) (by kernel_rfl) (by kernel_rfl) .i32 (by kernel_rfl) (y:=1) hc hz;have hc':(w.setCell a (.int .i32 1)).cell? a=some (.int .i32 1):=World.cell?_setCell_same w a _ hc;have hcv:=run_convert_to_unsafe (P:=Tryz.prog) (src:=366) (dst:=370) Tryz.underlying366 Tryz.underlying370 (by kernel_rfl) hc'
 go_enter Tryz.func205,Tryz.ntmps205
 go_wp2
 first |go_end0 |(simp only [Exit.inBlock,Exit.then];refine bodyPost_ret (results_none rfl _ _ _) rfl ?_) |refine bodyPost_ret (results_none rfl _ _ _) rfl ?_
 go_wp2
 go_end0
 exact⟨rfl,rfl⟩
set_option maxHeartbeats 1600000 in
theorem EM (v:Nat) (w:World) (K:World→Prop)
  (hfind:CP 149 #[.pointer (some ⟨v,0,none⟩)] (w.setCell ⟨v,10,none⟩ (.int .i32 1)) fun e w'=>e= .returned (.tuple #[])∧K w')
  (hK:∀w',K w'→w'.cell? ⟨v,9,none⟩=some (.int .u32 0)∧w'.frozen? ⟨v,9,none⟩=false∧w'.cell? ⟨v,10,none⟩=some (.int .i32 1)∧w'.frozen? ⟨v,10,none⟩=false)
  (h0:w.cell? ⟨v,9,none⟩=some (.int .u32 0)) (h1:w.cell? ⟨v,10,none⟩=some (.int .i32 0)) (f0:w.frozen? ⟨v,9,none⟩=false) (f1:w.frozen? ⟨v,10,none⟩=false):
  CP 155 #[.pointer (some ⟨v,9,none⟩),.func (.func 149) #[.pointer (some ⟨v,0,none⟩)] #[]] w fun e w'=>e= .returned (.tuple #[])∧∃w2,K w2∧w'=(w2.drew.setCell ⟨v,9,none⟩ (.int .u32 1)).setCell ⟨v,10,none⟩ (.int .i32 0):=by
 have hl:=run_call_load (P:=Tryz.prog) Tryz.func204 (by kernel_rfl) (by kernel_rfl) (by kernel_rfl) .u32 (by kernel_rfl) (w:=w.setCell ⟨v,10,none⟩ (.int .i32 1)) (a:=⟨v,9,none⟩) (x:=0) ((World.cell?_setCell_other _ ⟨v,10,none⟩ ⟨v,9,none⟩ _ (by simp)).trans h0);have hnot:∀(x:Bool) (w:World),(Op.unary .not (.bool x)).run Tryz.prog w= .ok (.bool (!x)) w:=fun _ _=>rfl
 go_enter_defers Tryz.func155,Tryz.ntmps155
 go_wp2_with (go_at_call 205;refine(oZ ⟨v,10,none⟩ _ (by go_simp) (by go_simp)).mono ?_;rintro e w' ⟨rfl,rfl⟩)
 go_wp2_with (first |(go_at_call 149;refine hfind.mono ?_;rintro e w' ⟨rfl,hk⟩) |go_in)
 obtain⟨k0,k1,k2,k3⟩:=hK _ hk;refine leaves_cons (f:=207) (args:=#[.pointer (some ⟨v,9,none⟩),.bool true]) (by simp) (by simp [go_sem]) ?_;refine(mO ⟨v,9,none⟩ (.int .u32 0) .returning _ k0 k1).mono ?_;rintro e u' w'' ⟨rfl,rfl,rfl⟩;refine leaves_cons (f:=206) (args:=#[.pointer (some ⟨v,10,none⟩)]) (by simp [settle]) (by simp [go_sem]) ?_;refine(kD ⟨v,10,none⟩ _ _ ?_ ?_).mono ?_
 ·refine(World.cell?_setCell_other _ ⟨v,9,none⟩ ⟨v,10,none⟩ _ (by simp)).trans ?_;rw [World.cell?_drew];exact k2
 ·simp [k3]
 rintro e u' w'' ⟨rfl,rfl,rfl⟩;simp [Leaves,settle,results,Tryz.results155];exact⟨_,hk,rfl⟩
set_option maxHeartbeats 1600000 in
theorem H' (v:Nat) (w:World) (K:World→Prop)
  (hfind:CP 149 #[.pointer (some ⟨v,0,none⟩)] (w.setCell ⟨v,10,none⟩ (.int .i32 1)) fun e w'=>e= .returned (.tuple #[])∧K w')
  (hK:∀w',K w'→w'.cell? ⟨v,9,none⟩=some (.int .u32 0)∧w'.frozen? ⟨v,9,none⟩=false∧w'.cell? ⟨v,10,none⟩=some (.int .i32 1)∧w'.frozen? ⟨v,10,none⟩=false)
  (h0:w.cell? ⟨v,9,none⟩=some (.int .u32 0)) (h1:w.cell? ⟨v,10,none⟩=some (.int .i32 0)) (f0:w.frozen? ⟨v,9,none⟩=false) (f1:w.frozen? ⟨v,10,none⟩=false):
  CP 83 #[.pointer (some ⟨v,9,none⟩),.func (.func 149) #[.pointer (some ⟨v,0,none⟩)] #[]] w fun e w'=>e= .returned (.tuple #[])∧∃w2,K w2∧w'=(w2.drew.setCell ⟨v,9,none⟩ (.int .u32 1)).setCell ⟨v,10,none⟩ (.int .i32 0):=by
 have hl:=run_call_load (P:=Tryz.prog) Tryz.func204 (by kernel_rfl) (by kernel_rfl) (by kernel_rfl) .u32 (by kernel_rfl) h0;have hnot:∀(x:Bool) (w:World),(Op.unary .not (.bool x)).run Tryz.prog w= .ok (.bool (!x)) w:=fun _ _=>rfl
 go_enter Tryz.func83,Tryz.ntmps83
 go_wp2_with (first |(go_at_call 155;refine(EM v w K hfind hK h0 h1 f0 f1).mono ?_;rintro e w' ⟨rfl,hk⟩) |(go_at_call 154;go_in))
 go_end0
 exact⟨rfl,hk⟩
theorem pi (a:Addr) (d:Int) (hd:¬d=0) (fv:Value) (w:World) (h0:w.cell? a=some (.int .u32 d)):
  CP 83 #[.pointer (some a),fv] w fun e w'=>e= .returned (.tuple #[])∧w'=w:=by
 have hl:=run_call_load (P:=Tryz.prog) Tryz.func204 (by kernel_rfl) (by kernel_rfl) (by kernel_rfl) .u32 (by kernel_rfl) h0;have hnot:∀(x:Bool) (w:World),(Op.unary .not (.bool x)).run Tryz.prog w= .ok (.bool (!x)) w:=fun _ _=>rfl;have hd':(d != 0)=true:=by simp [hd]
 go_enter Tryz.func83,Tryz.ntmps83
 go_wp2
 go_end0
 exact⟨rfl,rfl⟩
theorem bw {w:World} {B B':Nat} {e:TypeId} {sz n:Nat} {v:Value} {xs:List Value} (h:w.ownsRow B e sz v n xs) (hB:B'≤B):w.ownsRow B' e sz v n xs:=by
 refine⟨h.1,h.2.imp id ?_⟩;rintro⟨g,cap,cur,h1,h2,h3⟩;exact⟨g,cap,cur,h1,QU hB h2,h3⟩
def gM (s:ar) (T:List aP) (id:Int):Bool:=decide (id∈s.specials.map (·.1))||(decide (bA T id)&&gH s T id.toNat)
theorem Jw {w w0:World} {v:Nat} {c:Array Value} (h:w.heap[v]? =some (.cells c dI (0,0))) (hb:Below w0.heap.size w0 w) (hv:w0.heap.size≤v) (j:Nat) (u:Value):
  (w.setCell ⟨v,j,none⟩ u).heap[v]? =some (.cells (c.setIfInBounds j u) dI (0,0))∧Below w0.heap.size w0 (w.setCell ⟨v,j,none⟩ u)∧ap v w (w.setCell ⟨v,j,none⟩ u):=
 ⟨bJ h u,hb.setCell (p:=⟨v,j,none⟩) hv u,⟨rfl,rfl,rfl,by rw [aY];exact Q0 _,fun k _ hk=>au hk⟩⟩
theorem mH (w:World) (v:Nat) (s:ar) (T:List aP) (h:bC w v s T) (id:Int):
  CP 73 #[.pointer (some ⟨v,0,none⟩),.int .i64 id] w fun e w'=>e= .returned (.bool (gM s T id))∧bC w' v s T∧ap v w w':=by
 obtain⟨w0,x,tp,bp,mp,d,l,uses,hV⟩:=h;refine aT (Db (some ⟨v,0,none⟩) id w (fun u w'=>u= .bool (gM s T id)∧bC w' v s T∧ap v w w') ?_) (by rintro v w' ⟨rfl,h⟩;exact⟨rfl,h⟩);refine ac.no rfl (ah.mk _ rfl ?_);have e13:(⟨v,0,none⟩:Addr).add 13=⟨v,13,none⟩:=by rw [aG,Nat.zero_add]
 have e9:((⟨v,0,none⟩:Addr).add 9).add 0=⟨v,9,none⟩:=by rw [aG,aG]
 have at_:∀ {w':World} {c:Array Value},w'.heap[v]? =some (.cells c dI (0,0))→∀j,w'.cell? ⟨v,j,none⟩=c[j]? :=fun h j=>aL h;have fz:∀ {w':World} {c:Array Value},w'.heap[v]? =some (.cells c dI (0,0))→∀j,w'.frozen? ⟨v,j,none⟩=false:=fun h j=>bu h;rw [e13];refine(rZ ⟨v,13,none⟩ uses w (at_ hV.blk 13) (fz hV.blk 13)).mono ?_;rintro e w1 ⟨m,rfl,hw1⟩;obtain⟨b1,o1,t1⟩:=Jw hV.blk hV.below hV.lt 13 (.int .i64 m);rw [←hw1]at b1 o1 t1;have b1:w1.heap[v]? =some (.cells (iu x tp bp mp d l m) dI (0,0)):=b1;have hV1:ja w1 v s T w0 x tp bp mp d l m:=⟨hV.parts,o1,hV.lt,b1,hV.once.imp (fun h=>h) fun⟨p,q,r⟩=>⟨p,q,t1.own r fun e=>by have:=(cm r _ e).1;omega⟩⟩;refine⟨m,rfl,ah.mk _ rfl ⟨_,by rw [lR _ v b1];rfl,?_⟩⟩;have hp1:=hV1.now;refine(lZ w1 mp s.specials hp1.marks hp1.few id).mono ?_;rintro e w2 ⟨rfl,hw⟩;subst hw;have hm:(jc s.specials id).isSome=true↔id∈s.specials.map (·.1):=qM;refine⟨_,_,rfl,ac.mk (fun h0=>?_) fun h0=>?_⟩
 ·refine⟨?_,⟨w0,x,tp,bp,mp,d,l,m,hV1⟩,t1⟩;rw [gM,QY (hm.1 h0)];rfl
 have hnm:id∉s.specials.map (·.1):=fun h=>by rw [hm.2 h]at h0;cases h0
 refine ah.mk _ rfl ?_;rw [e9];have rest:∀(w3:World) (l3:Sl),ja w3 v s T w0 x tp bp mp 1 l3 m→ap v w w3→
   ac (decide ((id:Int)≥0))
     (ah (some ⟨v,0,none⟩) (fun pa_3=>
      ∃lA:Option Addr,∃lN:Nat,∃lC:Nat,w3.cell? ((pa_3.add 9).add 3)=some (Value.slice lA lN lC)∧
      ac (decide ((id:Int) < ((lN:Nat):Int)))
       (ah (some ⟨v,0,none⟩) (fun pa_4=>
        ∃lA_5:Option Addr,∃lN_6:Nat,∃lC_7:Nat,w3.cell? ((pa_4.add 9).add 3)=some (Value.slice lA_5 lN_6 lC_7)∧
        ah lA_5 (fun pa_8=>
        (0:Int)≤id∧id< ((lN_6:Nat):Int)∧
        ∃b:Bool,w3.cell? (pa_8.add ((id:Int).toNat*1))=some (Value.bool b)∧
        (Value.bool b= .bool (gM s T id)∧bC w3 v s T∧ap v w w3))))
       (Value.bool false= .bool (gM s T id)∧bC w3 v s T∧ap v w w3)))
     (Value.bool false= .bool (gM s T id)∧bC w3 v s T∧ap v w w3):=by
  intro w3 l3 hV3 t3;have hVI:bC w3 v s T:=⟨w0,x,tp,bp,mp,1,l3,m,hV3⟩;obtain⟨hln,hown⟩:l3.n=T.length∧w3.ownsRow (v+1) bS 1 l3.v l3.n ((eY s T).flatMap dQ):=by
   rcases hV3.once with⟨h,_⟩ |⟨_,h1,h2⟩
   ·cases h
   ·exact⟨h1,h2⟩
  have off:¬bA T id→(Value.bool false= .bool (gM s T id)∧bC w3 v s T∧ap v w w3):=fun hn=>⟨by rw [gM,QZ hnm,QZ hn];rfl,hVI,t3⟩;have c12:w3.cell? (((⟨v,0,none⟩:Addr).add 9).add 3)=some (.slice l3.a l3.n l3.c):=by rw [lR _ v hV3.blk];rfl
  refine ac.mk (fun h1=>?_) fun h1=>off fun h=>?_
  ·have h1:=QQ h1;refine ah.mk _ rfl ⟨_,_,_,c12,ac.mk (fun h2=>?_) fun h2=>off fun h=>?_⟩
   ·have h2:=QQ h2;have hin:bA T id:=⟨h1,by omega⟩;have hlt:id.toNat<T.length:=by omega
    obtain⟨a,ha,hc⟩:=kW (enc:=dQ) (sz:=1) (fun _=>rfl) (by decide) hown (i:=id.toNat) (x:=gH s T id.toNat) (by rw [QW (by rw [dz];exact hlt),te s T hlt]);have hc0:=hc 0 _ rfl;rw [ax]at hc0;refine ah.mk _ rfl ⟨_,_,_,c12,ah.mk a ha ⟨h1,by omega,_,hc0,?_,hVI,t3⟩⟩;rw [gM,QZ hnm,QY hin];simp
   ·have h2:=QX h2;have:=h.2;omega
  ·have h1:=QX h1;have:=h.1;omega
 rcases hV1.once with⟨rfl,rfl⟩ |⟨rfl,hln,hown⟩
 ·-- for the first time
  obtain⟨b2,o2,t2⟩:=Jw b1 o1 hV.lt 10 (.int .i32 1);have hvb:oy (w2.setCell ⟨v,10,none⟩ (.int .i32 1)) v ((iu x tp bp mp 0 ⟨none,0,0⟩ m).setIfInBounds 10 (.int .i32 1)) tp bp mp:=⟨b2,rfl,rfl,rfl,rfl⟩;have hz2:(w2.setCell ⟨v,10,none⟩ (.int .i32 1)).heap.size=w2.heap.size:=aY _ _ _;have hvl:v<w2.heap.size:=(QV.1 b1).1;refine(H' v w2 (fun w'=>∃l:Sl,w'.heap[v]? =some (.cells (((iu x tp bp mp 0 ⟨none,0,0⟩ m).setIfInBounds 10 (.int .i32 1)).setIfInBounds 12 l.v) dI (0,0))∧l.n=T.length∧w'.ownsRow (w2.setCell ⟨v,10,none⟩ (.int .i32 1)).heap.size bS 1 l.v l.n ((eY s T).flatMap dQ)∧ap v (w2.setCell ⟨v,10,none⟩ (.int .i32 1)) w') (Fh _ w0 v _ tp bp mp hvb s T x hV.parts o2 hV.lt) ?_ (at_ b1 9) (at_ b1 10) (fz b1 9) (fz b1 10)).mono ?_
  ·rintro w' ⟨l',hb',_⟩;exact⟨at_ hb' 9,fz hb' 9,at_ hb' 10,fz hb' 10⟩
  ·rintro e w3 ⟨rfl,wf,⟨l',hbf,hlf,hof,htf⟩,hw3⟩;refine⟨rfl,?_⟩;have of:Below w0.heap.size w0 wf:=o2.trans (htf.below hV.lt o2.size);have hbd:wf.drew.heap[v]? =some (.cells (((iu x tp bp mp 0 ⟨none,0,0⟩ m).setIfInBounds 10 (.int .i32 1)).setIfInBounds 12 l'.v) dI (0,0)):=hbf;obtain⟨b4,o4,t4⟩:=Jw hbd of.drew hV.lt 9 (.int .u32 1);obtain⟨b5,o5,t5⟩:=Jw b4 o4 hV.lt 10 (.int .i32 0);rw [←hw3]at b5 o5 t5;have tt:ap v wf w3:=((ap.of_below (aI wf)).trans t4).trans t5;have hne:l'.v.ownBlock≠some v:=fun e=>by have:=(cm hof _ e).1;omega
   refine rest w3 l' ⟨hV.parts,o5,hV.lt,b5,.inr ⟨rfl,hlf,bw (tt.own hof hne) (by omega)⟩⟩ (((t1.trans t2).trans htf).trans tt)
 ·-- it was done
  refine(pi ⟨v,9,none⟩ 1 (by decide) _ w2 (at_ b1 9)).mono ?_;rintro e w3 ⟨rfl,hw⟩;subst hw;exact⟨rfl,rest w3 l hV1 t1⟩
end Go.Proofs.YtdlcfegnaphclaaGreat.Eng
