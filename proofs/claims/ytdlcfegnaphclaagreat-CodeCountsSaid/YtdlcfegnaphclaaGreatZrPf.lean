/- The chain and its queue, in plain Lean: joining what is least comes to what the passes make. -/
import Derived.Test.YtdlcfegnaphclaaGreatZrBd
import Derived.Laws.MakeOwn
import Derived.Tactics
import Derived.Tactics2
import Derived.Defers
import Derived.Laws.Pointers
import Derived.Laws.LoneSync
import Derived.RegionTactic
import Derived.RegionCalls
import Derived.ChangeAlike
set_option linter.unusedVariables false
namespace Go.Proofs.YtdlcfegnaphclaaGreat.Eng
structure Nd where
 id:Int
 ahead:Int
 next:Int
 deriving Inhabited
abbrev aF (ns:List Nd) (p:Nat):Nd:=ns.getD p default
theorem ky {ns:List Nd} {q:Nat} (hq:q<ns.length) (x:Nd) (p:Nat):aF (ns.set q x) p=if p=q then x else aF ns p:=by
 unfold aF;simp only [List.getD_eq_getElem?_getD,List.getElem?_set];by_cases h:q=p
 ·subst h;simp [hq]
 ·rw [if_neg h,if_neg (fun e=>h e.symm)]
def hd (vs:List Nat) (nxt:Int):Int:=match vs with
 | []=>nxt
 |p::_=>p
def Cu:List Nat→Int→Int
 | [],prev=>prev
 |p::r,_=>Cu r p
def Ch (ns:List Nd):Int→List Nat→Int→Prop
 |_,[],_=>True
 |prev,p::r,nxt=>(aF ns p).ahead=prev∧(aF ns p).next=hd r nxt∧Ch ns p r nxt
theorem dP {ns:List Nd} {vs:List Nat} {nxt:Int}:∀(us:List Nat) (prev:Int),Ch ns prev (us++vs) nxt↔Ch ns prev us (hd vs nxt)∧Ch ns (Cu us prev) vs nxt
 | [],prev=>by simp [Ch,Cu]
 |p::r,prev=>by
  have hh:hd (r++vs) nxt=hd r (hd vs nxt):=by cases r<;>rfl
  simp only [List.cons_append,Ch,Cu,dP r p,hh,and_assoc]
theorem rz {ns ns':List Nd}:∀(ps:List Nat) (prev nxt:Int),(∀p∈ps,(aF ns' p).ahead=(aF ns p).ahead∧(aF ns' p).next=(aF ns p).next)→Ch ns prev ps nxt→Ch ns' prev ps nxt
 | [],_,_,_,_=>trivial
 |p::r,prev,nxt,h,hc=>⟨(h p (by simp)).1.trans hc.1,(h p (by simp)).2.trans hc.2.1,rz r p nxt (fun q hq=>h q (by simp [hq])) hc.2.2⟩
structure kH (ns:List Nd) (ps:List Nat):Prop where
 ch:Ch ns (-1) ps (-1)
 sorted:ps.Pairwise (·< ·)
 lt:∀p∈ps,p<ns.length
 alive:∀p∈ps,0≤(aF ns p).id
 dead:∀p,p<ns.length→p∉ps→(aF ns p).id= -2
 head:ns≠ []→hd ps (-1)=0
def cV (ns:List Nd) (ps:List Nat):List Int:=ps.map fun p=>(aF ns p).id
def sf (ns:List Nd) (i q:Nat) (a c:Int):List Nd:=
 if a= -1 then(ns.set q ⟨-2,(aF ns q).ahead,(aF ns q).next⟩).set i ⟨c,(aF ns i).ahead,a⟩
 else((ns.set q ⟨-2,(aF ns q).ahead,(aF ns q).next⟩).set i ⟨c,(aF ns i).ahead,a⟩).set a.toNat ⟨(aF ((ns.set q ⟨-2,(aF ns q).ahead,(aF ns q).next⟩).set i ⟨c,(aF ns i).ahead,a⟩) a.toNat).id,(i:Int),(aF ((ns.set q ⟨-2,(aF ns q).ahead,(aF ns q).next⟩).set i ⟨c,(aF ns i).ahead,a⟩) a.toNat).next⟩
def cE (ns:List Nd) (i:Nat) (c:Int):List Nd:=sf ns i (aF ns i).next.toNat (aF ns (aF ns i).next.toNat).next c
theorem cT (ns:List Nd) (i:Nat) (c:Int):(cE ns i c).length=ns.length:=by
 unfold cE sf;split<;>simp
theorem yj {ns:List Nd} {i q:Nat} {c z:Int} (hi:i<ns.length) (hq:q<ns.length) (hiq:i<q) (hz:z= -1∨∃a:Nat,z=a∧q<a∧a<ns.length) (p:Nat):
  aF (sf ns i q z c) p=if p=i then⟨c,(aF ns i).ahead,z⟩else if p=q then⟨-2,(aF ns q).ahead,(aF ns q).next⟩else if z=(p:Int)then⟨(aF ns p).id,(i:Int),(aF ns p).next⟩else aF ns p:=by
 have n2:∀(a:Int) (p:Nat),aF ((ns.set q ⟨-2,(aF ns q).ahead,(aF ns q).next⟩).set i ⟨c,(aF ns i).ahead,a⟩) p=if p=i then⟨c,(aF ns i).ahead,a⟩else if p=q then⟨-2,(aF ns q).ahead,(aF ns q).next⟩else aF ns p:=by
  intro a p;rw [ky (by simpa using hi),ky hq]
 unfold sf;rcases hz with rfl |⟨a,rfl,ha1,ha2⟩
 ·rw [if_pos rfl,n2];have:¬((-1:Int)=(p:Int)):=by omega
  rw [if_neg this]
 ·rw [if_neg (by omega),Int.toNat_natCast,ky (by simp;exact ha2),n2,n2];by_cases e:p=a
  ·subst e;rw [if_pos rfl,if_neg (by omega),if_neg (by omega),if_neg (by omega),if_neg (by omega),if_pos rfl]
  ·rw [if_neg e];have:¬((a:Int)=(p:Int)):=by omega
   rw [if_neg this]
theorem kM {ns:List Nd} {us vs:List Nat} {i q:Nat} {c:Int} (h:kH ns (us++i::q::vs)) (hc:0≤c):
  kH (cE ns i c) (us++i::vs)∧cV (cE ns i c) (us++i::vs)=cV ns us++c::cV ns vs∧(aF ns i).next=q∧(aF ns i).ahead=Cu us (-1)∧(∀p,p∈us∨p∈vs→(aF (cE ns i c) p).id=(aF ns p).id)∧(aF (cE ns i c) i).id=c∧(aF (cE ns i c) i).ahead=Cu us (-1)∧(aF (cE ns i c) i).next=hd vs (-1):=by
 obtain⟨c1,c2⟩:=(dP us (-1)).1 h.ch;obtain⟨a1,a2,a3,a4,c3⟩:=c2;simp only [hd]at a2;have hs:=h.sorted;rw [List.pairwise_append,List.pairwise_cons,List.pairwise_cons]at hs;obtain⟨s1,⟨s2,s3,s4⟩,s5⟩:=hs;have hi:i<ns.length:=h.lt i (by simp);have hq:q<ns.length:=h.lt q (by simp);have hiq:i<q:=s2 q (by simp);have hus:∀p∈us,p<i:=fun p hp=>s5 p hp i (by simp);have hvs:∀p∈vs,q<p:=s3;have hvl:∀p∈vs,p<ns.length:=fun p hp=>h.lt p (by simp [hp]);have at_:∀p,aF (cE ns i c) p=if p=i then⟨c,(aF ns i).ahead,hd vs (-1)⟩else if p=q then⟨-2,(aF ns q).ahead,(aF ns q).next⟩else if hd vs (-1)=(p:Int)then⟨(aF ns p).id,(i:Int),(aF ns p).next⟩else aF ns p:=by
  intro p;unfold cE;rw [a2,Int.toNat_natCast,a4];refine(yj hi hq hiq ?_ p).trans (by rw [a4]);cases hv:vs with
  |nil=>exact .inl rfl
  |cons a r=>exact .inr ⟨a,rfl,hvs a (by simp [hv]),hvl a (by simp [hv])⟩
 have hvh:∀p:Nat,hd vs (-1)=(p:Int)→p∈vs:=fun p hp=>by
  cases hv:vs with
  |nil=>
   rw [hv]at hp;simp only [hd]at hp;omega
  |cons a r=>
   rw [hv]at hp;simp only [hd]at hp;have:a=p:=by omega
   simp [this]
 have atU:∀p∈us,aF (cE ns i c) p=aF ns p:=by
  intro p hp;have h1:=hus p hp;rw [at_,if_neg (by omega),if_neg (by omega),if_neg fun e=>by have:=hvs p (hvh p e);omega]
 have atV:∀p∈vs,(aF (cE ns i c) p).id=(aF ns p).id∧(aF (cE ns i c) p).next=(aF ns p).next∧(aF (cE ns i c) p).ahead=if hd vs (-1)=(p:Int)then(i:Int)else(aF ns p).ahead:=by
  intro p hp;have h1:=hvs p hp;rw [at_,if_neg (by omega),if_neg (by omega)];by_cases e:hd vs (-1)=(p:Int)
  ·rw [if_pos e,if_pos e];exact⟨rfl,rfl,rfl⟩
  ·rw [if_neg e,if_neg e];exact⟨rfl,rfl,rfl⟩
 have atI:aF (cE ns i c) i=⟨c,(aF ns i).ahead,hd vs (-1)⟩:=by rw [at_,if_pos rfl]
 refine⟨⟨(dP us (-1)).2 ⟨rz us _ _ (fun p hp=>by rw [atU p hp];exact⟨rfl,rfl⟩) c1,?_⟩,?_,?_,?_,?_,?_⟩,?_,a2,a1,fun p hp=>?_,by rw [atI],by rw [atI];exact a1,by rw [atI]⟩
 ·refine⟨by rw [atI];exact a1,by rw [atI],?_⟩;cases hv:vs with
  |nil=>trivial
  |cons a r=>
   rw [hv]at c3;obtain⟨b1,b2,b3⟩:=c3;have ha:=atV a (by rw [hv];simp);have hrs:∀p∈r,a<p:=by
    rw [hv]at s4;exact(List.pairwise_cons.1 s4).1
   refine⟨by rw [ha.2.2,hv];simp [hd],by rw [ha.2.1];exact b2,rz r _ _ (fun p hp=>?_) b3⟩;have h2:=atV p (by rw [hv];simp [hp]);refine⟨?_,h2.2.1⟩;rw [h2.2.2,hv,if_neg fun e=>by have:=hrs p hp;simp only [hd]at e;omega]
 ·rw [List.pairwise_append,List.pairwise_cons];exact⟨s1,⟨fun p hp=>s2 p (by simp [hp]),s4⟩,fun p hp x hx=>s5 p hp x (by
   rcases List.mem_cons.1 hx with rfl |hx
   ·simp
   ·simp [hx])⟩
 ·intro p hp;rw [cT];exact h.lt p (by
   rcases List.mem_append.1 hp with hp |hp
   ·simp [hp]
   ·rcases List.mem_cons.1 hp with rfl |hp
    ·simp
    ·simp [hp])
 ·intro p hp;rcases List.mem_append.1 hp with hp |hp
  ·rw [atU p hp];exact h.alive p (by simp [hp])
  ·rcases List.mem_cons.1 hp with rfl |hp
   ·rw [atI];exact hc
   ·rw [(atV p hp).1];exact h.alive p (by simp [hp])
 ·intro p hp hn;rw [cT]at hp;simp only [List.mem_append,List.mem_cons,not_or]at hn;rw [at_,if_neg hn.2.1];by_cases e:p=q
  ·rw [if_pos e]
  ·rw [if_neg e,if_neg fun e=>hn.2.2 (hvh p e)];exact h.dead p hp (by simp [hn.1,hn.2.1,hn.2.2,e])
 ·intro hne;have hne':ns≠ []:=fun e=>by rw [e]at hi;simp at hi
  have:=h.head hne';cases us with
  |nil=>exact this
  |cons u us=>exact this
 ·rw [cV,List.map_append,List.map_cons,atI];congr 1
  ·exact List.map_congr_left fun p hp=>by rw [atU p hp]
  ·congr 1;exact List.map_congr_left fun p hp=>(atV p hp).1
 ·rcases hp with hp |hp
  ·rw [atU p hp]
  ·exact(atV p hp).1
def oU (ms:List (Int×Int)) (below:Int) (n:Nat) (e:HE):Prop:=∃(i f:Nat),ms.idxOf? (e.a,e.b)=some i∧e.r=((256+i:Nat):Int)∧e.r<below∧e.f=(f:Int)∧e.p=(f:Int)∧f<n
structure oV (ms:List (Int×Int)) (below:Int) (ns:List Nd) (ps:List Nat) (es:List HE):Prop where
 good:∀e∈es,oU ms below ns.length e
 all:∀us p q vs,ps=us++p::q::vs→∀i,ms.idxOf? ((aF ns p).id,(aF ns q).id)=some i→((256+i:Nat):Int) <below→∃e∈es,e.f=(p:Int)∧e.a=(aF ns p).id∧e.b=(aF ns q).id
def iG (ns:List Nd) (e:HE):Prop:=(aF ns e.f.toNat).id≠e.a∨(aF ns e.f.toNat).next= -1∨(aF ns (aF ns e.f.toNat).next.toNat).id≠e.b
instance (ns:List Nd) (e:HE):Decidable (iG ns e):=by unfold iG;infer_instance
theorem l_ {ns:List Nd} {ps:List Nat} {a b:Int} (h:eU a b (cV ns ps)):∃us p q vs,ps=us++p::q::vs∧(aF ns p).id=a∧(aF ns q).id=b:=by
 obtain⟨u,v,he⟩:=h;obtain⟨us,rest,rfl,h1,h2⟩:=List.map_eq_append_iff.1 he;obtain⟨p,r1,rfl,h3,h4⟩:=List.map_eq_cons_iff.1 h2;obtain⟨q,vs,rfl,h5,h6⟩:=List.map_eq_cons_iff.1 h4;exact⟨us,p,q,vs,rfl,h3,h5⟩
theorem pI {ms:List (Int×Int)} {below:Int} {ns:List Nd} {ps:List Nat} {e:HE} (hL:kH ns ps) (hg:oU ms below ns.length e) (hpos:∀m∈ms,0≤m.1) (hs:¬iG ns e):
  ∃(us:List Nat) (f q:Nat) (vs:List Nat),ps=us++f::q::vs∧e.f=(f:Int)∧(aF ns f).id=e.a∧(aF ns q).id=e.b∧(aF ns f).next=(q:Int):=by
 obtain⟨i,f,hi,hr,hb,hf,hp,hn⟩:=hg;simp only [iG,not_or,Classical.not_not]at hs;obtain⟨h1,h2,h3⟩:=hs;rw [hf,Int.toNat_natCast]at h1 h2 h3;have hmem:(e.a,e.b)∈ms:=by
  rcases Classical.em ((e.a,e.b)∈ms)with h |h
  ·exact h
  ·rw [List.idxOf?_eq_none_iff.2 h]at hi;cases hi
 have h0:=hpos _ hmem;have hfm:f∈ps:=by
  rcases Classical.em (f∈ps)with h |h
  ·exact h
  ·have:=hL.dead f hn h;omega
 obtain⟨us,rest,rfl⟩:=List.append_of_mem hfm;obtain⟨_,c2⟩:=(dP us (-1)).1 hL.ch;obtain⟨_,a2,_⟩:=c2;cases rest with
 |nil=>exact absurd a2 h2
 |cons q vs=>
  simp only [hd]at a2;rw [a2,Int.toNat_natCast]at h3;exact⟨us,f,q,vs,rfl,hf,h1,h3,a2⟩
theorem qF {k:Int}:∀ {ms:List (Int×Int)} {k:Int} (n:Nat),iF k ms→iF k (ms.take n)
 | [],_,n,_=>by simp [iF]
 |m::ms,k,0,_=>by simp [iF]
 |m::ms,k,n+1,h=>⟨h.1,h.2.1,qF (k:=k) n h.2.2⟩
theorem Aa {ms:List (Int×Int)} {i:Nat} {m:Int×Int} (h:m∈ms.take i):∃j,j<i∧ms.idxOf? m=some j:=by
 have hm:m∈ms:=List.mem_of_mem_take h;cases hx:ms.idxOf? m with
 |none=>exact absurd hm (List.idxOf?_eq_none_iff.1 hx)
 |some j=>
  refine⟨j,?_,rfl⟩;obtain⟨hj,he,hb⟩:=List.findIdx?_eq_some_iff_getElem.1 hx;obtain⟨k,hk,rfl⟩:=List.getElem_of_mem h;simp only [List.length_take]at hk;rcases Nat.lt_or_ge j i with h' |h'
  ·exact h'
  ·exfalso;have:=hb k (by omega);simp at this
theorem Bk {ms:List (Int×Int)} {below:Int} {ns:List Nd} {ps:List Nat} {es:List HE} {e:HE} (hL:kH ns ps) (hW:oV ms below ns ps es) (hS:iF 256 ms) (hpos:∀m∈ms,0≤m.1) (he:e∈es) (hmin:∀x∈es,¬x.lt e) {us:List Nat} {f q:Nat} {vs:List Nat} (hps:ps=us++f::q::vs) (hf:e.f=(f:Int)) (ha:(aF ns f).id=e.a) (hb:(aF ns q).id=e.b):
  rX ms below (cV ns ps)=rX ms below (cV ns us++e.r::cV ns vs):=by
 obtain⟨i,f',hi,hr,hlt,hf',hp,hn⟩:=hW.good e he;have hff:f'=f:=by omega
 subst hff;obtain⟨hil,hie,hib⟩:=List.findIdx?_eq_some_iff_getElem.1 hi;have hie:ms[i]=(e.a,e.b):=by simpa using hie
 have hi2:i< (below-256).toNat:=by omega
 have hsplit:ms.take (below-256).toNat=ms.take i++(e.a,e.b)::(ms.drop (i+1)).take ((below-256).toNat- (i+1)):=by
  have h1:ms.take (below-256).toNat=(ms.take (below-256).toNat).take i++(ms.take (below-256).toNat).drop i:=(List.take_append_drop _ _).symm;rw [h1,List.take_take,Nat.min_eq_left (by omega)];congr 1;rw [List.drop_take,List.drop_eq_getElem_cons hil,hie];rw [show(below-256).toNat-i=((below-256).toNat- (i+1))+1 by omega,List.take_succ_cons]
 have hids:cV ns ps=cV ns us++e.a::e.b::cV ns vs:=by rw [hps,cV,List.map_append,List.map_cons,List.map_cons,ha,hb];rfl
 have entry:∀(us':List Nat) (p q':Nat) (vs':List Nat),ps=us'++p::q'::vs'→∀j,ms.idxOf? ((aF ns p).id,(aF ns q').id)=some j→j≤i→¬(j<i∨p<f'):=by
  intro us' p q' vs' hps' j hj hji hor;obtain⟨x,hx,hxf,hxa,hxb⟩:=hW.all us' p q' vs' hps' j hj (by omega);obtain⟨j',fx,hj',hxr,_,hxf',hxp,_⟩:=hW.good x hx;rw [hxa,hxb,hj]at hj';cases hj';apply hmin x hx;unfold HE.lt;omega
 unfold rX;rw [hsplit,hids];have hlen:(ms.take i).length=i:=by rw [List.length_take];omega
 have:=G_ (k:=256) (low:=ms.take i) (high:=(ms.drop (i+1)).take ((below-256).toNat- (i+1))) (m:=(e.a,e.b)) (u:=cV ns us) (v:=cV ns vs) (by rw [←hsplit];exact qF (k:=0) _ hS) ?_ ?_
 ·rw [hlen]at this;rw [this];congr 2;congr 1;omega
 ·intro m hm hbs;have hbs:eU m.1 m.2 (cV ns ps):=by rw [hids];exact hbs
  obtain⟨us',p,q',vs',hps',h1,h2⟩:=l_ hbs;obtain⟨j,hj,hjx⟩:=Aa hm;exact entry us' p q' vs' hps' j (by rw [h1,h2];exact hjx) (by omega) (.inl hj)
 ·intro hbs;have hbs:eU e.a e.b (cV ns (us++ [f'])):=by
   have:cV ns (us++ [f'])=cV ns us++ [e.a]:=by rw [cV,List.map_append,List.map_cons,ha];rfl
   rw [this];exact hbs
  obtain⟨us',p,q',vs',hps',h1,h2⟩:=l_ hbs;have hps2:ps=us'++p::q'::(vs'++q::vs):=by
   rw [hps];have:us++f'::q::vs=(us++ [f'])++q::vs:=by simp
   rw [this,hps'];simp
  have hpf:p<f':=by
   have hs:=hL.sorted;rw [hps,show us++f'::q::vs=(us++ [f'])++q::vs by simp]at hs;have hs:=(List.pairwise_append.1 hs).1;have hq:q'∈us++ [f']:=by rw [hps'];simp
   have hpq:p<q':=by
    rw [hps',List.pairwise_append,List.pairwise_cons]at hs;exact hs.2.1.1 q' (by simp)
   rcases List.mem_append.1 hq with hq |hq
   ·have hs2:=(List.pairwise_append.1 ((by
     have h0:=hL.sorted;rw [hps]at h0;exact h0):(us++f'::q::vs).Pairwise (·< ·))).2.2 q' hq f' (by simp)
    omega
   ·have:=List.mem_singleton.1 hq;omega
  exact entry us' p q' _ hps2 i (by rw [h1,h2];exact hi) (Nat.le_refl _) (.inr hpf)
theorem wl {ms:List (Int×Int)} {below:Int} {ns:List Nd} {ps:List Nat} {es es':List HE} {e:HE} (hL:kH ns ps) (hW:oV ms below ns ps es) (h1:∀x∈es,x=e∨x∈es') (h2:∀x∈es',x∈es) (hs:iG ns e):oV ms below ns ps es':=by
 refine⟨fun x hx=>hW.good x (h2 x hx),fun us p q vs hps i hi hb=>?_⟩;obtain⟨x,hx,hf,ha,hb'⟩:=hW.all us p q vs hps i hi hb;rcases h1 x hx with rfl |hx
 ·exfalso;have hc:=hL.ch;rw [hps]at hc;obtain⟨_,_,a2,_⟩:=(dP us (-1)).1 hc;simp only [hd]at a2;unfold iG at hs;rw [hf,Int.toNat_natCast,a2,Int.toNat_natCast]at hs;rcases hs with h |h |h
  ·exact h ha.symm
  ·omega
  ·exact h hb'.symm
 ·exact⟨x,hx,hf,ha,hb'⟩
def jS (ms:List (Int×Int)) (below:Int) (ns:List Nd) (j:Int) (es:List HE):Prop:=∀(p q:Nat) (i:Nat),j=(p:Int)→(aF ns p).next=(q:Int)→ms.idxOf? ((aF ns p).id,(aF ns q).id)=some i→((256+i:Nat):Int) <below→∃e∈es,e.f=(p:Int)∧e.a=(aF ns p).id∧e.b=(aF ns q).id
theorem rR:∀(us:List Nat) (p:Nat) (prev:Int),Cu (us++ [p]) prev=p
 | [],p,prev=>rfl
 |u::us,p,prev=>rR us p u
theorem Be {ms:List (Int×Int)} {below:Int} {ns:List Nd} {us vs:List Nat} {i q:Nat} {c:Int} {es es1 es':List HE} {e:HE} (hL:kH ns (us++i::q::vs)) (hc:0≤c) (hW:oV ms below ns (us++i::q::vs) es) (hei:e.f=(i:Int)) (h1:∀x∈es,x=e∨x∈es1) (h2:∀x∈es1,x∈es)
  (g1:∀x∈es1,x∈es') (g2:∀x∈es',x∈es1∨oU ms below ns.length x) (q1:jS ms below (cE ns i c) (Cu us (-1)) es') (q2:jS ms below (cE ns i c) i es'):oV ms below (cE ns i c) (us++i::vs) es':=by
 obtain⟨hL',_,hnx,hah,hid,hidi,hahi,hnxi⟩:=kM hL hc;have hs:=hL.sorted;rw [List.pairwise_append,List.pairwise_cons]at hs;have hiu:i∉us:=fun h=>by have:=hs.2.2 i h i (by simp);omega
 have hiv:i∉vs:=fun h=>by have:=hs.2.1.1 i (by simp [h]);omega
 refine⟨fun x hx=>?_,fun us' p r vs' hps j hj hb=>?_⟩
 ·rw [cT];rcases g2 x hx with h |h
  ·exact hW.good x (h2 x h)
  ·exact h
 ·have hch:=hL'.ch;rw [hps]at hch;obtain⟨_,b1,b2,_⟩:=(dP us' (-1)).1 hch;simp only [hd]at b2;have old:(∃us0 vs0,us++i::q::vs=us0++p::r::vs0)→p≠i→(p∈us∨p∈vs)→(r∈us∨r∈vs)→∃x∈es',x.f=(p:Int)∧x.a=(aF (cE ns i c) p).id∧x.b=(aF (cE ns i c) r).id:=by
   rintro⟨us0,vs0,h0⟩ hpi hp hr;rw [hid p hp,hid r hr]at hj⊢;obtain⟨x,hx,hf,ha,hb'⟩:=hW.all us0 p r vs0 h0 j hj hb;refine⟨x,?_,hf,ha,hb'⟩;rcases h1 x hx with rfl |h
   ·exfalso;omega
   ·exact g1 x h
  rcases List.append_eq_append_iff.1 hps with⟨t,ht,hc'⟩ |⟨t,ht,hc'⟩
  ·-- us' = us ++ t, i :: vs = t ++ p :: r :: vs'
   cases t with
   |nil=>
    simp only [List.nil_append,List.cons.injEq]at hc';obtain⟨rfl,_⟩:=hc';exact q2 i r j rfl b2 hj hb
   |cons t0 t=>
    simp only [List.cons_append,List.cons.injEq]at hc';obtain⟨rfl,hv⟩:=hc';have hpv:p∈vs:=by rw [hv];simp
    refine old ⟨us++i::q::t,vs',by rw [hv];simp⟩ (fun e=>hiv (e▸hpv)) (.inr hpv) (.inr (by rw [hv];simp))
  ·-- us = us' ++ t, p :: r :: vs' = t ++ i :: vs
   match t,hc' with
   | [],hc'=>
    simp only [List.nil_append,List.cons.injEq]at hc';obtain⟨rfl,_⟩:=hc';exact q2 p r j rfl b2 hj hb
   | [t0],hc'=>
    simp only [List.cons_append,List.nil_append,List.cons.injEq]at hc';obtain⟨rfl,rfl,_⟩:=hc';have:Cu us (-1)=(p:Int):=by rw [ht];exact rR us' p (-1)
    rw [this]at q1;exact q1 p r j rfl b2 hj hb
   |t0::t1::t,hc'=>
    simp only [List.cons_append,List.cons.injEq]at hc';obtain⟨rfl,rfl,_⟩:=hc';have hpu:p∈us:=by rw [ht];simp
    have hru:r∈us:=by rw [ht];simp
    exact old ⟨us',t++i::q::vs,by rw [ht];simp⟩ (fun e=>hiu (e▸hpu)) (.inl hpu) (.inl hru)
theorem Bf {ms:List (Int×Int)} {below:Int} {ns:List Nd} {ps:List Nat} (hW:oV ms below ns ps []):rX ms below (cV ns ps)=cV ns ps:=by
 refine gI _ _ _ fun m hm hb=>?_;obtain⟨us,p,q,vs,hps,h1,h2⟩:=l_ hb;obtain⟨j,hj,hjx⟩:=Aa hm;obtain⟨x,hx,_⟩:=hW.all us p q vs hps j (by rw [h1,h2];exact hjx) (by omega);cases hx
def jq (bs:List Int):List Nd:=bs.zipIdx.map fun x=>{id:=x.1,ahead:=(x.2:Int)-1,next:=if x.2+1=bs.length then -1 else(x.2:Int)+1}
theorem ek (bs:List Int):(jq bs).length=bs.length:=by simp [jq]
theorem pN {bs:List Int} {p:Nat} (hp:p<bs.length):aF (jq bs) p= {id:=bs[p],ahead:=(p:Int)-1,next:=if p+1=bs.length then -1 else(p:Int)+1}:=by
 simp [aF,jq,List.getD_eq_getElem?_getD,hp]
theorem AA (bs:List Int):∀(k p:Nat),p+k=bs.length→Ch (jq bs) ((p:Int)-1) (List.range' p k) (-1)
 |0,p,h=>trivial
 |k+1,p,h=>by
  simp only [List.range'_succ,Ch];rw [pN (show p<bs.length by omega)];refine⟨rfl,?_,?_⟩
  ·cases k with
   |zero=>simp [hd];omega
   |succ k=>
    rw [if_neg (by omega)];simp [List.range'_succ,hd]
  ·have:=AA bs k (p+1) (by omega);rw [show((p+1:Nat):Int)-1=(p:Int) by omega]at this;exact this
theorem EQ {bs:List Int} (h:∀b∈bs,0≤b):kH (jq bs) (List.range' 0 bs.length)∧cV (jq bs) (List.range' 0 bs.length)=bs:=by
 refine⟨⟨by have:=AA bs bs.length 0 (by omega);simpa using this,?_,fun p hp=>?_,fun p hp=>?_,fun p hp hn=>?_,fun hne=>?_⟩,?_⟩
 ·exact List.pairwise_lt_range' (s:=0) (n:=bs.length)
 ·rw [ek];have:=List.mem_range'_1.1 hp;omega
 ·have:=List.mem_range'_1.1 hp;rw [pN (by omega)];exact h _ (List.getElem_mem _)
 ·rw [ek]at hp;exact absurd (List.mem_range'_1.2 ⟨by omega,by omega⟩) hn
 ·cases bs with
  |nil=>exact absurd rfl hne
  |cons b bs=>rfl
 ·apply List.ext_getElem
  ·simp [cV]
  ·intro i h1 h2;simp only [cV,List.getElem_map,List.getElem_range'];rw [show 0+1*i=i by omega,pN h2]
theorem Ej {ms:List (Int×Int)} {below:Int} {bs:List Int} {es:List HE} (hg:∀e∈es,oU ms below bs.length e) (ha:∀p,p<bs.length→jS ms below (jq bs) p es):oV ms below (jq bs) (List.range' 0 bs.length) es:=by
 refine⟨by rw [ek];exact hg,fun us p q vs hps i hi hb=>?_⟩;have hpm:p∈List.range' 0 bs.length:=by rw [hps];simp
 have hp:p<bs.length:=by have:=List.mem_range'_1.1 hpm;omega
 refine ha p hp p q i rfl ?_ hi hb;have hc:=AA bs bs.length 0 (by omega);rw [hps]at hc;obtain⟨_,_,a2,_⟩:=(dP us _).1 hc;exact a2
set_option linter.unusedSimpArgs false
set_option maxRecDepth 100000
open Go Go.RowKit
theorem tj {α:Type} {enc:α→List Value} {sz:Nat} (hsz:∀x,(enc x).length=sz) (m:α) (k:Nat) (v:Value):∀(xs:List α) (i:Nat) (x:α),xs[i]? =some x→k<sz→enc m=(enc x).set k v→(xs.flatMap enc).set (i*sz+k) v=(xs.set i m).flatMap enc
 | [],i,x,h,_,_=>by simp at h
 |y::t,0,x,h,hk,he=>by
  simp at h;subst h;simp only [List.flatMap_cons,List.set_cons_zero,Nat.zero_mul,Nat.zero_add,he];rw [List.set_append_left _ _ (by rw [hsz];exact hk)]
 |y::t,i+1,x,h,hk,he=>by
  have ih:=tj hsz m k v t i x (by simpa using h) hk he;simp only [List.flatMap_cons,List.set_cons_succ];rw [←ih,Nat.add_mul,Nat.one_mul,List.set_append_right _ _ (by rw [hsz];omega)];congr 1;rw [hsz];congr 1;omega
theorem kn {w:World} {B:Nat} {e:TypeId} {sz:Nat} {l:Sl} {α:Type} {enc:α→List Value} {xs:List α} (hsz:∀x,(enc x).length=sz) (h0:0<sz) (h:w.ownsRow B e sz l.v l.n (xs.flatMap enc)) {i:Nat} {x:α} (hi:xs[i]? =some x):∃a,l.a=some a∧∀k v,(enc x)[k]? =some v→w.cell? ((a.add (i*sz)).add k)=some v:=by
 obtain⟨a,ha,_,hc⟩:=(Rw.of_own h hsz h0).1 i _ hi;exact⟨a,ha,hc⟩
theorem fP {w:World} {B:Nat} {e:TypeId} {sz:Nat} {l:Sl} {α:Type} {enc:α→List Value} {xs:List α} (hsz:∀x,(enc x).length=sz) (h0:0<sz) (h:w.ownsRow B e sz l.v l.n (xs.flatMap enc)) (hn:l.n=xs.length) {a:Addr} (ha:l.a=some a) {i:Nat} {x:α} (hi:xs[i]? =some x) {k:Nat} (hk:k<sz) (m:α) (v:Value) (he:enc m=(enc x).set k v):
  (∃u,w.cell? ((a.add (i*sz)).add k)=some u)∧w.frozen? ((a.add (i*sz)).add k)=false∧∀w',w'=w.setCell ((a.add (i*sz)).add k) v→w'.ownsRow B e sz l.v l.n ((xs.set i m).flatMap enc)∧(∀j,l.v.ownBlock≠some j→w'.heap[j]? =w.heap[j]?)∧w'.heap.size=w.heap.size∧(∀B0 w0,B0≤B→Below B0 w0 w→Below B0 w0 w'):=by
 have hlt:i<xs.length:=(List.getElem?_eq_some_iff.1 hi).1;rcases h.2 with⟨hv,_⟩ |⟨g,cap,cur,hv,hb,hg,hc,hm,hz,ht⟩
 ·obtain⟨la,ln,lc⟩:=l;cases hv;cases ha
 ·obtain⟨la,ln,lc⟩:=l;cases hv;cases ha;simp only at hn;change ln≤lc at hc;change cur.size=lc*sz at hz;change cur.toList.take (ln*sz)=_ at ht;have hle:(i+1)*sz≤xs.length*sz:=Nat.mul_le_mul_right sz hlt;have hle2:xs.length*sz≤lc*sz:=Nat.mul_le_mul_right sz (by omega);have hle3:ln*sz=xs.length*sz:=by rw [hn]
  rw [Nat.add_mul,Nat.one_mul]at hle;have hadr:(((⟨g,0,none⟩:Addr).add (i*sz)).add k)=(⟨g,0,none⟩:Addr).add (i*sz+k):=by rw [Addr.add_add]
  rw [hadr];refine⟨⟨cur[i*sz+k]'(by omega),by rw [aV hg];simp⟩,be hg,?_⟩;rintro w' rfl;refine⟨⟨?_,.inr ⟨g,lc,_,rfl,hb,bL hg _,hc,hm,by simpa using hz,?_⟩⟩,fun j hj=>aq (by rw [ax];exact fun e=>hj (by rw [e];rfl)),aU _ _ _,fun B0 w0 hB0 h0=>bJ h0 (by omega) _⟩
  ·show((xs.set i m).flatMap enc).length=ln*sz;rw [bR hsz,List.length_set,hn]
  ·show(cur.setIfInBounds (i*sz+k) v).toList.take (ln*sz)=_;rw [←tj hsz m k v xs i x hi hk he, ←ht,Array.toList_setIfInBounds,List.take_set]
theorem az {w:World} {B:Nat} {e e':TypeId} {sz n k:Nat} {v:Value} {xs:List Value} {c:Array Value} {fz:Nat×Nat} (h:w.ownsRow B e sz v n xs) (hk:w.heap[k]? =some (.cells c e' fz)) (hne:e≠e'):v.ownBlock≠some k:=by
 intro hb;rcases h.2 with⟨rfl,_⟩ |⟨g,cap,cur,rfl,_,hg,_⟩
 ·cases hb
 ·cases hb;rw [hk]at hg;cases hg;exact hne rfl
theorem bW {w:World} {B B':Nat} {e e':TypeId} {sz sz' n n':Nat} {v v':Value} {xs xs':List Value} (h:w.ownsRow B e sz v n xs) (h':w.ownsRow B' e' sz' v' n' xs') (hne:e≠e'):∀k,v.ownBlock=some k→v'.ownBlock≠some k:=by
 intro k hb;rcases h.2 with⟨rfl,_⟩ |⟨g,cap,cur,rfl,_,hg,_⟩
 ·cases hb
 ·cases hb;exact az h' hg (fun e=>hne e.symm)
abbrev M7:TypeId:=381
abbrev vU:TypeId:=383
abbrev FV:TypeId:=379
abbrev KB:TypeId:=378
theorem F9:Tryz.prog.underlying FV=some (.slice vU):=by kernel_rfl
theorem FI:(Tryz.prog.info? vU).map (fun i=>(i.zero,i.size,i.bytes))=some (some (.agg #[.int .i64 0,.int .i64 0,.int .i64 0]),3,24):=by kernel_rfl
def lw (x:Nd):List Value:=[.int .i64 x.id,.int .i64 x.ahead,.int .i64 x.next]
theorem sX (x:Nd):(lw x).length=3:=rfl
theorem tN (x:Nd):∀u∈lw x,u.oneCell'=true:=fS _ _ _
structure cz (w:World) (B tp p q:Nat) (l lq:Sl) (turn:Nat) (below steps:Int) (ns:List Nd) (es:List HE):Prop where
 blk:w.heap[p]? =some (.cells #[.pointer (some ⟨tp,0,none⟩),l.v,.pointer (some ⟨q,0,none⟩),.int .i64 below,.int .i64 steps] M7 (0,0))
 row:w.ownsRow B vU 3 l.v l.n (ns.flatMap lw)
 len:l.n=ns.length
 hp:dl w B q lq turn es
 bp:B≤p
theorem cz.on {w w':World} {B tp p q:Nat} {l lq:Sl} {turn:Nat} {below steps:Int} {ns:List Nd} {es:List HE} (h:cz w B tp p q l lq turn below steps ns es) (hb:Below w.heap.size w w'):cz w' B tp p q l lq turn below steps ns es:=⟨ah hb h.blk,aE h.row hb,h.len,h.hp.on hb,h.bp⟩
theorem cz.pq {w:World} {B tp p q:Nat} {l lq:Sl} {turn:Nat} {below steps:Int} {ns:List Nd} {es:List HE} (h:cz w B tp p q l lq turn below steps ns es):p≠q:=by
 rintro rfl;have:=h.blk;rw [h.hp.blk]at this;cases this
theorem cz.lt {w:World} {B tp p q:Nat} {l lq:Sl} {turn:Nat} {below steps:Int} {ns:List Nd} {es:List HE} (h:cz w B tp p q l lq turn below steps ns es):p<w.heap.size:=(Array.getElem?_eq_some_iff.1 h.blk).1
theorem cz.move {w w':World} {B tp p q:Nat} {l lq lq':Sl} {turn turn':Nat} {below steps:Int} {ns:List Nd} {es es':List HE} (h:cz w B tp p q l lq turn below steps ns es) (hd:jD w w' B q lq lq' turn' es'):cz w' B tp p q l lq' turn' below steps ns es':=by
 refine⟨?_,aN h.row fun k hk=>hd.moves.keep k (b_ h.row k hk).2 ?_ ?_,h.len,hd.raw,h.bp⟩
 ·rw [hd.moves.keep p h.lt h.pq (az h.hp.row h.blk (by decide))];exact h.blk
 ·rintro rfl;exact az h.row h.hp.blk (by decide) hk
 ·exact bW h.row h.hp.row (by decide) k hk
theorem cz.cell {w:World} {B tp p q:Nat} {l lq:Sl} {turn:Nat} {below steps:Int} {ns:List Nd} {es:List HE} (h:cz w B tp p q l lq turn below steps ns es) {i:Nat} (hi:i<ns.length):∃a,l.a=some a∧∀k v,(lw (aF ns i))[k]? =some v→w.cell? ((a.add (i*3)).add k)=some v:=by
 have e:ns[i]? =some (aF ns i):=by simp [aF,hi]
 exact kn sX (by decide) h.row e
theorem cz.words {w:World} {B tp p q:Nat} {l lq:Sl} {turn:Nat} {below steps:Int} {ns:List Nd} {es:List HE} (h:cz w B tp p q l lq turn below steps ns es):∀j,w.cell? ((⟨p,0,none⟩:Addr).add j)=(#[.pointer (some ⟨tp,0,none⟩),l.v,.pointer (some ⟨q,0,none⟩),.int .i64 below,.int .i64 steps]:Array Value)[j]? :=fun j=>aj p _ h.blk j
def lT (ns:List Nd):Prop:=∀i,i<ns.length→(aF ns i).next= -1∨∃k:Nat,(aF ns i).next=(k:Int)∧k<ns.length
structure uR (w w':World) (B tp p q:Nat) (l:Sl) (turn:Nat) (below steps:Int) (ns:List Nd) (es:List HE) (ms:List (Int×Int)) (lq':Sl) (turn':Nat) (es':List HE):Prop where
 raw:cz w' B tp p q l lq' turn' below steps ns es'
 heap:eA es'
 keep:∀x∈es,x∈es'
 new:∀x∈es',x∈es∨oU ms below ns.length x
 len:es'.length≤es.length+1
 turn:turn'≤turn+1
 below:Below B w w'
theorem oa (W w:World) (B tp p q:Nat) (l lq:Sl) (turn:Nat) (below steps:Int) (ns:List Nd) (es:List HE) (T:List aP) (hT:di W tp T) (hW:W.heap.size≤B) (hWw:Below B W w)
  (h:cz w B tp p q l lq turn below steps ns es) (hh:eA es) (hB:B≤w.heap.size) (hn:lT ns) (hl:es.length≤900000) (ht:turn≤1000000000) (j:Int) (hj:j= -1∨∃f:Nat,j=(f:Int)∧f<ns.length):
  CP 271 #[.pointer (some ⟨p,0,none⟩),.int .i64 j] w fun e w'=>e= .returned (.tuple #[])∧∃lq' turn' es',uR w w' B tp p q l turn below steps ns es (ap T) lq' turn' es'∧jS (ap T) below ns j es':=by
 refine aR (ww (some ⟨p,0,none⟩) j w (fun v w'=>v= .tuple #[]∧∃lq' turn' es',uR w w' B tp p q l turn below steps ns es (ap T) lq' turn' es'∧jS (ap T) below ns j es') ?_) (by rintro v w' ⟨rfl,h⟩;exact⟨rfl,h⟩);have stay:∀w':World,Below w.heap.size w w'→jS (ap T) below ns j es→(Value.tuple #[]=Value.tuple #[]∧∃lq' turn' es',uR w w' B tp p q l turn below steps ns es (ap T) lq' turn' es'∧jS (ap T) below ns j es'):=fun w' hb ha=>⟨rfl,lq,turn,es,⟨h.on hb,hh,fun _ h=>h,fun _ h=>.inl h,by omega,by omega,hb.mono hB⟩,ha⟩;refine ac.mk (fun h0=>?_) fun h0=>?_
 ·have h0:j= -1:=by simpa using h0
  exact stay w (Below.refl _ _) fun p' q' i hp'=>by omega
 ·have h0:j≠ -1:=by simpa using h0
  obtain⟨f,rfl,hf⟩:=hj.resolve_left h0;obtain⟨a,ha,hc⟩:=h.cell hf;have hlen:=h.len;have ef:((f:Int)).toNat=f:=by omega
  rw [ef];refine af.mk _ rfl ⟨l.a,l.n,l.c,h.words 1,af.mk a ha ⟨by omega,by omega,_,hc 2 _ rfl,ac.mk (fun h1=>?_) fun h1=>?_⟩⟩
  ·have h1:(aF ns f).next= -1:=by simpa using h1
   refine stay w (Below.refl _ _) fun p' q' i hp' hq'=>?_;have:p'=f:=by omega
   subst this;omega
  ·have h1:(aF ns f).next≠ -1:=by simpa using h1
   obtain⟨g,hg,hgl⟩:=(hn f hf).resolve_left h1;intro w1 hw1;have hb1:Below w.heap.size w w1:=by subst hw1;exact aO w
   have hL1:=h.on hb1;obtain⟨a1,ha1,hc1⟩:=hL1.cell hf;have hea:a1=a:=by rw [ha]at ha1;exact(Option.some.inj ha1).symm
   subst hea;obtain⟨a2,ha2,hcg⟩:=hL1.cell hgl;have hea:a2=a1:=by rw [ha]at ha2;exact(Option.some.inj ha2).symm
   subst hea;have eg:((g:Int)).toNat=g:=by omega
   refine af.mk _ rfl ⟨l.a,l.n,l.c,hL1.words 1,af.mk a2 ha ⟨by omega,by omega,_,hc1 0 _ rfl,af.mk _ rfl ⟨l.a,l.n,l.c,hL1.words 1,af.mk _ rfl ⟨l.a,l.n,l.c,hL1.words 1,af.mk a2 ha ⟨by omega,by omega,_,hc1 2 _ rfl,af.mk a2 ha ⟨by rw [hg];omega,by rw [hg];omega,?_⟩⟩⟩⟩⟩⟩;rw [hg,eg];refine⟨_,hcg 0 _ rfl,?_⟩;intro w2 hw2;have hb2:Below w1.heap.size w1 w2:=by subst hw2;exact ag _ _
   have hL2:=hL1.on hb2;obtain⟨a3,ha3,hc2⟩:=hL2.cell hf;have hea:a3=a2:=by rw [ha]at ha3;exact(Option.some.inj ha3).symm
   subst hea;obtain⟨a4,ha4,hcg2⟩:=hL2.cell hgl;have hea:a4=a3:=by rw [ha]at ha4;exact(Option.some.inj ha4).symm
   subst hea;refine⟨⟨hcg2 0 _ rfl,trivial⟩,⟨by have:=hc2 2 _ rfl;rwa [hg]at this,trivial⟩,⟨hL2.words 1,trivial⟩,⟨hL2.words 1,trivial⟩,⟨hc2 0 _ rfl,trivial⟩,⟨hL2.words 1,trivial⟩,?_⟩;refine aT [.int .i64 0,.int .i64 0] [.int .i64 (aF ns f).id,.int .i64 (aF ns g).id] rfl (co _ _) w2 hw2 ?_;intro w3 h3 hz3 hB3 w4 hw4;have hb4:Below w1.heap.size w1 w4:=by subst hw4;exact hB3.drew
   have h4:w4.heap[w1.heap.size]? =some (.cells #[Value.int .i64 (aF ns f).id,Value.int .i64 (aF ns g).id] nr (0,0)):=by subst hw4;exact h3
   have hL4:=hL1.on hb4;have hb04:=ae hb1 hb4;have hB04:Below B W w4:=hWw.trans (hb04.mono hB);refine af.mk _ rfl ⟨_,hL4.words 0,_,aj _ _ h4 0,_,aj _ _ h4 1,?_⟩;refine(m_ w4 tp T (hT.on (hB04.mono hW)) _ _).mono ?_;rintro e w5 ⟨rfl,hb5⟩;have hL5:=hL4.on hb5;have hb05:=ae hb04 hb5;have h5:=ah hb5 h4;cases hx:(ap T).idxOf? ((aF ns f).id,(aF ns g).id)with
   |none=>
    refine⟨_,_,rfl,ac.no rfl (stay w5 hb05 fun p' q' i hp' hq' hi=>?_)⟩;have:p'=f:=by omega
    subst this;have:q'=g:=by omega
    subst this;rw [hx]at hi;cases hi
   |some i=>
    refine⟨_,_,rfl,ac.yes rfl (af.mk _ rfl ⟨below,hL5.words 3,ac.mk (fun hlt=>?_) fun hlt=>?_⟩)⟩
    ·have hlt:((256+i:Nat):Int) <below:=by simpa using hlt
     intro w6 hw6;have hb6:Below w5.heap.size w5 w6:=by subst hw6;exact aO w5
     have hL6:=hL5.on hb6;have h6:=ah hb6 h5;have hb06:=ae hb05 hb6;have hz06:=hb06.size;refine af.mk _ rfl ⟨_,hL6.words 2,_,_,⟨by have:=aj _ _ h6 0;rw [ay]at this;exact this,aj _ _ h6 1,trivial⟩,?_⟩;refine(su w6 B q lq turn es hL6.hp (by omega) hh hl ht _ _ _ _ _).mono ?_;rintro e w7 ⟨rfl,lq',es',hd,hl',hm'⟩;refine⟨rfl,rfl,lq',turn+1,es',⟨hL6.move hd,hd.heap,fun x hx1=>(hm' x).2 (.inl hx1),fun x hx1=>?_,by omega,by omega,(hb06.mono hB).trans hd.moves.below⟩,fun p' q' i' hp' hq' hi' hlt'=>?_⟩
     ·rcases(hm' x).1 hx1 with h |h
      ·exact .inl h
      ·right;subst h;exact⟨i,f,hx,rfl,hlt,rfl,rfl,hf⟩
     ·have:p'=f:=by omega
      subst this;have:q'=g:=by omega
      subst this;exact⟨_,(hm' _).2 (.inr rfl),rfl,rfl,rfl⟩
    ·have hlt:¬((256+i:Nat):Int) <below:=by simpa using hlt
     refine stay w5 hb05 fun p' q' i' hp' hq' hi' hlt'=>?_;have:p'=f:=by omega
     subst this;have:q'=g:=by omega
     subst this;rw [hx]at hi';cases hi';exact absurd hlt' hlt
theorem AD (w:World) (B tp p q:Nat) (l lq:Sl) (turn:Nat) (below steps:Int) (ns:List Nd) (es:List HE) (h:cz w B tp p q l lq turn below steps ns es) (hn:lT ns) (x:HE) (f:Nat) (hf:x.f=(f:Int)) (hfl:f<ns.length):
  CP 273 #[.pointer (some ⟨p,0,none⟩),.agg #[.int .i64 x.f,.int .i64 x.a,.int .i64 x.b]] w fun e w'=>e= .returned (.bool (decide (iG ns x)))∧Below w.heap.size w w':=by
 refine aR (wt (some ⟨p,0,none⟩) x.f x.a x.b w (fun v w'=>v= .bool (decide (iG ns x))∧Below w.heap.size w w') ?_) (by rintro v w' ⟨rfl,h⟩;exact⟨rfl,h⟩);intro w1 hw1 w2 hw2;have hb2:Below w.heap.size w w2:=by subst hw2;subst hw1;exact(ag _ _).drew
 have hl2:w2.heap[w.heap.size]? =some (.cells #[Value.int .i64 x.f,Value.int .i64 x.a,Value.int .i64 x.b] KB (0,0)):=by subst hw2;subst hw1;exact ak _ _
 have hL2:=h.on hb2;obtain⟨a,ha,hc⟩:=hL2.cell hfl;have hlen:=h.len;have ef:(x.f).toNat=f:=by omega
 have c0:=hc 0 _ rfl;rw [ay]at c0;refine af.mk _ rfl ⟨l.a,l.n,l.c,hL2.words 1,_,aj _ _ hl2 0,af.mk a ha ⟨by omega,by omega,?_⟩⟩;rw [ef];refine⟨_,_,_,⟨c0,hc 1 _ rfl,hc 2 _ rfl,trivial⟩,?_⟩;intro w3 hw3;have hb3:Below w2.heap.size w2 w3:=by subst hw3;exact ag _ _
 obtain⟨a',ha',hc'⟩:=(hL2.on hb3).cell hfl;have hea:a'=a:=by rw [ha]at ha';exact(Option.some.inj ha').symm
 subst hea;have c0':=hc' 0 _ rfl;rw [ay]at c0';refine⟨⟨c0',hc' 1 _ rfl,hc' 2 _ rfl,trivial⟩,⟨aj _ _ (ah hb3 hl2) 0,trivial⟩,⟨(hL2.on hb3).words 1,trivial⟩,?_⟩;refine aT [.int .i64 0,.int .i64 0,.int .i64 0] (lw (aF ns f)) rfl (tN _) w3 hw3 ?_;intro w4 h4 hz4 hB4 w5 hw5;have hb5:Below w2.heap.size w2 w5:=by subst hw5;exact hB4.drew
 have h5:w5.heap[w2.heap.size]? =some (.cells (lw (aF ns f)).toArray vU (0,0)):=by subst hw5;exact h4
 have hl5:=ah hb5 hl2;have hL5:=hL2.on hb5;have hb05:=ae hb2 hb5;have st:∀b:Bool,(b=true↔iG ns x)→(Value.bool b= .bool (decide (iG ns x))∧Below w.heap.size w w5):=fun b hb=>⟨by congr 1;rw [Bool.eq_iff_iff,hb,decide_eq_true_eq],hb05⟩;have hS:iG ns x↔((aF ns f).id≠x.a∨(aF ns f).next= -1∨(aF ns (aF ns f).next.toNat).id≠x.b):=by unfold iG;rw [ef]
 refine⟨_,aj _ _ h5 0,_,by rw [Addr.add_add];exact aj _ _ hl5 1,ac.mk (fun h0=>?_) fun h0=>?_⟩
 ·have h0:(aF ns f).id≠x.a:=by simpa using h0
  exact st true ⟨fun _=>hS.2 (.inl h0),fun _=>rfl⟩
 ·have h0:(aF ns f).id=x.a:=by simpa using h0
  refine⟨_,aj _ _ h5 2,ac.mk (fun h1=>?_) fun h1=>?_⟩
  ·have h1:(aF ns f).next= -1:=by simpa using h1
   exact st true ⟨fun _=>hS.2 (.inr (.inl h1)),fun _=>rfl⟩
  ·have h1:(aF ns f).next≠ -1:=by simpa using h1
   obtain⟨g,hg,hgl⟩:=(hn f hfl).resolve_left h1;obtain⟨a2,ha2,hcg⟩:=hL5.cell hgl;have eg:((g:Int)).toNat=g:=by omega
   refine af.mk _ rfl ⟨l.a,l.n,l.c,hL5.words 1,_,aj _ _ h5 2,af.mk a2 ha2 ⟨by rw [hg];omega,by rw [hg];omega,?_⟩⟩;rw [hg,eg];refine⟨_,hcg 0 _ rfl,_,by rw [Addr.add_add];exact aj _ _ hl5 2,?_⟩;refine st _ ?_;rw [hS,hg,eg];constructor
   ·intro hb;exact .inr (.inr (by simpa only [bne_iff_ne,ne_eq]using hb))
   ·rintro(h |h |h)
    ·exact absurd h0 h
    ·omega
    ·simpa only [bne_iff_ne,ne_eq]using h
theorem cz.nodes {w w':World} {B tp p q:Nat} {l lq:Sl} {turn:Nat} {below steps:Int} {ns ns':List Nd} {es:List HE} (h:cz w B tp p q l lq turn below steps ns es) (hr:w'.ownsRow B vU 3 l.v l.n (ns'.flatMap lw)) (hl:ns'.length=ns.length) (hs:∀j,l.v.ownBlock≠some j→w'.heap[j]? =w.heap[j]?):cz w' B tp p q l lq turn below steps ns' es:=by
 have hq:l.v.ownBlock≠some q:=az h.row h.hp.blk (by decide);refine⟨?_,hr,by rw [hl];exact h.len,⟨by rw [hs q hq];exact h.hp.blk,aN h.hp.row fun k hk=>hs k fun e=>bW h.row h.hp.row (by decide) k e hk,h.hp.len,h.hp.off,h.hp.bp⟩,h.bp⟩;rw [hs p (az h.row h.blk (by decide))];exact h.blk
theorem KM {ns:List Nd} {i:Nat} (hi:i<ns.length):ns[i]? =some (aF ns i):=by simp [aF,hi]
theorem cz.write {w:World} {B tp p q:Nat} {l lq:Sl} {turn:Nat} {below steps:Int} {ns:List Nd} {es:List HE} (h:cz w B tp p q l lq turn below steps ns es) {i:Nat} (hi:i<ns.length) {a:Addr} (ha:l.a=some a) {k:Nat} (hk:k<3) (m:Nd) (v:Value) (he:lw m=(lw (aF ns i)).set k v):
  (∃u,w.cell? ((a.add (i*3)).add k)=some u)∧w.frozen? ((a.add (i*3)).add k)=false∧∀w',w'=w.setCell ((a.add (i*3)).add k) v→cz w' B tp p q l lq turn below steps (ns.set i m) es∧w'.heap.size=w.heap.size∧(∀w0,Below B w0 w→Below B w0 w'):=by
 obtain⟨h1,h2,h3⟩:=fP sX (by decide) h.row h.len ha (KM hi) hk m v he;refine⟨h1,h2,fun w' hw'=>?_⟩;obtain⟨r,s,z,b⟩:=h3 w' hw';exact⟨h.nodes r (by simp) s,z,fun w0 h0=>b B w0 (Nat.le_refl _) h0⟩
theorem cz.drew {w:World} {B tp p q:Nat} {l lq:Sl} {turn:Nat} {below steps:Int} {ns:List Nd} {es:List HE} (h:cz w B tp p q l lq turn below steps ns es):cz w.drew B tp p q l lq turn below steps ns es:=h.on (aO w)
theorem D5 (W w:World) (B tp p q:Nat) (l lq:Sl) (turn:Nat) (below steps:Int) (ns:List Nd) (es:List HE) (T:List aP) (hT:di W tp T) (hW:W.heap.size≤B) (hWw:Below B W w)
  (h:cz w B tp p q l lq turn below steps ns es) (hh:eA es) (hB:B≤w.heap.size) (hl:es.length≤800000) (ht:turn≤900000000) (hst:0≤steps∧steps≤1000000000) (i:Nat) (c:Int) (us vs:List Nat) (y:Nat) (hL:kH ns (us++i::y::vs)) (hc:0≤c) (hn':lT (cE ns i c)):
  CP 274 #[.pointer (some ⟨p,0,none⟩),.int .i64 (i:Int),.int .i64 c] w fun e w'=>e= .returned (.tuple #[])∧∃lq' turn' es',cz w' B tp p q l lq' turn' below (steps+1) (cE ns i c) es'∧eA es'∧(∀x∈es,x∈es')∧(∀x∈es',x∈es∨oU (ap T) below ns.length x)∧es'.length≤es.length+2∧turn'≤turn+2∧Below B w w'∧
   jS (ap T) below (cE ns i c) (Cu us (-1)) es'∧jS (ap T) below (cE ns i c) i es':=by
 obtain⟨hL',_,hnx,hah,hid,hidi,hahi,hnxi⟩:=kM hL hc;have hi:i<ns.length:=hL.lt i (by simp);have hy:y<ns.length:=hL.lt y (by simp);have hsort:=hL.sorted;rw [List.pairwise_append,List.pairwise_cons,List.pairwise_cons]at hsort;have hiy:i<y:=hsort.2.1.1 y (by simp);have hyn:(aF ns y).next=hd vs (-1):=by
  obtain⟨_,_,_,_,a4,_⟩:=(dP us (-1)).1 hL.ch;exact a4
 refine aR (yp (some ⟨p,0,none⟩) i c w (fun v w'=>v= .tuple #[]∧∃lq' turn' es',cz w' B tp p q l lq' turn' below (steps+1) (cE ns i c) es'∧eA es'∧(∀x∈es,x∈es')∧(∀x∈es',x∈es∨oU (ap T) below ns.length x)∧es'.length≤es.length+2∧turn'≤turn+2∧Below B w w'∧
   jS (ap T) below (cE ns i c) (Cu us (-1)) es'∧jS (ap T) below (cE ns i c) i es') ?_) (by rintro v w' ⟨rfl,h⟩;exact⟨rfl,h⟩)
 obtain⟨a,ha,hci⟩:=h.cell hi;obtain⟨a2,ha2,hcy⟩:=h.cell hy;have hea:a2=a:=by rw [ha]at ha2;exact(Option.some.inj ha2).symm
 subst hea;have hlen:=h.len;have ei:((i:Int)).toNat=i:=by omega
 have ey:((y:Int)).toNat=y:=by omega
 have hci2:=hci 2 _ rfl;rw [hnx]at hci2;refine af.mk _ rfl ⟨l.a,l.n,l.c,h.words 1,af.mk a2 ha ⟨by omega,by omega,(y:Int),hci2,af.mk _ rfl ⟨l.a,l.n,l.c,h.words 1,af.mk a2 ha ⟨by omega,by omega,?_⟩⟩⟩⟩;rw [ey];obtain⟨u1,f1,s1⟩:=h.write hy ha (k:=0) (by decide) ⟨-2,(aF ns y).ahead,(aF ns y).next⟩ (.int .i64 (-2)) rfl;refine⟨_,hcy 2 _ rfl,af.mk _ rfl ⟨l.a,l.n,l.c,h.words 1,af.mk a2 ha ⟨by omega,by omega,rfl,u1,f1,?_⟩⟩⟩;intro w1 hw1 w2 hw2;obtain⟨h1,z1,b1⟩:=s1 w1 hw1;have h2:cz w2 B tp p q l lq turn below steps (ns.set y ⟨-2,(aF ns y).ahead,(aF ns y).next⟩) es:=by subst hw2;exact h1.drew
 have z2:w2.heap.size=w.heap.size:=by subst hw2;exact z1
 have b2:Below B w w2:=by subst hw2;exact(b1 w (Below.refl _ _)).drew
 have n1i:aF (ns.set y ⟨-2,(aF ns y).ahead,(aF ns y).next⟩) i=aF ns i:=by rw [ky hy,if_neg (by omega)]
 obtain⟨u3,f3,s3⟩:=h2.write (i:=i) (by simpa using hi) ha (k:=0) (by decide) ⟨c,(aF ns i).ahead,(aF ns i).next⟩ (.int .i64 c) (by rw [n1i];rfl);refine af.mk _ rfl ⟨l.a,l.n,l.c,h2.words 1,af.mk _ rfl ⟨l.a,l.n,l.c,h2.words 1,af.mk a2 ha ⟨by omega,by omega,rfl,u3,f3,?_⟩⟩⟩;intro w3 hw3;obtain⟨h3,z3,b3⟩:=s3 w3 hw3;have n2i:aF ((ns.set y ⟨-2,(aF ns y).ahead,(aF ns y).next⟩).set i ⟨c,(aF ns i).ahead,(aF ns i).next⟩) i=⟨c,(aF ns i).ahead,(aF ns i).next⟩:=by rw [ky (by simpa using hi),if_pos rfl]
 obtain⟨u4,f4,s4⟩:=h3.write (i:=i) (by simpa using hi) ha (k:=2) (by decide) ⟨c,(aF ns i).ahead,(aF ns y).next⟩ (.int .i64 (aF ns y).next) (by rw [n2i];rfl);refine af.mk a2 ha ⟨by omega,by omega,rfl,u4,f4,?_⟩;intro w4 hw4;obtain⟨h4,z4,b4⟩:=s4 w4 hw4;rw [List.set_set]at h4;have b04:Below B w w4:=b4 _ (b3 _ b2);intro J hJ;have fin:∀w5:World,cz w5 B tp p q l lq turn below steps (cE ns i c) es→w5.heap.size=w.heap.size→Below B w w5→J [] w5:=by
  intro w5 h5 z5 b5;refine hJ _ (af.mk _ rfl ⟨steps,h5.words 4,Ar.ok64 (by omega) (by omega) (af.mk _ rfl ⟨rfl,⟨_,h5.words 4⟩,be h5.blk,?_⟩)⟩);intro w6 hw6;have h6:cz w6 B tp p q l lq turn below (steps+1) (cE ns i c) es:=by
   have hpq:=h5.pq;subst hw6;refine⟨bL h5.blk _,bB h5.row _ (by rw [ax];exact az h5.row h5.blk (by decide)),h5.len,⟨?_,bB h5.hp.row _ (by rw [ax];exact az h5.hp.row h5.blk (by decide)),h5.hp.len,h5.hp.off,h5.hp.bp⟩,h5.bp⟩;rw [aq (by rw [ax];exact fun e=>hpq e.symm)];exact h5.hp.blk
  have z6:w6.heap.size=w.heap.size:=by rw [←z5];subst hw6;exact aU _ _ _
  have b6:Below B w w6:=by subst hw6;exact bJ b5 h5.bp _
  have hi':i< (cE ns i c).length:=by rw [cT];exact hi
  obtain⟨a6,ha6,hc6⟩:=h6.cell hi';have hea:a6=a2:=by rw [ha]at ha6;exact(Option.some.inj ha6).symm
  subst hea;have hca:=hc6 1 _ rfl;rw [hahi]at hca;refine af.mk _ rfl ⟨l.a,l.n,l.c,h6.words 1,af.mk a6 ha ⟨by omega,by omega,Cu us (-1),hca,?_⟩⟩;have hlu:Cu us (-1)= -1∨∃f:Nat,Cu us (-1)=(f:Int)∧f< (cE ns i c).length:=by
   rcases List.eq_nil_or_concat us with rfl |⟨us',u,rfl⟩
   ·exact .inl rfl
   ·right;rw [List.concat_eq_append,rR];exact⟨u,rfl,by rw [cT];exact hL.lt u (by simp)⟩
  refine(oa W w6 B tp p q l lq turn below (steps+1) (cE ns i c) es T hT hW (hWw.trans b6) h6 hh (by omega) hn' (by omega) (by omega) (Cu us (-1)) hlu).mono ?_;rintro e w7 ⟨rfl,lq7,turn7,es7,P7,A7⟩;have z7:=P7.below.size;refine⟨rfl,(oa W w7 B tp p q l lq7 turn7 below (steps+1) (cE ns i c) es7 T hT hW ((hWw.trans b6).trans P7.below) P7.raw P7.heap (by omega) hn' (by have:=P7.len;omega) (by have:=P7.turn;omega) (i:Int) (.inr ⟨i,rfl,hi'⟩)).mono ?_⟩;rintro e w8 ⟨rfl,lq8,turn8,es8,P8,A8⟩;refine⟨rfl,rfl,lq8,turn8,es8,P8.raw,P8.heap,fun x hx=>P8.keep x (P7.keep x hx),fun x hx=>?_,by have:=P7.len;have:=P8.len;omega,by have:=P7.turn;have:=P8.turn;omega,(b6.trans P7.below).trans P8.below,?_,A8⟩
  ·rcases P8.new x hx with h |h
   ·rcases P7.new x h with h |h
    ·exact .inl h
    ·rw [cT]at h;exact .inr h
   ·rw [cT]at h;exact .inr h
  ·intro p' q' i' h1 h2 h3 h4;obtain⟨x,hx,hr⟩:=A7 p' q' i' h1 h2 h3 h4;exact⟨x,P8.keep x hx,hr⟩
 have hJN:cE ns i c=sf ns i y (aF ns y).next c:=by unfold cE;rw [hnx,Int.toNat_natCast]
 refine ac.mk (fun h0=>?_) fun h0=>?_
 ·have h0:(aF ns y).next≠ -1:=by simpa using h0
  obtain⟨g,vs',hv⟩:∃g vs',vs=g::vs':=by
   cases hv:vs with
   |nil=>rw [hv]at hyn;exact absurd hyn h0
   |cons g vs'=>exact⟨g,vs',rfl⟩
  have hgn:(aF ns y).next=(g:Int):=by rw [hyn,hv];rfl
  have hg:g<ns.length:=hL.lt g (by rw [hv];simp);have hyg:y<g:=by rw [hv]at hsort;exact hsort.2.1.2.1 g (by simp)
  have eg:((g:Int)).toNat=g:=by omega
  obtain⟨u9,f9,s9⟩:=h4.write (i:=g) (by simpa using hg) ha (k:=1) (by decide) ⟨(aF ((ns.set y ⟨-2,(aF ns y).ahead,(aF ns y).next⟩).set i ⟨c,(aF ns i).ahead,(aF ns y).next⟩) g).id,(i:Int),(aF ((ns.set y ⟨-2,(aF ns y).ahead,(aF ns y).next⟩).set i ⟨c,(aF ns i).ahead,(aF ns y).next⟩) g).next⟩ (.int .i64 (i:Int)) rfl;refine af.mk _ rfl ⟨l.a,l.n,l.c,h4.words 1,af.mk a2 ha ⟨by rw [hgn];omega,by rw [hgn];omega,?_⟩⟩;rw [show((aF ns y).next).toNat=g by omega];refine⟨rfl,u9,f9,fun w9 hw9=>?_⟩;obtain⟨h9,z9,b9⟩:=s9 w9 hw9;refine fin w9 ?_ (by omega) (b9 _ b04);rw [hJN];unfold sf;rw [if_neg h0,show((aF ns y).next).toNat=g by omega];exact h9
 ·have h0:(aF ns y).next= -1:=by simpa using h0
  refine fin w4 ?_ (by omega) b04;rw [hJN];unfold sf;rw [if_pos h0];exact h4
theorem pt {ns:List Nd} {us vs:List Nat} {i y:Nat} {c:Int} (h:kH ns (us++i::y::vs)) (hc:0≤c) (hn:lT ns):lT (cE ns i c):=by
 obtain⟨_,_,hnx,_⟩:=kM h hc;have hi:i<ns.length:=h.lt i (by simp);have hy:y<ns.length:=h.lt y (by simp);have hs:=h.sorted;rw [List.pairwise_append,List.pairwise_cons,List.pairwise_cons]at hs;have hiy:i<y:=hs.2.1.1 y (by simp);have hyn:(aF ns y).next=hd vs (-1):=by
  obtain⟨_,_,_,_,a4,_⟩:=(dP us (-1)).1 h.ch;exact a4
 intro k hk;rw [cT]at hk⊢;have hat:aF (cE ns i c) k=if k=i then⟨c,(aF ns i).ahead,hd vs (-1)⟩else if k=y then⟨-2,(aF ns y).ahead,(aF ns y).next⟩else if hd vs (-1)=(k:Int)then⟨(aF ns k).id,(i:Int),(aF ns k).next⟩else aF ns k:=by
  unfold cE;rw [hnx,Int.toNat_natCast,hyn];refine(yj hi hy hiy ?_ k).trans (by rw [hyn]);cases hv:vs with
  |nil=>exact .inl rfl
  |cons a r=>exact .inr ⟨a,rfl,by rw [hv]at hs;exact hs.2.1.2.1 a (by simp),h.lt a (by rw [hv];simp)⟩
 rw [hat];split
 ·show hd vs (-1)= -1∨∃k:Nat,hd vs (-1)=(k:Int)∧k<ns.length;rw [←hyn];exact hn y hy
 ·split
  ·exact hn y hy
  ·split
   ·exact hn k hk
   ·exact hn k hk
structure tW (W w:World) (B tp p q:Nat) (l:Sl) (below:Int) (n:Nat) (bs:List Int) (T:List aP) (lq:Sl) (turn:Nat) (steps:Int) (ns:List Nd) (ps:List Nat) (es:List HE):Prop where
 raw:cz w B tp p q l lq turn below steps ns es
 heap:eA es
 link:kH ns ps
 waits:oV (ap T) below ns ps es
 next:lT ns
 nlen:ns.length=n
 ids:rX (ap T) below (cV ns ps)=rX (ap T) below bs
 size:es.length+3*ps.length≤5*n
 turn:turn+2*ps.length≤5*n
 steps:0≤steps∧steps+ps.length≤n+1
 below:Below B W w
theorem Ei (x:HE) (t:List HE):DC (x::t)= .tuple #[.agg #[.int .i64 x.f,.int .i64 x.a,.int .i64 x.b],.int .i64 x.r,.int .i64 x.p,.bool true]:=rfl
theorem Ez (W w:World) (B tp p q:Nat) (l lq:Sl) (turn:Nat) (below steps:Int) (n:Nat) (bs:List Int) (ns:List Nd) (ps:List Nat) (es:List HE) (T:List aP) (hT:di W tp T) (hW:W.heap.size≤B) (hS:iF 256 (ap T)) (hpos:∀m∈ap T,0≤m.1) (hnb:n≤100000) (hBW:B≤w.heap.size)
  (h:tW W w B tp p q l below n bs T lq turn steps ns ps es):
  CP 257 #[.pointer (some ⟨p,0,none⟩)] w fun e w'=>e= .returned (.tuple #[])∧∃lq' turn' steps' ns' ps',tW W w' B tp p q l below n bs T lq' turn' steps' ns' ps' []:=by
 refine aL (wk (some ⟨p,0,none⟩) w) ?_;intro I hI;have key:∀(m:Nat) (w1:World) (lq:Sl) (turn:Nat) (steps:Int) (ns:List Nd) (ps:List Nat) (es:List HE),es.length+3*ps.length≤m→B≤w1.heap.size→tW W w1 B tp p q l below n bs T lq turn steps ns ps es→I [] w1:=by
  intro m;induction m using Nat.strongRecOn with
  |ind m ih=>
   intro w1 lq turn steps ns ps es hm hBw h;refine hI w1 ?_;intro J hJ;have hsz:=h.size;refine af.mk _ rfl ⟨_,h.raw.words 2,?_⟩;refine(ur w1 B q lq turn es h.raw.hp hBw h.heap (by omega)).mono ?_;rintro e w3 ⟨rfl,lq',es',hd,hlen,hm1,hm2⟩;have hraw3:=h.raw.move hd;have hB3:B≤w3.heap.size:=Nat.le_trans hBw hd.moves.size;have hWB3:Below B W w3:=h.below.trans hd.moves.below;cases es with
   |nil=>
    refine⟨0,0,0,0,0,false,rfl,?_⟩;intro w4 hw4;refine aT [.int .i64 0,.int .i64 0,.int .i64 0] [.int .i64 0,.int .i64 0,.int .i64 0] rfl (fk _ _ _) w4 hw4 ?_;intro w5 h5 hz5 hB5;refine ac.yes rfl ⟨rfl,lq',turn,steps,ns,ps,?_⟩;have hes:es'= []:=List.eq_nil_of_length_eq_zero (by simpa using hlen);subst hes;exact⟨hraw3.on hB5,hd.heap,h.link,h.waits,h.next,h.nlen,h.ids,h.size,h.turn,h.steps,hWB3.trans (hB5.mono hB3)⟩
   |cons x t=>
    rw [Ei];have hx0:hat (x::t) 0=x:=rfl;rw [hx0]at hm1;have hxm:x∈x::t:=by simp
    have hmin:∀z∈x::t,¬z.lt x:=by
     intro z hz;obtain⟨j,hj,rfl⟩:=mq.1 hz;have:=Cp h.heap j hj;rwa [hx0]at this
    obtain⟨i,f,hi,hxr,hxb,hxf,hxp,hfl⟩:=h.waits.good x hxm;refine⟨_,_,_,_,_,true,rfl,?_⟩;intro w4 hw4;refine aT [.int .i64 0,.int .i64 0,.int .i64 0] [.int .i64 x.f,.int .i64 x.a,.int .i64 x.b] rfl (fk _ _ _) w4 hw4 ?_;intro w5 h5 hz5 hB5;have hraw5:=hraw3.on hB5;refine ac.no rfl ⟨_,_,_,D3 h5,?_⟩;refine(AD w5 B tp p q l lq' turn below steps ns es' hraw5 h.next x f hxf hfl).mono ?_;rintro e w6 ⟨rfl,hB6⟩;have hraw6:=hraw5.on hB6;have h6:=ah hB6 h5;have hB56:=ae hB5 hB6;have hWB6:Below B W w6:=hWB3.trans (hB56.mono hB3);have hB6':B≤w6.heap.size:=Nat.le_trans hB3 hB56.size;simp only [List.length_cons]at hlen hsz hm;refine⟨_,rfl,ac.mk (fun h0=>?_) fun h0=>?_⟩
    ·have h0:¬iG ns x:=by simpa using h0
     obtain⟨us,f',y,vs,hps,hf',hfa,hyb,hfn⟩:=pI h.link (h.waits.good x hxm) hpos h0;have hff:f'=f:=by omega
     subst hff;have hL:=h.link;rw [hps]at hL;have hc:0≤x.r:=by omega
     refine⟨x.f,aj _ _ h6 0,?_⟩;rw [hxf];have hstp:=h.steps;have htn:=h.turn;have hpl:ps.length=us.length+vs.length+2:=by rw [hps];simp;omega
     refine(D5 W w6 B tp p q l lq' turn below steps ns es' T hT hW hWB6 hraw6 hd.heap hB6' (by omega) (by omega) (by omega) f' x.r us vs y hL hc (pt hL hc h.next)).mono ?_;rintro e w7 ⟨rfl,lq7,turn7,es7,hraw7,hh7,k7,n7,l7,t7,b7,q1,q2⟩;have hids:=Bk h.link h.waits hS hpos hxm hmin hps hf' hfa hyb;obtain⟨hL7,hids7,_⟩:=kM hL hc;refine⟨rfl,hJ _ (ih (es7.length+3*(us++f'::vs).length) ?_ w7 lq7 turn7 (steps+1) _ _ es7 (Nat.le_refl _) (Nat.le_trans hB6' b7.size) ⟨hraw7,hh7,hL7,?_,pt hL hc h.next,by rw [cT];exact h.nlen,?_,?_,?_,?_,hWB6.trans b7⟩)⟩
     ·simp only [List.length_append,List.length_cons];omega
     ·rw [hps]at h;exact Be hL hc h.waits hxf hm1 hm2 k7 (fun z hz=>n7 z hz) q1 q2
     ·rw [hids7, ←hids];exact h.ids
     ·simp only [List.length_append,List.length_cons];omega
     ·simp only [List.length_append,List.length_cons];omega
     ·simp only [List.length_append,List.length_cons];omega
    ·have h0:iG ns x:=by simpa using h0
     refine hJ _ (ih (es'.length+3*ps.length) (by omega) w6 lq' turn steps ns ps es' (Nat.le_refl _) hB6' ⟨hraw6,hd.heap,h.link,wl h.link h.waits hm1 hm2 h0,h.next,h.nlen,h.ids,by omega,h.turn,h.steps,hWB6⟩)
 exact key _ w lq turn steps ns ps es (Nat.le_refl _) hBW h
theorem GG (w:World) (B tp p q:Nat) (l lq:Sl) (turn:Nat) (below steps:Int) (ns:List Nd) (ps:List Nat) (es:List HE) (h:cz w B tp p q l lq turn below steps ns es) (hL:kH ns ps) (hl:ps.length≤1000000) (hnl:ns.length≤1000000):
  CP 258 #[.pointer (some ⟨p,0,none⟩)] w fun e w'=>∃a n c,e= .returned (.slice a n c)∧w'.ownsRow w.heap.size bf 1 (.slice a n c) n ((cV ns ps).flatMap aQ)∧n=ps.length∧Below w.heap.size w w':=by
 refine aL (zD (some ⟨p,0,none⟩) w) ?_;intro I hI;have hlen:=h.len;by_cases hne:ns= []
 ·subst hne;have hps:ps= []:=by
   cases ps with
   |nil=>rfl
   |cons p' r=>exact absurd (hL.lt p' (by simp)) (by simp)
  subst hps;refine hI _ _ _ _ _ (ac.yes rfl (af.mk _ rfl ⟨l.a,l.n,l.c,h.words 1,ac.no (by simp at hlen;simp [hlen]) ⟨none,0,0,rfl,cP _ _ _ _,rfl,Below.refl _ _⟩⟩))
 have key:∀(rest us:List Nat) (A:Option Addr) (N C:Nat) (w1:World),ps=us++rest→w1.ownsRow w.heap.size bf 1 (.slice A N C) N ((cV ns us).flatMap aQ)→N=us.length→Below w.heap.size w w1→I [.int .i64 (hd rest (-1)),.slice A N C] w1:=by
  intro rest;induction rest with
  |nil=>
   intro us A N C w1 hps hown hN hB;refine hI _ _ _ _ _ (ac.no rfl ⟨A,N,C,rfl,?_,?_,hB⟩)
   ·rw [hps,List.append_nil];exact hown
   ·rw [hps,List.append_nil];exact hN
  |cons f rest ih=>
   intro us A N C w1 hps hown hN hB;have hf:f<ns.length:=hL.lt f (by rw [hps];simp);have h1:=h.on hB;obtain⟨a,ha,hc⟩:=h1.cell hf;have hus:us.length<ps.length:=by rw [hps];simp
   refine hI _ _ _ _ _ (ac.yes (show((f:Int) != -1)=true by simp) (af.mk _ rfl ⟨l.a,l.n,l.c,h1.words 1,ac.yes (show decide ((f:Int) < ((l.n:Nat):Int))=true by simp;omega) (af.mk _ rfl ⟨l.a,l.n,l.c,h1.words 1,af.mk a ha ⟨show(0:Int)≤(f:Int) by omega,show(f:Int) < ((l.n:Nat):Int) by omega,_,hc 0 _ rfl,?_⟩⟩)⟩));rintro w2 rfl;obtain⟨A',C',w3,hr,hown',hg,_⟩:=qc (P:=Tryz.prog) d_ bf CG Dc rfl (by decide) hown [Value.int .i64 (aF ns f).id] rfl (by intro u hu;rw [List.mem_singleton.1 hu];rfl) (by omega) (by omega) hB.size;have hB3:Below w.heap.size w w3:=lW hB hown hg hB.size;have h3:=h.on hB3;obtain⟨a3,ha3,hc3⟩:=h3.cell hf;obtain⟨_,_,a2,_⟩:=(dP us (-1)).1 (by have:=hL.ch;rw [hps]at this;exact this);have hnx:=hc3 2 _ rfl;rw [a2]at hnx;refine⟨A',N+1,C',w3,hr,af.mk _ rfl ⟨l.a,l.n,l.c,h3.words 1,af.mk a3 ha3 ⟨show(0:Int)≤(f:Int) by omega,show(f:Int) < ((l.n:Nat):Int) by omega,_,hnx,?_⟩⟩⟩;refine ih (us++ [f]) A' (N+1) C' w3 (by rw [hps];simp) ?_ (by simp;omega) hB3;have:(cV ns (us++ [f])).flatMap aQ=(cV ns us).flatMap aQ++ [Value.int .i64 (aF ns f).id]:=by
    rw [cV,List.map_append,List.flatMap_append];rfl
   rw [this];exact hown'
 have h0:=hL.head hne;have:=key ps [] none 0 0 w rfl (cP _ _ _ _) rfl (Below.refl _ _);rw [h0]at this;exact this
def jI (bs:List Int) (i:Nat):List Nd:=(bs.take i).zipIdx.map fun x=>⟨x.1,(x.2:Int)-1,(x.2:Int)+1⟩
theorem ix (bs:List Int) (i:Nat) (h:i≤bs.length):(jI bs i).length=i:=by simp [jI,h]
theorem Eb {bs:List Int} {i:Nat} (h:i<bs.length):jI bs (i+1)=jI bs i++ [⟨bs[i],(i:Int)-1,(i:Int)+1⟩]:=by
 have:bs.take (i+1)=bs.take i++ [bs[i]]:=by rw [List.take_add_one,List.getElem?_eq_getElem h];rfl
 rw [jI,this,List.zipIdx_append,List.map_append];have hl:min i bs.length=i:=by omega
 simp [jI,hl]
theorem Dt {bs:List Int} {n:Nat} (h:bs.length=n+1):(jI bs bs.length).set n ⟨(aF (jI bs bs.length) n).id,(aF (jI bs bs.length) n).ahead, -1⟩=jq bs:=by
 have hn:aF (jI bs bs.length) n=⟨bs[n],(n:Int)-1,(n:Int)+1⟩:=by
  simp [aF,jI,List.getD_eq_getElem?_getD,h]
 rw [hn];apply List.ext_getElem
 ·simp [jI,jq]
 ·intro i h1 h2;rw [List.getElem_set];simp only [jI,jq,List.getElem_map,List.getElem_zipIdx,List.getElem_take];by_cases e:n=i
  ·subst e;simp [h]
  ·have hi:i<bs.length:=by simpa [jq]using h2
   simp only [e,if_false];rw [if_neg (by omega)]
def de (s:Bs):List Int:=s.map fun b=>(b.toNat:Int)
theorem ze (s:Bs):∀b∈de s,0≤b:=by
 intro b hb;obtain⟨x,_,rfl⟩:=List.mem_map.1 hb;omega
theorem pD (w:World) (tp:Nat) (T:List aP) (hT:di w tp T) (s:Bs) (hs:s.length≤100000) (below:Int):
  CP 256 #[.pointer (some ⟨tp,0,none⟩),.string (str s),.int .i64 below] w fun e w'=>∃p q l lq turn ps es,e= .returned (.pointer (some ⟨p,0,none⟩))∧tW w w' w.heap.size tp p q l below s.length (de s) T lq turn 0 (jq (de s)) ps es:=by
 refine aL (yU (some ⟨tp,0,none⟩) (str s) below w) ?_;refine(uM w).mono ?_;rintro e w1 ⟨rfl,hH,hB1,hz1⟩;refine⟨_,rfl,?_⟩;intro w2 hw2;have hB2:Below w.heap.size w w2:=by subst hw2;exact hB1.alloc (by omega) _
 have hLk2:cz w2 w.heap.size tp w1.heap.size w.heap.size ⟨none,0,0⟩ ⟨none,0,0⟩ 0 below 0 (jI (de s) 0) []:=by
  subst hw2;exact⟨ak _ _,cP _ _ _ _,rfl,hH.on (ag _ _),by omega⟩
 have hil:(de s).length=s.length:=by simp [de]
 intro I hI;have key:=aX (α:=World) s.length (fun i x=>∃l,cz x w.heap.size tp w1.heap.size w.heap.size l ⟨none,0,0⟩ 0 below 0 (jI (de s) i) []∧Below w.heap.size w x) (fun i x=>I [.int .i64 (i:Int)] x) w2 ⟨_,hLk2,hB2⟩ ?_ ?_
 ·exact key
 ·rintro i hi ih w3 ⟨l,h3,hB3⟩;refine hI _ _ (ac.yes (by rw [bO];simp;omega) ?_);intro w4 hw4;have h4:cz w4 w.heap.size tp w1.heap.size w.heap.size l ⟨none,0,0⟩ 0 below 0 (jI (de s) i) []:=by subst hw4;exact h3.drew
  have hB4:Below w.heap.size w w4:=by subst hw4;exact hB3.drew
  have hlen:l.n=i:=by rw [h4.len,ix _ _ (by omega)]
  have hbt:fJ (str s) (i:Int)=((s[i]).toNat:Int):=iY s i hi;have hb256:=(s[i]).toNat_lt;refine⟨l.a,l.n,l.c,h4.words 1,by omega,by rw [bO];omega,Ar.ok64 (by omega) (by omega) (Ar.ok64 (by omega) (by omega) ?_)⟩;have hwr:IntKind.wrap .i64 (fJ (str s) (i:Int))=((s[i]).toNat:Int):=by
   rw [hbt];exact dm (by show(-9223372036854775808:Int)≤_;omega) (by show _≤(9223372036854775807:Int);omega)
  rw [hwr];rintro w5 rfl;obtain⟨a',c',w6,hr6,hu6,hf6,h7⟩:=fe (P:=Tryz.prog) (s:=l) 1 h4.blk (show 1<5 by decide) h4.row (az h4.row h4.blk (by decide)) h4.bp FV F9 FI rfl (by decide) (lw ⟨((s[i]).toNat:Int),(i:Int)-1,(i:Int)+1⟩) rfl (tN _) (by omega) (by omega);refine⟨⟨by rw [(ag w4 _).cell (by rw [ax];exact h4.lt)];exact h4.words 1,trivial⟩,a',l.n+1,c',w6,hr6,rfl,hu6,hf6,?_⟩;intro w7 hw7;obtain⟨hblk7,hrow7,hoff7,hB7,hkeep7,hsz7,hnew7⟩:=h7 w7 hw7;have hil':(de s)[i]'(by omega)=((s[i]).toNat:Int):=by simp [de]
  refine Ar.ok64 (by omega) (by omega) (ih w7 ⟨⟨a',l.n+1,c'⟩,⟨hblk7,?_,?_,⟨?_,cP _ _ _ _,rfl,(by intro e;cases e),Nat.le_refl _⟩,h4.bp⟩,hB7 w hB4⟩)
  ·rw [Eb (show i< (de s).length by omega),List.flatMap_append,hil'];simpa using hrow7
  ·rw [ix _ _ (by omega)];show l.n+1=i+1;omega
  ·rw [hkeep7 w.heap.size h4.hp.lt (fun e=>h4.pq e.symm) (az h4.row h4.hp.blk (by decide))];exact h4.hp.blk
 ·rintro w3 ⟨l,h3,hB3⟩;have hlen:l.n=s.length:=by rw [h3.len,ix _ _ (by omega)]
  refine hI _ _ (ac.no (by rw [bO];simp) ?_);intro J hJ;have fin:∀w8:World,cz w8 w.heap.size tp w1.heap.size w.heap.size l ⟨none,0,0⟩ 0 below 0 (jq (de s)) []→Below w.heap.size w w8→J [] w8:=by
   intro w8 h8 hB8;refine hJ _ ⟨l.a,l.n,l.c,h8.words 1,?_⟩;intro I11 hI11;obtain⟨hLk,hids⟩:=EQ (ze s);have hnx:lT (jq (de s)):=by
    intro i hi;rw [ek]at hi;rw [pN hi,ek];dsimp only;split
    ·exact .inl rfl
    ·exact .inr ⟨i+1,by omega,by omega⟩
   have key:=aX (α:=World) s.length (fun k x=>∃lq turn es,cz x w.heap.size tp w1.heap.size w.heap.size l lq turn below 0 (jq (de s)) es∧eA es∧(∀e∈es,oU (ap T) below s.length e)∧(∀p',p'<k→jS (ap T) below (jq (de s)) (p':Int) es)∧es.length≤k∧turn≤k∧Below w.heap.size w x) (fun k x=>I11 [.int .i64 (k:Int)] x) w8 ⟨_,0,[],h8,(fun j _ hj=>by simp at hj),(fun e he=>by cases he),fun p' hp'=>absurd hp' (Nat.not_lt_zero _),Nat.le_refl _,Nat.le_refl _,hB8⟩ ?_ ?_
   ·exact key
   ·rintro k hk ih w9 ⟨lq,turn,es,h9,hh9,g9,a9,l9,t9,hB9⟩;refine hI11 _ _ (ac.yes (by simp;omega) ?_);have hbl:(jq (de s)).length=s.length:=by rw [ek,hil]
    refine(oa w w9 w.heap.size tp w1.heap.size w.heap.size l lq turn below 0 (jq (de s)) es T hT (Nat.le_refl _) hB9 h9 hh9 hB9.size hnx (by omega) (by omega) (k:Int) (.inr ⟨k,rfl,by omega⟩)).mono ?_;rintro e w10 ⟨rfl,lq',turn',es',P,A⟩;refine⟨rfl,Ar.ok64 (by omega) (by omega) (ih w10 ⟨lq',turn',es',P.raw,P.heap,fun x hx=>?_,fun p' hp'=>?_,by have:=P.len;omega,by have:=P.turn;omega,hB9.trans P.below⟩)⟩
    ·rcases P.new x hx with h |h
     ·exact g9 x h
     ·rw [hbl]at h;exact h
    ·rcases Nat.lt_succ_iff_lt_or_eq.1 hp' with h |h
     ·intro p1 q1 i h1 h2 h3 h4;obtain⟨x,hx,hr⟩:=a9 p' h p1 q1 i h1 h2 h3 h4;exact⟨x,P.keep x hx,hr⟩
     ·subst h;exact A
   ·rintro w9 ⟨lq,turn,es,h9,hh9,g9,a9,l9,t9,hB9⟩;refine hI11 _ _ (ac.no (by simp;omega) ⟨_,_,l,lq,turn,List.range' 0 (de s).length,es,rfl,h9,hh9,hLk,Ej (by rw [hil];exact g9) (by rw [hil];exact a9),hnx,by rw [ek,hil],by rw [hids],?_,?_,?_,hB9⟩)
    ·simp [hil];omega
    ·simp [hil];omega
    ·simp [hil];omega
  refine⟨l.a,l.n,l.c,h3.words 1,ac.mk (fun h0=>?_) fun h0=>?_⟩
  ·have h0:0<s.length:=by have:=of_decide_eq_true h0;omega
   obtain⟨n,hn⟩:∃n,s.length=n+1:=⟨s.length-1,by omega⟩;have hpl:(jI (de s) s.length).length=s.length:=ix _ _ (by omega);obtain⟨a,ha,_⟩:=h3.cell (i:=n) (by omega);obtain⟨u1,f1,s1⟩:=h3.write (i:=n) (by omega) ha (k:=2) (by decide) ⟨(aF (jI (de s) s.length) n).id,(aF (jI (de s) s.length) n).ahead, -1⟩ (.int .i64 (-1)) rfl;refine⟨l.a,l.n,l.c,h3.words 1,Ar.ok64 (by omega) (by omega) (af.mk a ha ⟨by omega,by omega,rfl,?_⟩)⟩;rw [show(((l.n:Nat):Int)-1).toNat=n by omega];refine⟨u1,f1,fun w11 hw11=>?_⟩;obtain⟨h11,z11,b11⟩:=s1 w11 hw11;refine fin w11 ?_ (b11 w hB3);have:=Dt (bs:=de s) (n:=n) (by omega);rw [hil]at this;rw [this]at h11;exact h11
  ·have h0:s.length=0:=by have:=of_decide_eq_false h0;omega
   refine fin w3 ?_ hB3;have hs0:s= []:=List.eq_nil_of_length_eq_zero h0;subst hs0;exact h3
theorem A_ (w:World) (tp:Nat) (T:List aP) (hT:di w tp T) (hS:iF 256 (ap T)) (hpos:∀m∈ap T,0≤m.1) (s:Bs) (hs:s.length≤100000) (below:Int):
  CP 238 #[.pointer (some ⟨tp,0,none⟩),.string (str s),.int .i64 below] w fun e w'=>∃a n c,e= .returned (.slice a n c)∧w'.ownsRow w.heap.size bf 1 (.slice a n c) n ((rX (ap T) below (de s)).flatMap aQ)∧n=(rX (ap T) below (de s)).length∧Below w.heap.size w w':=by
 refine aL (wT (some ⟨tp,0,none⟩) (str s) below w) ?_;refine ac.no rfl ?_;refine(pD w tp T hT s hs below).mono ?_;rintro e w1 ⟨p,q,l,lq,turn,ps,es,rfl,h1⟩;refine⟨_,rfl,?_⟩;refine(Ez w w1 w.heap.size tp p q l lq turn below 0 s.length (de s) _ ps es T hT (Nat.le_refl _) hS hpos hs h1.below.size h1).mono ?_;rintro e w2 ⟨rfl,lq2,turn2,steps2,ns2,ps2,h2⟩;refine⟨rfl,?_⟩;have hsz:=h2.size;have hnl:=h2.nlen;refine(GG w2 w.heap.size tp p q l lq2 turn2 below steps2 ns2 ps2 [] h2.raw h2.link (by omega) (by omega)).mono ?_;rintro e w3 ⟨a,n,c,rfl,hown,hn,hB⟩;have hids:cV ns2 ps2=rX (ap T) below (de s):=by rw [←h2.ids,Bf h2.waits]
 refine⟨a,n,c,rfl,a,n,c,rfl,?_,by rw [←hids,hn,cV,List.length_map],h2.below.trans (hB.mono h2.below.size)⟩;rw [hids]at hown;have hz:=h2.below.size;refine⟨hown.1,hown.2.imp id ?_⟩;rintro⟨g,cap,cur,h1,h2,h3⟩;exact⟨g,cap,cur,h1,by omega,h3⟩
def fw (T:List aP) (s:Bs):List Int:=rX (ap T) T.length (de s)
theorem pr (w:World) (tp:Nat) (T:List aP) (hT:di w tp T) (hS:iF 256 (ap T)) (hpos:∀m∈ap T,0≤m.1) (s:Bs) (hs:s.length≤100000):
  CP 198 #[.pointer (some ⟨tp,0,none⟩),.string (str s)] w fun e w'=>∃a n c,e= .returned (.slice a n c)∧w'.ownsRow w.heap.size bf 1 (.slice a n c) n ((fw T s).flatMap aQ)∧n=(fw T s).length∧Below w.heap.size w w':=by
 refine aL (wj (some ⟨tp,0,none⟩) (str s) w) ?_;refine(eX w tp T hT).mono ?_;rintro e w1 ⟨rfl,hw⟩;subst hw;refine⟨_,rfl,?_⟩;refine(A_ w1 tp T hT hS hpos s hs T.length).mono ?_;rintro e w2 ⟨a,n,c,rfl,h⟩;exact⟨a,n,c,rfl,a,n,c,rfl,h⟩
theorem xk (w:World) (a:Option Addr) (c:Nat) (xs:List (Int×Int)) (hr:Rw bE 2 w a xs) (hl:xs.length≤1000000000):
  CP 192 #[.slice a xs.length c] w fun e w'=>∃s:Sl,e= .returned s.v∧s.n=xs.length∧w'.ownsRow w.heap.size nr 2 s.v s.n (xs.flatMap bE)∧Below w.heap.size w w':=by
 refine aL (yv a xs.length c w) ?_;refine ac.mk (fun h0=>?_) fun h0=>?_
 ·have hx:xs= []:=by
   cases xs with
   |nil=>rfl
   |cons x t=>
    obtain⟨p,hp,_⟩:=hr 0 x rfl;rw [hp]at h0;cases h0
  subst hx;exact⟨⟨none,0,0⟩,rfl,rfl,cP _ _ _ _,Below.refl _ _⟩
 ·obtain⟨p,rfl⟩:∃p,a=some p:=by
   cases a with
   |none=>cases h0
   |some p=>exact⟨p,rfl⟩
  intro w1 hw1;obtain⟨A,C,w2,h2,h3,h4⟩:=jh (enc:=bE) (sz:=2) (fun _=>rfl) (by decide) (fun x=>co _ _) 34 nr Bp Ax rfl w ⟨some p,xs.length,c⟩ xs (.inr ⟨p,rfl⟩) hr rfl (by simp only;omega) (by simp only;omega) w1 hw1;exact⟨A,xs.length,C,w2,h2,⟨A,xs.length,C⟩,rfl,rfl,h3,h4⟩
theorem yI (w:World) (a:Option Addr) (c:Nat) (xs:List (Bs)) (hr:Rw eJ 1 w a xs) (hl:xs.length≤1000000000):
  CP 193 #[.slice a xs.length c] w fun e w'=>∃s:Sl,e= .returned s.v∧s.n=xs.length∧w'.ownsRow w.heap.size iT 1 s.v s.n (xs.flatMap eJ)∧Below w.heap.size w w':=by
 refine aL (wQ a xs.length c w) ?_;refine ac.mk (fun h0=>?_) fun h0=>?_
 ·have hx:xs= []:=by
   cases xs with
   |nil=>rfl
   |cons x t=>
    obtain⟨p,hp,_⟩:=hr 0 x rfl;rw [hp]at h0;cases h0
  subst hx;exact⟨⟨none,0,0⟩,rfl,rfl,cP _ _ _ _,Below.refl _ _⟩
 ·obtain⟨p,rfl⟩:∃p,a=some p:=by
   cases a with
   |none=>cases h0
   |some p=>exact⟨p,rfl⟩
  intro w1 hw1;obtain⟨A,C,w2,h2,h3,h4⟩:=jh (enc:=eJ) (sz:=1) (fun _=>rfl) (by decide) (fun x u hu=>by rw [List.mem_singleton.1 hu];rfl) nt iT nf mI rfl w ⟨some p,xs.length,c⟩ xs (.inr ⟨p,rfl⟩) hr rfl (by simp only;omega) (by simp only;omega) w1 hw1;exact⟨A,xs.length,C,w2,h2,⟨A,xs.length,C⟩,rfl,rfl,h3,h4⟩
theorem oR (w:World) (a:Option Addr) (c:Nat) (xs:List (Int×Bs)) (hr:Rw aH 2 w a xs) (hl:xs.length≤1000000000):
  CP 169 #[.slice a xs.length c] w fun e w'=>∃s:Sl,e= .returned s.v∧s.n=xs.length∧w'.ownsRow w.heap.size pW 2 s.v s.n (xs.flatMap aH)∧Below w.heap.size w w':=by
 refine aL (xG a xs.length c w) ?_;refine ac.mk (fun h0=>?_) fun h0=>?_
 ·have hx:xs= []:=by
   cases xs with
   |nil=>rfl
   |cons x t=>
    obtain⟨p,hp,_⟩:=hr 0 x rfl;rw [hp]at h0;cases h0
  subst hx;exact⟨⟨none,0,0⟩,rfl,rfl,cP _ _ _ _,Below.refl _ _⟩
 ·obtain⟨p,rfl⟩:∃p,a=some p:=by
   cases a with
   |none=>cases h0
   |some p=>exact⟨p,rfl⟩
  intro w1 hw1;obtain⟨A,C,w2,h2,h3,h4⟩:=jh (enc:=aH) (sz:=2) (fun _=>rfl) (by decide) (fun x=>fy _ _) 25 pW uG Al rfl w ⟨some p,xs.length,c⟩ xs (.inr ⟨p,rfl⟩) hr rfl (by simp only;omega) (by simp only;omega) w1 hw1;exact⟨A,xs.length,C,w2,h2,⟨A,xs.length,C⟩,rfl,rfl,h3,h4⟩
theorem zz (w:World) (a:Option Addr) (c:Nat) (xs:List (Int×Int×Int)) (hr:Rw cM 3 w a xs) (hl:xs.length≤1000000000):
  CP 194 #[.slice a xs.length c] w fun e w'=>∃s:Sl,e= .returned s.v∧s.n=xs.length∧w'.ownsRow w.heap.size H_ 3 s.v s.n (xs.flatMap cM)∧Below w.heap.size w w':=by
 refine aL (vC a xs.length c w) ?_;refine ac.mk (fun h0=>?_) fun h0=>?_
 ·have hx:xs= []:=by
   cases xs with
   |nil=>rfl
   |cons x t=>
    obtain⟨p,hp,_⟩:=hr 0 x rfl;rw [hp]at h0;cases h0
  subst hx;exact⟨⟨none,0,0⟩,rfl,rfl,cP _ _ _ _,Below.refl _ _⟩
 ·obtain⟨p,rfl⟩:∃p,a=some p:=by
   cases a with
   |none=>cases h0
   |some p=>exact⟨p,rfl⟩
  intro w1 hw1;obtain⟨A,C,w2,h2,h3,h4⟩:=jh (enc:=cM) (sz:=3) (fun _=>rfl) (by decide) (fun x=>fS _ _ _) 23 H_ AK FG rfl w ⟨some p,xs.length,c⟩ xs (.inr ⟨p,rfl⟩) hr rfl (by simp only;omega) (by simp only;omega) w1 hw1;exact⟨A,xs.length,C,w2,h2,⟨A,xs.length,C⟩,rfl,rfl,h3,h4⟩
theorem yA (w:World) (a:Option Addr) (c:Nat) (xs:List (Int×Int)) (hr:Rw bE 2 w a xs) (hl:xs.length≤1000000000):
  CP 195 #[.slice a xs.length c] w fun e w'=>∃s:Sl,e= .returned s.v∧s.n=xs.length∧w'.ownsRow w.heap.size K4 2 s.v s.n (xs.flatMap bE)∧Below w.heap.size w w':=by
 refine aL (xx a xs.length c w) ?_;refine ac.mk (fun h0=>?_) fun h0=>?_
 ·have hx:xs= []:=by
   cases xs with
   |nil=>rfl
   |cons x t=>
    obtain⟨p,hp,_⟩:=hr 0 x rfl;rw [hp]at h0;cases h0
  subst hx;exact⟨⟨none,0,0⟩,rfl,rfl,cP _ _ _ _,Below.refl _ _⟩
 ·obtain⟨p,rfl⟩:∃p,a=some p:=by
   cases a with
   |none=>cases h0
   |some p=>exact⟨p,rfl⟩
  intro w1 hw1;obtain⟨A,C,w2,h2,h3,h4⟩:=jh (enc:=bE) (sz:=2) (fun _=>rfl) (by decide) (fun x=>co _ _) 24 K4 BG F2 rfl w ⟨some p,xs.length,c⟩ xs (.inr ⟨p,rfl⟩) hr rfl (by simp only;omega) (by simp only;omega) w1 hw1;exact⟨A,xs.length,C,w2,h2,⟨A,xs.length,C⟩,rfl,rfl,h3,h4⟩
theorem wd:∀ {ms:List (Int×Int)} {k:Int},(∀(i:Nat) (m:Int×Int),ms[i]? =some m→m.1<k+i∧m.2<k+i)→iF k ms
 | [],_,_=>trivial
 |m::ms,k,h=>by
  have h0:=h 0 m rfl;refine⟨by omega,by omega,wd fun i x hi=>?_⟩;have:=h (i+1) x (by simpa using hi);omega
theorem eG {T:List aP} (h:gz T) {i:Nat} {m:Int×Int} (hi:(ap T)[i]? =some m):(0≤m.1∧m.1<256+i)∧(0≤m.2∧m.2<256+i):=by
 simp only [ap,List.getElem?_map,List.getElem?_drop]at hi;obtain⟨e,he,rfl⟩:=Option.map_eq_some_iff.1 hi;obtain⟨h1,h2,_⟩:=h.step (256+i) e he (by omega);exact⟨⟨h1.1,by have:=h1.2;omega⟩,⟨h2.1,by have:=h2.2;omega⟩⟩
theorem gz.sound {T:List aP} (h:gz T):iF 256 (ap T):=wd fun i m hi=>⟨(eG h hi).1.2,(eG h hi).2.2⟩
theorem gz.pos {T:List aP} (h:gz T):∀m∈ap T,0≤m.1:=fun m hm=>by
 obtain⟨i,hi,rfl⟩:=List.getElem_of_mem hm;exact(eG h (List.getElem?_eq_getElem hi)).1.1
def qr (l:List Int):Option (Int×Int):=match l with
 | [a,b]=>some (a,b)
 |_=>none
def JL (o:Option (Int×Int)):Value:=match o with
 |some m=>.tuple #[.agg #[.int .i64 m.1,.int .i64 m.2],.bool true]
 |none=>.tuple #[.agg #[.int .i64 0,.int .i64 0],.bool false]
theorem u_ (w:World) (tp:Nat) (T:List aP) (hT:di w tp T) (hok:gz T) (s:Bs) (hs:s.length≤100000):
  CP 234 #[.pointer (some ⟨tp,0,none⟩),.string (str s)] w fun e w'=>e= .returned (JL (qr (fw T s)))∧Below w.heap.size w w':=by
 refine aL (zA (some ⟨tp,0,none⟩) (str s) w) ?_;intro w1 hw1;have hb1:Below w.heap.size w w1:=by subst hw1;exact ag _ _
 have hl1:w1.heap[w.heap.size]? =some (.cells #[Value.int .i64 0,Value.int .i64 0] nr):=by subst hw1;exact ak _ _
 refine(pr w1 tp T (hT.on hb1) hok.sound hok.pos s hs).mono ?_;rintro e w2 ⟨a,n,c,rfl,hown,hn,hb2⟩;have hl2:=ah hb2 hl1;have hb12:=ae hb1 hb2;refine⟨a,n,c,rfl,ac.mk (fun h0=>?_) fun h0=>?_⟩
 ·have h0:n≠2:=by intro e;rw [e]at h0;simp at h0
  have hp:qr (fw T s)=none:=by
   rw [hn]at h0
   match hx:fw T s with
   | []=>rfl
   | [x]=>rfl
   | [x,y]=>rw [hx]at h0;exact absurd rfl h0
   |x::y::z::t=>rfl
  refine aS hl2 [.int .i64 0,.int .i64 0] rfl (co _ _) ?_;intro w3 h3 _ _ hB3;exact⟨0,0,⟨by have:=aj _ _ h3 0;rw [ay]at this;exact this,aj _ _ h3 1,trivial⟩,by rw [hp];rfl,hB3 _ _ (Nat.le_refl _) hb12⟩
 ·have h0:n=2:=by have:((n:Nat):Int)=2:=by simpa using h0
                  omega
  rw [h0]at hn
  match hx:fw T s with
  | []=>rw [hx]at hn;simp at hn
  | [x]=>rw [hx]at hn;simp at hn
  |x::y::z::t=>rw [hx]at hn;simp at hn
  | [x,y]=>
   rw [hx]at hown;intro w4 hw4;have hb4:Below w2.heap.size w2 w4:=by subst hw4;exact aO w2
   obtain⟨p,hp,hc⟩:=kn (l:=⟨a,n,c⟩) (enc:=aQ) (sz:=1) (fun _=>rfl) (by decide) (aE hown hb4) (i:=0) (x:=x) rfl;obtain⟨p',hp',hc'⟩:=kn (l:=⟨a,n,c⟩) (enc:=aQ) (sz:=1) (fun _=>rfl) (by decide) (aE hown hb4) (i:=1) (x:=y) rfl;have hc0:=hc 0 _ rfl;have hc1:=hc' 0 _ rfl;rw [ay]at hc0 hc1;refine af.mk p hp ⟨Int.le_refl _,by omega,x,hc0,af.mk p' hp' ⟨by omega,by omega,y,hc1,?_⟩⟩;refine aS (ah hb4 hl2) [.int .i64 x,.int .i64 y] rfl (co _ _) ?_;intro w5 h5 _ _ hB5;exact⟨x,y,⟨by have:=aj _ _ h5 0;rw [ay]at this;exact this,aj _ _ h5 1,trivial⟩,rfl,hB5 _ _ (Nat.le_refl _) (ae hb12 hb4)⟩
def eO:List aP→Nat→List Bs→Except (Nat×Int) (List aP)
 |es,_,[]=>.ok es
 |es,i,t::r=>match qr (fw es t)with
  |none=>.error (i,2)
  |some m=>match bP es m with
   | .error n=>.error (i,n)
   | .ok x=>eO (es++ [x]) (i+1) r
def fC (w:World) (o:Except (Nat×Int) (List aP)) (k:Nat) (v:Value) (w':World):Prop:=Below w.heap.size w w'∧match o with
 | .error q=>v= .tuple #[.pointer none,.int .i64 q.1,.int .i64 q.2]∧q.2≠0
 | .ok es=>∃p,v= .tuple #[.pointer (some ⟨p,0,none⟩),.int .i64 (k:Int),.int .i64 0]∧di w' p es∧gz es
theorem BA {ms:List (Int×Int)}:∀ {es:List aP} {i:Nat} {q:Nat×Int},bU es i ms= .error q→q.2≠0:=by
 induction ms with
 |nil=>intro es i q h;cases h
 |cons m ms ih=>
  intro es i q h;rw [bU]at h;cases hx:bP es m with
  |error n=>rw [hx]at h;cases h;exact fO hx
  |ok x=>rw [hx]at h;exact ih h
theorem xA (w:World) (a:Option Addr) (c:Nat) (ts:List Bs) (hr:Rw eJ 1 w a ts) (hl:ts.length≤1000000) (hts:∀t∈ts,t.length≤100000):
  CP 187 #[.slice a ts.length c] w fun e w'=>∃v,e= .returned v∧fC w (eO aG 0 ts) ts.length v w':=by
 refine we a ts.length c w (fC w (eO aG 0 ts) ts.length) ?_;refine(oJ w none 0 [] (by intro j x hj;simp at hj) (by simp)).mono ?_;rintro e w1 ⟨v,rfl,hB,p,rfl,hT,hok⟩;refine⟨_,_,_,rfl,ac.no rfl ?_⟩;intro I hI;have key:=aX (α:=Int×Int×Option Addr×World) ts.length (fun i x=>∃es,gD x.2.2.2 w.heap.size p es∧gz es∧eO aG 0 ts=eO es i (ts.drop i)∧Below w.heap.size w x.2.2.2) (fun i x=>I [.int .i64 (i:Int),.int .i64 x.1,.int .i64 x.2.1,.pointer x.2.2.1] x.2.2.2) (0,0,none,w1) ⟨aG,hT,hok,by rw [List.drop_zero],hB⟩ ?_ ?_
 ·exact key
 ·rintro i hi ih ⟨y4,y3,y2,w2⟩ ⟨es,hT,hok,heq,hB⟩;change gD w2 _ _ _ at hT;change Below w.heap.size w w2 at hB;obtain⟨q,hq,_,hc⟩:=(hr.on hB) i _ (List.getElem?_eq_getElem hi);have h0:=hc 0 _ rfl;rw [ay]at h0;have hdrop:ts.drop i=ts[i]::ts.drop (i+1):=List.drop_eq_getElem_cons hi;refine hI _ _ _ _ _ (ac.yes (by simp;omega) (af.mk q hq ⟨by omega,by omega,_,h0,?_⟩));refine(u_ w2 p es hT.is hok ts[i] (hts _ (List.getElem_mem hi))).mono ?_;rintro e w3 ⟨rfl,hB3⟩;have hz:w.heap.size≤w2.heap.size:=hB.size;have fin:∀(o:Option (Int×Int)),qr (fw es ts[i])=o→∀(x y:Int) (b:Bool),JL o= .tuple #[.agg #[.int .i64 x,.int .i64 y],.bool b]→(b=true→o=some (x,y))→(b=false→o=none)→∀w4:World,w4=w3.alloc (.cells #[Value.int .i64 0,Value.int .i64 0] nr)→
        aB w4 (nb w3) (fun w5=>
        ac (!b)
         (fC w (eO aG 0 ts) ts.length (Value.tuple #[Value.pointer none,Value.int .i64 (i:Int),Value.int .i64 2]) w5)
         (∃g0:Int,∃g1:Int,(w5.cell? (nb w3)=some (Value.int .i64 g0)∧w5.cell? ((nb w3).add 1)=some (Value.int .i64 g1)∧True)∧
          CP 235 #[Value.pointer (some ⟨p,0,none⟩),Value.agg #[Value.int .i64 g0,Value.int .i64 g1]] w5 (fun e6 w6=>
          ∃r0_3:Int,∃r1_4:Int,e6= .returned (Value.tuple #[Value.int .i64 r0_3,Value.int .i64 r1_4])∧
          ac ((r1_4:Int) != 0)
           (fC w (eO aG 0 ts) ts.length (Value.tuple #[Value.pointer none,Value.int .i64 (i:Int),Value.int .i64 r1_4]) w6)
           (Ar .i64 ((i:Int)+1) (fun n=>
            I [Value.int .i64 n,Value.int .i64 y4,Value.int .i64 y3,Value.pointer y2] w6))))) [Value.int .i64 x,Value.int .i64 y] 0:=by
   intro o ho x y b _ hb1 hb0 w4 hw4;refine aT [.int .i64 0,.int .i64 0] [.int .i64 x,.int .i64 y] rfl (co _ _) w4 hw4 ?_;intro w5 h5 hz5 hB5;have hB35:Below w2.heap.size w2 w5:=ae hB3 hB5;have hB05:Below w.heap.size w w5:=hB.trans (hB35.mono hz);refine ac.mk (fun hb=>?_) fun hb=>?_
   ·have hn:=hb0 (by simpa using hb);rw [hn]at ho;refine⟨hB05,?_⟩;rw [heq,hdrop,eO,ho];exact⟨rfl,show(2:Int)≠0 by decide⟩
   ·have hs:=hb1 (by simpa using hb);rw [hs]at ho;refine⟨x,y,⟨by have:=aj _ _ h5 0;rw [ay]at this;exact this,aj _ _ h5 1,trivial⟩,?_⟩;refine(pl w5 w.heap.size p es (hT.on hB35) hok hB05.size (x,y)).mono ?_;rintro e w6 ⟨v,rfl,hB6,hpost⟩;have hB06:Below w.heap.size w w6:=hB05.trans hB6;cases hx:bP es (x,y)with
    |error n=>
     rw [hx]at hpost;obtain⟨rfl,_⟩:=hpost;refine⟨_,_,rfl,ac.yes (by simpa using fO hx) ⟨hB06,?_⟩⟩;rw [heq,hdrop,eO,ho];simp only [hx];exact⟨trivial,fO hx⟩
    |ok z=>
     rw [hx]at hpost;obtain⟨rfl,hT'⟩:=hpost;refine⟨_,_,rfl,ac.no (by simp) (Ar.ok64 (by omega) (by omega) (ih (y4,y3,y2,w6) ⟨_,hT',(kP hok hx).1,?_,hB06⟩))⟩;rw [heq,hdrop,eO,ho];simp only [hx]
  cases ho:qr (fw es ts[i])with
  |none=>exact⟨0,0,false,rfl,fin none ho 0 0 false rfl (by simp) (fun _=>rfl)⟩
  |some m=>exact⟨m.1,m.2,true,rfl,fin (some m) ho m.1 m.2 true rfl (fun _=>rfl) (by simp)⟩
 ·rintro⟨y4,y3,y2,w2⟩ ⟨es,hT,hok,heq,hB⟩;refine hI _ _ _ _ _ (ac.no (by simp) ⟨hB,?_⟩);rw [heq,List.drop_length,eO];exact⟨p,rfl,hT.is,hok⟩
def po (s:ar):Except (Nat×Int) (List aP):=if s.ranked then eO aG 0 s.tokens else bU aG 0 s.merges
def CU (s:ar):Nat:=if s.ranked then s.tokens.length else s.merges.length
theorem Dk (w:World) (x:ce) (s:ar) (h:dw w x s) (hs:Ci s) (hts:∀t∈s.tokens,t.length≤100000):
  CP 139 #[x.v] w fun e w'=>∃v,e= .returned v∧fC w (po s) (CU s) v w':=by
 refine xc x.ranked x.s1.a x.s1.n x.s1.c x.s2.a x.s2.n x.s2.c x.s3.a x.s3.n x.s3.c x.s4.a x.s4.n x.s4.c x.s5.a x.s5.n x.s5.c w (fC w (po s) (CU s)) ?_;rintro w1 rfl;have hb:=ag w (.cells x.cells dh);have h1:=h.on hb;have c0:∀j,(w.alloc (.cells x.cells dh)).cell? ((nb w).add j)=x.cells[j]? :=fun j=>by rw [aC,Nat.zero_add,aY]
 have shape:∀(o:Except (Nat×Int) (List aP)) (k:Nat) (v:Value) (w2:World),fC (w.alloc (.cells x.cells dh)) o k v w2→∃(r0:Option Addr) (r1 r2:Int),v= .tuple #[.pointer r0,.int .i64 r1,.int .i64 r2]∧fC w o k v w2:=by
  intro o k v w2 hp;obtain⟨hB,hm⟩:=hp;have hB':=ae hb hB;cases o with
  |error q=>obtain⟨rfl,hq⟩:=hm;exact⟨_,_,_,rfl,hB',rfl,hq⟩
  |ok es=>obtain⟨p,rfl,hT⟩:=hm;exact⟨_,_,_,rfl,hB',p,rfl,hT⟩
 refine⟨_,c0 0,ac.mk (fun h0=>?_) fun h0=>?_⟩
 ·have h0:s.ranked=true:=by rw [←h.ranked];exact h0
  refine⟨_,_,_,c0 2,?_⟩;have hI:=xA (w.alloc (.cells x.cells dh)) x.s2.a x.s2.c s.tokens h1.r2 hs.2.1 hts;rw [←h.n2]at hI;refine hI.mono ?_;rintro e w2 ⟨v,rfl,hp⟩;rw [h.n2]at hp;obtain⟨r0,r1,r2,rfl,hp'⟩:=shape _ _ _ _ hp;refine⟨r0,r1,r2,rfl,?_⟩;rw [po,CU,if_pos h0,if_pos h0];exact hp'
 ·have h0:s.ranked=false:=by rw [←h.ranked];exact h0
  refine⟨_,_,_,c0 1,?_⟩;have hI:=oJ (w.alloc (.cells x.cells dh)) x.s1.a x.s1.c s.merges h1.r1 (by have:=hs.1;omega);rw [←h.n1]at hI;refine hI.mono ?_;rintro e w2 ⟨v,rfl,hB,hp⟩;have hp2:fC (w.alloc (.cells x.cells dh)) (bU aG 0 s.merges) s.merges.length v w2:=by
   refine⟨hB,?_⟩;cases hx:bU aG 0 s.merges with
   |error q=>rw [hx]at hp;exact⟨hp,BA hx⟩
   |ok es=>rw [hx]at hp;obtain⟨p,hv,hT,hok⟩:=hp;exact⟨p,hv,hT.is,hok⟩
  obtain⟨r0,r1,r2,rfl,hp'⟩:=shape _ _ _ _ hp2;refine⟨r0,r1,r2,rfl,?_⟩;rw [po,CU,if_neg (by rw [h0];simp),if_neg (by rw [h0];simp)];exact hp'
def nW (S:List Nat) (w w':World):Prop:=w.heap.size≤w'.heap.size∧∀k,k<w.heap.size→k∉S→w'.heap[k]? =w.heap[k]?
theorem nW.trans {S:List Nat} {a b c:World} (h:nW S a b) (k:nW S b c):nW S a c:=⟨Nat.le_trans h.1 k.1,fun i hi hS=>(k.2 i (Nat.lt_of_lt_of_le hi h.1) hS).trans (h.2 i hi hS)⟩
theorem nW.of_below {S:List Nat} {a b:World} (h:Below a.heap.size a b):nW S a b:=⟨h.size,fun k hk _=>h.block k hk⟩
theorem nW.setCell {S:List Nat} {w:World} {a:Addr} (u:Value) (ha:a.block∈S):nW S w (w.setCell a u):=⟨by rw [aU];exact Nat.le_refl _,fun k _ hS=>aq fun e=>hS (e▸ha)⟩
theorem mF {S:List Nat} {w w':World} {B:Nat} {e:TypeId} {sz n:Nat} {v:Value} {xs:List Value} (h:w.ownsRow B e sz v n xs) (hS:∀k,B≤k→k∉S) (ho:nW S w w'):w'.ownsRow B e sz v n xs:=
 aN h fun k hk=>ho.2 k (b_ h k hk).2 (hS k (b_ h k hk).1)
theorem zN (w:World) (x:ce) (s:ar) (h:dw w x s) (hs:Ci s):
  CP 145 #[x.v] w fun e w'=>∃x':ce,e= .returned x'.v∧dw w' x' s∧Below w.heap.size w w':=by
 refine aR (wh x.ranked x.s1.a x.s1.n x.s1.c x.s2.a x.s2.n x.s2.c x.s3.a x.s3.n x.s3.c x.s4.a x.s4.n x.s4.c x.s5.a x.s5.n x.s5.c w (fun v w'=>∃x':ce,v=x'.v∧dw w' x' s∧Below w.heap.size w w') ?_) (by rintro v w' ⟨x',rfl,h⟩;exact⟨x',rfl,h⟩);intro w1 hw1 w2 hw2 w3 hw3;obtain⟨n1,n2,n3,n4,n5⟩:=hs;have hz1:w1.heap.size=w.heap.size+1:=by subst hw1;exact av _ _
 have hz2:w2.heap.size=w.heap.size+2:=by subst hw2;rw [av,hz1]
 have hz3:w3.heap.size=w.heap.size+2:=by subst hw3;exact hz2
 have hB3:Below w.heap.size w w3:=by
  subst hw3;subst hw2;subst hw1;exact(((Below.refl _ _).alloc (Nat.le_refl _) _).alloc (by rw [av];omega) _).drew
 have p3:w3.heap[w.heap.size]? =some (.cells x.cells dh (0,0)):=by
  subst hw3;show w2.heap[w.heap.size]? =_;rw [hw2,fc _ _ (by omega)];subst hw1;exact ak _ _
 have q3:w3.heap[w1.heap.size]? =some (.cells ng.cells dh (0,0)):=by
  subst hw3;show w2.heap[w1.heap.size]? =_;rw [hw2];exact ak _ _
 have h3:=h.on hB3;have c3:∀ {w':World},w'.heap[w.heap.size]? =some (.cells x.cells dh (0,0))→∀j,w'.cell? ((nb w).add j)=x.cells[j]? :=fun hw' j=>aj _ _ hw' j;refine⟨_,_,_,c3 p3 1,_,_,_,c3 p3 2,_,_,_,c3 p3 3,?_⟩;have k1:=xk w3 x.s1.a x.s1.c s.merges h3.r1 (by omega);rw [←h.n1]at k1;refine k1.mono ?_;rintro e w4 ⟨t1,rfl,e1,o1,b4⟩;have p4:=ah b4 p3;have z4:=b4.size;refine⟨_,_,_,rfl,⟨c3 p4 3,trivial⟩,⟨c3 p4 2,trivial⟩,?_⟩;have k2:=yI w4 x.s2.a x.s2.c s.tokens (h3.on b4).r2 (by omega);rw [←h.n2]at k2;refine k2.mono ?_;rintro e w5 ⟨t2,rfl,e2,o2,b5⟩;have p5:=ah b5 p4;have z5:=b5.size;refine⟨_,_,_,rfl,⟨c3 p5 3,trivial⟩,?_⟩;have k3:=oR w5 x.s3.a x.s3.c s.specials ((h3.on b4).on b5).r3 (by omega);rw [←h.n3]at k3;refine k3.mono ?_;rintro e w6 ⟨t3,rfl,e3,o3,b6⟩;have p6:=ah b6 p5;have z6:=b6.size;have hB6:Below w.heap.size w w6:=((hB3.trans (b4.mono hB3.size)).trans (b5.mono (by omega))).trans (b6.mono (by omega));refine⟨_,_,_,rfl,rfl,⟨_,c3 p6 1⟩,be p6,?_⟩;intro w7 hw7;have p7:w7.heap[w.heap.size]? =some (.cells #[.bool x.ranked,t1.v,x.s2.v,x.s3.v,x.s4.v,x.s5.v] dh (0,0)):=by subst hw7;exact bL p6 _
 refine⟨rfl,⟨_,by rw [aj _ _ p7];rfl⟩,be p7,?_⟩;intro w8 hw8;have p8:w8.heap[w.heap.size]? =some (.cells #[.bool x.ranked,t1.v,t2.v,x.s3.v,x.s4.v,x.s5.v] dh (0,0)):=by subst hw8;exact bL p7 _
 refine⟨rfl,⟨_,by rw [aj _ _ p8];rfl⟩,be p8,?_⟩;intro w9 hw9;have p9:w9.heap[w.heap.size]? =some (.cells #[.bool x.ranked,t1.v,t2.v,t3.v,x.s4.v,x.s5.v] dh (0,0)):=by subst hw9;exact bL p8 _
 intro w10 hw10;have p10:w10.heap[w.heap.size]? =some (.cells #[.bool x.ranked,t1.v,t2.v,t3.v,x.s4.v,x.s5.v] dh (0,0)):=by subst hw10;exact p9
 have hB10:Below w.heap.size w w10:=by
  subst hw10;subst hw9;subst hw8;subst hw7;exact(bJ (bJ (bJ hB6 (Nat.le_refl _) _) (Nat.le_refl _) _) (Nat.le_refl _) _).drew
 have off10:nW [w.heap.size,w1.heap.size] w6 w10:=by
  have a1:nW [w.heap.size,w1.heap.size] w6 w7:=by subst hw7;exact nW.setCell _ (by rw [ax];simp)
  have a2:nW [w.heap.size,w1.heap.size] w7 w8:=by subst hw8;exact nW.setCell _ (by rw [ax];simp)
  have a3:nW [w.heap.size,w1.heap.size] w8 w9:=by subst hw9;exact nW.setCell _ (by rw [ax];simp)
  have a4:nW [w.heap.size,w1.heap.size] w9 w10:=by subst hw10;exact nW.of_below (aO _)
  exact((a1.trans a2).trans a3).trans a4
 have z10:=off10.1;have h10:=h.on hB10;refine⟨_,_,_,by rw [aj _ _ p10];rfl,_,_,_,by rw [aj _ _ p10];rfl,?_⟩;have k4:=zz w10 x.s4.a x.s4.c s.classes h10.r4 (by omega);rw [←h.n4]at k4;refine k4.mono ?_;rintro e w11 ⟨t4,rfl,e4,o4,b11⟩;have p11:=ah b11 p10;have z11:=b11.size;refine⟨_,_,_,rfl,⟨by rw [aj _ _ p11];rfl,trivial⟩,?_⟩;have k5:=yA w11 x.s5.a x.s5.c s.joins (h10.on b11).r5 (by omega);rw [←h.n5]at k5;refine k5.mono ?_;rintro e w12 ⟨t5,rfl,e5,o5,b12⟩;have p12:=ah b12 p11;have z12:=b12.size;refine⟨_,_,_,rfl,rfl,⟨_,by rw [aj _ _ p12];rfl⟩,be p12,?_⟩;intro w13 hw13;have p13:w13.heap[w.heap.size]? =some (.cells #[.bool x.ranked,t1.v,t2.v,t3.v,t4.v,x.s5.v] dh (0,0)):=by subst hw13;exact bL p12 _
 refine⟨rfl,⟨_,by rw [aj _ _ p13];rfl⟩,be p13,?_⟩;intro w14 hw14;have p14:w14.heap[w.heap.size]? =some (.cells (⟨x.ranked,t1,t2,t3,t4,t5⟩:ce).cells dh (0,0)):=by subst hw14;exact bL p13 _
 have hB14:Below w.heap.size w w14:=by
  subst hw14;subst hw13;exact bJ (bJ ((hB10.trans (b11.mono hB10.size)).trans (b12.mono (Nat.le_trans hB10.size z11))) (Nat.le_refl _) _) (Nat.le_refl _) _
 have off14:nW [w.heap.size,w1.heap.size] w12 w14:=by
  have a1:nW [w.heap.size,w1.heap.size] w12 w13:=by subst hw13;exact nW.setCell _ (by rw [ax];simp)
  have a2:nW [w.heap.size,w1.heap.size] w13 w14:=by subst hw14;exact nW.setCell _ (by rw [ax];simp)
  exact a1.trans a2
 have off6:nW [w.heap.size,w1.heap.size] w6 w14:=((off10.trans (nW.of_below b11)).trans (nW.of_below b12)).trans off14;have q14:w14.heap[w1.heap.size]? =some (.cells ng.cells dh (0,0)):=by
  have e0:∀w':World,w1.heap.size≠w.heap.size:=fun _=>by omega
  have q6:=ah b6 (ah b5 (ah b4 q3));have q7:w7.heap[w1.heap.size]? =some (.cells ng.cells dh (0,0)):=by subst hw7;rw [aq (by rw [ax];exact e0 w)];exact q6
  have q8:w8.heap[w1.heap.size]? =some (.cells ng.cells dh (0,0)):=by subst hw8;rw [aq (by rw [ax];exact e0 w)];exact q7
  have q9:w9.heap[w1.heap.size]? =some (.cells ng.cells dh (0,0)):=by subst hw9;rw [aq (by rw [ax];exact e0 w)];exact q8
  have q10:w10.heap[w1.heap.size]? =some (.cells ng.cells dh (0,0)):=by subst hw10;exact q9
  have q12:=ah b12 (ah b11 q10);have q13:w13.heap[w1.heap.size]? =some (.cells ng.cells dh (0,0)):=by subst hw13;rw [aq (by rw [ax];exact e0 w)];exact q12
  subst hw14;rw [aq (by rw [ax];exact e0 w)];exact q13
 have notin:∀(B k:Nat),w.heap.size+2≤B→B≤k→k∉ [w.heap.size,w1.heap.size]:=by
  intro B k h1 h2;simp;omega
 refine⟨_,_,_,_,_,_,_,_,_,_,_,_,_,_,_,_,dO p14,?_⟩;refine th (w:=w1) (fun x' w'=>∃x'':ce,x'.v=x''.v∧dw w' x'' s∧Below w.heap.size w w') ⟨x.ranked,t1,t2,t3,t4,t5⟩ q14 rfl ?_;intro w15 hB15 hs15;have off15:nW [w.heap.size,w1.heap.size] w14 w15:=⟨(hB15 w14 (Below.refl _ _)).size,fun k hk hS=>hs15 k fun e=>hS (by rw [e];simp)⟩;have b15:Below w.heap.size w w15:=(hB14.trans ((hB15 w14 (Below.refl _ _)).mono (by omega)));have o1':=mF (aE (aE o1 b5) b6) (fun k hk=>notin _ k (by omega) hk) (off6.trans off15);have o2':=mF (aE o2 b6) (fun k hk=>notin _ k (by omega) hk) (off6.trans off15);have o3':=mF o3 (fun k hk=>notin _ k (by omega) hk) (off6.trans off15);have o4':=mF (aE o4 b12) (fun k hk=>notin _ k (by omega) hk) (off14.trans off15);have o5':=mF o5 (fun k hk=>notin _ k (by omega) hk) (off14.trans off15);exact⟨⟨x.ranked,t1,t2,t3,t4,t5⟩,rfl,⟨h.ranked,e1.trans h.n1,(Rw.of_own o1' (fun _=>rfl) (by decide)).1,e2.trans h.n2,(Rw.of_own o2' (fun _=>rfl) (by decide)).1,e3.trans h.n3,(Rw.of_own o3' (fun _=>rfl) (by decide)).1,e4.trans h.n4,(Rw.of_own o4' (fun _=>rfl) (by decide)).1,e5.trans h.n5,(Rw.of_own o5' (fun _=>rfl) (by decide)).1⟩,b15⟩
abbrev dC:TypeId:=237
abbrev bN:TypeId:=4
def gC (s:ar) (T:List aP) (i:Nat):Bool:=decide (fw T (bk T (i:Int))= [(i:Int)])&&lG (cutB s.classes s.joins) (bk T (i:Int))
def eP (s:ar) (T:List aP):List Bool:=(List.range T.length).map (gC s T)
def dM (b:Bool):List Value:=[.bool b]
structure cw (w:World) (s:ar) (T:List aP) (x:ce) (tp bp mp:Nat):Prop where
 spec:dw w x s
 tab:di w tp T
 ok:gz T
 bound:uA w bp s.classes s.joins
 marks:va w mp s.specials
 right:s.right=true
 ids:∀y∈s.specials,(T.length:Int)≤y.1
 nodup:(s.specials.map (·.1)).Nodup
theorem cw.on {w w':World} {s:ar} {T:List aP} {x:ce} {tp bp mp:Nat} (h:cw w s T x tp bp mp) (hb:Below w.heap.size w w'):cw w' s T x tp bp mp:=
 ⟨h.spec.on hb,h.tab.on hb,h.ok,h.bound.on hb,h.marks.on hb,h.right,h.ids,h.nodup⟩
abbrev ik (x:ce) (tp bp mp:Nat) (d:Int) (l:Sl) (uses:Int):Array Value:=#[.bool x.ranked,x.s1.v,x.s2.v,x.s3.v,x.s4.v,x.s5.v,.pointer (some ⟨tp,0,none⟩),.pointer (some ⟨bp,0,none⟩),.pointer (some ⟨mp,0,none⟩),.int .u32 d,.int .i32 0,.int .u32 0,l.v,.int .i64 uses]
structure iN (w:World) (v:Nat) (s:ar) (T:List aP) (w0:World) (x:ce) (tp bp mp:Nat) (d:Int) (l:Sl) (uses:Int):Prop where
 parts:cw w0 s T x tp bp mp
 below:Below w0.heap.size w0 w
 lt:w0.heap.size≤v
 blk:w.heap[v]? =some (.cells (ik x tp bp mp d l uses) dC (0,0))
 once:(d=0∧l=⟨none,0,0⟩)∨(d=1∧l.n=T.length∧w.ownsRow (v+1) bN 1 l.v l.n ((eP s T).flatMap dM))
def bw (w:World) (v:Nat) (s:ar) (T:List aP):Prop:=∃w0 x tp bp mp d l uses,iN w v s T w0 x tp bp mp d l uses
theorem iN.on {w w':World} {v:Nat} {s:ar} {T:List aP} {w0:World} {x:ce} {tp bp mp:Nat} {d:Int} {l:Sl} {uses:Int} (h:iN w v s T w0 x tp bp mp d l uses) (hb:Below w.heap.size w w'):iN w' v s T w0 x tp bp mp d l uses:=
 ⟨h.parts,h.below.trans (hb.mono h.below.size),h.lt,ah hb h.blk,h.once.imp id fun⟨a,b,c⟩=>⟨a,b,aE c hb⟩⟩
theorem bw.on {w w':World} {v:Nat} {s:ar} {T:List aP} (h:bw w v s T) (hb:Below w.heap.size w w'):bw w' v s T:=by
 obtain⟨w0,x,tp,bp,mp,d,l,uses,h⟩:=h;exact⟨w0,x,tp,bp,mp,d,l,uses,h.on hb⟩
theorem iN.now {w:World} {v:Nat} {s:ar} {T:List aP} {w0:World} {x:ce} {tp bp mp:Nat} {d:Int} {l:Sl} {uses:Int} (h:iN w v s T w0 x tp bp mp d l uses):cw w s T x tp bp mp:=h.parts.on h.below
structure au (v:Nat) (w w':World):Prop where
 os:w'.os=w.os
 tape:w'.tape=w.tape
 output:w'.output=w.output
 size:w.heap.size≤w'.heap.size
 block:∀k,k<w.heap.size→k≠v→w'.heap[k]? =w.heap[k]?
theorem au.of_below {v:Nat} {w w':World} (h:Below w.heap.size w w'):au v w w':=⟨h.os,h.tape,h.output,h.size,fun k hk _=>h.block k hk⟩
theorem au.trans {v:Nat} {a b c:World} (h:au v a b) (k:au v b c):au v a c:=
 ⟨k.os.trans h.os,k.tape.trans h.tape,k.output.trans h.output,Nat.le_trans h.size k.size,fun i hi hv=>(k.block i (Nat.lt_of_lt_of_le hi h.size) hv).trans (h.block i hi hv)⟩
theorem au.below {v B:Nat} {a b:World} (h:au v a b) (hv:B≤v) (hB:B≤a.heap.size):Below B a b:=⟨h.os,h.tape,h.output,h.size,fun k hk=>h.block k (by omega) (by omega)⟩
theorem au.held {v:Nat} {a b:World} (h:au v a b) {k:Nat} (hk:k≠v) {o:Obj} (ho:a.heap[k]? =some o):b.heap[k]? =some o:=by
 rw [h.block k (Array.getElem?_eq_some_iff.1 ho).1 hk,ho]
theorem au.own {v:Nat} {a b:World} (h:au v a b) {B:Nat} {e:TypeId} {sz n:Nat} {u:Value} {xs:List Value} (ho:a.ownsRow B e sz u n xs) (hne:u.ownBlock≠some v):b.ownsRow B e sz u n xs:=
 aN ho fun k hk=>h.block k (b_ ho k hk).2 fun e=>hne (by rw [hk,e])
theorem ve (w:World) (cb:Nat) (tp:Nat) (T:List aP) (hT:di w tp T) (y:Int×Bs) (hcb:cb<w.heap.size) (hc:w.cell? ⟨cb,0,none⟩=some (.pointer (some ⟨tp,0,none⟩))):
  CP 142 #[.agg #[.int .i64 y.1,.string (str y.2)],.pointer (some ⟨cb,0,none⟩)] w fun e w'=>e= .returned (.bool (decide (y.1< (T.length:Int))))∧Below w.heap.size w w':=by
 refine aL (xN y.1 (str y.2) (some ⟨cb,0,none⟩) w) ?_;intro w1 hw1 w2 hw2;have hb2:Below w.heap.size w w2:=by subst hw2;subst hw1;exact(ag _ _).drew
 have hl2:w2.heap[w.heap.size]? =some (.cells #[.int .i64 y.1,.string (str y.2)] pW (0,0)):=by subst hw2;subst hw1;exact ak _ _
 refine⟨_,aj _ _ hl2 0,af.mk _ rfl ⟨_,by rw [hb2.cell hcb];exact hc,?_⟩⟩;refine(eX w2 tp T (hT.on hb2)).mono ?_;rintro e w3 ⟨rfl,hw⟩;subst hw;exact⟨_,rfl,⟨aj _ _ hl2 0,trivial⟩,rfl,hb2⟩
def du (s:ar):Except (Int×Nat×Int) (List aP):=match po s with
 | .error q=>.error (1,q.1,q.2)
 | .ok T=>match bQ [] 0 s.specials with
  |some q=>.error (2,q.1,q.2)
  |none=>match s.specials.findIdx? (fun y=>decide (y.1< (T.length:Int)))with
   |some i=>.error (2,i,4)
   |none=>.ok T
def og (w:World) (s:ar) (v:Value) (w':World):Prop:=Below w.heap.size w w'∧match du s with
 | .error q=>v= .tuple #[.pointer none,.int .i64 q.1,.int .i64 q.2.1,.int .i64 q.2.2]∧q.2.2≠0
 | .ok T=>∃p,v= .tuple #[.pointer (some ⟨p,0,none⟩),.int .i64 0,.int .i64 0,.int .i64 0]∧bw w' p s T∧w.heap.size≤p
theorem qN {xs:List (Int×Bs)}:∀ {ys:List (Int×Bs)} {i:Nat} {q:Nat×Int},bQ ys i xs=some q→q.2≠0:=by
 induction xs with
 |nil=>intro ys i q h;cases h
 |cons x xs ih=>
  intro ys i q h;rw [bQ]at h;split at h
  ·exact ih h
  ·rename_i hne;cases h;exact hne
theorem ly {xs:List (Int×Bs)}:∀ {ys:List (Int×Bs)} {i:Nat},bQ ys i xs=none→(ys.map (·.1)).Nodup→((ys++xs).map (·.1)).Nodup:=by
 induction xs with
 |nil=>intro ys i _ h;rw [List.append_nil];exact h
 |cons x xs ih=>
  intro ys i h hn;rw [bQ]at h;split at h
  ·rename_i hz;have:=ih h (by
    rw [List.map_append,List.nodup_append];refine⟨hn,by simp,fun a ha b hb=>?_⟩;simp at hb;subst hb;rintro rfl;unfold cA at hz;split at hz
    ·omega
    ·split at hz
     ·omega
     ·split at hz
      ·omega
      ·rename_i h3;exact h3 (.inl ha))
   simpa using this
  ·cases h
theorem qG {s:ar} (h:s.right=true):(∀c∈s.classes,aW c=true)∧(∀j∈s.joins,cB j=true)∧(∀t∈s.tokens,t.length≤100000):=by
 obtain⟨_,_,h3,_,h5,h6⟩:=iD h;simp only [cd,Bool.and_eq_true,List.all_eq_true]at h3 h5 h6;refine⟨h5.2,h6.2,fun t ht=>?_⟩;have:=of_decide_eq_true (by simpa [gh]using h3.2 t ht:decide _=true);omega
theorem BI (w:World) (x:ce) (s:ar) (h:dw w x s) (hright:s.right=true):
  CP 70 #[x.v] w fun e w'=>∃v,e= .returned v∧og w s v w':=by
 refine Cg x.ranked x.s1.a x.s1.n x.s1.c x.s2.a x.s2.n x.s2.c x.s3.a x.s3.n x.s3.c x.s4.a x.s4.n x.s4.c x.s5.a x.s5.n x.s5.c w (og w s) ?_;intro w1 hw1;have hs:=iA hright;obtain⟨okc,okj,okt⟩:=qG hright;have hb1:Below w.heap.size w w1:=by subst hw1;exact ag _ _
 have hz1:w1.heap.size=w.heap.size+1:=by subst hw1;exact av _ _
 have p1:w1.heap[w.heap.size]? =some (.cells x.cells dh (0,0)):=by subst hw1;exact ak _ _
 have h1:=h.on hb1;refine⟨_,_,_,_,_,_,_,_,_,_,_,_,_,_,_,_,dO p1,?_⟩;refine(Dk w1 x s h1 hs okt).mono ?_;rintro e w2 ⟨v,rfl,hb2,hload⟩;have hb12:=ae hb1 hb2;have p2:=ah hb2 p1;have hz2:=hb2.size;have store:∀(r0:Option Addr) (w3 w4:World),w3=w2.alloc (.cells #[Value.pointer none] 145)→w4=w3.setCell (nb w2) (.pointer r0)→w4.heap[w2.heap.size]? =some (.cells #[.pointer r0] 145 (0,0))∧Below w2.heap.size w2 w4:=by
  intro r0 w3 w4 hw3 hw4;have a3:w3.heap[w2.heap.size]? =some (.cells #[Value.pointer none] 145 (0,0)):=by subst hw3;exact ak _ _
  have b3:Below w2.heap.size w2 w3:=by subst hw3;exact ag _ _
  have hp:=bL (j:=0) a3 (.pointer r0);have bp:=bJ (j:=0) b3 (Nat.le_refl _) (.pointer r0);rw [ay]at hp bp;subst hw4;exact⟨hp,bp⟩
 have slot:∀(w3:World),w3=w2.alloc (.cells #[Value.pointer none] 145)→(∃u,w3.cell? (nb w2)=some u)∧w3.frozen? (nb w2)=false:=by
  intro w3 hw3;subst hw3;have a3:=ak w2 (.cells #[Value.pointer none] 145);refine⟨⟨.pointer none,by rw [aY];rfl⟩,bo a3⟩
 have fail:∀(q:Int×Nat×Int) (w':World),du s= .error q→q.2.2≠0→Below w.heap.size w w'→og w s (.tuple #[.pointer none,.int .i64 q.1,.int .i64 q.2.1,.int .i64 q.2.2]) w':=by
  intro q w' hq hne hb;refine⟨hb,?_⟩;rw [hq];exact⟨rfl,hne⟩
 cases hl:po s with
 |error q=>
  rw [hl]at hload;obtain⟨rfl,hq⟩:=hload;refine⟨_,_,_,rfl,?_⟩;intro w3 hw3;obtain⟨u3,f3⟩:=slot w3 hw3;refine⟨rfl,u3,f3,?_⟩;intro w4 hw4;obtain⟨a4,b4⟩:=store none w3 w4 hw3 hw4;refine ac.yes (by simpa using hq) ?_;exact fail (1,q.1,q.2) w4 (by rw [du,hl]) hq (ae hb12 b4)
 |ok T=>
  rw [hl]at hload;obtain⟨tp,rfl,hT,hok⟩:=hload;refine⟨_,_,_,rfl,?_⟩;intro w3 hw3;obtain⟨u3,f3⟩:=slot w3 hw3;refine⟨rfl,u3,f3,?_⟩;intro w4 hw4;obtain⟨a4,b4⟩:=store (some ⟨tp,0,none⟩) w3 w4 hw3 hw4;have hb14:=ae hb12 b4;have hz4:=b4.size;have p4:=ah b4 p2;have hT4:=hT.on b4;have h4:=h.on hb14;refine ac.no rfl ⟨_,_,_,by rw [aj _ _ p4];rfl,?_⟩;have hM:=vd w4 x.s3.a x.s3.c s.specials h4.r3 (by have:=hs.2.2.1;omega);rw [←h.n3]at hM;refine hM.mono ?_;rintro e w5 ⟨v,rfl,b5,hmark⟩;have hb15:=ae hb14 b5;have p5:=ah b5 p4;cases hm:bQ [] 0 s.specials with
  |some q=>
   rw [hm]at hmark;subst hmark;have hne:=qN hm;refine⟨_,_,_,rfl,ac.yes (by simpa using hne) ?_⟩;exact fail (2,q.1,q.2) w5 (by rw [du,hl];simp only [hm]) hne hb15
  |none=>
   rw [hm]at hmark;obtain⟨mp,hv,hMk⟩:=hmark;subst hv;refine⟨_,_,_,rfl,ac.no rfl ⟨_,_,_,by rw [aj _ _ p5];rfl,?_⟩⟩;have hI:=oE x.s3.a x.s3.c s.specials (.func (.func 142) #[] #[.pointer (some (nb w2))]) (fun y=>decide (y.1< (T.length:Int))) w5 (h.on hb15).r3 (by have:=hs.2.2.1;omega) (by
    intro y hy w6 hb6;refine bT (by kernel_rfl) ?_;refine(ve w6 w2.heap.size tp T ((hT4.on b5).on hb6) y (by have:=b5.size;have:=hb6.size;have:=(Array.getElem?_eq_some_iff.1 a4).1;omega) ?_);have:=aj _ _ (ah hb6 (ah b5 a4)) 0;rw [ay]at this;exact this)
   rw [←h.n3]at hI;refine hI.mono ?_;rintro e w6 ⟨rfl,b6⟩;have hb16:=ae hb15 b6;have p6:=ah b6 p5;refine⟨_,rfl,?_⟩;unfold CJ;cases hi:s.specials.findIdx? (fun y=>decide (y.1< (T.length:Int)))with
   |some i=>
    refine ac.yes (by simp) ?_;exact fail (2,i,4) w6 (by rw [du,hl];simp only [hm,hi]) (show(4:Int)≠0 by decide) hb16
   |none=>
    refine ac.no (by simp) ?_;have h6:=h.on hb16;have hB:=sI w6 x.s4.a x.s5.a x.s4.c x.s5.c s.classes s.joins h6.r4 h6.r5 hs.2.2.2.1 hs.2.2.2.2 okc okj;rw [←h.n4, ←h.n5]at hB;refine⟨_,_,_,by rw [aj _ _ p6];rfl,_,_,_,by rw [aj _ _ p6];rfl,?_⟩;refine hB.mono ?_;rintro e w7 ⟨bp,rfl,hBd,b7,_⟩;refine⟨_,_,rfl,ac.no rfl ?_⟩;intro w8 hw8;have b8:Below w7.heap.size w7 w8:=by subst hw8;exact aO w7
    have b48:Below w4.heap.size w4 w8:=ae b5 (ae b6 (ae b7 b8));have p8:=ah b48 p4;have a8:=ah b48 a4;have hb18:=ae hb14 b48;have ptr8:∀ {w':World},w'.heap[w2.heap.size]? =some (.cells #[.pointer (some ⟨tp,0,none⟩)] 145 (0,0))→w'.cell? (nb w2)=some (.pointer (some ⟨tp,0,none⟩)):=fun hh=>by
     have:=aj _ _ hh 0;rw [ay]at this;exact this
    refine⟨_,_,_,_,_,_,_,_,_,_,_,_,_,_,_,_,dO p8,_,ptr8 a8,?_⟩;refine(zN w8 x s (h.on hb18) hs).mono ?_;rintro e w9 ⟨x',rfl,hx',b9⟩;refine⟨_,_,_,_,_,_,_,_,_,_,_,_,_,_,_,_,rfl,⟨ptr8 (ah b9 a8),trivial⟩,?_⟩;rintro w10 rfl;have b10:=ag w9 (.cells (ik x' tp bp mp 0 ⟨none,0,0⟩ 0) dC);have b19:=ae hb18 b9;refine⟨ae b19 b10,?_⟩;have hbv:du s= .ok T:=by rw [du,hl];simp only [hm,hi]
    rw [hbv];refine⟨w9.heap.size,rfl,⟨w9,x',tp,bp,mp,0,⟨none,0,0⟩,0,⟨⟨hx',?_,hok,?_,?_,hright,?_,?_⟩,b10,Nat.le_refl _,ak _ _,.inl ⟨rfl,rfl⟩⟩⟩,b19.size⟩
    ·exact(hT4.on b48).on b9
    ·exact(hBd.on b8).on b9
    ·exact((((hMk.is).on b6).on b7).on b8).on b9
    ·intro y hy;have:=List.findIdx?_eq_none_iff.1 hi y hy;have:=of_decide_eq_false this;omega
    ·have:=ly (ys:=[]) hm (by simp);simpa using this
def yT (w:World) (s:ar) (v:Value) (w':World):Prop:=Below w.heap.size w w'∧if s.right=true then(match du s with
 | .error q=>v= .tuple #[.pointer none,.int .i64 q.2.1,.int .i64 q.2.2]∧q.2.2≠0
 | .ok T=>∃p,v= .tuple #[.pointer (some ⟨p,0,none⟩),.int .i64 0,.int .i64 0]∧bw w' p s T∧w.heap.size≤p)else v= .tuple #[.pointer none,.int .i64 0,.int .i64 1]
theorem lh (w:World) (x:ce) (s:ar) (h:dw w x s):
  CP 31 #[x.v] w fun e w'=>∃v,e= .returned v∧yT w s v w':=by
 refine AN x.ranked x.s1.a x.s1.n x.s1.c x.s2.a x.s2.n x.s2.c x.s3.a x.s3.n x.s3.c x.s4.a x.s4.n x.s4.c x.s5.a x.s5.n x.s5.c w (yT w s) ?_;intro w1 hw1;have hb1:Below w.heap.size w w1:=by subst hw1;exact ag _ _
 have p1:w1.heap[w.heap.size]? =some (.cells x.cells dh (0,0)):=by subst hw1;exact ak _ _
 have h1:=h.on hb1;refine⟨_,_,_,_,_,_,_,_,_,_,_,_,_,_,_,_,dO p1,?_⟩;refine(AM x s w1 h1).mono ?_;rintro e w2 ⟨rfl,b2⟩;have hb2:=ae hb1 b2;refine⟨_,rfl,ac.mk (fun h0=>?_) fun h0=>?_⟩
 ·have h0:s.right=false:=by simpa using h0
  refine⟨hb2,?_⟩;rw [if_neg (by rw [h0];simp)]
 ·have h0:s.right=true:=by simpa using h0
  have p2:=ah b2 p1;refine⟨_,_,_,_,_,_,_,_,_,_,_,_,_,_,_,_,dO p2,?_⟩;refine(BI w2 x s (h.on hb2) h0).mono ?_;rintro e w3 ⟨v,rfl,b3,hp⟩;have hb3:=ae hb2 b3;cases hx:du s with
  |error q=>
   rw [hx]at hp;obtain⟨rfl,hq⟩:=hp;refine⟨_,_,_,_,rfl,hb3,?_⟩;rw [if_pos h0,hx];exact⟨rfl,hq⟩
  |ok T=>
   rw [hx]at hp;obtain⟨p,rfl,hV,hpl⟩:=hp;refine⟨_,_,_,_,rfl,hb3,?_⟩;rw [if_pos h0,hx];exact⟨p,rfl,hV,by have:=hb2.size;omega⟩
structure mZ (w:World) (v:Nat) (c:Array Value) (tp bp mp:Nat):Prop where
 blk:w.heap[v]? =some (.cells c dC (0,0))
 size:c.size=14
 c6:c[6]? =some (.pointer (some ⟨tp,0,none⟩))
 c7:c[7]? =some (.pointer (some ⟨bp,0,none⟩))
 c8:c[8]? =some (.pointer (some ⟨mp,0,none⟩))
theorem iN.vblk {w:World} {v:Nat} {s:ar} {T:List aP} {w0:World} {x:ce} {tp bp mp:Nat} {d:Int} {l:Sl} {uses:Int} (h:iN w v s T w0 x tp bp mp d l uses):mZ w v (ik x tp bp mp d l uses) tp bp mp:=⟨h.blk,rfl,rfl,rfl,rfl⟩
theorem mZ.on {w w':World} {v:Nat} {c:Array Value} {tp bp mp:Nat} (h:mZ w v c tp bp mp) (hb:Below w.heap.size w w'):mZ w' v c tp bp mp:=⟨ah hb h.blk,h.size,h.c6,h.c7,h.c8⟩
theorem lD (w:World) (v:Nat) {c:Array Value} (h:w.heap[v]? =some (.cells c dC (0,0))) (a b:Nat):w.cell? (((⟨v,0,none⟩:Addr).add a).add b)=c[a+b]? :=by rw [Addr.add_add];exact aj _ _ h _
theorem fY {w:World} {v:Nat} {c:Array Value} {tp bp mp:Nat} (h:mZ w v c tp bp mp):CP 78 #[.pointer (some ⟨v,0,none⟩)] w fun e w'=>e= .returned (.pointer (some ⟨tp,0,none⟩))∧w'=w:=by
 refine aL (AX (some ⟨v,0,none⟩) w) ?_;exact ac.no rfl (af.mk _ rfl ⟨_,by rw [lD w v h.blk];exact h.c6,rfl,rfl⟩)
theorem rH {w:World} {v:Nat} {c:Array Value} {tp bp mp:Nat} (h:mZ w v c tp bp mp):CP 201 #[.pointer (some ⟨v,0,none⟩)] w fun e w'=>e= .returned (.pointer (some ⟨bp,0,none⟩))∧w'=w:=by
 refine aL (yK (some ⟨v,0,none⟩) w) ?_;exact ac.no rfl (af.mk _ rfl ⟨_,by rw [lD w v h.blk];exact h.c7,rfl,rfl⟩)
theorem lg {w:World} {v:Nat} {c:Array Value} {tp bp mp:Nat} (h:mZ w v c tp bp mp):CP 120 #[.pointer (some ⟨v,0,none⟩)] w fun e w'=>e= .returned (.pointer (some ⟨mp,0,none⟩))∧w'=w:=by
 refine aL (xD (some ⟨v,0,none⟩) w) ?_;exact ac.no rfl (af.mk _ rfl ⟨_,by rw [lD w v h.blk];exact h.c8,rfl,rfl⟩)
theorem nv {w:World} {v:Nat} {c:Array Value} {tp bp mp:Nat} (h:mZ w v c tp bp mp) {T:List aP} (hT:di w tp T):CP 119 #[.pointer (some ⟨v,0,none⟩)] w fun e w'=>e= .returned (.int .i64 T.length)∧w'=w:=by
 refine aL (xp (some ⟨v,0,none⟩) w) ?_;refine(fY h).mono ?_;rintro e w1 ⟨rfl,hw⟩;subst hw;refine⟨_,rfl,(eX w1 tp T hT).mono ?_⟩;rintro e w2 ⟨rfl,hw⟩;subst hw;exact⟨_,rfl,rfl,rfl⟩
theorem cw.few {w:World} {s:ar} {T:List aP} {x:ce} {tp bp mp:Nat} (h:cw w s T x tp bp mp):s.specials.length≤1000000:=(iA h.right).2.2.1
def fM (s:ar) (T:List aP) (id:Int):Bool:=decide (id∈s.specials.map (·.1)∨bA T id)
theorem zK:∃i,Tryz.prog.info? bN=some i∧i.zero=some (.bool false)∧i.size=1∧i.bytes=1:=by
 have h:(Tryz.prog.info? bN).map (fun i=>(i.zero,i.size,i.bytes))=some (some (.bool false),1,1):=by kernel_rfl
 obtain⟨i,hi,he⟩:=Option.map_eq_some_iff.1 h;simp only [Prod.mk.injEq]at he;exact⟨i,hi,he.1,he.2.1,he.2.2⟩
theorem lE (w:World) (n:Nat) (hn:n≤1000000):(Instr.makeSlice 149 (.int .i64 n) (.int .i64 n)).run Tryz.prog w= .ok (.slice (some (nb w)) n n) (w.alloc (.cells (Array.replicate n (.bool false)) bN)):=by
 obtain⟨i,hi,hz,hs,hb⟩:=zK;have:=Go.run_make (P:=Tryz.prog) w 149 bN i (.bool false) (by kernel_rfl) hi hz .i64 .i64 (n:Int) (n:Int) (by omega) (Int.le_refl _) (by rw [hb];omega) (by omega);rw [this];congr 3;rw [hs];apply Array.ext
 ·rw [size_madeCells];simp
 ·intro j h1 h2;simp only [madeCells,Array.getElem_map,Array.getElem_range,Array.getElem_replicate];show(#[Value.bool false]:Array Value)[j%1]! =_;rw [Nat.mod_one];rfl
theorem dv (s:ar) (T:List aP):(eP s T).length=T.length:=by simp [eP]
theorem rZ (s:ar) (T:List aP) {i:Nat} (hi:i<T.length):(eP s T)[i]'(by rw [dv];exact hi)=gC s T i:=by simp [eP]
def fp (s:ar) (T:List aP) (i:Nat):List Bool:=(eP s T).take i++List.replicate (T.length-i) false
theorem sA (s:ar) (T:List aP) (i:Nat) (hi:i≤T.length):(fp s T i).length=T.length:=by
 simp [fp,dv];omega
theorem Au (s:ar) (T:List aP) (i:Nat) (hi:i<T.length):(fp s T i).set i (gC s T i)=fp s T (i+1):=by
 have hl:((eP s T).take i).length=i:=by simp [dv];omega
 have ht:(eP s T).take (i+1)=(eP s T).take i++ [gC s T i]:=by
  rw [List.take_add_one,List.getElem?_eq_getElem (by rw [dv];exact hi),rZ s T hi];rfl
 unfold fp;rw [List.set_append_right _ _ (by omega),hl,Nat.sub_self,ht,show T.length-i=(T.length- (i+1))+1 by omega,List.replicate_succ,List.set_cons_zero];simp
theorem Ed (w w0:World) (v:Nat) (c:Array Value) (tp bp mp:Nat) (h:mZ w v c tp bp mp) (s:ar) (T:List aP) (x:ce) (hp:cw w0 s T x tp bp mp) (h0:Below w0.heap.size w0 w) (hv:w0.heap.size≤v):
  CP 149 #[.pointer (some ⟨v,0,none⟩)] w fun e w'=>e= .returned (.tuple #[])∧∃l:Sl,w'.heap[v]? =some (.cells (c.setIfInBounds 12 l.v) dC (0,0))∧l.n=T.length∧w'.ownsRow w.heap.size bN 1 l.v l.n ((eP s T).flatMap dM)∧au v w w':=by
 refine aL (xQ (some ⟨v,0,none⟩) w) ?_;have hpn:=hp.on h0;refine(nv h hpn.tab).mono ?_;rintro e w1 ⟨rfl,hw⟩;subst hw;have hmost:=hp.ok.most;have hvl:v<w1.heap.size:=(Array.getElem?_eq_some_iff.1 h.blk).1;refine⟨_,rfl,some (nb w1),T.length,T.length,_,lE w1 T.length (by omega),?_⟩;have hb2:=ag w1 (.cells (Array.replicate T.length (.bool false)) bN);have hblk2:=ah hb2 h.blk;have hz2:(w1.alloc (.cells (Array.replicate T.length (Value.bool false)) bN)).heap.size=w1.heap.size+1:=av _ _;have hown2:(w1.alloc (.cells (Array.replicate T.length (.bool false)) bN)).ownsRow w1.heap.size bN 1 (.slice (some (nb w1)) T.length T.length) T.length ((fp s T 0).flatMap dM):=by
  have hf:(fp s T 0).flatMap dM=List.replicate T.length (.bool false):=by
   simp [fp,dM,List.flatMap_replicate]
  rw [hf];refine⟨by simp,.inr ⟨w1.heap.size,T.length,_,rfl,Nat.le_refl _,ak _ _,Nat.le_refl _,by unfold maxLen;omega,by simp,by simp⟩⟩
 refine af.mk _ rfl ⟨rfl,⟨_,by rw [lD _ v hblk2,Array.getElem?_eq_getElem (by rw [h.size];decide)]⟩,by rw [Addr.add_add];exact be hblk2,?_⟩;intro w3 hw3;rw [Addr.add_add]at hw3;have hblk3:w3.heap[v]? =some (.cells (c.setIfInBounds 12 (.slice (some (nb w1)) T.length T.length)) dC (0,0)):=by subst hw3;exact bL hblk2 _
 have ht3:au v w1 w3:=by
  refine(au.of_below hb2).trans ?_;subst hw3;exact⟨rfl,rfl,rfl,by rw [aU];exact Nat.le_refl _,fun k _ hk=>aq (by rw [ax];exact hk)⟩
 have hown3:w3.ownsRow w1.heap.size bN 1 (.slice (some (nb w1)) T.length T.length) T.length ((fp s T 0).flatMap dM):=by
  subst hw3;exact bB hown2 _ (by rw [ax];intro e;have:=Option.some.inj e;simp at this;omega)
 have hz3:w3.heap.size=w1.heap.size+1:=by subst hw3;rw [aU];exact hz2
 have g12:∀ {w':World},w'.heap[v]? =some (.cells (c.setIfInBounds 12 (.slice (some (nb w1)) T.length T.length)) dC (0,0))→w'.cell? (((⟨v,0,none⟩:Addr).add 9).add 3)=some (.slice (some (nb w1)) T.length T.length):=fun hh=>by
  rw [lD _ v hh,Array.getElem?_setIfInBounds_self_of_lt (by rw [h.size];decide)]
 have gk:∀ {w':World},w'.heap[v]? =some (.cells (c.setIfInBounds 12 (.slice (some (nb w1)) T.length T.length)) dC (0,0))→mZ w' v (c.setIfInBounds 12 (.slice (some (nb w1)) T.length T.length)) tp bp mp:=fun hh=>⟨hh,by simp [h.size],by rw [Array.getElem?_setIfInBounds_ne (by decide)];exact h.c6,by rw [Array.getElem?_setIfInBounds_ne (by decide)];exact h.c7,by rw [Array.getElem?_setIfInBounds_ne (by decide)];exact h.c8⟩;refine af.mk _ rfl ⟨_,_,_,g12 hblk3,?_⟩;intro I hI;have key:=aX (α:=World) T.length (fun i w'=>w'.heap[v]? =some (.cells (c.setIfInBounds 12 (.slice (some (nb w1)) T.length T.length)) dC (0,0))∧w'.ownsRow w1.heap.size bN 1 (.slice (some (nb w1)) T.length T.length) T.length ((fp s T i).flatMap dM)∧au v w1 w') (fun i w'=>I [.int .i64 (i:Int)] w') w3 ⟨hblk3,hown3,ht3⟩ ?_ ?_
 ·exact key
 ·rintro i hi ih w4 ⟨hblk4,hown4,ht4⟩;have hB4:Below w0.heap.size w0 w4:=h0.trans (ht4.below hv h0.size);have hp4:=hp.on hB4;have hin:bA T (i:Int):=⟨by omega,by omega⟩;refine hI _ _ (ac.yes (by simp;omega) (af.mk _ rfl ⟨_,by rw [lD _ v hblk4];exact(gk hblk4).c6,?_⟩));refine(iM w4 tp T hp4.tab (i:Int)).mono ?_;rintro e w5 ⟨rfl,hw⟩;subst hw;rw [if_pos hin];have hshort:(bk T (i:Int)).length≤64:=by
   obtain⟨y,hy,hyb⟩:=eR hin;rw [hyb];exact hp.ok.short y (List.mem_of_getElem? hy)
  refine⟨_,_,rfl,af.mk _ rfl ⟨_,by rw [lD _ v hblk4];exact(gk hblk4).c6,?_⟩⟩;refine(pr w5 tp T hp4.tab hp.ok.sound hp.ok.pos (bk T (i:Int)) (by omega)).mono ?_;rintro e w6 ⟨A,N,C,rfl,hown6,hN,hB6⟩;refine⟨A,N,C,rfl,?_⟩;intro w7 hw7;have hB7:Below w5.heap.size w5 w7:=by subst hw7;exact hB6.drew
  have hblk7:=ah hB7 hblk4;have hown7:=aE hown4 hB7;have henc7:w7.ownsRow w5.heap.size bf 1 (.slice A N C) N ((fw T (bk T (i:Int))).flatMap aQ):=by subst hw7;exact kE hown6
  have ht7:=ht4.trans (au.of_below hB7);have fin:∀(b:Bool) (w8:World),b=gC s T i→Below w7.heap.size w7 w8→
    af (some (nb w1)) (fun pa_20=>
         (0:Int)≤(i:Int)∧(i:Int) < ((T.length:Nat):Int)∧
         (Value.bool b).oneCell'=true∧(∃u,w8.cell? (pa_20.add ((i:Int).toNat*1))=some u)∧w8.frozen? (pa_20.add ((i:Int).toNat*1))=false∧
         ∀w9:World,w9=(w8.setCell (pa_20.add ((i:Int).toNat*1)) (Value.bool b))→
         Ar .i64 ((i:Int)+1) (fun n_21=>I [Value.int .i64 n_21] w9)):=by
   intro b w8 hb hB8;have hblk8:=ah hB8 hblk7;have hown8:=aE hown7 hB8;have hget:(fp s T i)[i]? =some false:=by
    unfold fp;have hl:((eP s T).take i).length=i:=by simp [dv];omega
    rw [List.getElem?_append_right (by omega),hl,Nat.sub_self,List.getElem?_replicate,if_pos (by omega)]
   obtain⟨u,f,k⟩:=fP (l:=⟨some (nb w1),T.length,T.length⟩) (enc:=dM) (sz:=1) (fun _=>rfl) (by decide) hown8 (sA s T i (by omega)).symm rfl hget (k:=0) (by decide) b (.bool b) rfl;rw [ay]at u f k;refine af.mk _ rfl ⟨by omega,by omega,rfl,u,f,?_⟩;intro w9 hw9;obtain⟨r9,s9,z9,b9⟩:=k w9 hw9;refine Ar.ok64 (by omega) (by omega) (ih w9 ⟨?_,?_,?_⟩)
   ·rw [s9 v (by intro e;have:=Option.some.inj e;simp at this;omega)];exact hblk8
   ·rw [hb,Au s T i hi]at r9;exact r9
   ·have t8:=ht7.trans (au.of_below hB8);have hbb:=b9 w1.heap.size w1 (Nat.le_refl _);have ob:(Value.slice (some (nb w1)) T.length T.length).ownBlock=some w1.heap.size:=rfl;refine⟨?_,?_,?_,by rw [z9];exact t8.size,fun j hj hjv=>?_⟩
    ·subst hw9;exact t8.os
    ·subst hw9;exact t8.tape
    ·subst hw9;exact t8.output
    ·rw [s9 j (by rw [show(Sl.v ⟨some (nb w1),T.length,T.length⟩).ownBlock=some w1.heap.size from rfl];intro e;have:=Option.some.inj e;omega),t8.block j hj hjv]
  refine af.mk _ rfl ⟨_,_,_,g12 hblk7,ac.mk (fun h1=>?_) fun h1=>?_⟩
  ·have h1:N=1:=by have:((N:Nat):Int)=1:=by simpa using h1
                   omega
   rw [h1]at hN
   match hx:fw T (bk T (i:Int))with
   | []=>rw [hx]at hN;simp at hN
   |y::z::t=>rw [hx]at hN;simp at hN
   | [y]=>
    rw [hx]at henc7;obtain⟨a,ha,hc⟩:=kn (l:=⟨A,N,C⟩) (enc:=aQ) (sz:=1) (fun _=>rfl) (by decide) henc7 (i:=0) (x:=y) rfl;have hc0:=hc 0 _ rfl;rw [ay]at hc0;refine af.mk a ha ⟨Int.le_refl _,by omega,y,hc0,ac.mk (fun h2=>?_) fun h2=>?_⟩
    ·have h2:y=(i:Int):=by simpa using h2
     refine af.mk _ rfl ⟨_,by rw [lD _ v hblk7];exact(gk hblk7).c7,?_⟩;refine(AG w7 bp s.classes s.joins (hp4.on hB7).bound (qG hp.right).1 (bk T (i:Int)) (by omega)).mono ?_;rintro e w8 ⟨rfl,hB8⟩;refine⟨_,rfl,⟨g12 (ah hB8 hblk7),trivial⟩,fin _ w8 ?_ hB8⟩;unfold gC;rw [hx,h2];simp
    ·have h2:y≠(i:Int):=by simpa using h2
     refine fin false w7 ?_ (Below.refl _ _);unfold gC;rw [hx];simp [h2]
  ·have h1:N≠1:=by intro e;rw [e]at h1;simp at h1
   refine fin false w7 ?_ (Below.refl _ _);unfold gC;rw [decide_eq_false (fun e=>by rw [e]at hN;simp at hN;exact h1 hN)];rfl
 ·rintro w4 ⟨hblk4,hown4,ht4⟩;refine hI _ _ (ac.no (by simp) ⟨rfl,⟨some (nb w1),T.length,T.length⟩,hblk4,rfl,?_,ht4⟩);have:fp s T T.length=eP s T:=by
   unfold fp;rw [Nat.sub_self,List.replicate_zero,List.append_nil,List.take_of_length_le (by rw [dv];exact Nat.le_refl _)]
  rw [this]at hown4;exact hown4
theorem mQ (w:World):(callFunc 261 #[]).run Tryz.prog w= .ok (.value (.tuple #[])) w:=run_call_mark0 Tryz.func261 (by kernel_rfl) (by kernel_rfl) (by kernel_rfl) .disable (by kernel_rfl) w
theorem oF (w:World):(callFunc 263 #[]).run Tryz.prog w= .ok (.value (.tuple #[])) w:=run_call_mark0 Tryz.func263 (by kernel_rfl) (by kernel_rfl) (by kernel_rfl) .enable (by kernel_rfl) w
theorem uS (a:Addr) (w:World):(callFunc 264 #[.pointer (some a)]).run Tryz.prog w= .ok (.value (.tuple #[])) w:=run_call_marked Tryz.func264 (by kernel_rfl) (by kernel_rfl) (by kernel_rfl) .acquire (by kernel_rfl) a w
theorem mw (a:Addr) (w:World):(callFunc 266 #[.pointer (some a)]).run Tryz.prog w= .ok (.value (.tuple #[])) w:=run_call_marked Tryz.func266 (by kernel_rfl) (by kernel_rfl) (by kernel_rfl) .releaseMerge (by kernel_rfl) a w
theorem qV (a:Addr) (n:Int) (w:World) (hc:w.cell? a=some (.int .i64 n)) (hz:w.frozen? a=false):
  CP 147 #[.pointer (some a),.int .i64 1] w fun e w'=>∃m:Int,e= .returned (.int .i64 m)∧w'=w.setCell a (.int .i64 m):=by
 have hadd:=run_call_add (P:=Tryz.prog) Tryz.func196 (by kernel_rfl) (by kernel_rfl) (by kernel_rfl) .i64 (by kernel_rfl) (y:=1) (s:=IntKind.i64.wrap (n+1)) hc hz (by simp [go_sem])
 go_enter Tryz.func147,Tryz.ntmps147
 go_wp2
 go_ret
 exact⟨_,rfl,rfl⟩
theorem mn (a:Addr) (x:Value) (u:FrameMode) (w:World) (hc:w.cell? a=some x) (hz:w.frozen? a=false):
  CallsD Tryz.prog 207 #[.pointer (some a),.bool true] u w fun e u' w'=>u'=u∧(e= .returned (.tuple #[])∧w'=w.drew.setCell a (.int .u32 1)):=by
 have hc':w.drew.cell? a=some x:=by go_simp
 have hz':w.drew.frozen? a=false:=by go_simp
 have hst:=run_call_store (P:=Tryz.prog) Tryz.func246 (by kernel_rfl) (by kernel_rfl) (by kernel_rfl) (by kernel_rfl) (k:=.u32) (y:=1) hc' hz'
 go_enter_d Tryz.func207,Tryz.ntmps207
 go_wp2
 go_region_calls
 all_goals (go_end0;exact⟨rfl,rfl⟩)
theorem kd (a:Addr) (u:FrameMode) (w:World) (hc:w.cell? a=some (.int .i32 1)) (hz:w.frozen? a=false):
  CallsD Tryz.prog 206 #[.pointer (some a)] u w fun e u' w'=>u'=u∧(e= .returned (.tuple #[])∧w'=w.setCell a (.int .i32 0)):=by
 have hd:=mQ;have he:=oF;have hr:=mw;have hadd:=run_call_add (P:=Tryz.prog) Tryz.func267 (by kernel_rfl) (by kernel_rfl) (by kernel_rfl) .i32 (by kernel_rfl) (y:= -1) (s:=0) hc hz (by simp [go_sem];rfl);have hcv:=run_convert_to_unsafe (P:=Tryz.prog) (src:=366) (dst:=370) Tryz.underlying366 Tryz.underlying370 (by kernel_rfl) hc
 go_enter_d Tryz.func206,Tryz.ntmps206
 go_wp2
 go_end0
 go_wp2
 go_end0
 exact⟨rfl,rfl⟩
theorem ow (a:Addr) (w:World) (hc:w.cell? a=some (.int .i32 0)) (hz:w.frozen? a=false):
  CP 205 #[.pointer (some a)] w fun e w'=>e= .returned (.tuple #[])∧w'=w.setCell a (.int .i32 1):=by
 have hd:=mQ;have he:=oF;have ha:=uS;have hcas:=run_call_cas_hit (P:=Tryz.prog) Tryz.func262 (by kernel_rfl) (by kernel_rfl) (by kernel_rfl) .i32 (by kernel_rfl) (y:=1) hc hz;have hc':(w.setCell a (.int .i32 1)).cell? a=some (.int .i32 1):=World.cell?_setCell_same w a _ hc;have hcv:=run_convert_to_unsafe (P:=Tryz.prog) (src:=366) (dst:=370) Tryz.underlying366 Tryz.underlying370 (by kernel_rfl) hc'
 go_enter Tryz.func205,Tryz.ntmps205
 go_wp2
 first |go_end0 |(simp only [Exit.inBlock,Exit.then];refine bodyPost_ret (results_none rfl _ _ _) rfl ?_) |refine bodyPost_ret (results_none rfl _ _ _) rfl ?_
 go_wp2
 go_end0
 exact⟨rfl,rfl⟩
set_option maxHeartbeats 1600000 in
theorem D0 (v:Nat) (w:World) (K:World→Prop)
  (hfind:CP 149 #[.pointer (some ⟨v,0,none⟩)] (w.setCell ⟨v,10,none⟩ (.int .i32 1)) fun e w'=>e= .returned (.tuple #[])∧K w')
  (hK:∀w',K w'→w'.cell? ⟨v,9,none⟩=some (.int .u32 0)∧w'.frozen? ⟨v,9,none⟩=false∧w'.cell? ⟨v,10,none⟩=some (.int .i32 1)∧w'.frozen? ⟨v,10,none⟩=false)
  (h0:w.cell? ⟨v,9,none⟩=some (.int .u32 0)) (h1:w.cell? ⟨v,10,none⟩=some (.int .i32 0)) (f0:w.frozen? ⟨v,9,none⟩=false) (f1:w.frozen? ⟨v,10,none⟩=false):
  CP 155 #[.pointer (some ⟨v,9,none⟩),.func (.func 149) #[.pointer (some ⟨v,0,none⟩)] #[]] w fun e w'=>e= .returned (.tuple #[])∧∃w2,K w2∧w'=(w2.drew.setCell ⟨v,9,none⟩ (.int .u32 1)).setCell ⟨v,10,none⟩ (.int .i32 0):=by
 have hl:=run_call_load (P:=Tryz.prog) Tryz.func204 (by kernel_rfl) (by kernel_rfl) (by kernel_rfl) .u32 (by kernel_rfl) (w:=w.setCell ⟨v,10,none⟩ (.int .i32 1)) (a:=⟨v,9,none⟩) (x:=0) ((World.cell?_setCell_other _ ⟨v,10,none⟩ ⟨v,9,none⟩ _ (by simp)).trans h0);have hnot:∀(x:Bool) (w:World),(Op.unary .not (.bool x)).run Tryz.prog w= .ok (.bool (!x)) w:=fun _ _=>rfl
 go_enter_defers Tryz.func155,Tryz.ntmps155
 go_wp2_with (go_at_call 205;refine(ow ⟨v,10,none⟩ _ (by go_simp) (by go_simp)).mono ?_;rintro e w' ⟨rfl,rfl⟩)
 go_wp2_with (first |(go_at_call 149;refine hfind.mono ?_;rintro e w' ⟨rfl,hk⟩) |go_in)
 obtain⟨k0,k1,k2,k3⟩:=hK _ hk;refine leaves_cons (f:=207) (args:=#[.pointer (some ⟨v,9,none⟩),.bool true]) (by simp) (by simp [go_sem]) ?_;refine(mn ⟨v,9,none⟩ (.int .u32 0) .returning _ k0 k1).mono ?_;rintro e u' w'' ⟨rfl,rfl,rfl⟩;refine leaves_cons (f:=206) (args:=#[.pointer (some ⟨v,10,none⟩)]) (by simp [settle]) (by simp [go_sem]) ?_;refine(kd ⟨v,10,none⟩ _ _ ?_ ?_).mono ?_
 ·refine(World.cell?_setCell_other _ ⟨v,9,none⟩ ⟨v,10,none⟩ _ (by simp)).trans ?_;rw [World.cell?_drew];exact k2
 ·simp [k3]
 rintro e u' w'' ⟨rfl,rfl,rfl⟩;simp [Leaves,settle,results,Tryz.results155];exact⟨_,hk,rfl⟩
set_option maxHeartbeats 1600000 in
theorem Hn (v:Nat) (w:World) (K:World→Prop)
  (hfind:CP 149 #[.pointer (some ⟨v,0,none⟩)] (w.setCell ⟨v,10,none⟩ (.int .i32 1)) fun e w'=>e= .returned (.tuple #[])∧K w')
  (hK:∀w',K w'→w'.cell? ⟨v,9,none⟩=some (.int .u32 0)∧w'.frozen? ⟨v,9,none⟩=false∧w'.cell? ⟨v,10,none⟩=some (.int .i32 1)∧w'.frozen? ⟨v,10,none⟩=false)
  (h0:w.cell? ⟨v,9,none⟩=some (.int .u32 0)) (h1:w.cell? ⟨v,10,none⟩=some (.int .i32 0)) (f0:w.frozen? ⟨v,9,none⟩=false) (f1:w.frozen? ⟨v,10,none⟩=false):
  CP 83 #[.pointer (some ⟨v,9,none⟩),.func (.func 149) #[.pointer (some ⟨v,0,none⟩)] #[]] w fun e w'=>e= .returned (.tuple #[])∧∃w2,K w2∧w'=(w2.drew.setCell ⟨v,9,none⟩ (.int .u32 1)).setCell ⟨v,10,none⟩ (.int .i32 0):=by
 have hl:=run_call_load (P:=Tryz.prog) Tryz.func204 (by kernel_rfl) (by kernel_rfl) (by kernel_rfl) .u32 (by kernel_rfl) h0;have hnot:∀(x:Bool) (w:World),(Op.unary .not (.bool x)).run Tryz.prog w= .ok (.bool (!x)) w:=fun _ _=>rfl
 go_enter Tryz.func83,Tryz.ntmps83
 go_wp2_with (first |(go_at_call 155;refine(D0 v w K hfind hK h0 h1 f0 f1).mono ?_;rintro e w' ⟨rfl,hk⟩) |(go_at_call 154;go_in))
 go_end0
 exact⟨rfl,hk⟩
theorem nX (a:Addr) (d:Int) (hd:¬d=0) (fv:Value) (w:World) (h0:w.cell? a=some (.int .u32 d)):
  CP 83 #[.pointer (some a),fv] w fun e w'=>e= .returned (.tuple #[])∧w'=w:=by
 have hl:=run_call_load (P:=Tryz.prog) Tryz.func204 (by kernel_rfl) (by kernel_rfl) (by kernel_rfl) .u32 (by kernel_rfl) h0;have hnot:∀(x:Bool) (w:World),(Op.unary .not (.bool x)).run Tryz.prog w= .ok (.bool (!x)) w:=fun _ _=>rfl;have hd':(d != 0)=true:=by simp [hd]
 go_enter Tryz.func83,Tryz.ntmps83
 go_wp2
 go_end0
 exact⟨rfl,rfl⟩
theorem bG {w:World} {B B':Nat} {e:TypeId} {sz n:Nat} {v:Value} {xs:List Value} (h:w.ownsRow B e sz v n xs) (hB:B'≤B):w.ownsRow B' e sz v n xs:=by
 refine⟨h.1,h.2.imp id ?_⟩;rintro⟨g,cap,cur,h1,h2,h3⟩;exact⟨g,cap,cur,h1,Nat.le_trans hB h2,h3⟩
def gw (s:ar) (T:List aP) (id:Int):Bool:=decide (id∈s.specials.map (·.1))||(decide (bA T id)&&gC s T id.toNat)
theorem Ii {w w0:World} {v:Nat} {c:Array Value} (h:w.heap[v]? =some (.cells c dC (0,0))) (hb:Below w0.heap.size w0 w) (hv:w0.heap.size≤v) (j:Nat) (u:Value):
  (w.setCell ⟨v,j,none⟩ u).heap[v]? =some (.cells (c.setIfInBounds j u) dC (0,0))∧Below w0.heap.size w0 (w.setCell ⟨v,j,none⟩ u)∧au v w (w.setCell ⟨v,j,none⟩ u):=
 ⟨bD h u,hb.setCell (p:=⟨v,j,none⟩) hv u,⟨rfl,rfl,rfl,by rw [aU];exact Nat.le_refl _,fun k _ hk=>aq hk⟩⟩
theorem lI (w:World) (v:Nat) (s:ar) (T:List aP) (h:bw w v s T) (id:Int):
  CP 73 #[.pointer (some ⟨v,0,none⟩),.int .i64 id] w fun e w'=>e= .returned (.bool (gw s T id))∧bw w' v s T∧au v w w':=by
 obtain⟨w0,x,tp,bp,mp,d,l,uses,hV⟩:=h;refine aR (An (some ⟨v,0,none⟩) id w (fun u w'=>u= .bool (gw s T id)∧bw w' v s T∧au v w w') ?_) (by rintro v w' ⟨rfl,h⟩;exact⟨rfl,h⟩);refine ac.no rfl (af.mk _ rfl ?_);have e13:(⟨v,0,none⟩:Addr).add 13=⟨v,13,none⟩:=by rw [aC,Nat.zero_add]
 have e9:((⟨v,0,none⟩:Addr).add 9).add 0=⟨v,9,none⟩:=by rw [aC,aC]
 have at_:∀ {w':World} {c:Array Value},w'.heap[v]? =some (.cells c dC (0,0))→∀j,w'.cell? ⟨v,j,none⟩=c[j]? :=fun h j=>aM h;have fz:∀ {w':World} {c:Array Value},w'.heap[v]? =some (.cells c dC (0,0))→∀j,w'.frozen? ⟨v,j,none⟩=false:=fun h j=>bo h;rw [e13];refine(qV ⟨v,13,none⟩ uses w (at_ hV.blk 13) (fz hV.blk 13)).mono ?_;rintro e w1 ⟨m,rfl,hw1⟩;obtain⟨b1,o1,t1⟩:=Ii hV.blk hV.below hV.lt 13 (.int .i64 m);rw [←hw1]at b1 o1 t1;have b1:w1.heap[v]? =some (.cells (ik x tp bp mp d l m) dC (0,0)):=b1;have hV1:iN w1 v s T w0 x tp bp mp d l m:=⟨hV.parts,o1,hV.lt,b1,hV.once.imp (fun h=>h) fun⟨p,q,r⟩=>⟨p,q,t1.own r fun e=>by have:=(b_ r _ e).1;omega⟩⟩;refine⟨m,rfl,af.mk _ rfl ⟨_,by rw [lD _ v b1];rfl,?_⟩⟩;have hp1:=hV1.now;refine(lx w1 mp s.specials hp1.marks hp1.few id).mono ?_;rintro e w2 ⟨rfl,hw⟩;subst hw;have hm:(uK s.specials id).isSome=true↔id∈s.specials.map (·.1):=pS;refine⟨_,_,rfl,ac.mk (fun h0=>?_) fun h0=>?_⟩
 ·refine⟨?_,⟨w0,x,tp,bp,mp,d,l,m,hV1⟩,t1⟩;rw [gw,decide_eq_true (hm.1 h0)];rfl
 have hnm:id∉s.specials.map (·.1):=fun h=>by rw [hm.2 h]at h0;cases h0
 refine af.mk _ rfl ?_;rw [e9];have rest:∀(w3:World) (l3:Sl),iN w3 v s T w0 x tp bp mp 1 l3 m→au v w w3→
   ac (decide ((id:Int)≥0))
     (af (some ⟨v,0,none⟩) (fun pa_3=>
      ∃lA:Option Addr,∃lN:Nat,∃lC:Nat,w3.cell? ((pa_3.add 9).add 3)=some (Value.slice lA lN lC)∧
      ac (decide ((id:Int) < ((lN:Nat):Int)))
       (af (some ⟨v,0,none⟩) (fun pa_4=>
        ∃lA_5:Option Addr,∃lN_6:Nat,∃lC_7:Nat,w3.cell? ((pa_4.add 9).add 3)=some (Value.slice lA_5 lN_6 lC_7)∧
        af lA_5 (fun pa_8=>
        (0:Int)≤id∧id< ((lN_6:Nat):Int)∧
        ∃b:Bool,w3.cell? (pa_8.add ((id:Int).toNat*1))=some (Value.bool b)∧
        (Value.bool b= .bool (gw s T id)∧bw w3 v s T∧au v w w3))))
       (Value.bool false= .bool (gw s T id)∧bw w3 v s T∧au v w w3)))
     (Value.bool false= .bool (gw s T id)∧bw w3 v s T∧au v w w3):=by
  intro w3 l3 hV3 t3;have hVI:bw w3 v s T:=⟨w0,x,tp,bp,mp,1,l3,m,hV3⟩;obtain⟨hln,hown⟩:l3.n=T.length∧w3.ownsRow (v+1) bN 1 l3.v l3.n ((eP s T).flatMap dM):=by
   rcases hV3.once with⟨h,_⟩ |⟨_,h1,h2⟩
   ·cases h
   ·exact⟨h1,h2⟩
  have off:¬bA T id→(Value.bool false= .bool (gw s T id)∧bw w3 v s T∧au v w w3):=fun hn=>⟨by rw [gw,decide_eq_false hnm,decide_eq_false hn];rfl,hVI,t3⟩;have c12:w3.cell? (((⟨v,0,none⟩:Addr).add 9).add 3)=some (.slice l3.a l3.n l3.c):=by rw [lD _ v hV3.blk];rfl
  refine ac.mk (fun h1=>?_) fun h1=>off fun h=>?_
  ·have h1:=of_decide_eq_true h1;refine af.mk _ rfl ⟨_,_,_,c12,ac.mk (fun h2=>?_) fun h2=>off fun h=>?_⟩
   ·have h2:=of_decide_eq_true h2;have hin:bA T id:=⟨h1,by omega⟩;have hlt:id.toNat<T.length:=by omega
    obtain⟨a,ha,hc⟩:=kn (enc:=dM) (sz:=1) (fun _=>rfl) (by decide) hown (i:=id.toNat) (x:=gC s T id.toNat) (by rw [List.getElem?_eq_getElem (by rw [dv];exact hlt),rZ s T hlt]);have hc0:=hc 0 _ rfl;rw [ay]at hc0;refine af.mk _ rfl ⟨_,_,_,c12,af.mk a ha ⟨h1,by omega,_,hc0,?_,hVI,t3⟩⟩;rw [gw,decide_eq_false hnm,decide_eq_true hin];simp
   ·have h2:=of_decide_eq_false h2;have:=h.2;omega
  ·have h1:=of_decide_eq_false h1;have:=h.1;omega
 rcases hV1.once with⟨rfl,rfl⟩ |⟨rfl,hln,hown⟩
 ·-- for the first time
  obtain⟨b2,o2,t2⟩:=Ii b1 o1 hV.lt 10 (.int .i32 1);have hvb:mZ (w2.setCell ⟨v,10,none⟩ (.int .i32 1)) v ((ik x tp bp mp 0 ⟨none,0,0⟩ m).setIfInBounds 10 (.int .i32 1)) tp bp mp:=⟨b2,rfl,rfl,rfl,rfl⟩;have hz2:(w2.setCell ⟨v,10,none⟩ (.int .i32 1)).heap.size=w2.heap.size:=aU _ _ _;have hvl:v<w2.heap.size:=(Array.getElem?_eq_some_iff.1 b1).1;refine(Hn v w2 (fun w'=>∃l:Sl,w'.heap[v]? =some (.cells (((ik x tp bp mp 0 ⟨none,0,0⟩ m).setIfInBounds 10 (.int .i32 1)).setIfInBounds 12 l.v) dC (0,0))∧l.n=T.length∧w'.ownsRow (w2.setCell ⟨v,10,none⟩ (.int .i32 1)).heap.size bN 1 l.v l.n ((eP s T).flatMap dM)∧au v (w2.setCell ⟨v,10,none⟩ (.int .i32 1)) w') (Ed _ w0 v _ tp bp mp hvb s T x hV.parts o2 hV.lt) ?_ (at_ b1 9) (at_ b1 10) (fz b1 9) (fz b1 10)).mono ?_
  ·rintro w' ⟨l',hb',_⟩;exact⟨at_ hb' 9,fz hb' 9,at_ hb' 10,fz hb' 10⟩
  ·rintro e w3 ⟨rfl,wf,⟨l',hbf,hlf,hof,htf⟩,hw3⟩;refine⟨rfl,?_⟩;have of:Below w0.heap.size w0 wf:=o2.trans (htf.below hV.lt o2.size);have hbd:wf.drew.heap[v]? =some (.cells (((ik x tp bp mp 0 ⟨none,0,0⟩ m).setIfInBounds 10 (.int .i32 1)).setIfInBounds 12 l'.v) dC (0,0)):=hbf;obtain⟨b4,o4,t4⟩:=Ii hbd of.drew hV.lt 9 (.int .u32 1);obtain⟨b5,o5,t5⟩:=Ii b4 o4 hV.lt 10 (.int .i32 0);rw [←hw3]at b5 o5 t5;have tt:au v wf w3:=((au.of_below (aO wf)).trans t4).trans t5;have hne:l'.v.ownBlock≠some v:=fun e=>by have:=(b_ hof _ e).1;omega
   refine rest w3 l' ⟨hV.parts,o5,hV.lt,b5,.inr ⟨rfl,hlf,bG (tt.own hof hne) (by omega)⟩⟩ (((t1.trans t2).trans htf).trans tt)
 ·-- it was done
  refine(nX ⟨v,9,none⟩ 1 (by decide) _ w2 (at_ b1 9)).mono ?_;rintro e w3 ⟨rfl,hw⟩;subst hw;exact⟨rfl,rest w3 l hV1 t1⟩
end Go.Proofs.YtdlcfegnaphclaaGreat.Eng
