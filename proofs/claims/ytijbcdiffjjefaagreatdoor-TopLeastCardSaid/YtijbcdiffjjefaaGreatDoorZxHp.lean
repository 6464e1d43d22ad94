/- The heap, walked by the engine. -/
import Derived.Test.YtijbcdiffjjefaaGreatDoorZxMk
set_option linter.unusedVariables false
set_option linter.unusedSimpArgs false
set_option maxRecDepth 100000
namespace Go.Proofs.YtijbcdiffjjefaaGreatDoor.Eng
open Go Go.RowKit
theorem sG {α:Type} {enc:α→List Value} {sz:Nat} (hsz:∀x,(enc x).length=sz) (m:α) (rest:List Value):∀(xs:List α) (i:Nat),i<xs.length→ip (xs.flatMap enc++rest) (i*sz) (enc m)=(xs.set i m).flatMap enc++rest
 | [],i,h=>absurd h (Nat.not_lt_zero i)
 |x::t,0,h=>by
  simp only [ip,Nat.zero_mul,List.take_zero,List.nil_append,Nat.zero_add,List.flatMap_cons,List.set_cons_zero,List.append_assoc];rw [hsz, ←hsz x,List.drop_left]
 |x::t,i+1,h=>by
  have ih:=sG hsz m rest t i (by simpa using h);simp only [ip,List.flatMap_cons,List.set_cons_succ,List.append_assoc]at ih⊢;rw [←ih];have e:(i+1)*sz=(enc x).length+i*sz:=by rw [hsz,Nat.add_mul,Nat.one_mul,Nat.add_comm]
  rw [e,List.take_length_add_append,Nat.add_assoc,List.drop_length_add_append,List.append_assoc]
theorem bf {b:Nat} {e:TypeId} {c:Array Value} {w2:World} {k:World→Prop} (h:w2.heap[b]? =some (.cells c e (0,0))) (vs:List Value) (hl:c.size=vs.length) (h1:∀v∈vs,v.oneCell'=true)
  (hk:∀w',w'.heap[b]? =some (.cells vs.toArray e (0,0))→(∀j,j≠b→w'.heap[j]? =w2.heap[j]?)→w'.heap.size=w2.heap.size→(∀B w0,B≤b→Below B w0 w2→Below B w0 w')→k w'):ax w2 ⟨b,0,none⟩ k vs 0:=by
 refine eK vs 0 w2 c 0 h (by omega) h1 fun w' h' hs hz hB=>hk w' ?_ hs hz hB;rw [h'];congr 2;simp [ip, ←hl]
theorem vA {w:World} {B:Nat} {e:TypeId} {sz:Nat} {l:Sl} {α:Type} {enc:α→List Value} {xs:List α} {k:World→Prop} (hsz:∀x,(enc x).length=sz) (h0:0<sz) (h1:∀x,∀u∈enc x,u.oneCell'=true) (h:w.ownsRow B e sz l.v l.n (xs.flatMap enc)) (hn:l.n=xs.length) {a:Addr} (ha:l.a=some a) (i:Nat) (hi:i<xs.length) (m:α)
  (hk:∀w',w'.ownsRow B e sz l.v l.n ((xs.set i m).flatMap enc)→(∀j,l.v.ownBlock≠some j→w'.heap[j]? =w.heap[j]?)→w'.heap.size=w.heap.size→(∀B0 w0,B0≤B→Below B0 w0 w→Below B0 w0 w')→k w'):ax w (a.add (i*sz)) k (enc m) 0:=by
 rcases h.2 with⟨hv,_⟩ |⟨g,cap,cur,hv,hb,hg,hc,hm,hz,ht⟩
 ·obtain⟨la,ln,lc⟩:=l;cases hv;cases ha
 ·obtain⟨la,ln,lc⟩:=l;cases hv;cases ha;simp only at hn;change ln≤lc at hc;change cur.size=lc*sz at hz;change cur.toList.take (ln*sz)=_ at ht;have hflat:(xs.flatMap enc).length=xs.length*sz:=bY hsz xs;have hle:(i+1)*sz≤xs.length*sz:=Nat.mul_le_mul_right sz hi;have hle2:xs.length*sz≤lc*sz:=Nat.mul_le_mul_right sz (by omega);rw [Nat.add_mul,Nat.one_mul]at hle;rw [aB,Nat.zero_add];refine eK (enc m) 0 w cur (i*sz) hg (by rw [hsz];omega) (h1 m) fun w' h' hs hz' hB=>hk w' ⟨?_,.inr ⟨g,lc,_,rfl,hb,h',hc,hm,?_,?_⟩⟩ (fun j hj=>hs j fun e=>hj (by rw [e];rfl)) hz' (fun B0 w0 h0=>hB B0 w0 (by omega))
  ·show((xs.set i m).flatMap enc).length=ln*sz;rw [bY hsz,List.length_set,hn]
  ·have:cur.toList.length=lc*sz:=by rw [Array.length_toList];exact hz
   simp only [ip,List.size_toArray,List.length_append,List.length_take,List.length_drop,hsz];omega
  ·have hsplit:cur.toList=xs.flatMap enc++cur.toList.drop (ln*sz):=by rw [←ht];exact(List.take_append_drop _ _).symm
   rw [Nat.add_zero,hsplit,sG hsz m _ xs i hi];show List.take (ln*sz) _=_;rw [List.take_left' (by rw [bY hsz,List.length_set,hn])]
theorem F3 {w:World} {B:Nat} {e:TypeId} {sz:Nat} {l:Sl} {α:Type} {enc:α→List Value} {xs:List α} (hsz:∀x,(enc x).length=sz) (h:w.ownsRow B e sz l.v l.n (xs.flatMap enc)) (hn:l.n=xs.length) (n:Nat) (hle:n≤xs.length):
  w.ownsRow B e sz (Value.slice l.a n l.c) n ((xs.take n).flatMap enc):=by
 rcases h.2 with⟨hv,_⟩ |⟨g,cap,cur,hv,hb,hg,hc,hm,hz,ht⟩
 ·obtain⟨la,ln,lc⟩:=l;cases hv;simp only at hn;have:xs= []:=List.eq_nil_of_length_eq_zero hn.symm;subst this;have:n=0:=by simpa using hle
  subst this;exact cO _ _ _ _
 ·obtain⟨la,ln,lc⟩:=l;cases hv;simp only at hn;change ln≤lc at hc;change cur.size=lc*sz at hz;change cur.toList.take (ln*sz)=_ at ht;refine⟨by rw [bY hsz,List.length_take,Nat.min_eq_left hle],.inr ⟨g,lc,cur,rfl,hb,hg,by omega,hm,hz,?_⟩⟩;have h2:(xs.take n).flatMap enc=(xs.flatMap enc).take (n*sz):=by
   have e:xs.flatMap enc=(xs.take n).flatMap enc++(xs.drop n).flatMap enc:=by rw [←List.flatMap_append,List.take_append_drop]
   rw [e,List.take_left' (by rw [bY hsz,List.length_take,Nat.min_eq_left hle])]
  have hle2:n*sz≤ln*sz:=Nat.mul_le_mul_right sz (by omega);rw [h2, ←ht,List.take_take,Nat.min_eq_left hle2]
structure dG (B:Nat) (w w':World) (p:Nat) (l l':Sl):Prop where
 keep:∀k,k<w.heap.size→k≠p→l.v.ownBlock≠some k→w'.heap[k]? =w.heap[k]?
 new:∀k,l'.v.ownBlock=some k→l.v.ownBlock=some k∨w.heap.size≤k
 size:w.heap.size≤w'.heap.size
 below:Below B w w'
theorem dG.of_below {B:Nat} {w w':World} (p:Nat) (l:Sl) (h:Below w.heap.size w w') (hB:B≤w.heap.size):dG B w w' p l l:=⟨fun k hk _ _=>h.block k hk,fun k hk=>.inl hk,h.size,h.mono hB⟩
theorem dG.trans {B:Nat} {w w' w'':World} {p:Nat} {l l' l'':Sl} (h:dG B w w' p l l') (h':dG B w' w'' p l' l''):dG B w w'' p l l'':=by
 refine⟨fun k hk hp hl=>?_,fun k hk=>?_,Nat.le_trans h.size h'.size,h.below.trans h'.below⟩
 ·rw [h'.keep k (Nat.lt_of_lt_of_le hk h.size) hp fun e=>?_,h.keep k hk hp hl];rcases h.new k e with e |e
  ·exact hl e
  ·omega
 ·rcases h'.new k hk with e |e
  ·exact h.new k e
  ·exact .inr (Nat.le_trans h.size e)
abbrev Ij:TypeId:=379
abbrev pb:TypeId:=389
abbrev EE:TypeId:=377
theorem Gf:Tryz.prog.underlying EE=some (.slice pb):=by kernel_rfl
theorem Fw:(Tryz.prog.info? pb).map (fun i=>(i.zero,i.size,i.bytes))=some (some (.agg #[.int .i64 0,.int .i64 0,.int .i64 0,.int .i64 0,.int .i64 0,.int .i64 0]),6,48):=by kernel_rfl
def jr (x:HE):List Value:=[.int .i64 x.r,.int .i64 x.p,.int .i64 x.t,.int .i64 x.f,.int .i64 x.a,.int .i64 x.b]
theorem lS (x:HE):(jr x).length=6:=rfl
theorem mc (x:HE):∀u∈jr x,u.oneCell'=true:=by
 intro v hv;simp only [jr,List.mem_cons,List.not_mem_nil,or_false]at hv;rcases hv with rfl |rfl |rfl |rfl |rfl |rfl<;>rfl
structure dt (w:World) (B p:Nat) (l:Sl) (turn:Nat) (es:List HE):Prop where
 blk:w.heap[p]? =some (.cells #[l.v,.int .i64 (turn:Int)] Ij (0,0))
 row:w.ownsRow B pb 6 l.v l.n (es.flatMap jr)
 len:l.n=es.length
 off:l.v.ownBlock≠some p
 bp:B≤p
theorem dt.on {w w':World} {B p:Nat} {l:Sl} {turn:Nat} {es:List HE} (h:dt w B p l turn es) (hb:Below w.heap.size w w'):dt w' B p l turn es:=⟨aj hb h.blk,aF h.row hb,h.len,h.off,h.bp⟩
theorem dt.lt {w:World} {B p:Nat} {l:Sl} {turn:Nat} {es:List HE} (h:dt w B p l turn es):p<w.heap.size:=(Array.getElem?_eq_some_iff.1 h.blk).1
theorem dt.cells {w:World} {B p:Nat} {l:Sl} {turn:Nat} {es:List HE} (h:dt w B p l turn es) {i:Nat} (hi:i<es.length):∃a,l.a=some a∧∀k v,(jr (hat es i))[k]? =some v→w.cell? ((a.add (i*6)).add k)=some v:=by
 obtain⟨a,ha,_,hc⟩:=(Rw.of_own h.row lS (by decide)).1 i _ (List.getElem?_eq_getElem hi);refine⟨a,ha,fun k v hk=>hc k v ?_⟩;have:hat es i=es[i]:=by simp [hat,hi]
 rwa [this]at hk
theorem vm (w:World):CP 279 #[] w fun e w'=>e= .returned (.pointer (some ⟨w.heap.size,0,none⟩))∧dt w' w.heap.size w.heap.size ⟨none,0,0⟩ 0 []∧Below w.heap.size w w'∧w'.heap.size=w.heap.size+1:=by
 refine aN (xB w) ?_;rintro w1 rfl;exact⟨rfl,⟨ap _ _,cO _ _ _ _,rfl,by(intro h;cases h),Nat.le_refl _⟩,ah _ _,aA _ _⟩
theorem vQ (w:World) (B p:Nat) (l:Sl) (turn:Nat) (es:List HE) (h:dt w B p l turn es):CP 320 #[.pointer (some ⟨p,0,none⟩)] w fun e w'=>e= .returned (.int .i64 es.length)∧w'=w:=by
 refine aN (zE (some ⟨p,0,none⟩) w) ?_;exact ac.no rfl (af.mk _ rfl ⟨l.a,l.n,l.c,by rw [ai p w h.blk];rfl,by rw [h.len],rfl⟩)
theorem mJ (x y:HE) (w:World):CP 321 #[.agg #[.int .i64 x.r,.int .i64 x.p,.int .i64 x.t],.agg #[.int .i64 y.r,.int .i64 y.p,.int .i64 y.t]] w fun e w'=>e= .returned (.bool (decide (x.lt y)))∧Below w.heap.size w w':=by
 refine aJ (zX x.r x.p x.t y.r y.p y.t w (fun v w'=>v= .bool (decide (x.lt y))∧Below w.heap.size w w') ?_) (by rintro v w' ⟨rfl,h⟩;exact⟨rfl,h⟩);intro w1 hw1 w2 hw2;have hb:Below w.heap.size w w2:=by subst hw2;subst hw1;exact ae (ah _ _) (ah _ _)
 have c1:∀j,w2.cell? ((nb w).add j)=(#[Value.int .i64 x.r,Value.int .i64 x.p,Value.int .i64 x.t]:Array Value)[j]? :=by
  intro j;subst hw2;rw [(ah w1 _).cell (by rw [av];subst hw1;rw [aA];exact Nat.lt_succ_self _)];subst hw1;rw [aB,Nat.zero_add,aV]
 have c2:∀j,w2.cell? ((nb w1).add j)=(#[Value.int .i64 y.r,Value.int .i64 y.p,Value.int .i64 y.t]:Array Value)[j]? :=by
  intro j;subst hw2;rw [aB,Nat.zero_add,aV]
 refine⟨_,c1 0,_,c2 0,ac.mk (fun h0=>?_) fun h0=>?_⟩
 ·have h0:x.r≠y.r:=by simpa using h0
  refine⟨_,c1 0,_,c2 0,?_,hb⟩;congr 1;exact decide_eq_decide.2 (by unfold HE.lt;omega)
 ·have h0:x.r=y.r:=by simpa using h0
  refine⟨_,c1 1,_,c2 1,ac.mk (fun h1=>?_) fun h1=>?_⟩
  ·have h1:x.p≠y.p:=by simpa using h1
   refine⟨_,c1 1,_,c2 1,?_,hb⟩;congr 1;exact decide_eq_decide.2 (by unfold HE.lt;omega)
  ·have h1:x.p=y.p:=by simpa using h1
   refine⟨_,c1 2,_,c2 2,?_,hb⟩;congr 1;exact decide_eq_decide.2 (by unfold HE.lt;omega)
theorem jl (w:World) (B p:Nat) (l:Sl) (turn:Nat) (es:List HE) (h:dt w B p l turn es) (hB:B≤w.heap.size) (i k:Nat) (hi:i<es.length) (hk:k<es.length):
  CP 307 #[.pointer (some ⟨p,0,none⟩),.int .i64 (i:Int),.int .i64 (k:Int)] w fun e w'=>e= .returned (.tuple #[])∧dt w' B p l turn (qO es i k)∧dG B w w' p l l:=by
 refine aN (Af (some ⟨p,0,none⟩) i k w) ?_;intro w1 hw1;have hb1:Below w.heap.size w w1:=by subst hw1;exact aO w
 have h1:=h.on hb1;have hc:w1.cell? ((⟨p,0,none⟩:Addr).add 0)=some (.slice l.a l.n l.c):=by rw [ai p _ h1.blk];rfl
 obtain⟨a,ha,ck⟩:=h1.cells hk;obtain⟨a2,ha2,ci⟩:=h1.cells hi;have hea:a2=a:=by rw [ha]at ha2;exact(Option.some.inj ha2).symm
 subst hea;have hlen:=h1.len;have e1:((k:Int)).toNat=k:=by omega
 have e2:((i:Int)).toNat=i:=by omega
 rw [e1,e2];have k0:=ck 0 _ rfl;have i0:=ci 0 _ rfl;rw [au]at k0 i0;refine af.mk _ rfl ⟨l.a,l.n,l.c,hc,af.mk _ rfl ⟨l.a,l.n,l.c,hc,af.mk _ rfl ⟨l.a,l.n,l.c,hc,af.mk a2 ha ⟨by omega,by omega,_,_,_,_,_,_,⟨k0,ck 1 _ rfl,ck 2 _ rfl,ck 3 _ rfl,ck 4 _ rfl,ck 5 _ rfl,trivial⟩,af.mk _ rfl ⟨l.a,l.n,l.c,hc,af.mk a2 ha ⟨by omega,by omega,_,_,_,_,_,_,⟨i0,ci 1 _ rfl,ci 2 _ rfl,ci 3 _ rfl,ci 4 _ rfl,ci 5 _ rfl,trivial⟩,af.mk a2 ha ⟨by omega,by omega,?_⟩⟩⟩⟩⟩⟩⟩;refine vA lS (by decide) mc h1.row hlen ha i hi (hat es k) ?_;intro w2 r2 s2 z2 b2;refine af.mk a2 ha ⟨by omega,by omega,?_⟩;refine vA lS (by decide) mc r2 (by rw [List.length_set];exact hlen) ha k (by rw [List.length_set];exact hk) (hat es i) ?_;intro w3 r3 s3 z3 b3;refine⟨rfl,⟨?_,r3,by rw [cf];exact hlen,h.off,h.bp⟩,⟨fun j hj hp hl=>?_,fun j hj=>.inl hj,?_,b3 _ _ (Nat.le_refl _) (b2 _ _ (Nat.le_refl _) (hb1.mono hB))⟩⟩
 ·rw [s3 p h.off,s2 p h.off];exact h1.blk
 ·rw [s3 j hl,s2 j hl,hb1.block j hj]
 ·rw [z3,z2];exact hb1.size
theorem zl (B p:Nat) (l:Sl) (turn:Nat):∀(n:Nat) (i:Nat) (es:List HE) (w:World),i≤n→dt w B p l turn es→B≤w.heap.size→i<es.length→es.length≤1000000→Fq es i→
  ∀(R:Value→World→Prop) (I:List Value→World→Prop),(∀(i_2:Int) (w1:World),(ac (decide ((i_2:Int)>0))
   (Ar .i64 ((i_2:Int)-1) (fun n=>
    (2:Int)≠0∧
    ∀w2:World,w2=w1.drew→
    af (some ⟨p,0,none⟩) (fun pa=>
    ∃lA:Option Addr,∃lN:Nat,∃lC:Nat,w2.cell? (pa.add 0)=some (Value.slice lA lN lC)∧
    af lA (fun pa_3=>
    (0:Int)≤i_2∧i_2< ((lN:Nat):Int)∧
    ∃g0:Int,∃g1:Int,∃g2:Int,(w2.cell? ((pa_3.add ((i_2:Int).toNat*6)).add 0)=some (Value.int .i64 g0)∧w2.cell? (((pa_3.add ((i_2:Int).toNat*6)).add 0).add 1)=some (Value.int .i64 g1)∧w2.cell? (((pa_3.add ((i_2:Int).toNat*6)).add 0).add 2)=some (Value.int .i64 g2)∧True)∧
    af (some ⟨p,0,none⟩) (fun pa_4=>
    ∃lA_5:Option Addr,∃lN_6:Nat,∃lC_7:Nat,w2.cell? (pa_4.add 0)=some (Value.slice lA_5 lN_6 lC_7)∧
    af lA_5 (fun pa_8=>
    (0:Int)≤(IntKind.wrap .i64 (Int.tdiv n 2))∧(IntKind.wrap .i64 (Int.tdiv n 2)) < ((lN_6:Nat):Int)∧
    ∃g0_9:Int,∃g1_10:Int,∃g2_11:Int,(w2.cell? ((pa_8.add ((IntKind.wrap .i64 (Int.tdiv n 2):Int).toNat*6)).add 0)=some (Value.int .i64 g0_9)∧w2.cell? (((pa_8.add ((IntKind.wrap .i64 (Int.tdiv n 2):Int).toNat*6)).add 0).add 1)=some (Value.int .i64 g1_10)∧w2.cell? (((pa_8.add ((IntKind.wrap .i64 (Int.tdiv n 2):Int).toNat*6)).add 0).add 2)=some (Value.int .i64 g2_11)∧True)∧
    CP 321 #[Value.agg #[Value.int .i64 g0,Value.int .i64 g1,Value.int .i64 g2],Value.agg #[Value.int .i64 g0_9,Value.int .i64 g1_10,Value.int .i64 g2_11]] w2 (fun e3 w3=>
    ∃b:Bool,e3= .returned (Value.bool b)∧
    ac (!b)
     (R (Value.tuple #[]) w3)
     (CP 307 #[Value.pointer (some ⟨p,0,none⟩),Value.int .i64 i_2,Value.int .i64 (IntKind.wrap .i64 (Int.tdiv n 2))] w3 (fun e4 w4=>
      e4= .returned (Value.tuple #[])∧
      I [Value.int .i64 (IntKind.wrap .i64 (Int.tdiv n 2))] w4)))))))))
   (R (Value.tuple #[]) w1))→I [Value.int .i64 i_2] w1)→
  (∀(es':List HE) (w':World),dt w' B p l turn es'→eA es'→es'.length=es.length→(∀e,e∈es'↔e∈es)→dG B w w' p l l→R (.tuple #[]) w')→
  I [Value.int .i64 (i:Int)] w:=by
 intro n;induction n with
 |zero=>
  intro i es w hin h hB hi hl hu R I hI hR;have:i=0:=by omega
  subst this;refine hI _ _ (ac.no (by simp) (hR es w h (vv hu (.inl rfl)) rfl (fun _=>Iff.rfl) (dG.of_below p l (Below.refl _ _) hB)))
 |succ n ih=>
  intro i es w hin h hB hi hl hu R I hI hR;by_cases h0:i=0
  ·subst h0;exact hI _ _ (ac.no (by simp) (hR es w h (vv hu (.inl rfl)) rfl (fun _=>Iff.rfl) (dG.of_below p l (Below.refl _ _) hB)))
  ·have hpos:0<i:=Nat.pos_of_ne_zero h0;have hwr:IntKind.wrap .i64 (Int.tdiv ((i:Int)-1) 2)=((par i:Nat):Int):=by
    have e:Int.tdiv ((i:Int)-1) 2=((par i:Nat):Int):=by
     rw [Int.tdiv_eq_ediv_of_nonneg (by omega)];unfold par;omega
    rw [e];have:=iv hpos;exact di (by show(-9223372036854775808:Int)≤_;omega) (by show _≤(9223372036854775807:Int);omega)
   have hpi:=iv hpos;refine hI _ _ (ac.yes (by simp;omega) (Ar.ok64 (by omega) (by omega) ⟨by decide,?_⟩));rw [hwr];intro w2 hw2;have hb2:Below w.heap.size w w2:=by subst hw2;exact aO w
   have h2:=h.on hb2;have hc:w2.cell? ((⟨p,0,none⟩:Addr).add 0)=some (.slice l.a l.n l.c):=by rw [ai p _ h2.blk];rfl
   obtain⟨a,ha,ci⟩:=h2.cells hi;obtain⟨a',ha',cp⟩:=h2.cells (show par i<es.length by omega);have hea:a'=a:=by rw [ha]at ha';exact(Option.some.inj ha').symm
   subst hea;have hlen:=h2.len;have e1:((i:Int)).toNat=i:=by omega
   have e2:((par i:Nat):Int).toNat=par i:=by omega
   rw [e1,e2];simp only [au];have i0:=ci 0 _ rfl;have p0:=cp 0 _ rfl;rw [au]at i0 p0;refine af.mk _ rfl ⟨l.a,l.n,l.c,by rw [←hc,au],af.mk a' ha ⟨by omega,by omega,_,_,_,⟨i0,ci 1 _ rfl,ci 2 _ rfl,trivial⟩,af.mk _ rfl ⟨l.a,l.n,l.c,by rw [←hc,au],af.mk a' ha ⟨by omega,by omega,_,_,_,⟨p0,cp 1 _ rfl,cp 2 _ rfl,trivial⟩,?_⟩⟩⟩⟩;refine(mJ (hat es i) (hat es (par i)) w2).mono ?_;rintro e w3 ⟨rfl,hB3⟩;have h3:=h2.on hB3;have hb3:=ae hb2 hB3;refine⟨_,rfl,ac.mk (fun hlt=>?_) fun hlt=>?_⟩
   ·have hlt:¬(hat es i).lt (hat es (par i)):=by simpa using hlt
    exact hR es w3 h3 (vv hu (.inr hlt)) rfl (fun _=>Iff.rfl) (dG.of_below p l hb3 hB)
   ·have hlt:(hat es i).lt (hat es (par i)):=by simpa using hlt
    refine(jl w3 B p l turn es h3 (Nat.le_trans hB hb3.size) i (par i) hi (by omega)).mono ?_;rintro e w4 ⟨rfl,h4,m4⟩;refine⟨rfl,ih (par i) (qO es i (par i)) w4 (by omega) h4 (Nat.le_trans hB (Nat.le_trans hb3.size m4.size)) (by rw [cf];omega) (by rw [cf];exact hl) (KA hu hpos hi hlt) R I hI ?_⟩;intro es' w' h' hh' hl' hm' mv';exact hR es' w' h' hh' (by rw [hl',cf]) (fun e=>(hm' e).trans (qI hi (by omega) e)) (((dG.of_below p l hb3 hB).trans m4).trans mv')
structure kb (w w':World) (B p:Nat) (l l':Sl) (turn:Nat) (es':List HE):Prop where
 raw:dt w' B p l' turn es'
 heap:eA es'
 moves:dG B w w' p l l'
theorem BT (w:World) (B p:Nat) (l:Sl) (turn:Nat) (es:List HE) (h:dt w B p l turn es) (hB:B≤w.heap.size) (i:Nat) (hi:i<es.length) (hl:es.length≤1000000) (hu:Fq es i):
  CP 319 #[.pointer (some ⟨p,0,none⟩),.int .i64 (i:Int)] w fun e w'=>e= .returned (.tuple #[])∧∃es',kb w w' B p l l turn es'∧es'.length=es.length∧∀e,e∈es'↔e∈es:=by
 refine aJ (yh (some ⟨p,0,none⟩) i w (fun v w'=>v= .tuple #[]∧∃es',kb w w' B p l l turn es'∧es'.length=es.length∧∀e,e∈es'↔e∈es) ?_) (by rintro v w' ⟨rfl,h⟩;exact⟨rfl,h⟩);intro I hI;exact zl B p l turn i i es w (Nat.le_refl _) h hB hi hl hu (fun v w'=>v= .tuple #[]∧∃es',kb w w' B p l l turn es'∧es'.length=es.length∧∀e,e∈es'↔e∈es) I hI fun es' w' h1 h2 h3 h4 h5=>⟨rfl,es',⟨h1,h2,h5⟩,h3,h4⟩
theorem w_ (a b:Int) (w:World):(Instr.index 390 (.agg #[.int .i64 a,.int .i64 b]) (.int .i64 0)).run Tryz.prog w= .ok (.int .i64 a) w:=by kernel_rfl
theorem xT (a b:Int) (w:World):(Instr.index 390 (.agg #[.int .i64 a,.int .i64 b]) (.int .i64 1)).run Tryz.prog w= .ok (.int .i64 b) w:=by kernel_rfl
theorem sS (a b:Int) (y:Nat) (hy:y<2) (w:World):(Instr.index 390 (.agg #[.int .i64 a,.int .i64 b]) (.int .i64 (y:Int))).run Tryz.prog w= .ok (.int .i64 (if y=0 then a else b)) w:=by
 match y,hy with
 |0,_=>exact w_ a b w
 |1,_=>exact xT a b w
theorem uj (w:World) (B p:Nat) (l:Sl) (turn:Nat) (es:List HE) (h:dt w B p l turn es) (hB:B≤w.heap.size) (hl:es.length≤1000000) (hd:nd es 0):
  CP 308 #[.pointer (some ⟨p,0,none⟩),.int .i64 0] w fun e w'=>e= .returned (.tuple #[])∧∃es',kb w w' B p l l turn es'∧es'.length=es.length∧∀e,e∈es'↔e∈es:=by
 refine aN (zr (some ⟨p,0,none⟩) 0 w) ?_;intro I hI;have atEnd:∀(i:Nat) (es1:List HE) (w1:World),es.length≤i→i≤es.length→dt w1 B p l turn es1→es1.length=es.length→(∀e,e∈es1↔e∈es)→nd es1 i→dG B w w1 p l l→I [.int .i64 (i:Int)] w1:=by
  intro i es1 w1 hn hi h1 hle hm hd1 mv;refine hI _ _ (Ar.ok64 (by omega) (by omega) (Ar.ok64 (by omega) (by omega) (Ar.ok64 (by omega) (by omega) (Ar.ok64 (by omega) (by omega) ?_))));intro I6 hI6;have hlen:=h1.len;have inner:=bj (α:=World) 2 (fun _ x=>∃_:Unit,dt x B p l turn es1∧dG B w x p l l) (fun y x=>I6 [.int .i64 (y:Int),.int .i64 (i:Int)] x) w1 ⟨(),h1,mv⟩ ?_ ?_
  ·exact inner
  ·rintro y hy ih w2 ⟨_,h2,mv2⟩;refine hI6 _ _ _ (ac.yes (by simp;omega) ?_);intro J hJ;refine⟨_,w2,sS _ _ y hy w2,?_⟩;intro w5 hw5;have hb5:Below w2.heap.size w2 w5:=by subst hw5;exact aO w2
   have h5:=h2.on hb5;refine af.mk _ rfl ⟨l.a,l.n,l.c,by rw [ai p _ h5.blk];rfl,ac.no (by simp only [decide_eq_false_iff_not];split<;>omega) ?_⟩
   exact hJ _ _ (Ar.ok64 (by omega) (by omega) (ih w5 ⟨(),h5,mv2.trans (dG.of_below p l hb5 (Nat.le_trans hB mv2.size))⟩))
  ·rintro w2 ⟨_,h2,mv2⟩;refine hI6 _ _ _ (ac.no (by simp) (ac.yes (by simp) ⟨rfl,es1,⟨h2,uT hd1 fun j j0 hj hp=>?_,mv2⟩,hle,hm⟩));unfold par at hp;omega
 have key:∀(n i:Nat) (es1:List HE) (w1:World),es.length≤i+n→i≤es.length→dt w1 B p l turn es1→es1.length=es.length→(∀e,e∈es1↔e∈es)→nd es1 i→dG B w w1 p l l→I [.int .i64 (i:Int)] w1:=by
  intro n;induction n with
  |zero=>
   intro i es1 w1 hn hi h1 hle hm hd1 mv;exact atEnd i es1 w1 (by omega) hi h1 hle hm hd1 mv
  |succ n ihn=>
   intro i es1 w1 hn hi h1 hle hm hd1 mv;by_cases hil:i<es1.length
   ·refine hI _ _ (Ar.ok64 (by omega) (by omega) (Ar.ok64 (by omega) (by omega) (Ar.ok64 (by omega) (by omega) (Ar.ok64 (by omega) (by omega) ?_))));intro I6 hI6;have inner:=bj (α:=Nat×World) 2 (fun y x=>dt x.2 B p l turn es1∧dG B w x.2 p l l∧x.1<es1.length∧(x.1=i∨(0<x.1∧par x.1=i∧(hat es1 x.1).lt (hat es1 i)))∧∀j,0<j→j<es1.length→par j=i→j<2*i+1+y→¬(hat es1 j).lt (hat es1 x.1)) (fun y x=>I6 [.int .i64 (y:Int),.int .i64 (x.1:Int)] x.2) (i,w1) ⟨h1,mv,hil,.inl rfl,fun j j0 hj hp hlt=>by unfold par at hp;omega⟩ ?_ ?_
    ·exact inner
    ·rintro y hy ih ⟨least,w2⟩ ⟨h2,mv2,hll,hor,hall⟩;change dt w2 B p l turn es1 at h2;change dG B w w2 p l l at mv2;change least<es1.length at hll;refine hI6 _ _ _ (ac.yes (by simp;omega) ?_);intro J hJ;refine⟨_,w2,sS _ _ y hy w2,?_⟩;have hk:(if y=0 then(2*(i:Int)+1)else(2*(i:Int)+2))=((2*i+1+y:Nat):Int):=by split<;>omega
     rw [hk];intro w5 hw5;have hb5:Below w2.heap.size w2 w5:=by subst hw5;exact aO w2
     have h5:=h2.on hb5;have mv5:=mv2.trans (dG.of_below p l hb5 (Nat.le_trans hB mv2.size));have hlen:=h5.len;have hc:w5.cell? ((⟨p,0,none⟩:Addr).add 0)=some (.slice l.a l.n l.c):=by rw [ai p _ h5.blk];rfl
     refine af.mk _ rfl ⟨l.a,l.n,l.c,hc,ac.mk (fun hlt=>?_) fun hlt=>?_⟩
     ·have hlt:2*i+1+y<es1.length:=by have:=of_decide_eq_true hlt;omega
      obtain⟨a,ha,ck⟩:=h5.cells hlt;obtain⟨a2,ha2,cl⟩:=h5.cells hll;have hea:a2=a:=by rw [ha]at ha2;exact(Option.some.inj ha2).symm
      subst hea;have k0:=ck 0 _ rfl;have l0:=cl 0 _ rfl;rw [au]at k0 l0;have e1:(((2*i+1+y:Nat):Int)).toNat=2*i+1+y:=by omega
      have e2:((least:Int)).toNat=least:=by omega
      rw [e1];dsimp only;rw [e2];simp only [au];refine af.mk _ rfl ⟨l.a,l.n,l.c,by rw [←hc,au],af.mk a2 ha ⟨by omega,by omega,_,_,_,⟨k0,ck 1 _ rfl,ck 2 _ rfl,trivial⟩,af.mk _ rfl ⟨l.a,l.n,l.c,by rw [←hc,au],af.mk a2 ha ⟨by omega,by omega,_,_,_,⟨l0,cl 1 _ rfl,cl 2 _ rfl,trivial⟩,?_⟩⟩⟩⟩;refine(mJ (hat es1 (2*i+1+y)) (hat es1 least) w5).mono ?_;rintro e w6 ⟨rfl,hB6⟩;have h6:=h5.on hB6;have mv6:=mv5.trans (dG.of_below p l hB6 (Nat.le_trans hB mv5.size));have hpar:par (2*i+1+y)=i:=by unfold par;omega
      refine⟨_,rfl,ac.mk (fun hls=>?_) fun hls=>?_⟩
      ·have hls:=of_decide_eq_true hls;refine hJ _ _ (Ar.ok64 (by omega) (by omega) (ih (2*i+1+y,w6) ⟨h6,mv6,hlt,.inr ⟨by show 0<2*i+1+y;omega,hpar,?_⟩,?_⟩))
       ·rcases hor with e |⟨_,_,e⟩
        ·change least=i at e;show(hat es1 (2*i+1+y)).lt (hat es1 i);rw [e]at hls;exact hls
        ·show(hat es1 (2*i+1+y)).lt (hat es1 i);change(hat es1 least).lt (hat es1 i)at e;unfold HE.lt at*;omega
       ·intro j j0 hj hp hjl;show ¬(hat es1 j).lt (hat es1 (2*i+1+y));by_cases e:j=2*i+1+y
        ·rw [e];intro h;exact HE.asymm h h
        ·exact HE.lt_le hls (hall j j0 hj hp (by omega))
      ·have hls:=of_decide_eq_false hls;refine hJ _ _ (Ar.ok64 (by omega) (by omega) (ih (least,w6) ⟨h6,mv6,hll,hor,?_⟩));intro j j0 hj hp hjl;by_cases e:j=2*i+1+y
       ·rw [e];exact hls
       ·exact hall j j0 hj hp (by omega)
     ·have hlt:¬2*i+1+y<es1.length:=by have:=of_decide_eq_false hlt;omega
      refine hJ _ _ (Ar.ok64 (by omega) (by omega) (ih (least,w5) ⟨h5,mv5,hll,hor,?_⟩));intro j j0 hj hp hjl;exact hall j j0 hj hp (by omega)
    ·rintro⟨least,w2⟩ ⟨h2,mv2,hll,hor,hall⟩;change dt w2 B p l turn es1 at h2;change dG B w w2 p l l at mv2;change least<es1.length at hll;have hall':∀j,0<j→j<es1.length→par j=i→¬(hat es1 j).lt (hat es1 least):=fun j j0 hj hp=>hall j j0 hj hp (by unfold par at hp;omega);refine hI6 _ _ _ (ac.no (by simp) ?_);rcases hor with e |⟨e0,ep,el⟩
     ·change least=i at e;subst e;exact ac.yes (by simp) ⟨rfl,es1,⟨h2,uT hd1 hall',mv2⟩,hle,hm⟩
     ·change 0<least at e0;change par least=i at ep;have:=iv e0;refine ac.no (by simp;omega) ?_;refine(jl w2 B p l turn es1 h2 (Nat.le_trans hB mv2.size) i least hil hll).mono ?_;rintro e w7 ⟨rfl,h7,mv7⟩;refine⟨rfl,ihn least (qO es1 i least) w7 (by omega) (by omega) h7 (by rw [cf];exact hle) (fun e=>(qI hil hll e).trans (hm e)) (Fu hd1 e0 hll ep el hall') (mv2.trans mv7)⟩
   ·exact atEnd i es1 w1 (by omega) hi h1 hle hm hd1 mv
 exact key es.length 0 es w (by omega) (by omega) h rfl (fun _=>Iff.rfl) hd (dG.of_below p l (Below.refl _ _) hB)
theorem fA (a b c:Int):∀v∈ [Value.int .i64 a,Value.int .i64 b,Value.int .i64 c],v.oneCell'=true:=f_ a b c
theorem ua (w:World) (B p:Nat) (l:Sl) (turn:Nat) (es:List HE) (h:dt w B p l turn es) (hB:B≤w.heap.size) (hh:eA es) (hl:es.length≤900000) (ht:turn≤1000000000) (r q f a b:Int):
  CP 305 #[.pointer (some ⟨p,0,none⟩),.int .i64 r,.int .i64 q,.agg #[.int .i64 f,.int .i64 a,.int .i64 b]] w fun e w'=>e= .returned (.tuple #[])∧∃l' es',kb w w' B p l l' (turn+1) es'∧es'.length=es.length+1∧∀e,e∈es'↔e∈es∨e=⟨r,q,turn,f,a,b⟩:=by
 refine aN (AT (some ⟨p,0,none⟩) r q f a b w) ?_;intro w1 hw1;have hb1:Below w.heap.size w w1:=by subst hw1;exact ah _ _
 refine ac.no rfl ?_;intro w2 hw2;have hb2:Below w.heap.size w w2:=by subst hw2;exact hb1.drew
 have hz2:w2.heap.size=w.heap.size+1:=by subst hw2;subst hw1;exact aA _ _
 have h2:=h.on hb2;have hloc:w2.heap[w.heap.size]? =some (.cells #[Value.int .i64 f,Value.int .i64 a,Value.int .i64 b] 357):=by subst hw2;subst hw1;exact ap _ _
 have hlen:=h2.len;have hc:w2.cell? ((⟨p,0,none⟩:Addr).add 0)=some (.slice l.a l.n l.c):=by rw [ai p _ h2.blk];rfl
 obtain⟨a',c',w4,hr4,hu4,hf4,h5⟩:=fk (P:=Tryz.prog) (s:=l) 0 h2.blk (show 0<2 by decide) h2.row h2.off h2.bp EE Gf Fw rfl (by decide) (jr ⟨r,q,turn,f,a,b⟩) rfl (mc _) (by omega) (by omega);refine af.mk _ rfl ⟨l.a,l.n,l.c,hc,af.mk _ rfl ⟨(turn:Int),by rw [ai p _ h2.blk];rfl,_,_,_,⟨by have:=ai _ _ hloc 0;rw [au]at this;exact this,ai _ _ hloc 1,ai _ _ hloc 2,trivial⟩,?_⟩⟩;rintro w3 rfl;refine⟨⟨by rw [(ah w2 _).cell (by rw [av];exact h2.lt)];exact hc,trivial⟩,a',l.n+1,c',w4,hr4,af.mk _ rfl ⟨rfl,hu4,hf4,?_⟩⟩;intro w5 hw5;obtain⟨hblk5,hrow5,hoff5,hB5,hkeep5,hsz5,hnew5⟩:=h5 w5 hw5;refine af.mk _ rfl ⟨(turn:Int),by rw [ai p _ hblk5];rfl,Ar.ok64 (by omega) (by omega) (af.mk _ rfl ⟨rfl,⟨_,by rw [ai p _ hblk5];rfl⟩,be hblk5,?_⟩)⟩;intro w6 hw6;have hblk6:w6.heap[p]? =some (.cells #[.slice a' (l.n+1) c',.int .i64 ((turn+1:Nat):Int)] Ij (0,0)):=by subst hw6;exact bF hblk5 _
 have hs6:∀k,k≠p→w6.heap[k]? =w5.heap[k]? :=fun k hk=>by subst hw6;exact aq (by rw [av];exact hk)
 have hz6:w6.heap.size=w5.heap.size:=by subst hw6;exact ba _ _ _
 have hB6:Below B w w6:=by subst hw6;exact bv (hB5 w (hb2.mono hB)) h2.bp _
 have hflat:(es++ [(⟨r,q,turn,f,a,b⟩:HE)]).flatMap jr=es.flatMap jr++jr ⟨r,q,turn,f,a,b⟩:=by simp
 have hraw:dt w6 B p ⟨a',l.n+1,c'⟩ (turn+1) (es++ [(⟨r,q,turn,f,a,b⟩:HE)]):=⟨hblk6,by rw [hflat];exact aU hrow5 fun k hk=>hs6 k fun e=>hoff5 (by rw [hk,e]),by simp;omega,hoff5,h2.bp⟩;have hnew:∀k,(Value.slice a' (l.n+1) c').ownBlock=some k→l.v.ownBlock=some k∨w.heap.size≤k:=by
  intro k hk;rcases hnew5 k hk with e |e
  ·exact .inl e
  ·exact .inr (by omega)
 have mv6:dG B w w6 p l ⟨a',l.n+1,c'⟩:=⟨fun k hk hp hlb=>by rw [hs6 k hp,hkeep5 k (by omega) hp hlb,hb2.block k hk],hnew,by omega,hB6⟩;refine af.mk _ rfl ⟨a',l.n+1,c',by rw [ai p _ hblk6];rfl,Ar.ok64 (by omega) (by omega) ?_⟩;have hln:(((l.n+1:Nat):Int)-1)=((es.length:Nat):Int):=by omega
 rw [hln];refine(BT w6 B p ⟨a',l.n+1,c'⟩ (turn+1) _ hraw (by omega) es.length (by simp) (by simp;omega) (JA hh _)).mono ?_;rintro e w7 ⟨rfl,es',⟨h7,hh7,mv7⟩,hl7,hm7⟩;exact⟨rfl,rfl,_,es',⟨h7,hh7,mv6.trans mv7⟩,by rw [hl7];simp,fun e=>by rw [hm7 e];simp⟩
theorem FG (a:Option Addr) (n c n' c' k:Nat):(Value.slice a n c).ownBlock=some k↔(Value.slice a n' c').ownBlock=some k:=by cases a<;>simp [Value.ownBlock]
def Fp (es:List HE):Value:=match es with
 | []=>.tuple #[.agg #[.int .i64 0,.int .i64 0,.int .i64 0],.int .i64 0,.int .i64 0,.bool false]
 |x::_=>.tuple #[.agg #[.int .i64 x.f,.int .i64 x.a,.int .i64 x.b],.int .i64 x.r,.int .i64 x.p,.bool true]
theorem F1 {w:World} {b:Nat} {x y z:Value} {e:TypeId} {fz:Nat×Nat} (h:w.heap[b]? =some (.cells #[x,y,z] e fz)):w.cell? ⟨b,0,none⟩=some x∧w.cell? ((⟨b,0,none⟩:Addr).add 1)=some y∧w.cell? ((⟨b,0,none⟩:Addr).add 2)=some z∧True:=
 ⟨by have:=ai _ _ h 0;rw [au]at this;exact this,ai _ _ h 1,ai _ _ h 2,trivial⟩
theorem tL (w:World) (B p:Nat) (l:Sl) (turn:Nat) (es:List HE) (h:dt w B p l turn es):
  CP 306 #[.pointer (some ⟨p,0,none⟩)] w fun e w'=>e= .returned (Fp es)∧Below w.heap.size w w':=by
 refine aN (AR (some ⟨p,0,none⟩) w) ?_;intro w1 hw1;have hb1:Below w.heap.size w w1:=by subst hw1;exact ah _ _
 have hz1:w1.heap.size=w.heap.size+1:=by subst hw1;exact aA _ _
 have hl1:w1.heap[w.heap.size]? =some (.cells #[Value.int .i64 0,Value.int .i64 0,Value.int .i64 0] 357):=by subst hw1;exact ap _ _
 have h1:=h.on hb1;refine(vQ w1 B p l turn es h1).mono ?_;rintro e w2 ⟨rfl,hw⟩;subst hw;refine⟨_,rfl,ac.mk (fun h0=>?_) fun h0=>?_⟩
 ·have h0:es= []:=List.eq_nil_of_length_eq_zero (by have:(es.length:Int)=0:=by simpa using h0
                                                    omega)
  subst h0;intro w3 hw3;have hb3:Below w2.heap.size w2 w3:=by subst hw3;exact ah _ _
  have hl3:w3.heap[w2.heap.size]? =some (.cells #[Value.int .i64 0,Value.int .i64 0,Value.int .i64 0] 357):=by subst hw3;exact ap _ _
  refine⟨_,_,_,F1 hl3,?_⟩;refine bf (aj hb3 hl1) [.int .i64 0,.int .i64 0,.int .i64 0] rfl (fA _ _ _) ?_;intro w4 h4 _ _ hB4;exact⟨_,_,_,F1 h4,rfl,hB4 _ _ (Nat.le_refl _) (ae hb1 hb3)⟩
 ·cases es with
  |nil=>simp at h0
  |cons x t=>
   obtain⟨a,ha,hc⟩:=h1.cells (i:=0) (by simp);have hlen:=h1.len;have c0:=hc 0 _ rfl;simp only [Nat.zero_mul,au]at c0;have hh:hat (x::t) 0=x:=rfl;rw [hh]at hc c0;simp only [Nat.zero_mul,au]at hc;refine af.mk _ rfl ⟨l.a,l.n,l.c,by rw [ai p _ h1.blk];rfl,af.mk a ha ⟨Int.le_refl _,by rw [hlen];simp,?_⟩⟩;simp only [Int.toNat_zero,Nat.zero_mul,au];refine⟨_,_,_,_,_,_,⟨c0,hc 1 _ rfl,hc 2 _ rfl,hc 3 _ rfl,hc 4 _ rfl,hc 5 _ rfl,trivial⟩,?_⟩;intro w5 hw5;refine aS [.int .i64 0,.int .i64 0,.int .i64 0,.int .i64 0,.int .i64 0,.int .i64 0] (jr x) rfl (mc x) w5 hw5 ?_;intro w6 h6 hz6 hB6 w7 hw7;have h7:w7.heap[w2.heap.size]? =some (.cells (jr x).toArray pb (0,0)):=by subst hw7;exact h6
   have hb7:Below w2.heap.size w2 w7:=by subst hw7;exact hB6.drew
   refine⟨_,_,_,⟨ai _ _ h7 3,by rw [Addr.add_add];exact ai _ _ h7 4,by rw [Addr.add_add];exact ai _ _ h7 5,trivial⟩,_,by have:=ai _ _ h7 0;rw [au]at this;exact this,_,ai _ _ h7 1,?_⟩;refine bf (aj hb7 hl1) [.int .i64 x.f,.int .i64 x.a,.int .i64 x.b] rfl (fA _ _ _) ?_;intro w8 h8 hs8 _ hB8;have h8':w8.heap[w2.heap.size]? =some (.cells (jr x).toArray pb (0,0)):=by rw [hs8 _ (by omega)];exact h7
   exact⟨⟨ai _ _ h8' 1,trivial⟩,⟨by have:=ai _ _ h8' 0;rw [au]at this;exact this,trivial⟩,_,_,_,F1 h8,rfl,hB8 _ _ (Nat.le_refl _) (ae hb1 hb7)⟩
theorem wQ (w:World) (B p:Nat) (l:Sl) (turn:Nat) (es:List HE) (h:dt w B p l turn es) (hB:B≤w.heap.size) (hh:eA es) (hl:es.length≤900000):
  CP 281 #[.pointer (some ⟨p,0,none⟩)] w fun e w'=>e= .returned (Fp es)∧∃l' es',kb w w' B p l l' turn es'∧es'.length=es.length-1∧(∀e∈es,e=hat es 0∨e∈es')∧∀e∈es',e∈es:=by
 refine aJ (yY (some ⟨p,0,none⟩) w (fun v w'=>v=Fp es∧∃l' es',kb w w' B p l l' turn es'∧es'.length=es.length-1∧(∀e∈es,e=hat es 0∨e∈es')∧∀e∈es',e∈es) ?_) (by rintro v w' ⟨rfl,h⟩;exact⟨rfl,h⟩);intro w1 hw1;have hb1:Below w.heap.size w w1:=by subst hw1;exact ah _ _
 have hz1:w1.heap.size=w.heap.size+1:=by subst hw1;exact aA _ _
 have hl1:w1.heap[w.heap.size]? =some (.cells #[Value.int .i64 0,Value.int .i64 0,Value.int .i64 0] 357):=by subst hw1;exact ap _ _
 have h1:=h.on hb1;refine(tL w1 B p l turn es h1).mono ?_;rintro e w2 ⟨rfl,hb2⟩;have h2:=h1.on hb2;have hl2:=aj hb2 hl1;have hb12:=ae hb1 hb2;have rest:∀(f a b r q:Int) (ok:Bool),Fp es= .tuple #[.agg #[.int .i64 f,.int .i64 a,.int .i64 b],.int .i64 r,.int .i64 q,.bool ok]→(ok=true↔es≠ [])→∀w3:World,w3=w2.alloc (.cells #[Value.int .i64 0,Value.int .i64 0,Value.int .i64 0] 357)→
   ax w3 (nb w2) (fun w4=>
   ∀J1:List Value→World→Prop,(∀w5:World,(∃g0:Int,∃g1:Int,∃g2:Int,(w5.cell? (nb w2)=some (Value.int .i64 g0)∧w5.cell? ((nb w2).add 1)=some (Value.int .i64 g1)∧w5.cell? ((nb w2).add 2)=some (Value.int .i64 g2)∧True)∧
    ax w5 (nb w) (fun w6=>
    ∃res0:Int,∃res1:Int,∃res2:Int,(w6.cell? (nb w)=some (Value.int .i64 res0)∧w6.cell? ((nb w).add 1)=some (Value.int .i64 res1)∧w6.cell? ((nb w).add 2)=some (Value.int .i64 res2)∧True)∧
    (Value.tuple #[Value.agg #[Value.int .i64 res0,Value.int .i64 res1,Value.int .i64 res2],Value.int .i64 r,Value.int .i64 q,Value.bool ok]=Fp es∧∃l' es',kb w w6 B p l l' turn es'∧es'.length=es.length-1∧(∀e∈es,e=hat es 0∨e∈es')∧∀e∈es',e∈es)) [Value.int .i64 g0,Value.int .i64 g1,Value.int .i64 g2] 0)→J1 [] w5)→
   ac ok
    (af (some ⟨p,0,none⟩) (fun pa=>
     ∃lA:Option Addr,∃lN:Nat,∃lC:Nat,w4.cell? (pa.add 0)=some (Value.slice lA lN lC)∧
     Ar .i64 ((((lN:Nat):Int):Int)-1) (fun n=>
     CP 307 #[Value.pointer (some ⟨p,0,none⟩),Value.int .i64 0,Value.int .i64 n] w4 (fun e7 w7=>
     e7= .returned (Value.tuple #[])∧
     af (some ⟨p,0,none⟩) (fun pa_2=>
     ∃lA_3:Option Addr,∃lN_4:Nat,∃lC_5:Nat,w7.cell? (pa_2.add 0)=some (Value.slice lA_3 lN_4 lC_5)∧
     (0:Int)≤((0:Nat):Int)∧((0:Nat):Int)≤(n:Int)∧(n:Int)≤((lC_5:Nat):Int)∧True∧True∧
     af (some ⟨p,0,none⟩) (fun pa_6=>
     (Value.slice (cd lA_3 ((0:Nat):Int).toNat ((lC_5:Nat):Int).toNat 6) ((n:Int).toNat- ((0:Nat):Int).toNat) (((lC_5:Nat):Int).toNat- ((0:Nat):Int).toNat)).oneCell'=true∧(∃u,w7.cell? (pa_6.add 0)=some u)∧w7.frozen? (pa_6.add 0)=false∧
     ∀w8:World,w8=(w7.setCell (pa_6.add 0) (Value.slice (cd lA_3 ((0:Nat):Int).toNat ((lC_5:Nat):Int).toNat 6) ((n:Int).toNat- ((0:Nat):Int).toNat) (((lC_5:Nat):Int).toNat- ((0:Nat):Int).toNat)))→
     CP 308 #[Value.pointer (some ⟨p,0,none⟩),Value.int .i64 0] w8 (fun e9 w9=>
     e9= .returned (Value.tuple #[])∧
     J1 [] w9)))))))
    (J1 [] w4)) [Value.int .i64 f,Value.int .i64 a,Value.int .i64 b] 0:=by
  intro f a b r q ok htop hok w3 hw3;refine aS [.int .i64 0,.int .i64 0,.int .i64 0] [.int .i64 f,.int .i64 a,.int .i64 b] rfl (fA _ _ _) w3 hw3 ?_;intro w4 hx4 hz4 hB4;have h4:=h2.on hB4;have hl4:=aj hB4 hl2;have hb14:=ae hb12 hB4;have hpw:p<w.heap.size:=h.lt;have hlw:∀k,l.v.ownBlock=some k→k<w.heap.size:=fun k hk=>(cB h.row k hk).2;intro J hJ;have fin:∀(w5:World) (l':Sl) (es':List HE),dt w5 B p l' turn es'→eA es'→dG B w4 w5 p l l'→(∀k,l'.v.ownBlock=some k→l.v.ownBlock=some k)→es'.length=es.length-1→(∀e∈es,e=hat es 0∨e∈es')→(∀e∈es',e∈es)→J [] w5:=by
   intro w5 l' es' h5 hh5 mv5 hown5 hlen5 hm1 hm2;have hz14:=hb14.size;have hz12:=hb12.size;have hx5:w5.heap[w2.heap.size]? =some (.cells #[Value.int .i64 f,Value.int .i64 a,Value.int .i64 b] 357):=by
    rw [mv5.keep _ (by omega) (by omega) fun e=>by have:=hlw _ e;omega];exact hx4
   have hr5:w5.heap[w.heap.size]? =some (.cells #[Value.int .i64 0,Value.int .i64 0,Value.int .i64 0] 357):=by
    rw [mv5.keep _ (by have:=hb2.size;omega) (by omega) fun e=>by have:=hlw _ e;omega];exact hl4
   refine hJ _ ⟨_,_,_,F1 hx5,?_⟩;refine bf hr5 [.int .i64 f,.int .i64 a,.int .i64 b] rfl (fA _ _ _) ?_;intro w6 hr6 hs6 hz6 hB6;refine⟨_,_,_,F1 hr6,htop.symm,l',es',⟨⟨by rw [hs6 p (by omega)];exact h5.blk,aU h5.row fun k hk=>hs6 k fun e=>by have:=hlw _ (hown5 _ hk);omega,h5.len,h5.off,h5.bp⟩,hh5,⟨fun k hk hp hlb=>?_,fun k hk=>.inl (hown5 k hk),?_,?_⟩⟩,hlen5,hm1,hm2⟩
   ·rw [hs6 k (by omega),mv5.keep k (by omega) hp hlb,hb14.block k hk]
   ·have:=mv5.size;omega
   ·exact hB6 _ _ hB ((hb14.mono hB).trans mv5.below)
  refine ac.mk (fun h0=>?_) fun h0=>?_
  ·have hne:es≠ []:=hok.1 h0;obtain⟨n,hn⟩:∃n,es.length=n+1:=⟨es.length-1,by have:=List.length_pos_iff.2 hne;omega⟩;have hlen:=h4.len;refine af.mk _ rfl ⟨l.a,l.n,l.c,by rw [ai p _ h4.blk];rfl,Ar.ok64 (by omega) (by omega) ?_⟩;have e1:(((l.n:Nat):Int)-1)=((n:Nat):Int):=by omega
   rw [e1];have hz14:=hb14.size;refine(jl w4 B p l turn es h4 (by omega) 0 n (by omega) (by omega)).mono ?_;rintro e w7 ⟨rfl,h7,mv7⟩;obtain⟨a0,c0,hv,hle⟩:=jC h7.row;have hlc:l.n≤l.c:=by
    rcases h7.row.2 with⟨hv,_⟩ |⟨g,cap,cur,hv,_,_,hc,_⟩
    ·obtain⟨la,ln,lc⟩:=l;cases hv;exact Nat.le_refl _
    ·obtain⟨la,ln,lc⟩:=l;cases hv;exact hc
   refine⟨rfl,af.mk _ rfl ⟨l.a,l.n,l.c,by rw [ai p _ h7.blk];rfl,by omega,by omega,by omega,trivial,trivial,af.mk _ rfl ?_⟩⟩;have hsl:cd l.a ((0:Nat):Int).toNat ((l.c:Nat):Int).toNat 6=l.a:=by
    unfold cd;split
    ·rfl
    ·cases l.a with
     |none=>rfl
     |some a=>simp [au]
   have e3:((n:Nat):Int).toNat- ((0:Nat):Int).toNat=n:=by omega
   have e4:((l.c:Nat):Int).toNat- ((0:Nat):Int).toNat=l.c:=by omega
   rw [hsl,e3,e4];refine⟨rfl,⟨_,by rw [ai p _ h7.blk];rfl⟩,be h7.blk,?_⟩;intro w8 hw8;have hblk8:w8.heap[p]? =some (.cells #[.slice l.a n l.c,.int .i64 (turn:Int)] Ij (0,0)):=by subst hw8;exact bF h7.blk _
   have hown8:∀k,(Value.slice l.a n l.c).ownBlock=some k↔l.v.ownBlock=some k:=by
    intro k;exact FG _ _ _ _ _ k
   have hrow8:w8.ownsRow B pb 6 (Value.slice l.a n l.c) n (((qO es 0 n).take n).flatMap jr):=by
    have:=F3 lS h7.row (by rw [cf];exact hlen) n (by rw [cf];omega);subst hw8;exact bD this _ (by rw [av];exact fun e=>h7.off ((hown8 _).1 e))
   have hraw8:dt w8 B p ⟨l.a,n,l.c⟩ turn ((qO es 0 n).take n):=⟨hblk8,hrow8,by rw [List.length_take,cf];show n=_;omega,fun e=>h7.off ((hown8 _).1 e),h7.bp⟩;have mv8:dG B w4 w8 p l ⟨l.a,n,l.c⟩:=by
    refine⟨fun k hk hp hlb=>?_,fun k hk=>.inl ((hown8 k).1 hk),?_,?_⟩
    ·rw [←mv7.keep k hk hp hlb];subst hw8;exact aq (by rw [av];exact hp)
    ·subst hw8;rw [ba];exact mv7.size
    ·subst hw8;exact bv mv7.below h7.bp _
   refine(uj w8 B p ⟨l.a,n,l.c⟩ turn _ hraw8 (by have:=mv8.size;omega) (by rw [List.length_take,cf];omega) (H4 hh n hn)).mono ?_;rintro e w9 ⟨rfl,es',⟨h9,hh9,mv9⟩,hl9,hm9⟩;obtain⟨p1,p2⟩:=Kq n hn;exact⟨rfl,fin w9 ⟨l.a,n,l.c⟩ es' h9 hh9 (mv8.trans mv9) (fun k hk=>(hown8 k).1 hk) (by rw [hl9,List.length_take,cf];omega) (fun e he=>(p1 e he).imp id fun h=>(hm9 e).2 h) fun e he=>p2 e ((hm9 e).1 he)⟩
  ·have hnil:es= []:=by
    rcases Classical.em (es= [])with h |h
    ·exact h
    ·rw [hok.2 h]at h0;cases h0
   refine fin w4 l es h4 hh (dG.of_below p l (Below.refl _ _) (Nat.le_trans hB hb14.size)) (fun _ h=>h) (by rw [hnil];rfl) (fun e he=>.inr he) fun e he=>he
 cases hes:es with
 |nil=>
  subst hes;exact⟨_,_,_,_,_,_,rfl,rest 0 0 0 0 0 false rfl (by simp)⟩
 |cons x t=>
  subst hes;exact⟨_,_,_,_,_,_,rfl,rest x.f x.a x.b x.r x.p true rfl (by simp)⟩
structure Nd where
 id:Int
 ahead:Int
 next:Int
 deriving Inhabited
abbrev aI (ns:List Nd) (p:Nat):Nd:=ns.getD p default
theorem lm {ns:List Nd} {q:Nat} (hq:q<ns.length) (x:Nd) (p:Nat):aI (ns.set q x) p=if p=q then x else aI ns p:=by
 unfold aI;simp only [List.getD_eq_getElem?_getD,List.getElem?_set];by_cases h:q=p
 ·subst h;simp [hq]
 ·rw [if_neg h,if_neg (fun e=>h e.symm)]
def hd (vs:List Nat) (nxt:Int):Int:=match vs with
 | []=>nxt
 |p::_=>p
def lst:List Nat→Int→Int
 | [],prev=>prev
 |p::r,_=>lst r p
def Ch (ns:List Nd):Int→List Nat→Int→Prop
 |_,[],_=>True
 |prev,p::r,nxt=>(aI ns p).ahead=prev∧(aI ns p).next=hd r nxt∧Ch ns p r nxt
theorem dW {ns:List Nd} {vs:List Nat} {nxt:Int}:∀(us:List Nat) (prev:Int),Ch ns prev (us++vs) nxt↔Ch ns prev us (hd vs nxt)∧Ch ns (lst us prev) vs nxt
 | [],prev=>by simp [Ch,lst]
 |p::r,prev=>by
  have hh:hd (r++vs) nxt=hd r (hd vs nxt):=by cases r<;>rfl
  simp only [List.cons_append,Ch,lst,dW r p,hh,and_assoc]
theorem qS {ns ns':List Nd}:∀(ps:List Nat) (prev nxt:Int),(∀p∈ps,(aI ns' p).ahead=(aI ns p).ahead∧(aI ns' p).next=(aI ns p).next)→Ch ns prev ps nxt→Ch ns' prev ps nxt
 | [],_,_,_,_=>trivial
 |p::r,prev,nxt,h,hc=>⟨(h p (by simp)).1.trans hc.1,(h p (by simp)).2.trans hc.2.1,qS r p nxt (fun q hq=>h q (by simp [hq])) hc.2.2⟩
structure lB (ns:List Nd) (ps:List Nat):Prop where
 ch:Ch ns (-1) ps (-1)
 sorted:ps.Pairwise (·< ·)
 lt:∀p∈ps,p<ns.length
 alive:∀p∈ps,0≤(aI ns p).id
 dead:∀p,p<ns.length→p∉ps→(aI ns p).id= -2
 head:ns≠ []→hd ps (-1)=0
def db (ns:List Nd) (ps:List Nat):List Int:=ps.map fun p=>(aI ns p).id
def rt (ns:List Nd) (i q:Nat) (a c:Int):List Nd:=
 if a= -1 then(ns.set q ⟨-2,(aI ns q).ahead,(aI ns q).next⟩).set i ⟨c,(aI ns i).ahead,a⟩
 else((ns.set q ⟨-2,(aI ns q).ahead,(aI ns q).next⟩).set i ⟨c,(aI ns i).ahead,a⟩).set a.toNat ⟨(aI ((ns.set q ⟨-2,(aI ns q).ahead,(aI ns q).next⟩).set i ⟨c,(aI ns i).ahead,a⟩) a.toNat).id,(i:Int),(aI ((ns.set q ⟨-2,(aI ns q).ahead,(aI ns q).next⟩).set i ⟨c,(aI ns i).ahead,a⟩) a.toNat).next⟩
def cH (ns:List Nd) (i:Nat) (c:Int):List Nd:=rt ns i (aI ns i).next.toNat (aI ns (aI ns i).next.toNat).next c
theorem cZ (ns:List Nd) (i:Nat) (c:Int):(cH ns i c).length=ns.length:=by
 unfold cH rt;split<;>simp
theorem zu {ns:List Nd} {i q:Nat} {c z:Int} (hi:i<ns.length) (hq:q<ns.length) (hiq:i<q) (hz:z= -1∨∃a:Nat,z=a∧q<a∧a<ns.length) (p:Nat):
  aI (rt ns i q z c) p=if p=i then⟨c,(aI ns i).ahead,z⟩else if p=q then⟨-2,(aI ns q).ahead,(aI ns q).next⟩else if z=(p:Int)then⟨(aI ns p).id,(i:Int),(aI ns p).next⟩else aI ns p:=by
 have n2:∀(a:Int) (p:Nat),aI ((ns.set q ⟨-2,(aI ns q).ahead,(aI ns q).next⟩).set i ⟨c,(aI ns i).ahead,a⟩) p=if p=i then⟨c,(aI ns i).ahead,a⟩else if p=q then⟨-2,(aI ns q).ahead,(aI ns q).next⟩else aI ns p:=by
  intro a p;rw [lm (by simpa using hi),lm hq]
 unfold rt;rcases hz with rfl |⟨a,rfl,ha1,ha2⟩
 ·rw [if_pos rfl,n2];have:¬((-1:Int)=(p:Int)):=by omega
  rw [if_neg this]
 ·rw [if_neg (by omega),Int.toNat_natCast,lm (by simp;exact ha2),n2,n2];by_cases e:p=a
  ·subst e;rw [if_pos rfl,if_neg (by omega),if_neg (by omega),if_neg (by omega),if_neg (by omega),if_pos rfl]
  ·rw [if_neg e];have:¬((a:Int)=(p:Int)):=by omega
   rw [if_neg this]
theorem lZ {ns:List Nd} {us vs:List Nat} {i q:Nat} {c:Int} (h:lB ns (us++i::q::vs)) (hc:0≤c):
  lB (cH ns i c) (us++i::vs)∧db (cH ns i c) (us++i::vs)=db ns us++c::db ns vs∧(aI ns i).next=q∧(aI ns i).ahead=lst us (-1)∧(∀p,p∈us∨p∈vs→(aI (cH ns i c) p).id=(aI ns p).id)∧(aI (cH ns i c) i).id=c∧(aI (cH ns i c) i).ahead=lst us (-1)∧(aI (cH ns i c) i).next=hd vs (-1):=by
 obtain⟨c1,c2⟩:=(dW us (-1)).1 h.ch;obtain⟨a1,a2,a3,a4,c3⟩:=c2;simp only [hd]at a2;have hs:=h.sorted;rw [List.pairwise_append,List.pairwise_cons,List.pairwise_cons]at hs;obtain⟨s1,⟨s2,s3,s4⟩,s5⟩:=hs;have hi:i<ns.length:=h.lt i (by simp);have hq:q<ns.length:=h.lt q (by simp);have hiq:i<q:=s2 q (by simp);have hus:∀p∈us,p<i:=fun p hp=>s5 p hp i (by simp);have hvs:∀p∈vs,q<p:=s3;have hvl:∀p∈vs,p<ns.length:=fun p hp=>h.lt p (by simp [hp]);have at_:∀p,aI (cH ns i c) p=if p=i then⟨c,(aI ns i).ahead,hd vs (-1)⟩else if p=q then⟨-2,(aI ns q).ahead,(aI ns q).next⟩else if hd vs (-1)=(p:Int)then⟨(aI ns p).id,(i:Int),(aI ns p).next⟩else aI ns p:=by
  intro p;unfold cH;rw [a2,Int.toNat_natCast,a4];refine(zu hi hq hiq ?_ p).trans (by rw [a4]);cases hv:vs with
  |nil=>exact .inl rfl
  |cons a r=>exact .inr ⟨a,rfl,hvs a (by simp [hv]),hvl a (by simp [hv])⟩
 have hvh:∀p:Nat,hd vs (-1)=(p:Int)→p∈vs:=fun p hp=>by
  cases hv:vs with
  |nil=>
   rw [hv]at hp;simp only [hd]at hp;omega
  |cons a r=>
   rw [hv]at hp;simp only [hd]at hp;have:a=p:=by omega
   simp [this]
 have atU:∀p∈us,aI (cH ns i c) p=aI ns p:=by
  intro p hp;have h1:=hus p hp;rw [at_,if_neg (by omega),if_neg (by omega),if_neg fun e=>by have:=hvs p (hvh p e);omega]
 have atV:∀p∈vs,(aI (cH ns i c) p).id=(aI ns p).id∧(aI (cH ns i c) p).next=(aI ns p).next∧(aI (cH ns i c) p).ahead=if hd vs (-1)=(p:Int)then(i:Int)else(aI ns p).ahead:=by
  intro p hp;have h1:=hvs p hp;rw [at_,if_neg (by omega),if_neg (by omega)];by_cases e:hd vs (-1)=(p:Int)
  ·rw [if_pos e,if_pos e];exact⟨rfl,rfl,rfl⟩
  ·rw [if_neg e,if_neg e];exact⟨rfl,rfl,rfl⟩
 have atI:aI (cH ns i c) i=⟨c,(aI ns i).ahead,hd vs (-1)⟩:=by rw [at_,if_pos rfl]
 refine⟨⟨(dW us (-1)).2 ⟨qS us _ _ (fun p hp=>by rw [atU p hp];exact⟨rfl,rfl⟩) c1,?_⟩,?_,?_,?_,?_,?_⟩,?_,a2,a1,fun p hp=>?_,by rw [atI],by rw [atI];exact a1,by rw [atI]⟩
 ·refine⟨by rw [atI];exact a1,by rw [atI],?_⟩;cases hv:vs with
  |nil=>trivial
  |cons a r=>
   rw [hv]at c3;obtain⟨b1,b2,b3⟩:=c3;have ha:=atV a (by rw [hv];simp);have hrs:∀p∈r,a<p:=by
    rw [hv]at s4;exact(List.pairwise_cons.1 s4).1
   refine⟨by rw [ha.2.2,hv];simp [hd],by rw [ha.2.1];exact b2,qS r _ _ (fun p hp=>?_) b3⟩;have h2:=atV p (by rw [hv];simp [hp]);refine⟨?_,h2.2.1⟩;rw [h2.2.2,hv,if_neg fun e=>by have:=hrs p hp;simp only [hd]at e;omega]
 ·rw [List.pairwise_append,List.pairwise_cons];exact⟨s1,⟨fun p hp=>s2 p (by simp [hp]),s4⟩,fun p hp x hx=>s5 p hp x (by
   rcases List.mem_cons.1 hx with rfl |hx
   ·simp
   ·simp [hx])⟩
 ·intro p hp;rw [cZ];exact h.lt p (by
   rcases List.mem_append.1 hp with hp |hp
   ·simp [hp]
   ·rcases List.mem_cons.1 hp with rfl |hp
    ·simp
    ·simp [hp])
 ·intro p hp;rcases List.mem_append.1 hp with hp |hp
  ·rw [atU p hp];exact h.alive p (by simp [hp])
  ·rcases List.mem_cons.1 hp with rfl |hp
   ·rw [atI];exact hc
   ·rw [(atV p hp).1];exact h.alive p (by simp [hp])
 ·intro p hp hn;rw [cZ]at hp;simp only [List.mem_append,List.mem_cons,not_or]at hn;rw [at_,if_neg hn.2.1];by_cases e:p=q
  ·rw [if_pos e]
  ·rw [if_neg e,if_neg fun e=>hn.2.2 (hvh p e)];exact h.dead p hp (by simp [hn.1,hn.2.1,hn.2.2,e])
 ·intro hne;have hne':ns≠ []:=fun e=>by rw [e]at hi;simp at hi
  have:=h.head hne';cases us with
  |nil=>exact this
  |cons u us=>exact this
 ·rw [db,List.map_append,List.map_cons,atI];congr 1
  ·exact List.map_congr_left fun p hp=>by rw [atU p hp]
  ·congr 1;exact List.map_congr_left fun p hp=>(atV p hp).1
 ·rcases hp with hp |hp
  ·rw [atU p hp]
  ·exact(atV p hp).1
def qe (ms:List (Int×Int)) (below:Int) (n:Nat) (e:HE):Prop:=∃(i f:Nat),ms.idxOf? (e.a,e.b)=some i∧e.r=((256+i:Nat):Int)∧e.r<below∧e.f=(f:Int)∧e.p=(f:Int)∧f<n
structure pX (ms:List (Int×Int)) (below:Int) (ns:List Nd) (ps:List Nat) (es:List HE):Prop where
 good:∀e∈es,qe ms below ns.length e
 all:∀us p q vs,ps=us++p::q::vs→∀i,ms.idxOf? ((aI ns p).id,(aI ns q).id)=some i→((256+i:Nat):Int) <below→∃e∈es,e.f=(p:Int)∧e.a=(aI ns p).id∧e.b=(aI ns q).id
def iK (ns:List Nd) (e:HE):Prop:=(aI ns e.f.toNat).id≠e.a∨(aI ns e.f.toNat).next= -1∨(aI ns (aI ns e.f.toNat).next.toNat).id≠e.b
instance (ns:List Nd) (e:HE):Decidable (iK ns e):=by unfold iK;infer_instance
theorem nl {ns:List Nd} {ps:List Nat} {a b:Int} (h:fg a b (db ns ps)):∃us p q vs,ps=us++p::q::vs∧(aI ns p).id=a∧(aI ns q).id=b:=by
 obtain⟨u,v,he⟩:=h;obtain⟨us,rest,rfl,h1,h2⟩:=List.map_eq_append_iff.1 he;obtain⟨p,r1,rfl,h3,h4⟩:=List.map_eq_cons_iff.1 h2;obtain⟨q,vs,rfl,h5,h6⟩:=List.map_eq_cons_iff.1 h4;exact⟨us,p,q,vs,rfl,h3,h5⟩
theorem qw {ms:List (Int×Int)} {below:Int} {ns:List Nd} {ps:List Nat} {e:HE} (hL:lB ns ps) (hg:qe ms below ns.length e) (hpos:∀m∈ms,0≤m.1) (hs:¬iK ns e):
  ∃(us:List Nat) (f q:Nat) (vs:List Nat),ps=us++f::q::vs∧e.f=(f:Int)∧(aI ns f).id=e.a∧(aI ns q).id=e.b∧(aI ns f).next=(q:Int):=by
 obtain⟨i,f,hi,hr,hb,hf,hp,hn⟩:=hg;simp only [iK,not_or,Classical.not_not]at hs;obtain⟨h1,h2,h3⟩:=hs;rw [hf,Int.toNat_natCast]at h1 h2 h3;have hmem:(e.a,e.b)∈ms:=by
  rcases Classical.em ((e.a,e.b)∈ms)with h |h
  ·exact h
  ·rw [List.idxOf?_eq_none_iff.2 h]at hi;cases hi
 have h0:=hpos _ hmem;have hfm:f∈ps:=by
  rcases Classical.em (f∈ps)with h |h
  ·exact h
  ·have:=hL.dead f hn h;omega
 obtain⟨us,rest,rfl⟩:=List.append_of_mem hfm;obtain⟨_,c2⟩:=(dW us (-1)).1 hL.ch;obtain⟨_,a2,_⟩:=c2;cases rest with
 |nil=>exact absurd a2 h2
 |cons q vs=>
  simp only [hd]at a2;rw [a2,Int.toNat_natCast]at h3;exact⟨us,f,q,vs,rfl,hf,h1,h3,a2⟩
theorem sM {k:Int}:∀ {ms:List (Int×Int)} {k:Int} (n:Nat),iT k ms→iT k (ms.take n)
 | [],_,n,_=>by simp [iT]
 |m::ms,k,0,_=>by simp [iT]
 |m::ms,k,n+1,h=>⟨h.1,h.2.1,sM (k:=k) n h.2.2⟩
theorem xv {ms:List (Int×Int)} {i:Nat} {m:Int×Int} (h:m∈ms.take i):∃j,j<i∧ms.idxOf? m=some j:=by
 have hm:m∈ms:=List.mem_of_mem_take h;cases hx:ms.idxOf? m with
 |none=>exact absurd hm (List.idxOf?_eq_none_iff.1 hx)
 |some j=>
  refine⟨j,?_,rfl⟩;obtain⟨hj,he,hb⟩:=List.findIdx?_eq_some_iff_getElem.1 hx;obtain⟨k,hk,rfl⟩:=List.getElem_of_mem h;simp only [List.length_take]at hk;rcases Nat.lt_or_ge j i with h' |h'
  ·exact h'
  ·exfalso;have:=hb k (by omega);simp at this
theorem Ec {ms:List (Int×Int)} {below:Int} {ns:List Nd} {ps:List Nat} {es:List HE} {e:HE} (hL:lB ns ps) (hW:pX ms below ns ps es) (hS:iT 256 ms) (hpos:∀m∈ms,0≤m.1) (he:e∈es) (hmin:∀x∈es,¬x.lt e) {us:List Nat} {f q:Nat} {vs:List Nat} (hps:ps=us++f::q::vs) (hf:e.f=(f:Int)) (ha:(aI ns f).id=e.a) (hb:(aI ns q).id=e.b):
  sR ms below (db ns ps)=sR ms below (db ns us++e.r::db ns vs):=by
 obtain⟨i,f',hi,hr,hlt,hf',hp,hn⟩:=hW.good e he;have hff:f'=f:=by omega
 subst hff;obtain⟨hil,hie,hib⟩:=List.findIdx?_eq_some_iff_getElem.1 hi;have hie:ms[i]=(e.a,e.b):=by simpa using hie
 have hi2:i< (below-256).toNat:=by omega
 have hsplit:ms.take (below-256).toNat=ms.take i++(e.a,e.b)::(ms.drop (i+1)).take ((below-256).toNat- (i+1)):=by
  have h1:ms.take (below-256).toNat=(ms.take (below-256).toNat).take i++(ms.take (below-256).toNat).drop i:=(List.take_append_drop _ _).symm;rw [h1,List.take_take,Nat.min_eq_left (by omega)];congr 1;rw [List.drop_take,List.drop_eq_getElem_cons hil,hie];rw [show(below-256).toNat-i=((below-256).toNat- (i+1))+1 by omega,List.take_succ_cons]
 have hids:db ns ps=db ns us++e.a::e.b::db ns vs:=by rw [hps,db,List.map_append,List.map_cons,List.map_cons,ha,hb];rfl
 have entry:∀(us':List Nat) (p q':Nat) (vs':List Nat),ps=us'++p::q'::vs'→∀j,ms.idxOf? ((aI ns p).id,(aI ns q').id)=some j→j≤i→¬(j<i∨p<f'):=by
  intro us' p q' vs' hps' j hj hji hor;obtain⟨x,hx,hxf,hxa,hxb⟩:=hW.all us' p q' vs' hps' j hj (by omega);obtain⟨j',fx,hj',hxr,_,hxf',hxp,_⟩:=hW.good x hx;rw [hxa,hxb,hj]at hj';cases hj';apply hmin x hx;unfold HE.lt;omega
 unfold sR;rw [hsplit,hids];have hlen:(ms.take i).length=i:=by rw [List.length_take];omega
 have:=IX (k:=256) (low:=ms.take i) (high:=(ms.drop (i+1)).take ((below-256).toNat- (i+1))) (m:=(e.a,e.b)) (u:=db ns us) (v:=db ns vs) (by rw [←hsplit];exact sM (k:=0) _ hS) ?_ ?_
 ·rw [hlen]at this;rw [this];congr 2;congr 1;omega
 ·intro m hm hbs;have hbs:fg m.1 m.2 (db ns ps):=by rw [hids];exact hbs
  obtain⟨us',p,q',vs',hps',h1,h2⟩:=nl hbs;obtain⟨j,hj,hjx⟩:=xv hm;exact entry us' p q' vs' hps' j (by rw [h1,h2];exact hjx) (by omega) (.inl hj)
 ·intro hbs;have hbs:fg e.a e.b (db ns (us++ [f'])):=by
   have:db ns (us++ [f'])=db ns us++ [e.a]:=by rw [db,List.map_append,List.map_cons,ha];rfl
   rw [this];exact hbs
  obtain⟨us',p,q',vs',hps',h1,h2⟩:=nl hbs;have hps2:ps=us'++p::q'::(vs'++q::vs):=by
   rw [hps];have:us++f'::q::vs=(us++ [f'])++q::vs:=by simp
   rw [this,hps'];simp
  have hpf:p<f':=by
   have hs:=hL.sorted;rw [hps,show us++f'::q::vs=(us++ [f'])++q::vs by simp]at hs;have hs:=(List.pairwise_append.1 hs).1;have hq:q'∈us++ [f']:=by rw [hps'];simp
   have hpq:p<q':=by
    rw [hps',List.pairwise_append,List.pairwise_cons]at hs;exact hs.2.1.1 q' (by simp)
   rcases List.mem_append.1 hq with hq |hq
   ·have hs2:=(List.pairwise_append.1 ((by
     have h0:=hL.sorted;rw [hps]at h0;exact h0):(us++f'::q::vs).Pairwise (·< ·))).2.2 q' hq f' (by simp)
    omega
   ·have:=List.mem_singleton.1 hq;omega
  exact entry us' p q' _ hps2 i (by rw [h1,h2];exact hi) (Nat.le_refl _) (.inr hpf)
theorem zp {ms:List (Int×Int)} {below:Int} {ns:List Nd} {ps:List Nat} {es es':List HE} {e:HE} (hL:lB ns ps) (hW:pX ms below ns ps es) (h1:∀x∈es,x=e∨x∈es') (h2:∀x∈es',x∈es) (hs:iK ns e):pX ms below ns ps es':=by
 refine⟨fun x hx=>hW.good x (h2 x hx),fun us p q vs hps i hi hb=>?_⟩;obtain⟨x,hx,hf,ha,hb'⟩:=hW.all us p q vs hps i hi hb;rcases h1 x hx with rfl |hx
 ·exfalso;have hc:=hL.ch;rw [hps]at hc;obtain⟨_,_,a2,_⟩:=(dW us (-1)).1 hc;simp only [hd]at a2;unfold iK at hs;rw [hf,Int.toNat_natCast,a2,Int.toNat_natCast]at hs;rcases hs with h |h |h
  ·exact h ha.symm
  ·omega
  ·exact h hb'.symm
 ·exact⟨x,hx,hf,ha,hb'⟩
def kG (ms:List (Int×Int)) (below:Int) (ns:List Nd) (j:Int) (es:List HE):Prop:=∀(p q:Nat) (i:Nat),j=(p:Int)→(aI ns p).next=(q:Int)→ms.idxOf? ((aI ns p).id,(aI ns q).id)=some i→((256+i:Nat):Int) <below→∃e∈es,e.f=(p:Int)∧e.a=(aI ns p).id∧e.b=(aI ns q).id
theorem rI:∀(us:List Nat) (p:Nat) (prev:Int),lst (us++ [p]) prev=p
 | [],p,prev=>rfl
 |u::us,p,prev=>rI us p u
theorem Dm {ms:List (Int×Int)} {below:Int} {ns:List Nd} {us vs:List Nat} {i q:Nat} {c:Int} {es es1 es':List HE} {e:HE} (hL:lB ns (us++i::q::vs)) (hc:0≤c) (hW:pX ms below ns (us++i::q::vs) es) (hei:e.f=(i:Int)) (h1:∀x∈es,x=e∨x∈es1) (h2:∀x∈es1,x∈es)
  (g1:∀x∈es1,x∈es') (g2:∀x∈es',x∈es1∨qe ms below ns.length x) (q1:kG ms below (cH ns i c) (lst us (-1)) es') (q2:kG ms below (cH ns i c) i es'):pX ms below (cH ns i c) (us++i::vs) es':=by
 obtain⟨hL',_,hnx,hah,hid,hidi,hahi,hnxi⟩:=lZ hL hc;have hs:=hL.sorted;rw [List.pairwise_append,List.pairwise_cons]at hs;have hiu:i∉us:=fun h=>by have:=hs.2.2 i h i (by simp);omega
 have hiv:i∉vs:=fun h=>by have:=hs.2.1.1 i (by simp [h]);omega
 refine⟨fun x hx=>?_,fun us' p r vs' hps j hj hb=>?_⟩
 ·rw [cZ];rcases g2 x hx with h |h
  ·exact hW.good x (h2 x h)
  ·exact h
 ·have hch:=hL'.ch;rw [hps]at hch;obtain⟨_,b1,b2,_⟩:=(dW us' (-1)).1 hch;simp only [hd]at b2;have old:(∃us0 vs0,us++i::q::vs=us0++p::r::vs0)→p≠i→(p∈us∨p∈vs)→(r∈us∨r∈vs)→∃x∈es',x.f=(p:Int)∧x.a=(aI (cH ns i c) p).id∧x.b=(aI (cH ns i c) r).id:=by
   rintro⟨us0,vs0,h0⟩ hpi hp hr;rw [hid p hp,hid r hr]at hj⊢;obtain⟨x,hx,hf,ha,hb'⟩:=hW.all us0 p r vs0 h0 j hj hb;refine⟨x,?_,hf,ha,hb'⟩;rcases h1 x hx with rfl |h
   ·exfalso;omega
   ·exact g1 x h
  rcases List.append_eq_append_iff.1 hps with⟨t,ht,hc'⟩ |⟨t,ht,hc'⟩
  ·-- us' = us ++ t, i :: vs = t ++ p :: r :: vs'
   cases t with
   |nil=>
    simp only [List.nil_append,List.cons.injEq]at hc';obtain⟨rfl,_⟩:=hc';exact q2 i r j rfl b2 hj hb
   |cons t0 t=>
    simp only [List.cons_append,List.cons.injEq]at hc';obtain⟨rfl,hv⟩:=hc';have hpv:p∈vs:=by rw [hv];simp
    refine old ⟨us++i::q::t,vs',by rw [hv];simp⟩ (fun e=>hiv (e▸hpv)) (.inr hpv) (.inr (by rw [hv];simp))
  ·-- us = us' ++ t, p :: r :: vs' = t ++ i :: vs
   match t,hc' with
   | [],hc'=>
    simp only [List.nil_append,List.cons.injEq]at hc';obtain⟨rfl,_⟩:=hc';exact q2 p r j rfl b2 hj hb
   | [t0],hc'=>
    simp only [List.cons_append,List.nil_append,List.cons.injEq]at hc';obtain⟨rfl,rfl,_⟩:=hc';have:lst us (-1)=(p:Int):=by rw [ht];exact rI us' p (-1)
    rw [this]at q1;exact q1 p r j rfl b2 hj hb
   |t0::t1::t,hc'=>
    simp only [List.cons_append,List.cons.injEq]at hc';obtain⟨rfl,rfl,_⟩:=hc';have hpu:p∈us:=by rw [ht];simp
    have hru:r∈us:=by rw [ht];simp
    exact old ⟨us',t++i::q::vs,by rw [ht];simp⟩ (fun e=>hiu (e▸hpu)) (.inl hpu) (.inl hru)
theorem DT {ms:List (Int×Int)} {below:Int} {ns:List Nd} {ps:List Nat} (hW:pX ms below ns ps []):sR ms below (db ns ps)=db ns ps:=by
 refine ic _ _ _ fun m hm hb=>?_;obtain⟨us,p,q,vs,hps,h1,h2⟩:=nl hb;obtain⟨j,hj,hjx⟩:=xv hm;obtain⟨x,hx,_⟩:=hW.all us p q vs hps j (by rw [h1,h2];exact hjx) (by omega);cases hx
def jp (bs:List Int):List Nd:=bs.zipIdx.map fun x=>{id:=x.1,ahead:=(x.2:Int)-1,next:=if x.2+1=bs.length then -1 else(x.2:Int)+1}
theorem ew (bs:List Int):(jp bs).length=bs.length:=by simp [jp]
theorem qL {bs:List Int} {p:Nat} (hp:p<bs.length):aI (jp bs) p= {id:=bs[p],ahead:=(p:Int)-1,next:=if p+1=bs.length then -1 else(p:Int)+1}:=by
 simp [aI,jp,List.getD_eq_getElem?_getD,hp]
theorem Df (bs:List Int):∀(k p:Nat),p+k=bs.length→Ch (jp bs) ((p:Int)-1) (List.range' p k) (-1)
 |0,p,h=>trivial
 |k+1,p,h=>by
  simp only [List.range'_succ,Ch];rw [qL (show p<bs.length by omega)];refine⟨rfl,?_,?_⟩
  ·cases k with
   |zero=>simp [hd];omega
   |succ k=>
    rw [if_neg (by omega)];simp [List.range'_succ,hd]
  ·have:=Df bs k (p+1) (by omega);rw [show((p+1:Nat):Int)-1=(p:Int) by omega]at this;exact this
theorem Hj {bs:List Int} (h:∀b∈bs,0≤b):lB (jp bs) (List.range' 0 bs.length)∧db (jp bs) (List.range' 0 bs.length)=bs:=by
 refine⟨⟨by have:=Df bs bs.length 0 (by omega);simpa using this,?_,fun p hp=>?_,fun p hp=>?_,fun p hp hn=>?_,fun hne=>?_⟩,?_⟩
 ·exact List.pairwise_lt_range' (s:=0) (n:=bs.length)
 ·rw [ew];have:=List.mem_range'_1.1 hp;omega
 ·have:=List.mem_range'_1.1 hp;rw [qL (by omega)];exact h _ (List.getElem_mem _)
 ·rw [ew]at hp;exact absurd (List.mem_range'_1.2 ⟨by omega,by omega⟩) hn
 ·cases bs with
  |nil=>exact absurd rfl hne
  |cons b bs=>rfl
 ·apply List.ext_getElem
  ·simp [db]
  ·intro i h1 h2;simp only [db,List.getElem_map,List.getElem_range'];rw [show 0+1*i=i by omega,qL h2]
theorem F2 {ms:List (Int×Int)} {below:Int} {bs:List Int} {es:List HE} (hg:∀e∈es,qe ms below bs.length e) (ha:∀p,p<bs.length→kG ms below (jp bs) p es):pX ms below (jp bs) (List.range' 0 bs.length) es:=by
 refine⟨by rw [ew];exact hg,fun us p q vs hps i hi hb=>?_⟩;have hpm:p∈List.range' 0 bs.length:=by rw [hps];simp
 have hp:p<bs.length:=by have:=List.mem_range'_1.1 hpm;omega
 refine ha p hp p q i rfl ?_ hi hb;have hc:=Df bs bs.length 0 (by omega);rw [hps]at hc;obtain⟨_,_,a2,_⟩:=(dW us _).1 hc;exact a2
theorem vi {α:Type} {enc:α→List Value} {sz:Nat} (hsz:∀x,(enc x).length=sz) (m:α) (k:Nat) (v:Value):∀(xs:List α) (i:Nat) (x:α),xs[i]? =some x→k<sz→enc m=(enc x).set k v→(xs.flatMap enc).set (i*sz+k) v=(xs.set i m).flatMap enc
 | [],i,x,h,_,_=>by simp at h
 |y::t,0,x,h,hk,he=>by
  simp at h;subst h;simp only [List.flatMap_cons,List.set_cons_zero,Nat.zero_mul,Nat.zero_add,he];rw [List.set_append_left _ _ (by rw [hsz];exact hk)]
 |y::t,i+1,x,h,hk,he=>by
  have ih:=vi hsz m k v t i x (by simpa using h) hk he;simp only [List.flatMap_cons,List.set_cons_succ];rw [←ih,Nat.add_mul,Nat.one_mul,List.set_append_right _ _ (by rw [hsz];omega)];congr 1;rw [hsz];congr 1;omega
theorem kN {w:World} {B:Nat} {e:TypeId} {sz:Nat} {l:Sl} {α:Type} {enc:α→List Value} {xs:List α} (hsz:∀x,(enc x).length=sz) (h0:0<sz) (h:w.ownsRow B e sz l.v l.n (xs.flatMap enc)) {i:Nat} {x:α} (hi:xs[i]? =some x):∃a,l.a=some a∧∀k v,(enc x)[k]? =some v→w.cell? ((a.add (i*sz)).add k)=some v:=by
 obtain⟨a,ha,_,hc⟩:=(Rw.of_own h hsz h0).1 i _ hi;exact⟨a,ha,hc⟩
theorem gc {w:World} {B:Nat} {e:TypeId} {sz:Nat} {l:Sl} {α:Type} {enc:α→List Value} {xs:List α} (hsz:∀x,(enc x).length=sz) (h0:0<sz) (h:w.ownsRow B e sz l.v l.n (xs.flatMap enc)) (hn:l.n=xs.length) {a:Addr} (ha:l.a=some a) {i:Nat} {x:α} (hi:xs[i]? =some x) {k:Nat} (hk:k<sz) (m:α) (v:Value) (he:enc m=(enc x).set k v):
  (∃u,w.cell? ((a.add (i*sz)).add k)=some u)∧w.frozen? ((a.add (i*sz)).add k)=false∧∀w',w'=w.setCell ((a.add (i*sz)).add k) v→w'.ownsRow B e sz l.v l.n ((xs.set i m).flatMap enc)∧(∀j,l.v.ownBlock≠some j→w'.heap[j]? =w.heap[j]?)∧w'.heap.size=w.heap.size∧(∀B0 w0,B0≤B→Below B0 w0 w→Below B0 w0 w'):=by
 have hlt:i<xs.length:=(List.getElem?_eq_some_iff.1 hi).1;rcases h.2 with⟨hv,_⟩ |⟨g,cap,cur,hv,hb,hg,hc,hm,hz,ht⟩
 ·obtain⟨la,ln,lc⟩:=l;cases hv;cases ha
 ·obtain⟨la,ln,lc⟩:=l;cases hv;cases ha;simp only at hn;change ln≤lc at hc;change cur.size=lc*sz at hz;change cur.toList.take (ln*sz)=_ at ht;have hle:(i+1)*sz≤xs.length*sz:=Nat.mul_le_mul_right sz hlt;have hle2:xs.length*sz≤lc*sz:=Nat.mul_le_mul_right sz (by omega);have hle3:ln*sz=xs.length*sz:=by rw [hn]
  rw [Nat.add_mul,Nat.one_mul]at hle;have hadr:(((⟨g,0,none⟩:Addr).add (i*sz)).add k)=(⟨g,0,none⟩:Addr).add (i*sz+k):=by rw [Addr.add_add]
  rw [hadr];refine⟨⟨cur[i*sz+k]'(by omega),by rw [aH hg];simp⟩,be hg,?_⟩;rintro w' rfl;refine⟨⟨?_,.inr ⟨g,lc,_,rfl,hb,bF hg _,hc,hm,by simpa using hz,?_⟩⟩,fun j hj=>aq (by rw [av];exact fun e=>hj (by rw [e];rfl)),ba _ _ _,fun B0 w0 hB0 h0=>bv h0 (by omega) _⟩
  ·show((xs.set i m).flatMap enc).length=ln*sz;rw [bY hsz,List.length_set,hn]
  ·show(cur.setIfInBounds (i*sz+k) v).toList.take (ln*sz)=_;rw [←vi hsz m k v xs i x hi hk he, ←ht,Array.toList_setIfInBounds,List.take_set]
theorem aE {w:World} {B:Nat} {e e':TypeId} {sz n k:Nat} {v:Value} {xs:List Value} {c:Array Value} {fz:Nat×Nat} (h:w.ownsRow B e sz v n xs) (hk:w.heap[k]? =some (.cells c e' fz)) (hne:e≠e'):v.ownBlock≠some k:=by
 intro hb;rcases h.2 with⟨rfl,_⟩ |⟨g,cap,cur,rfl,_,hg,_⟩
 ·cases hb
 ·cases hb;rw [hk]at hg;cases hg;exact hne rfl
theorem cn {w:World} {B B':Nat} {e e':TypeId} {sz sz' n n':Nat} {v v':Value} {xs xs':List Value} (h:w.ownsRow B e sz v n xs) (h':w.ownsRow B' e' sz' v' n' xs') (hne:e≠e'):∀k,v.ownBlock=some k→v'.ownBlock≠some k:=by
 intro k hb;rcases h.2 with⟨rfl,_⟩ |⟨g,cap,cur,rfl,_,hg,_⟩
 ·cases hb
 ·cases hb;exact aE h' hg (fun e=>hne e.symm)
abbrev MT:TypeId:=360
abbrev ze:TypeId:=362
abbrev Hq:TypeId:=358
abbrev MJ:TypeId:=357
theorem Ha:Tryz.prog.underlying Hq=some (.slice ze):=by kernel_rfl
theorem IK:(Tryz.prog.info? ze).map (fun i=>(i.zero,i.size,i.bytes))=some (some (.agg #[.int .i64 0,.int .i64 0,.int .i64 0]),3,24):=by kernel_rfl
def mu (x:Nd):List Value:=[.int .i64 x.id,.int .i64 x.ahead,.int .i64 x.next]
theorem uZ (x:Nd):(mu x).length=3:=rfl
theorem uw (x:Nd):∀u∈mu x,u.oneCell'=true:=f_ _ _ _
structure cF (w:World) (B tp p q:Nat) (l lq:Sl) (turn:Nat) (below steps:Int) (ns:List Nd) (es:List HE):Prop where
 blk:w.heap[p]? =some (.cells #[.pointer (some ⟨tp,0,none⟩),l.v,.pointer (some ⟨q,0,none⟩),.int .i64 below,.int .i64 steps] MT (0,0))
 row:w.ownsRow B ze 3 l.v l.n (ns.flatMap mu)
 len:l.n=ns.length
 hp:dt w B q lq turn es
 bp:B≤p
theorem cF.on {w w':World} {B tp p q:Nat} {l lq:Sl} {turn:Nat} {below steps:Int} {ns:List Nd} {es:List HE} (h:cF w B tp p q l lq turn below steps ns es) (hb:Below w.heap.size w w'):cF w' B tp p q l lq turn below steps ns es:=⟨aj hb h.blk,aF h.row hb,h.len,h.hp.on hb,h.bp⟩
theorem cF.pq {w:World} {B tp p q:Nat} {l lq:Sl} {turn:Nat} {below steps:Int} {ns:List Nd} {es:List HE} (h:cF w B tp p q l lq turn below steps ns es):p≠q:=by
 rintro rfl;have:=h.blk;rw [h.hp.blk]at this;cases this
theorem cF.lt {w:World} {B tp p q:Nat} {l lq:Sl} {turn:Nat} {below steps:Int} {ns:List Nd} {es:List HE} (h:cF w B tp p q l lq turn below steps ns es):p<w.heap.size:=(Array.getElem?_eq_some_iff.1 h.blk).1
theorem cF.move {w w':World} {B tp p q:Nat} {l lq lq':Sl} {turn turn':Nat} {below steps:Int} {ns:List Nd} {es es':List HE} (h:cF w B tp p q l lq turn below steps ns es) (hd:kb w w' B q lq lq' turn' es'):cF w' B tp p q l lq' turn' below steps ns es':=by
 refine⟨?_,aU h.row fun k hk=>hd.moves.keep k (cB h.row k hk).2 ?_ ?_,h.len,hd.raw,h.bp⟩
 ·rw [hd.moves.keep p h.lt h.pq (aE h.hp.row h.blk (by decide))];exact h.blk
 ·rintro rfl;exact aE h.row h.hp.blk (by decide) hk
 ·exact cn h.row h.hp.row (by decide) k hk
theorem cF.cell {w:World} {B tp p q:Nat} {l lq:Sl} {turn:Nat} {below steps:Int} {ns:List Nd} {es:List HE} (h:cF w B tp p q l lq turn below steps ns es) {i:Nat} (hi:i<ns.length):∃a,l.a=some a∧∀k v,(mu (aI ns i))[k]? =some v→w.cell? ((a.add (i*3)).add k)=some v:=by
 have e:ns[i]? =some (aI ns i):=by simp [aI,hi]
 exact kN uZ (by decide) h.row e
theorem cF.words {w:World} {B tp p q:Nat} {l lq:Sl} {turn:Nat} {below steps:Int} {ns:List Nd} {es:List HE} (h:cF w B tp p q l lq turn below steps ns es):∀j,w.cell? ((⟨p,0,none⟩:Addr).add j)=(#[.pointer (some ⟨tp,0,none⟩),l.v,.pointer (some ⟨q,0,none⟩),.int .i64 below,.int .i64 steps]:Array Value)[j]? :=fun j=>ai p _ h.blk j
def mS (ns:List Nd):Prop:=∀i,i<ns.length→(aI ns i).next= -1∨∃k:Nat,(aI ns i).next=(k:Int)∧k<ns.length
structure wo (w w':World) (B tp p q:Nat) (l:Sl) (turn:Nat) (below steps:Int) (ns:List Nd) (es:List HE) (ms:List (Int×Int)) (lq':Sl) (turn':Nat) (es':List HE):Prop where
 raw:cF w' B tp p q l lq' turn' below steps ns es'
 heap:eA es'
 keep:∀x∈es,x∈es'
 new:∀x∈es',x∈es∨qe ms below ns.length x
 len:es'.length≤es.length+1
 turn:turn'≤turn+1
 below:Below B w w'
theorem po (W w:World) (B tp p q:Nat) (l lq:Sl) (turn:Nat) (below steps:Int) (ns:List Nd) (es:List HE) (T:List aT) (hT:dl W tp T) (hW:W.heap.size≤B) (hWw:Below B W w)
  (h:cF w B tp p q l lq turn below steps ns es) (hh:eA es) (hB:B≤w.heap.size) (hn:mS ns) (hl:es.length≤900000) (ht:turn≤1000000000) (j:Int) (hj:j= -1∨∃f:Nat,j=(f:Int)∧f<ns.length):
  CP 280 #[.pointer (some ⟨p,0,none⟩),.int .i64 j] w fun e w'=>e= .returned (.tuple #[])∧∃lq' turn' es',wo w w' B tp p q l turn below steps ns es (ao T) lq' turn' es'∧kG (ao T) below ns j es':=by
 refine aJ (B1 (some ⟨p,0,none⟩) j w (fun v w'=>v= .tuple #[]∧∃lq' turn' es',wo w w' B tp p q l turn below steps ns es (ao T) lq' turn' es'∧kG (ao T) below ns j es') ?_) (by rintro v w' ⟨rfl,h⟩;exact⟨rfl,h⟩);have stay:∀w':World,Below w.heap.size w w'→kG (ao T) below ns j es→(Value.tuple #[]=Value.tuple #[]∧∃lq' turn' es',wo w w' B tp p q l turn below steps ns es (ao T) lq' turn' es'∧kG (ao T) below ns j es'):=fun w' hb ha=>⟨rfl,lq,turn,es,⟨h.on hb,hh,fun _ h=>h,fun _ h=>.inl h,by omega,by omega,hb.mono hB⟩,ha⟩;refine ac.mk (fun h0=>?_) fun h0=>?_
 ·have h0:j= -1:=by simpa using h0
  exact stay w (Below.refl _ _) fun p' q' i hp'=>by omega
 ·have h0:j≠ -1:=by simpa using h0
  obtain⟨f,rfl,hf⟩:=hj.resolve_left h0;obtain⟨a,ha,hc⟩:=h.cell hf;have hlen:=h.len;have ef:((f:Int)).toNat=f:=by omega
  rw [ef];refine af.mk _ rfl ⟨l.a,l.n,l.c,h.words 1,af.mk a ha ⟨by omega,by omega,_,hc 2 _ rfl,ac.mk (fun h1=>?_) fun h1=>?_⟩⟩
  ·have h1:(aI ns f).next= -1:=by simpa using h1
   refine stay w (Below.refl _ _) fun p' q' i hp' hq'=>?_;have:p'=f:=by omega
   subst this;omega
  ·have h1:(aI ns f).next≠ -1:=by simpa using h1
   obtain⟨g,hg,hgl⟩:=(hn f hf).resolve_left h1;intro w1 hw1;have hb1:Below w.heap.size w w1:=by subst hw1;exact aO w
   have hL1:=h.on hb1;obtain⟨a1,ha1,hc1⟩:=hL1.cell hf;have hea:a1=a:=by rw [ha]at ha1;exact(Option.some.inj ha1).symm
   subst hea;obtain⟨a2,ha2,hcg⟩:=hL1.cell hgl;have hea:a2=a1:=by rw [ha]at ha2;exact(Option.some.inj ha2).symm
   subst hea;have eg:((g:Int)).toNat=g:=by omega
   refine af.mk _ rfl ⟨l.a,l.n,l.c,hL1.words 1,af.mk a2 ha ⟨by omega,by omega,_,hc1 0 _ rfl,af.mk _ rfl ⟨l.a,l.n,l.c,hL1.words 1,af.mk _ rfl ⟨l.a,l.n,l.c,hL1.words 1,af.mk a2 ha ⟨by omega,by omega,_,hc1 2 _ rfl,af.mk a2 ha ⟨by rw [hg];omega,by rw [hg];omega,?_⟩⟩⟩⟩⟩⟩;rw [hg,eg];refine⟨_,hcg 0 _ rfl,?_⟩;intro w2 hw2;have hb2:Below w1.heap.size w1 w2:=by subst hw2;exact ah _ _
   have hL2:=hL1.on hb2;obtain⟨a3,ha3,hc2⟩:=hL2.cell hf;have hea:a3=a2:=by rw [ha]at ha3;exact(Option.some.inj ha3).symm
   subst hea;obtain⟨a4,ha4,hcg2⟩:=hL2.cell hgl;have hea:a4=a3:=by rw [ha]at ha4;exact(Option.some.inj ha4).symm
   subst hea;refine⟨⟨hcg2 0 _ rfl,trivial⟩,⟨by have:=hc2 2 _ rfl;rwa [hg]at this,trivial⟩,⟨hL2.words 1,trivial⟩,⟨hL2.words 1,trivial⟩,⟨hc2 0 _ rfl,trivial⟩,⟨hL2.words 1,trivial⟩,?_⟩;refine aS [.int .i64 0,.int .i64 0] [.int .i64 (aI ns f).id,.int .i64 (aI ns g).id] rfl (cw _ _) w2 hw2 ?_;intro w3 h3 hz3 hB3 w4 hw4;have hb4:Below w1.heap.size w1 w4:=by subst hw4;exact hB3.drew
   have h4:w4.heap[w1.heap.size]? =some (.cells #[Value.int .i64 (aI ns f).id,Value.int .i64 (aI ns g).id] mh (0,0)):=by subst hw4;exact h3
   have hL4:=hL1.on hb4;have hb04:=ae hb1 hb4;have hB04:Below B W w4:=hWw.trans (hb04.mono hB);refine af.mk _ rfl ⟨_,hL4.words 0,_,ai _ _ h4 0,_,ai _ _ h4 1,?_⟩;refine(nD w4 tp T (hT.on (hB04.mono hW)) _ _).mono ?_;rintro e w5 ⟨rfl,hb5⟩;have hL5:=hL4.on hb5;have hb05:=ae hb04 hb5;have h5:=aj hb5 h4;cases hx:(ao T).idxOf? ((aI ns f).id,(aI ns g).id)with
   |none=>
    refine⟨_,_,rfl,ac.no rfl (stay w5 hb05 fun p' q' i hp' hq' hi=>?_)⟩;have:p'=f:=by omega
    subst this;have:q'=g:=by omega
    subst this;rw [hx]at hi;cases hi
   |some i=>
    refine⟨_,_,rfl,ac.yes rfl (af.mk _ rfl ⟨below,hL5.words 3,ac.mk (fun hlt=>?_) fun hlt=>?_⟩)⟩
    ·have hlt:((256+i:Nat):Int) <below:=by simpa using hlt
     intro w6 hw6;have hb6:Below w5.heap.size w5 w6:=by subst hw6;exact aO w5
     have hL6:=hL5.on hb6;have h6:=aj hb6 h5;have hb06:=ae hb05 hb6;have hz06:=hb06.size;refine af.mk _ rfl ⟨_,hL6.words 2,_,_,⟨by have:=ai _ _ h6 0;rw [au]at this;exact this,ai _ _ h6 1,trivial⟩,?_⟩;refine(ua w6 B q lq turn es hL6.hp (by omega) hh hl ht _ _ _ _ _).mono ?_;rintro e w7 ⟨rfl,lq',es',hd,hl',hm'⟩;refine⟨rfl,rfl,lq',turn+1,es',⟨hL6.move hd,hd.heap,fun x hx1=>(hm' x).2 (.inl hx1),fun x hx1=>?_,by omega,by omega,(hb06.mono hB).trans hd.moves.below⟩,fun p' q' i' hp' hq' hi' hlt'=>?_⟩
     ·rcases(hm' x).1 hx1 with h |h
      ·exact .inl h
      ·right;subst h;exact⟨i,f,hx,rfl,hlt,rfl,rfl,hf⟩
     ·have:p'=f:=by omega
      subst this;have:q'=g:=by omega
      subst this;exact⟨_,(hm' _).2 (.inr rfl),rfl,rfl,rfl⟩
    ·have hlt:¬((256+i:Nat):Int) <below:=by simpa using hlt
     refine stay w5 hb05 fun p' q' i' hp' hq' hi' hlt'=>?_;have:p'=f:=by omega
     subst this;have:q'=g:=by omega
     subst this;rw [hx]at hi';cases hi';exact absurd hlt' hlt
theorem Ey (w:World) (B tp p q:Nat) (l lq:Sl) (turn:Nat) (below steps:Int) (ns:List Nd) (es:List HE) (h:cF w B tp p q l lq turn below steps ns es) (hn:mS ns) (x:HE) (f:Nat) (hf:x.f=(f:Int)) (hfl:f<ns.length):
  CP 282 #[.pointer (some ⟨p,0,none⟩),.agg #[.int .i64 x.f,.int .i64 x.a,.int .i64 x.b]] w fun e w'=>e= .returned (.bool (decide (iK ns x)))∧Below w.heap.size w w':=by
 refine aJ (xl (some ⟨p,0,none⟩) x.f x.a x.b w (fun v w'=>v= .bool (decide (iK ns x))∧Below w.heap.size w w') ?_) (by rintro v w' ⟨rfl,h⟩;exact⟨rfl,h⟩);intro w1 hw1 w2 hw2;have hb2:Below w.heap.size w w2:=by subst hw2;subst hw1;exact(ah _ _).drew
 have hl2:w2.heap[w.heap.size]? =some (.cells #[Value.int .i64 x.f,Value.int .i64 x.a,Value.int .i64 x.b] MJ (0,0)):=by subst hw2;subst hw1;exact ap _ _
 have hL2:=h.on hb2;obtain⟨a,ha,hc⟩:=hL2.cell hfl;have hlen:=h.len;have ef:(x.f).toNat=f:=by omega
 have c0:=hc 0 _ rfl;rw [au]at c0;refine af.mk _ rfl ⟨l.a,l.n,l.c,hL2.words 1,_,ai _ _ hl2 0,af.mk a ha ⟨by omega,by omega,?_⟩⟩;rw [ef];refine⟨_,_,_,⟨c0,hc 1 _ rfl,hc 2 _ rfl,trivial⟩,?_⟩;intro w3 hw3;have hb3:Below w2.heap.size w2 w3:=by subst hw3;exact ah _ _
 obtain⟨a',ha',hc'⟩:=(hL2.on hb3).cell hfl;have hea:a'=a:=by rw [ha]at ha';exact(Option.some.inj ha').symm
 subst hea;have c0':=hc' 0 _ rfl;rw [au]at c0';refine⟨⟨c0',hc' 1 _ rfl,hc' 2 _ rfl,trivial⟩,⟨ai _ _ (aj hb3 hl2) 0,trivial⟩,⟨(hL2.on hb3).words 1,trivial⟩,?_⟩;refine aS [.int .i64 0,.int .i64 0,.int .i64 0] (mu (aI ns f)) rfl (uw _) w3 hw3 ?_;intro w4 h4 hz4 hB4 w5 hw5;have hb5:Below w2.heap.size w2 w5:=by subst hw5;exact hB4.drew
 have h5:w5.heap[w2.heap.size]? =some (.cells (mu (aI ns f)).toArray ze (0,0)):=by subst hw5;exact h4
 have hl5:=aj hb5 hl2;have hL5:=hL2.on hb5;have hb05:=ae hb2 hb5;have st:∀b:Bool,(b=true↔iK ns x)→(Value.bool b= .bool (decide (iK ns x))∧Below w.heap.size w w5):=fun b hb=>⟨by congr 1;rw [Bool.eq_iff_iff,hb,decide_eq_true_eq],hb05⟩;have hS:iK ns x↔((aI ns f).id≠x.a∨(aI ns f).next= -1∨(aI ns (aI ns f).next.toNat).id≠x.b):=by unfold iK;rw [ef]
 refine⟨_,ai _ _ h5 0,_,by rw [Addr.add_add];exact ai _ _ hl5 1,ac.mk (fun h0=>?_) fun h0=>?_⟩
 ·have h0:(aI ns f).id≠x.a:=by simpa using h0
  exact st true ⟨fun _=>hS.2 (.inl h0),fun _=>rfl⟩
 ·have h0:(aI ns f).id=x.a:=by simpa using h0
  refine⟨_,ai _ _ h5 2,ac.mk (fun h1=>?_) fun h1=>?_⟩
  ·have h1:(aI ns f).next= -1:=by simpa using h1
   exact st true ⟨fun _=>hS.2 (.inr (.inl h1)),fun _=>rfl⟩
  ·have h1:(aI ns f).next≠ -1:=by simpa using h1
   obtain⟨g,hg,hgl⟩:=(hn f hfl).resolve_left h1;obtain⟨a2,ha2,hcg⟩:=hL5.cell hgl;have eg:((g:Int)).toNat=g:=by omega
   refine af.mk _ rfl ⟨l.a,l.n,l.c,hL5.words 1,_,ai _ _ h5 2,af.mk a2 ha2 ⟨by rw [hg];omega,by rw [hg];omega,?_⟩⟩;rw [hg,eg];refine⟨_,hcg 0 _ rfl,_,by rw [Addr.add_add];exact ai _ _ hl5 2,?_⟩;refine st _ ?_;rw [hS,hg,eg];constructor
   ·intro hb;exact .inr (.inr (by simpa only [bne_iff_ne,ne_eq]using hb))
   ·rintro(h |h |h)
    ·exact absurd h0 h
    ·omega
    ·simpa only [bne_iff_ne,ne_eq]using h
theorem cF.nodes {w w':World} {B tp p q:Nat} {l lq:Sl} {turn:Nat} {below steps:Int} {ns ns':List Nd} {es:List HE} (h:cF w B tp p q l lq turn below steps ns es) (hr:w'.ownsRow B ze 3 l.v l.n (ns'.flatMap mu)) (hl:ns'.length=ns.length) (hs:∀j,l.v.ownBlock≠some j→w'.heap[j]? =w.heap[j]?):cF w' B tp p q l lq turn below steps ns' es:=by
 have hq:l.v.ownBlock≠some q:=aE h.row h.hp.blk (by decide);refine⟨?_,hr,by rw [hl];exact h.len,⟨by rw [hs q hq];exact h.hp.blk,aU h.hp.row fun k hk=>hs k fun e=>cn h.row h.hp.row (by decide) k e hk,h.hp.len,h.hp.off,h.hp.bp⟩,h.bp⟩;rw [hs p (aE h.row h.blk (by decide))];exact h.blk
theorem Ms {ns:List Nd} {i:Nat} (hi:i<ns.length):ns[i]? =some (aI ns i):=by simp [aI,hi]
theorem cF.write {w:World} {B tp p q:Nat} {l lq:Sl} {turn:Nat} {below steps:Int} {ns:List Nd} {es:List HE} (h:cF w B tp p q l lq turn below steps ns es) {i:Nat} (hi:i<ns.length) {a:Addr} (ha:l.a=some a) {k:Nat} (hk:k<3) (m:Nd) (v:Value) (he:mu m=(mu (aI ns i)).set k v):
  (∃u,w.cell? ((a.add (i*3)).add k)=some u)∧w.frozen? ((a.add (i*3)).add k)=false∧∀w',w'=w.setCell ((a.add (i*3)).add k) v→cF w' B tp p q l lq turn below steps (ns.set i m) es∧w'.heap.size=w.heap.size∧(∀w0,Below B w0 w→Below B w0 w'):=by
 obtain⟨h1,h2,h3⟩:=gc uZ (by decide) h.row h.len ha (Ms hi) hk m v he;refine⟨h1,h2,fun w' hw'=>?_⟩;obtain⟨r,s,z,b⟩:=h3 w' hw';exact⟨h.nodes r (by simp) s,z,fun w0 h0=>b B w0 (Nat.le_refl _) h0⟩
theorem cF.drew {w:World} {B tp p q:Nat} {l lq:Sl} {turn:Nat} {below steps:Int} {ns:List Nd} {es:List HE} (h:cF w B tp p q l lq turn below steps ns es):cF w.drew B tp p q l lq turn below steps ns es:=h.on (aO w)
theorem Fh (W w:World) (B tp p q:Nat) (l lq:Sl) (turn:Nat) (below steps:Int) (ns:List Nd) (es:List HE) (T:List aT) (hT:dl W tp T) (hW:W.heap.size≤B) (hWw:Below B W w)
  (h:cF w B tp p q l lq turn below steps ns es) (hh:eA es) (hB:B≤w.heap.size) (hl:es.length≤800000) (ht:turn≤900000000) (hst:0≤steps∧steps≤1000000000) (i:Nat) (c:Int) (us vs:List Nat) (y:Nat) (hL:lB ns (us++i::y::vs)) (hc:0≤c) (hn':mS (cH ns i c)):
  CP 283 #[.pointer (some ⟨p,0,none⟩),.int .i64 (i:Int),.int .i64 c] w fun e w'=>e= .returned (.tuple #[])∧∃lq' turn' es',cF w' B tp p q l lq' turn' below (steps+1) (cH ns i c) es'∧eA es'∧(∀x∈es,x∈es')∧(∀x∈es',x∈es∨qe (ao T) below ns.length x)∧es'.length≤es.length+2∧turn'≤turn+2∧Below B w w'∧
   kG (ao T) below (cH ns i c) (lst us (-1)) es'∧kG (ao T) below (cH ns i c) i es':=by
 obtain⟨hL',_,hnx,hah,hid,hidi,hahi,hnxi⟩:=lZ hL hc;have hi:i<ns.length:=hL.lt i (by simp);have hy:y<ns.length:=hL.lt y (by simp);have hsort:=hL.sorted;rw [List.pairwise_append,List.pairwise_cons,List.pairwise_cons]at hsort;have hiy:i<y:=hsort.2.1.1 y (by simp);have hyn:(aI ns y).next=hd vs (-1):=by
  obtain⟨_,_,_,_,a4,_⟩:=(dW us (-1)).1 hL.ch;exact a4
 refine aJ (y_ (some ⟨p,0,none⟩) i c w (fun v w'=>v= .tuple #[]∧∃lq' turn' es',cF w' B tp p q l lq' turn' below (steps+1) (cH ns i c) es'∧eA es'∧(∀x∈es,x∈es')∧(∀x∈es',x∈es∨qe (ao T) below ns.length x)∧es'.length≤es.length+2∧turn'≤turn+2∧Below B w w'∧
   kG (ao T) below (cH ns i c) (lst us (-1)) es'∧kG (ao T) below (cH ns i c) i es') ?_) (by rintro v w' ⟨rfl,h⟩;exact⟨rfl,h⟩)
 obtain⟨a,ha,hci⟩:=h.cell hi;obtain⟨a2,ha2,hcy⟩:=h.cell hy;have hea:a2=a:=by rw [ha]at ha2;exact(Option.some.inj ha2).symm
 subst hea;have hlen:=h.len;have ei:((i:Int)).toNat=i:=by omega
 have ey:((y:Int)).toNat=y:=by omega
 have hci2:=hci 2 _ rfl;rw [hnx]at hci2;refine af.mk _ rfl ⟨l.a,l.n,l.c,h.words 1,af.mk a2 ha ⟨by omega,by omega,(y:Int),hci2,af.mk _ rfl ⟨l.a,l.n,l.c,h.words 1,af.mk a2 ha ⟨by omega,by omega,?_⟩⟩⟩⟩;rw [ey];obtain⟨u1,f1,s1⟩:=h.write hy ha (k:=0) (by decide) ⟨-2,(aI ns y).ahead,(aI ns y).next⟩ (.int .i64 (-2)) rfl;refine⟨_,hcy 2 _ rfl,af.mk _ rfl ⟨l.a,l.n,l.c,h.words 1,af.mk a2 ha ⟨by omega,by omega,rfl,u1,f1,?_⟩⟩⟩;intro w1 hw1 w2 hw2;obtain⟨h1,z1,b1⟩:=s1 w1 hw1;have h2:cF w2 B tp p q l lq turn below steps (ns.set y ⟨-2,(aI ns y).ahead,(aI ns y).next⟩) es:=by subst hw2;exact h1.drew
 have z2:w2.heap.size=w.heap.size:=by subst hw2;exact z1
 have b2:Below B w w2:=by subst hw2;exact(b1 w (Below.refl _ _)).drew
 have n1i:aI (ns.set y ⟨-2,(aI ns y).ahead,(aI ns y).next⟩) i=aI ns i:=by rw [lm hy,if_neg (by omega)]
 obtain⟨u3,f3,s3⟩:=h2.write (i:=i) (by simpa using hi) ha (k:=0) (by decide) ⟨c,(aI ns i).ahead,(aI ns i).next⟩ (.int .i64 c) (by rw [n1i];rfl);refine af.mk _ rfl ⟨l.a,l.n,l.c,h2.words 1,af.mk _ rfl ⟨l.a,l.n,l.c,h2.words 1,af.mk a2 ha ⟨by omega,by omega,rfl,u3,f3,?_⟩⟩⟩;intro w3 hw3;obtain⟨h3,z3,b3⟩:=s3 w3 hw3;have n2i:aI ((ns.set y ⟨-2,(aI ns y).ahead,(aI ns y).next⟩).set i ⟨c,(aI ns i).ahead,(aI ns i).next⟩) i=⟨c,(aI ns i).ahead,(aI ns i).next⟩:=by rw [lm (by simpa using hi),if_pos rfl]
 obtain⟨u4,f4,s4⟩:=h3.write (i:=i) (by simpa using hi) ha (k:=2) (by decide) ⟨c,(aI ns i).ahead,(aI ns y).next⟩ (.int .i64 (aI ns y).next) (by rw [n2i];rfl);refine af.mk a2 ha ⟨by omega,by omega,rfl,u4,f4,?_⟩;intro w4 hw4;obtain⟨h4,z4,b4⟩:=s4 w4 hw4;rw [List.set_set]at h4;have b04:Below B w w4:=b4 _ (b3 _ b2);intro J hJ;have fin:∀w5:World,cF w5 B tp p q l lq turn below steps (cH ns i c) es→w5.heap.size=w.heap.size→Below B w w5→J [] w5:=by
  intro w5 h5 z5 b5;refine hJ _ (af.mk _ rfl ⟨steps,h5.words 4,Ar.ok64 (by omega) (by omega) (af.mk _ rfl ⟨rfl,⟨_,h5.words 4⟩,be h5.blk,?_⟩)⟩);intro w6 hw6;have h6:cF w6 B tp p q l lq turn below (steps+1) (cH ns i c) es:=by
   have hpq:=h5.pq;subst hw6;refine⟨bF h5.blk _,bD h5.row _ (by rw [av];exact aE h5.row h5.blk (by decide)),h5.len,⟨?_,bD h5.hp.row _ (by rw [av];exact aE h5.hp.row h5.blk (by decide)),h5.hp.len,h5.hp.off,h5.hp.bp⟩,h5.bp⟩;rw [aq (by rw [av];exact fun e=>hpq e.symm)];exact h5.hp.blk
  have z6:w6.heap.size=w.heap.size:=by rw [←z5];subst hw6;exact ba _ _ _
  have b6:Below B w w6:=by subst hw6;exact bv b5 h5.bp _
  have hi':i< (cH ns i c).length:=by rw [cZ];exact hi
  obtain⟨a6,ha6,hc6⟩:=h6.cell hi';have hea:a6=a2:=by rw [ha]at ha6;exact(Option.some.inj ha6).symm
  subst hea;have hca:=hc6 1 _ rfl;rw [hahi]at hca;refine af.mk _ rfl ⟨l.a,l.n,l.c,h6.words 1,af.mk a6 ha ⟨by omega,by omega,lst us (-1),hca,?_⟩⟩;have hlu:lst us (-1)= -1∨∃f:Nat,lst us (-1)=(f:Int)∧f< (cH ns i c).length:=by
   rcases List.eq_nil_or_concat us with rfl |⟨us',u,rfl⟩
   ·exact .inl rfl
   ·right;rw [List.concat_eq_append,rI];exact⟨u,rfl,by rw [cZ];exact hL.lt u (by simp)⟩
  refine(po W w6 B tp p q l lq turn below (steps+1) (cH ns i c) es T hT hW (hWw.trans b6) h6 hh (by omega) hn' (by omega) (by omega) (lst us (-1)) hlu).mono ?_;rintro e w7 ⟨rfl,lq7,turn7,es7,P7,A7⟩;have z7:=P7.below.size;refine⟨rfl,(po W w7 B tp p q l lq7 turn7 below (steps+1) (cH ns i c) es7 T hT hW ((hWw.trans b6).trans P7.below) P7.raw P7.heap (by omega) hn' (by have:=P7.len;omega) (by have:=P7.turn;omega) (i:Int) (.inr ⟨i,rfl,hi'⟩)).mono ?_⟩;rintro e w8 ⟨rfl,lq8,turn8,es8,P8,A8⟩;refine⟨rfl,rfl,lq8,turn8,es8,P8.raw,P8.heap,fun x hx=>P8.keep x (P7.keep x hx),fun x hx=>?_,by have:=P7.len;have:=P8.len;omega,by have:=P7.turn;have:=P8.turn;omega,(b6.trans P7.below).trans P8.below,?_,A8⟩
  ·rcases P8.new x hx with h |h
   ·rcases P7.new x h with h |h
    ·exact .inl h
    ·rw [cZ]at h;exact .inr h
   ·rw [cZ]at h;exact .inr h
  ·intro p' q' i' h1 h2 h3 h4;obtain⟨x,hx,hr⟩:=A7 p' q' i' h1 h2 h3 h4;exact⟨x,P8.keep x hx,hr⟩
 have hJN:cH ns i c=rt ns i y (aI ns y).next c:=by unfold cH;rw [hnx,Int.toNat_natCast]
 refine ac.mk (fun h0=>?_) fun h0=>?_
 ·have h0:(aI ns y).next≠ -1:=by simpa using h0
  obtain⟨g,vs',hv⟩:∃g vs',vs=g::vs':=by
   cases hv:vs with
   |nil=>rw [hv]at hyn;exact absurd hyn h0
   |cons g vs'=>exact⟨g,vs',rfl⟩
  have hgn:(aI ns y).next=(g:Int):=by rw [hyn,hv];rfl
  have hg:g<ns.length:=hL.lt g (by rw [hv];simp);have hyg:y<g:=by rw [hv]at hsort;exact hsort.2.1.2.1 g (by simp)
  have eg:((g:Int)).toNat=g:=by omega
  obtain⟨u9,f9,s9⟩:=h4.write (i:=g) (by simpa using hg) ha (k:=1) (by decide) ⟨(aI ((ns.set y ⟨-2,(aI ns y).ahead,(aI ns y).next⟩).set i ⟨c,(aI ns i).ahead,(aI ns y).next⟩) g).id,(i:Int),(aI ((ns.set y ⟨-2,(aI ns y).ahead,(aI ns y).next⟩).set i ⟨c,(aI ns i).ahead,(aI ns y).next⟩) g).next⟩ (.int .i64 (i:Int)) rfl;refine af.mk _ rfl ⟨l.a,l.n,l.c,h4.words 1,af.mk a2 ha ⟨by rw [hgn];omega,by rw [hgn];omega,?_⟩⟩;rw [show((aI ns y).next).toNat=g by omega];refine⟨rfl,u9,f9,fun w9 hw9=>?_⟩;obtain⟨h9,z9,b9⟩:=s9 w9 hw9;refine fin w9 ?_ (by omega) (b9 _ b04);rw [hJN];unfold rt;rw [if_neg h0,show((aI ns y).next).toNat=g by omega];exact h9
 ·have h0:(aI ns y).next= -1:=by simpa using h0
  refine fin w4 ?_ (by omega) b04;rw [hJN];unfold rt;rw [if_pos h0];exact h4
theorem pK {ns:List Nd} {us vs:List Nat} {i y:Nat} {c:Int} (h:lB ns (us++i::y::vs)) (hc:0≤c) (hn:mS ns):mS (cH ns i c):=by
 obtain⟨_,_,hnx,_⟩:=lZ h hc;have hi:i<ns.length:=h.lt i (by simp);have hy:y<ns.length:=h.lt y (by simp);have hs:=h.sorted;rw [List.pairwise_append,List.pairwise_cons,List.pairwise_cons]at hs;have hiy:i<y:=hs.2.1.1 y (by simp);have hyn:(aI ns y).next=hd vs (-1):=by
  obtain⟨_,_,_,_,a4,_⟩:=(dW us (-1)).1 h.ch;exact a4
 intro k hk;rw [cZ]at hk⊢;have hat:aI (cH ns i c) k=if k=i then⟨c,(aI ns i).ahead,hd vs (-1)⟩else if k=y then⟨-2,(aI ns y).ahead,(aI ns y).next⟩else if hd vs (-1)=(k:Int)then⟨(aI ns k).id,(i:Int),(aI ns k).next⟩else aI ns k:=by
  unfold cH;rw [hnx,Int.toNat_natCast,hyn];refine(zu hi hy hiy ?_ k).trans (by rw [hyn]);cases hv:vs with
  |nil=>exact .inl rfl
  |cons a r=>exact .inr ⟨a,rfl,by rw [hv]at hs;exact hs.2.1.2.1 a (by simp),h.lt a (by rw [hv];simp)⟩
 rw [hat];split
 ·show hd vs (-1)= -1∨∃k:Nat,hd vs (-1)=(k:Int)∧k<ns.length;rw [←hyn];exact hn y hy
 ·split
  ·exact hn y hy
  ·split
   ·exact hn k hk
   ·exact hn k hk
structure wl (W w:World) (B tp p q:Nat) (l:Sl) (below:Int) (n:Nat) (bs:List Int) (T:List aT) (lq:Sl) (turn:Nat) (steps:Int) (ns:List Nd) (ps:List Nat) (es:List HE):Prop where
 raw:cF w B tp p q l lq turn below steps ns es
 heap:eA es
 link:lB ns ps
 waits:pX (ao T) below ns ps es
 next:mS ns
 nlen:ns.length=n
 ids:sR (ao T) below (db ns ps)=sR (ao T) below bs
 size:es.length+3*ps.length≤5*n
 turn:turn+2*ps.length≤5*n
 steps:0≤steps∧steps+ps.length≤n+1
 below:Below B W w
theorem Ge (x:HE) (t:List HE):Fp (x::t)= .tuple #[.agg #[.int .i64 x.f,.int .i64 x.a,.int .i64 x.b],.int .i64 x.r,.int .i64 x.p,.bool true]:=rfl
theorem Hv (W w:World) (B tp p q:Nat) (l lq:Sl) (turn:Nat) (below steps:Int) (n:Nat) (bs:List Int) (ns:List Nd) (ps:List Nat) (es:List HE) (T:List aT) (hT:dl W tp T) (hW:W.heap.size≤B) (hS:iT 256 (ao T)) (hpos:∀m∈ao T,0≤m.1) (hnb:n≤100000) (hBW:B≤w.heap.size)
  (h:wl W w B tp p q l below n bs T lq turn steps ns ps es):
  CP 252 #[.pointer (some ⟨p,0,none⟩)] w fun e w'=>e= .returned (.tuple #[])∧∃lq' turn' steps' ns' ps',wl W w' B tp p q l below n bs T lq' turn' steps' ns' ps' []:=by
 refine aN (zt (some ⟨p,0,none⟩) w) ?_;intro I hI;have key:∀(m:Nat) (w1:World) (lq:Sl) (turn:Nat) (steps:Int) (ns:List Nd) (ps:List Nat) (es:List HE),es.length+3*ps.length≤m→B≤w1.heap.size→wl W w1 B tp p q l below n bs T lq turn steps ns ps es→I [] w1:=by
  intro m;induction m using Nat.strongRecOn with
  |ind m ih=>
   intro w1 lq turn steps ns ps es hm hBw h;refine hI w1 ?_;intro J hJ;have hsz:=h.size;refine af.mk _ rfl ⟨_,h.raw.words 2,?_⟩;refine(wQ w1 B q lq turn es h.raw.hp hBw h.heap (by omega)).mono ?_;rintro e w3 ⟨rfl,lq',es',hd,hlen,hm1,hm2⟩;have hraw3:=h.raw.move hd;have hB3:B≤w3.heap.size:=Nat.le_trans hBw hd.moves.size;have hWB3:Below B W w3:=h.below.trans hd.moves.below;cases es with
   |nil=>
    refine⟨0,0,0,0,0,false,rfl,?_⟩;intro w4 hw4;refine aS [.int .i64 0,.int .i64 0,.int .i64 0] [.int .i64 0,.int .i64 0,.int .i64 0] rfl (fA _ _ _) w4 hw4 ?_;intro w5 h5 hz5 hB5;refine ac.yes rfl ⟨rfl,lq',turn,steps,ns,ps,?_⟩;have hes:es'= []:=List.eq_nil_of_length_eq_zero (by simpa using hlen);subst hes;exact⟨hraw3.on hB5,hd.heap,h.link,h.waits,h.next,h.nlen,h.ids,h.size,h.turn,h.steps,hWB3.trans (hB5.mono hB3)⟩
   |cons x t=>
    rw [Ge];have hx0:hat (x::t) 0=x:=rfl;rw [hx0]at hm1;have hxm:x∈x::t:=by simp
    have hmin:∀z∈x::t,¬z.lt x:=by
     intro z hz;obtain⟨j,hj,rfl⟩:=ox.1 hz;have:=El h.heap j hj;rwa [hx0]at this
    obtain⟨i,f,hi,hxr,hxb,hxf,hxp,hfl⟩:=h.waits.good x hxm;refine⟨_,_,_,_,_,true,rfl,?_⟩;intro w4 hw4;refine aS [.int .i64 0,.int .i64 0,.int .i64 0] [.int .i64 x.f,.int .i64 x.a,.int .i64 x.b] rfl (fA _ _ _) w4 hw4 ?_;intro w5 h5 hz5 hB5;have hraw5:=hraw3.on hB5;refine ac.no rfl ⟨_,_,_,F1 h5,?_⟩;refine(Ey w5 B tp p q l lq' turn below steps ns es' hraw5 h.next x f hxf hfl).mono ?_;rintro e w6 ⟨rfl,hB6⟩;have hraw6:=hraw5.on hB6;have h6:=aj hB6 h5;have hB56:=ae hB5 hB6;have hWB6:Below B W w6:=hWB3.trans (hB56.mono hB3);have hB6':B≤w6.heap.size:=Nat.le_trans hB3 hB56.size;simp only [List.length_cons]at hlen hsz hm;refine⟨_,rfl,ac.mk (fun h0=>?_) fun h0=>?_⟩
    ·have h0:¬iK ns x:=by simpa using h0
     obtain⟨us,f',y,vs,hps,hf',hfa,hyb,hfn⟩:=qw h.link (h.waits.good x hxm) hpos h0;have hff:f'=f:=by omega
     subst hff;have hL:=h.link;rw [hps]at hL;have hc:0≤x.r:=by omega
     refine⟨x.f,ai _ _ h6 0,?_⟩;rw [hxf];have hstp:=h.steps;have htn:=h.turn;have hpl:ps.length=us.length+vs.length+2:=by rw [hps];simp;omega
     refine(Fh W w6 B tp p q l lq' turn below steps ns es' T hT hW hWB6 hraw6 hd.heap hB6' (by omega) (by omega) (by omega) f' x.r us vs y hL hc (pK hL hc h.next)).mono ?_;rintro e w7 ⟨rfl,lq7,turn7,es7,hraw7,hh7,k7,n7,l7,t7,b7,q1,q2⟩;have hids:=Ec h.link h.waits hS hpos hxm hmin hps hf' hfa hyb;obtain⟨hL7,hids7,_⟩:=lZ hL hc;refine⟨rfl,hJ _ (ih (es7.length+3*(us++f'::vs).length) ?_ w7 lq7 turn7 (steps+1) _ _ es7 (Nat.le_refl _) (Nat.le_trans hB6' b7.size) ⟨hraw7,hh7,hL7,?_,pK hL hc h.next,by rw [cZ];exact h.nlen,?_,?_,?_,?_,hWB6.trans b7⟩)⟩
     ·simp only [List.length_append,List.length_cons];omega
     ·rw [hps]at h;exact Dm hL hc h.waits hxf hm1 hm2 k7 (fun z hz=>n7 z hz) q1 q2
     ·rw [hids7, ←hids];exact h.ids
     ·simp only [List.length_append,List.length_cons];omega
     ·simp only [List.length_append,List.length_cons];omega
     ·simp only [List.length_append,List.length_cons];omega
    ·have h0:iK ns x:=by simpa using h0
     refine hJ _ (ih (es'.length+3*ps.length) (by omega) w6 lq' turn steps ns ps es' (Nat.le_refl _) hB6' ⟨hraw6,hd.heap,h.link,zp h.link h.waits hm1 hm2 h0,h.next,h.nlen,h.ids,by omega,h.turn,h.steps,hWB6⟩)
 exact key _ w lq turn steps ns ps es (Nat.le_refl _) hBW h
theorem GT (w:World) (B tp p q:Nat) (l lq:Sl) (turn:Nat) (below steps:Int) (ns:List Nd) (ps:List Nat) (es:List HE) (h:cF w B tp p q l lq turn below steps ns es) (hL:lB ns ps) (hl:ps.length≤1000000) (hnl:ns.length≤1000000):
  CP 253 #[.pointer (some ⟨p,0,none⟩)] w fun e w'=>∃a n c,e= .returned (.slice a n c)∧w'.ownsRow w.heap.size bh 1 (.slice a n c) n ((db ns ps).flatMap ay)∧n=ps.length∧Below w.heap.size w w':=by
 refine aN (yl (some ⟨p,0,none⟩) w) ?_;intro I hI;have hlen:=h.len;by_cases hne:ns= []
 ·subst hne;have hps:ps= []:=by
   cases ps with
   |nil=>rfl
   |cons p' r=>exact absurd (hL.lt p' (by simp)) (by simp)
  subst hps;refine hI _ _ _ _ _ (ac.yes rfl (af.mk _ rfl ⟨l.a,l.n,l.c,h.words 1,ac.no (by simp at hlen;simp [hlen]) ⟨none,0,0,rfl,cO _ _ _ _,rfl,Below.refl _ _⟩⟩))
 have key:∀(rest us:List Nat) (A:Option Addr) (N C:Nat) (w1:World),ps=us++rest→w1.ownsRow w.heap.size bh 1 (.slice A N C) N ((db ns us).flatMap ay)→N=us.length→Below w.heap.size w w1→I [.int .i64 (hd rest (-1)),.slice A N C] w1:=by
  intro rest;induction rest with
  |nil=>
   intro us A N C w1 hps hown hN hB;refine hI _ _ _ _ _ (ac.no rfl ⟨A,N,C,rfl,?_,?_,hB⟩)
   ·rw [hps,List.append_nil];exact hown
   ·rw [hps,List.append_nil];exact hN
  |cons f rest ih=>
   intro us A N C w1 hps hown hN hB;have hf:f<ns.length:=hL.lt f (by rw [hps];simp);have h1:=h.on hB;obtain⟨a,ha,hc⟩:=h1.cell hf;have hus:us.length<ps.length:=by rw [hps];simp
   refine hI _ _ _ _ _ (ac.yes (show((f:Int) != -1)=true by simp) (af.mk _ rfl ⟨l.a,l.n,l.c,h1.words 1,ac.yes (show decide ((f:Int) < ((l.n:Nat):Int))=true by simp;omega) (af.mk _ rfl ⟨l.a,l.n,l.c,h1.words 1,af.mk a ha ⟨show(0:Int)≤(f:Int) by omega,show(f:Int) < ((l.n:Nat):Int) by omega,_,hc 0 _ rfl,?_⟩⟩)⟩));rintro w2 rfl;obtain⟨A',C',w3,hr,hown',hg,_⟩:=iw (P:=Tryz.prog) cq bh qG wC rfl (by decide) hown [Value.int .i64 (aI ns f).id] rfl (by intro u hu;rw [List.mem_singleton.1 hu];rfl) (by omega) (by omega) hB.size;have hB3:Below w.heap.size w w3:=fi hB hown hg hB.size;have h3:=h.on hB3;obtain⟨a3,ha3,hc3⟩:=h3.cell hf;obtain⟨_,_,a2,_⟩:=(dW us (-1)).1 (by have:=hL.ch;rw [hps]at this;exact this);have hnx:=hc3 2 _ rfl;rw [a2]at hnx;refine⟨A',N+1,C',w3,hr,af.mk _ rfl ⟨l.a,l.n,l.c,h3.words 1,af.mk a3 ha3 ⟨show(0:Int)≤(f:Int) by omega,show(f:Int) < ((l.n:Nat):Int) by omega,_,hnx,?_⟩⟩⟩;refine ih (us++ [f]) A' (N+1) C' w3 (by rw [hps];simp) ?_ (by simp;omega) hB3;have:(db ns (us++ [f])).flatMap ay=(db ns us).flatMap ay++ [Value.int .i64 (aI ns f).id]:=by
    rw [db,List.map_append,List.flatMap_append];rfl
   rw [this];exact hown'
 have h0:=hL.head hne;have:=key ps [] none 0 0 w rfl (cO _ _ _ _) rfl (Below.refl _ _);rw [h0]at this;exact this
def jT (bs:List Int) (i:Nat):List Nd:=(bs.take i).zipIdx.map fun x=>⟨x.1,(x.2:Int)-1,(x.2:Int)+1⟩
theorem iN (bs:List Int) (i:Nat) (h:i≤bs.length):(jT bs i).length=i:=by simp [jT,h]
theorem Fs {bs:List Int} {i:Nat} (h:i<bs.length):jT bs (i+1)=jT bs i++ [⟨bs[i],(i:Int)-1,(i:Int)+1⟩]:=by
 have:bs.take (i+1)=bs.take i++ [bs[i]]:=by rw [List.take_add_one,List.getElem?_eq_getElem h];rfl
 rw [jT,this,List.zipIdx_append,List.map_append];have hl:min i bs.length=i:=by omega
 simp [jT,hl]
theorem FS {bs:List Int} {n:Nat} (h:bs.length=n+1):(jT bs bs.length).set n ⟨(aI (jT bs bs.length) n).id,(aI (jT bs bs.length) n).ahead, -1⟩=jp bs:=by
 have hn:aI (jT bs bs.length) n=⟨bs[n],(n:Int)-1,(n:Int)+1⟩:=by
  simp [aI,jT,List.getD_eq_getElem?_getD,h]
 rw [hn];apply List.ext_getElem
 ·simp [jT,jp]
 ·intro i h1 h2;rw [List.getElem_set];simp only [jT,jp,List.getElem_map,List.getElem_zipIdx,List.getElem_take];by_cases e:n=i
  ·subst e;simp [h]
  ·have hi:i<bs.length:=by simpa [jp]using h2
   simp only [e,if_false];rw [if_neg (by omega)]
def dd (s:Bs):List Int:=s.map fun b=>(b.toNat:Int)
theorem A5 (s:Bs):∀b∈dd s,0≤b:=by
 intro b hb;obtain⟨x,_,rfl⟩:=List.mem_map.1 hb;omega
theorem qB (w:World) (tp:Nat) (T:List aT) (hT:dl w tp T) (s:Bs) (hs:s.length≤100000) (below:Int):
  CP 251 #[.pointer (some ⟨tp,0,none⟩),.string (str s),.int .i64 below] w fun e w'=>∃p q l lq turn ps es,e= .returned (.pointer (some ⟨p,0,none⟩))∧wl w w' w.heap.size tp p q l below s.length (dd s) T lq turn 0 (jp (dd s)) ps es:=by
 refine aN (wT (some ⟨tp,0,none⟩) (str s) below w) ?_;refine(vm w).mono ?_;rintro e w1 ⟨rfl,hH,hB1,hz1⟩;refine⟨_,rfl,?_⟩;intro w2 hw2;have hB2:Below w.heap.size w w2:=by subst hw2;exact hB1.alloc (by omega) _
 have hLk2:cF w2 w.heap.size tp w1.heap.size w.heap.size ⟨none,0,0⟩ ⟨none,0,0⟩ 0 below 0 (jT (dd s) 0) []:=by
  subst hw2;exact⟨ap _ _,cO _ _ _ _,rfl,hH.on (ah _ _),by omega⟩
 have hil:(dd s).length=s.length:=by simp [dd]
 intro I hI;have key:=bj (α:=World) s.length (fun i x=>∃l,cF x w.heap.size tp w1.heap.size w.heap.size l ⟨none,0,0⟩ 0 below 0 (jT (dd s) i) []∧Below w.heap.size w x) (fun i x=>I [.int .i64 (i:Int)] x) w2 ⟨_,hLk2,hB2⟩ ?_ ?_
 ·exact key
 ·rintro i hi ih w3 ⟨l,h3,hB3⟩;refine hI _ _ (ac.yes (by rw [aR];simp;omega) ?_);intro w4 hw4;have h4:cF w4 w.heap.size tp w1.heap.size w.heap.size l ⟨none,0,0⟩ 0 below 0 (jT (dd s) i) []:=by subst hw4;exact h3.drew
  have hB4:Below w.heap.size w w4:=by subst hw4;exact hB3.drew
  have hlen:l.n=i:=by rw [h4.len,iN _ _ (by omega)]
  have hbt:eu (str s) (i:Int)=((s[i]).toNat:Int):=eU s i hi;have hb256:=(s[i]).toNat_lt;refine⟨l.a,l.n,l.c,h4.words 1,by omega,by rw [aR];omega,Ar.ok64 (by omega) (by omega) (Ar.ok64 (by omega) (by omega) ?_)⟩;have hwr:IntKind.wrap .i64 (eu (str s) (i:Int))=((s[i]).toNat:Int):=by
   rw [hbt];exact di (by show(-9223372036854775808:Int)≤_;omega) (by show _≤(9223372036854775807:Int);omega)
  rw [hwr];rintro w5 rfl;obtain⟨a',c',w6,hr6,hu6,hf6,h7⟩:=fk (P:=Tryz.prog) (s:=l) 1 h4.blk (show 1<5 by decide) h4.row (aE h4.row h4.blk (by decide)) h4.bp Hq Ha IK rfl (by decide) (mu ⟨((s[i]).toNat:Int),(i:Int)-1,(i:Int)+1⟩) rfl (uw _) (by omega) (by omega);refine⟨⟨by rw [(ah w4 _).cell (by rw [av];exact h4.lt)];exact h4.words 1,trivial⟩,a',l.n+1,c',w6,hr6,rfl,hu6,hf6,?_⟩;intro w7 hw7;obtain⟨hblk7,hrow7,hoff7,hB7,hkeep7,hsz7,hnew7⟩:=h7 w7 hw7;have hil':(dd s)[i]'(by omega)=((s[i]).toNat:Int):=by simp [dd]
  refine Ar.ok64 (by omega) (by omega) (ih w7 ⟨⟨a',l.n+1,c'⟩,⟨hblk7,?_,?_,⟨?_,cO _ _ _ _,rfl,(by intro e;cases e),Nat.le_refl _⟩,h4.bp⟩,hB7 w hB4⟩)
  ·rw [Fs (show i< (dd s).length by omega),List.flatMap_append,hil'];simpa using hrow7
  ·rw [iN _ _ (by omega)];show l.n+1=i+1;omega
  ·rw [hkeep7 w.heap.size h4.hp.lt (fun e=>h4.pq e.symm) (aE h4.row h4.hp.blk (by decide))];exact h4.hp.blk
 ·rintro w3 ⟨l,h3,hB3⟩;have hlen:l.n=s.length:=by rw [h3.len,iN _ _ (by omega)]
  refine hI _ _ (ac.no (by rw [aR];simp) ?_);intro J hJ;have fin:∀w8:World,cF w8 w.heap.size tp w1.heap.size w.heap.size l ⟨none,0,0⟩ 0 below 0 (jp (dd s)) []→Below w.heap.size w w8→J [] w8:=by
   intro w8 h8 hB8;refine hJ _ ⟨l.a,l.n,l.c,h8.words 1,?_⟩;intro I11 hI11;obtain⟨hLk,hids⟩:=Hj (A5 s);have hnx:mS (jp (dd s)):=by
    intro i hi;rw [ew]at hi;rw [qL hi,ew];dsimp only;split
    ·exact .inl rfl
    ·exact .inr ⟨i+1,by omega,by omega⟩
   have key:=bj (α:=World) s.length (fun k x=>∃lq turn es,cF x w.heap.size tp w1.heap.size w.heap.size l lq turn below 0 (jp (dd s)) es∧eA es∧(∀e∈es,qe (ao T) below s.length e)∧(∀p',p'<k→kG (ao T) below (jp (dd s)) (p':Int) es)∧es.length≤k∧turn≤k∧Below w.heap.size w x) (fun k x=>I11 [.int .i64 (k:Int)] x) w8 ⟨_,0,[],h8,(fun j _ hj=>by simp at hj),(fun e he=>by cases he),fun p' hp'=>absurd hp' (Nat.not_lt_zero _),Nat.le_refl _,Nat.le_refl _,hB8⟩ ?_ ?_
   ·exact key
   ·rintro k hk ih w9 ⟨lq,turn,es,h9,hh9,g9,a9,l9,t9,hB9⟩;refine hI11 _ _ (ac.yes (by simp;omega) ?_);have hbl:(jp (dd s)).length=s.length:=by rw [ew,hil]
    refine(po w w9 w.heap.size tp w1.heap.size w.heap.size l lq turn below 0 (jp (dd s)) es T hT (Nat.le_refl _) hB9 h9 hh9 hB9.size hnx (by omega) (by omega) (k:Int) (.inr ⟨k,rfl,by omega⟩)).mono ?_;rintro e w10 ⟨rfl,lq',turn',es',P,A⟩;refine⟨rfl,Ar.ok64 (by omega) (by omega) (ih w10 ⟨lq',turn',es',P.raw,P.heap,fun x hx=>?_,fun p' hp'=>?_,by have:=P.len;omega,by have:=P.turn;omega,hB9.trans P.below⟩)⟩
    ·rcases P.new x hx with h |h
     ·exact g9 x h
     ·rw [hbl]at h;exact h
    ·rcases Nat.lt_succ_iff_lt_or_eq.1 hp' with h |h
     ·intro p1 q1 i h1 h2 h3 h4;obtain⟨x,hx,hr⟩:=a9 p' h p1 q1 i h1 h2 h3 h4;exact⟨x,P.keep x hx,hr⟩
     ·subst h;exact A
   ·rintro w9 ⟨lq,turn,es,h9,hh9,g9,a9,l9,t9,hB9⟩;refine hI11 _ _ (ac.no (by simp;omega) ⟨_,_,l,lq,turn,List.range' 0 (dd s).length,es,rfl,h9,hh9,hLk,F2 (by rw [hil];exact g9) (by rw [hil];exact a9),hnx,by rw [ew,hil],by rw [hids],?_,?_,?_,hB9⟩)
    ·simp [hil];omega
    ·simp [hil];omega
    ·simp [hil];omega
  refine⟨l.a,l.n,l.c,h3.words 1,ac.mk (fun h0=>?_) fun h0=>?_⟩
  ·have h0:0<s.length:=by have:=of_decide_eq_true h0;omega
   obtain⟨n,hn⟩:∃n,s.length=n+1:=⟨s.length-1,by omega⟩;have hpl:(jT (dd s) s.length).length=s.length:=iN _ _ (by omega);obtain⟨a,ha,_⟩:=h3.cell (i:=n) (by omega);obtain⟨u1,f1,s1⟩:=h3.write (i:=n) (by omega) ha (k:=2) (by decide) ⟨(aI (jT (dd s) s.length) n).id,(aI (jT (dd s) s.length) n).ahead, -1⟩ (.int .i64 (-1)) rfl;refine⟨l.a,l.n,l.c,h3.words 1,Ar.ok64 (by omega) (by omega) (af.mk a ha ⟨by omega,by omega,rfl,?_⟩)⟩;rw [show(((l.n:Nat):Int)-1).toNat=n by omega];refine⟨u1,f1,fun w11 hw11=>?_⟩;obtain⟨h11,z11,b11⟩:=s1 w11 hw11;refine fin w11 ?_ (b11 w hB3);have:=FS (bs:=dd s) (n:=n) (by omega);rw [hil]at this;rw [this]at h11;exact h11
  ·have h0:s.length=0:=by have:=of_decide_eq_false h0;omega
   refine fin w3 ?_ hB3;have hs0:s= []:=List.eq_nil_of_length_eq_zero h0;subst hs0;exact h3
theorem CO (w:World) (tp:Nat) (T:List aT) (hT:dl w tp T) (hS:iT 256 (ao T)) (hpos:∀m∈ao T,0≤m.1) (s:Bs) (hs:s.length≤100000) (below:Int):
  CP 211 #[.pointer (some ⟨tp,0,none⟩),.string (str s),.int .i64 below] w fun e w'=>∃a n c,e= .returned (.slice a n c)∧w'.ownsRow w.heap.size bh 1 (.slice a n c) n ((sR (ao T) below (dd s)).flatMap ay)∧n=(sR (ao T) below (dd s)).length∧Below w.heap.size w w':=by
 refine aN (zg (some ⟨tp,0,none⟩) (str s) below w) ?_;refine ac.no rfl ?_;refine(qB w tp T hT s hs below).mono ?_;rintro e w1 ⟨p,q,l,lq,turn,ps,es,rfl,h1⟩;refine⟨_,rfl,?_⟩;refine(Hv w w1 w.heap.size tp p q l lq turn below 0 s.length (dd s) _ ps es T hT (Nat.le_refl _) hS hpos hs h1.below.size h1).mono ?_;rintro e w2 ⟨rfl,lq2,turn2,steps2,ns2,ps2,h2⟩;refine⟨rfl,?_⟩;have hsz:=h2.size;have hnl:=h2.nlen;refine(GT w2 w.heap.size tp p q l lq2 turn2 below steps2 ns2 ps2 [] h2.raw h2.link (by omega) (by omega)).mono ?_;rintro e w3 ⟨a,n,c,rfl,hown,hn,hB⟩;have hids:db ns2 ps2=sR (ao T) below (dd s):=by rw [←h2.ids,DT h2.waits]
 refine⟨a,n,c,rfl,a,n,c,rfl,?_,by rw [←hids,hn,db,List.length_map],h2.below.trans (hB.mono h2.below.size)⟩;rw [hids]at hown;have hz:=h2.below.size;refine⟨hown.1,hown.2.imp id ?_⟩;rintro⟨g,cap,cur,h1,h2,h3⟩;exact⟨g,cap,cur,h1,by omega,h3⟩
def eO (T:List aT) (s:Bs):List Int:=sR (ao T) T.length (dd s)
theorem li (w:World) (tp:Nat) (T:List aT) (hT:dl w tp T) (hS:iT 256 (ao T)) (hpos:∀m∈ao T,0≤m.1) (s:Bs) (hs:s.length≤100000):
  CP 164 #[.pointer (some ⟨tp,0,none⟩),.string (str s)] w fun e w'=>∃a n c,e= .returned (.slice a n c)∧w'.ownsRow w.heap.size bh 1 (.slice a n c) n ((eO T s).flatMap ay)∧n=(eO T s).length∧Below w.heap.size w w':=by
 refine aN (BA (some ⟨tp,0,none⟩) (str s) w) ?_;refine(fD w tp T hT).mono ?_;rintro e w1 ⟨rfl,hw⟩;subst hw;refine⟨_,rfl,?_⟩;refine(CO w1 tp T hT hS hpos s hs T.length).mono ?_;rintro e w2 ⟨a,n,c,rfl,h⟩;exact⟨a,n,c,rfl,a,n,c,rfl,h⟩
theorem aX {w:World} {B B':Nat} {e:TypeId} {sz n:Nat} {v:Value} {xs:List Value} (h:w.ownsRow B e sz v n xs) (hB:B'≤B):w.ownsRow B' e sz v n xs:=by
 refine⟨h.1,h.2.imp id ?_⟩;rintro⟨g,cap,cur,h1,h2,h3⟩;exact⟨g,cap,cur,h1,Nat.le_trans hB h2,h3⟩
theorem AM (w:World) (a:Option Addr) (c:Nat) (xs:List (Int×Int)) (hr:Rw aP 2 w a xs) (hl:xs.length≤1000000000):
  CP 142 #[.slice a xs.length c] w fun e w'=>∃s:Sl,e= .returned s.v∧s.n=xs.length∧w'.ownsRow w.heap.size mh 2 s.v s.n (xs.flatMap aP)∧Below w.heap.size w w':=by
 refine aN (AJ a xs.length c w) ?_;refine ac.mk (fun h0=>?_) fun h0=>?_
 ·have hx:xs= []:=by
   cases xs with
   |nil=>rfl
   |cons x t=>
    obtain⟨p,hp,_⟩:=hr 0 x rfl;rw [hp]at h0;cases h0
  subst hx;exact⟨⟨none,0,0⟩,rfl,rfl,cO _ _ _ _,Below.refl _ _⟩
 ·obtain⟨p,rfl⟩:∃p,a=some p:=by
   cases a with
   |none=>cases h0
   |some p=>exact⟨p,rfl⟩
  intro w1 hw1;obtain⟨A,C,w2,h2,h3,h4⟩:=jG (enc:=aP) (sz:=2) (fun _=>rfl) (by decide) (fun x=>cw _ _) 33 mh wd vD rfl w ⟨some p,xs.length,c⟩ xs (.inr ⟨p,rfl⟩) hr rfl (by simp only;omega) (by simp only;omega) w1 hw1;exact⟨A,xs.length,C,w2,h2,⟨A,xs.length,C⟩,rfl,rfl,h3,h4⟩
theorem yp (w:World) (a:Option Addr) (c:Nat) (xs:List (Bs)) (hr:Rw c_ 1 w a xs) (hl:xs.length≤1000000000):
  CP 143 #[.slice a xs.length c] w fun e w'=>∃s:Sl,e= .returned s.v∧s.n=xs.length∧w'.ownsRow w.heap.size fE 1 s.v s.n (xs.flatMap c_)∧Below w.heap.size w w':=by
 refine aN (yK a xs.length c w) ?_;refine ac.mk (fun h0=>?_) fun h0=>?_
 ·have hx:xs= []:=by
   cases xs with
   |nil=>rfl
   |cons x t=>
    obtain⟨p,hp,_⟩:=hr 0 x rfl;rw [hp]at h0;cases h0
  subst hx;exact⟨⟨none,0,0⟩,rfl,rfl,cO _ _ _ _,Below.refl _ _⟩
 ·obtain⟨p,rfl⟩:∃p,a=some p:=by
   cases a with
   |none=>cases h0
   |some p=>exact⟨p,rfl⟩
  intro w1 hw1;obtain⟨A,C,w2,h2,h3,h4⟩:=jG (enc:=c_) (sz:=1) (fun _=>rfl) (by decide) (fun x u hu=>by rw [List.mem_singleton.1 hu];rfl) ft fE jW kd rfl w ⟨some p,xs.length,c⟩ xs (.inr ⟨p,rfl⟩) hr rfl (by simp only;omega) (by simp only;omega) w1 hw1;exact⟨A,xs.length,C,w2,h2,⟨A,xs.length,C⟩,rfl,rfl,h3,h4⟩
theorem pV (w:World) (a:Option Addr) (c:Nat) (xs:List (Int×Bs)) (hr:Rw aD 2 w a xs) (hl:xs.length≤1000000000):
  CP 144 #[.slice a xs.length c] w fun e w'=>∃s:Sl,e= .returned s.v∧s.n=xs.length∧w'.ownsRow w.heap.size nr 2 s.v s.n (xs.flatMap aD)∧Below w.heap.size w w':=by
 refine aN (yg a xs.length c w) ?_;refine ac.mk (fun h0=>?_) fun h0=>?_
 ·have hx:xs= []:=by
   cases xs with
   |nil=>rfl
   |cons x t=>
    obtain⟨p,hp,_⟩:=hr 0 x rfl;rw [hp]at h0;cases h0
  subst hx;exact⟨⟨none,0,0⟩,rfl,rfl,cO _ _ _ _,Below.refl _ _⟩
 ·obtain⟨p,rfl⟩:∃p,a=some p:=by
   cases a with
   |none=>cases h0
   |some p=>exact⟨p,rfl⟩
  intro w1 hw1;obtain⟨A,C,w2,h2,h3,h4⟩:=jG (enc:=aD) (sz:=2) (fun _=>rfl) (by decide) (fun x=>dO _ _) 25 nr qV vW rfl w ⟨some p,xs.length,c⟩ xs (.inr ⟨p,rfl⟩) hr rfl (by simp only;omega) (by simp only;omega) w1 hw1;exact⟨A,xs.length,C,w2,h2,⟨A,xs.length,C⟩,rfl,rfl,h3,h4⟩
theorem xO (w:World) (a:Option Addr) (c:Nat) (xs:List (Int×Int×Int)) (hr:Rw bH 3 w a xs) (hl:xs.length≤1000000000):
  CP 145 #[.slice a xs.length c] w fun e w'=>∃s:Sl,e= .returned s.v∧s.n=xs.length∧w'.ownsRow w.heap.size FU 3 s.v s.n (xs.flatMap bH)∧Below w.heap.size w w':=by
 refine aN (xU a xs.length c w) ?_;refine ac.mk (fun h0=>?_) fun h0=>?_
 ·have hx:xs= []:=by
   cases xs with
   |nil=>rfl
   |cons x t=>
    obtain⟨p,hp,_⟩:=hr 0 x rfl;rw [hp]at h0;cases h0
  subst hx;exact⟨⟨none,0,0⟩,rfl,rfl,cO _ _ _ _,Below.refl _ _⟩
 ·obtain⟨p,rfl⟩:∃p,a=some p:=by
   cases a with
   |none=>cases h0
   |some p=>exact⟨p,rfl⟩
  intro w1 hw1;obtain⟨A,C,w2,h2,h3,h4⟩:=jG (enc:=bH) (sz:=3) (fun _=>rfl) (by decide) (fun x=>f_ _ _ _) 23 FU wA Da rfl w ⟨some p,xs.length,c⟩ xs (.inr ⟨p,rfl⟩) hr rfl (by simp only;omega) (by simp only;omega) w1 hw1;exact⟨A,xs.length,C,w2,h2,⟨A,xs.length,C⟩,rfl,rfl,h3,h4⟩
theorem BC (w:World) (a:Option Addr) (c:Nat) (xs:List (Int×Int)) (hr:Rw aP 2 w a xs) (hl:xs.length≤1000000000):
  CP 146 #[.slice a xs.length c] w fun e w'=>∃s:Sl,e= .returned s.v∧s.n=xs.length∧w'.ownsRow w.heap.size Jc 2 s.v s.n (xs.flatMap aP)∧Below w.heap.size w w':=by
 refine aN (xk a xs.length c w) ?_;refine ac.mk (fun h0=>?_) fun h0=>?_
 ·have hx:xs= []:=by
   cases xs with
   |nil=>rfl
   |cons x t=>
    obtain⟨p,hp,_⟩:=hr 0 x rfl;rw [hp]at h0;cases h0
  subst hx;exact⟨⟨none,0,0⟩,rfl,rfl,cO _ _ _ _,Below.refl _ _⟩
 ·obtain⟨p,rfl⟩:∃p,a=some p:=by
   cases a with
   |none=>cases h0
   |some p=>exact⟨p,rfl⟩
  intro w1 hw1;obtain⟨A,C,w2,h2,h3,h4⟩:=jG (enc:=aP) (sz:=2) (fun _=>rfl) (by decide) (fun x=>cw _ _) 24 Jc vM DR rfl w ⟨some p,xs.length,c⟩ xs (.inr ⟨p,rfl⟩) hr rfl (by simp only;omega) (by simp only;omega) w1 hw1;exact⟨A,xs.length,C,w2,h2,⟨A,xs.length,C⟩,rfl,rfl,h3,h4⟩
theorem yb:∀ {ms:List (Int×Int)} {k:Int},(∀(i:Nat) (m:Int×Int),ms[i]? =some m→m.1<k+i∧m.2<k+i)→iT k ms
 | [],_,_=>trivial
 |m::ms,k,h=>by
  have h0:=h 0 m rfl;refine⟨by omega,by omega,yb fun i x hi=>?_⟩;have:=h (i+1) x (by simpa using hi);omega
theorem eE {T:List aT} (h:iD T) {i:Nat} {m:Int×Int} (hi:(ao T)[i]? =some m):(0≤m.1∧m.1<256+i)∧(0≤m.2∧m.2<256+i):=by
 simp only [ao,List.getElem?_map,List.getElem?_drop]at hi;obtain⟨e,he,rfl⟩:=Option.map_eq_some_iff.1 hi;obtain⟨h1,h2,_⟩:=h.step (256+i) e he (by omega);exact⟨⟨h1.1,by have:=h1.2;omega⟩,⟨h2.1,by have:=h2.2;omega⟩⟩
theorem iD.sound {T:List aT} (h:iD T):iT 256 (ao T):=yb fun i m hi=>⟨(eE h hi).1.2,(eE h hi).2.2⟩
theorem iD.pos {T:List aT} (h:iD T):∀m∈ao T,0≤m.1:=fun m hm=>by
 obtain⟨i,hi,rfl⟩:=List.getElem_of_mem hm;exact(eE h (List.getElem?_eq_getElem hi)).1.1
def pm (l:List Int):Option (Int×Int):=match l with
 | [a,b]=>some (a,b)
 |_=>none
def KI (o:Option (Int×Int)):Value:=match o with
 |some m=>.tuple #[.agg #[.int .i64 m.1,.int .i64 m.2],.bool true]
 |none=>.tuple #[.agg #[.int .i64 0,.int .i64 0],.bool false]
theorem wF (w:World) (tp:Nat) (T:List aT) (hT:dl w tp T) (hok:iD T) (s:Bs) (hs:s.length≤100000):
  CP 239 #[.pointer (some ⟨tp,0,none⟩),.string (str s)] w fun e w'=>e= .returned (KI (pm (eO T s)))∧Below w.heap.size w w':=by
 refine aN (xw (some ⟨tp,0,none⟩) (str s) w) ?_;intro w1 hw1;have hb1:Below w.heap.size w w1:=by subst hw1;exact ah _ _
 have hl1:w1.heap[w.heap.size]? =some (.cells #[Value.int .i64 0,Value.int .i64 0] mh):=by subst hw1;exact ap _ _
 refine(li w1 tp T (hT.on hb1) hok.sound hok.pos s hs).mono ?_;rintro e w2 ⟨a,n,c,rfl,hown,hn,hb2⟩;have hl2:=aj hb2 hl1;have hb12:=ae hb1 hb2;refine⟨a,n,c,rfl,ac.mk (fun h0=>?_) fun h0=>?_⟩
 ·have h0:n≠2:=by intro e;rw [e]at h0;simp at h0
  have hp:pm (eO T s)=none:=by
   rw [hn]at h0
   match hx:eO T s with
   | []=>rfl
   | [x]=>rfl
   | [x,y]=>rw [hx]at h0;exact absurd rfl h0
   |x::y::z::t=>rfl
  refine bf hl2 [.int .i64 0,.int .i64 0] rfl (cw _ _) ?_;intro w3 h3 _ _ hB3;exact⟨0,0,⟨by have:=ai _ _ h3 0;rw [au]at this;exact this,ai _ _ h3 1,trivial⟩,by rw [hp];rfl,hB3 _ _ (Nat.le_refl _) hb12⟩
 ·have h0:n=2:=by have:((n:Nat):Int)=2:=by simpa using h0
                  omega
  rw [h0]at hn
  match hx:eO T s with
  | []=>rw [hx]at hn;simp at hn
  | [x]=>rw [hx]at hn;simp at hn
  |x::y::z::t=>rw [hx]at hn;simp at hn
  | [x,y]=>
   rw [hx]at hown;intro w4 hw4;have hb4:Below w2.heap.size w2 w4:=by subst hw4;exact aO w2
   obtain⟨p,hp,hc⟩:=kN (l:=⟨a,n,c⟩) (enc:=ay) (sz:=1) (fun _=>rfl) (by decide) (aF hown hb4) (i:=0) (x:=x) rfl;obtain⟨p',hp',hc'⟩:=kN (l:=⟨a,n,c⟩) (enc:=ay) (sz:=1) (fun _=>rfl) (by decide) (aF hown hb4) (i:=1) (x:=y) rfl;have hc0:=hc 0 _ rfl;have hc1:=hc' 0 _ rfl;rw [au]at hc0 hc1;refine af.mk p hp ⟨Int.le_refl _,by omega,x,hc0,af.mk p' hp' ⟨by omega,by omega,y,hc1,?_⟩⟩;refine bf (aj hb4 hl2) [.int .i64 x,.int .i64 y] rfl (cw _ _) ?_;intro w5 h5 _ _ hB5;exact⟨x,y,⟨by have:=ai _ _ h5 0;rw [au]at this;exact this,ai _ _ h5 1,trivial⟩,rfl,hB5 _ _ (Nat.le_refl _) (ae hb12 hb4)⟩
def ek:List aT→Nat→List Bs→Except (Nat×Int) (List aT)
 |es,_,[]=>.ok es
 |es,i,t::r=>match pm (eO es t)with
  |none=>.error (i,2)
  |some m=>match bP es m with
   | .error n=>.error (i,n)
   | .ok x=>ek (es++ [x]) (i+1) r
def fP (w:World) (o:Except (Nat×Int) (List aT)) (k:Nat) (v:Value) (w':World):Prop:=Below w.heap.size w w'∧match o with
 | .error q=>v= .tuple #[.pointer none,.int .i64 q.1,.int .i64 q.2]∧q.2≠0
 | .ok es=>∃p,v= .tuple #[.pointer (some ⟨p,0,none⟩),.int .i64 (k:Int),.int .i64 0]∧dl w' p es∧iD es
theorem DF {ms:List (Int×Int)}:∀ {es:List aT} {i:Nat} {q:Nat×Int},cm es i ms= .error q→q.2≠0:=by
 induction ms with
 |nil=>intro es i q h;cases h
 |cons m ms ih=>
  intro es i q h;rw [cm]at h;cases hx:bP es m with
  |error n=>rw [hx]at h;cases h;exact gn hx
  |ok x=>rw [hx]at h;exact ih h
theorem A6 (w:World) (a:Option Addr) (c:Nat) (ts:List Bs) (hr:Rw c_ 1 w a ts) (hl:ts.length≤1000000) (hts:∀t∈ts,t.length≤100000):
  CP 188 #[.slice a ts.length c] w fun e w'=>∃v,e= .returned v∧fP w (ek bG 0 ts) ts.length v w':=by
 refine Bn a ts.length c w (fP w (ek bG 0 ts) ts.length) ?_;refine(qg w none 0 [] (by intro j x hj;simp at hj) (by simp)).mono ?_;rintro e w1 ⟨v,rfl,hB,p,rfl,hT,hok⟩;refine⟨_,_,_,rfl,ac.no rfl ?_⟩;intro I hI;have key:=bj (α:=Int×Int×Option Addr×World) ts.length (fun i x=>∃es,gW x.2.2.2 w.heap.size p es∧iD es∧ek bG 0 ts=ek es i (ts.drop i)∧Below w.heap.size w x.2.2.2) (fun i x=>I [.int .i64 (i:Int),.int .i64 x.1,.int .i64 x.2.1,.pointer x.2.2.1] x.2.2.2) (0,0,none,w1) ⟨bG,hT,hok,by rw [List.drop_zero],hB⟩ ?_ ?_
 ·exact key
 ·rintro i hi ih ⟨y4,y3,y2,w2⟩ ⟨es,hT,hok,heq,hB⟩;change gW w2 _ _ _ at hT;change Below w.heap.size w w2 at hB;obtain⟨q,hq,_,hc⟩:=(hr.on hB) i _ (List.getElem?_eq_getElem hi);have h0:=hc 0 _ rfl;rw [au]at h0;have hdrop:ts.drop i=ts[i]::ts.drop (i+1):=List.drop_eq_getElem_cons hi;refine hI _ _ _ _ _ (ac.yes (by simp;omega) (af.mk q hq ⟨by omega,by omega,_,h0,?_⟩));refine(wF w2 p es hT.is hok ts[i] (hts _ (List.getElem_mem hi))).mono ?_;rintro e w3 ⟨rfl,hB3⟩;have hz:w.heap.size≤w2.heap.size:=hB.size;have fin:∀(o:Option (Int×Int)),pm (eO es ts[i])=o→∀(x y:Int) (b:Bool),KI o= .tuple #[.agg #[.int .i64 x,.int .i64 y],.bool b]→(b=true→o=some (x,y))→(b=false→o=none)→∀w4:World,w4=w3.alloc (.cells #[Value.int .i64 0,Value.int .i64 0] mh)→
        ax w4 (nb w3) (fun w5=>
        ac (!b)
         (fP w (ek bG 0 ts) ts.length (Value.tuple #[Value.pointer none,Value.int .i64 (i:Int),Value.int .i64 2]) w5)
         (∃g0:Int,∃g1:Int,(w5.cell? (nb w3)=some (Value.int .i64 g0)∧w5.cell? ((nb w3).add 1)=some (Value.int .i64 g1)∧True)∧
          CP 240 #[Value.pointer (some ⟨p,0,none⟩),Value.agg #[Value.int .i64 g0,Value.int .i64 g1]] w5 (fun e6 w6=>
          ∃r0_3:Int,∃r1_4:Int,e6= .returned (Value.tuple #[Value.int .i64 r0_3,Value.int .i64 r1_4])∧
          ac ((r1_4:Int) != 0)
           (fP w (ek bG 0 ts) ts.length (Value.tuple #[Value.pointer none,Value.int .i64 (i:Int),Value.int .i64 r1_4]) w6)
           (Ar .i64 ((i:Int)+1) (fun n=>
            I [Value.int .i64 n,Value.int .i64 y4,Value.int .i64 y3,Value.pointer y2] w6))))) [Value.int .i64 x,Value.int .i64 y] 0:=by
   intro o ho x y b _ hb1 hb0 w4 hw4;refine aS [.int .i64 0,.int .i64 0] [.int .i64 x,.int .i64 y] rfl (cw _ _) w4 hw4 ?_;intro w5 h5 hz5 hB5;have hB35:Below w2.heap.size w2 w5:=ae hB3 hB5;have hB05:Below w.heap.size w w5:=hB.trans (hB35.mono hz);refine ac.mk (fun hb=>?_) fun hb=>?_
   ·have hn:=hb0 (by simpa using hb);rw [hn]at ho;refine⟨hB05,?_⟩;rw [heq,hdrop,ek,ho];exact⟨rfl,show(2:Int)≠0 by decide⟩
   ·have hs:=hb1 (by simpa using hb);rw [hs]at ho;refine⟨x,y,⟨by have:=ai _ _ h5 0;rw [au]at this;exact this,ai _ _ h5 1,trivial⟩,?_⟩;refine(ql w5 w.heap.size p es (hT.on hB35) hok hB05.size (x,y)).mono ?_;rintro e w6 ⟨v,rfl,hB6,hpost⟩;have hB06:Below w.heap.size w w6:=hB05.trans hB6;cases hx:bP es (x,y)with
    |error n=>
     rw [hx]at hpost;obtain⟨rfl,_⟩:=hpost;refine⟨_,_,rfl,ac.yes (by simpa using gn hx) ⟨hB06,?_⟩⟩;rw [heq,hdrop,ek,ho];simp only [hx];exact⟨trivial,gn hx⟩
    |ok z=>
     rw [hx]at hpost;obtain⟨rfl,hT'⟩:=hpost;refine⟨_,_,rfl,ac.no (by simp) (Ar.ok64 (by omega) (by omega) (ih (y4,y3,y2,w6) ⟨_,hT',(mg hok hx).1,?_,hB06⟩))⟩;rw [heq,hdrop,ek,ho];simp only [hx]
  cases ho:pm (eO es ts[i])with
  |none=>exact⟨0,0,false,rfl,fin none ho 0 0 false rfl (by simp) (fun _=>rfl)⟩
  |some m=>exact⟨m.1,m.2,true,rfl,fin (some m) ho m.1 m.2 true rfl (fun _=>rfl) (by simp)⟩
 ·rintro⟨y4,y3,y2,w2⟩ ⟨es,hT,hok,heq,hB⟩;refine hI _ _ _ _ _ (ac.no (by simp) ⟨hB,?_⟩);rw [heq,List.drop_length,ek];exact⟨p,rfl,hT.is,hok⟩
def kW (s:ak):Except (Nat×Int) (List aT):=if s.ranked then ek bG 0 s.tokens else cm bG 0 s.merges
def EU (s:ak):Nat:=if s.ranked then s.tokens.length else s.merges.length
theorem FI (w:World) (x:aY) (s:ak) (h:cI w x s) (hs:gj s) (hts:∀t∈s.tokens,t.length≤100000):
  CP 130 #[x.v] w fun e w'=>∃v,e= .returned v∧fP w (kW s) (EU s) v w':=by
 refine yO x.ranked x.s1.a x.s1.n x.s1.c x.s2.a x.s2.n x.s2.c x.s3.a x.s3.n x.s3.c x.s4.a x.s4.n x.s4.c x.s5.a x.s5.n x.s5.c w (fP w (kW s) (EU s)) ?_;rintro w1 rfl;have hb:=ah w (.cells x.cells da);have h1:=h.on hb;have c0:∀j,(w.alloc (.cells x.cells da)).cell? ((nb w).add j)=x.cells[j]? :=fun j=>by rw [aB,Nat.zero_add,aV]
 have shape:∀(o:Except (Nat×Int) (List aT)) (k:Nat) (v:Value) (w2:World),fP (w.alloc (.cells x.cells da)) o k v w2→∃(r0:Option Addr) (r1 r2:Int),v= .tuple #[.pointer r0,.int .i64 r1,.int .i64 r2]∧fP w o k v w2:=by
  intro o k v w2 hp;obtain⟨hB,hm⟩:=hp;have hB':=ae hb hB;cases o with
  |error q=>obtain⟨rfl,hq⟩:=hm;exact⟨_,_,_,rfl,hB',rfl,hq⟩
  |ok es=>obtain⟨p,rfl,hT⟩:=hm;exact⟨_,_,_,rfl,hB',p,rfl,hT⟩
 refine⟨_,c0 0,ac.mk (fun h0=>?_) fun h0=>?_⟩
 ·have h0:s.ranked=true:=by rw [←h.ranked];exact h0
  refine⟨_,_,_,c0 2,?_⟩;have hI:=A6 (w.alloc (.cells x.cells da)) x.s2.a x.s2.c s.tokens h1.r2 hs.2.1 hts;rw [←h.n2]at hI;refine hI.mono ?_;rintro e w2 ⟨v,rfl,hp⟩;rw [h.n2]at hp;obtain⟨r0,r1,r2,rfl,hp'⟩:=shape _ _ _ _ hp;refine⟨r0,r1,r2,rfl,?_⟩;rw [kW,EU,if_pos h0,if_pos h0];exact hp'
 ·have h0:s.ranked=false:=by rw [←h.ranked];exact h0
  refine⟨_,_,_,c0 1,?_⟩;have hI:=qg (w.alloc (.cells x.cells da)) x.s1.a x.s1.c s.merges h1.r1 (by have:=hs.1;omega);rw [←h.n1]at hI;refine hI.mono ?_;rintro e w2 ⟨v,rfl,hB,hp⟩;have hp2:fP (w.alloc (.cells x.cells da)) (cm bG 0 s.merges) s.merges.length v w2:=by
   refine⟨hB,?_⟩;cases hx:cm bG 0 s.merges with
   |error q=>rw [hx]at hp;exact⟨hp,DF hx⟩
   |ok es=>rw [hx]at hp;obtain⟨p,hv,hT,hok⟩:=hp;exact⟨p,hv,hT.is,hok⟩
  obtain⟨r0,r1,r2,rfl,hp'⟩:=shape _ _ _ _ hp2;refine⟨r0,r1,r2,rfl,?_⟩;rw [kW,EU,if_neg (by rw [h0];simp),if_neg (by rw [h0];simp)];exact hp'
def oK (S:List Nat) (w w':World):Prop:=w.heap.size≤w'.heap.size∧∀k,k<w.heap.size→k∉S→w'.heap[k]? =w.heap[k]?
theorem oK.trans {S:List Nat} {a b c:World} (h:oK S a b) (k:oK S b c):oK S a c:=⟨Nat.le_trans h.1 k.1,fun i hi hS=>(k.2 i (Nat.lt_of_lt_of_le hi h.1) hS).trans (h.2 i hi hS)⟩
theorem oK.of_below {S:List Nat} {a b:World} (h:Below a.heap.size a b):oK S a b:=⟨h.size,fun k hk _=>h.block k hk⟩
theorem oK.setCell {S:List Nat} {w:World} {a:Addr} (u:Value) (ha:a.block∈S):oK S w (w.setCell a u):=⟨by rw [ba];exact Nat.le_refl _,fun k _ hS=>aq fun e=>hS (e▸ha)⟩
theorem nO {S:List Nat} {w w':World} {B:Nat} {e:TypeId} {sz n:Nat} {v:Value} {xs:List Value} (h:w.ownsRow B e sz v n xs) (hS:∀k,B≤k→k∉S) (ho:oK S w w'):w'.ownsRow B e sz v n xs:=
 aU h fun k hk=>ho.2 k (cB h k hk).2 (hS k (cB h k hk).1)
structure gz (B:Nat) (w:World) (x:aY) (s:ak):Prop where
 o1:w.ownsRow B mh 2 x.s1.v x.s1.n (s.merges.flatMap aP)
 o2:w.ownsRow B fE 1 x.s2.v x.s2.n (s.tokens.flatMap c_)
 o3:w.ownsRow B nr 2 x.s3.v x.s3.n (s.specials.flatMap aD)
 o4:w.ownsRow B FU 3 x.s4.v x.s4.n (s.classes.flatMap bH)
 o5:w.ownsRow B Jc 2 x.s5.v x.s5.n (s.joins.flatMap aP)
theorem gz.on {B:Nat} {w w':World} {x:aY} {s:ak} (h:gz B w x s) (hb:Below w.heap.size w w'):gz B w' x s:=
 ⟨aF h.o1 hb,aF h.o2 hb,aF h.o3 hb,aF h.o4 hb,aF h.o5 hb⟩
theorem gz.base {B B':Nat} {w:World} {x:aY} {s:ak} (h:gz B w x s) (hB:B'≤B):gz B' w x s:=
 ⟨aX h.o1 hB,aX h.o2 hB,aX h.o3 hB,aX h.o4 hB,aX h.o5 hB⟩
theorem wy (w:World) (x:aY) (s:ak) (h:cI w x s) (hs:gj s):
  CP 100 #[x.v] w fun e w'=>∃x':aY,e= .returned x'.v∧cI w' x' s∧Below w.heap.size w w'∧gz w.heap.size w' x' s:=by
 refine aJ (xq x.ranked x.s1.a x.s1.n x.s1.c x.s2.a x.s2.n x.s2.c x.s3.a x.s3.n x.s3.c x.s4.a x.s4.n x.s4.c x.s5.a x.s5.n x.s5.c w (fun v w'=>∃x':aY,v=x'.v∧cI w' x' s∧Below w.heap.size w w'∧gz w.heap.size w' x' s) ?_) (by rintro v w' ⟨x',rfl,h⟩;exact⟨x',rfl,h⟩);intro w1 hw1 w2 hw2 w3 hw3;obtain⟨n1,n2,n3,n4,n5⟩:=hs;have hz1:w1.heap.size=w.heap.size+1:=by subst hw1;exact aA _ _
 have hz2:w2.heap.size=w.heap.size+2:=by subst hw2;rw [aA,hz1]
 have hz3:w3.heap.size=w.heap.size+2:=by subst hw3;exact hz2
 have hB3:Below w.heap.size w w3:=by
  subst hw3;subst hw2;subst hw1;exact(((Below.refl _ _).alloc (Nat.le_refl _) _).alloc (by rw [aA];omega) _).drew
 have p3:w3.heap[w.heap.size]? =some (.cells x.cells da (0,0)):=by
  subst hw3;show w2.heap[w.heap.size]? =_;rw [hw2,fB _ _ (by omega)];subst hw1;exact ap _ _
 have q3:w3.heap[w1.heap.size]? =some (.cells fW.cells da (0,0)):=by
  subst hw3;show w2.heap[w1.heap.size]? =_;rw [hw2];exact ap _ _
 have h3:=h.on hB3;have c3:∀ {w':World},w'.heap[w.heap.size]? =some (.cells x.cells da (0,0))→∀j,w'.cell? ((nb w).add j)=x.cells[j]? :=fun hw' j=>ai _ _ hw' j;refine⟨_,_,_,c3 p3 1,_,_,_,c3 p3 2,_,_,_,c3 p3 3,?_⟩;have k1:=AM w3 x.s1.a x.s1.c s.merges h3.r1 (by omega);rw [←h.n1]at k1;refine k1.mono ?_;rintro e w4 ⟨t1,rfl,e1,o1,b4⟩;have p4:=aj b4 p3;have z4:=b4.size;refine⟨_,_,_,rfl,⟨c3 p4 3,trivial⟩,⟨c3 p4 2,trivial⟩,?_⟩;have k2:=yp w4 x.s2.a x.s2.c s.tokens (h3.on b4).r2 (by omega);rw [←h.n2]at k2;refine k2.mono ?_;rintro e w5 ⟨t2,rfl,e2,o2,b5⟩;have p5:=aj b5 p4;have z5:=b5.size;refine⟨_,_,_,rfl,⟨c3 p5 3,trivial⟩,?_⟩;have k3:=pV w5 x.s3.a x.s3.c s.specials ((h3.on b4).on b5).r3 (by omega);rw [←h.n3]at k3;refine k3.mono ?_;rintro e w6 ⟨t3,rfl,e3,o3,b6⟩;have p6:=aj b6 p5;have z6:=b6.size;have hB6:Below w.heap.size w w6:=((hB3.trans (b4.mono hB3.size)).trans (b5.mono (by omega))).trans (b6.mono (by omega));refine⟨_,_,_,rfl,rfl,⟨_,c3 p6 1⟩,be p6,?_⟩;intro w7 hw7;have p7:w7.heap[w.heap.size]? =some (.cells #[.bool x.ranked,t1.v,x.s2.v,x.s3.v,x.s4.v,x.s5.v] da (0,0)):=by subst hw7;exact bF p6 _
 refine⟨rfl,⟨_,by rw [ai _ _ p7];rfl⟩,be p7,?_⟩;intro w8 hw8;have p8:w8.heap[w.heap.size]? =some (.cells #[.bool x.ranked,t1.v,t2.v,x.s3.v,x.s4.v,x.s5.v] da (0,0)):=by subst hw8;exact bF p7 _
 refine⟨rfl,⟨_,by rw [ai _ _ p8];rfl⟩,be p8,?_⟩;intro w9 hw9;have p9:w9.heap[w.heap.size]? =some (.cells #[.bool x.ranked,t1.v,t2.v,t3.v,x.s4.v,x.s5.v] da (0,0)):=by subst hw9;exact bF p8 _
 intro w10 hw10;have p10:w10.heap[w.heap.size]? =some (.cells #[.bool x.ranked,t1.v,t2.v,t3.v,x.s4.v,x.s5.v] da (0,0)):=by subst hw10;exact p9
 have hB10:Below w.heap.size w w10:=by
  subst hw10;subst hw9;subst hw8;subst hw7;exact(bv (bv (bv hB6 (Nat.le_refl _) _) (Nat.le_refl _) _) (Nat.le_refl _) _).drew
 have off10:oK [w.heap.size,w1.heap.size] w6 w10:=by
  have a1:oK [w.heap.size,w1.heap.size] w6 w7:=by subst hw7;exact oK.setCell _ (by rw [av];simp)
  have a2:oK [w.heap.size,w1.heap.size] w7 w8:=by subst hw8;exact oK.setCell _ (by rw [av];simp)
  have a3:oK [w.heap.size,w1.heap.size] w8 w9:=by subst hw9;exact oK.setCell _ (by rw [av];simp)
  have a4:oK [w.heap.size,w1.heap.size] w9 w10:=by subst hw10;exact oK.of_below (aO _)
  exact((a1.trans a2).trans a3).trans a4
 have z10:=off10.1;have h10:=h.on hB10;refine⟨_,_,_,by rw [ai _ _ p10];rfl,_,_,_,by rw [ai _ _ p10];rfl,?_⟩;have k4:=xO w10 x.s4.a x.s4.c s.classes h10.r4 (by omega);rw [←h.n4]at k4;refine k4.mono ?_;rintro e w11 ⟨t4,rfl,e4,o4,b11⟩;have p11:=aj b11 p10;have z11:=b11.size;refine⟨_,_,_,rfl,⟨by rw [ai _ _ p11];rfl,trivial⟩,?_⟩;have k5:=BC w11 x.s5.a x.s5.c s.joins (h10.on b11).r5 (by omega);rw [←h.n5]at k5;refine k5.mono ?_;rintro e w12 ⟨t5,rfl,e5,o5,b12⟩;have p12:=aj b12 p11;have z12:=b12.size;refine⟨_,_,_,rfl,rfl,⟨_,by rw [ai _ _ p12];rfl⟩,be p12,?_⟩;intro w13 hw13;have p13:w13.heap[w.heap.size]? =some (.cells #[.bool x.ranked,t1.v,t2.v,t3.v,t4.v,x.s5.v] da (0,0)):=by subst hw13;exact bF p12 _
 refine⟨rfl,⟨_,by rw [ai _ _ p13];rfl⟩,be p13,?_⟩;intro w14 hw14;have p14:w14.heap[w.heap.size]? =some (.cells (⟨x.ranked,t1,t2,t3,t4,t5⟩:aY).cells da (0,0)):=by subst hw14;exact bF p13 _
 have hB14:Below w.heap.size w w14:=by
  subst hw14;subst hw13;exact bv (bv ((hB10.trans (b11.mono hB10.size)).trans (b12.mono (Nat.le_trans hB10.size z11))) (Nat.le_refl _) _) (Nat.le_refl _) _
 have off14:oK [w.heap.size,w1.heap.size] w12 w14:=by
  have a1:oK [w.heap.size,w1.heap.size] w12 w13:=by subst hw13;exact oK.setCell _ (by rw [av];simp)
  have a2:oK [w.heap.size,w1.heap.size] w13 w14:=by subst hw14;exact oK.setCell _ (by rw [av];simp)
  exact a1.trans a2
 have off6:oK [w.heap.size,w1.heap.size] w6 w14:=((off10.trans (oK.of_below b11)).trans (oK.of_below b12)).trans off14;have q14:w14.heap[w1.heap.size]? =some (.cells fW.cells da (0,0)):=by
  have e0:∀w':World,w1.heap.size≠w.heap.size:=fun _=>by omega
  have q6:=aj b6 (aj b5 (aj b4 q3));have q7:w7.heap[w1.heap.size]? =some (.cells fW.cells da (0,0)):=by subst hw7;rw [aq (by rw [av];exact e0 w)];exact q6
  have q8:w8.heap[w1.heap.size]? =some (.cells fW.cells da (0,0)):=by subst hw8;rw [aq (by rw [av];exact e0 w)];exact q7
  have q9:w9.heap[w1.heap.size]? =some (.cells fW.cells da (0,0)):=by subst hw9;rw [aq (by rw [av];exact e0 w)];exact q8
  have q10:w10.heap[w1.heap.size]? =some (.cells fW.cells da (0,0)):=by subst hw10;exact q9
  have q12:=aj b12 (aj b11 q10);have q13:w13.heap[w1.heap.size]? =some (.cells fW.cells da (0,0)):=by subst hw13;rw [aq (by rw [av];exact e0 w)];exact q12
  subst hw14;rw [aq (by rw [av];exact e0 w)];exact q13
 have notin:∀(B k:Nat),w.heap.size+2≤B→B≤k→k∉ [w.heap.size,w1.heap.size]:=by
  intro B k h1 h2;simp;omega
 refine⟨_,_,_,_,_,_,_,_,_,_,_,_,_,_,_,_,dF p14,?_⟩;refine uD (w:=w1) (fun x' w'=>∃x'':aY,x'.v=x''.v∧cI w' x'' s∧Below w.heap.size w w'∧gz w.heap.size w' x'' s) ⟨x.ranked,t1,t2,t3,t4,t5⟩ q14 rfl ?_;intro w15 hB15 hs15;have off15:oK [w.heap.size,w1.heap.size] w14 w15:=⟨(hB15 w14 (Below.refl _ _)).size,fun k hk hS=>hs15 k fun e=>hS (by rw [e];simp)⟩;have b15:Below w.heap.size w w15:=(hB14.trans ((hB15 w14 (Below.refl _ _)).mono (by omega)));have o1':=nO (aF (aF o1 b5) b6) (fun k hk=>notin _ k (by omega) hk) (off6.trans off15);have o2':=nO (aF o2 b6) (fun k hk=>notin _ k (by omega) hk) (off6.trans off15);have o3':=nO o3 (fun k hk=>notin _ k (by omega) hk) (off6.trans off15);have o4':=nO (aF o4 b12) (fun k hk=>notin _ k (by omega) hk) (off14.trans off15);have o5':=nO o5 (fun k hk=>notin _ k (by omega) hk) (off14.trans off15);exact⟨⟨x.ranked,t1,t2,t3,t4,t5⟩,rfl,⟨h.ranked,e1.trans h.n1,(Rw.of_own o1' (fun _=>rfl) (by decide)).1,e2.trans h.n2,(Rw.of_own o2' (fun _=>rfl) (by decide)).1,e3.trans h.n3,(Rw.of_own o3' (fun _=>rfl) (by decide)).1,e4.trans h.n4,(Rw.of_own o4' (fun _=>rfl) (by decide)).1,e5.trans h.n5,(Rw.of_own o5' (fun _=>rfl) (by decide)).1⟩,b15,aX o1' (by omega),aX o2' (by omega),aX o3' (by omega),aX o4' (by omega),aX o5' (by omega)⟩
end Go.Proofs.YtijbcdiffjjefaaGreatDoor.Eng
