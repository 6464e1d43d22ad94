/- The heap, walked by the engine. -/
import Derived.Test.YtijbcdiffjjefaaGreatDoorZwMk
set_option linter.unusedVariables false
set_option linter.unusedSimpArgs false
set_option maxRecDepth 100000
namespace Go.Proofs.YtijbcdiffjjefaaGreatDoor.Eng
open Go Go.RowKit
theorem s_ {α:Type} {enc:α→List Value} {sz:Nat} (hsz:∀x,(enc x).length=sz) (m:α) (rest:List Value):∀(xs:List α) (i:Nat),i<xs.length→iQ (xs.flatMap enc++rest) (i*sz) (enc m)=(xs.set i m).flatMap enc++rest
 | [],i,h=>absurd h (Nat.not_lt_zero i)
 |x::t,0,h=>by
  simp only [iQ,Nat.zero_mul,List.take_zero,List.nil_append,Nat.zero_add,List.flatMap_cons,List.set_cons_zero,List.append_assoc];rw [hsz, ←hsz x,List.drop_left]
 |x::t,i+1,h=>by
  have ih:=s_ hsz m rest t i (by simpa using h);simp only [iQ,List.flatMap_cons,List.set_cons_succ,List.append_assoc]at ih⊢;rw [←ih];have e:(i+1)*sz=(enc x).length+i*sz:=by rw [hsz,Nat.add_mul,Nat.one_mul,Nat.add_comm]
  rw [e,List.take_length_add_append,Nat.add_assoc,List.drop_length_add_append,List.append_assoc]
theorem bo {b:Nat} {e:TypeId} {c:Array Value} {w2:World} {k:World→Prop} (h:w2.heap[b]? =some (.cells c e (0,0))) (vs:List Value) (hl:c.size=vs.length) (h1:∀v∈vs,v.oneCell'=true)
  (hk:∀w',w'.heap[b]? =some (.cells vs.toArray e (0,0))→(∀j,j≠b→w'.heap[j]? =w2.heap[j]?)→w'.heap.size=w2.heap.size→(∀B w0,B≤b→Below B w0 w2→Below B w0 w')→k w'):aI w2 ⟨b,0,none⟩ k vs 0:=by
 refine dA vs 0 w2 c 0 h (by omega) h1 fun w' a f g d=>hk w' ?_ f g d;rw [a];congr 2;simp [iQ, ←hl]
theorem oK {w:World} {B:Nat} {e:TypeId} {sz:Nat} {l:Sl} {α:Type} {enc:α→List Value} {xs:List α} {k:World→Prop} (hsz:∀x,(enc x).length=sz) (h0:0<sz) (h1:∀x,∀u∈enc x,u.oneCell'=true) (h:w.ownsRow B e sz l.v l.n (xs.flatMap enc)) (hn:l.n=xs.length) {a:Addr} (ha:l.a=some a) (i:Nat) (hi:i<xs.length) (m:α)
  (hk:∀w',w'.ownsRow B e sz l.v l.n ((xs.set i m).flatMap enc)→(∀j,l.v.ownBlock≠some j→w'.heap[j]? =w.heap[j]?)→w'.heap.size=w.heap.size→(∀B0 w0,B0≤B→Below B0 w0 w→Below B0 w0 w')→k w'):aI w (a.add (i*sz)) k (enc m) 0:=by
 rcases h.2 with⟨p,_⟩ |⟨g,y,b,p,C,D,r,F,v,t⟩
 ·obtain⟨H,f,d⟩:=l;cases p;cases ha
 ·obtain⟨H,f,d⟩:=l;cases p;cases ha;simp only at hn;change f≤d at r;change b.size=d*sz at v;change b.toList.take (f*sz)=_ at t;have n:(xs.flatMap enc).length=xs.length*sz:=cA hsz xs;have o:(i+1)*sz≤xs.length*sz:=Nat.mul_le_mul_right sz hi;have s:xs.length*sz≤d*sz:=Nat.mul_le_mul_right sz (by omega);rw [Nat.add_mul,Nat.one_mul]at o;rw [aG,Nat.zero_add];refine dA (enc m) 0 w b (i*sz) D (by rw [hsz];omega) (h1 m) fun w' z G q A=>hk w' ⟨?_,.inr ⟨g,d,_,rfl,C,z,r,F,?_,?_⟩⟩ (fun j E=>G j fun e=>E (by rw [e];rfl)) q (fun B0 w0 h0=>A B0 w0 (by omega))
  ·show((xs.set i m).flatMap enc).length=f*sz;rw [cA hsz,List.length_set,hn]
  ·have:b.toList.length=d*sz:=by rw [Array.length_toList];exact v
   simp only [iQ,List.size_toArray,List.length_append,List.length_take,List.length_drop,hsz];omega
  ·have c:b.toList=xs.flatMap enc++b.toList.drop (f*sz):=by rw [←t];exact(List.take_append_drop _ _).symm
   rw [Nat.add_zero,c,s_ hsz m _ xs i hi];show List.take (f*sz) _=_;rw [List.take_left' (by rw [cA hsz,List.length_set,hn])]
theorem G4 {w:World} {B:Nat} {e:TypeId} {sz:Nat} {l:Sl} {α:Type} {enc:α→List Value} {xs:List α} (hsz:∀x,(enc x).length=sz) (h:w.ownsRow B e sz l.v l.n (xs.flatMap enc)) (hn:l.n=xs.length) (n:Nat) (hle:n≤xs.length):
  w.ownsRow B e sz (Value.slice l.a n l.c) n ((xs.take n).flatMap enc):=by
 rcases h.2 with⟨f,_⟩ |⟨g,k,a,f,o,q,p,r,j,i⟩
 ·obtain⟨s,d,c⟩:=l;cases f;simp only at hn;have:xs= []:=List.eq_nil_of_length_eq_zero hn.symm;subst this;have:n=0:=by simpa using hle
  subst this;exact cU _ _ _ _
 ·obtain⟨s,d,c⟩:=l;cases f;simp only at hn;change d≤c at p;change a.size=c*sz at j;change a.toList.take (d*sz)=_ at i;refine⟨by rw [cA hsz,List.length_take,Nat.min_eq_left hle],.inr ⟨g,c,a,rfl,o,q,by omega,r,j,?_⟩⟩;have m:(xs.take n).flatMap enc=(xs.flatMap enc).take (n*sz):=by
   have e:xs.flatMap enc=(xs.take n).flatMap enc++(xs.drop n).flatMap enc:=by rw [←List.flatMap_append,List.take_append_drop]
   rw [e,List.take_left' (by rw [cA hsz,List.length_take,Nat.min_eq_left hle])]
  have b:n*sz≤d*sz:=Nat.mul_le_mul_right sz (by omega);rw [m, ←i,List.take_take,Nat.min_eq_left b]
structure dZ (B:Nat) (w w':World) (p:Nat) (l l':Sl):Prop where
 keep:∀k,k<w.heap.size→k≠p→l.v.ownBlock≠some k→w'.heap[k]? =w.heap[k]?
 new:∀k,l'.v.ownBlock=some k→l.v.ownBlock=some k∨w.heap.size≤k
 size:w.heap.size≤w'.heap.size
 below:Below B w w'
theorem dZ.of_below {B:Nat} {w w':World} (p:Nat) (l:Sl) (h:ZH w w') (hB:B≤w.heap.size):dZ B w w' p l l:=⟨fun k hk _ _=>h.block k hk,fun k hk=>.inl hk,h.size,h.mono hB⟩
theorem dZ.trans {B:Nat} {w w' w'':World} {p:Nat} {l l' l'':Sl} (h:dZ B w w' p l l') (h':dZ B w' w'' p l' l''):dZ B w w'' p l l'':=by
 refine⟨fun k a c b=>?_,fun k a=>?_,XW h.size h'.size,h.below.trans h'.below⟩
 ·rw [h'.keep k (Nat.lt_of_lt_of_le a h.size) c fun e=>?_,h.keep k a c b];rcases h.new k e with e |e
  ·exact b e
  ·omega
 ·rcases h'.new k a with e |e
  ·exact h.new k e
  ·exact .inr (XW h.size e)
abbrev JN:TypeId:=379
abbrev pG:TypeId:=389
abbrev F':TypeId:=377
theorem HA:Tryz.prog.underlying F'=some (.slice pG):=by kernel_rfl
theorem HG:(Tryz.prog.info? pG).map (fun i=>(i.zero,i.size,i.bytes))=some (some (.agg #[.int .i64 0,.int .i64 0,.int .i64 0,.int .i64 0,.int .i64 0,.int .i64 0]),6,48):=by kernel_rfl
def jM (x:HE):List Value:=[.int .i64 x.r,.int .i64 x.p,.int .i64 x.t,.int .i64 x.f,.int .i64 x.a,.int .i64 x.b]
theorem mh (x:HE):(jM x).length=6:=rfl
theorem mq (x:HE):∀u∈jM x,u.oneCell'=true:=by
 intro v a;simp only [jM,List.mem_cons,List.not_mem_nil,or_false]at a;rcases a with rfl |rfl |rfl |rfl |rfl |rfl<;>rfl
structure dG (w:World) (B p:Nat) (l:Sl) (turn:Nat) (es:List HE):Prop where
 blk:w.heap[p]? =some (.cells #[l.v,.int .i64 (turn:Int)] JN (0,0))
 row:w.ownsRow B pG 6 l.v l.n (es.flatMap jM)
 len:l.n=es.length
 off:l.v.ownBlock≠some p
 bp:B≤p
theorem dG.on {w w':World} {B p:Nat} {l:Sl} {turn:Nat} {es:List HE} (h:dG w B p l turn es) (hb:ZH w w'):dG w' B p l turn es:=⟨aj hb h.blk,aE h.row hb,h.len,h.off,h.bp⟩
theorem dG.lt {w:World} {B p:Nat} {l:Sl} {turn:Nat} {es:List HE} (h:dG w B p l turn es):p<w.heap.size:=(XY.1 h.blk).1
theorem dG.cells {w:World} {B p:Nat} {l:Sl} {turn:Nat} {es:List HE} (h:dG w B p l turn es) {i:Nat} (hi:i<es.length):∃a,l.a=some a∧∀k v,(jM (hat es i))[k]? =some v→w.cell? ((a.add (i*6)).add k)=some v:=by
 obtain⟨a,b,_,c⟩:=(Rw.of_own h.row mh (by decide)).1 i _ (XK hi);refine⟨a,b,fun k v d=>c k v ?_⟩;have:hat es i=es[i]:=by simp [hat,hi]
 rwa [this]at d
theorem xg (w:World):CP 279 #[] w fun e w'=>e= .returned (.pointer (some ⟨w.heap.size,0,none⟩))∧dG w' w.heap.size w.heap.size ⟨none,0,0⟩ 0 []∧ZH w w'∧w'.heap.size=w.heap.size+1:=by
 refine aV (CB w) ?_;rintro a rfl;exact⟨rfl,⟨aq _ _,cU _ _ _ _,rfl,by(intro h;cases h),XV _⟩,ah _ _,aK _ _⟩
theorem xA (w:World) (B p:Nat) (l:Sl) (turn:Nat) (es:List HE) (h:dG w B p l turn es):CP 320 #[.pointer (some ⟨p,0,none⟩)] w fun e w'=>e= .returned (.int .i64 es.length)∧w'=w:=by
 refine aV (AC (some ⟨p,0,none⟩) w) ?_;exact ac.no rfl (ag.mk _ rfl ⟨l.a,l.n,l.c,by rw [ai p w h.blk];rfl,by rw [h.len],rfl⟩)
theorem mI (x y:HE) (w:World):CP 321 #[.agg #[.int .i64 x.r,.int .i64 x.p,.int .i64 x.t],.agg #[.int .i64 y.r,.int .i64 y.p,.int .i64 y.t]] w fun e w'=>e= .returned (.bool (decide (x.lt y)))∧ZH w w':=by
 refine aJ (yx x.r x.p x.t y.r y.p y.t w (fun v w'=>v= .bool (decide (x.lt y))∧ZH w w') ?_) (by rintro v w' ⟨rfl,h⟩;exact⟨rfl,h⟩);intro l a k b;have i:ZH w k:=by subst b;subst a;exact ae (ah _ _) (ah _ _)
 have c:∀j,k.cell? ((nb w).add j)=(#[Value.int .i64 x.r,Value.int .i64 x.p,Value.int .i64 x.t]:Array Value)[j]? :=by
  intro j;subst b;rw [(ah l _).cell (by rw [ay];subst a;rw [aK];exact Nat.lt_succ_self _)];subst a;rw [aG,Nat.zero_add,bn]
 have d:∀j,k.cell? ((nb l).add j)=(#[Value.int .i64 y.r,Value.int .i64 y.p,Value.int .i64 y.t]:Array Value)[j]? :=by
  intro j;subst b;rw [aG,Nat.zero_add,bn]
 refine⟨_,c 0,_,d 0,ac.mk (fun f=>?_) fun f=>?_⟩
 ·have f:x.r≠y.r:=by simpa using f
  refine⟨_,c 0,_,d 0,?_,i⟩;congr 1;exact decide_eq_decide.2 (by unfold HE.lt;omega)
 ·have f:x.r=y.r:=by simpa using f
  refine⟨_,c 1,_,d 1,ac.mk (fun g=>?_) fun g=>?_⟩
  ·have g:x.p≠y.p:=by simpa using g
   refine⟨_,c 1,_,d 1,?_,i⟩;congr 1;exact decide_eq_decide.2 (by unfold HE.lt;omega)
  ·have g:x.p=y.p:=by simpa using g
   refine⟨_,c 2,_,d 2,?_,i⟩;congr 1;exact decide_eq_decide.2 (by unfold HE.lt;omega)
theorem jy (w:World) (B p:Nat) (l:Sl) (turn:Nat) (es:List HE) (h:dG w B p l turn es) (hB:B≤w.heap.size) (i k:Nat) (hi:i<es.length) (hk:k<es.length):
  CP 307 #[.pointer (some ⟨p,0,none⟩),.int .i64 (i:Int),.int .i64 (k:Int)] w fun e w'=>e= .returned (.tuple #[])∧dG w' B p l turn (rB es i k)∧dZ B w w' p l l:=by
 refine aV (B7 (some ⟨p,0,none⟩) i k w) ?_;intro A t;have c:ZH w A:=by subst t;exact aU w
 have m:=h.on c;have q:A.cell? ((⟨p,0,none⟩:Addr).add 0)=some (.slice l.a l.n l.c):=by rw [ai p _ m.blk];rfl
 obtain⟨a,d,g⟩:=m.cells hk;obtain⟨n,o,f⟩:=m.cells hi;have r:n=a:=by rw [d]at o;exact(Option.some.inj o).symm
 subst r;have b:=m.len;have E:((k:Int)).toNat=k:=by omega
 have F:((i:Int)).toNat=i:=by omega
 rw [E,F];have x:=g 0 _ rfl;have v:=f 0 _ rfl;rw [aC]at x v;refine ag.mk _ rfl ⟨l.a,l.n,l.c,q,ag.mk _ rfl ⟨l.a,l.n,l.c,q,ag.mk _ rfl ⟨l.a,l.n,l.c,q,ag.mk n d ⟨by omega,by omega,_,_,_,_,_,_,⟨x,g 1 _ rfl,g 2 _ rfl,g 3 _ rfl,g 4 _ rfl,g 5 _ rfl,trivial⟩,ag.mk _ rfl ⟨l.a,l.n,l.c,q,ag.mk n d ⟨by omega,by omega,_,_,_,_,_,_,⟨v,f 1 _ rfl,f 2 _ rfl,f 3 _ rfl,f 4 _ rfl,f 5 _ rfl,trivial⟩,ag.mk n d ⟨by omega,by omega,?_⟩⟩⟩⟩⟩⟩⟩;refine oK mh (by decide) mq m.row b d i hi (hat es k) ?_;intro L G y I C;refine ag.mk n d ⟨by omega,by omega,?_⟩;refine oK mh (by decide) mq G (by rw [List.length_set];exact b) d k (by rw [List.length_set];exact hk) (hat es i) ?_;intro M H z J D;refine⟨rfl,⟨?_,H,by rw [cC];exact b,h.off,h.bp⟩,⟨fun j s K u=>?_,fun j s=>.inl s,?_,D _ _ (XV _) (C _ _ (XV _) (c.mono hB))⟩⟩
 ·rw [z p h.off,y p h.off];exact m.blk
 ·rw [z j u,y j u,c.block j s]
 ·rw [J,I];exact c.size
theorem A6 (B p:Nat) (l:Sl) (turn:Nat):∀(n:Nat) (i:Nat) (es:List HE) (w:World),i≤n→dG w B p l turn es→B≤w.heap.size→i<es.length→es.length≤1000000→G8 es i→
  ∀(R:Value→World→Prop) (I:List Value→World→Prop),(∀(i_2:Int) (w1:World),(ac (decide ((i_2:Int)>0))
   (Ar .i64 ((i_2:Int)-1) (fun n=>
    (2:Int)≠0∧
    ∀w2:World,w2=w1.drew→
    ag (some ⟨p,0,none⟩) (fun pa=>
    ∃lA:Option Addr,∃lN:Nat,∃lC:Nat,w2.cell? (pa.add 0)=some (Value.slice lA lN lC)∧
    ag lA (fun pa_3=>
    (0:Int)≤i_2∧i_2< ((lN:Nat):Int)∧
    ∃g0:Int,∃g1:Int,∃g2:Int,(w2.cell? ((pa_3.add ((i_2:Int).toNat*6)).add 0)=some (Value.int .i64 g0)∧w2.cell? (((pa_3.add ((i_2:Int).toNat*6)).add 0).add 1)=some (Value.int .i64 g1)∧w2.cell? (((pa_3.add ((i_2:Int).toNat*6)).add 0).add 2)=some (Value.int .i64 g2)∧True)∧
    ag (some ⟨p,0,none⟩) (fun pa_4=>
    ∃lA_5:Option Addr,∃lN_6:Nat,∃lC_7:Nat,w2.cell? (pa_4.add 0)=some (Value.slice lA_5 lN_6 lC_7)∧
    ag lA_5 (fun pa_8=>
    (0:Int)≤(IntKind.wrap .i64 (Int.tdiv n 2))∧(IntKind.wrap .i64 (Int.tdiv n 2)) < ((lN_6:Nat):Int)∧
    ∃g0_9:Int,∃g1_10:Int,∃g2_11:Int,(w2.cell? ((pa_8.add ((IntKind.wrap .i64 (Int.tdiv n 2):Int).toNat*6)).add 0)=some (Value.int .i64 g0_9)∧w2.cell? (((pa_8.add ((IntKind.wrap .i64 (Int.tdiv n 2):Int).toNat*6)).add 0).add 1)=some (Value.int .i64 g1_10)∧w2.cell? (((pa_8.add ((IntKind.wrap .i64 (Int.tdiv n 2):Int).toNat*6)).add 0).add 2)=some (Value.int .i64 g2_11)∧True)∧
    CP 321 #[Value.agg #[Value.int .i64 g0,Value.int .i64 g1,Value.int .i64 g2],Value.agg #[Value.int .i64 g0_9,Value.int .i64 g1_10,Value.int .i64 g2_11]] w2 (fun e3 w3=>
    ∃b:Bool,e3= .returned (Value.bool b)∧
    ac (!b)
     (R (Value.tuple #[]) w3)
     (CP 307 #[Value.pointer (some ⟨p,0,none⟩),Value.int .i64 i_2,Value.int .i64 (IntKind.wrap .i64 (Int.tdiv n 2))] w3 (fun e4 w4=>
      e4= .returned (Value.tuple #[])∧
      I [Value.int .i64 (IntKind.wrap .i64 (Int.tdiv n 2))] w4)))))))))
   (R (Value.tuple #[]) w1))→I [Value.int .i64 i_2] w1)→
  (∀(es':List HE) (w':World),dG w' B p l turn es'→eN es'→es'.length=es.length→(∀e,e∈es'↔e∈es)→dZ B w w' p l l→R (.tuple #[]) w')→
  I [Value.int .i64 (i:Int)] w:=by
 intro n;induction n with
 |zero=>
  intro i es w C h g s L t R I m o;have:i=0:=by omega
  subst this;refine m _ _ (ac.no (by simp) (o es w h (wQ t (.inl rfl)) rfl (fun _=>Iff.rfl) (dZ.of_below p l (Below.refl _ _) g)))
 |succ n ih=>
  intro i es w C h g s L t R I m o;by_cases h0:i=0
  ·subst h0;exact m _ _ (ac.no (by simp) (o es w h (wQ t (.inl rfl)) rfl (fun _=>Iff.rfl) (dZ.of_below p l (Below.refl _ _) g)))
  ·have d:0<i:=Nat.pos_of_ne_zero h0;have G:IntKind.wrap .i64 (Int.tdiv ((i:Int)-1) 2)=((par i:Nat):Int):=by
    have e:Int.tdiv ((i:Int)-1) 2=((par i:Nat):Int):=by
     rw [Int.tdiv_eq_ediv_of_nonneg (by omega)];unfold par;omega
    rw [e];have:=iO d;exact cL (by show(-9223372036854775808:Int)≤_;omega) (by show _≤(9223372036854775807:Int);omega)
   have V:=iO d;refine m _ _ (ac.yes (by simp;omega) (Ar.ok64 (by omega) (by omega) ⟨by decide,?_⟩));rw [G];intro w2 F;have r:ZH w w2:=by subst F;exact aU w
   have j:=h.on r;have K:w2.cell? ((⟨p,0,none⟩:Addr).add 0)=some (.slice l.a l.n l.c):=by rw [ai p _ j.blk];rfl
   obtain⟨a,y,v⟩:=j.cells s;obtain⟨u,q,x⟩:=j.cells (show par i<es.length by omega);have z:u=a:=by rw [y]at q;exact(Option.some.inj q).symm
   subst z;have M:=j.len;have Q:((i:Int)).toNat=i:=by omega
   have S:((par i:Nat):Int).toNat=par i:=by omega
   rw [Q,S];simp only [aC];have N:=v 0 _ rfl;have P:=x 0 _ rfl;rw [aC]at N P;refine ag.mk _ rfl ⟨l.a,l.n,l.c,by rw [←K,aC],ag.mk u y ⟨by omega,by omega,_,_,_,⟨N,v 1 _ rfl,v 2 _ rfl,trivial⟩,ag.mk _ rfl ⟨l.a,l.n,l.c,by rw [←K,aC],ag.mk u y ⟨by omega,by omega,_,_,_,⟨P,x 1 _ rfl,x 2 _ rfl,trivial⟩,?_⟩⟩⟩⟩;refine(mI (hat es i) (hat es (par i)) w2).mono ?_;rintro e w3 ⟨rfl,k⟩;have J:=j.on k;have f:=ae r k;refine⟨_,rfl,ac.mk (fun c=>?_) fun c=>?_⟩
   ·have c:¬(hat es i).lt (hat es (par i)):=by simpa using c
    exact o es w3 J (wQ t (.inr c)) rfl (fun _=>Iff.rfl) (dZ.of_below p l f g)
   ·have c:(hat es i).lt (hat es (par i)):=by simpa using c
    refine(jy w3 B p l turn es J (XW g f.size) i (par i) s (by omega)).mono ?_;rintro e w4 ⟨rfl,U,O⟩;refine⟨rfl,ih (par i) (rB es i (par i)) w4 (by omega) U (XW g (XW f.size O.size)) (by rw [cC];omega) (by rw [cC];exact L) (KZ t d s c) R I m ?_⟩;intro es' w' T A D E H;exact o es' w' T A (by rw [D,cC]) (fun e=>(E e).trans (ru s (by omega) e)) (((dZ.of_below p l f g).trans O).trans H)
structure kx (w w':World) (B p:Nat) (l l':Sl) (turn:Nat) (es':List HE):Prop where
 raw:dG w' B p l' turn es'
 heap:eN es'
 moves:dZ B w w' p l l'
theorem By (w:World) (B p:Nat) (l:Sl) (turn:Nat) (es:List HE) (h:dG w B p l turn es) (hB:B≤w.heap.size) (i:Nat) (hi:i<es.length) (hl:es.length≤1000000) (hu:G8 es i):
  CP 319 #[.pointer (some ⟨p,0,none⟩),.int .i64 (i:Int)] w fun e w'=>e= .returned (.tuple #[])∧∃es',kx w w' B p l l turn es'∧es'.length=es.length∧∀e,e∈es'↔e∈es:=by
 refine aJ (Dj (some ⟨p,0,none⟩) i w (fun v w'=>v= .tuple #[]∧∃es',kx w w' B p l l turn es'∧es'.length=es.length∧∀e,e∈es'↔e∈es) ?_) (by rintro v w' ⟨rfl,h⟩;exact⟨rfl,h⟩);intro I g;exact A6 B p l turn i i es w (XV _) h hB hi hl hu (fun v w'=>v= .tuple #[]∧∃es',kx w w' B p l l turn es'∧es'.length=es.length∧∀e,e∈es'↔e∈es) I g fun es' w' a b c d f=>⟨rfl,es',⟨a,b,f⟩,c,d⟩
theorem B9 (a b:Int) (w:World):(Instr.index 390 (.agg #[.int .i64 a,.int .i64 b]) (.int .i64 0)).run Tryz.prog w= .ok (.int .i64 a) w:=by kernel_rfl
theorem CW (a b:Int) (w:World):(Instr.index 390 (.agg #[.int .i64 a,.int .i64 b]) (.int .i64 1)).run Tryz.prog w= .ok (.int .i64 b) w:=by kernel_rfl
theorem ud (a b:Int) (y:Nat) (hy:y<2) (w:World):(Instr.index 390 (.agg #[.int .i64 a,.int .i64 b]) (.int .i64 (y:Int))).run Tryz.prog w= .ok (.int .i64 (if y=0 then a else b)) w:=by
 match y,hy with
 |0,_=>exact B9 a b w
 |1,_=>exact CW a b w
theorem uK (w:World) (B p:Nat) (l:Sl) (turn:Nat) (es:List HE) (h:dG w B p l turn es) (hB:B≤w.heap.size) (hl:es.length≤1000000) (hd:nr es 0):
  CP 308 #[.pointer (some ⟨p,0,none⟩),.int .i64 0] w fun e w'=>e= .returned (.tuple #[])∧∃es',kx w w' B p l l turn es'∧es'.length=es.length∧∀e,e∈es'↔e∈es:=by
 refine aV (Bk (some ⟨p,0,none⟩) 0 w) ?_;intro I hI;have v:∀(i:Nat) (b:List HE) (t:World),es.length≤i→i≤es.length→dG t B p l turn b→b.length=es.length→(∀e,e∈b↔e∈es)→nr b i→dZ B w t p l l→I [.int .i64 (i:Int)] t:=by
  intro i b t hn Y K r L q P;refine hI _ _ (Ar.ok64 (by omega) (by omega) (Ar.ok64 (by omega) (by omega) (Ar.ok64 (by omega) (by omega) (Ar.ok64 (by omega) (by omega) ?_))));intro Z z;have U:=K.len;have s:=aZ (α:=World) 2 (fun _ x=>∃_:Unit,dG x B p l turn b∧dZ B w x p l l) (fun y x=>Z [.int .i64 (y:Int),.int .i64 (i:Int)] x) t ⟨(),K,P⟩ ?_ ?_
  ·exact s
  ·rintro y hy W o ⟨_,E,d⟩;refine z _ _ _ (ac.yes (by simp;omega) ?_);intro J R;refine⟨_,o,ud _ _ y hy o,?_⟩;intro O M;have C:ZH o O:=by subst M;exact aU o
   have F:=E.on C;refine ag.mk _ rfl ⟨l.a,l.n,l.c,by rw [ai p _ F.blk];rfl,ac.no (by simp only [decide_eq_false_iff_not];split<;>omega) ?_⟩
   exact R _ _ (Ar.ok64 (by omega) (by omega) (W O ⟨(),F,d.trans (dZ.of_below p l C (XW hB d.size))⟩))
  ·rintro o ⟨_,E,d⟩;refine z _ _ _ (ac.no (by simp) (ac.yes (by simp) ⟨rfl,b,⟨E,vc q fun j H G u=>?_,d⟩,r,L⟩));unfold par at u;omega
 have key:∀(n i:Nat) (b:List HE) (t:World),es.length≤i+n→i≤es.length→dG t B p l turn b→b.length=es.length→(∀e,e∈b↔e∈es)→nr b i→dZ B w t p l l→I [.int .i64 (i:Int)] t:=by
  intro n;induction n with
  |zero=>
   intro i b t hn Y K r L q P;exact v i b t (by omega) Y K r L q P
  |succ n ihn=>
   intro i b t hn Y K r L q P;by_cases hil:i<b.length
   ·refine hI _ _ (Ar.ok64 (by omega) (by omega) (Ar.ok64 (by omega) (by omega) (Ar.ok64 (by omega) (by omega) (Ar.ok64 (by omega) (by omega) ?_))));intro Z z;have s:=aZ (α:=Nat×World) 2 (fun y x=>dG x.2 B p l turn b∧dZ B w x.2 p l l∧x.1<b.length∧(x.1=i∨(0<x.1∧par x.1=i∧(hat b x.1).lt (hat b i)))∧∀j,0<j→j<b.length→par j=i→j<2*i+1+y→¬(hat b j).lt (hat b x.1)) (fun y x=>Z [.int .i64 (y:Int),.int .i64 (x.1:Int)] x.2) (i,t) ⟨K,P,hil,.inl rfl,fun j H G u m=>by unfold par at u;omega⟩ ?_ ?_
    ·exact s
    ·rintro y hy W ⟨c,o⟩ ⟨E,d,f,D,k⟩;change dG o B p l turn b at E;change dZ B w o p l l at d;change c<b.length at f;refine z _ _ _ (ac.yes (by simp;omega) ?_);intro J R;refine⟨_,o,ud _ _ y hy o,?_⟩;have hk:(if y=0 then(2*(i:Int)+1)else(2*(i:Int)+2))=((2*i+1+y:Nat):Int):=by split<;>omega
     rw [hk];intro O M;have C:ZH o O:=by subst M;exact aU o
     have F:=E.on C;have N:=d.trans (dZ.of_below p l C (XW hB d.size));have U:=F.len;have hc:O.cell? ((⟨p,0,none⟩:Addr).add 0)=some (.slice l.a l.n l.c):=by rw [ai p _ F.blk];rfl
     refine ag.mk _ rfl ⟨l.a,l.n,l.c,hc,ac.mk (fun m=>?_) fun m=>?_⟩
     ·have m:2*i+1+y<b.length:=by have:=XQ m;omega
      obtain⟨a,ha,ck⟩:=F.cells m;obtain⟨a2,S,cl⟩:=F.cells f;have hea:a2=a:=by rw [ha]at S;exact(Option.some.inj S).symm
      subst hea;have k0:=ck 0 _ rfl;have l0:=cl 0 _ rfl;rw [aC]at k0 l0;have e1:(((2*i+1+y:Nat):Int)).toNat=2*i+1+y:=by omega
      have e2:((c:Int)).toNat=c:=by omega
      rw [e1];dsimp only;rw [e2];simp only [aC];refine ag.mk _ rfl ⟨l.a,l.n,l.c,by rw [←hc,aC],ag.mk a2 ha ⟨by omega,by omega,_,_,_,⟨k0,ck 1 _ rfl,ck 2 _ rfl,trivial⟩,ag.mk _ rfl ⟨l.a,l.n,l.c,by rw [←hc,aC],ag.mk a2 ha ⟨by omega,by omega,_,_,_,⟨l0,cl 1 _ rfl,cl 2 _ rfl,trivial⟩,?_⟩⟩⟩⟩;refine(mI (hat b (2*i+1+y)) (hat b c) O).mono ?_;rintro e w6 ⟨rfl,Q⟩;have h6:=F.on Q;have X:=N.trans (dZ.of_below p l Q (XW hB N.size));have V:par (2*i+1+y)=i:=by unfold par;omega
      refine⟨_,rfl,ac.mk (fun g=>?_) fun g=>?_⟩
      ·have g:=XQ g;refine R _ _ (Ar.ok64 (by omega) (by omega) (W (2*i+1+y,w6) ⟨h6,X,m,.inr ⟨by show 0<2*i+1+y;omega,V,?_⟩,?_⟩))
       ·rcases D with e |⟨_,_,e⟩
        ·change c=i at e;show(hat b (2*i+1+y)).lt (hat b i);rw [e]at g;exact g
        ·show(hat b (2*i+1+y)).lt (hat b i);change(hat b c).lt (hat b i)at e;unfold HE.lt at*;omega
       ·intro j H G u T;show ¬(hat b j).lt (hat b (2*i+1+y));by_cases e:j=2*i+1+y
        ·rw [e];intro h;exact HE.asymm h h
        ·exact HE.lt_le g (k j H G u (by omega))
      ·have g:=XX g;refine R _ _ (Ar.ok64 (by omega) (by omega) (W (c,w6) ⟨h6,X,f,D,?_⟩));intro j H G u T;by_cases e:j=2*i+1+y
       ·rw [e];exact g
       ·exact k j H G u (by omega)
     ·have m:¬2*i+1+y<b.length:=by have:=XX m;omega
      refine R _ _ (Ar.ok64 (by omega) (by omega) (W (c,O) ⟨F,N,f,D,?_⟩));intro j H G u T;exact k j H G u (by omega)
    ·rintro⟨c,o⟩ ⟨E,d,f,D,k⟩;change dG o B p l turn b at E;change dZ B w o p l l at d;change c<b.length at f;have A:∀j,0<j→j<b.length→par j=i→¬(hat b j).lt (hat b c):=fun j H G u=>k j H G u (by unfold par at u;omega);refine z _ _ _ (ac.no (by simp) ?_);rcases D with e |⟨e0,ep,el⟩
     ·change c=i at e;subst e;exact ac.yes (by simp) ⟨rfl,b,⟨E,vc q A,d⟩,r,L⟩
     ·change 0<c at e0;change par c=i at ep;have:=iO e0;refine ac.no (by simp;omega) ?_;refine(jy o B p l turn b E (XW hB d.size) i c hil f).mono ?_;rintro e w7 ⟨rfl,h7,mv7⟩;refine⟨rfl,ihn c (rB b i c) w7 (by omega) (by omega) h7 (by rw [cC];exact r) (fun e=>(ru hil f e).trans (L e)) (Gy q e0 f ep el A) (d.trans mv7)⟩
   ·exact v i b t (by omega) Y K r L q P
 exact key es.length 0 es w (by omega) (by omega) h rfl (fun _=>Iff.rfl) hd (dZ.of_below p l (Below.refl _ _) hB)
theorem fI (a b c:Int):∀v∈ [Value.int .i64 a,Value.int .i64 b,Value.int .i64 c],v.oneCell'=true:=gE a b c
theorem uP (w:World) (B p:Nat) (l:Sl) (turn:Nat) (es:List HE) (h:dG w B p l turn es) (hB:B≤w.heap.size) (hh:eN es) (hl:es.length≤900000) (ht:turn≤1000000000) (r q f a b:Int):
  CP 305 #[.pointer (some ⟨p,0,none⟩),.int .i64 r,.int .i64 q,.agg #[.int .i64 f,.int .i64 a,.int .i64 b]] w fun e w'=>e= .returned (.tuple #[])∧∃l' es',kx w w' B p l l' (turn+1) es'∧es'.length=es.length+1∧∀e,e∈es'↔e∈es∨e=⟨r,q,turn,f,a,b⟩:=by
 refine aV (CL (some ⟨p,0,none⟩) r q f a b w) ?_;intro w1 A;have K:ZH w w1:=by subst A;exact ah _ _
 refine ac.no rfl ?_;intro H C;have u:ZH w H:=by subst C;exact K.drew
 have hz2:H.heap.size=w.heap.size+1:=by subst C;subst A;exact aK _ _
 have j:=h.on u;have g:H.heap[w.heap.size]? =some (.cells #[Value.int .i64 f,Value.int .i64 a,Value.int .i64 b] 357):=by subst C;subst A;exact aq _ _
 have Z:=j.len;have Y:H.cell? ((⟨p,0,none⟩:Addr).add 0)=some (.slice l.a l.n l.c):=by rw [ai p _ j.blk];rfl
 obtain⟨o,t,w4,S,T,L,h5⟩:=fG (P:=Tryz.prog) (s:=l) 0 j.blk (show 0<2 by decide) j.row j.off j.bp F' HA HG rfl (by decide) (jM ⟨r,q,turn,f,a,b⟩) rfl (mq _) (by omega) (by omega);refine ag.mk _ rfl ⟨l.a,l.n,l.c,Y,ag.mk _ rfl ⟨(turn:Int),by rw [ai p _ j.blk];rfl,_,_,_,⟨by have:=ai _ _ g 0;rw [aC]at this;exact this,ai _ _ g 1,ai _ _ g 2,trivial⟩,?_⟩⟩;rintro w3 rfl;refine⟨⟨by rw [(ah H _).cell (by rw [ay];exact j.lt)];exact Y,trivial⟩,o,l.n+1,t,w4,S,ag.mk _ rfl ⟨rfl,T,L,?_⟩⟩;intro X U;obtain⟨c,z,i,I,m,hsz5,y⟩:=h5 X U;refine ag.mk _ rfl ⟨(turn:Int),by rw [ai p _ c];rfl,Ar.ok64 (by omega) (by omega) (ag.mk _ rfl ⟨rfl,⟨_,by rw [ai p _ c];rfl⟩,bc c,?_⟩)⟩;intro D n;have d:D.heap[p]? =some (.cells #[.slice o (l.n+1) t,.int .i64 ((turn+1:Nat):Int)] JN (0,0)):=by subst n;exact bu c _
 have G:∀k,k≠p→D.heap[k]? =X.heap[k]? :=fun k x=>by subst n;exact ar (by rw [ay];exact x)
 have hz6:D.heap.size=X.heap.size:=by subst n;exact ba _ _ _
 have J:Below B w D:=by subst n;exact bv (I w (u.mono hB)) j.bp _
 have v:(es++ [(⟨r,q,turn,f,a,b⟩:HE)]).flatMap jM=es.flatMap jM++jM ⟨r,q,turn,f,a,b⟩:=by simp
 have F:dG D B p ⟨o,l.n+1,t⟩ (turn+1) (es++ [(⟨r,q,turn,f,a,b⟩:HE)]):=⟨d,by rw [v];exact aN z fun k x=>G k fun e=>i (by rw [x,e]),by simp;omega,i,j.bp⟩;have E:∀k,(Value.slice o (l.n+1) t).ownBlock=some k→l.v.ownBlock=some k∨w.heap.size≤k:=by
  intro k x;rcases y k x with e |e
  ·exact .inl e
  ·exact .inr (by omega)
 have V:dZ B w D p l ⟨o,l.n+1,t⟩:=⟨fun k x hp O=>by rw [G k hp,m k (by omega) hp O,u.block k x],E,by omega,J⟩;refine ag.mk _ rfl ⟨o,l.n+1,t,by rw [ai p _ d];rfl,Ar.ok64 (by omega) (by omega) ?_⟩;have Q:(((l.n+1:Nat):Int)-1)=((es.length:Nat):Int):=by omega
 rw [Q];refine(By D B p ⟨o,l.n+1,t⟩ (turn+1) _ F (by omega) es.length (by simp) (by simp;omega) (Le hh _)).mono ?_;rintro e w7 ⟨rfl,es',⟨h7,M,W⟩,N,R⟩;exact⟨rfl,rfl,_,es',⟨h7,M,V.trans W⟩,by rw [N];simp,fun e=>by rw [R e];simp⟩
theorem G2 (a:Option Addr) (n c n' c' k:Nat):(Value.slice a n c).ownBlock=some k↔(Value.slice a n' c').ownBlock=some k:=by cases a<;>simp [Value.ownBlock]
def Hy (es:List HE):Value:=match es with
 | []=>.tuple #[.agg #[.int .i64 0,.int .i64 0,.int .i64 0],.int .i64 0,.int .i64 0,.bool false]
 |x::_=>.tuple #[.agg #[.int .i64 x.f,.int .i64 x.a,.int .i64 x.b],.int .i64 x.r,.int .i64 x.p,.bool true]
theorem Hh {w:World} {b:Nat} {x y z:Value} {e:TypeId} {fz:Nat×Nat} (h:w.heap[b]? =some (.cells #[x,y,z] e fz)):w.cell? ⟨b,0,none⟩=some x∧w.cell? ((⟨b,0,none⟩:Addr).add 1)=some y∧w.cell? ((⟨b,0,none⟩:Addr).add 2)=some z∧True:=
 ⟨by have:=ai _ _ h 0;rw [aC]at this;exact this,ai _ _ h 1,ai _ _ h 2,trivial⟩
theorem uS (w:World) (B p:Nat) (l:Sl) (turn:Nat) (es:List HE) (h:dG w B p l turn es):
  CP 306 #[.pointer (some ⟨p,0,none⟩)] w fun e w'=>e= .returned (Hy es)∧ZH w w':=by
 refine aV (Br (some ⟨p,0,none⟩) w) ?_;intro v d;have c:ZH w v:=by subst d;exact ah _ _
 have O:v.heap.size=w.heap.size+1:=by subst d;exact aK _ _
 have n:v.heap[w.heap.size]? =some (.cells #[Value.int .i64 0,Value.int .i64 0,Value.int .i64 0] 357):=by subst d;exact aq _ _
 have u:=h.on c;refine(xA v B p l turn es u).mono ?_;rintro e s ⟨rfl,N⟩;subst N;refine⟨_,rfl,ac.mk (fun g=>?_) fun g=>?_⟩
 ·have g:es= []:=List.eq_nil_of_length_eq_zero (by have:(es.length:Int)=0:=by simpa using g
                                                   omega)
  subst g;intro G q;have k:ZH s G:=by subst q;exact ah _ _
  have D:G.heap[s.heap.size]? =some (.cells #[Value.int .i64 0,Value.int .i64 0,Value.int .i64 0] 357):=by subst q;exact aq _ _
  refine⟨_,_,_,Hh D,?_⟩;refine bo (aj k n) [.int .i64 0,.int .i64 0,.int .i64 0] rfl (fI _ _ _) ?_;intro S I _ _ z;exact⟨_,_,_,Hh I,rfl,z _ _ (XV _) (ae c k)⟩
 ·cases es with
  |nil=>simp at g
  |cons x t=>
   obtain⟨a,L,b⟩:=u.cells (i:=0) (by simp);have o:=u.len;have y:=b 0 _ rfl;simp only [Nat.zero_mul,aC]at y;have M:hat (x::t) 0=x:=rfl;rw [M]at b y;simp only [Nat.zero_mul,aC]at b;refine ag.mk _ rfl ⟨l.a,l.n,l.c,by rw [ai p _ u.blk];rfl,ag.mk a L ⟨Int.le_refl _,by rw [o];simp,?_⟩⟩;simp only [Int.toNat_zero,Nat.zero_mul,aC];refine⟨_,_,_,_,_,_,⟨y,b 1 _ rfl,b 2 _ rfl,b 3 _ rfl,b 4 _ rfl,b 5 _ rfl,trivial⟩,?_⟩;intro Q F;refine bg [.int .i64 0,.int .i64 0,.int .i64 0,.int .i64 0,.int .i64 0,.int .i64 0] (jM x) rfl (mq x) Q F ?_;intro T J P A H r;have f:H.heap[s.heap.size]? =some (.cells (jM x).toArray pG (0,0)):=by subst r;exact J
   have m:ZH s H:=by subst r;exact A.drew
   refine⟨_,_,_,⟨ai _ _ f 3,by rw [Addr.add_add];exact ai _ _ f 4,by rw [Addr.add_add];exact ai _ _ f 5,trivial⟩,_,by have:=ai _ _ f 0;rw [aC]at this;exact this,_,ai _ _ f 1,?_⟩;refine bo (aj m n) [.int .i64 x.f,.int .i64 x.a,.int .i64 x.b] rfl (fI _ _ _) ?_;intro R K E _ C;have j:R.heap[s.heap.size]? =some (.cells (jM x).toArray pG (0,0)):=by rw [E _ (by omega)];exact f
   exact⟨⟨ai _ _ j 1,trivial⟩,⟨by have:=ai _ _ j 0;rw [aC]at this;exact this,trivial⟩,_,_,_,Hh K,rfl,C _ _ (XV _) (ae c m)⟩
theorem xK (w:World) (B p:Nat) (l:Sl) (turn:Nat) (es:List HE) (h:dG w B p l turn es) (hB:B≤w.heap.size) (hh:eN es) (hl:es.length≤900000):
  CP 281 #[.pointer (some ⟨p,0,none⟩)] w fun e w'=>e= .returned (Hy es)∧∃l' es',kx w w' B p l l' turn es'∧es'.length=es.length-1∧(∀e∈es,e=hat es 0∨e∈es')∧∀e∈es',e∈es:=by
 refine aJ (Ao (some ⟨p,0,none⟩) w (fun v w'=>v=Hy es∧∃l' es',kx w w' B p l l' turn es'∧es'.length=es.length-1∧(∀e∈es,e=hat es 0∨e∈es')∧∀e∈es',e∈es) ?_) (by rintro v w' ⟨rfl,h⟩;exact⟨rfl,h⟩);intro w1 Q;have V:ZH w w1:=by subst Q;exact ah _ _
 have hz1:w1.heap.size=w.heap.size+1:=by subst Q;exact aK _ _
 have hl1:w1.heap[w.heap.size]? =some (.cells #[Value.int .i64 0,Value.int .i64 0,Value.int .i64 0] 357):=by subst Q;exact aq _ _
 have h1:=h.on V;refine(uS w1 B p l turn es h1).mono ?_;rintro e S ⟨rfl,A⟩;have h2:=h1.on A;have hl2:=aj A hl1;have C:=ae V A;have D:∀(f a b r q:Int) (ok:Bool),Hy es= .tuple #[.agg #[.int .i64 f,.int .i64 a,.int .i64 b],.int .i64 r,.int .i64 q,.bool ok]→(ok=true↔es≠ [])→∀w3:World,w3=S.alloc (.cells #[Value.int .i64 0,Value.int .i64 0,Value.int .i64 0] 357)→
   aI w3 (nb S) (fun E=>
   ∀J1:List Value→World→Prop,(∀j:World,(∃g0:Int,∃g1:Int,∃g2:Int,(j.cell? (nb S)=some (Value.int .i64 g0)∧j.cell? ((nb S).add 1)=some (Value.int .i64 g1)∧j.cell? ((nb S).add 2)=some (Value.int .i64 g2)∧True)∧
    aI j (nb w) (fun w6=>
    ∃res0:Int,∃res1:Int,∃res2:Int,(w6.cell? (nb w)=some (Value.int .i64 res0)∧w6.cell? ((nb w).add 1)=some (Value.int .i64 res1)∧w6.cell? ((nb w).add 2)=some (Value.int .i64 res2)∧True)∧
    (Value.tuple #[Value.agg #[Value.int .i64 res0,Value.int .i64 res1,Value.int .i64 res2],Value.int .i64 r,Value.int .i64 q,Value.bool ok]=Hy es∧∃l' es',kx w w6 B p l l' turn es'∧es'.length=es.length-1∧(∀e∈es,e=hat es 0∨e∈es')∧∀e∈es',e∈es)) [Value.int .i64 g0,Value.int .i64 g1,Value.int .i64 g2] 0)→J1 [] j)→
   ac ok
    (ag (some ⟨p,0,none⟩) (fun pa=>
     ∃lA:Option Addr,∃lN:Nat,∃lC:Nat,E.cell? (pa.add 0)=some (Value.slice lA lN lC)∧
     Ar .i64 ((((lN:Nat):Int):Int)-1) (fun n=>
     CP 307 #[Value.pointer (some ⟨p,0,none⟩),Value.int .i64 0,Value.int .i64 n] E (fun e7 w7=>
     e7= .returned (Value.tuple #[])∧
     ag (some ⟨p,0,none⟩) (fun a4=>
     ∃lA_3:Option Addr,∃lN_4:Nat,∃lC_5:Nat,w7.cell? (a4.add 0)=some (Value.slice lA_3 lN_4 lC_5)∧
     (0:Int)≤((0:Nat):Int)∧((0:Nat):Int)≤(n:Int)∧(n:Int)≤((lC_5:Nat):Int)∧True∧True∧
     ag (some ⟨p,0,none⟩) (fun z=>
     (Value.slice (bB lA_3 ((0:Nat):Int).toNat ((lC_5:Nat):Int).toNat 6) ((n:Int).toNat- ((0:Nat):Int).toNat) (((lC_5:Nat):Int).toNat- ((0:Nat):Int).toNat)).oneCell'=true∧(∃u,w7.cell? (z.add 0)=some u)∧w7.frozen? (z.add 0)=false∧
     ∀F:World,F=(w7.setCell (z.add 0) (Value.slice (bB lA_3 ((0:Nat):Int).toNat ((lC_5:Nat):Int).toNat 6) ((n:Int).toNat- ((0:Nat):Int).toNat) (((lC_5:Nat):Int).toNat- ((0:Nat):Int).toNat)))→
     CP 308 #[Value.pointer (some ⟨p,0,none⟩),Value.int .i64 0] F (fun e9 w9=>
     e9= .returned (Value.tuple #[])∧
     J1 [] w9)))))))
    (J1 [] E)) [Value.int .i64 f,Value.int .i64 a,Value.int .i64 b] 0:=by
  intro f a b r q ok a1 Z w3 hw3;refine bg [.int .i64 0,.int .i64 0,.int .i64 0] [.int .i64 f,.int .i64 a,.int .i64 b] rfl (fI _ _ _) w3 hw3 ?_;intro E hx4 hz4 G;have h4:=h2.on G;have hl4:=aj G hl2;have d:=ae C G;have hpw:p<w.heap.size:=h.lt;have M:∀k,l.v.ownBlock=some k→k<w.heap.size:=fun k i=>(bL h.row k i).2;intro J hJ;have T:∀(j:World) (l':Sl) (es':List HE),dG j B p l' turn es'→eN es'→dZ B E j p l l'→(∀k,l'.v.ownBlock=some k→l.v.ownBlock=some k)→es'.length=es.length-1→(∀e∈es,e=hat es 0∨e∈es')→(∀e∈es',e∈es)→J [] j:=by
   intro j l' es' U hh5 y o L hm1 hm2;have a2:=d.size;have hz12:=C.size;have hx5:j.heap[S.heap.size]? =some (.cells #[Value.int .i64 f,Value.int .i64 a,Value.int .i64 b] 357):=by
    rw [y.keep _ (by omega) (by omega) fun e=>by have:=M _ e;omega];exact hx4
   have hr5:j.heap[w.heap.size]? =some (.cells #[Value.int .i64 0,Value.int .i64 0,Value.int .i64 0] 357):=by
    rw [y.keep _ (by have:=A.size;omega) (by omega) fun e=>by have:=M _ e;omega];exact hl4
   refine hJ _ ⟨_,_,_,Hh hx5,?_⟩;refine bo hr5 [.int .i64 f,.int .i64 a,.int .i64 b] rfl (fI _ _ _) ?_;intro w6 hr6 P hz6 hB6;refine⟨_,_,_,Hh hr6,a1.symm,l',es',⟨⟨by rw [P p (by omega)];exact U.blk,aN U.row fun k i=>P k fun e=>by have:=M _ (o _ i);omega,U.len,U.off,U.bp⟩,hh5,⟨fun k i hp K=>?_,fun k i=>.inl (o k i),?_,?_⟩⟩,L,hm1,hm2⟩
   ·rw [P k (by omega),y.keep k (by omega) hp K,d.block k i]
   ·have:=y.size;omega
   ·exact hB6 _ _ hB ((d.mono hB).trans y.below)
  refine ac.mk (fun h0=>?_) fun h0=>?_
  ·have hne:es≠ []:=Z.1 h0;obtain⟨n,hn⟩:∃n,es.length=n+1:=⟨es.length-1,by have:=List.length_pos_iff.2 hne;omega⟩;have W:=h4.len;refine ag.mk _ rfl ⟨l.a,l.n,l.c,by rw [ai p _ h4.blk];rfl,Ar.ok64 (by omega) (by omega) ?_⟩;have e1:(((l.n:Nat):Int)-1)=((n:Nat):Int):=by omega
   rw [e1];have a2:=d.size;refine(jy E B p l turn es h4 (by omega) 0 n (by omega) (by omega)).mono ?_;rintro e w7 ⟨rfl,m,R⟩;obtain⟨a0,c0,hv,hle⟩:=iI m.row;have hlc:l.n≤l.c:=by
    rcases m.row.2 with⟨hv,_⟩ |⟨g,cap,cur,hv,_,_,hc,_⟩
    ·obtain⟨la,ln,lc⟩:=l;cases hv;exact XV _
    ·obtain⟨la,ln,lc⟩:=l;cases hv;exact hc
   refine⟨rfl,ag.mk _ rfl ⟨l.a,l.n,l.c,by rw [ai p _ m.blk];rfl,by omega,by omega,by omega,trivial,trivial,ag.mk _ rfl ?_⟩⟩;have hsl:bB l.a ((0:Nat):Int).toNat ((l.c:Nat):Int).toNat 6=l.a:=by
    unfold bB;split
    ·rfl
    ·cases l.a with
     |none=>rfl
     |some a=>simp [aC]
   have e3:((n:Nat):Int).toNat- ((0:Nat):Int).toNat=n:=by omega
   have e4:((l.c:Nat):Int).toNat- ((0:Nat):Int).toNat=l.c:=by omega
   rw [hsl,e3,e4];refine⟨rfl,⟨_,by rw [ai p _ m.blk];rfl⟩,bc m.blk,?_⟩;intro F s;have H:F.heap[p]? =some (.cells #[.slice l.a n l.c,.int .i64 (turn:Int)] JN (0,0)):=by subst s;exact bu m.blk _
   have c:∀k,(Value.slice l.a n l.c).ownBlock=some k↔l.v.ownBlock=some k:=by
    intro k;exact G2 _ _ _ _ _ k
   have O:F.ownsRow B pG 6 (Value.slice l.a n l.c) n (((rB es 0 n).take n).flatMap jM):=by
    have:=G4 mh m.row (by rw [cC];exact W) n (by rw [cC];omega);subst s;exact bw this _ (by rw [ay];exact fun e=>m.off ((c _).1 e))
   have N:dG F B p ⟨l.a,n,l.c⟩ turn ((rB es 0 n).take n):=⟨H,O,by rw [List.length_take,cC];show n=_;omega,fun e=>m.off ((c _).1 e),m.bp⟩;have a3:dZ B E F p l ⟨l.a,n,l.c⟩:=by
    refine⟨fun k i hp K=>?_,fun k i=>.inl ((c k).1 i),?_,?_⟩
    ·rw [←R.keep k i hp K];subst s;exact ar (by rw [ay];exact hp)
    ·subst s;rw [ba];exact R.size
    ·subst s;exact bv R.below m.bp _
   refine(uK F B p ⟨l.a,n,l.c⟩ turn _ N (by have:=a3.size;omega) (by rw [List.length_take,cC];omega) (H1 hh n hn)).mono ?_;rintro e w9 ⟨rfl,es',⟨h9,hh9,mv9⟩,hl9,X⟩;obtain⟨p1,p2⟩:=LC n hn;exact⟨rfl,T w9 ⟨l.a,n,l.c⟩ es' h9 hh9 (a3.trans mv9) (fun k i=>(c k).1 i) (by rw [hl9,List.length_take,cC];omega) (fun e I=>(p1 e I).imp id fun h=>(X e).2 h) fun e I=>p2 e ((X e).1 I)⟩
  ·have Y:es= []:=by
    rcases Classical.em (es= [])with h |h
    ·exact h
    ·rw [Z.2 h]at h0;cases h0
   refine T E l es h4 hh (dZ.of_below p l (Below.refl _ _) (XW hB d.size)) (fun _ h=>h) (by rw [Y];rfl) (fun e I=>.inr I) fun e I=>I
 cases hes:es with
 |nil=>
  subst hes;exact⟨_,_,_,_,_,_,rfl,D 0 0 0 0 0 false rfl (by simp)⟩
 |cons x t=>
  subst hes;exact⟨_,_,_,_,_,_,rfl,D x.f x.a x.b x.r x.p true rfl (by simp)⟩
structure Nd where
 id:Int
 ahead:Int
 next:Int
 deriving Inhabited
abbrev aR (ns:List Nd) (p:Nat):Nd:=ns.getD p default
theorem lr {ns:List Nd} {q:Nat} (hq:q<ns.length) (x:Nd) (p:Nat):aR (ns.set q x) p=if p=q then x else aR ns p:=by
 unfold aR;simp only [List.getD_eq_getElem?_getD,List.getElem?_set];by_cases h:q=p
 ·subst h;simp [hq]
 ·rw [if_neg h,if_neg (fun e=>h e.symm)]
def hd (vs:List Nat) (nxt:Int):Int:=match vs with
 | []=>nxt
 |p::_=>p
def lst:List Nat→Int→Int
 | [],prev=>prev
 |p::r,_=>lst r p
def Ch (ns:List Nd):Int→List Nat→Int→Prop
 |_,[],_=>True
 |prev,p::r,nxt=>(aR ns p).ahead=prev∧(aR ns p).next=hd r nxt∧Ch ns p r nxt
theorem eE {ns:List Nd} {vs:List Nat} {nxt:Int}:∀(us:List Nat) (prev:Int),Ch ns prev (us++vs) nxt↔Ch ns prev us (hd vs nxt)∧Ch ns (lst us prev) vs nxt
 | [],prev=>by simp [Ch,lst]
 |p::r,prev=>by
  have hh:hd (r++vs) nxt=hd r (hd vs nxt):=by cases r<;>rfl
  simp only [List.cons_append,Ch,lst,eE r p,hh,and_assoc]
theorem sD {ns ns':List Nd}:∀(ps:List Nat) (prev nxt:Int),(∀p∈ps,(aR ns' p).ahead=(aR ns p).ahead∧(aR ns' p).next=(aR ns p).next)→Ch ns prev ps nxt→Ch ns' prev ps nxt
 | [],_,_,_,_=>trivial
 |p::r,prev,nxt,h,hc=>⟨(h p (by simp)).1.trans hc.1,(h p (by simp)).2.trans hc.2.1,sD r p nxt (fun q hq=>h q (by simp [hq])) hc.2.2⟩
structure kP (ns:List Nd) (ps:List Nat):Prop where
 ch:Ch ns (-1) ps (-1)
 sorted:ps.Pairwise (·< ·)
 lt:∀p∈ps,p<ns.length
 alive:∀p∈ps,0≤(aR ns p).id
 dead:∀p,p<ns.length→p∉ps→(aR ns p).id= -2
 head:ns≠ []→hd ps (-1)=0
def dn (ns:List Nd) (ps:List Nat):List Int:=ps.map fun p=>(aR ns p).id
def tF (ns:List Nd) (i q:Nat) (a c:Int):List Nd:=
 if a= -1 then(ns.set q ⟨-2,(aR ns q).ahead,(aR ns q).next⟩).set i ⟨c,(aR ns i).ahead,a⟩
 else((ns.set q ⟨-2,(aR ns q).ahead,(aR ns q).next⟩).set i ⟨c,(aR ns i).ahead,a⟩).set a.toNat ⟨(aR ((ns.set q ⟨-2,(aR ns q).ahead,(aR ns q).next⟩).set i ⟨c,(aR ns i).ahead,a⟩) a.toNat).id,(i:Int),(aR ((ns.set q ⟨-2,(aR ns q).ahead,(aR ns q).next⟩).set i ⟨c,(aR ns i).ahead,a⟩) a.toNat).next⟩
def cR (ns:List Nd) (i:Nat) (c:Int):List Nd:=tF ns i (aR ns i).next.toNat (aR ns (aR ns i).next.toNat).next c
theorem dm (ns:List Nd) (i:Nat) (c:Int):(cR ns i c).length=ns.length:=by
 unfold cR tF;split<;>simp
theorem yB {ns:List Nd} {i q:Nat} {c z:Int} (hi:i<ns.length) (hq:q<ns.length) (hiq:i<q) (hz:z= -1∨∃a:Nat,z=a∧q<a∧a<ns.length) (p:Nat):
  aR (tF ns i q z c) p=if p=i then⟨c,(aR ns i).ahead,z⟩else if p=q then⟨-2,(aR ns q).ahead,(aR ns q).next⟩else if z=(p:Int)then⟨(aR ns p).id,(i:Int),(aR ns p).next⟩else aR ns p:=by
 have b:∀(a:Int) (p:Nat),aR ((ns.set q ⟨-2,(aR ns q).ahead,(aR ns q).next⟩).set i ⟨c,(aR ns i).ahead,a⟩) p=if p=i then⟨c,(aR ns i).ahead,a⟩else if p=q then⟨-2,(aR ns q).ahead,(aR ns q).next⟩else aR ns p:=by
  intro a p;rw [lr (by simpa using hi),lr hq]
 unfold tF;rcases hz with rfl |⟨a,rfl,ha1,ha2⟩
 ·rw [if_pos rfl,b];have:¬((-1:Int)=(p:Int)):=by omega
  rw [if_neg this]
 ·rw [if_neg (by omega),Int.toNat_natCast,lr (by simp;exact ha2),b,b];by_cases e:p=a
  ·subst e;rw [if_pos rfl,if_neg (by omega),if_neg (by omega),if_neg (by omega),if_neg (by omega),if_pos rfl]
  ·rw [if_neg e];have:¬((a:Int)=(p:Int)):=by omega
   rw [if_neg this]
theorem lY {ns:List Nd} {us vs:List Nat} {i q:Nat} {c:Int} (h:kP ns (us++i::q::vs)) (hc:0≤c):
  kP (cR ns i c) (us++i::vs)∧dn (cR ns i c) (us++i::vs)=dn ns us++c::dn ns vs∧(aR ns i).next=q∧(aR ns i).ahead=lst us (-1)∧(∀p,p∈us∨p∈vs→(aR (cR ns i c) p).id=(aR ns p).id)∧(aR (cR ns i c) i).id=c∧(aR (cR ns i c) i).ahead=lst us (-1)∧(aR (cR ns i c) i).next=hd vs (-1):=by
 obtain⟨L,M⟩:=(eE us (-1)).1 h.ch;obtain⟨o,s,S,C,D⟩:=M;simp only [hd]at s;have G:=h.sorted;rw [List.pairwise_append,List.pairwise_cons,List.pairwise_cons]at G;obtain⟨Q,⟨H,R,B⟩,I⟩:=G;have t:i<ns.length:=h.lt i (by simp);have P:q<ns.length:=h.lt q (by simp);have v:i<q:=H q (by simp);have y:∀p∈us,p<i:=fun p b=>I p b i (by simp);have k:∀p∈vs,q<p:=R;have z:∀p∈vs,p<ns.length:=fun p b=>h.lt p (by simp [b]);have j:∀p,aR (cR ns i c) p=if p=i then⟨c,(aR ns i).ahead,hd vs (-1)⟩else if p=q then⟨-2,(aR ns q).ahead,(aR ns q).next⟩else if hd vs (-1)=(p:Int)then⟨(aR ns p).id,(i:Int),(aR ns p).next⟩else aR ns p:=by
  intro p;unfold cR;rw [s,Int.toNat_natCast,C];refine(yB t P v ?_ p).trans (by rw [C]);cases hv:vs with
  |nil=>exact .inl rfl
  |cons a r=>exact .inr ⟨a,rfl,k a (by simp [hv]),z a (by simp [hv])⟩
 have n:∀p:Nat,hd vs (-1)=(p:Int)→p∈vs:=fun p b=>by
  cases hv:vs with
  |nil=>
   rw [hv]at b;simp only [hd]at b;omega
  |cons a r=>
   rw [hv]at b;simp only [hd]at b;have:a=p:=by omega
   simp [this]
 have g:∀p∈us,aR (cR ns i c) p=aR ns p:=by
  intro p b;have N:=y p b;rw [j,if_neg (by omega),if_neg (by omega),if_neg fun e=>by have:=k p (n p e);omega]
 have f:∀p∈vs,(aR (cR ns i c) p).id=(aR ns p).id∧(aR (cR ns i c) p).next=(aR ns p).next∧(aR (cR ns i c) p).ahead=if hd vs (-1)=(p:Int)then(i:Int)else(aR ns p).ahead:=by
  intro p b;have N:=k p b;rw [j,if_neg (by omega),if_neg (by omega)];by_cases e:hd vs (-1)=(p:Int)
  ·rw [if_pos e,if_pos e];exact⟨rfl,rfl,rfl⟩
  ·rw [if_neg e,if_neg e];exact⟨rfl,rfl,rfl⟩
 have d:aR (cR ns i c) i=⟨c,(aR ns i).ahead,hd vs (-1)⟩:=by rw [j,if_pos rfl]
 refine⟨⟨(eE us (-1)).2 ⟨sD us _ _ (fun p b=>by rw [g p b];exact⟨rfl,rfl⟩) L,?_⟩,?_,?_,?_,?_,?_⟩,?_,s,o,fun p b=>?_,by rw [d],by rw [d];exact o,by rw [d]⟩
 ·refine⟨by rw [d];exact o,by rw [d],?_⟩;cases hv:vs with
  |nil=>trivial
  |cons a r=>
   rw [hv]at D;obtain⟨T,J,K⟩:=D;have F:=f a (by rw [hv];simp);have w:∀p∈r,a<p:=by
    rw [hv]at B;exact(List.pairwise_cons.1 B).1
   refine⟨by rw [F.2.2,hv];simp [hd],by rw [F.2.1];exact J,sD r _ _ (fun p b=>?_) K⟩;have E:=f p (by rw [hv];simp [b]);refine⟨?_,E.2.1⟩;rw [E.2.2,hv,if_neg fun e=>by have:=w p b;simp only [hd]at e;omega]
 ·rw [List.pairwise_append,List.pairwise_cons];exact⟨Q,⟨fun p b=>H p (by simp [b]),B⟩,fun p b x A=>I p b x (by
   rcases List.mem_cons.1 A with rfl |A
   ·simp
   ·simp [A])⟩
 ·intro p b;rw [dm];exact h.lt p (by
   rcases List.mem_append.1 b with b |b
   ·simp [b]
   ·rcases List.mem_cons.1 b with rfl |b
    ·simp
    ·simp [b])
 ·intro p b;rcases List.mem_append.1 b with b |b
  ·rw [g p b];exact h.alive p (by simp [b])
  ·rcases List.mem_cons.1 b with rfl |b
   ·rw [d];exact hc
   ·rw [(f p b).1];exact h.alive p (by simp [b])
 ·intro p b l;rw [dm]at b;simp only [List.mem_append,List.mem_cons,not_or]at l;rw [j,if_neg l.2.1];by_cases e:p=q
  ·rw [if_pos e]
  ·rw [if_neg e,if_neg fun e=>l.2.2 (n p e)];exact h.dead p b (by simp [l.1,l.2.1,l.2.2,e])
 ·intro O;have m:ns≠ []:=fun e=>by rw [e]at t;simp at t
  have:=h.head m;cases us with
  |nil=>exact this
  |cons u us=>exact this
 ·rw [dn,List.map_append,List.map_cons,d];congr 1
  ·exact List.map_congr_left fun p b=>by rw [g p b]
  ·congr 1;exact List.map_congr_left fun p b=>(f p b).1
 ·rcases b with b |b
  ·rw [g p b]
  ·exact(f p b).1
def qm (ms:List (Int×Int)) (below:Int) (n:Nat) (e:HE):Prop:=∃(i f:Nat),ms.idxOf? (e.a,e.b)=some i∧e.r=((256+i:Nat):Int)∧e.r<below∧e.f=(f:Int)∧e.p=(f:Int)∧f<n
structure qr (ms:List (Int×Int)) (below:Int) (ns:List Nd) (ps:List Nat) (es:List HE):Prop where
 good:∀e∈es,qm ms below ns.length e
 all:∀us p q vs,ps=us++p::q::vs→∀i,ms.idxOf? ((aR ns p).id,(aR ns q).id)=some i→((256+i:Nat):Int) <below→∃e∈es,e.f=(p:Int)∧e.a=(aR ns p).id∧e.b=(aR ns q).id
def je (ns:List Nd) (e:HE):Prop:=(aR ns e.f.toNat).id≠e.a∨(aR ns e.f.toNat).next= -1∨(aR ns (aR ns e.f.toNat).next.toNat).id≠e.b
instance (ns:List Nd) (e:HE):Decidable (je ns e):=by unfold je;infer_instance
theorem ny {ns:List Nd} {ps:List Nat} {a b:Int} (h:fC a b (dn ns ps)):∃us p q vs,ps=us++p::q::vs∧(aR ns p).id=a∧(aR ns q).id=b:=by
 obtain⟨u,v,i⟩:=h;obtain⟨us,c,rfl,j,d⟩:=List.map_eq_append_iff.1 i;obtain⟨p,l,rfl,e,f⟩:=List.map_eq_cons_iff.1 d;obtain⟨q,vs,rfl,g,k⟩:=List.map_eq_cons_iff.1 f;exact⟨us,p,q,vs,rfl,e,g⟩
theorem rg {ms:List (Int×Int)} {below:Int} {ns:List Nd} {ps:List Nat} {e:HE} (hL:kP ns ps) (hg:qm ms below ns.length e) (hpos:∀m∈ms,0≤m.1) (hs:¬je ns e):
  ∃(us:List Nat) (f q:Nat) (vs:List Nat),ps=us++f::q::vs∧e.f=(f:Int)∧(aR ns f).id=e.a∧(aR ns q).id=e.b∧(aR ns f).next=(q:Int):=by
 obtain⟨i,f,n,u,s,l,t,p⟩:=hg;simp only [je,not_or,Classical.not_not]at hs;obtain⟨j,k,d⟩:=hs;rw [l,Int.toNat_natCast]at j k d;have a:(e.a,e.b)∈ms:=by
  rcases Classical.em ((e.a,e.b)∈ms)with h |h
  ·exact h
  ·rw [List.idxOf?_eq_none_iff.2 h]at n;cases n
 have r:=hpos _ a;have g:f∈ps:=by
  rcases Classical.em (f∈ps)with h |h
  ·exact h
  ·have:=hL.dead f p h;omega
 obtain⟨us,b,rfl⟩:=List.append_of_mem g;obtain⟨_,o⟩:=(eE us (-1)).1 hL.ch;obtain⟨_,c,_⟩:=o;cases b with
 |nil=>exact absurd c k
 |cons q vs=>
  simp only [hd]at c;rw [c,Int.toNat_natCast]at d;exact⟨us,f,q,vs,rfl,l,j,d,c⟩
theorem sk {k:Int}:∀ {ms:List (Int×Int)} {k:Int} (n:Nat),ja k ms→ja k (ms.take n)
 | [],_,n,_=>by simp [ja]
 |m::ms,k,0,_=>by simp [ja]
 |m::ms,k,n+1,h=>⟨h.1,h.2.1,sk (k:=k) n h.2.2⟩
theorem zW {ms:List (Int×Int)} {i:Nat} {m:Int×Int} (h:m∈ms.take i):∃j,j<i∧ms.idxOf? m=some j:=by
 have d:m∈ms:=List.mem_of_mem_take h;cases hx:ms.idxOf? m with
 |none=>exact absurd d (List.idxOf?_eq_none_iff.1 hx)
 |some j=>
  refine⟨j,?_,rfl⟩;obtain⟨f,e,b⟩:=List.findIdx?_eq_some_iff_getElem.1 hx;obtain⟨k,c,rfl⟩:=List.getElem_of_mem h;simp only [List.length_take]at c;rcases Nat.lt_or_ge j i with a |a
  ·exact a
  ·exfalso;have:=b k (by omega);simp at this
theorem E8 {ms:List (Int×Int)} {below:Int} {ns:List Nd} {ps:List Nat} {es:List HE} {e:HE} (hL:kP ns ps) (hW:qr ms below ns ps es) (hS:ja 256 ms) (hpos:∀m∈ms,0≤m.1) (he:e∈es) (hmin:∀x∈es,¬x.lt e) {us:List Nat} {f q:Nat} {vs:List Nat} (hps:ps=us++f::q::vs) (hf:e.f=(f:Int)) (ha:(aR ns f).id=e.a) (hb:(aR ns q).id=e.b):
  sC ms below (dn ns ps)=sC ms below (dn ns us++e.r::dn ns vs):=by
 obtain⟨i,l,K,hr,R,N,hp,hn⟩:=hW.good e he;have D:l=f:=by omega
 subst D;obtain⟨E,r,P⟩:=List.findIdx?_eq_some_iff_getElem.1 K;have r:ms[i]=(e.a,e.b):=by simpa using r
 have O:i< (below-256).toNat:=by omega
 have g:ms.take (below-256).toNat=ms.take i++(e.a,e.b)::(ms.drop (i+1)).take ((below-256).toNat- (i+1)):=by
  have s:ms.take (below-256).toNat=(ms.take (below-256).toNat).take i++(ms.take (below-256).toNat).drop i:=(List.take_append_drop _ _).symm;rw [s,List.take_take,Nat.min_eq_left (by omega)];congr 1;rw [List.drop_take,List.drop_eq_getElem_cons E,r];rw [show(below-256).toNat-i=((below-256).toNat- (i+1))+1 by omega,List.take_succ_cons]
 have o:dn ns ps=dn ns us++e.a::e.b::dn ns vs:=by rw [hps,dn,List.map_append,List.map_cons,List.map_cons,ha,hb];rfl
 have n:∀(b:List Nat) (p h:Nat) (d:List Nat),ps=b++p::h::d→∀j,ms.idxOf? ((aR ns p).id,(aR ns h).id)=some j→j≤i→¬(j<i∨p<l):=by
  intro b p h d a j B Q T;obtain⟨x,L,W,H,I⟩:=hW.all b p h d a j B (by omega);obtain⟨j',Z,t,Y,_,M,X,_⟩:=hW.good x L;rw [H,I,B]at t;cases t;apply hmin x L;unfold HE.lt;omega
 unfold sC;rw [g,o];have w:(ms.take i).length=i:=by rw [List.length_take];omega
 have:=HV (k:=256) (low:=ms.take i) (high:=(ms.drop (i+1)).take ((below-256).toNat- (i+1))) (m:=(e.a,e.b)) (u:=dn ns us) (v:=dn ns vs) (by rw [←g];exact sk (k:=0) _ hS) ?_ ?_
 ·rw [w]at this;rw [this];congr 2;congr 1;omega
 ·intro m S c;have c:fC m.1 m.2 (dn ns ps):=by rw [o];exact c
  obtain⟨b,p,h,d,a,s,C⟩:=ny c;obtain⟨j,B,F⟩:=zW S;exact n b p h d a j (by rw [s,C];exact F) (by omega) (.inl B)
 ·intro c;have c:fC e.a e.b (dn ns (us++ [l])):=by
   have:dn ns (us++ [l])=dn ns us++ [e.a]:=by rw [dn,List.map_append,List.map_cons,ha];rfl
   rw [this];exact c
  obtain⟨b,p,h,d,a,s,C⟩:=ny c;have y:ps=b++p::h::(d++q::vs):=by
   rw [hps];have:us++l::q::vs=(us++ [l])++q::vs:=by simp
   rw [this,a];simp
  have G:p<l:=by
   have A:=hL.sorted;rw [hps,show us++l::q::vs=(us++ [l])++q::vs by simp]at A;have A:=(List.pairwise_append.1 A).1;have z:h∈us++ [l]:=by rw [a];simp
   have U:p<h:=by
    rw [a,List.pairwise_append,List.pairwise_cons]at A;exact A.2.1.1 h (by simp)
   rcases List.mem_append.1 z with z |z
   ·have V:=(List.pairwise_append.1 ((by
     have J:=hL.sorted;rw [hps]at J;exact J):(us++l::q::vs).Pairwise (·< ·))).2.2 h z l (by simp)
    omega
   ·have:=List.mem_singleton.1 z;omega
  exact n b p h _ y i (by rw [s,C];exact K) (XV _) (.inr G)
theorem Cl {ms:List (Int×Int)} {below:Int} {ns:List Nd} {ps:List Nat} {es es':List HE} {e:HE} (hL:kP ns ps) (hW:qr ms below ns ps es) (h1:∀x∈es,x=e∨x∈es') (h2:∀x∈es',x∈es) (hs:je ns e):qr ms below ns ps es':=by
 refine⟨fun x c=>hW.good x (h2 x c),fun k p q n b i m l=>?_⟩;obtain⟨x,c,j,f,a⟩:=hW.all k p q n b i m l;rcases h1 x c with rfl |c
 ·exfalso;have g:=hL.ch;rw [b]at g;obtain⟨_,_,d,_⟩:=(eE k (-1)).1 g;simp only [hd]at d;unfold je at hs;rw [j,Int.toNat_natCast,d,Int.toNat_natCast]at hs;rcases hs with h |h |h
  ·exact h f.symm
  ·omega
  ·exact h a.symm
 ·exact⟨x,c,j,f,a⟩
def kJ (ms:List (Int×Int)) (below:Int) (ns:List Nd) (j:Int) (es:List HE):Prop:=∀(p q:Nat) (i:Nat),j=(p:Int)→(aR ns p).next=(q:Int)→ms.idxOf? ((aR ns p).id,(aR ns q).id)=some i→((256+i:Nat):Int) <below→∃e∈es,e.f=(p:Int)∧e.a=(aR ns p).id∧e.b=(aR ns q).id
theorem rX:∀(us:List Nat) (p:Nat) (prev:Int),lst (us++ [p]) prev=p
 | [],p,prev=>rfl
 |u::us,p,prev=>rX us p u
theorem FM {ms:List (Int×Int)} {below:Int} {ns:List Nd} {us vs:List Nat} {i q:Nat} {c:Int} {es es1 es':List HE} {e:HE} (hL:kP ns (us++i::q::vs)) (hc:0≤c) (hW:qr ms below ns (us++i::q::vs) es) (hei:e.f=(i:Int)) (h1:∀x∈es,x=e∨x∈es1) (h2:∀x∈es1,x∈es)
  (g1:∀x∈es1,x∈es') (g2:∀x∈es',x∈es1∨qm ms below ns.length x) (q1:kJ ms below (cR ns i c) (lst us (-1)) es') (q2:kJ ms below (cR ns i c) i es'):qr ms below (cR ns i c) (us++i::vs) es':=by
 obtain⟨y,_,O,M,k,I,H,J⟩:=lY hL hc;have D:=hL.sorted;rw [List.pairwise_append,List.pairwise_cons]at D;have A:i∉us:=fun h=>by have:=D.2.2 i h i (by simp);omega
 have B:i∉vs:=fun h=>by have:=D.2.1.1 i (by simp [h]);omega
 refine⟨fun x F=>?_,fun b p r G m j l w=>?_⟩
 ·rw [dm];rcases g2 x F with h |h
  ·exact hW.good x (h2 x h)
  ·exact h
 ·have g:=y.ch;rw [m]at g;obtain⟨_,S,v,_⟩:=(eE b (-1)).1 g;simp only [hd]at v;have u:(∃d f,us++i::q::vs=d++p::r::f)→p≠i→(p∈us∨p∈vs)→(r∈us∨r∈vs)→∃x∈es',x.f=(p:Int)∧x.a=(aR (cR ns i c) p).id∧x.b=(aR (cR ns i c) r).id:=by
   rintro⟨d,f,K⟩ Q P R;rw [k p P,k r R]at l⊢;obtain⟨x,F,N,L,z⟩:=hW.all d p r f K j l w;refine⟨x,?_,N,L,z⟩;rcases h1 x F with rfl |h
   ·exfalso;omega
   ·exact g1 x h
  rcases List.append_eq_append_iff.1 m with⟨t,s,a⟩ |⟨t,s,a⟩
  ·-- us' = us ++ t, i :: vs = t ++ p :: r :: vs'
   cases t with
   |nil=>
    simp only [List.nil_append,List.cons.injEq]at a;obtain⟨rfl,_⟩:=a;exact q2 i r j rfl v l w
   |cons t0 t=>
    simp only [List.cons_append,List.cons.injEq]at a;obtain⟨rfl,E⟩:=a;have o:p∈vs:=by rw [E];simp
    refine u ⟨us++i::q::t,G,by rw [E];simp⟩ (fun e=>B (e▸o)) (.inr o) (.inr (by rw [E];simp))
  ·-- us = us' ++ t, p :: r :: vs' = t ++ i :: vs
   match t,a with
   | [],a=>
    simp only [List.nil_append,List.cons.injEq]at a;obtain⟨rfl,_⟩:=a;exact q2 p r j rfl v l w
   | [t0],a=>
    simp only [List.cons_append,List.nil_append,List.cons.injEq]at a;obtain⟨rfl,rfl,_⟩:=a;have:lst us (-1)=(p:Int):=by rw [s];exact rX b p (-1)
    rw [this]at q1;exact q1 p r j rfl v l w
   |t0::t1::t,a=>
    simp only [List.cons_append,List.cons.injEq]at a;obtain⟨rfl,rfl,_⟩:=a;have n:p∈us:=by rw [s];simp
    have C:r∈us:=by rw [s];simp
    exact u ⟨b,t++i::q::vs,by rw [s];simp⟩ (fun e=>A (e▸n)) (.inl n) (.inl C)
theorem E6 {ms:List (Int×Int)} {below:Int} {ns:List Nd} {ps:List Nat} (hW:qr ms below ns ps []):sC ms below (dn ns ps)=dn ns ps:=by
 refine im _ _ _ fun m f e=>?_;obtain⟨h,p,q,i,b,c,d⟩:=ny e;obtain⟨j,k,a⟩:=zW f;obtain⟨x,g,_⟩:=hW.all h p q i b j (by rw [c,d];exact a) (by omega);cases g
def jR (bs:List Int):List Nd:=bs.zipIdx.map fun x=>{id:=x.1,ahead:=(x.2:Int)-1,next:=if x.2+1=bs.length then -1 else(x.2:Int)+1}
theorem eS (bs:List Int):(jR bs).length=bs.length:=by simp [jR]
theorem ry {bs:List Int} {p:Nat} (hp:p<bs.length):aR (jR bs) p= {id:=bs[p],ahead:=(p:Int)-1,next:=if p+1=bs.length then -1 else(p:Int)+1}:=by
 simp [aR,jR,List.getD_eq_getElem?_getD,hp]
theorem Ft (bs:List Int):∀(k p:Nat),p+k=bs.length→Ch (jR bs) ((p:Int)-1) (List.range' p k) (-1)
 |0,p,h=>trivial
 |k+1,p,h=>by
  simp only [List.range'_succ,Ch];rw [ry (show p<bs.length by omega)];refine⟨rfl,?_,?_⟩
  ·cases k with
   |zero=>simp [hd];omega
   |succ k=>
    rw [if_neg (by omega)];simp [List.range'_succ,hd]
  ·have:=Ft bs k (p+1) (by omega);rw [show((p+1:Nat):Int)-1=(p:Int) by omega]at this;exact this
theorem Ke {bs:List Int} (h:∀b∈bs,0≤b):kP (jR bs) (List.range' 0 bs.length)∧dn (jR bs) (List.range' 0 bs.length)=bs:=by
 refine⟨⟨by have:=Ft bs bs.length 0 (by omega);simpa using this,?_,fun p a=>?_,fun p a=>?_,fun p a e=>?_,fun c=>?_⟩,?_⟩
 ·exact List.pairwise_lt_range' (s:=0) (n:=bs.length)
 ·rw [eS];have:=List.mem_range'_1.1 a;omega
 ·have:=List.mem_range'_1.1 a;rw [ry (by omega)];exact h _ (List.getElem_mem _)
 ·rw [eS]at a;exact absurd (List.mem_range'_1.2 ⟨by omega,by omega⟩) e
 ·cases bs with
  |nil=>exact absurd rfl c
  |cons b bs=>rfl
 ·apply List.ext_getElem
  ·simp [dn]
  ·intro i f d;simp only [dn,List.getElem_map,List.getElem_range'];rw [show 0+1*i=i by omega,ry d]
theorem HK {ms:List (Int×Int)} {below:Int} {bs:List Int} {es:List HE} (hg:∀e∈es,qm ms below bs.length e) (ha:∀p,p<bs.length→kJ ms below (jR bs) p es):qr ms below (jR bs) (List.range' 0 bs.length) es:=by
 refine⟨by rw [eS];exact hg,fun j p q k a i g f=>?_⟩;have b:p∈List.range' 0 bs.length:=by rw [a];simp
 have h:p<bs.length:=by have:=List.mem_range'_1.1 b;omega
 refine ha p h p q i rfl ?_ g f;have c:=Ft bs bs.length 0 (by omega);rw [a]at c;obtain⟨_,_,d,_⟩:=(eE j _).1 c;exact d
theorem vN {α:Type} {enc:α→List Value} {sz:Nat} (hsz:∀x,(enc x).length=sz) (m:α) (k:Nat) (v:Value):∀(xs:List α) (i:Nat) (x:α),xs[i]? =some x→k<sz→enc m=(enc x).set k v→(xs.flatMap enc).set (i*sz+k) v=(xs.set i m).flatMap enc
 | [],i,x,h,_,_=>by simp at h
 |y::t,0,x,h,hk,he=>by
  simp at h;subst h;simp only [List.flatMap_cons,List.set_cons_zero,Nat.zero_mul,Nat.zero_add,he];rw [List.set_append_left _ _ (by rw [hsz];exact hk)]
 |y::t,i+1,x,h,hk,he=>by
  have ih:=vN hsz m k v t i x (by simpa using h) hk he;simp only [List.flatMap_cons,List.set_cons_succ];rw [←ih,Nat.add_mul,Nat.one_mul,List.set_append_right _ _ (by rw [hsz];omega)];congr 1;rw [hsz];congr 1;omega
theorem lM {w:World} {B:Nat} {e:TypeId} {sz:Nat} {l:Sl} {α:Type} {enc:α→List Value} {xs:List α} (hsz:∀x,(enc x).length=sz) (h0:0<sz) (h:w.ownsRow B e sz l.v l.n (xs.flatMap enc)) {i:Nat} {x:α} (hi:xs[i]? =some x):∃a,l.a=some a∧∀k v,(enc x)[k]? =some v→w.cell? ((a.add (i*sz)).add k)=some v:=by
 obtain⟨a,b,_,c⟩:=(Rw.of_own h hsz h0).1 i _ hi;exact⟨a,b,c⟩
theorem gD {w:World} {B:Nat} {e:TypeId} {sz:Nat} {l:Sl} {α:Type} {enc:α→List Value} {xs:List α} (hsz:∀x,(enc x).length=sz) (h0:0<sz) (h:w.ownsRow B e sz l.v l.n (xs.flatMap enc)) (hn:l.n=xs.length) {a:Addr} (ha:l.a=some a) {i:Nat} {x:α} (hi:xs[i]? =some x) {k:Nat} (hk:k<sz) (m:α) (v:Value) (he:enc m=(enc x).set k v):
  (∃u,w.cell? ((a.add (i*sz)).add k)=some u)∧w.frozen? ((a.add (i*sz)).add k)=false∧∀w',w'=w.setCell ((a.add (i*sz)).add k) v→w'.ownsRow B e sz l.v l.n ((xs.set i m).flatMap enc)∧(∀j,l.v.ownBlock≠some j→w'.heap[j]? =w.heap[j]?)∧w'.heap.size=w.heap.size∧(∀B0 w0,B0≤B→Below B0 w0 w→Below B0 w0 w'):=by
 have p:i<xs.length:=(List.getElem?_eq_some_iff.1 hi).1;rcases h.2 with⟨q,_⟩ |⟨g,A,b,q,D,n,r,F,z,y⟩
 ·obtain⟨G,c,f⟩:=l;cases q;cases ha
 ·obtain⟨G,c,f⟩:=l;cases q;cases ha;simp only at hn;change c≤f at r;change b.size=f*sz at z;change b.toList.take (c*sz)=_ at y;have o:(i+1)*sz≤xs.length*sz:=Nat.mul_le_mul_right sz p;have s:xs.length*sz≤f*sz:=Nat.mul_le_mul_right sz (by omega);have t:c*sz=xs.length*sz:=by rw [hn]
  rw [Nat.add_mul,Nat.one_mul]at o;have d:(((⟨g,0,none⟩:Addr).add (i*sz)).add k)=(⟨g,0,none⟩:Addr).add (i*sz+k):=by rw [Addr.add_add]
  rw [d];refine⟨⟨b[i*sz+k]'(by omega),by rw [aF n];simp⟩,bc n,?_⟩;rintro w' rfl;refine⟨⟨?_,.inr ⟨g,f,_,rfl,D,bu n _,r,F,by simpa using z,?_⟩⟩,fun j E=>ar (by rw [ay];exact fun e=>E (by rw [e];rfl)),ba _ _ _,fun B0 w0 C h0=>bv h0 (by omega) _⟩
  ·show((xs.set i m).flatMap enc).length=c*sz;rw [cA hsz,List.length_set,hn]
  ·show(b.setIfInBounds (i*sz+k) v).toList.take (c*sz)=_;rw [←vN hsz m k v xs i x hi hk he, ←y,Array.toList_setIfInBounds,List.take_set]
theorem az {w:World} {B:Nat} {e e':TypeId} {sz n k:Nat} {v:Value} {xs:List Value} {c:Array Value} {fz:Nat×Nat} (h:w.ownsRow B e sz v n xs) (hk:w.heap[k]? =some (.cells c e' fz)) (hne:e≠e'):v.ownBlock≠some k:=by
 intro a;rcases h.2 with⟨rfl,_⟩ |⟨g,d,f,rfl,_,b,_⟩
 ·cases a
 ·cases a;rw [hk]at b;cases b;exact hne rfl
theorem cj {w:World} {B B':Nat} {e e':TypeId} {sz sz' n n':Nat} {v v':Value} {xs xs':List Value} (h:w.ownsRow B e sz v n xs) (h':w.ownsRow B' e' sz' v' n' xs') (hne:e≠e'):∀k,v.ownBlock=some k→v'.ownBlock≠some k:=by
 intro k a;rcases h.2 with⟨rfl,_⟩ |⟨g,b,c,rfl,_,d,_⟩
 ·cases a
 ·cases a;exact az h' d (fun e=>hne e.symm)
abbrev OE:TypeId:=360
abbrev Bl:TypeId:=362
abbrev JI:TypeId:=358
abbrev Oi:TypeId:=357
theorem JG:Tryz.prog.underlying JI=some (.slice Bl):=by kernel_rfl
theorem HW:(Tryz.prog.info? Bl).map (fun i=>(i.zero,i.size,i.bytes))=some (some (.agg #[.int .i64 0,.int .i64 0,.int .i64 0]),3,24):=by kernel_rfl
def mB (x:Nd):List Value:=[.int .i64 x.id,.int .i64 x.ahead,.int .i64 x.next]
theorem vi (x:Nd):(mB x).length=3:=rfl
theorem vd (x:Nd):∀u∈mB x,u.oneCell'=true:=gE _ _ _
structure cQ (w:World) (B tp p q:Nat) (l lq:Sl) (turn:Nat) (below steps:Int) (ns:List Nd) (es:List HE):Prop where
 blk:w.heap[p]? =some (.cells #[.pointer (some ⟨tp,0,none⟩),l.v,.pointer (some ⟨q,0,none⟩),.int .i64 below,.int .i64 steps] OE (0,0))
 row:w.ownsRow B Bl 3 l.v l.n (ns.flatMap mB)
 len:l.n=ns.length
 hp:dG w B q lq turn es
 bp:B≤p
theorem cQ.on {w w':World} {B tp p q:Nat} {l lq:Sl} {turn:Nat} {below steps:Int} {ns:List Nd} {es:List HE} (h:cQ w B tp p q l lq turn below steps ns es) (hb:ZH w w'):cQ w' B tp p q l lq turn below steps ns es:=⟨aj hb h.blk,aE h.row hb,h.len,h.hp.on hb,h.bp⟩
theorem cQ.pq {w:World} {B tp p q:Nat} {l lq:Sl} {turn:Nat} {below steps:Int} {ns:List Nd} {es:List HE} (h:cQ w B tp p q l lq turn below steps ns es):p≠q:=by
 rintro rfl;have:=h.blk;rw [h.hp.blk]at this;cases this
theorem cQ.lt {w:World} {B tp p q:Nat} {l lq:Sl} {turn:Nat} {below steps:Int} {ns:List Nd} {es:List HE} (h:cQ w B tp p q l lq turn below steps ns es):p<w.heap.size:=(XY.1 h.blk).1
theorem cQ.move {w w':World} {B tp p q:Nat} {l lq lq':Sl} {turn turn':Nat} {below steps:Int} {ns:List Nd} {es es':List HE} (h:cQ w B tp p q l lq turn below steps ns es) (hd:kx w w' B q lq lq' turn' es'):cQ w' B tp p q l lq' turn' below steps ns es':=by
 refine⟨?_,aN h.row fun k a=>hd.moves.keep k (bL h.row k a).2 ?_ ?_,h.len,hd.raw,h.bp⟩
 ·rw [hd.moves.keep p h.lt h.pq (az h.hp.row h.blk (by decide))];exact h.blk
 ·rintro rfl;exact az h.row h.hp.blk (by decide) a
 ·exact cj h.row h.hp.row (by decide) k a
theorem cQ.cell {w:World} {B tp p q:Nat} {l lq:Sl} {turn:Nat} {below steps:Int} {ns:List Nd} {es:List HE} (h:cQ w B tp p q l lq turn below steps ns es) {i:Nat} (hi:i<ns.length):∃a,l.a=some a∧∀k v,(mB (aR ns i))[k]? =some v→w.cell? ((a.add (i*3)).add k)=some v:=by
 have e:ns[i]? =some (aR ns i):=by simp [aR,hi]
 exact lM vi (by decide) h.row e
theorem cQ.words {w:World} {B tp p q:Nat} {l lq:Sl} {turn:Nat} {below steps:Int} {ns:List Nd} {es:List HE} (h:cQ w B tp p q l lq turn below steps ns es):∀j,w.cell? ((⟨p,0,none⟩:Addr).add j)=(#[.pointer (some ⟨tp,0,none⟩),l.v,.pointer (some ⟨q,0,none⟩),.int .i64 below,.int .i64 steps]:Array Value)[j]? :=fun j=>ai p _ h.blk j
def nB (ns:List Nd):Prop:=∀i,i<ns.length→(aR ns i).next= -1∨∃k:Nat,(aR ns i).next=(k:Int)∧k<ns.length
structure we (w w':World) (B tp p q:Nat) (l:Sl) (turn:Nat) (below steps:Int) (ns:List Nd) (es:List HE) (ms:List (Int×Int)) (lq':Sl) (turn':Nat) (es':List HE):Prop where
 raw:cQ w' B tp p q l lq' turn' below steps ns es'
 heap:eN es'
 keep:∀x∈es,x∈es'
 new:∀x∈es',x∈es∨qm ms below ns.length x
 len:es'.length≤es.length+1
 turn:turn'≤turn+1
 below:Below B w w'
theorem pz (W w:World) (B tp p q:Nat) (l lq:Sl) (turn:Nat) (below steps:Int) (ns:List Nd) (es:List HE) (T:List aX) (hT:dx W tp T) (hW:W.heap.size≤B) (hWw:Below B W w)
  (h:cQ w B tp p q l lq turn below steps ns es) (hh:eN es) (hB:B≤w.heap.size) (hn:nB ns) (hl:es.length≤900000) (ht:turn≤1000000000) (j:Int) (hj:j= -1∨∃f:Nat,j=(f:Int)∧f<ns.length):
  CP 280 #[.pointer (some ⟨p,0,none⟩),.int .i64 j] w fun e w'=>e= .returned (.tuple #[])∧∃lq' turn' es',we w w' B tp p q l turn below steps ns es (au T) lq' turn' es'∧kJ (au T) below ns j es':=by
 refine aJ (CG (some ⟨p,0,none⟩) j w (fun v w'=>v= .tuple #[]∧∃lq' turn' es',we w w' B tp p q l turn below steps ns es (au T) lq' turn' es'∧kJ (au T) below ns j es') ?_) (by rintro v w' ⟨rfl,h⟩;exact⟨rfl,h⟩);have k:∀w':World,ZH w w'→kJ (au T) below ns j es→(Value.tuple #[]=Value.tuple #[]∧∃lq' turn' es',we w w' B tp p q l turn below steps ns es (au T) lq' turn' es'∧kJ (au T) below ns j es'):=fun w' hb o=>⟨rfl,lq,turn,es,⟨h.on hb,hh,fun _ h=>h,fun _ h=>.inl h,by omega,by omega,hb.mono hB⟩,o⟩;refine ac.mk (fun I=>?_) fun I=>?_
 ·have I:j= -1:=by simpa using I
  exact k w (Below.refl _ _) fun y H i r=>by omega
 ·have I:j≠ -1:=by simpa using I
  obtain⟨f,rfl,Z⟩:=hj.resolve_left I;obtain⟨a,o,hc⟩:=h.cell Z;have hlen:=h.len;have ef:((f:Int)).toNat=f:=by omega
  rw [ef];refine ag.mk _ rfl ⟨l.a,l.n,l.c,h.words 1,ag.mk a o ⟨by omega,by omega,_,hc 2 _ rfl,ac.mk (fun J=>?_) fun J=>?_⟩⟩
  ·have J:(aR ns f).next= -1:=by simpa using J
   refine k w (Below.refl _ _) fun y H i r F=>?_;have:y=f:=by omega
   subst this;omega
  ·have J:(aR ns f).next≠ -1:=by simpa using J
   obtain⟨g,hg,a0⟩:=(hn f Z).resolve_left J;intro w1 hw1;have S:ZH w w1:=by subst hw1;exact aU w
   have b:=h.on S;obtain⟨a1,O,V⟩:=b.cell Z;have c:a1=a:=by rw [o]at O;exact(Option.some.inj O).symm
   subst c;obtain⟨K,P,hcg⟩:=b.cell a0;have c:K=a1:=by rw [o]at P;exact(Option.some.inj P).symm
   subst c;have eg:((g:Int)).toNat=g:=by omega
   refine ag.mk _ rfl ⟨l.a,l.n,l.c,b.words 1,ag.mk K o ⟨by omega,by omega,_,V 0 _ rfl,ag.mk _ rfl ⟨l.a,l.n,l.c,b.words 1,ag.mk _ rfl ⟨l.a,l.n,l.c,b.words 1,ag.mk K o ⟨by omega,by omega,_,V 2 _ rfl,ag.mk K o ⟨by rw [hg];omega,by rw [hg];omega,?_⟩⟩⟩⟩⟩⟩;rw [hg,eg];refine⟨_,hcg 0 _ rfl,?_⟩;intro w2 a5;have hb2:ZH w1 w2:=by subst a5;exact ah _ _
   have m:=b.on hb2;obtain⟨a3,Q,X⟩:=m.cell Z;have c:a3=K:=by rw [o]at Q;exact(Option.some.inj Q).symm
   subst c;obtain⟨a4,R,Y⟩:=m.cell a0;have c:a4=a3:=by rw [o]at R;exact(Option.some.inj R).symm
   subst c;refine⟨⟨Y 0 _ rfl,trivial⟩,⟨by have:=X 2 _ rfl;rwa [hg]at this,trivial⟩,⟨m.words 1,trivial⟩,⟨m.words 1,trivial⟩,⟨X 0 _ rfl,trivial⟩,⟨m.words 1,trivial⟩,?_⟩;refine bg [.int .i64 0,.int .i64 0] [.int .i64 (aR ns f).id,.int .i64 (aR ns g).id] rfl (cK _ _) w2 a5 ?_;intro w3 h3 hz3 hB3 w4 a6;have U:ZH w1 w4:=by subst a6;exact hB3.drew
   have h4:w4.heap[w1.heap.size]? =some (.cells #[Value.int .i64 (aR ns f).id,Value.int .i64 (aR ns g).id] mw (0,0)):=by subst a6;exact h3
   have M:=b.on U;have s:=ae S U;have L:Below B W w4:=hWw.trans (s.mono hB);refine ag.mk _ rfl ⟨_,M.words 0,_,ai _ _ h4 0,_,ai _ _ h4 1,?_⟩;refine(nW w4 tp T (hT.on (L.mono hW)) _ _).mono ?_;rintro e w5 ⟨rfl,A⟩;have N:=M.on A;have n:=ae s A;have h5:=aj A h4;cases hx:(au T).idxOf? ((aR ns f).id,(aR ns g).id)with
   |none=>
    refine⟨_,_,rfl,ac.no rfl (k w5 n fun y H i r F hi=>?_)⟩;have:y=f:=by omega
    subst this;have:H=g:=by omega
    subst this;rw [hx]at hi;cases hi
   |some i=>
    refine⟨_,_,rfl,ac.yes rfl (ag.mk _ rfl ⟨below,N.words 3,ac.mk (fun d=>?_) fun d=>?_⟩)⟩
    ·have d:((256+i:Nat):Int) <below:=by simpa using d
     intro w6 hw6;have C:ZH w5 w6:=by subst hw6;exact aU w5
     have z:=N.on C;have h6:=aj C h5;have t:=ae n C;have hz06:=t.size;refine ag.mk _ rfl ⟨_,z.words 2,_,_,⟨by have:=ai _ _ h6 0;rw [aC]at this;exact this,ai _ _ h6 1,trivial⟩,?_⟩;refine(uP w6 B q lq turn es z.hp (by omega) hh hl ht _ _ _ _ _).mono ?_;rintro e w7 ⟨rfl,lq',es',hd,hl',E⟩;refine⟨rfl,rfl,lq',turn+1,es',⟨z.move hd,hd.heap,fun x G=>(E x).2 (.inl G),fun x G=>?_,by omega,by omega,(t.mono hB).trans hd.moves.below⟩,fun y H i' r F D u=>?_⟩
     ·rcases(E x).1 G with h |h
      ·exact .inl h
      ·right;subst h;exact⟨i,f,hx,rfl,d,rfl,rfl,Z⟩
     ·have:y=f:=by omega
      subst this;have:H=g:=by omega
      subst this;exact⟨_,(E _).2 (.inr rfl),rfl,rfl,rfl⟩
    ·have d:¬((256+i:Nat):Int) <below:=by simpa using d
     refine k w5 n fun y H i' r F D u=>?_;have:y=f:=by omega
     subst this;have:H=g:=by omega
     subst this;rw [hx]at D;cases D;exact absurd u d
theorem Ff (w:World) (B tp p q:Nat) (l lq:Sl) (turn:Nat) (below steps:Int) (ns:List Nd) (es:List HE) (h:cQ w B tp p q l lq turn below steps ns es) (hn:nB ns) (x:HE) (f:Nat) (hf:x.f=(f:Int)) (hfl:f<ns.length):
  CP 282 #[.pointer (some ⟨p,0,none⟩),.agg #[.int .i64 x.f,.int .i64 x.a,.int .i64 x.b]] w fun e w'=>e= .returned (.bool (decide (je ns x)))∧ZH w w':=by
 refine aJ (Cq (some ⟨p,0,none⟩) x.f x.a x.b w (fun v w'=>v= .bool (decide (je ns x))∧ZH w w') ?_) (by rintro v w' ⟨rfl,h⟩;exact⟨rfl,h⟩);intro w1 z E A;have u:ZH w E:=by subst A;subst z;exact(ah _ _).drew
 have n:E.heap[w.heap.size]? =some (.cells #[Value.int .i64 x.f,Value.int .i64 x.a,Value.int .i64 x.b] Oi (0,0)):=by subst A;subst z;exact aq _ _
 have c:=h.on u;obtain⟨a,U,L⟩:=c.cell hfl;have V:=h.len;have S:(x.f).toNat=f:=by omega
 have R:=L 0 _ rfl;rw [aC]at R;refine ag.mk _ rfl ⟨l.a,l.n,l.c,c.words 1,_,ai _ _ n 0,ag.mk a U ⟨by omega,by omega,?_⟩⟩;rw [S];refine⟨_,_,_,⟨R,L 1 _ rfl,L 2 _ rfl,trivial⟩,?_⟩;intro W C;have j:ZH E W:=by subst C;exact ah _ _
 obtain⟨X,s,m⟩:=(c.on j).cell hfl;have N:X=a:=by rw [U]at s;exact(Option.some.inj s).symm
 subst N;have o:=m 0 _ rfl;rw [aC]at o;refine⟨⟨o,m 1 _ rfl,m 2 _ rfl,trivial⟩,⟨ai _ _ (aj j n) 0,trivial⟩,⟨(c.on j).words 1,trivial⟩,?_⟩;refine bg [.int .i64 0,.int .i64 0,.int .i64 0] (mB (aR ns f)) rfl (vd _) W C ?_;intro w4 Z a0 H Q D;have k:ZH E Q:=by subst D;exact H.drew
 have G:Q.heap[E.heap.size]? =some (.cells (mB (aR ns f)).toArray Bl (0,0)):=by subst D;exact Z
 have y:=aj k n;have r:=c.on k;have t:=ae u k;have P:∀b:Bool,(b=true↔je ns x)→(Value.bool b= .bool (decide (je ns x))∧ZH w Q):=fun b K=>⟨by congr 1;rw [Bool.eq_iff_iff,K,decide_eq_true_eq],t⟩;have I:je ns x↔((aR ns f).id≠x.a∨(aR ns f).next= -1∨(aR ns (aR ns f).next.toNat).id≠x.b):=by unfold je;rw [S]
 refine⟨_,ai _ _ G 0,_,by rw [Addr.add_add];exact ai _ _ y 1,ac.mk (fun d=>?_) fun d=>?_⟩
 ·have d:(aR ns f).id≠x.a:=by simpa using d
  exact P true ⟨fun _=>I.2 (.inl d),fun _=>rfl⟩
 ·have d:(aR ns f).id=x.a:=by simpa using d
  refine⟨_,ai _ _ G 2,ac.mk (fun i=>?_) fun i=>?_⟩
  ·have i:(aR ns f).next= -1:=by simpa using i
   exact P true ⟨fun _=>I.2 (.inr (.inl i)),fun _=>rfl⟩
  ·have i:(aR ns f).next≠ -1:=by simpa using i
   obtain⟨g,F,O⟩:=(hn f hfl).resolve_left i;obtain⟨Y,J,M⟩:=r.cell O;have T:((g:Int)).toNat=g:=by omega
   refine ag.mk _ rfl ⟨l.a,l.n,l.c,r.words 1,_,ai _ _ G 2,ag.mk Y J ⟨by rw [F];omega,by rw [F];omega,?_⟩⟩;rw [F,T];refine⟨_,M 0 _ rfl,_,by rw [Addr.add_add];exact ai _ _ y 2,?_⟩;refine P _ ?_;rw [I,F,T];constructor
   ·intro K;exact .inr (.inr (by simpa only [bne_iff_ne,ne_eq]using K))
   ·rintro(h |h |h)
    ·exact absurd d h
    ·omega
    ·simpa only [bne_iff_ne,ne_eq]using h
theorem cQ.nodes {w w':World} {B tp p q:Nat} {l lq:Sl} {turn:Nat} {below steps:Int} {ns ns':List Nd} {es:List HE} (h:cQ w B tp p q l lq turn below steps ns es) (hr:w'.ownsRow B Bl 3 l.v l.n (ns'.flatMap mB)) (hl:ns'.length=ns.length) (hs:∀j,l.v.ownBlock≠some j→w'.heap[j]? =w.heap[j]?):cQ w' B tp p q l lq turn below steps ns' es:=by
 have b:l.v.ownBlock≠some q:=az h.row h.hp.blk (by decide);refine⟨?_,hr,by rw [hl];exact h.len,⟨by rw [hs q b];exact h.hp.blk,aN h.hp.row fun k a=>hs k fun e=>cj h.row h.hp.row (by decide) k e a,h.hp.len,h.hp.off,h.hp.bp⟩,h.bp⟩;rw [hs p (az h.row h.blk (by decide))];exact h.blk
theorem N' {ns:List Nd} {i:Nat} (hi:i<ns.length):ns[i]? =some (aR ns i):=by simp [aR,hi]
theorem cQ.write {w:World} {B tp p q:Nat} {l lq:Sl} {turn:Nat} {below steps:Int} {ns:List Nd} {es:List HE} (h:cQ w B tp p q l lq turn below steps ns es) {i:Nat} (hi:i<ns.length) {a:Addr} (ha:l.a=some a) {k:Nat} (hk:k<3) (m:Nd) (v:Value) (he:mB m=(mB (aR ns i)).set k v):
  (∃u,w.cell? ((a.add (i*3)).add k)=some u)∧w.frozen? ((a.add (i*3)).add k)=false∧∀w',w'=w.setCell ((a.add (i*3)).add k) v→cQ w' B tp p q l lq turn below steps (ns.set i m) es∧w'.heap.size=w.heap.size∧(∀w0,Below B w0 w→Below B w0 w'):=by
 obtain⟨e,f,g⟩:=gD vi (by decide) h.row h.len ha (N' hi) hk m v he;refine⟨e,f,fun w' c=>?_⟩;obtain⟨r,s,z,b⟩:=g w' c;exact⟨h.nodes r (by simp) s,z,fun w0 d=>b B w0 (XV _) d⟩
theorem cQ.drew {w:World} {B tp p q:Nat} {l lq:Sl} {turn:Nat} {below steps:Int} {ns:List Nd} {es:List HE} (h:cQ w B tp p q l lq turn below steps ns es):cQ w.drew B tp p q l lq turn below steps ns es:=h.on (aU w)
theorem Hp (W w:World) (B tp p q:Nat) (l lq:Sl) (turn:Nat) (below steps:Int) (ns:List Nd) (es:List HE) (T:List aX) (hT:dx W tp T) (hW:W.heap.size≤B) (hWw:Below B W w)
  (h:cQ w B tp p q l lq turn below steps ns es) (hh:eN es) (hB:B≤w.heap.size) (hl:es.length≤800000) (ht:turn≤900000000) (hst:0≤steps∧steps≤1000000000) (i:Nat) (c:Int) (us vs:List Nat) (y:Nat) (hL:kP ns (us++i::y::vs)) (hc:0≤c) (hn':nB (cR ns i c)):
  CP 283 #[.pointer (some ⟨p,0,none⟩),.int .i64 (i:Int),.int .i64 c] w fun e w'=>e= .returned (.tuple #[])∧∃lq' turn' es',cQ w' B tp p q l lq' turn' below (steps+1) (cR ns i c) es'∧eN es'∧(∀x∈es,x∈es')∧(∀x∈es',x∈es∨qm (au T) below ns.length x)∧es'.length≤es.length+2∧turn'≤turn+2∧Below B w w'∧
   kJ (au T) below (cR ns i c) (lst us (-1)) es'∧kJ (au T) below (cR ns i c) i es':=by
 obtain⟨hL',_,U,hah,hid,hidi,O,hnxi⟩:=lY hL hc;have R:i<ns.length:=hL.lt i (by simp);have hy:y<ns.length:=hL.lt y (by simp);have b:=hL.sorted;rw [List.pairwise_append,List.pairwise_cons,List.pairwise_cons]at b;have hiy:i<y:=b.2.1.1 y (by simp);have D:(aR ns y).next=hd vs (-1):=by
  obtain⟨_,_,_,_,a4,_⟩:=(eE us (-1)).1 hL.ch;exact a4
 refine aJ (CE (some ⟨p,0,none⟩) i c w (fun v w'=>v= .tuple #[]∧∃lq' turn' es',cQ w' B tp p q l lq' turn' below (steps+1) (cR ns i c) es'∧eN es'∧(∀x∈es,x∈es')∧(∀x∈es',x∈es∨qm (au T) below ns.length x)∧es'.length≤es.length+2∧turn'≤turn+2∧Below B w w'∧
   kJ (au T) below (cR ns i c) (lst us (-1)) es'∧kJ (au T) below (cR ns i c) i es') ?_) (by rintro v w' ⟨rfl,h⟩;exact⟨rfl,h⟩)
 obtain⟨a,j,hci⟩:=h.cell R;obtain⟨r,M,hcy⟩:=h.cell hy;have z:r=a:=by rw [j]at M;exact(Option.some.inj M).symm
 subst z;have hlen:=h.len;have ei:((i:Int)).toNat=i:=by omega
 have ey:((y:Int)).toNat=y:=by omega
 have t:=hci 2 _ rfl;rw [U]at t;refine ag.mk _ rfl ⟨l.a,l.n,l.c,h.words 1,ag.mk r j ⟨by omega,by omega,(y:Int),t,ag.mk _ rfl ⟨l.a,l.n,l.c,h.words 1,ag.mk r j ⟨by omega,by omega,?_⟩⟩⟩⟩;rw [ey];obtain⟨u1,f1,s1⟩:=h.write hy j (k:=0) (by decide) ⟨-2,(aR ns y).ahead,(aR ns y).next⟩ (.int .i64 (-2)) rfl;refine⟨_,hcy 2 _ rfl,ag.mk _ rfl ⟨l.a,l.n,l.c,h.words 1,ag.mk r j ⟨by omega,by omega,rfl,u1,f1,?_⟩⟩⟩;intro w1 hw1 w2 A;obtain⟨h1,z1,b1⟩:=s1 w1 hw1;have K:cQ w2 B tp p q l lq turn below steps (ns.set y ⟨-2,(aR ns y).ahead,(aR ns y).next⟩) es:=by subst A;exact h1.drew
 have z2:w2.heap.size=w.heap.size:=by subst A;exact z1
 have b2:Below B w w2:=by subst A;exact(b1 w (Below.refl _ _)).drew
 have n1i:aR (ns.set y ⟨-2,(aR ns y).ahead,(aR ns y).next⟩) i=aR ns i:=by rw [lr hy,if_neg (by omega)]
 obtain⟨u3,f3,s3⟩:=K.write (i:=i) (by simpa using R) j (k:=0) (by decide) ⟨c,(aR ns i).ahead,(aR ns i).next⟩ (.int .i64 c) (by rw [n1i];rfl);refine ag.mk _ rfl ⟨l.a,l.n,l.c,K.words 1,ag.mk _ rfl ⟨l.a,l.n,l.c,K.words 1,ag.mk r j ⟨by omega,by omega,rfl,u3,f3,?_⟩⟩⟩;intro w3 hw3;obtain⟨h3,z3,b3⟩:=s3 w3 hw3;have n2i:aR ((ns.set y ⟨-2,(aR ns y).ahead,(aR ns y).next⟩).set i ⟨c,(aR ns i).ahead,(aR ns i).next⟩) i=⟨c,(aR ns i).ahead,(aR ns i).next⟩:=by rw [lr (by simpa using R),if_pos rfl]
 obtain⟨u4,f4,s4⟩:=h3.write (i:=i) (by simpa using R) j (k:=2) (by decide) ⟨c,(aR ns i).ahead,(aR ns y).next⟩ (.int .i64 (aR ns y).next) (by rw [n2i];rfl);refine ag.mk r j ⟨by omega,by omega,rfl,u4,f4,?_⟩;intro w4 hw4;obtain⟨G,z4,b4⟩:=s4 w4 hw4;rw [List.set_set]at G;have H:Below B w w4:=b4 _ (b3 _ b2);intro J hJ;have I:∀Y:World,cQ Y B tp p q l lq turn below steps (cR ns i c) es→Y.heap.size=w.heap.size→Below B w Y→J [] Y:=by
  intro Y d z5 b5;refine hJ _ (ag.mk _ rfl ⟨steps,d.words 4,Ar.ok64 (by omega) (by omega) (ag.mk _ rfl ⟨rfl,⟨_,d.words 4⟩,bc d.blk,?_⟩)⟩);intro Z C;have h6:cQ Z B tp p q l lq turn below (steps+1) (cR ns i c) es:=by
   have hpq:=d.pq;subst C;refine⟨bu d.blk _,bw d.row _ (by rw [ay];exact az d.row d.blk (by decide)),d.len,⟨?_,bw d.hp.row _ (by rw [ay];exact az d.hp.row d.blk (by decide)),d.hp.len,d.hp.off,d.hp.bp⟩,d.bp⟩;rw [ar (by rw [ay];exact fun e=>hpq e.symm)];exact d.hp.blk
  have z6:Z.heap.size=w.heap.size:=by rw [←z5];subst C;exact ba _ _ _
  have b6:Below B w Z:=by subst C;exact bv b5 d.bp _
  have S:i< (cR ns i c).length:=by rw [dm];exact R
  obtain⟨a6,N,hc6⟩:=h6.cell S;have z:a6=r:=by rw [j]at N;exact(Option.some.inj N).symm
  subst z;have P:=hc6 1 _ rfl;rw [O]at P;refine ag.mk _ rfl ⟨l.a,l.n,l.c,h6.words 1,ag.mk a6 j ⟨by omega,by omega,lst us (-1),P,?_⟩⟩;have hlu:lst us (-1)= -1∨∃f:Nat,lst us (-1)=(f:Int)∧f< (cR ns i c).length:=by
   rcases List.eq_nil_or_concat us with rfl |⟨us',u,rfl⟩
   ·exact .inl rfl
   ·right;rw [List.concat_eq_append,rX];exact⟨u,rfl,by rw [dm];exact hL.lt u (by simp)⟩
  refine(pz W Z B tp p q l lq turn below (steps+1) (cR ns i c) es T hT hW (hWw.trans b6) h6 hh (by omega) hn' (by omega) (by omega) (lst us (-1)) hlu).mono ?_;rintro e w7 ⟨rfl,lq7,E,es7,m,A7⟩;have z7:=m.below.size;refine⟨rfl,(pz W w7 B tp p q l lq7 E below (steps+1) (cR ns i c) es7 T hT hW ((hWw.trans b6).trans m.below) m.raw m.heap (by omega) hn' (by have:=m.len;omega) (by have:=m.turn;omega) (i:Int) (.inr ⟨i,rfl,S⟩)).mono ?_⟩;rintro e w8 ⟨rfl,lq8,F,es8,o,A8⟩;refine⟨rfl,rfl,lq8,F,es8,o.raw,o.heap,fun x X=>o.keep x (m.keep x X),fun x X=>?_,by have:=m.len;have:=o.len;omega,by have:=m.turn;have:=o.turn;omega,(b6.trans m.below).trans o.below,?_,A8⟩
  ·rcases o.new x X with h |h
   ·rcases m.new x h with h |h
    ·exact .inl h
    ·rw [dm]at h;exact .inr h
   ·rw [dm]at h;exact .inr h
  ·intro p' q' i' h1 K h3 G;obtain⟨x,X,hr⟩:=A7 p' q' i' h1 K h3 G;exact⟨x,o.keep x X,hr⟩
 have L:cR ns i c=tF ns i y (aR ns y).next c:=by unfold cR;rw [U,Int.toNat_natCast]
 refine ac.mk (fun s=>?_) fun s=>?_
 ·have s:(aR ns y).next≠ -1:=by simpa using s
  obtain⟨g,n,V⟩:∃g n,vs=g::n:=by
   cases V:vs with
   |nil=>rw [V]at D;exact absurd D s
   |cons g n=>exact⟨g,n,rfl⟩
  have Q:(aR ns y).next=(g:Int):=by rw [D,V];rfl
  have hg:g<ns.length:=hL.lt g (by rw [V];simp);have hyg:y<g:=by rw [V]at b;exact b.2.1.2.1 g (by simp)
  have eg:((g:Int)).toNat=g:=by omega
  obtain⟨u9,f9,s9⟩:=G.write (i:=g) (by simpa using hg) j (k:=1) (by decide) ⟨(aR ((ns.set y ⟨-2,(aR ns y).ahead,(aR ns y).next⟩).set i ⟨c,(aR ns i).ahead,(aR ns y).next⟩) g).id,(i:Int),(aR ((ns.set y ⟨-2,(aR ns y).ahead,(aR ns y).next⟩).set i ⟨c,(aR ns i).ahead,(aR ns y).next⟩) g).next⟩ (.int .i64 (i:Int)) rfl;refine ag.mk _ rfl ⟨l.a,l.n,l.c,G.words 1,ag.mk r j ⟨by rw [Q];omega,by rw [Q];omega,?_⟩⟩;rw [show((aR ns y).next).toNat=g by omega];refine⟨rfl,u9,f9,fun w9 hw9=>?_⟩;obtain⟨h9,z9,b9⟩:=s9 w9 hw9;refine I w9 ?_ (by omega) (b9 _ H);rw [L];unfold tF;rw [if_neg s,show((aR ns y).next).toNat=g by omega];exact h9
 ·have s:(aR ns y).next= -1:=by simpa using s
  refine I w4 ?_ (by omega) H;rw [L];unfold tF;rw [if_pos s];exact G
theorem qg {ns:List Nd} {us vs:List Nat} {i y:Nat} {c:Int} (h:kP ns (us++i::y::vs)) (hc:0≤c) (hn:nB ns):nB (cR ns i c):=by
 obtain⟨_,_,j,_⟩:=lY h hc;have n:i<ns.length:=h.lt i (by simp);have l:y<ns.length:=h.lt y (by simp);have d:=h.sorted;rw [List.pairwise_append,List.pairwise_cons,List.pairwise_cons]at d;have f:i<y:=d.2.1.1 y (by simp);have b:(aR ns y).next=hd vs (-1):=by
  obtain⟨_,_,_,_,m,_⟩:=(eE us (-1)).1 h.ch;exact m
 intro k g;rw [dm]at g⊢;have e:aR (cR ns i c) k=if k=i then⟨c,(aR ns i).ahead,hd vs (-1)⟩else if k=y then⟨-2,(aR ns y).ahead,(aR ns y).next⟩else if hd vs (-1)=(k:Int)then⟨(aR ns k).id,(i:Int),(aR ns k).next⟩else aR ns k:=by
  unfold cR;rw [j,Int.toNat_natCast,b];refine(yB n l f ?_ k).trans (by rw [b]);cases hv:vs with
  |nil=>exact .inl rfl
  |cons a r=>exact .inr ⟨a,rfl,by rw [hv]at d;exact d.2.1.2.1 a (by simp),h.lt a (by rw [hv];simp)⟩
 rw [e];split
 ·show hd vs (-1)= -1∨∃k:Nat,hd vs (-1)=(k:Int)∧k<ns.length;rw [←b];exact hn y l
 ·split
  ·exact hn y l
  ·split
   ·exact hn k g
   ·exact hn k g
structure xJ (W w:World) (B tp p q:Nat) (l:Sl) (below:Int) (n:Nat) (bs:List Int) (T:List aX) (lq:Sl) (turn:Nat) (steps:Int) (ns:List Nd) (ps:List Nat) (es:List HE):Prop where
 raw:cQ w B tp p q l lq turn below steps ns es
 heap:eN es
 link:kP ns ps
 waits:qr (au T) below ns ps es
 next:nB ns
 nlen:ns.length=n
 ids:sC (au T) below (dn ns ps)=sC (au T) below bs
 size:es.length+3*ps.length≤5*n
 turn:turn+2*ps.length≤5*n
 steps:0≤steps∧steps+ps.length≤n+1
 below:Below B W w
theorem GL (x:HE) (t:List HE):Hy (x::t)= .tuple #[.agg #[.int .i64 x.f,.int .i64 x.a,.int .i64 x.b],.int .i64 x.r,.int .i64 x.p,.bool true]:=rfl
theorem Ie (W w:World) (B tp p q:Nat) (l lq:Sl) (turn:Nat) (below steps:Int) (n:Nat) (bs:List Int) (ns:List Nd) (ps:List Nat) (es:List HE) (T:List aX) (hT:dx W tp T) (hW:W.heap.size≤B) (hS:ja 256 (au T)) (hpos:∀m∈au T,0≤m.1) (hnb:n≤100000) (hBW:B≤w.heap.size)
  (h:xJ W w B tp p q l below n bs T lq turn steps ns ps es):
  CP 252 #[.pointer (some ⟨p,0,none⟩)] w fun e w'=>e= .returned (.tuple #[])∧∃lq' turn' steps' ns' ps',xJ W w' B tp p q l below n bs T lq' turn' steps' ns' ps' []:=by
 refine aV (zH (some ⟨p,0,none⟩) w) ?_;intro I hI;have key:∀(m:Nat) (P:World) (lq:Sl) (turn:Nat) (steps:Int) (ns:List Nd) (ps:List Nat) (es:List HE),es.length+3*ps.length≤m→B≤P.heap.size→xJ W P B tp p q l below n bs T lq turn steps ns ps es→I [] P:=by
  intro m;induction m using Nat.strongRecOn with
  |ind m ih=>
   intro P lq turn steps ns ps es hm R h;refine hI P ?_;intro J hJ;have hsz:=h.size;refine ag.mk _ rfl ⟨_,h.raw.words 2,?_⟩;refine(xK P B q lq turn es h.raw.hp R h.heap (by omega)).mono ?_;rintro e w3 ⟨rfl,lq',a,O,v,F,V⟩;have g:=h.raw.move O;have C:B≤w3.heap.size:=XW R O.moves.size;have u:Below B W w3:=h.below.trans O.moves.below;cases es with
   |nil=>
    refine⟨0,0,0,0,0,false,rfl,?_⟩;intro w4 H;refine bg [.int .i64 0,.int .i64 0,.int .i64 0] [.int .i64 0,.int .i64 0,.int .i64 0] rfl (fI _ _ _) w4 H ?_;intro w5 h5 hz5 b;refine ac.yes rfl ⟨rfl,lq',turn,steps,ns,ps,?_⟩;have hes:a= []:=List.eq_nil_of_length_eq_zero (by simpa using v);subst hes;exact⟨g.on b,O.heap,h.link,h.waits,h.next,h.nlen,h.ids,h.size,h.turn,h.steps,u.trans (b.mono C)⟩
   |cons x t=>
    rw [GL];have Y:hat (x::t) 0=x:=rfl;rw [Y]at F;have L:x∈x::t:=by simp
    have X:∀z∈x::t,¬z.lt x:=by
     intro z hz;obtain⟨j,hj,rfl⟩:=oV.1 hz;have:=EK h.heap j hj;rwa [Y]at this
    obtain⟨i,f,hi,hxr,hxb,K,hxp,hfl⟩:=h.waits.good x L;refine⟨_,_,_,_,_,true,rfl,?_⟩;intro w4 H;refine bg [.int .i64 0,.int .i64 0,.int .i64 0] [.int .i64 x.f,.int .i64 x.a,.int .i64 x.b] rfl (fI _ _ _) w4 H ?_;intro w5 h5 hz5 b;have k:=g.on b;refine ac.no rfl ⟨_,_,_,Hh h5,?_⟩;refine(Ff w5 B tp p q l lq' turn below steps ns a k h.next x f K hfl).mono ?_;rintro e Z ⟨rfl,D⟩;have o:=k.on D;have h6:=aj D h5;have s:=ae b D;have d:Below B W Z:=u.trans (s.mono C);have c:B≤Z.heap.size:=XW C s.size;simp only [List.length_cons]at v hsz hm;refine⟨_,rfl,ac.mk (fun A=>?_) fun A=>?_⟩
    ·have A:¬je ns x:=by simpa using A
     obtain⟨us,f',y,vs,r,hf',hfa,hyb,hfn⟩:=rg h.link (h.waits.good x L) hpos A;have hff:f'=f:=by omega
     subst hff;have N:=h.link;rw [r]at N;have S:0≤x.r:=by omega
     refine⟨x.f,ai _ _ h6 0,?_⟩;rw [K];have hstp:=h.steps;have htn:=h.turn;have hpl:ps.length=us.length+vs.length+2:=by rw [r];simp;omega
     refine(Hp W Z B tp p q l lq' turn below steps ns a T hT hW d o O.heap c (by omega) (by omega) (by omega) f' x.r us vs y N S (qg N S h.next)).mono ?_;rintro e w7 ⟨rfl,lq7,M,Q,G,hh7,k7,n7,l7,t7,b7,q1,q2⟩;have U:=E8 h.link h.waits hS hpos L X r hf' hfa hyb;obtain⟨hL7,E,_⟩:=lY N S;refine⟨rfl,hJ _ (ih (Q.length+3*(us++f'::vs).length) ?_ w7 lq7 M (steps+1) _ _ Q (XV _) (XW c b7.size) ⟨G,hh7,hL7,?_,qg N S h.next,by rw [dm];exact h.nlen,?_,?_,?_,?_,d.trans b7⟩)⟩
     ·simp only [List.length_append,List.length_cons];omega
     ·rw [r]at h;exact FM N S h.waits K F V k7 (fun z hz=>n7 z hz) q1 q2
     ·rw [E, ←U];exact h.ids
     ·simp only [List.length_append,List.length_cons];omega
     ·simp only [List.length_append,List.length_cons];omega
     ·simp only [List.length_append,List.length_cons];omega
    ·have A:je ns x:=by simpa using A
     refine hJ _ (ih (a.length+3*ps.length) (by omega) Z lq' turn steps ns ps a (XV _) c ⟨o,O.heap,h.link,Cl h.link h.waits F V A,h.next,h.nlen,h.ids,by omega,h.turn,h.steps,d⟩)
 exact key _ w lq turn steps ns ps es (XV _) hBW h
theorem Ka (w:World) (B tp p q:Nat) (l lq:Sl) (turn:Nat) (below steps:Int) (ns:List Nd) (ps:List Nat) (es:List HE) (h:cQ w B tp p q l lq turn below steps ns es) (hL:kP ns ps) (hl:ps.length≤1000000) (hnl:ns.length≤1000000):
  CP 253 #[.pointer (some ⟨p,0,none⟩)] w fun e w'=>∃a n c,e= .returned (.slice a n c)∧w'.ownsRow w.heap.size aT 1 (.slice a n c) n ((dn ns ps).flatMap an)∧n=ps.length∧ZH w w':=by
 refine aV (AD (some ⟨p,0,none⟩) w) ?_;intro I x;have j:=h.len;by_cases hne:ns= []
 ·subst hne;have b:ps= []:=by
   cases ps with
   |nil=>rfl
   |cons p' r=>exact absurd (hL.lt p' (by simp)) (by simp)
  subst b;refine x _ _ _ _ _ (ac.yes rfl (ag.mk _ rfl ⟨l.a,l.n,l.c,h.words 1,ac.no (by simp at j;simp [j]) ⟨none,0,0,rfl,cU _ _ _ _,rfl,Below.refl _ _⟩⟩))
 have D:∀(d i:List Nat) (A:Option Addr) (N C:Nat) (t:World),ps=i++d→t.ownsRow w.heap.size aT 1 (.slice A N C) N ((dn ns i).flatMap an)→N=i.length→ZH w t→I [.int .i64 (hd d (-1)),.slice A N C] t:=by
  intro d;induction d with
  |nil=>
   intro i A N C t b g J m;refine x _ _ _ _ _ (ac.no rfl ⟨A,N,C,rfl,?_,?_,m⟩)
   ·rw [b,List.append_nil];exact g
   ·rw [b,List.append_nil];exact J
  |cons f d ih=>
   intro i A N C t b g J m;have K:f<ns.length:=hL.lt f (by rw [b];simp);have v:=h.on m;obtain⟨a,Q,R⟩:=v.cell K;have V:i.length<ps.length:=by rw [b];simp
   refine x _ _ _ _ _ (ac.yes (show((f:Int) != -1)=true by simp) (ag.mk _ rfl ⟨l.a,l.n,l.c,v.words 1,ac.yes (show decide ((f:Int) < ((l.n:Nat):Int))=true by simp;omega) (ag.mk _ rfl ⟨l.a,l.n,l.c,v.words 1,ag.mk a Q ⟨show(0:Int)≤(f:Int) by omega,show(f:Int) < ((l.n:Nat):Int) by omega,_,R 0 _ rfl,?_⟩⟩)⟩));rintro W rfl;obtain⟨F,G,E,T,k,S,_⟩:=iD (P:=Tryz.prog) bQ aT ov rt rfl (by decide) g [Value.int .i64 (aR ns f).id] rfl (by intro u U;rw [List.mem_singleton.1 U];rfl) (by omega) (by omega) m.size;have o:ZH w E:=fB m g S m.size;have H:=h.on o;obtain⟨M,y,z⟩:=H.cell K;obtain⟨_,_,L,_⟩:=(eE i (-1)).1 (by have:=hL.ch;rw [b]at this;exact this);have s:=z 2 _ rfl;rw [L]at s;refine⟨F,N+1,G,E,T,ag.mk _ rfl ⟨l.a,l.n,l.c,H.words 1,ag.mk M y ⟨show(0:Int)≤(f:Int) by omega,show(f:Int) < ((l.n:Nat):Int) by omega,_,s,?_⟩⟩⟩;refine ih (i++ [f]) F (N+1) G E (by rw [b];simp) ?_ (by simp;omega) o;have:(dn ns (i++ [f])).flatMap an=(dn ns i).flatMap an++ [Value.int .i64 (aR ns f).id]:=by
    rw [dn,List.map_append,List.flatMap_append];rfl
   rw [this];exact k
 have O:=hL.head hne;have:=D ps [] none 0 0 w rfl (cU _ _ _ _) rfl (Below.refl _ _);rw [O]at this;exact this
def kC (bs:List Int) (i:Nat):List Nd:=(bs.take i).zipIdx.map fun x=>⟨x.1,(x.2:Int)-1,(x.2:Int)+1⟩
theorem iS (bs:List Int) (i:Nat) (h:i≤bs.length):(kC bs i).length=i:=by simp [kC,h]
theorem GG {bs:List Int} {i:Nat} (h:i<bs.length):kC bs (i+1)=kC bs i++ [⟨bs[i],(i:Int)-1,(i:Int)+1⟩]:=by
 have:bs.take (i+1)=bs.take i++ [bs[i]]:=by rw [List.take_add_one,XK h];rfl
 rw [kC,this,List.zipIdx_append,List.map_append];have a:min i bs.length=i:=by omega
 simp [kC,a]
theorem GD {bs:List Int} {n:Nat} (h:bs.length=n+1):(kC bs bs.length).set n ⟨(aR (kC bs bs.length) n).id,(aR (kC bs bs.length) n).ahead, -1⟩=jR bs:=by
 have b:aR (kC bs bs.length) n=⟨bs[n],(n:Int)-1,(n:Int)+1⟩:=by
  simp [aR,kC,List.getD_eq_getElem?_getD,h]
 rw [b];apply List.ext_getElem
 ·simp [kC,jR]
 ·intro i c a;rw [List.getElem_set];simp only [kC,jR,List.getElem_map,List.getElem_zipIdx,List.getElem_take];by_cases e:n=i
  ·subst e;simp [h]
  ·have d:i<bs.length:=by simpa [jR]using a
   simp only [e,if_false];rw [if_neg (by omega)]
def bf (s:Bs):List Int:=s.map fun b=>(b.toNat:Int)
theorem yV (s:Bs):∀b∈bf s,0≤b:=by
 intro b a;obtain⟨x,_,rfl⟩:=List.mem_map.1 a;omega
theorem qW (w:World) (tp:Nat) (T:List aX) (hT:dx w tp T) (s:Bs) (hs:s.length≤100000) (below:Int):
  CP 251 #[.pointer (some ⟨tp,0,none⟩),.string (str s),.int .i64 below] w fun e w'=>∃p q l lq turn ps es,e= .returned (.pointer (some ⟨p,0,none⟩))∧xJ w w' w.heap.size tp p q l below s.length (bf s) T lq turn 0 (jR (bf s)) ps es:=by
 refine aV (yh (some ⟨tp,0,none⟩) (str s) below w) ?_;refine(xg w).mono ?_;rintro e C ⟨rfl,hH,hB1,hz1⟩;refine⟨_,rfl,?_⟩;intro w2 N;have hB2:ZH w w2:=by subst N;exact hB1.alloc (by omega) _
 have F:cQ w2 w.heap.size tp C.heap.size w.heap.size ⟨none,0,0⟩ ⟨none,0,0⟩ 0 below 0 (kC (bf s) 0) []:=by
  subst N;exact⟨aq _ _,cU _ _ _ _,rfl,hH.on (ah _ _),by omega⟩
 have c:(bf s).length=s.length:=by simp [bf]
 intro I hI;have y:=aZ (α:=World) s.length (fun i x=>∃l,cQ x w.heap.size tp C.heap.size w.heap.size l ⟨none,0,0⟩ 0 below 0 (kC (bf s) i) []∧ZH w x) (fun i x=>I [.int .i64 (i:Int)] x) w2 ⟨_,F,hB2⟩ ?_ ?_
 ·exact y
 ·rintro i U ih w3 ⟨l,f,g⟩;refine hI _ _ (ac.yes (by rw [aP];simp;omega) ?_);intro w4 O;have b:cQ w4 w.heap.size tp C.heap.size w.heap.size l ⟨none,0,0⟩ 0 below 0 (kC (bf s) i) []:=by subst O;exact f.drew
  have hB4:ZH w w4:=by subst O;exact g.drew
  have K:l.n=i:=by rw [b.len,iS _ _ (by omega)]
  have hbt:dM (str s) (i:Int)=((s[i]).toNat:Int):=dB s i U;have hb256:=(s[i]).toNat_lt;refine⟨l.a,l.n,l.c,b.words 1,by omega,by rw [aP];omega,Ar.ok64 (by omega) (by omega) (Ar.ok64 (by omega) (by omega) ?_)⟩;have hwr:IntKind.wrap .i64 (dM (str s) (i:Int))=((s[i]).toNat:Int):=by
   rw [hbt];exact cL (by show(-9223372036854775808:Int)≤_;omega) (by show _≤(9223372036854775807:Int);omega)
  rw [hwr];rintro w5 rfl;obtain⟨a',c',w6,hr6,hu6,hf6,h7⟩:=fG (P:=Tryz.prog) (s:=l) 1 b.blk (show 1<5 by decide) b.row (az b.row b.blk (by decide)) b.bp JI JG HW rfl (by decide) (mB ⟨((s[i]).toNat:Int),(i:Int)-1,(i:Int)+1⟩) rfl (vd _) (by omega) (by omega);refine⟨⟨by rw [(ah w4 _).cell (by rw [ay];exact b.lt)];exact b.words 1,trivial⟩,a',l.n+1,c',w6,hr6,rfl,hu6,hf6,?_⟩;intro w7 hw7;obtain⟨r,v,hoff7,hB7,m,hsz7,hnew7⟩:=h7 w7 hw7;have H:(bf s)[i]'(by omega)=((s[i]).toNat:Int):=by simp [bf]
  refine Ar.ok64 (by omega) (by omega) (ih w7 ⟨⟨a',l.n+1,c'⟩,⟨r,?_,?_,⟨?_,cU _ _ _ _,rfl,(by intro e;cases e),XV _⟩,b.bp⟩,hB7 w hB4⟩)
  ·rw [GG (show i< (bf s).length by omega),List.flatMap_append,H];simpa using v
  ·rw [iS _ _ (by omega)];show l.n+1=i+1;omega
  ·rw [m w.heap.size b.hp.lt (fun e=>b.pq e.symm) (az b.row b.hp.blk (by decide))];exact b.hp.blk
 ·rintro w3 ⟨l,f,g⟩;have K:l.n=s.length:=by rw [f.len,iS _ _ (by omega)]
  refine hI _ _ (ac.no (by rw [aP];simp) ?_);intro J hJ;have D:∀S:World,cQ S w.heap.size tp C.heap.size w.heap.size l ⟨none,0,0⟩ 0 below 0 (jR (bf s)) []→ZH w S→J [] S:=by
   intro S h8 hB8;refine hJ _ ⟨l.a,l.n,l.c,h8.words 1,?_⟩;intro V o;obtain⟨hLk,G⟩:=Ke (yV s);have L:nB (jR (bf s)):=by
    intro i U;rw [eS]at U;rw [ry U,eS];dsimp only;split
    ·exact .inl rfl
    ·exact .inr ⟨i+1,by omega,by omega⟩
   have y:=aZ (α:=World) s.length (fun k x=>∃lq turn es,cQ x w.heap.size tp C.heap.size w.heap.size l lq turn below 0 (jR (bf s)) es∧eN es∧(∀e∈es,qm (au T) below s.length e)∧(∀Q,Q<k→kJ (au T) below (jR (bf s)) (Q:Int) es)∧es.length≤k∧turn≤k∧ZH w x) (fun k x=>V [.int .i64 (k:Int)] x) S ⟨_,0,[],h8,(fun j _ hj=>by simp at hj),(fun e he=>by cases he),fun Q u=>absurd u (Nat.not_lt_zero _),XV _,XV _,hB8⟩ ?_ ?_
   ·exact y
   ·rintro k hk ih w9 ⟨lq,turn,es,h9,t,Z,W,l9,t9,d⟩;refine o _ _ (ac.yes (by simp;omega) ?_);have hbl:(jR (bf s)).length=s.length:=by rw [eS,c]
    refine(pz w w9 w.heap.size tp C.heap.size w.heap.size l lq turn below 0 (jR (bf s)) es T hT (XV _) d h9 t d.size L (by omega) (by omega) (k:Int) (.inr ⟨k,rfl,by omega⟩)).mono ?_;rintro e w10 ⟨rfl,lq',z,Y,P,A⟩;refine⟨rfl,Ar.ok64 (by omega) (by omega) (ih w10 ⟨lq',z,Y,P.raw,P.heap,fun x hx=>?_,fun Q u=>?_,by have:=P.len;omega,by have:=P.turn;omega,d.trans P.below⟩)⟩
    ·rcases P.new x hx with h |h
     ·exact Z x h
     ·rw [hbl]at h;exact h
    ·rcases Nat.lt_succ_iff_lt_or_eq.1 u with h |h
     ·intro p1 q1 i h1 h2 f b;obtain⟨x,hx,hr⟩:=W Q h p1 q1 i h1 h2 f b;exact⟨x,P.keep x hx,hr⟩
     ·subst h;exact A
   ·rintro w9 ⟨lq,turn,es,h9,t,Z,W,l9,t9,d⟩;refine o _ _ (ac.no (by simp;omega) ⟨_,_,l,lq,turn,List.range' 0 (bf s).length,es,rfl,h9,t,hLk,HK (by rw [c];exact Z) (by rw [c];exact W),L,by rw [eS,c],by rw [G],?_,?_,?_,d⟩)
    ·simp [c];omega
    ·simp [c];omega
    ·simp [c];omega
  refine⟨l.a,l.n,l.c,f.words 1,ac.mk (fun B=>?_) fun B=>?_⟩
  ·have B:0<s.length:=by have:=XQ B;omega
   obtain⟨n,hn⟩:∃n,s.length=n+1:=⟨s.length-1,by omega⟩;have hpl:(kC (bf s) s.length).length=s.length:=iS _ _ (by omega);obtain⟨a,ha,_⟩:=f.cell (i:=n) (by omega);obtain⟨u1,f1,s1⟩:=f.write (i:=n) (by omega) ha (k:=2) (by decide) ⟨(aR (kC (bf s) s.length) n).id,(aR (kC (bf s) s.length) n).ahead, -1⟩ (.int .i64 (-1)) rfl;refine⟨l.a,l.n,l.c,f.words 1,Ar.ok64 (by omega) (by omega) (ag.mk a ha ⟨by omega,by omega,rfl,?_⟩)⟩;rw [show(((l.n:Nat):Int)-1).toNat=n by omega];refine⟨u1,f1,fun R M=>?_⟩;obtain⟨E,z11,X⟩:=s1 R M;refine D R ?_ (X w g);have:=GD (bs:=bf s) (n:=n) (by omega);rw [c]at this;rw [this]at E;exact E
  ·have B:s.length=0:=by have:=XX B;omega
   refine D w3 ?_ g;have hs0:s= []:=List.eq_nil_of_length_eq_zero B;subst hs0;exact f
theorem En (w:World) (tp:Nat) (T:List aX) (hT:dx w tp T) (hS:ja 256 (au T)) (hpos:∀m∈au T,0≤m.1) (s:Bs) (hs:s.length≤100000) (below:Int):
  CP 211 #[.pointer (some ⟨tp,0,none⟩),.string (str s),.int .i64 below] w fun e w'=>∃a n c,e= .returned (.slice a n c)∧w'.ownsRow w.heap.size aT 1 (.slice a n c) n ((sC (au T) below (bf s)).flatMap an)∧n=(sC (au T) below (bf s)).length∧ZH w w':=by
 refine aV (Ae (some ⟨tp,0,none⟩) (str s) below w) ?_;refine ac.no rfl ?_;refine(qW w tp T hT s hs below).mono ?_;rintro e F ⟨p,q,l,D,o,E,x,rfl,r⟩;refine⟨_,rfl,?_⟩;refine(Ie w F w.heap.size tp p q l D o below 0 s.length (bf s) _ E x T hT (XV _) hS hpos hs r.below.size r).mono ?_;rintro e G ⟨rfl,v,i,f,j,k,d⟩;refine⟨rfl,?_⟩;have C:=d.size;have B:=d.nlen;refine(Ka G w.heap.size tp p q l v i below f j k [] d.raw d.link (by omega) (by omega)).mono ?_;rintro e I ⟨a,n,c,rfl,b,A,z⟩;have h:dn j k=sC (au T) below (bf s):=by rw [←d.ids,E6 d.waits]
 refine⟨a,n,c,rfl,a,n,c,rfl,?_,by rw [←h,A,dn,List.length_map],d.below.trans (z.mono d.below.size)⟩;rw [h]at b;have H:=d.below.size;refine⟨b.1,b.2.imp id ?_⟩;rintro⟨g,t,u,r,d,y⟩;exact⟨g,t,u,r,by omega,y⟩
def fD (T:List aX) (s:Bs):List Int:=sC (au T) T.length (bf s)
theorem lG (w:World) (tp:Nat) (T:List aX) (hT:dx w tp T) (hS:ja 256 (au T)) (hpos:∀m∈au T,0≤m.1) (s:Bs) (hs:s.length≤100000):
  CP 164 #[.pointer (some ⟨tp,0,none⟩),.string (str s)] w fun e w'=>∃a n c,e= .returned (.slice a n c)∧w'.ownsRow w.heap.size aT 1 (.slice a n c) n ((fD T s).flatMap an)∧n=(fD T s).length∧ZH w w':=by
 refine aV (CM (some ⟨tp,0,none⟩) (str s) w) ?_;refine(fO w tp T hT).mono ?_;rintro e d ⟨rfl,b⟩;subst b;refine⟨_,rfl,?_⟩;refine(En d tp T hT hS hpos s hs T.length).mono ?_;rintro e f ⟨a,n,c,rfl,h⟩;exact⟨a,n,c,rfl,a,n,c,rfl,h⟩
theorem aS {w:World} {B B':Nat} {e:TypeId} {sz n:Nat} {v:Value} {xs:List Value} (h:w.ownsRow B e sz v n xs) (hB:B'≤B):w.ownsRow B' e sz v n xs:=by
 refine⟨h.1,h.2.imp id ?_⟩;rintro⟨g,a,b,c,d,f⟩;exact⟨g,a,b,c,XW hB d,f⟩
theorem zR (w:World) (a:Option Addr) (c:Nat) (xs:List (Int×Int)) (hr:Rw be 2 w a xs) (hl:xs.length≤1000000000):
  CP 142 #[.slice a xs.length c] w fun e w'=>∃s:Sl,e= .returned s.v∧s.n=xs.length∧w'.ownsRow w.heap.size mw 2 s.v s.n (xs.flatMap be)∧ZH w w':=by
 refine aV (Ab a xs.length c w) ?_;refine ac.mk (fun b=>?_) fun b=>?_
 ·have j:xs= []:=by
   cases xs with
   |nil=>rfl
   |cons x t=>
    obtain⟨p,i,_⟩:=hr 0 x rfl;rw [i]at b;cases b
  subst j;exact⟨⟨none,0,0⟩,rfl,rfl,cU _ _ _ _,Below.refl _ _⟩
 ·obtain⟨p,rfl⟩:∃p,a=some p:=by
   cases a with
   |none=>cases b
   |some p=>exact⟨p,rfl⟩
  intro k d;obtain⟨A,C,l,f,g,h⟩:=iP (enc:=be) (sz:=2) (fun _=>rfl) (by decide) (fun x=>cK _ _) 33 mw vS wk rfl w ⟨some p,xs.length,c⟩ xs (.inr ⟨p,rfl⟩) hr rfl (by simp only;omega) (by simp only;omega) k d;exact⟨A,xs.length,C,l,f,⟨A,xs.length,C⟩,rfl,rfl,g,h⟩
theorem Ap (w:World) (a:Option Addr) (c:Nat) (xs:List (Bs)) (hr:Rw cz 1 w a xs) (hl:xs.length≤1000000000):
  CP 143 #[.slice a xs.length c] w fun e w'=>∃s:Sl,e= .returned s.v∧s.n=xs.length∧w'.ownsRow w.heap.size dN 1 s.v s.n (xs.flatMap cz)∧ZH w w':=by
 refine aV (yE a xs.length c w) ?_;refine ac.mk (fun b=>?_) fun b=>?_
 ·have k:xs= []:=by
   cases xs with
   |nil=>rfl
   |cons x t=>
    obtain⟨p,i,_⟩:=hr 0 x rfl;rw [i]at b;cases b
  subst k;exact⟨⟨none,0,0⟩,rfl,rfl,cU _ _ _ _,Below.refl _ _⟩
 ·obtain⟨p,rfl⟩:∃p,a=some p:=by
   cases a with
   |none=>cases b
   |some p=>exact⟨p,rfl⟩
  intro l d;obtain⟨A,C,m,f,g,h⟩:=iP (enc:=cz) (sz:=1) (fun _=>rfl) (by decide) (fun x u j=>by rw [List.mem_singleton.1 j];rfl) eH dN jc jk rfl w ⟨some p,xs.length,c⟩ xs (.inr ⟨p,rfl⟩) hr rfl (by simp only;omega) (by simp only;omega) l d;exact⟨A,xs.length,C,m,f,⟨A,xs.length,C⟩,rfl,rfl,g,h⟩
theorem qD (w:World) (a:Option Addr) (c:Nat) (xs:List (Int×Bs)) (hr:Rw aM 2 w a xs) (hl:xs.length≤1000000000):
  CP 144 #[.slice a xs.length c] w fun e w'=>∃s:Sl,e= .returned s.v∧s.n=xs.length∧w'.ownsRow w.heap.size nH 2 s.v s.n (xs.flatMap aM)∧ZH w w':=by
 refine aV (At a xs.length c w) ?_;refine ac.mk (fun b=>?_) fun b=>?_
 ·have j:xs= []:=by
   cases xs with
   |nil=>rfl
   |cons x t=>
    obtain⟨p,i,_⟩:=hr 0 x rfl;rw [i]at b;cases b
  subst j;exact⟨⟨none,0,0⟩,rfl,rfl,cU _ _ _ _,Below.refl _ _⟩
 ·obtain⟨p,rfl⟩:∃p,a=some p:=by
   cases a with
   |none=>cases b
   |some p=>exact⟨p,rfl⟩
  intro k d;obtain⟨A,C,l,f,g,h⟩:=iP (enc:=aM) (sz:=2) (fun _=>rfl) (by decide) (fun x=>eh _ _) 25 nH tw xb rfl w ⟨some p,xs.length,c⟩ xs (.inr ⟨p,rfl⟩) hr rfl (by simp only;omega) (by simp only;omega) k d;exact⟨A,xs.length,C,l,f,⟨A,xs.length,C⟩,rfl,rfl,g,h⟩
theorem Dl (w:World) (a:Option Addr) (c:Nat) (xs:List (Int×Int×Int)) (hr:Rw bS 3 w a xs) (hl:xs.length≤1000000000):
  CP 145 #[.slice a xs.length c] w fun e w'=>∃s:Sl,e= .returned s.v∧s.n=xs.length∧w'.ownsRow w.heap.size Hu 3 s.v s.n (xs.flatMap bS)∧ZH w w':=by
 refine aV (BQ a xs.length c w) ?_;refine ac.mk (fun b=>?_) fun b=>?_
 ·have j:xs= []:=by
   cases xs with
   |nil=>rfl
   |cons x t=>
    obtain⟨p,i,_⟩:=hr 0 x rfl;rw [i]at b;cases b
  subst j;exact⟨⟨none,0,0⟩,rfl,rfl,cU _ _ _ _,Below.refl _ _⟩
 ·obtain⟨p,rfl⟩:∃p,a=some p:=by
   cases a with
   |none=>cases b
   |some p=>exact⟨p,rfl⟩
  intro k d;obtain⟨A,C,l,f,g,h⟩:=iP (enc:=bS) (sz:=3) (fun _=>rfl) (by decide) (fun x=>gE _ _ _) 23 Hu xO Ed rfl w ⟨some p,xs.length,c⟩ xs (.inr ⟨p,rfl⟩) hr rfl (by simp only;omega) (by simp only;omega) k d;exact⟨A,xs.length,C,l,f,⟨A,xs.length,C⟩,rfl,rfl,g,h⟩
theorem zM (w:World) (a:Option Addr) (c:Nat) (xs:List (Int×Int)) (hr:Rw be 2 w a xs) (hl:xs.length≤1000000000):
  CP 146 #[.slice a xs.length c] w fun e w'=>∃s:Sl,e= .returned s.v∧s.n=xs.length∧w'.ownsRow w.heap.size KI 2 s.v s.n (xs.flatMap be)∧ZH w w':=by
 refine aV (Cc a xs.length c w) ?_;refine ac.mk (fun b=>?_) fun b=>?_
 ·have j:xs= []:=by
   cases xs with
   |nil=>rfl
   |cons x t=>
    obtain⟨p,i,_⟩:=hr 0 x rfl;rw [i]at b;cases b
  subst j;exact⟨⟨none,0,0⟩,rfl,rfl,cU _ _ _ _,Below.refl _ _⟩
 ·obtain⟨p,rfl⟩:∃p,a=some p:=by
   cases a with
   |none=>cases b
   |some p=>exact⟨p,rfl⟩
  intro k d;obtain⟨A,C,l,f,g,h⟩:=iP (enc:=be) (sz:=2) (fun _=>rfl) (by decide) (fun x=>cK _ _) 24 KI wZ Ep rfl w ⟨some p,xs.length,c⟩ xs (.inr ⟨p,rfl⟩) hr rfl (by simp only;omega) (by simp only;omega) k d;exact⟨A,xs.length,C,l,f,⟨A,xs.length,C⟩,rfl,rfl,g,h⟩
theorem qi (w:World) (a:Option Addr) (c:Nat) (xs:List (Int)) (hr:Rw an 1 w a xs) (hl:xs.length≤1000000000):
  CP 88 #[.slice a xs.length c] w fun e w'=>∃s:Sl,e= .returned s.v∧s.n=xs.length∧w'.ownsRow w.heap.size aT 1 s.v s.n (xs.flatMap an)∧ZH w w':=by
 refine aV (DV a xs.length c w) ?_;refine ac.mk (fun b=>?_) fun b=>?_
 ·have k:xs= []:=by
   cases xs with
   |nil=>rfl
   |cons x t=>
    obtain⟨p,i,_⟩:=hr 0 x rfl;rw [i]at b;cases b
  subst k;exact⟨⟨none,0,0⟩,rfl,rfl,cU _ _ _ _,Below.refl _ _⟩
 ·obtain⟨p,rfl⟩:∃p,a=some p:=by
   cases a with
   |none=>cases b
   |some p=>exact⟨p,rfl⟩
  intro l d;obtain⟨A,C,m,f,g,h⟩:=iP (enc:=an) (sz:=1) (fun _=>rfl) (by decide) (fun x u j=>by rw [List.mem_singleton.1 j];rfl) bQ aT ov rt rfl w ⟨some p,xs.length,c⟩ xs (.inr ⟨p,rfl⟩) hr rfl (by simp only;omega) (by simp only;omega) l d;exact⟨A,xs.length,C,m,f,⟨A,xs.length,C⟩,rfl,rfl,g,h⟩
theorem BN:∀ {ms:List (Int×Int)} {k:Int},(∀(i:Nat) (m:Int×Int),ms[i]? =some m→m.1<k+i∧m.2<k+i)→ja k ms
 | [],_,_=>trivial
 |m::ms,k,h=>by
  have h0:=h 0 m rfl;refine⟨by omega,by omega,BN fun i x hi=>?_⟩;have:=h (i+1) x (by simpa using hi);omega
theorem eZ {T:List aX} (h:fo T) {i:Nat} {m:Int×Int} (hi:(au T)[i]? =some m):(0≤m.1∧m.1<256+i)∧(0≤m.2∧m.2<256+i):=by
 simp only [au,List.getElem?_map,List.getElem?_drop]at hi;obtain⟨e,c,rfl⟩:=Option.map_eq_some_iff.1 hi;obtain⟨a,b,_⟩:=h.step (256+i) e c (by omega);exact⟨⟨a.1,by have:=a.2;omega⟩,⟨b.1,by have:=b.2;omega⟩⟩
theorem fo.sound {T:List aX} (h:fo T):ja 256 (au T):=BN fun i m hi=>⟨(eZ h hi).1.2,(eZ h hi).2.2⟩
theorem fo.pos {T:List aX} (h:fo T):∀m∈au T,0≤m.1:=fun m hm=>by
 obtain⟨i,hi,rfl⟩:=List.getElem_of_mem hm;exact(eZ h (XK hi)).1.1
def sy (l:List Int):Option (Int×Int):=match l with
 | [a,b]=>some (a,b)
 |_=>none
def MU (o:Option (Int×Int)):Value:=match o with
 |some m=>.tuple #[.agg #[.int .i64 m.1,.int .i64 m.2],.bool true]
 |none=>.tuple #[.agg #[.int .i64 0,.int .i64 0],.bool false]
theorem xk (w:World) (tp:Nat) (T:List aX) (hT:dx w tp T) (hok:fo T) (s:Bs) (hs:s.length≤100000):
  CP 239 #[.pointer (some ⟨tp,0,none⟩),.string (str s)] w fun e w'=>e= .returned (MU (sy (fD T s)))∧ZH w w':=by
 refine aV (Ci (some ⟨tp,0,none⟩) (str s) w) ?_;intro F r;have j:ZH w F:=by subst r;exact ah _ _
 have B:F.heap[w.heap.size]? =some (.cells #[Value.int .i64 0,Value.int .i64 0] mw):=by subst r;exact aq _ _
 refine(lG F tp T (hT.on j) hok.sound hok.pos s hs).mono ?_;rintro e I ⟨a,n,c,rfl,b,h,k⟩;have q:=aj k B;have g:=ae j k;refine⟨a,n,c,rfl,ac.mk (fun d=>?_) fun d=>?_⟩
 ·have d:n≠2:=by intro e;rw [e]at d;simp at d
  have C:sy (fD T s)=none:=by
   rw [h]at d
   match hx:fD T s with
   | []=>rfl
   | [x]=>rfl
   | [x,y]=>rw [hx]at d;exact absurd rfl d
   |x::y::z::t=>rfl
  refine bo q [.int .i64 0,.int .i64 0] rfl (cK _ _) ?_;intro M G _ _ u;exact⟨0,0,⟨by have:=ai _ _ G 0;rw [aC]at this;exact this,ai _ _ G 1,trivial⟩,by rw [C];rfl,u _ _ (XV _) g⟩
 ·have d:n=2:=by have:((n:Nat):Int)=2:=by simpa using d
                 omega
  rw [d]at h
  match hx:fD T s with
  | []=>rw [hx]at h;simp at h
  | [x]=>rw [hx]at h;simp at h
  |x::y::z::t=>rw [hx]at h;simp at h
  | [x,y]=>
   rw [hx]at b;intro L E;have f:ZH I L:=by subst E;exact aU I
   obtain⟨p,C,J⟩:=lM (l:=⟨a,n,c⟩) (enc:=an) (sz:=1) (fun _=>rfl) (by decide) (aE b f) (i:=0) (x:=x) rfl;obtain⟨K,D,A⟩:=lM (l:=⟨a,n,c⟩) (enc:=an) (sz:=1) (fun _=>rfl) (by decide) (aE b f) (i:=1) (x:=y) rfl;have m:=J 0 _ rfl;have o:=A 0 _ rfl;rw [aC]at m o;refine ag.mk p C ⟨Int.le_refl _,by omega,x,m,ag.mk K D ⟨by omega,by omega,y,o,?_⟩⟩;refine bo (aj f q) [.int .i64 x,.int .i64 y] rfl (cK _ _) ?_;intro N H _ _ v;exact⟨x,y,⟨by have:=ai _ _ H 0;rw [aC]at this;exact this,ai _ _ H 1,trivial⟩,rfl,v _ _ (XV _) (ae g f)⟩
def fm:List aX→Nat→List Bs→Except (Nat×Int) (List aX)
 |es,_,[]=>.ok es
 |es,i,t::r=>match sy (fD es t)with
  |none=>.error (i,2)
  |some m=>match cq es m with
   | .error n=>.error (i,n)
   | .ok x=>fm (es++ [x]) (i+1) r
def fU (w:World) (o:Except (Nat×Int) (List aX)) (k:Nat) (v:Value) (w':World):Prop:=ZH w w'∧match o with
 | .error q=>v= .tuple #[.pointer none,.int .i64 q.1,.int .i64 q.2]∧q.2≠0
 | .ok es=>∃p,v= .tuple #[.pointer (some ⟨p,0,none⟩),.int .i64 (k:Int),.int .i64 0]∧dx w' p es∧fo es
theorem DA {ms:List (Int×Int)}:∀ {es:List aX} {i:Nat} {q:Nat×Int},cI es i ms= .error q→q.2≠0:=by
 induction ms with
 |nil=>intro es i q h;cases h
 |cons m ms ih=>
  intro es i q h;rw [cI]at h;cases hx:cq es m with
  |error n=>rw [hx]at h;cases h;exact gB hx
  |ok x=>rw [hx]at h;exact ih h
theorem Au (w:World) (a:Option Addr) (c:Nat) (ts:List Bs) (hr:Rw cz 1 w a ts) (hl:ts.length≤1000000) (hts:∀t∈ts,t.length≤100000):
  CP 188 #[.slice a ts.length c] w fun e w'=>∃v,e= .returned v∧fU w (fm bU 0 ts) ts.length v w':=by
 refine yK a ts.length c w (fU w (fm bU 0 ts) ts.length) ?_;refine(qb w none 0 [] (by intro j x hj;simp at hj) (by simp)).mono ?_;rintro e w1 ⟨v,rfl,r,p,rfl,C,g⟩;refine⟨_,_,_,rfl,ac.no rfl ?_⟩;intro I Y;have S:=aZ (α:=Int×Int×Option Addr×World) ts.length (fun i x=>∃l,ie x.2.2.2 w.heap.size p l∧fo l∧fm bU 0 ts=fm l i (ts.drop i)∧ZH w x.2.2.2) (fun i x=>I [.int .i64 (i:Int),.int .i64 x.1,.int .i64 x.2.1,.pointer x.2.2.1] x.2.2.2) (0,0,none,w1) ⟨bU,C,g,by rw [List.drop_zero],r⟩ ?_ ?_
 ·exact S
 ·rintro i Q ih ⟨V,U,T,D⟩ ⟨l,C,g,k,r⟩;change ie D _ _ _ at C;change ZH w D at r;obtain⟨q,hq,_,hc⟩:=(hr.on r) i _ (XK Q);have W:=hc 0 _ rfl;rw [aC]at W;have f:ts.drop i=ts[i]::ts.drop (i+1):=List.drop_eq_getElem_cons Q;refine Y _ _ _ _ _ (ac.yes (by simp;omega) (ag.mk q hq ⟨by omega,by omega,_,W,?_⟩));refine(xk D p l C.is g ts[i] (hts _ (List.getElem_mem Q))).mono ?_;rintro e G ⟨rfl,J⟩;have hz:w.heap.size≤D.heap.size:=r.size;have E:∀(o:Option (Int×Int)),sy (fD l ts[i])=o→∀(x y:Int) (b:Bool),MU o= .tuple #[.agg #[.int .i64 x,.int .i64 y],.bool b]→(b=true→o=some (x,y))→(b=false→o=none)→∀H:World,H=G.alloc (.cells #[Value.int .i64 0,Value.int .i64 0] mw)→
        aI H (nb G) (fun B=>
        ac (!b)
         (fU w (fm bU 0 ts) ts.length (Value.tuple #[Value.pointer none,Value.int .i64 (i:Int),Value.int .i64 2]) B)
         (∃g0:Int,∃g1:Int,(B.cell? (nb G)=some (Value.int .i64 g0)∧B.cell? ((nb G).add 1)=some (Value.int .i64 g1)∧True)∧
          CP 240 #[Value.pointer (some ⟨p,0,none⟩),Value.agg #[Value.int .i64 g0,Value.int .i64 g1]] B (fun Z F=>
          ∃r0_3:Int,∃r1_4:Int,Z= .returned (Value.tuple #[Value.int .i64 r0_3,Value.int .i64 r1_4])∧
          ac ((r1_4:Int) != 0)
           (fU w (fm bU 0 ts) ts.length (Value.tuple #[Value.pointer none,Value.int .i64 (i:Int),Value.int .i64 r1_4]) F)
           (Ar .i64 ((i:Int)+1) (fun n=>
            I [Value.int .i64 n,Value.int .i64 V,Value.int .i64 U,Value.pointer T] F))))) [Value.int .i64 x,Value.int .i64 y] 0:=by
   intro o A x y b _ P O H R;refine bg [.int .i64 0,.int .i64 0] [.int .i64 x,.int .i64 y] rfl (cK _ _) H R ?_;intro B X hz5 K;have u:ZH D B:=ae J K;have h:ZH w B:=r.trans (u.mono hz);refine ac.mk (fun N=>?_) fun N=>?_
   ·have hn:=O (by simpa using N);rw [hn]at A;refine⟨h,?_⟩;rw [k,f,fm,A];exact⟨rfl,show(2:Int)≠0 by decide⟩
   ·have hs:=P (by simpa using N);rw [hs]at A;refine⟨x,y,⟨by have:=ai _ _ X 0;rw [aC]at this;exact this,ai _ _ X 1,trivial⟩,?_⟩;refine(qq B w.heap.size p l (C.on u) g h.size (x,y)).mono ?_;rintro e F ⟨v,rfl,L,d⟩;have s:ZH w F:=h.trans L;cases hx:cq l (x,y)with
    |error n=>
     rw [hx]at d;obtain⟨rfl,_⟩:=d;refine⟨_,_,rfl,ac.yes (by simpa using gB hx) ⟨s,?_⟩⟩;rw [k,f,fm,A];simp only [hx];exact⟨trivial,gB hx⟩
    |ok z=>
     rw [hx]at d;obtain⟨rfl,M⟩:=d;refine⟨_,_,rfl,ac.no (by simp) (Ar.ok64 (by omega) (by omega) (ih (V,U,T,F) ⟨_,M,(lW g hx).1,?_,s⟩))⟩;rw [k,f,fm,A];simp only [hx]
  cases A:sy (fD l ts[i])with
  |none=>exact⟨0,0,false,rfl,E none A 0 0 false rfl (by simp) (fun _=>rfl)⟩
  |some m=>exact⟨m.1,m.2,true,rfl,E (some m) A m.1 m.2 true rfl (fun _=>rfl) (by simp)⟩
 ·rintro⟨V,U,T,D⟩ ⟨l,C,g,k,r⟩;refine Y _ _ _ _ _ (ac.no (by simp) ⟨r,?_⟩);rw [k,List.drop_length,fm];exact⟨p,rfl,C.is,g⟩
def qC (s:am):Except (Nat×Int) (List aX):=if s.ranked then fm bU 0 s.tokens else cI bU 0 s.merges
def Gc (s:am):Nat:=if s.ranked then s.tokens.length else s.merges.length
theorem GS (w:World) (x:bk) (s:am) (h:cY w x s) (hs:gW s) (hts:∀t∈s.tokens,t.length≤100000):
  CP 130 #[x.v] w fun e w'=>∃v,e= .returned v∧fU w (qC s) (Gc s) v w':=by
 refine BD x.ranked x.s1.a x.s1.n x.s1.c x.s2.a x.s2.n x.s2.c x.s3.a x.s3.n x.s3.c x.s4.a x.s4.n x.s4.c x.s5.a x.s5.n x.s5.c w (fU w (qC s) (Gc s)) ?_;rintro G rfl;have C:=ah w (.cells x.cells dp);have B:=h.on C;have r:∀j,(w.alloc (.cells x.cells dp)).cell? ((nb w).add j)=x.cells[j]? :=fun j=>by rw [aG,Nat.zero_add,bn]
 have a:∀(o:Except (Nat×Int) (List aX)) (k:Nat) (v:Value) (f:World),fU (w.alloc (.cells x.cells dp)) o k v f→∃(l:Option Addr) (m n:Int),v= .tuple #[.pointer l,.int .i64 m,.int .i64 n]∧fU w o k v f:=by
  intro o k v f c;obtain⟨u,D⟩:=c;have g:=ae C u;cases o with
  |error q=>obtain⟨rfl,E⟩:=D;exact⟨_,_,_,rfl,g,rfl,E⟩
  |ok es=>obtain⟨p,rfl,y⟩:=D;exact⟨_,_,_,rfl,g,p,rfl,y⟩
 refine⟨_,r 0,ac.mk (fun b=>?_) fun b=>?_⟩
 ·have b:s.ranked=true:=by rw [←h.ranked];exact b
  refine⟨_,_,_,r 2,?_⟩;have i:=Au (w.alloc (.cells x.cells dp)) x.s2.a x.s2.c s.tokens B.r2 hs.2.1 hts;rw [←h.n2]at i;refine i.mono ?_;rintro e f ⟨v,rfl,c⟩;rw [h.n2]at c;obtain⟨l,m,n,rfl,d⟩:=a _ _ _ _ c;refine⟨l,m,n,rfl,?_⟩;rw [qC,Gc,if_pos b,if_pos b];exact d
 ·have b:s.ranked=false:=by rw [←h.ranked];exact b
  refine⟨_,_,_,r 1,?_⟩;have i:=qb (w.alloc (.cells x.cells dp)) x.s1.a x.s1.c s.merges B.r1 (by have:=hs.1;omega);rw [←h.n1]at i;refine i.mono ?_;rintro e f ⟨v,rfl,u,c⟩;have A:fU (w.alloc (.cells x.cells dp)) (cI bU 0 s.merges) s.merges.length v f:=by
   refine⟨u,?_⟩;cases hx:cI bU 0 s.merges with
   |error q=>rw [hx]at c;exact⟨c,DA hx⟩
   |ok es=>rw [hx]at c;obtain⟨p,F,y,z⟩:=c;exact⟨p,F,y.is,z⟩
  obtain⟨l,m,n,rfl,d⟩:=a _ _ _ _ A;refine⟨l,m,n,rfl,?_⟩;rw [qC,Gc,if_neg (by rw [b];simp),if_neg (by rw [b];simp)];exact d
def pA (S:List Nat) (w w':World):Prop:=w.heap.size≤w'.heap.size∧∀k,k<w.heap.size→k∉S→w'.heap[k]? =w.heap[k]?
theorem pA.trans {S:List Nat} {a b c:World} (h:pA S a b) (k:pA S b c):pA S a c:=⟨XW h.1 k.1,fun i hi hS=>(k.2 i (Nat.lt_of_lt_of_le hi h.1) hS).trans (h.2 i hi hS)⟩
theorem pA.of_below {S:List Nat} {a b:World} (h:ZH a b):pA S a b:=⟨h.size,fun k hk _=>h.block k hk⟩
theorem pA.setCell {S:List Nat} {w:World} {a:Addr} (u:Value) (ha:a.block∈S):pA S w (w.setCell a u):=⟨by rw [ba];exact XV _,fun k _ hS=>ar fun e=>hS (e▸ha)⟩
theorem oT {S:List Nat} {w w':World} {B:Nat} {e:TypeId} {sz n:Nat} {v:Value} {xs:List Value} (h:w.ownsRow B e sz v n xs) (hS:∀k,B≤k→k∉S) (ho:pA S w w'):w'.ownsRow B e sz v n xs:=
 aN h fun k hk=>ho.2 k (bL h k hk).2 (hS k (bL h k hk).1)
structure gP (B:Nat) (w:World) (x:bk) (s:am):Prop where
 o1:w.ownsRow B mw 2 x.s1.v x.s1.n (s.merges.flatMap be)
 o2:w.ownsRow B dN 1 x.s2.v x.s2.n (s.tokens.flatMap cz)
 o3:w.ownsRow B nH 2 x.s3.v x.s3.n (s.specials.flatMap aM)
 o4:w.ownsRow B Hu 3 x.s4.v x.s4.n (s.classes.flatMap bS)
 o5:w.ownsRow B KI 2 x.s5.v x.s5.n (s.joins.flatMap be)
theorem gP.on {B:Nat} {w w':World} {x:bk} {s:am} (h:gP B w x s) (hb:ZH w w'):gP B w' x s:=
 ⟨aE h.o1 hb,aE h.o2 hb,aE h.o3 hb,aE h.o4 hb,aE h.o5 hb⟩
theorem gP.base {B B':Nat} {w:World} {x:bk} {s:am} (h:gP B w x s) (hB:B'≤B):gP B' w x s:=
 ⟨aS h.o1 hB,aS h.o2 hB,aS h.o3 hB,aS h.o4 hB,aS h.o5 hB⟩
theorem wz (w:World) (x:bk) (s:am) (h:cY w x s) (hs:gW s):
  CP 100 #[x.v] w fun e w'=>∃x':bk,e= .returned x'.v∧cY w' x' s∧ZH w w'∧gP w.heap.size w' x' s:=by
 refine aJ (Db x.ranked x.s1.a x.s1.n x.s1.c x.s2.a x.s2.n x.s2.c x.s3.a x.s3.n x.s3.c x.s4.a x.s4.n x.s4.c x.s5.a x.s5.n x.s5.c w (fun v w'=>∃x':bk,v=x'.v∧cY w' x' s∧ZH w w'∧gP w.heap.size w' x' s) ?_) (by rintro v w' ⟨x',rfl,h⟩;exact⟨x',rfl,h⟩);intro c I w2 u w3 y;obtain⟨n1,n2,n3,n4,n5⟩:=hs;have hz1:c.heap.size=w.heap.size+1:=by subst I;exact aK _ _
 have hz2:w2.heap.size=w.heap.size+2:=by subst u;rw [aK,hz1]
 have hz3:w3.heap.size=w.heap.size+2:=by subst y;exact hz2
 have H:ZH w w3:=by
  subst y;subst u;subst I;exact(((Below.refl _ _).alloc (XV _) _).alloc (by rw [aK];omega) _).drew
 have p3:w3.heap[w.heap.size]? =some (.cells x.cells dp (0,0)):=by
  subst y;show w2.heap[w.heap.size]? =_;rw [u,fE _ _ (by omega)];subst I;exact aq _ _
 have q3:w3.heap[c.heap.size]? =some (.cells gu.cells dp (0,0)):=by
  subst y;show w2.heap[c.heap.size]? =_;rw [u];exact aq _ _
 have h3:=h.on H;have G:∀ {w':World},w'.heap[w.heap.size]? =some (.cells x.cells dp (0,0))→∀j,w'.cell? ((nb w).add j)=x.cells[j]? :=fun hw' j=>ai _ _ hw' j;refine⟨_,_,_,G p3 1,_,_,_,G p3 2,_,_,_,G p3 3,?_⟩;have k1:=zR w3 x.s1.a x.s1.c s.merges h3.r1 (by omega);rw [←h.n1]at k1;refine k1.mono ?_;rintro e w4 ⟨F,rfl,e1,o1,N⟩;have p4:=aj N p3;have z4:=N.size;refine⟨_,_,_,rfl,⟨G p4 3,trivial⟩,⟨G p4 2,trivial⟩,?_⟩;have k2:=Ap w4 x.s2.a x.s2.c s.tokens (h3.on N).r2 (by omega);rw [←h.n2]at k2;refine k2.mono ?_;rintro e w5 ⟨M,rfl,e2,o2,O⟩;have p5:=aj O p4;have z5:=O.size;refine⟨_,_,_,rfl,⟨G p5 3,trivial⟩,?_⟩;have k3:=qD w5 x.s3.a x.s3.c s.specials ((h3.on N).on O).r3 (by omega);rw [←h.n3]at k3;refine k3.mono ?_;rintro e w6 ⟨Q,rfl,e3,o3,P⟩;have p6:=aj P p5;have z6:=P.size;have hB6:ZH w w6:=((H.trans (N.mono H.size)).trans (O.mono (by omega))).trans (P.mono (by omega));refine⟨_,_,_,rfl,rfl,⟨_,G p6 1⟩,bc p6,?_⟩;intro w7 z;have p7:w7.heap[w.heap.size]? =some (.cells #[.bool x.ranked,F.v,x.s2.v,x.s3.v,x.s4.v,x.s5.v] dp (0,0)):=by subst z;exact bu p6 _
 refine⟨rfl,⟨_,by rw [ai _ _ p7];rfl⟩,bc p7,?_⟩;intro w8 A;have p8:w8.heap[w.heap.size]? =some (.cells #[.bool x.ranked,F.v,M.v,x.s3.v,x.s4.v,x.s5.v] dp (0,0)):=by subst A;exact bu p7 _
 refine⟨rfl,⟨_,by rw [ai _ _ p8];rfl⟩,bc p8,?_⟩;intro w9 C;have p9:w9.heap[w.heap.size]? =some (.cells #[.bool x.ranked,F.v,M.v,Q.v,x.s4.v,x.s5.v] dp (0,0)):=by subst C;exact bu p8 _
 intro p i;have J:p.heap[w.heap.size]? =some (.cells #[.bool x.ranked,F.v,M.v,Q.v,x.s4.v,x.s5.v] dp (0,0)):=by subst i;exact p9
 have g:ZH w p:=by
  subst i;subst C;subst A;subst z;exact(bv (bv (bv hB6 (XV _) _) (XV _) _) (XV _) _).drew
 have q:pA [w.heap.size,c.heap.size] w6 p:=by
  have a1:pA [w.heap.size,c.heap.size] w6 w7:=by subst z;exact pA.setCell _ (by rw [ay];simp)
  have a2:pA [w.heap.size,c.heap.size] w7 w8:=by subst A;exact pA.setCell _ (by rw [ay];simp)
  have a3:pA [w.heap.size,c.heap.size] w8 w9:=by subst C;exact pA.setCell _ (by rw [ay];simp)
  have a4:pA [w.heap.size,c.heap.size] w9 p:=by subst i;exact pA.of_below (aU _)
  exact((a1.trans a2).trans a3).trans a4
 have z10:=q.1;have S:=h.on g;refine⟨_,_,_,by rw [ai _ _ J];rfl,_,_,_,by rw [ai _ _ J];rfl,?_⟩;have k4:=Dl p x.s4.a x.s4.c s.classes S.r4 (by omega);rw [←h.n4]at k4;refine k4.mono ?_;rintro e w11 ⟨t4,rfl,e4,o4,n⟩;have a0:=aj n J;have z11:=n.size;refine⟨_,_,_,rfl,⟨by rw [ai _ _ a0];rfl,trivial⟩,?_⟩;have k5:=zM w11 x.s5.a x.s5.c s.joins (S.on n).r5 (by omega);rw [←h.n5]at k5;refine k5.mono ?_;rintro e a5 ⟨t5,rfl,e5,o5,o⟩;have K:=aj o a0;have z12:=o.size;refine⟨_,_,_,rfl,rfl,⟨_,by rw [ai _ _ K];rfl⟩,bc K,?_⟩;intro D l;have L:D.heap[w.heap.size]? =some (.cells #[.bool x.ranked,F.v,M.v,Q.v,t4.v,x.s5.v] dp (0,0)):=by subst l;exact bu K _
 refine⟨rfl,⟨_,by rw [ai _ _ L];rfl⟩,bc L,?_⟩;intro d m;have p14:d.heap[w.heap.size]? =some (.cells (⟨x.ranked,F,M,Q,t4,t5⟩:bk).cells dp (0,0)):=by subst m;exact bu L _
 have T:ZH w d:=by
  subst m;subst l;exact bv (bv ((g.trans (n.mono g.size)).trans (o.mono (XW g.size z11))) (XV _) _) (XV _) _
 have f:pA [w.heap.size,c.heap.size] a5 d:=by
  have a1:pA [w.heap.size,c.heap.size] a5 D:=by subst l;exact pA.setCell _ (by rw [ay];simp)
  have a2:pA [w.heap.size,c.heap.size] D d:=by subst m;exact pA.setCell _ (by rw [ay];simp)
  exact a1.trans a2
 have r:pA [w.heap.size,c.heap.size] w6 d:=((q.trans (pA.of_below n)).trans (pA.of_below o)).trans f;have q14:d.heap[c.heap.size]? =some (.cells gu.cells dp (0,0)):=by
  have R:∀w':World,c.heap.size≠w.heap.size:=fun _=>by omega
  have q6:=aj P (aj O (aj N q3));have q7:w7.heap[c.heap.size]? =some (.cells gu.cells dp (0,0)):=by subst z;rw [ar (by rw [ay];exact R w)];exact q6
  have q8:w8.heap[c.heap.size]? =some (.cells gu.cells dp (0,0)):=by subst A;rw [ar (by rw [ay];exact R w)];exact q7
  have q9:w9.heap[c.heap.size]? =some (.cells gu.cells dp (0,0)):=by subst C;rw [ar (by rw [ay];exact R w)];exact q8
  have q10:p.heap[c.heap.size]? =some (.cells gu.cells dp (0,0)):=by subst i;exact q9
  have q12:=aj o (aj n q10);have q13:D.heap[c.heap.size]? =some (.cells gu.cells dp (0,0)):=by subst l;rw [ar (by rw [ay];exact R w)];exact q12
  subst m;rw [ar (by rw [ay];exact R w)];exact q13
 have a:∀(B k:Nat),w.heap.size+2≤B→B≤k→k∉ [w.heap.size,c.heap.size]:=by
  intro B k h1 h2;simp;omega
 refine⟨_,_,_,_,_,_,_,_,_,_,_,_,_,_,_,_,dX p14,?_⟩;refine uV (w:=c) (fun x' w'=>∃x'':bk,x'.v=x''.v∧cY w' x'' s∧ZH w w'∧gP w.heap.size w' x'' s) ⟨x.ranked,F,M,Q,t4,t5⟩ q14 rfl ?_;intro a6 E U;have b:pA [w.heap.size,c.heap.size] d a6:=⟨(E d (Below.refl _ _)).size,fun k t hS=>U k fun e=>hS (by rw [e];simp)⟩;have b15:ZH w a6:=(T.trans ((E d (Below.refl _ _)).mono (by omega)));have V:=oT (aE (aE o1 O) P) (fun k t=>a _ k (by omega) t) (r.trans b);have W:=oT (aE o2 P) (fun k t=>a _ k (by omega) t) (r.trans b);have X:=oT o3 (fun k t=>a _ k (by omega) t) (r.trans b);have Y:=oT (aE o4 o) (fun k t=>a _ k (by omega) t) (f.trans b);have Z:=oT o5 (fun k t=>a _ k (by omega) t) (f.trans b);exact⟨⟨x.ranked,F,M,Q,t4,t5⟩,rfl,⟨h.ranked,e1.trans h.n1,(Rw.of_own V (fun _=>rfl) (by decide)).1,e2.trans h.n2,(Rw.of_own W (fun _=>rfl) (by decide)).1,e3.trans h.n3,(Rw.of_own X (fun _=>rfl) (by decide)).1,e4.trans h.n4,(Rw.of_own Y (fun _=>rfl) (by decide)).1,e5.trans h.n5,(Rw.of_own Z (fun _=>rfl) (by decide)).1⟩,b15,aS V (by omega),aS W (by omega),aS X (by omega),aS Y (by omega),aS Z (by omega)⟩
end Go.Proofs.YtijbcdiffjjefaaGreatDoor.Eng
