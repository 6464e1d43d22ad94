/- Groups, walked by the engine. -/
import Derived.Test.YtijbcdiffjjefaaGreatDoorZwFp
import Derived.Laws.CopyRow
import Derived.Test.YtijbcdiffjjefaaGreatDoorZwTab
set_option linter.unusedVariables false
set_option linter.unusedSimpArgs false
set_option maxRecDepth 100000
namespace Go.Proofs.YtijbcdiffjjefaaGreatDoor.Eng
open Go Go.RowKit
section
variable {κ:Type} [DecidableEq κ] [BEq κ] [LawfulBEq κ] {kv:κ→Value}
def jt (k:Nat→κ) (i:Nat):List (κ×Value):=(aL k i).zipIdx.map fun x=>(k x.1,.int .i64 (x.2:Int))
theorem mg (k:Nat→κ) (i:Nat):e_ (k i) (jt k i)=((aL k i).findIdx? fun a=>decide (k a=k i)).map fun c:Nat=>Value.int .i64 (c:Int):=by
 have:=gC k (k i) (aL k i) 0;simp only [Nat.zero_add]at this;rw [show e_ (k i) (jt k i)=_ from this];congr 1;rw [List.idxOf?,List.findIdx?_map];congr 1;funext a;show(k a==k i)=_;by_cases h:k a=k i
 ·simp [h]
 ·simp [h]
end
section
variable {κ:Type} [DecidableEq κ]
theorem CU {k:Nat→κ} {i:Nat} (h:aL k (i+1)=aL k i++ [i]):jt k (i+1)=jt k i++ [(k i,.int .i64 (((aL k i).length:Nat):Int))]:=by
 unfold jt;rw [h,List.zipIdx_append,List.map_append];simp
theorem iT (k:Nat→κ) (i:Nat):(jt k i).length=(aL k i).length:=by simp [jt]
end
section
variable {κ:Type} {kv:κ→Value}
theorem nR {t kt et:TypeId} (ht:Tryz.prog.underlying t=some (.map kt et)) {w:World} {r:Nat} {m:List (κ×Value)} (h:bJ kv w r m) (t2:TypeId):(Builtin.len_ #[t] t2 #[.map (some r)]).run Tryz.prog w= .ok (.int .i64 (m.length:Int)) w:=by
 obtain⟨b,a,c,d,_⟩:=h;have:b.size=m.length:=by
  have:=congrArg List.length d;simpa using this
 rw [←this];simp [Builtin.len_,Sem.run_bind,run_underlying ht,Result.andThen,iA c,goInt]
end
def md (b:Bool):Value:=.bool b
theorem MP:kL Tryz.prog bW Bool md:=by
 refine rU (d:=.bool) (by kernel_rfl) (fun a b=>by cases a<;>cases b<;>rfl) (fun e k w=>?_)
 unfold Instr.checkKey;simp [run_underlying (show Tryz.prog.underlying bW=some .bool by kernel_rfl),Result.andThen]
theorem rD:Tryz.prog.underlying 317=some (.map bW aT):=by kernel_rfl
theorem zF (w:World) (n:Nat) (key:Value) (k:Nat→Bool) (hn:n≤10000) (his:∀i,i<n→∀w1,ZH w w1→bM gq key [.int .i64 (i:Int)] w1 (fun e w2=>e= .returned (md (k i))∧ZH w1 w2)):
  CP 180 #[.int .i64 (n:Int),key] w fun e w'=>∃of:Sl,e= .returned (.tuple #[of.v,.int .i64 (((aL k n).length:Nat):Int)])∧of.n=n∧w'.ownsRow w.heap.size aT 1 of.v of.n (((List.range n).map fun i=>((clsOf k i:Nat):Int)).flatMap an)∧ZH w w':=by
 refine aV (B2 n key w) ?_;refine⟨_,_,fR _,?_⟩;have R:=ah w (.map #[] 0);have N:bJ md (w.alloc (.map #[] 0)) w.heap.size (jt k 0):=ip w;obtain⟨w1,r⟩:∃w1,w1=w.alloc (.map #[] 0):=⟨_,rfl⟩;rw [←r]at R N;rw [←r];refine⟨some (nb w1),n,n,_,jX w1 n (by omega),?_⟩;have D:=ah w1 (.cells (Array.replicate n (.int .i64 0)) aT);obtain⟨f,U⟩:∃f:Nat→Int,f=fun i=>((clsOf k i:Nat):Int):=⟨_,rfl⟩;have X:=rV (enc:=an) (0:Int) (.int .i64 0) rfl aT f w1 (n:=n) (by omega);obtain⟨l,B⟩:∃l:Sl,l=⟨some (nb w1),n,n⟩:=⟨_,rfl⟩;have o:l.n=n:=by subst B;rfl
 have L:l.a=some (nb w1):=by subst B;rfl
 obtain⟨w2,s⟩:∃w2,w2=w1.alloc (.cells (Array.replicate n (.int .i64 0)) aT):=⟨_,rfl⟩;rw [←s]at D X;rw [←s];have s1:w.heap.size<w1.heap.size:=N.lt;intro I T;have key:=aZ (α:=World) n (fun i q=>q.ownsRow w1.heap.size aT 1 l.v l.n ((part 0 f n i).flatMap an)∧bJ md q w.heap.size (jt k i)∧ZH w q) (fun i q=>I [.int .i64 (i:Int)] q) w2 ⟨by subst B;exact X,N.on D,ae R D⟩ ?_ ?_
 ·exact key
 ·rintro i K ih q ⟨C,M,y⟩;refine T _ _ (ac.yes (XJ (by omega)) ((his i K q y).mono ?_));rintro e Q ⟨rfl,E⟩;have m:=ae y E;have g:=aE C E;have b:=M.on E;have a:=eL MP rD en b (k i);rw [mg]at a;refine⟨_,rfl,?_⟩;have next:∀(z:World),z.ownsRow w1.heap.size aT 1 l.v l.n ((part 0 f n i).flatMap an)→bJ md z w.heap.size (jt k (i+1))→ZH w z→
    ag (some (nb w1)) (fun P=>(0:Int)≤(i:Int)∧(i:Int) < ((n:Nat):Int)∧
     (Value.int .i64 ((clsOf k i:Nat):Int)).oneCell'=true∧(∃u,z.cell? (P.add ((i:Int).toNat*1))=some u)∧z.frozen? (P.add ((i:Int).toNat*1))=false∧
     ∀x:World,x=(z.setCell (P.add ((i:Int).toNat*1)) (Value.int .i64 ((clsOf k i:Nat):Int)))→
     Ar .i64 ((i:Int)+1) (fun O=>I [Value.int .i64 O] x)):=by
   intro z zo Z zB;obtain⟨u,S,W⟩:=gD (l:=l) (enc:=an) (sz:=1) (fun _=>rfl) (by decide) zo (by rw [dC];exact o) L (jE 0 f K) (k:=0) (by decide) (f i) (.int .i64 (f i)) rfl;rw [aC]at u S W;refine ag.mk _ rfl ⟨by omega,by omega,rfl,u,S,?_⟩;intro x t;rw [show((clsOf k i:Nat):Int)=f i by rw [U]]at t;obtain⟨Y,s7,z7,b7⟩:=W x t;refine Ar.nat (i+1) rfl (by omega) (ih x ⟨?_,Z.same (s7 _ (dh zo Z)),b7 _ _ (by omega) zB⟩);rw [nX (0:Int) f K]at Y;exact Y
  rcases d_ (k:=k) i with⟨c,A,F,G,_⟩ |⟨A,F,G,_⟩
  ·rw [A]at a;refine⟨_,_,Q,a,?_⟩;intro J H;refine ac.no rfl (H _ _ ?_);have:=next Q g (by rw [show jt k (i+1)=jt k i by unfold jt;rw [F]];exact b) m;rw [G]at this;exact this
  ·rw [A]at a;refine⟨_,_,Q,a,?_⟩;intro J H;obtain⟨v,hr,d,p,V,h⟩:=eO MP rD b (k i) (.int .i64 (((jt k i).length:Nat):Int)) (by rw [mg,A];rfl);refine ac.yes rfl ⟨_,_,nR rD b _,v,hr,H _ _ ?_⟩;rw [iT]at d⊢;have:=next v (aN g fun j hj=>p j fun e=>dh g b (by rw [hj,e])) (by rw [CU F];exact d) (h _ _ (XV _) m);rw [G]at this;exact this
 ·rintro q ⟨C,M,y⟩;refine T _ _ (ac.no (XZ (by omega)) ⟨_,_,nR rD M _,l,?_,o,?_,y⟩)
  ·rw [iT];subst B;rfl
  ·rw [sq,U]at C;exact aS C (by omega)
theorem Dc (w:World) (n:Nat) (key:Value) (k:Nat→Bs) (hn:n≤10000) (his:∀i,i<n→∀w1,ZH w w1→bM gq key [.int .i64 (i:Int)] w1 (fun e w2=>e= .returned (di (k i))∧ZH w1 w2)):
  CP 182 #[.int .i64 (n:Int),key] w fun e w'=>∃of:Sl,e= .returned (.tuple #[of.v,.int .i64 (((aL k n).length:Nat):Int)])∧of.n=n∧w'.ownsRow w.heap.size aT 1 of.v of.n (((List.range n).map fun i=>((clsOf k i:Nat):Int)).flatMap an)∧ZH w w':=by
 refine aV (BL n key w) ?_;refine⟨_,_,fR _,?_⟩;have R:=ah w (.map #[] 0);have N:bJ di (w.alloc (.map #[] 0)) w.heap.size (jt k 0):=ip w;obtain⟨w1,r⟩:∃w1,w1=w.alloc (.map #[] 0):=⟨_,rfl⟩;rw [←r]at R N;rw [←r];refine⟨some (nb w1),n,n,_,jX w1 n (by omega),?_⟩;have D:=ah w1 (.cells (Array.replicate n (.int .i64 0)) aT);obtain⟨f,U⟩:∃f:Nat→Int,f=fun i=>((clsOf k i:Nat):Int):=⟨_,rfl⟩;have X:=rV (enc:=an) (0:Int) (.int .i64 0) rfl aT f w1 (n:=n) (by omega);obtain⟨l,B⟩:∃l:Sl,l=⟨some (nb w1),n,n⟩:=⟨_,rfl⟩;have o:l.n=n:=by subst B;rfl
 have L:l.a=some (nb w1):=by subst B;rfl
 obtain⟨w2,s⟩:∃w2,w2=w1.alloc (.cells (Array.replicate n (.int .i64 0)) aT):=⟨_,rfl⟩;rw [←s]at D X;rw [←s];have s1:w.heap.size<w1.heap.size:=N.lt;intro I T;have key:=aZ (α:=World) n (fun i q=>q.ownsRow w1.heap.size aT 1 l.v l.n ((part 0 f n i).flatMap an)∧bJ di q w.heap.size (jt k i)∧ZH w q) (fun i q=>I [.int .i64 (i:Int)] q) w2 ⟨by subst B;exact X,N.on D,ae R D⟩ ?_ ?_
 ·exact key
 ·rintro i K ih q ⟨C,M,y⟩;refine T _ _ (ac.yes (XJ (by omega)) ((his i K q y).mono ?_));rintro e Q ⟨rfl,E⟩;have m:=ae y E;have g:=aE C E;have b:=M.on E;have a:=eL mP fk en b (k i);rw [mg]at a;refine⟨_,rfl,?_⟩;have next:∀(z:World),z.ownsRow w1.heap.size aT 1 l.v l.n ((part 0 f n i).flatMap an)→bJ di z w.heap.size (jt k (i+1))→ZH w z→
    ag (some (nb w1)) (fun P=>(0:Int)≤(i:Int)∧(i:Int) < ((n:Nat):Int)∧
     (Value.int .i64 ((clsOf k i:Nat):Int)).oneCell'=true∧(∃u,z.cell? (P.add ((i:Int).toNat*1))=some u)∧z.frozen? (P.add ((i:Int).toNat*1))=false∧
     ∀x:World,x=(z.setCell (P.add ((i:Int).toNat*1)) (Value.int .i64 ((clsOf k i:Nat):Int)))→
     Ar .i64 ((i:Int)+1) (fun O=>I [Value.int .i64 O] x)):=by
   intro z zo Z zB;obtain⟨u,S,W⟩:=gD (l:=l) (enc:=an) (sz:=1) (fun _=>rfl) (by decide) zo (by rw [dC];exact o) L (jE 0 f K) (k:=0) (by decide) (f i) (.int .i64 (f i)) rfl;rw [aC]at u S W;refine ag.mk _ rfl ⟨by omega,by omega,rfl,u,S,?_⟩;intro x t;rw [show((clsOf k i:Nat):Int)=f i by rw [U]]at t;obtain⟨Y,s7,z7,b7⟩:=W x t;refine Ar.nat (i+1) rfl (by omega) (ih x ⟨?_,Z.same (s7 _ (dh zo Z)),b7 _ _ (by omega) zB⟩);rw [nX (0:Int) f K]at Y;exact Y
  rcases d_ (k:=k) i with⟨c,A,F,G,_⟩ |⟨A,F,G,_⟩
  ·rw [A]at a;refine⟨_,_,Q,a,?_⟩;intro J H;refine ac.no rfl (H _ _ ?_);have:=next Q g (by rw [show jt k (i+1)=jt k i by unfold jt;rw [F]];exact b) m;rw [G]at this;exact this
  ·rw [A]at a;refine⟨_,_,Q,a,?_⟩;intro J H;obtain⟨v,hr,d,p,V,h⟩:=eO mP fk b (k i) (.int .i64 (((jt k i).length:Nat):Int)) (by rw [mg,A];rfl);refine ac.yes rfl ⟨_,_,nR fk b _,v,hr,H _ _ ?_⟩;rw [iT]at d⊢;have:=next v (aN g fun j hj=>p j fun e=>dh g b (by rw [hj,e])) (by rw [CU F];exact d) (h _ _ (XV _) m);rw [G]at this;exact this
 ·rintro q ⟨C,M,y⟩;refine T _ _ (ac.no (XZ (by omega)) ⟨_,_,nR fk M _,l,?_,o,?_,y⟩)
  ·rw [iT];subst B;rfl
  ·rw [sq,U]at C;exact aS C (by omega)
abbrev dO:TypeId:=133
abbrev lm:TypeId:=116
theorem JP:Tryz.prog.underlying lm=some (.slice bQ):=by kernel_rfl
theorem Ho:(Tryz.prog.info? bQ).map (fun i=>(i.zero,i.size,i.bytes))=some (some (.slice none 0 0),1,24):=by kernel_rfl
theorem pd:Du nL 1 lm bQ 24:=⟨fun _=>rfl,by decide,fun x u hu=>by rw [List.mem_singleton.1 hu];rfl,JP,_,Ho,rfl⟩
abbrev gr (l:List Nat):List Value:=(l.map fun i:Nat=>(i:Int)).flatMap an
structure jQ (w:World) (M:Aut) (next good:Sl) (rs:List Sl):Prop where
 onx:w.ownsRow 0 bQ 1 next.v next.n (rs.flatMap nL)
 rl:rs.length=M.N
 each:∀(i:Nat) (r:Sl),rs[i]? =some r→w.ownsRow 0 aT 1 r.v r.n (gr ((List.range M.n).map (M.nxt i)))
 ogd:w.ownsRow 0 bW 1 good.v good.n (((List.range M.N).map M.good).flatMap da)
 ok:M.Ok
theorem jQ.on {w w':World} {M:Aut} {next good:Sl} {rs:List Sl} (h:jQ w M next good rs) (hb:ZH w w'):jQ w' M next good rs:=
 ⟨aE h.onx hb,h.rl,fun i r hr=>aE (h.each i r hr) hb,aE h.ogd hb,h.ok⟩
theorem jQ.touch {w w':World} {M:Aut} {next good:Sl} {rs:List Sl} (h:jQ w M next good rs) {a:Nat} {c:Array Value} (hb:w.heap[a]? =some (.cells c dO (0,0))) (t:aD a w w'):jQ w' M next good rs:=
 ⟨t.own h.onx (az h.onx hb (by decide)),h.rl,fun i r hr=>t.own (h.each i r hr) (az (h.each i r hr) hb (by decide)),t.own h.ogd (az h.ogd hb (by decide)),h.ok⟩
theorem jQ.len {w:World} {M:Aut} {next good:Sl} {rs:List Sl} (h:jQ w M next good rs):next.n=M.N∧good.n=M.N:=by
 have a:=(bO.of_own pd h.onx).n;have b:=(bO.of_own se h.ogd).n;exact⟨by rw [a,h.rl],by simpa using b⟩
theorem jQ.row {w:World} {M:Aut} {next good:Sl} {rs:List Sl} (h:jQ w M next good rs) {i:Nat} (hi:i<M.N):∃(p:Addr) (r:Sl),next.a=some p∧w.cell? (p.add (i*1))=some (.slice r.a r.n r.c)∧r.n=M.n∧Rw an 1 w r.a (((List.range M.n).map (M.nxt i)).map fun i:Nat=>(i:Int)):=by
 have a:=bO.of_own pd h.onx;have b:i<rs.length:=by rw [h.rl];exact hi
 obtain⟨p,e,c⟩:=a_ a.r b (v:=rs[i].v) rfl;have d:=bO.of_own co (h.each i _ (XK b));exact⟨p,rs[i],e,c,by simpa using d.n,d.r⟩
theorem jQ.rowAt {w:World} {M:Aut} {next good:Sl} {rs:List Sl} (h:jQ w M next good rs) {i:Nat} (hi:i<M.N) (hl:i<rs.length):∃p:Addr,next.a=some p∧w.cell? (p.add (i*1))=some (.slice rs[i].a rs[i].n rs[i].c)∧rs[i].n=M.n∧Rw an 1 w rs[i].a (((List.range M.n).map (M.nxt i)).map fun i:Nat=>(i:Int)):=by
 have a:=bO.of_own pd h.onx;obtain⟨p,d,c⟩:=a_ a.r hl (v:=rs[i].v) rfl;have b:=bO.of_own co (h.each i _ (XK hl));exact⟨p,d,c,by simpa using b.n,b.r⟩
theorem jQ.good {w:World} {M:Aut} {next good:Sl} {rs:List Sl} (h:jQ w M next good rs) {i:Nat} (hi:i<M.N):∃p:Addr,good.a=some p∧w.cell? (p.add (i*1))=some (.bool (M.good i)):=by
 have a:=bO.of_own se h.ogd;obtain⟨p,b,c⟩:=a_ a.r (show i< ((List.range M.N).map M.good).length by simpa using hi) (v:=.bool (M.good i)) (by simp [da]);exact⟨p,b,c⟩
theorem iB {w:World} {A:Option Addr} {n:Nat} {f:Nat→Nat} (h:Rw an 1 w A (((List.range n).map f).map fun i:Nat=>(i:Int))) {i:Nat} (hi:i<n):∃p:Addr,A=some p∧w.cell? (p.add (i*1))=some (.int .i64 ((f i:Nat):Int)):=
 a_ h (show i< (((List.range n).map f).map fun i:Nat=>(i:Int)).length by simpa using hi) (v:=.int .i64 ((f i:Nat):Int)) (by simp [an])
theorem lQ {w:World} {a:Nat} {c:Array Value} {fz:Nat×Nat} (h:w.heap[a]? =some (.cells c dO fz)) (j:Nat):w.cell? ((⟨a,0,none⟩:Addr).add j)=c[j]? :=ai _ _ h j
theorem lg (w:World) (a:Nat) {c:Array Value} {fz:Nat×Nat} (h:w.heap[a]? =some (.cells c dO fz)) (next:Sl) (h1:c[1]? =some next.v):
  CP 21 #[.pointer (some ⟨a,0,none⟩)] w fun e w'=>e= .returned (.int .i64 (next.n:Int))∧w'=w:=by
 refine aV (FB (some ⟨a,0,none⟩) w) ?_;exact ac.no rfl (ag.mk _ rfl ⟨_,_,_,by rw [lQ h];exact h1,rfl,rfl⟩)
theorem D3 (w:World) (cb a:Nat) {ec:TypeId} (hc:w.heap[cb]? =some (.cells #[.pointer (some ⟨a,0,none⟩)] ec (0,0))) {c:Array Value} {fz:Nat×Nat} (h:w.heap[a]? =some (.cells c dO fz)) (M:Aut) (next good:Sl) (rs:List Sl) (hM:jQ w M next good rs) (h2:c[2]? =some good.v) (i:Nat) (hi:i<M.N):
  CP 181 #[.int .i64 (i:Int),.pointer (some ⟨cb,0,none⟩)] w fun e w'=>e= .returned (md (M.good i))∧ZH w w':=by
 refine aV (BW i (some ⟨cb,0,none⟩) w) ?_;obtain⟨p,d,b⟩:=hM.good hi;have f:=hM.len.2;exact ag.mk _ rfl ⟨_,bD hc,ag.mk _ rfl ⟨_,_,_,by rw [lQ h];exact h2,ag.mk p d ⟨by omega,by omega,_,b,rfl,Below.refl _ _⟩⟩⟩
theorem Fr (w:World) (ob cb a:Nat) {eo ec:TypeId} (of:Sl) (f:Nat→Nat) (ho:w.heap[ob]? =some (.cells #[of.v] eo (0,0))) (hc:w.heap[cb]? =some (.cells #[.pointer (some ⟨a,0,none⟩)] ec (0,0))) {c:Array Value} {fz:Nat×Nat} (h:w.heap[a]? =some (.cells c dO fz)) (M:Aut) (next good:Sl) (rs:List Sl) (hM:jQ w M next good rs) (h1:c[1]? =some next.v) (hof:w.ownsRow 0 aT 1 of.v of.n (gr ((List.range M.N).map f))) (hn:M.n≤10000) (i:Nat) (hi:i<M.N):
  CP 183 #[.int .i64 (i:Int),.pointer (some ⟨ob,0,none⟩),.pointer (some ⟨cb,0,none⟩)] w fun e w'=>e= .returned (di (M.keyT f i))∧ZH w w':=by
 refine aJ (AV i (some ⟨ob,0,none⟩) (some ⟨cb,0,none⟩) w (fun u w'=>u=di (M.keyT f i)∧ZH w w') ?_) (by rintro v w' ⟨rfl,h⟩;exact⟨rfl,h⟩);intro x s;have d:ZH w x:=by subst s;exact aU w
 have b:=bO.of_own co (aE hof d);have l:of.n=((List.range M.N).map f).length:=by simpa using b.n
 have g:=hM.on d;obtain⟨p,D,A⟩:=iB b.r hi;obtain⟨G,r,q,B,m,E⟩:=g.row hi;have C:=g.len.1;have j:((List.range M.N).map f).length=M.N:=by simp
 have n:(M.n=((List.range M.n).map (M.nxt i)).length):=by simp
 refine ag.mk _ rfl ⟨_,_,_,bD (aj d ho),ag.mk p D ⟨by omega,by omega,_,A,ag.mk _ rfl ⟨_,bD (aj d hc),ag.mk _ rfl ⟨_,_,_,by rw [lQ (aj d h)];exact h1,ag.mk G q ⟨by omega,by omega,_,_,_,B,ag.mk _ rfl ⟨_,_,_,bD (aj d ho),?_⟩⟩⟩⟩⟩⟩;have t:=zs x (f i) r.a of.a r.c of.c ((List.range M.n).map (M.nxt i)) ((List.range M.N).map f) E b.r (by
  intro y F;obtain⟨k,o,rfl⟩:=List.mem_map.1 F;rw [j];exact hM.ok.lt _ _ hi (List.mem_range.1 o)) (by simp;exact hn)
 rw [←n, ←l, ←m]at t;refine t.mono ?_;rintro e H ⟨rfl,z⟩;refine⟨_,rfl,?_,ae d z⟩;show Value.string (str _)=Value.string (str _);congr 2;unfold Aut.keyT;congr 2;rw [m,List.map_map];apply List.map_congr_left;intro k o;show((List.range M.N).map f).getD (M.nxt i k) 0=f (M.nxt i k);have:=hM.ok.lt _ _ hi (List.mem_range.1 o);simp [List.getD,this]
set_option maxHeartbeats 1000000 in
theorem zu (w:World) (a:Nat) (c:Array Value) (h:w.heap[a]? =some (.cells c dO (0,0))) (hs:c.size=7) (M:Aut) (next good:Sl) (rs:List Sl) (hM:jQ w M next good rs) (h1:c[1]? =some next.v) (h2:c[2]? =some good.v) (hN:M.N≤10000) (hn:M.n≤10000):
  CP 125 #[.pointer (some ⟨a,0,none⟩)] w fun e w'=>e= .returned (.tuple #[])∧∃(of:Sl) (f:Nat→Nat),w'.heap[a]? =some (.cells (c.setIfInBounds 6 of.v) dO (0,0))∧Aut.Cls M f∧of.n=M.N∧w'.ownsRow w.heap.size aT 1 of.v of.n (gr ((List.range M.N).map f))∧aD a w w':=by
 refine aV (BZ (some ⟨a,0,none⟩) w) ?_;intro w1 O;have S:ZH w w1:=by subst O;exact ah _ _
 have T:w1.heap[w.heap.size]? =some (.cells #[.pointer (some ⟨a,0,none⟩)] 46 (0,0)):=by subst O;exact aq _ _
 have lt1:=(XY.1 T).1;have hal:a<w.heap.size:=(XY.1 h).1;have C:=hM.ok;obtain⟨K,hgl⟩:=hM.len;refine⟨_,bD T,(lg w1 a (aj S h) next h1).mono ?_⟩;rintro e w2 ⟨rfl,rfl⟩;rw [K];refine⟨_,rfl,(zF w2 M.N _ M.good hN fun i hi q F=>b_ (by kernel_rfl) (D3 q w.heap.size a (aj F T) (aj F (aj S h)) M next good rs ((hM.on S).on F) h2 i hi)).mono ?_⟩;rintro e u ⟨of,rfl,y,j,b3⟩;have Z:=ae S b3;have c3:=aj b3 T;refine⟨_,_,_,_,rfl,?_⟩;intro w4 hw4;refine iC hw4 rfl ?_;intro w5 o5 V;have a0:=ae Z V;have c5:=aj V c3;have lt3:w.heap.size<u.heap.size:=(XY.1 c3).1;intro I hI;have G:∀(q:World) (of:Sl) (f:Nat→Nat),q.ownsRow w.heap.size aT 1 of.v of.n (((List.range M.N).map fun i=>((f i:Nat):Int)).flatMap an)→q.ownsRow w.heap.size aT 1 of.v of.n (gr ((List.range M.N).map f)):=by
  intro q of f h;unfold gr;rw [List.map_map];exact h
 have m:∀(r:Nat) (q:World) (of:Sl),q.heap[u.heap.size]? =some (.cells #[of.v] bQ (0,0))→q.ownsRow w.heap.size aT 1 of.v of.n (gr ((List.range M.N).map (M.ofR r)))→ZH w q→q.heap[w.heap.size]? =some (.cells #[.pointer (some ⟨a,0,none⟩)] 46 (0,0))→
   (M.cntR (r+1)≠M.cntR r→∀(D:World) (b:Sl),D.heap[u.heap.size]? =some (.cells #[b.v] bQ (0,0))→D.ownsRow w.heap.size aT 1 b.v b.n (gr ((List.range M.N).map (M.ofR (r+1))))→ZH w D→D.heap[w.heap.size]? =some (.cells #[.pointer (some ⟨a,0,none⟩)] 46 (0,0))→I [.int .i64 ((M.cntR (r+1):Nat):Int)] D)→I [.int .i64 ((M.cntR r:Nat):Int)] q:=by
  intro r q of E j v g A;have F:=aj v h;have Y:=hM.on v;refine hI _ _ ⟨_,bD g,(lg q a F next h1).mono ?_⟩;rintro e q1 ⟨rfl,rfl⟩;rw [K];refine⟨_,rfl,(Dc q1 M.N _ (M.keyT (M.ofR r)) hN fun i hi z P=>b_ (by kernel_rfl) (Fr z u.heap.size w.heap.size a of (M.ofR r) (aj P E) (aj P g) (aj P F) M next good rs (Y.on P) h1 (aS (aE j P) (Nat.zero_le _)) hn i hi)).mono ?_⟩;rintro e q2 ⟨b,rfl,y,N,U⟩;have X:=ae v U;have o:=aj U E;have x:=G _ _ _ (aS N (show w.heap.size≤_ from v.size));refine⟨_,_,_,_,rfl,rfl,⟨_,bD o⟩,cd o,?_⟩;intro R s;have L:R.heap[u.heap.size]? =some (.cells #[b.v] bQ (0,0)):=by subst s;exact cf o b.v
  have B:ZH w R:=by subst s;exact X.setCell (p:=⟨u.heap.size,0,none⟩) (by show w.heap.size≤u.heap.size;omega) _
  have l:R.ownsRow w.heap.size aT 1 b.v b.n (gr ((List.range M.N).map (M.ofR (r+1)))):=by subst s;exact bw x _ (az x o (by decide))
  have H:R.heap[w.heap.size]? =some (.cells #[.pointer (some ⟨a,0,none⟩)] 46 (0,0)):=by
   subst s;rw [ar (show w.heap.size≠u.heap.size by omega)];exact aj U g
  have J:(aL (M.keyT (M.ofR r)) M.N).length=M.cntR (r+1):=rfl;rw [J];by_cases he:M.cntR (r+1)=M.cntR r
  ·have n:=aj B h;have W:((⟨a,0,none⟩:Addr).add 3).add 3=(⟨a,0,none⟩:Addr).add 6:=by rw [Addr.add_add]
   refine ac.yes (by rw [he];simp) ⟨_,bD H,_,_,_,bD L,ag.mk _ rfl ⟨rfl,⟨c[6]'(by omega),by rw [W,aF n,Array.getElem?_eq_getElem (by omega)]⟩,by rw [W];exact bc n,?_⟩⟩;intro q4 t;rw [W]at t;refine⟨rfl,b,M.ofR (r+1),by subst t;exact bu n _,Aut.cls_done C he,y,?_,?_⟩
   ·subst t;exact bw l _ (by rw [ay];exact az l n (by decide))
   ·refine(aD.of_below B).trans ?_;subst t;exact⟨rfl,rfl,rfl,by rw [ba];exact XV _,fun k _ hk=>ar (by rw [ay];exact hk)⟩
  ·refine ac.no (by simp;omega) (A he R b L l B H)
 have Q:∀(d r:Nat) (q:World) (of:Sl),M.N-M.cntR r≤d→q.heap[u.heap.size]? =some (.cells #[of.v] bQ (0,0))→q.ownsRow w.heap.size aT 1 of.v of.n (gr ((List.range M.N).map (M.ofR r)))→ZH w q→q.heap[w.heap.size]? =some (.cells #[.pointer (some ⟨a,0,none⟩)] 46 (0,0))→I [.int .i64 ((M.cntR r:Nat):Int)] q:=by
  intro d;induction d with
  |zero=>
   intro r q of hd E j v g;refine m r q of E j v g fun hne=>?_;have:=Aut.cntR_mono C r;have:=Aut.cntR_le (M:=M) (r+1);omega
  |succ d ihd=>
   intro r q of hd E j v g;refine m r q of E j v g fun hne D b h1 h2 h3 h4=>ihd (r+1) D b ?_ h1 h2 h3 h4;have:=Aut.cntR_mono C r;have:=Aut.cntR_le (M:=M) (r+1);omega
 exact Q M.N 0 w5 of (by omega) o5 (G _ _ _ (aS (aE j V) (by omega))) a0 c5
set_option maxHeartbeats 1600000 in
theorem yy (v:Nat) (w:World) (K:World→Prop)
  (hfind:CP 125 #[.pointer (some ⟨v,0,none⟩)] (w.setCell ⟨v,4,none⟩ (.int .i32 1)) fun e w'=>e= .returned (.tuple #[])∧K w')
  (hK:∀w',K w'→w'.cell? ⟨v,3,none⟩=some (.int .u32 0)∧w'.frozen? ⟨v,3,none⟩=false∧w'.cell? ⟨v,4,none⟩=some (.int .i32 1)∧w'.frozen? ⟨v,4,none⟩=false)
  (h0:w.cell? ⟨v,3,none⟩=some (.int .u32 0)) (h1:w.cell? ⟨v,4,none⟩=some (.int .i32 0)) (f0:w.frozen? ⟨v,3,none⟩=false) (f1:w.frozen? ⟨v,4,none⟩=false):
  CP 162 #[.pointer (some ⟨v,3,none⟩),.func (.func 125) #[.pointer (some ⟨v,0,none⟩)] #[]] w fun e w'=>e= .returned (.tuple #[])∧∃w2,K w2∧w'=(w2.drew.setCell ⟨v,3,none⟩ (.int .u32 1)).setCell ⟨v,4,none⟩ (.int .i32 0):=by
 have l:=run_call_load (P:=Tryz.prog) Tryz.func206 (by kernel_rfl) (by kernel_rfl) (by kernel_rfl) .u32 (by kernel_rfl) (w:=w.setCell ⟨v,4,none⟩ (.int .i32 1)) (a:=⟨v,3,none⟩) (x:=0) ((World.cell?_setCell_other _ ⟨v,4,none⟩ ⟨v,3,none⟩ _ (by simp)).trans h0);have d:∀(x:Bool) (w:World),(Op.unary .not (.bool x)).run Tryz.prog w= .ok (.bool (!x)) w:=fun _ _=>rfl
 go_enter_defers Tryz.func162,Tryz.ntmps162
 go_wp2_with (go_at_call 207;refine(ve ⟨v,4,none⟩ _ (by go_simp) (by go_simp)).mono ?_;rintro e w' ⟨rfl,rfl⟩)
 go_wp2_with (first |(go_at_call 125;refine hfind.mono ?_;rintro e w' ⟨rfl,c⟩) |go_in)
 obtain⟨g,h,i,j⟩:=hK _ c;refine leaves_cons (f:=209) (args:=#[.pointer (some ⟨v,3,none⟩),.bool true]) (by simp) (by simp [go_sem]) ?_;refine(uo ⟨v,3,none⟩ (.int .u32 0) .returning _ g h).mono ?_;rintro e k b ⟨rfl,rfl,rfl⟩;refine leaves_cons (f:=208) (args:=#[.pointer (some ⟨v,4,none⟩)]) (by simp [settle]) (by simp [go_sem]) ?_;refine(qe ⟨v,4,none⟩ _ _ ?_ ?_).mono ?_
 ·refine(World.cell?_setCell_other _ ⟨v,3,none⟩ ⟨v,4,none⟩ _ (by simp)).trans ?_;rw [World.cell?_drew];exact i
 ·simp [j]
 rintro e k b ⟨rfl,rfl,rfl⟩;simp [Leaves,settle,results,Tryz.results162];exact⟨_,c,rfl⟩
set_option maxHeartbeats 1600000 in
theorem HD (v:Nat) (w:World) (K:World→Prop)
  (hfind:CP 125 #[.pointer (some ⟨v,0,none⟩)] (w.setCell ⟨v,4,none⟩ (.int .i32 1)) fun e w'=>e= .returned (.tuple #[])∧K w')
  (hK:∀w',K w'→w'.cell? ⟨v,3,none⟩=some (.int .u32 0)∧w'.frozen? ⟨v,3,none⟩=false∧w'.cell? ⟨v,4,none⟩=some (.int .i32 1)∧w'.frozen? ⟨v,4,none⟩=false)
  (h0:w.cell? ⟨v,3,none⟩=some (.int .u32 0)) (h1:w.cell? ⟨v,4,none⟩=some (.int .i32 0)) (f0:w.frozen? ⟨v,3,none⟩=false) (f1:w.frozen? ⟨v,4,none⟩=false):
  CP 107 #[.pointer (some ⟨v,3,none⟩),.func (.func 125) #[.pointer (some ⟨v,0,none⟩)] #[]] w fun e w'=>e= .returned (.tuple #[])∧∃w2,K w2∧w'=(w2.drew.setCell ⟨v,3,none⟩ (.int .u32 1)).setCell ⟨v,4,none⟩ (.int .i32 0):=by
 have c:=run_call_load (P:=Tryz.prog) Tryz.func206 (by kernel_rfl) (by kernel_rfl) (by kernel_rfl) .u32 (by kernel_rfl) h0;have a:∀(x:Bool) (w:World),(Op.unary .not (.bool x)).run Tryz.prog w= .ok (.bool (!x)) w:=fun _ _=>rfl
 go_enter Tryz.func107,Tryz.ntmps107
 go_wp2_with (first |(go_at_call 162;refine(yy v w K hfind hK h0 h1 f0 f1).mono ?_;rintro e w' ⟨rfl,b⟩) |(go_at_call 161;go_in))
 go_end0
 exact⟨rfl,b⟩
abbrev xp (g:Nat) (next good:Sl) (d l:Int) (of:Sl):Array Value:=#[.pointer (some ⟨g,0,none⟩),next.v,good.v,.int .u32 d,.int .i32 l,.int .u32 0,of.v]
def lH (w:World) (a g:Nat) (M:Aut) (o:Option (Nat→Nat)):Prop:=∃(next good of:Sl) (rs:List Sl) (d:Int),w.heap[a]? =some (.cells (xp g next good d 0 of) dO (0,0))∧jQ w M next good rs∧(match o with
 |none=>d=0∧of=cW
 |some f=>d=1∧Aut.Cls M f∧of.n=M.N∧w.ownsRow 0 aT 1 of.v of.n (gr ((List.range M.N).map f)))
def jK (w:World) (a g:Nat) (M:Aut):Prop:=∃o,lH w a g M o
theorem lH.on {w w':World} {a g:Nat} {M:Aut} {o:Option (Nat→Nat)} (h:lH w a g M o) (hb:ZH w w'):lH w' a g M o:=by
 obtain⟨next,b,j,k,d,e,i,c⟩:=h;refine⟨next,b,j,k,d,aj hb e,i.on hb,?_⟩;cases o with
 |none=>exact c
 |some f=>exact⟨c.1,c.2.1,c.2.2.1,aE c.2.2.2 hb⟩
theorem jK.on {w w':World} {a g:Nat} {M:Aut} (h:jK w a g M) (hb:ZH w w'):jK w' a g M:=by
 obtain⟨o,h⟩:=h;exact⟨o,h.on hb⟩
theorem lH.lt {w:World} {a g:Nat} {M:Aut} {o:Option (Nat→Nat)} (h:lH w a g M o):a<w.heap.size:=by
 obtain⟨next,b,e,f,d,c,_⟩:=h;exact(XY.1 c).1
theorem lH.typed {w:World} {a g:Nat} {M:Aut} {o:Option (Nat→Nat)} (h:lH w a g M o):∃c,w.heap[a]? =some (.cells c dO (0,0)):=by
 obtain⟨next,b,f,i,d,e,_⟩:=h;exact⟨_,e⟩
theorem N_ {w:World} {a:Nat} {c:Array Value} (h:w.heap[a]? =some (.cells c dO (0,0))) (j:Nat) (u:Value):
  (w.setCell ⟨a,j,none⟩ u).heap[a]? =some (.cells (c.setIfInBounds j u) dO (0,0))∧aD a w (w.setCell ⟨a,j,none⟩ u):=
 ⟨cf h u,⟨rfl,rfl,rfl,by rw [ba];exact XV _,fun k _ hk=>ar hk⟩⟩
theorem Fk (w:World) (a g:Nat) (M:Aut) (o:Option (Nat→Nat)) (h:lH w a g M o) (hN:M.N≤10000) (hn:M.n≤10000):
  CP 73 #[.pointer (some ⟨a,0,none⟩)] w fun e w'=>∃(of:Sl) (f:Nat→Nat),e= .returned of.v∧(∀f0,o=some f0→f=f0∧w'=w)∧of.n=M.N∧Rw an 1 w' of.a (((List.range M.N).map f).map fun i:Nat=>(i:Int))∧lH w' a g M (some f)∧aD a w w':=by
 obtain⟨next,k,of,L,d,b,I,K⟩:=h;refine aJ (DN (some ⟨a,0,none⟩) w (fun u w'=>∃(of:Sl) (f:Nat→Nat),u=of.v∧(∀f0,o=some f0→f=f0∧w'=w)∧of.n=M.N∧Rw an 1 w' of.a (((List.range M.N).map f).map fun i:Nat=>(i:Int))∧lH w' a g M (some f)∧aD a w w') ?_) (by rintro v w' ⟨of,f,rfl,h⟩;exact⟨of,f,rfl,h⟩);have S:((⟨a,0,none⟩:Addr).add 3).add 0=⟨a,3,none⟩:=by rw [aG,aG]
 have T:((⟨a,0,none⟩:Addr).add 3).add 3=(⟨a,0,none⟩:Addr).add 6:=by rw [Addr.add_add]
 have p:∀ {w':World} {c:Array Value},w'.heap[a]? =some (.cells c dO (0,0))→∀j,w'.cell? ⟨a,j,none⟩=c[j]? :=fun h j=>aQ h;have C:∀ {w':World} {c:Array Value},w'.heap[a]? =some (.cells c dO (0,0))→∀j,w'.frozen? ⟨a,j,none⟩=false:=fun h j=>cd h;refine ag.mk _ rfl ?_;rw [S];have r:∀(m:World) (l:Sl) (f:Nat→Nat),(∀f0,o=some f0→f=f0∧m=w)→m.heap[a]? =some (.cells (xp g next k 1 0 l) dO (0,0))→Aut.Cls M f→l.n=M.N→m.ownsRow 0 aT 1 l.v l.n (gr ((List.range M.N).map f))→aD a w m→
   ag (some ⟨a,0,none⟩) (fun B=>∃lA:Option Addr,∃lN:Nat,∃lC:Nat,m.cell? ((B.add 3).add 3)=some (Value.slice lA lN lC)∧
    (∃(of:Sl) (f:Nat→Nat),Value.slice lA lN lC=of.v∧(∀f0,o=some f0→f=f0∧m=w)∧of.n=M.N∧Rw an 1 m of.a (((List.range M.N).map f).map fun i:Nat=>(i:Int))∧lH m a g M (some f)∧aD a w m)):=by
  intro m l f U J z x n t;exact ag.mk _ rfl ⟨_,_,_,by rw [T,lQ J];rfl,l,f,rfl,U,x,(bO.of_own co n).r,⟨next,k,l,L,1,J,I.touch b t,rfl,z,x,n⟩,t⟩
 cases o with
 |none=>
  obtain⟨rfl,rfl⟩:=K;obtain⟨Q,N⟩:=N_ b 4 (.int .i32 1);have D:=I.touch b N;refine(HD a w (fun w'=>∃(of:Sl) (f:Nat→Nat),w'.heap[a]? =some (.cells (((xp g next k 0 0 cW).setIfInBounds 4 (.int .i32 1)).setIfInBounds 6 of.v) dO (0,0))∧Aut.Cls M f∧of.n=M.N∧w'.ownsRow (w.setCell ⟨a,4,none⟩ (.int .i32 1)).heap.size aT 1 of.v of.n (gr ((List.range M.N).map f))∧aD a (w.setCell ⟨a,4,none⟩ (.int .i32 1)) w') (zu _ a _ Q rfl M next k L D rfl rfl hN hn) ?_ (p b 3) (p b 4) (C b 3) (C b 4)).mono ?_
  ·rintro w' ⟨s,f,q,_⟩;exact⟨p q 3,C q 3,p q 4,C q 4⟩
  ·rintro e m ⟨rfl,G,⟨s,f,y,z,x,A,X⟩,F⟩;refine⟨rfl,?_⟩;have E:G.drew.heap[a]? =some (.cells (((xp g next k 0 0 cW).setIfInBounds 4 (.int .i32 1)).setIfInBounds 6 s.v) dO (0,0)):=y;obtain⟨R,W⟩:=N_ E 3 (.int .u32 1);obtain⟨H,O⟩:=N_ R 4 (.int .i32 0);rw [←F]at H O;have P:aD a G m:=((aD.of_below (aU G)).trans W).trans O;exact r m s f (fun f0 h=>by cases h) H z x (P.own (aS A (Nat.zero_le _)) (az A y (by decide))) ((N.trans X).trans P)
 |some f=>
  obtain⟨rfl,z,x,n⟩:=K;refine(vl ⟨a,3,none⟩ 1 (by decide) _ w (p b 3)).mono ?_;rintro e m ⟨rfl,V⟩;subst V;exact⟨rfl,r m of f (fun f0 h=>by cases h;exact⟨rfl,rfl⟩) b z x n (aD.of_below (Below.refl _ _))⟩
theorem lH.blk {w:World} {a g:Nat} {M:Aut} {o:Option (Nat→Nat)} (h:lH w a g M o):∃(next good of:Sl) (rs:List Sl) (d:Int),w.heap[a]? =some (.cells (xp g next good d 0 of) dO (0,0))∧jQ w M next good rs:=by
 obtain⟨next,good,of,rs,d,b,c,_⟩:=h;exact⟨next,good,of,rs,d,b,c⟩
theorem wE (w:World) (a g:Nat) (M:Aut) (h:jK w a g M):
  CP 21 #[.pointer (some ⟨a,0,none⟩)] w fun e w'=>e= .returned (.int .i64 (M.N:Int))∧w'=w:=by
 obtain⟨o,h⟩:=h;obtain⟨next,b,i,j,d,c,f⟩:=h.blk;have:=lg w a c next rfl;rw [f.len.1]at this;exact this
theorem GV (w:World) (a g:Nat) (M:Aut) (h:jK w a g M) (x:Int):
  CP 77 #[.pointer (some ⟨a,0,none⟩),.int .i64 x] w fun e w'=>e= .returned (.bool (decide (0≤x∧x< (M.N:Int))))∧w'=w:=by
 refine aV (DM (some ⟨a,0,none⟩) x w) ?_;refine ac.mk (fun b=>(wE w a g M h).mono ?_) fun b=>⟨?_,rfl⟩
 ·rintro e d ⟨rfl,c⟩;have b:=XQ b;refine⟨_,rfl,?_,c⟩;rw [decide_eq_decide.2 (show x< (M.N:Int)↔0≤x∧x< (M.N:Int)from⟨fun h=>⟨b,h⟩,fun h=>h.2⟩)]
 ·have b:=XX b;rw [XZ fun h=>b h.1]
open Aut (metF metL scan visit)
abbrev Td:TypeId:=108
theorem xd:Tryz.prog.underlying Td=some (.map aT aT):=by kernel_rfl
def tY (f:Nat→Nat) (l:List Nat):List (Int×Value):=l.zipIdx.map fun x=>(((f x.1:Nat):Int),.int .i64 (x.2:Int))
theorem Hr (f:Nat→Nat) (l:List Nat) (x:Nat):tY f (l++ [x])=tY f l++ [(((f x:Nat):Int),.int .i64 (l.length:Int))]:=by simp [tY,List.zipIdx_append]
theorem py (f:Nat→Nat) (l:List Nat) (x:Nat):e_ ((x:Nat):Int) (tY f l)=((l.map f).idxOf? x).map fun i:Nat=>Value.int .i64 (i:Int):=by
 have:=gC (fun s:Nat=>((f s:Nat):Int)) ((x:Nat):Int) l 0;simp only [Nat.zero_add]at this;rw [show e_ ((x:Nat):Int) (tY f l)=_ from this];congr 1;have a:∀l:List Nat,(l.map fun s:Nat=>((f s:Nat):Int)).idxOf? ((x:Nat):Int)=(l.map f).idxOf? x:=by
  intro l;induction l with
  |nil=>rfl
  |cons y l ih=>
   simp only [List.map_cons,List.idxOf?_cons,ih];by_cases h:f y=x
   ·simp [h]
   ·simp [h];omega
 exact a l
theorem uX (l:List Nat) (x:Nat):gr (l++ [x])=((l.map fun i:Nat=>(i:Int))++ [((x:Nat):Int)]).flatMap an:=by simp [gr]
theorem Io (w:World) (a:Nat) {c:Array Value} (h:w.heap[a]? =some (.cells c dO (0,0))) (M:Aut) (next good:Sl) (rs:List Sl) (hM:jQ w M next good rs) (h1:c[1]? =some next.v) (hN:M.N≤10000) (hn:M.n≤10000) (cb:Value) (f:Nat→Nat) (hf:∀i,i<M.N→f i<M.N)
  (his:∀s,s<M.N→∀w1,ZH w w1→bM gq cb [.int .i64 (s:Int)] w1 (fun e w2=>e= .returned (.int .i64 ((f s:Nat):Int))∧w2=w1)):
  CP 74 #[.pointer (some ⟨a,0,none⟩),cb] w fun e w'=>∃(l:Sl) (m:Nat),e= .returned (.tuple #[l.v,.map (some m)])∧l.n=(metL M f).length∧w'.ownsRow w.heap.size aT 1 l.v l.n (gr (metL M f))∧bJ eu w' m (tY f (metL M f))∧ZH w w':=by
 refine aV (DF (some ⟨a,0,none⟩) cb w) ?_;have t:=hM.ok;intro w1 R;have b1:ZH w w1:=by subst R;exact ah _ _
 have o1:w1.ownsRow w.heap.size aT 1 (.slice (some (nb w)) 1 1) 1 (gr [0]):=by subst R;exact iG _ rfl (by decide) (XV _)
 have lt1:w.heap.size<w1.heap.size:=by subst R;rw [aK];omega
 refine⟨_,_,fR _,?_⟩;have b2:=ah w1 (.map #[] 0);have m2:bJ eu (w1.alloc (.map #[] 0)) w1.heap.size ([]:List (Int×Value)):=ip w1;obtain⟨w2,hw2⟩:∃w2,w2=w1.alloc (.map #[] 0):=⟨_,rfl⟩;rw [←hw2]at b2 m2;rw [←hw2];have X:=ae b1 b2;refine(his 0 t.pos w2 X).mono ?_;rintro e w3 ⟨rfl,rfl⟩;obtain⟨w4,hr4,m4,hs4,hz4,hB4⟩:=eO oD xd m2 ((f 0:Nat):Int) (.int .i64 0) rfl;refine⟨_,rfl,w4,hr4,?_⟩;have o4:w4.ownsRow w.heap.size aT 1 (.slice (some (nb w)) 1 1) 1 (gr [0]):=aN (aE o1 b2) fun k Y=>hs4 k (fun e=>dh (aE o1 b2) m2 (by rw [Y,e]));have hb4:=hB4 _ _ (Nat.le_of_lt lt1) X;intro I hI;have hln:=hM.len.1;have S:∀(i s:Nat) (L:List Nat),(metF M f i)[i]? =some s→L=metF M f i→s<M.N→∀(q:World) (l:Sl),q.ownsRow w.heap.size aT 1 l.v l.n (gr L)→l.n=L.length→bJ eu q w1.heap.size (tY f L)→ZH w q→
   (∀(T:World) (b:Sl),T.ownsRow w.heap.size aT 1 b.v b.n (gr (metF M f (i+1)))→b.n=(metF M f (i+1)).length→bJ eu T w1.heap.size (tY f (metF M f (i+1)))→ZH w T→I [.int .i64 ((i+1:Nat):Int),b.v] T)→i≤10000→I [.int .i64 (i:Int),l.v] q:=by
  intro i s L hs hL G q l F D E H U hi4;have Z:=(List.getElem?_eq_some_iff.1 hs).1;rw [←hL]at hs Z;have a2:s<rs.length:=by rw [hM.rl];exact G
  have few:∀k,k≤M.n→(scan M f L s k).length≤M.N:=by
   intro k Y;have p1:=(Aut.scan_mono (M:=M) f L s k (M.n-k)).length_le;rw [show k+(M.n-k)=M.n by omega]at p1;have p2:=Aut.met_few t hf (i+1);rw [metF, ←hL,hs]at p2;exact XW p1 p2
  refine hI _ l.a l.n l.c q (ac.yes (XJ (by omega)) ?_);intro q1 hq1;have bq:ZH q q1:=by subst hq1;exact aU q
  have O:=ae H bq;have a0:=aE F bq;have hMq:=hM.on O;have hls:=bO.of_own co (xs:=L.map fun i:Nat=>(i:Int)) a0;have hsv:L[i]=s:=(List.getElem?_eq_some_iff.1 hs).2;obtain⟨p,hp,c0⟩:=a_ hls.r (show i< (L.map fun i:Nat=>(i:Int)).length by simpa using Z) (v:=.int .i64 ((s:Nat):Int)) (by simp [an,hsv]);obtain⟨p2,hp2,c2,hrn,_⟩:=hMq.rowAt G a2;refine ag.mk _ rfl ⟨_,_,_,by rw [lQ (aj O h)];exact h1,ag.mk p hp ⟨by omega,by omega,_,c0,ag.mk p2 hp2 ⟨by omega,by omega,_,_,_,c2,?_⟩⟩⟩;intro I2 W;have key:=aZ (α:=Sl×World) M.n (fun k y=>y.2.ownsRow w.heap.size aT 1 y.1.v y.1.n (gr (scan M f L s k))∧y.1.n=(scan M f L s k).length∧bJ eu y.2 w1.heap.size (tY f (scan M f L s k))∧ZH w y.2) (fun k y=>I2 [.int .i64 (k:Int),y.1.v] y.2) (l,q1) ⟨a0,D,E.on bq,O⟩ ?_ ?_
  ·exact key
  ·rintro k Y ih ⟨b,z⟩ ⟨u,o,r,g⟩;change z.ownsRow w.heap.size aT 1 b.v b.n _ at u;change b.n=_ at o;change bJ eu z _ _ at r;change ZH w z at g;obtain⟨_,_,_,_,hrr⟩:=(hM.on g).rowAt G a2;obtain⟨p3,hp3,c3⟩:=iB hrr Y;have hx:=t.lt s k G Y;obtain⟨x,hxe⟩:∃x,x=M.nxt s k:=⟨_,rfl⟩;rw [←hxe]at c3 hx;have hfew:=few k (by omega);have N:scan M f L s (k+1)=visit f (scan M f L s k) x:=by rw [scan, ←hxe]
   refine W _ b.a b.n b.c z (ac.yes (XJ (by omega)) ?_);intro J hJ;refine ag.mk p3 hp3 ⟨by omega,by omega,_,c3,(his x hx z g).mono ?_⟩;rintro e z1 ⟨rfl,rfl⟩;have A:=eL oD xd en r ((f x:Nat):Int);rw [py]at A;cases hc:((scan M f L s k).map f).idxOf? (f x)with
   |some j=>
    rw [hc]at A;have B:f x∈(scan M f L s k).map f:=by
     have:=List.isSome_idxOf?.1 (show(((scan M f L s k).map f).idxOf? (f x)).isSome=true by rw [hc];rfl);exact this
    have Q:scan M f L s (k+1)=scan M f L s k:=by rw [N,visit,if_pos B]
    exact⟨_,rfl,_,_,z1,A,ac.no rfl (hJ _ _ _ _ (Ar.nat (k+1) rfl (by omega) (ih (b,z1) ⟨by rw [Q];exact u,by rw [Q];exact o,by rw [Q];exact r,g⟩)))⟩
   |none=>
    rw [hc]at A;have B:f x∉(scan M f L s k).map f:=List.idxOf?_eq_none_iff.1 hc;have Q:scan M f L s (k+1)=scan M f L s k++ [x]:=by rw [N,visit,if_neg B]
    refine⟨_,rfl,_,_,z1,A,ac.yes rfl ((his x hx z1 g).mono ?_)⟩;rintro e z2 ⟨rfl,rfl⟩;obtain⟨z3,hr3,P,hs3,hz3,hB3⟩:=eO oD xd r ((f x:Nat):Int) (.int .i64 ((b.n:Nat):Int)) (by rw [py,hc];rfl);have a1:=aN u fun j hj=>hs3 j fun e=>dh u r (by rw [hj,e]);have K:=hB3 _ _ (Nat.le_of_lt lt1) g;refine⟨_,rfl,z3,hr3,?_⟩;intro z4 hz4;obtain⟨C,z5,e1,e2,e3,e4,e5⟩:=co.push (xs:=(scan M f L s k).map fun i:Nat=>(i:Int)) a1 ((x:Nat):Int) hz4 rfl K.size (by omega) (by decide);refine⟨C.a,C.n,C.c,z5,e2,hJ _ _ _ _ (Ar.nat (k+1) rfl (by omega) (ih (C,z5) ⟨?_,?_,?_,e4 _ K⟩))⟩
    ·rw [Q,uX];exact e3
    ·show C.n=_;rw [Q,List.length_append,List.length_singleton,e1,o]
    ·rw [Q,Hr, ←o];exact P.same (e5 _ P.lt (dh a1 P))
  ·rintro⟨b,z⟩ ⟨u,o,r,g⟩;change z.ownsRow w.heap.size aT 1 b.v b.n _ at u;change b.n=_ at o;have n:metF M f (i+1)=scan M f L s M.n:=by rw [metF, ←hL,hs]
   refine W _ b.a b.n b.c z (ac.no (XZ (by omega)) (Ar.nat (i+1) rfl (by omega) (U z b ?_ ?_ ?_ g)))
   ·rw [n];exact u
   ·rw [n];exact o
   ·rw [n];exact r
 have loop:∀(d i:Nat) (q:World) (l:Sl),M.N-i≤d→i≤(metF M f i).length→q.ownsRow w.heap.size aT 1 l.v l.n (gr (metF M f i))→l.n=(metF M f i).length→bJ eu q w1.heap.size (tY f (metF M f i))→ZH w q→I [.int .i64 (i:Int),l.v] q:=by
  have V:∀(i:Nat) (q:World) (l:Sl),(metF M f i).length≤i→q.ownsRow w.heap.size aT 1 l.v l.n (gr (metF M f i))→l.n=(metF M f i).length→bJ eu q w1.heap.size (tY f (metF M f i))→ZH w q→I [.int .i64 (i:Int),l.v] q:=by
   intro i q l hi F D E H;have e:=Aut.met_done t hf hi;rw [e]at F D E;rw [e]at hi;exact hI _ l.a l.n l.c q (ac.no (XZ (by omega)) ⟨l,w1.heap.size,rfl,D,F,E,H⟩)
  intro d;induction d with
  |zero=>
   intro i q l hd hi F D E H;have:=Aut.met_few t hf i;exact V i q l (by omega) F D E H
  |succ d ihd=>
   intro i q l hd hi F D E H;by_cases e:i< (metF M f i).length
   ·have hfe:=Aut.met_few t hf i;refine S i _ _ (XK e) rfl ((Aut.metF_mid t f i).lt _ (List.getElem_mem e)) q l F D E H (fun T b h1 h2 h3 h4=>ihd (i+1) T b (by omega) ?_ h1 h2 h3 h4) (by omega);have:=(Aut.metF_pre (M:=M) f i).length_le;omega
   ·exact V i q l (by omega) F D E H
 exact loop M.N 0 w4 ⟨some (nb w),1,1⟩ (by omega) (Nat.zero_le _) o4 rfl m4 hb4
open Aut (metF metL scan visit)
structure ko (w:World) (B b g:Nat) (M:Aut) (nx gd:Sl) (rs:List Sl) (m j:Nat):Prop where
 blk:w.heap[b]? =some (.cells (xp g nx gd 0 0 cW) dO (0,0))
 onx:w.ownsRow B bQ 1 nx.v nx.n (rs.flatMap nL)
 rl:rs.length=m
 each:∀(i:Nat) (r:Sl),rs[i]? =some r→w.ownsRow B aT 1 r.v r.n (gr ((List.range M.n).map (M.nxt i)))
 ogd:w.ownsRow B bW 1 gd.v gd.n (((List.range j).map M.good).flatMap da)
theorem ko.on {w w':World} {B b g:Nat} {M:Aut} {nx gd:Sl} {rs:List Sl} {m j:Nat} (h:ko w B b g M nx gd rs m j) (hb:ZH w w'):ko w' B b g M nx gd rs m j:=
 ⟨aj hb h.blk,aE h.onx hb,h.rl,fun i r hr=>aE (h.each i r hr) hb,aE h.ogd hb⟩
theorem ko.pushRow {w:World} {B b g:Nat} {M:Aut} {nx gd:Sl} {rs:List Sl} {m j:Nat} (h:ko w B b g M nx gd rs m j) (hBb:B≤b) {r:Sl} (hr:w.ownsRow B aT 1 r.v r.n (gr ((List.range M.n).map (M.nxt m)))) {w1:World} (hw1:w1=w.alloc (.cells #[r.v] bQ)) (hB:B≤w.heap.size) (hm:m≤100000):
  ∃(nx':Sl) (w2:World),(Builtin.append_ #[lm,lm] lm #[.slice nx.a nx.n nx.c,.slice (some (nb w)) 1 1]).run Tryz.prog w1= .ok (.slice nx'.a nx'.n nx'.c) w2∧(∃u,w2.cell? ((⟨b,0,none⟩:Addr).add 1)=some u)∧w2.frozen? ((⟨b,0,none⟩:Addr).add 1)=false∧∀w3,w3=w2.setCell ((⟨b,0,none⟩:Addr).add 1) nx'.v→ko w3 B b g M nx' gd (rs++ [r]) (m+1) j∧(∀w0,Below B w0 w→Below B w0 w3)∧∀ {k:Nat} {c:Array Value} {e:TypeId} {fz:Nat×Nat},w.heap[k]? =some (.cells c e fz)→e≠bQ→e≠dO→w3.heap[k]? =some (.cells c e fz):=by
 have I:=(bO.of_own pd h.onx).n;have y:=h.rl;obtain⟨nx',w2,K,E,D,F,q⟩:=pd.push h.onx r hw1 rfl hB (by omega) (by decide);have p:w2.heap[b]? =some (.cells (xp g nx gd 0 0 cW) dO (0,0)):=(q b (XY.1 h.blk).1 (az h.onx h.blk (by decide))).trans h.blk;refine⟨nx',w2,E,⟨_,by rw [aF p];rfl⟩,bc p,?_⟩;intro w3 f;have z:∀j,j≠b→w3.heap[j]? =w2.heap[j]? :=by
  intro j H;subst f;exact ar (by rw [ay];exact H)
 have d:∀ {B A n:Nat} {e:TypeId} {u:Value} {C:List Value},w.ownsRow B e A u n C→e≠bQ→e≠dO→w3.ownsRow B e A u n C:=by
  intro B A n e u C o s t;refine aN o fun k a=>?_;rw [z k fun e=>az o h.blk t (by rw [a,e])];exact q k (bL o k a).2 (cj o h.onx s k a)
 refine⟨⟨by subst f;exact bu p _,aN D fun k a=>z k fun e=>az D p (by decide) (by rw [a,e]),by simp;omega,?_,d h.ogd (by decide) (by decide)⟩,fun w0 G=>by subst f;exact bv (F _ G) hBb _,?_⟩
 ·intro i J l;by_cases hcl:i<rs.length
  ·rw [List.getElem?_append_left hcl]at l;exact d (h.each i J l) (by decide) (by decide)
  ·have v:i=m:=by
    have:=(List.getElem?_eq_some_iff.1 l).1;simp at this;omega
   subst v;rw [List.getElem?_append_right (by omega),y,Nat.sub_self]at l;cases l;exact d hr (by decide) (by decide)
 ·intro k c e fz a s t;have x:k≠b:=by
   rintro rfl;rw [h.blk]at a;cases a;exact t rfl
  rw [z k x,q k (XY.1 a).1 (az h.onx a fun e=>s e.symm)];exact a
theorem ko.pushGood {w:World} {B b g:Nat} {M:Aut} {nx gd:Sl} {rs:List Sl} {m j:Nat} (h:ko w B b g M nx gd rs m j) (hBb:B≤b) {v:Bool} (hv:v=M.good j) {w1:World} (hw1:w1=w.alloc (.cells #[.bool v] bW)) (hB:B≤w.heap.size) (hj:j≤100000):
  ∃(gd':Sl) (w2:World),(Builtin.append_ #[gh,gh] gh #[.slice gd.a gd.n gd.c,.slice (some (nb w)) 1 1]).run Tryz.prog w1= .ok (.slice gd'.a gd'.n gd'.c) w2∧(∃u,w2.cell? ((⟨b,0,none⟩:Addr).add 2)=some u)∧w2.frozen? ((⟨b,0,none⟩:Addr).add 2)=false∧∀w3,w3=w2.setCell ((⟨b,0,none⟩:Addr).add 2) gd'.v→ko w3 B b g M nx gd' rs m (j+1)∧(∀w0,Below B w0 w→Below B w0 w3):=by
 have o:=(bO.of_own se h.ogd).n;rw [List.length_map,List.length_range]at o;obtain⟨gd',w2,F,y,s,z,t⟩:=se.push h.ogd v hw1 rfl hB (by omega) (by decide);have l:w2.heap[b]? =some (.cells (xp g nx gd 0 0 cW) dO (0,0)):=(t b (XY.1 h.blk).1 (az h.ogd h.blk (by decide))).trans h.blk;refine⟨gd',w2,y,⟨_,by rw [aF l];rfl⟩,bc l,?_⟩;intro w3 c;have x:∀j,j≠b→w3.heap[j]? =w2.heap[j]? :=by
  intro j hj;subst c;exact ar (by rw [ay];exact hj)
 have a:∀ {B p n:Nat} {e:TypeId} {u:Value} {q:List Value},w.ownsRow B e p u n q→e≠bW→e≠dO→w3.ownsRow B e p u n q:=by
  intro B p n e u q f C D;refine aN f fun k d=>?_;rw [x k fun e=>az f h.blk D (by rw [d,e])];exact t k (bL f k d).2 (cj f h.ogd C k d)
 refine⟨⟨by subst c;exact bu l _,a h.onx (by decide) (by decide),h.rl,fun i r E=>a (h.each i r E) (by decide) (by decide),?_⟩,fun w0 A=>by subst c;exact bv (z _ A) hBb _⟩;rw [List.range_succ,List.map_append,List.map_cons,List.map_nil, ←hv];exact aN s fun k d=>x k fun e=>az s l (by decide) (by rw [d,e])
theorem ko.done {w:World} {B b g:Nat} {M:Aut} {nx gd:Sl} {rs:List Sl} (h:ko w B b g M nx gd rs M.N M.N) (hok:M.Ok):lH w b g M none:=
 ⟨nx,gd,cW,rs,0,h.blk,⟨aS h.onx (Nat.zero_le _),h.rl,fun i r hr=>aS (h.each i r hr) (Nat.zero_le _),aS h.ogd (Nat.zero_le _),hok⟩,rfl,rfl⟩
theorem uO (w:World) (ob:Nat) {eo:TypeId} (of:Sl) (f:Nat→Nat) (n:Nat) (ho:w.heap[ob]? =some (.cells #[of.v] eo (0,0))) (hl:of.n=n) (hr:Rw an 1 w of.a (((List.range n).map f).map fun i:Nat=>(i:Int))) (s:Nat) (hs:s<n):
  CP 75 #[.int .i64 (s:Int),.pointer (some ⟨ob,0,none⟩)] w fun e w'=>e= .returned (.int .i64 ((f s:Nat):Int))∧w'=w:=by
 refine aV (Ef s (some ⟨ob,0,none⟩) w) ?_;obtain⟨p,a,c⟩:=iB hr hs;exact ag.mk _ rfl ⟨_,_,_,bD ho,ag.mk p a ⟨by omega,by omega,_,c,rfl,rfl⟩⟩
theorem IN {l:List Nat} {x:Nat} (h:x∈l):l.idxOf? x=some (l.idxOf x):=by
 induction l with
 |nil=>cases h
 |cons y l ih=>
  rw [List.idxOf?_cons,List.idxOf_cons];by_cases e:y=x
  ·simp [e]
  ·have:x∈l:=by
    rcases List.mem_cons.1 h with h |h
    ·exact absurd h.symm e
    ·exact h
   have a:(y==x)=false:=by simpa using e
   simp [a,ih this]
set_option maxHeartbeats 1000000 in
theorem zP (w:World) (a g:Nat) (M:Aut) (o:Option (Nat→Nat)) (h:lH w a g M o) (hN:M.N≤10000) (hn:M.n≤10000):
  CP 16 #[.pointer (some ⟨a,0,none⟩)] w fun e w'=>∃(b:Nat) (f:Nat→Nat),e= .returned (.pointer (some ⟨b,0,none⟩))∧(∀f0,o=some f0→f=f0)∧Aut.Cls M f∧jK w' b g (Aut.least M f)∧lH w' a g M (some f)∧w.heap.size≤b∧aD a w w':=by
 refine aV (DH (some ⟨a,0,none⟩) w) ?_;refine ac.no rfl ((Fk w a g M o h hN hn).mono ?_);rintro e w1 ⟨of,f,rfl,hof,a5,O,hA,t1⟩;have Z:Aut.Cls M f:=by
  obtain⟨_,_,_,_,_,_,_,_,h,_⟩:=hA;exact h
 obtain⟨next,W,of',af,d,B,S⟩:=hA.blk;have F:=S.ok;have hal:=hA.lt;refine⟨_,_,_,rfl,?_⟩;intro w2 hw2;refine iC hw2 rfl ?_;intro w3 o3 U;have hM3:=S.on U;refine(Io w3 a (aj U B) M next W af hM3 rfl hN hn _ f Z.lt fun s T z hz=>b_ (by kernel_rfl) (uO z w1.heap.size of f M.N (aj hz o3) a5 ((O.on U).on hz) s T)).mono ?_;rintro e H ⟨l,m,rfl,hln,hlo,hm,b4⟩;have u:=ae U b4;have hA4:=hA.on u;refine⟨_,_,_,_,rfl,ag.mk _ rfl ⟨_,by rw [lQ (aj u B)];rfl,?_⟩⟩;intro w5 aa;have b5:ZH H w5:=by subst aa;exact ah _ _
 obtain⟨E,C⟩:∃E,E=Aut.least M f:=⟨_,rfl⟩;have a6:E.Ok:=by rw [C];exact Aut.least_ok F Z.lt
 have hN':E.N=(metL M f).length:=by rw [C];rfl
 have hn':E.n=M.n:=by rw [C];rfl
 have a0:=Aut.met_few F Z.lt M.N;change(metL M f).length≤M.N at a0;have Q:ko w5 H.heap.size H.heap.size g E cW cW [] 0 0:=⟨by subst aa;exact aq _ _,bE _ _ _ _ nL,rfl,(by intro i r h;cases h),bE _ _ _ _ da⟩;have hl1:w1.heap.size<H.heap.size:=(XY.1 (aj b4 o3)).1;intro I hI;let Inv (p:Nat) (q:World):Prop:=∃nx gd rs,ko q H.heap.size H.heap.size g E nx gd rs p p∧ZH H q;have key:=aZ (α:=World) E.N Inv (fun p q=>I [.int .i64 (p:Int)] q) w5 ⟨cW,cW,[],Q,b5⟩ ?_ ?_
 ·exact key
 ·rintro p hp ih q ⟨nx,gd,rs,R,K⟩;have L:p< (metL M f).length:=by omega
  obtain⟨s,T⟩:∃s,s=(metL M f)[p]:=⟨_,rfl⟩;have G:s<M.N:=by rw [T];exact(Aut.met_mid F f).lt _ (List.getElem_mem L)
  have a8:(metL M f).getD p 0=s:=by rw [Aut.getD_at L,T]
  have a4:∀k,E.nxt p k=((metL M f).map f).idxOf (f (M.nxt s k)):=by
   intro k;rw [C];show((metL M f).map f).idxOf (f (M.nxt ((metL M f).getD p 0) k))=_;rw [a8]
  have hgd:E.good p=M.good s:=by
   rw [C];show M.good ((metL M f).getD p 0)=_;rw [a8]
  have a2:=(bO.of_own co (xs:=(metL M f).map fun i:Nat=>(i:Int)) hlo).r.on K;obtain⟨p0,hp0,c0⟩:=a_ a2 (show p< ((metL M f).map fun i:Nat=>(i:Int)).length by simpa using L) (v:=.int .i64 ((s:Nat):Int)) (by simp [an,T]);have a7:s<af.length:=by rw [S.rl];exact G
  have Y:=(S.on u).on K;have hbq:=aj K (aj u B);obtain⟨p2,hp2,c2,hrn,_⟩:=Y.rowAt G a7;have hnl:=S.len;refine hI _ _ (ac.yes (XJ (by omega)) (ag.mk p0 hp0 ⟨by omega,by omega,_,c0,ag.mk _ rfl ⟨_,_,_,by rw [lQ hbq];rfl,ag.mk p2 hp2 ⟨by omega,by omega,_,_,_,c2,?_⟩⟩⟩));intro I2 X;have ad:=aZ (α:=Sl×World) M.n (fun k y=>y.2.ownsRow q.heap.size aT 1 y.1.v y.1.n (gr ((List.range k).map (E.nxt p)))∧y.1.n=k∧ZH q y.2) (fun k y=>I2 [.int .i64 (k:Int),y.1.v] y.2) (cW,q) ⟨bE _ _ _ _ an,rfl,Below.refl _ _⟩ ?_ ?_
  ·exact ad
  ·rintro k hk ih2 ⟨t,z⟩ ⟨D,a9,n⟩;change z.ownsRow q.heap.size aT 1 t.v t.n _ at D;change t.n=k at a9;change ZH q z at n;have c:ZH H z:=ae K n;obtain⟨_,_,_,_,hrr⟩:=(Y.on n).rowAt G a7;obtain⟨p3,hp3,c3⟩:=iB hrr hk;obtain⟨x,hx⟩:∃x,x=M.nxt s k:=⟨_,rfl⟩;have hxN:x<M.N:=by rw [hx];exact F.lt s k G hk
   rw [←hx]at c3;have oz:=aj c (aj b4 o3);obtain⟨p4,hp4,c4⟩:=iB (((O.on U).on b4).on c) hxN;have a3:f x∈(metL M f).map f:=by
    rw [hx];exact Aut.met_in F Z.lt (j:=p) (by rw [XK L,T]) hk
   have a1:=HH oD xd en (hm.on c) ((f x:Nat):Int);rw [py,IN a3]at a1;refine X _ t.a t.n t.c z (ac.yes (XJ (by omega)) (ag.mk p3 hp3 ⟨by omega,by omega,_,c3,_,_,_,bD oz,ag.mk p4 hp4 ⟨by omega,by omega,_,c4,_,z,a1,?_⟩⟩));intro z1 P;obtain⟨t',z2,e1,e2,e3,e4,_⟩:=co.push (xs:=((List.range k).map (E.nxt p)).map fun i:Nat=>(i:Int)) D ((((metL M f).map f).idxOf (f x):Nat):Int) P rfl n.size (by omega) (by decide);refine⟨t'.a,t'.n,t'.c,z2,e2,Ar.nat (k+1) rfl (by omega) (ih2 (t',z2) ⟨?_,by show t'.n=k+1;omega,e4 _ n⟩)⟩;rw [List.range_succ,List.map_append,List.map_cons,List.map_nil,uX,a4 k, ←hx];exact e3
  ·rintro⟨t,z⟩ ⟨D,a9,n⟩;change z.ownsRow q.heap.size aT 1 t.v t.n _ at D;change ZH q z at n;have c:ZH H z:=ae K n;have Rz:=R.on n;rw [←hn']at D;refine X _ t.a t.n t.c z (ac.no (XZ (by omega)) ⟨_,_,_,by rw [aF Rz.blk];rfl,?_⟩);intro z1 P;obtain⟨N,z2,e2,u2,f2,k2⟩:=Rz.pushRow (XV _) (aS D K.size) P c.size (by omega);refine⟨N.a,N.n,N.c,z2,e2,rfl,u2,f2,?_⟩;intro z3 hz3;obtain⟨R3,bz3,_⟩:=k2 z3 hz3;have hB3:=bz3 _ c;intro z4 hz4;have V:ZH z3 z4:=by subst hz4;exact aU z3
   have R4:=R3.on V;have A:=ae hB3 V;have hM4:=(S.on u).on A;obtain⟨p5,hp5,c5⟩:=hM4.good G;refine⟨_,_,_,by rw [aF R4.blk];rfl,ag.mk _ rfl ⟨_,_,_,by rw [lQ (aj A (aj u B))];rfl,ag.mk p5 hp5 ⟨by omega,by omega,_,c5,?_⟩⟩⟩;intro z5 ab;obtain⟨J,z6,e6,u6,f6,k6⟩:=R4.pushGood (XV _) hgd.symm ab A.size (by omega);have b45:ZH z4 z5:=by subst ab;exact ah _ _
   refine⟨⟨by rw [aF (R4.on b45).blk];rfl,trivial⟩,J.a,J.n,J.c,z6,e6,rfl,u6,f6,?_⟩;intro z7 hz7;obtain⟨R7,bz7⟩:=k6 z7 hz7;exact Ar.nat (p+1) rfl (by omega) (ih z7 ⟨N,J,_,R7,bz7 _ A⟩)
 ·rintro q ⟨nx,gd,rs,R,K⟩;have hw1:w.heap.size≤w1.heap.size:=t1.size;refine hI _ _ (ac.no (XZ (by omega)) ⟨H.heap.size,f,rfl,fun f0 h=>(hof f0 h).1,Z,⟨none,?_⟩,hA4.on K,by omega,(t1.trans (aD.of_below u)).trans (aD.of_below K)⟩);rw [←C];exact R.done a6
theorem Fj (w:World) (a g:Nat) (M:Aut) (h:jK w a g M) (hN:M.N≤10000) (hn:M.n≤10000):
  CP 16 #[.pointer (some ⟨a,0,none⟩)] w fun e w'=>∃(b:Nat) (f:Nat→Nat),e= .returned (.pointer (some ⟨b,0,none⟩))∧Aut.Cls M f∧jK w' b g (Aut.least M f)∧jK w' a g M∧w.heap.size≤b∧aD a w w':=by
 obtain⟨o,h⟩:=h;refine(zP w a g M o h hN hn).mono ?_;rintro e w' ⟨b,f,rfl,_,c,d,i,j,k⟩;exact⟨b,f,rfl,c,d,⟨_,i⟩,j,k⟩
section
variable {A:Option Addr} {C:Nat} {l:List Int}
end
theorem HL (c:Nat) (hc:c<4294967296) (w:World):CP 124 #[.int .u64 1,.int .u64 (c:Int)] w fun e w'=>e= .returned (.tuple #[.int .u64 0,.int .u64 (c:Int)])∧w'=w:=by
 have g:CP 179 #[.int .u64 1,.int .u64 (c:Int)] w fun e w'=>e= .returned (.tuple #[.int .u64 0,.int .u64 (c:Int)])∧w'=w:=by
  refine aV (Ac 1 c w) ?_;unfold MW Ar;have a:IntKind.wrap .u64 ((BitVec.ofInt (IntKind.bits .u64) (1:Int)&&&BitVec.ofInt (IntKind.bits .u64) 4294967295).toNat:Int)=1:=by decide
  have b:IntKind.wrap .u64 ((BitVec.ofInt (IntKind.bits .u64) (c:Int)&&&BitVec.ofInt (IntKind.bits .u64) 4294967295).toNat:Int)=(c:Int):=by
   have:=Sj c 4294967295 (by omega) (by decide);rw [show(c&&&4294967295:Nat)=c from by have:=Nat.and_two_pow_sub_one_eq_mod c 32;rw [show(2^32-1:Nat)=4294967295 by decide]at this;rw [this];exact Nat.mod_eq_of_lt hc]at this;exact this
  have d:Int.fdiv (1:Int) (2^(min (32:Int).toNat (IntKind.bits .u64)))=0:=by decide
  have f:Int.fdiv (c:Int) (2^(min (32:Int).toNat (IntKind.bits .u64)))=0:=by
   have:=Qo c 32 (by decide);rw [show c/2^32=0 from Nat.div_eq_of_lt hc]at this;exact this
  have j:IntKind.wrap .u64 (c:Int)=(c:Int):=jN c (by omega);have i:IntKind.wrap .u64 (0:Int)=0:=by decide
  have k:Int.fdiv (0:Int) (2^(min (32:Int).toNat (IntKind.bits .u64)))=0:=by decide
  have l:IntKind.wrap .u64 ((BitVec.ofInt (IntKind.bits .u64) (0:Int)&&&BitVec.ofInt (IntKind.bits .u64) 4294967295).toNat:Int)=0:=by decide
  simp only [a,b,d,f,Int.one_mul,Int.zero_mul,Int.mul_zero,Int.zero_add,Int.add_zero,j,i,k,l];repeat first |trivial |exact⟨rfl,rfl⟩ |refine⟨by decide,?_⟩
 refine aV (AH 1 c w) ?_;refine g.mono ?_;rintro e m ⟨rfl,h⟩;exact⟨_,_,rfl,rfl,h⟩
theorem nV {B g:Nat} {w0 w:World} (hb:Below B w0 w) (hg:B≤g) (cs:Array Value):Below B w0 (w.setRow g cs):=
 hb.trans ⟨rfl,rfl,rfl,by rw [size_setRow];exact XV _,fun k hk=>setRow_other w g k cs (by omega)⟩
theorem A9 (w:World) (A:Option Addr) (C N:Nat) (h1:1≤C) (hx:Rw da 1 w A [true]) (hN:1≤N) (hN2:N≤1000000):
  CP 72 #[.slice A 1 C,.int .i64 (N:Int)] w fun e w'=>∃l:Sl,e= .returned l.v∧l.n=N∧w'.ownsRow w.heap.size bW 1 l.v l.n ((List.replicate N true).flatMap da)∧ZH w w':=by
 refine aV (D5 A 1 C N w) ?_;intro J1 E;refine ac.no (XZ (by omega)) (E _ ?_);have H:IntKind.wrap .u64 (N:Int)=(N:Int):=jN N (by omega);rw [H];refine(HL N (by omega) w).mono ?_;rintro e h ⟨rfl,hw⟩;subst h;refine⟨_,_,rfl,?_⟩;intro J2 F;refine ac.no rfl (ac.no (XZ (by omega)) (F _ ?_));have J:IntKind.wrap .i64 (N:Int)=(N:Int):=cL (by show(-9223372036854775808:Int)≤_;omega) (by show _≤(9223372036854775807:Int);omega);rw [J];refine⟨_,_,_,_,mD w N hN2,?_⟩;have y:=ah w (.cells (Array.replicate N (.bool false)) bW);have R:(w.alloc (.cells (Array.replicate N (.bool false)) bW)).heap[w.heap.size]? =some (.cells (Array.replicate N (.bool false)) bW (0,0)):=aq _ _;obtain⟨h,t⟩:∃h,h=w.alloc (.cells (Array.replicate N (.bool false)) bW):=⟨_,rfl⟩;rw [←t]at y R;rw [←t];let cur (m:Nat):List Value:=List.replicate m (.bool true)++List.replicate (N-m) (.bool false);have b:∀m,m≤N→(cur m).length=N:=by intro m hm;simp [cur];omega
 have a:(Tryz.prog.info? bW).map (·.size)=some 1:=by
  obtain⟨i,X,_,hs,_⟩:=CY;rw [X];exact congrArg some hs
 have s:∀(q:World) (m k:Nat),m+k≤N→q.heap[w.heap.size]? =some (.cells (cur m).toArray bW (0,0))→(q.setRow w.heap.size (((cur m).toArray.toList.take m++List.replicate k (Value.bool true))++(cur m).toArray.toList.drop (m+(List.replicate k (Value.bool true)).length)).toArray).heap[w.heap.size]? =some (.cells (cur (m+k)).toArray bW (0,0)):=by
  intro q m k hm f;rw [setRow_heap _ _ _ _ _ _ f];congr 3;simp only [cur,List.length_replicate];rw [List.take_append_of_le_length (by simp),List.take_of_length_le (by simp),List.drop_append,List.length_replicate,List.drop_eq_nil_of_le (by simp),List.nil_append,List.drop_replicate,List.replicate_append_replicate];congr 2;omega
 have P:h.heap[w.heap.size]? =some (.cells (cur 0).toArray bW (0,0)):=by
  rw [R,show(cur 0).toArray=Array.replicate N (.bool false) by simp [cur]]
 obtain⟨p,hp,_,V⟩:=(hx.on y) 0 true rfl;have M:=V 0 _ rfl;rw [Nat.zero_mul,aC,aC]at M;subst hp;have z:=run_copy_row Tryz.prog h gh gh aT bW w.heap.size 0 N N p 1 C (cur 0).toArray bW (List.replicate 1 (.bool true)) Fb a P (by rw [List.length_replicate];show 1=min 1 N;omega) (by
  intro j v c
  match j,c with
  |0,c=>cases c;rw [aC];exact M) (by simp [b 0 (Nat.zero_le _)];omega) (by intro v x;simp at x;subst x;rfl)
 have k2:=s h 0 1 (by omega) P;refine⟨_,_,z,?_⟩;intro I O;have u:∀(d m:Nat) (q:World),N-m≤d→1≤m→m≤N→q.heap[w.heap.size]? =some (.cells (cur m).toArray bW (0,0))→ZH w q→I [.int .i64 (m:Int)] q:=by
  have o:∀(q:World),q.heap[w.heap.size]? =some (.cells (cur N).toArray bW (0,0))→ZH w q→I [.int .i64 (N:Int)] q:=by
   intro q f n;refine O _ _ (ac.no (XZ (by omega)) ⟨⟨some (nb w),N,N⟩,rfl,rfl,⟨by simp [da],.inr ⟨w.heap.size,N,_,rfl,XV _,f,XV _,by unfold maxLen;omega,by simp [cur],?_⟩⟩,n⟩);simp [cur,da,List.flatMap_replicate]
  intro d;induction d with
  |zero=>
   intro m q W B r f n;obtain rfl:m=N:=by omega
   exact o q f n
  |succ d ihd=>
   intro m q W B r f n;by_cases e:m=N
   ·subst e;exact o q f n
   obtain⟨k,Y⟩:∃k,k=min m (N-m):=⟨_,rfl⟩;have Z:1≤k∧m+k≤N∧k≤m:=by omega
   refine O _ _ (ac.yes (XJ (by omega)) ?_);intro K G;have L:ZH q K:=by subst G;exact aU q
   have g:=aj L f;have D:=ae n L;refine⟨by omega,by omega,trivial,trivial,trivial,by omega,by omega,by omega,trivial,trivial,?_⟩;have U:bB (some (nb w)) ((m:Int)).toNat (((N:Nat):Int)).toNat 1=some ⟨w.heap.size,m,none⟩:=by
    unfold bB;rw [if_neg (by omega)];show some ((nb w).add (m*1))=_;rw [aG,Nat.mul_one,Nat.zero_add]
   have T:bB (some (nb w)) (0:Int).toNat (((N:Nat):Int)).toNat 1=some ⟨w.heap.size,0,none⟩:=by
    unfold bB;rw [if_neg (by omega)];show some ((nb w).add (0*1))=_;rw [Nat.zero_mul,aC]
   rw [U,T];have S:=run_copy_row Tryz.prog K gh gh aT bW w.heap.size m (((N:Nat):Int).toNat- (m:Int).toNat) (((N:Nat):Int).toNat- (m:Int).toNat) ⟨w.heap.size,0,none⟩ ((m:Int).toNat- (0:Int).toNat) (((N:Nat):Int).toNat- (0:Int).toNat) (cur m).toArray bW (List.replicate k (.bool true)) Fb a g (by
    rw [List.length_replicate,Y];show min m (N-m)=min (m-0) (N-m);rw [Nat.sub_zero]) (by
    intro j v c;rw [List.getElem?_replicate]at c;split at c
    ·next hjk=>
     cases c;rw [ai _ _ g];simp only [List.getElem?_toArray,cur];rw [List.getElem?_append_left (by simp;omega),List.getElem?_replicate,if_pos (by omega)]
    ·cases c) (by simp [b m r];omega) (by intro v x;rw [(List.mem_replicate.1 x).2];rfl)
   have Q:=s K m k (by omega) g;refine⟨_,_,S,?_⟩;rw [List.length_replicate];refine Ar.nat (m+k) (by omega) (by omega) (ihd (m+k) _ (by omega) (by omega) (by omega) ?_ (nV D (XV _) _));rw [List.length_replicate]at Q;exact Q
 exact u N 1 _ (by omega) (XV _) hN k2 (nV y (XV _) _)
abbrev T3:TypeId:=42
abbrev Gh:TypeId:=110
abbrev Ql:TypeId:=135
def n_ (s:am) (T:List aX):Aut:=Ge (gN s T) (kb s T) (df s T)
abbrev GC (b:Nat):Value:=.func (.func 64) #[] #[.pointer (some ⟨b,0,none⟩)]
theorem nn (w:World) (gb g:Nat) {ec:TypeId} (s:am) (T:List aX) (h:il w g s T) (hc:w.heap[gb]? =some (.cells #[.pointer (some ⟨g,0,none⟩)] ec (0,0))) (i:Nat) (hi:i<gN s T):
  CP 64 #[.int .i64 (i:Int),.pointer (some ⟨gb,0,none⟩)] w fun e w'=>e= .returned (.int .i64 ((bV s T).getD i 0))∧w'=w:=by
 refine aV (E2 i (some ⟨gb,0,none⟩) w) ?_;refine ag.mk _ rfl ⟨_,bD hc,(ng w g s T h i hi).mono ?_⟩;rintro e b ⟨rfl,a⟩;exact⟨_,_,rfl,rfl,a⟩
theorem ut (w:World) (gb fb g:Nat) {ec ef:TypeId} (s:am) (T:List aX) (h:il w g s T) (hn:gN s T≤1032) (hc:w.heap[gb]? =some (.cells #[.pointer (some ⟨g,0,none⟩)] ec (0,0))) (hf:w.heap[fb]? =some (.cells #[GC gb] ef (0,0))) (i:Nat) (hi:i<gN s T):
  CP 67 #[.int .i64 (i:Int),.pointer (some ⟨gb,0,none⟩),.pointer (some ⟨fb,0,none⟩)] w fun e w'=>e= .returned (.bool (kb s T i))∧ZH w w':=by
 refine aV (El i (some ⟨gb,0,none⟩) (some ⟨fb,0,none⟩) w) ?_;intro c d;have b:ZH w c:=by subst d;exact aU w
 have a:=aj b hc;refine ag.mk _ rfl ⟨_,bD a,ag.mk _ rfl ⟨_,bD (aj b hf),(show bM gq (GC gb) [.int .i64 (i:Int)] c _ from b_ (by kernel_rfl) (nn c gb g s T (h.on b) a i hi)).mono ?_⟩⟩;rintro e j ⟨rfl,f⟩;subst j;refine⟨_,rfl,⟨bD a,trivial⟩,(jd c g s T (h.on b) hn _).mono ?_⟩;rintro e k ⟨rfl,f⟩;subst k;rw [wu hi];exact⟨_,rfl,rfl,b⟩
theorem AG (w:World) (rb:Nat) {er:TypeId} (r:Sl) (n:Nat) (p:Nat→Bool) (hr:Rw dj 1 w r.a (bG n p)) (hl:r.n=(bG n p).length) (hn:n≤100000) (hb:w.heap[rb]? =some (.cells #[r.v] er (0,0))) (i:Nat) (hi:i<n):
  CP 70 #[.int .i64 (i:Int),.pointer (some ⟨rb,0,none⟩)] w fun e w'=>e= .returned (.bool (p i))∧ZH w w':=by
 refine aV (Es i (some ⟨rb,0,none⟩) w) ?_;unfold Sq;rw [Ga i (by omega),Jy];rw [de]at hl;have c:i/64< (n+63)/64:=by omega
 obtain⟨q,d,_,b⟩:=hr _ _ (pZ n p c);have a:=b 0 _ rfl;rw [aC]at a;refine ag.mk _ rfl ⟨_,_,_,bD hb,by decide,ag.mk q d ⟨by omega,by omega,_,a,by decide,by omega,?_,Below.refl _ _⟩⟩;rw [F8 _ _ (jL _ _ _) (Nat.mod_lt _ (by decide)),iZ n p hi]
theorem Fa (i:Nat) (w:World):CP 71 #[.int .i64 (i:Int)] w fun e w'=>e= .returned (.bool false)∧ZH w w':=
 aJ (E9 i w (fun u w'=>u= .bool false∧ZH w w') ⟨rfl,Below.refl _ _⟩) (by rintro v w' ⟨rfl,h⟩;exact⟨rfl,h⟩)
theorem KB {n:Nat} {al:Nat→Bool} {rel:Nat→Nat→Bool} {m:Nat→Bool} {i:Nat} (h:∀k,k<n→m k=tX n al rel i k):((List.range n).map fun k=>((if m k then k+1 else n+1:Nat):Int)).flatMap an=gr ((List.range (Ge n al rel).n).map ((Ge n al rel).nxt i)):=by
 unfold gr;rw [List.map_map];congr 1;apply List.map_congr_left;intro k a;show((if m k then k+1 else n+1:Nat):Int)=((if tX n al rel i k then k+1 else n+1:Nat):Int);rw [h k (List.mem_range.1 a)]
theorem ko.put {w:World} {B b g:Nat} {M:Aut} {nx gd:Sl} {rs:List Sl} {m j:Nat} (h:ko w B b g M nx gd rs m j) {k:Nat} {c:Array Value} (hk:w.heap[k]? =some (.cells c Gh (0,0))) (u:Value):ko (w.setCell ⟨k,0,none⟩ u) B b g M nx gd rs m j:=by
 have a:b≠k:=by
  rintro rfl;rw [h.blk]at hk;cases hk
 exact⟨(ar a).trans h.blk,bw h.onx u (az h.onx hk (by decide)),h.rl,fun i r d=>bw (h.each i r d) u (az (h.each i r d) hk (by decide)),bw h.ogd u (az h.ogd hk (by decide))⟩
set_option maxHeartbeats 4000000 in
theorem GH (w:World) (g:Nat) (s:am) (T:List aX) (h:il w g s T) (hn:gN s T≤1032) (hr:yD s T) (most:Int):
  CP 15 #[.pointer (some ⟨g,0,none⟩),.int .i64 most] w fun e w'=>ZH w w'∧((((gN s T+2)*gN s T:Nat):Int)>most→e= .returned (.tuple #[.pointer none,.int .i64 5]))∧(¬(((gN s T+2)*gN s T:Nat):Int)>most→∃a,e= .returned (.tuple #[.pointer (some ⟨a,0,none⟩),.int .i64 0])∧w.heap.size≤a∧jK w' a g (n_ s T)):=by
 let R:Value→World→Prop:=fun u w'=>ZH w w'∧((((gN s T+2)*gN s T:Nat):Int)>most→u= .tuple #[.pointer none,.int .i64 5])∧(¬(((gN s T+2)*gN s T:Nat):Int)>most→∃a,u= .tuple #[.pointer (some ⟨a,0,none⟩),.int .i64 0]∧w.heap.size≤a∧jK w' a g (n_ s T));refine aJ (DC (some ⟨g,0,none⟩) most w R ?_) (by rintro v w' ⟨h1,h2,h3⟩;exact⟨h1,fun e=>by rw [h2 e],fun e=>by obtain⟨a,rfl,h⟩:=h3 e;exact⟨a,rfl,h⟩⟩);intro c hw1;have b1:ZH w c:=by subst hw1;exact ah _ _
 have l1:c.heap[w.heap.size]? =some (.cells #[.pointer (some ⟨g,0,none⟩)] T3 (0,0)):=by subst hw1;exact aq _ _
 have s1:w.heap.size<c.heap.size:=(XY.1 l1).1;refine⟨_,bD l1,(jZ c g s T (h.on b1)).mono ?_⟩;rintro e w2 ⟨rfl,hw⟩;subst w2;obtain⟨n,t⟩:∃n,n=gN s T:=⟨_,rfl⟩;have hgl:(bV s T).length=n:=t.symm;have hn2:n≤1032:=by omega
 have hmul:(n+2)*n≤1034*1032:=Nat.mul_le_mul (by omega) hn2;rw [hgl];refine⟨_,rfl,_,bD l1,ac.no rfl (Ar.nat (n+2) rfl (by omega) (Ar.nat ((n+2)*n) (by simp) (by omega) (ac.mk (fun hm=>?_) fun hm=>?_)))⟩
 ·have hm:=XQ hm;rw [t]at hm;exact⟨b1,fun _=>rfl,fun h=>absurd hm h⟩
 have hm:=XX hm;rw [t]at hm;refine⟨_,bD l1,?_⟩;intro w3 hw3;have b3:ZH c w3:=by subst hw3;exact ah _ _
 obtain⟨M,hM⟩:∃M,M=n_ s T:=⟨_,rfl⟩;have hMn:M.n=n:=by rw [hM,t];rfl
 have hMN:M.N=n+2:=by rw [hM,t];rfl
 have R3:ko w3 c.heap.size c.heap.size g M cW cW [] 0 0:=⟨by subst hw3;exact aq _ _,bE _ _ _ _ nL,rfl,(by intro i r h;cases h),bE _ _ _ _ da⟩;refine Ar.nat (n+1) rfl (by omega) ?_;intro w4 hw4;refine iC hw4 rfl ?_;intro w5 l5 b5;intro w6 hw6;have b6:ZH w5 w6:=by subst hw6;exact aU w5
 have b36:=ae b5 b6;have aa:=ae b3 b36;have hb6:=ae b1 aa;have R6:=R3.on b36;have f6:=aj b6 l5;have g6:=aj aa l1;have h6:=h.on hb6;have W:∀(f:Nat→Bool) (i:Nat),(∀k,k<n→f k=tX (gN s T) (kb s T) (df s T) i k)→((List.range n).map fun k=>((if f k then k+1 else n+1:Nat):Int)).flatMap an=gr ((List.range M.n).map (M.nxt i)):=by
  intro f i hf;rw [hM,t];exact KB (by rw [←t]at hf⊢;exact hf)
 refine⟨cW.a,cW.n,cW.c,by rw [aF R6.blk];rfl,(m0 w6 n (n+1) _ (kb s T) (by omega) fun k hk q hq=>b_ (by kernel_rfl) (ut q w.heap.size w3.heap.size g s T (h6.on hq) hn (aj hq g6) (aj hq f6) k (by omega))).mono ?_⟩;rintro e w7 ⟨l,rfl,hl,X,b7⟩;have R7:=R6.on b7;refine⟨l.a,l.n,l.c,rfl,⟨by rw [aF R7.blk];rfl,trivial⟩,?_⟩;intro w8 hw8;have b8:ZH w7 w8:=by subst hw8;exact ah _ _
 have b17:=ae aa b7;have f7:=aj b7 f6;have hs1:c.heap.size≤w6.heap.size:=aa.size;obtain⟨H,w9,e9,u9,z9,k9⟩:=R7.pushRow (XV _) (r:=l) (by rw [←W (kb s T) 0 (fun k _=>rfl)];exact aS X hs1) hw8 b17.size (by omega);refine⟨⟨by rw [aF (R7.on b8).blk];rfl,trivial⟩,H.a,H.n,H.c,w9,e9,rfl,u9,z9,?_⟩;intro w10 hw10;obtain⟨R10,B10,K10⟩:=k9 w10 hw10;have f10:=K10 f7 (by decide) (by decide);have b110:=B10 c b17;intro I hI;let Inv (i:Nat) (q:World):Prop:=∃H rs,ko q c.heap.size c.heap.size g M H cW rs (i+1) 0∧ZH c q∧q.heap[w3.heap.size]? =some (.cells #[GC w.heap.size] Ql (0,0));have key:=aZ (α:=World) n Inv (fun i q=>I [.int .i64 (i:Int)] q) w10 ⟨H,_,R10,b110,f10⟩ ?_ ?_
 ·exact key
 ·rintro i hi ih q ⟨H,rs,Rq,Bq,fq⟩;have ab:i<gN s T:=by omega
  have a3:∀(z:World) (rb:Nat) (r:Sl),z.heap[rb]? =some (.cells #[r.v] Gh (0,0))→Rw dj 1 z r.a (bG n (df s T i))→r.n=(bG n (df s T i)).length→ko z c.heap.size c.heap.size g M H cW rs (i+1) 0→ZH c z→z.heap[w3.heap.size]? =some (.cells #[GC w.heap.size] Ql (0,0))→
    ∀O:World,O=z.drew→
           ∃lA_18:Option Addr,∃lN_19:Nat,∃lC_20:Nat,O.cell? ((nb c).add 1)=some (Value.slice lA_18 lN_19 lC_20)∧
           CP 66 #[Value.int .i64 (n:Int),Value.int .i64 ((n+1:Nat):Int),Value.func (.func 70) #[] #[Value.pointer (some ⟨rb,0,none⟩)]] O (fun e18 a4=>
           ∃lA_21:Option Addr,∃lN_22:Nat,∃lC_23:Nat,e18= .returned (Value.slice lA_21 lN_22 lC_23)∧
           (a4.cell? ((nb c).add 1)=some (Value.slice lA_18 lN_19 lC_20)∧True)∧
           ∀a5:World,a5=a4.alloc (.cells #[Value.slice lA_21 lN_22 lC_23] bQ)→
           (a5.cell? ((nb c).add 1)=some (Value.slice lA_18 lN_19 lC_20)∧True)∧
           ∃lA_24:Option Addr,∃lN_25:Nat,∃lC_26:Nat,∃P:World,(Builtin.append_ #[lm,lm] lm #[Value.slice lA_18 lN_19 lC_20,Value.slice (some (nb a4)) 1 1]).run Tryz.prog a5= .ok (Value.slice lA_24 lN_25 lC_26) P∧
           (Value.slice lA_24 lN_25 lC_26).oneCell'=true∧(∃u,P.cell? ((nb c).add 1)=some u)∧P.frozen? ((nb c).add 1)=false∧
           ∀a6:World,a6=(P.setCell ((nb c).add 1) (Value.slice lA_24 lN_25 lC_26))→
           Ar .i64 ((i:Int)+1) (fun n_27=>I [Value.int .i64 n_27] a6)):=by
   intro z rb r hz Z y Rz Bz fz O hw17;have bd:ZH z O:=by subst hw17;exact aU z
   have Rd:=Rz.on bd;refine⟨H.a,H.n,H.c,by rw [aF Rd.blk];rfl,(m0 O n (n+1) _ (df s T i) (by omega) fun k hk q hq=>b_ (by kernel_rfl) (AG q rb r n (df s T i) ((Z.on bd).on hq) y (by omega) (aj hq (aj bd hz)) k hk)).mono ?_⟩;rintro e a4 ⟨l,rfl,hl,X,b18⟩;have R18:=Rd.on b18;refine⟨l.a,l.n,l.c,rfl,⟨by rw [aF R18.blk];rfl,trivial⟩,?_⟩;intro a5 hw19;have b19:ZH a4 a5:=by subst hw19;exact ah _ _
   have Bd:=ae Bz bd;have B18:=ae Bd b18;have f18:=aj b18 (aj bd fz);obtain⟨d,P,e20,u20,z20,k20⟩:=R18.pushRow (XV _) (r:=l) (by
    rw [←W (df s T i) (i+1) (fun k _=>by
     unfold tX;rw [if_neg (by omega),if_pos (by omega)];rfl)]
    exact aS X Bd.size) hw19 B18.size (by omega)
   refine⟨⟨by rw [aF (R18.on b19).blk];rfl,trivial⟩,d.a,d.n,d.c,P,e20,rfl,u20,z20,?_⟩;intro a6 hw21;obtain⟨R21,B21,K21⟩:=k20 a6 hw21;exact Ar.nat (i+1) rfl (by omega) (ih a6 ⟨d,_,R21,B21 c B18,K21 f18 (by decide) (by decide)⟩)
  refine hI _ _ (ac.yes (XJ (by omega)) ?_);intro b hw12;have b12:ZH q b:=by subst hw12;exact aU q
  have A:=ae Bq b12;have R12:=Rq.on b12;have F:=aj b12 fq;have U:=aj A l1;have V:il b g s T:=(h.on b1).on A;have J:∀(z:World),il z g s T→CP 69 #[.pointer (some ⟨g,0,none⟩),.int .i64 ((bV s T).getD i 0)] z fun e z'=>∃r:Sl,e= .returned r.v∧Rw dj 1 z' r.a (bG n (df s T i))∧r.n=(bG n (df s T i)).length∧z'.ownsRow z.heap.size iE 1 r.v r.n ((bG n (df s T i)).flatMap dj)∧ZH z z':=by
   intro z hz;refine(vH z g s T hz hn _).mono ?_;rintro e z' ⟨bz,⟨hno,_⟩ |⟨k,l,hk,rfl,ho⟩⟩
   ·rw [xG hr ab]at hno;cases hno
   ·rw [xG hr ab]at hk;cases hk;rw [hgl]at ho;have hls:=bO.of_own p_ ho;exact⟨l,rfl,hls.r,hls.n,ho,bz⟩
  refine⟨_,bD U,_,bD F,(show bM gq (GC w.heap.size) [.int .i64 (i:Int)] b _ from b_ (by kernel_rfl) (nn b w.heap.size g s T V U i ab)).mono ?_,?_⟩
  ·rintro e w13 ⟨rfl,hw⟩;subst w13;refine⟨_,rfl,⟨bD U,trivial⟩,(J b V).mono ?_,?_⟩
   ·rintro e w14 ⟨r,rfl,Z,y,_,b14⟩;refine⟨_,_,_,rfl,?_⟩;intro w15 hw15;refine iC hw15 rfl ?_;intro w16 l16 K;exact a3 w16 w14.heap.size r l16 (Z.on K) y ((R12.on b14).on K) (ae (ae A b14) K) (aj K (aj b14 F))
   ·intro w22 hw22;have b22:ZH b w22:=by subst hw22;exact ah _ _
    have o22:w22.heap[b.heap.size]? =some (.cells #[.slice none 0 0] Gh (0,0)):=by subst hw22;exact aq _ _
    refine⟨⟨bD (aj b22 U),trivial⟩,(J w22 (V.on b22)).mono ?_⟩;rintro e w23 ⟨r,rfl,Z,y,Y,b23⟩;have a1:=aj b23 o22;have D:=ae b22 b23;refine⟨_,_,_,rfl,rfl,⟨_,bD a1⟩,cd a1,?_⟩;intro w24 hw24;have hrl':=y;subst hw24;have hb24:Below c.heap.size c (w23.setCell (nb b) r.v):=(ae A D).setCell (p:=⟨b.heap.size,0,none⟩) A.size _;have G:w3.heap.size≠b.heap.size:=by have:=(XY.1 F).1;omega
    exact a3 _ b.heap.size r (cf a1 r.v) (bO.of_own p_ (bw Y r.v (az Y a1 (by decide)))).r y ((R12.on D).put a1 _) hb24 ((ar (show w3.heap.size≠(nb b).block from G)).trans (aj D F))
  ·intro a7 hw30;have Q:ZH b a7:=by subst hw30;exact ah _ _
   have o30:a7.heap[b.heap.size]? =some (.cells #[.slice none 0 0] Gh (0,0)):=by subst hw30;exact aq _ _
   have g30:=aj Q U;refine⟨⟨bD (aj Q F),trivial⟩,⟨bD g30,trivial⟩,(show bM gq (GC w.heap.size) [.int .i64 (i:Int)] a7 _ from b_ (by kernel_rfl) (nn a7 w.heap.size g s T (V.on Q) g30 i ab)).mono ?_⟩;rintro e w31 ⟨rfl,hw⟩;subst w31;refine⟨_,rfl,⟨bD g30,trivial⟩,(J a7 (V.on Q)).mono ?_⟩;rintro e w32 ⟨r,rfl,Z,y,Y,b32⟩;have a2:=aj b32 o30;have E:=ae Q b32;refine⟨_,_,_,rfl,rfl,⟨_,bD a2⟩,cd a2,?_⟩;intro w33 hw33;subst hw33;have hb33:Below c.heap.size c (w32.setCell (nb b) r.v):=(ae A E).setCell (p:=⟨b.heap.size,0,none⟩) A.size _;have G:w3.heap.size≠b.heap.size:=by have:=(XY.1 F).1;omega
   exact a3 _ b.heap.size r (cf a2 r.v) (bO.of_own p_ (bw Y r.v (az Y a2 (by decide)))).r y ((R12.on E).put a2 _) hb33 ((ar (show w3.heap.size≠(nb b).block from G)).trans (aj E F))
 ·rintro q ⟨H,rs,Rq,Bq,fq⟩;refine hI _ _ (ac.no (XZ (by omega)) ?_);intro w39 hw39;have b39:ZH q w39:=by subst hw39;exact aU q
  have R39:=Rq.on b39;have B39:=ae Bq b39;refine⟨H.a,H.n,H.c,by rw [aF R39.blk];rfl,(m0 w39 n (n+1) _ (fun _=>false) (by omega) fun k hk z hz=>b_ (by kernel_rfl) (Fa k z)).mono ?_⟩;rintro e w40 ⟨l,rfl,hl,X,b40⟩;have R40:=R39.on b40;have B40:=ae B39 b40;refine⟨l.a,l.n,l.c,rfl,⟨by rw [aF R40.blk];rfl,trivial⟩,?_⟩;intro w41 hw41;have b41:ZH w40 w41:=by subst hw41;exact ah _ _
  obtain⟨d,w42,e42,u42,z42,k42⟩:=R40.pushRow (XV _) (r:=l) (by
   rw [←W (fun _=>false) (n+1) (fun k _=>by
    unfold tX;rw [if_neg (by omega),if_neg (by omega)])]
   exact aS X B39.size) hw41 B40.size (by omega)
  refine⟨⟨by rw [aF (R40.on b41).blk];rfl,trivial⟩,d.a,d.n,d.c,w42,e42,rfl,u42,z42,?_⟩;intro a8 hw43;obtain⟨R43,a9,_⟩:=k42 a8 hw43;have a9:=a9 c B40;intro w44 hw44;have b44:ZH a8 w44:=by subst hw44;exact ah _ _
  have hx:Rw da 1 w44 (some (nb a8)) [true]:=by
   have o:w44.ownsRow 0 bW 1 (.slice (some (nb a8)) 1 1) 1 ([true].flatMap da):=by subst hw44;exact iG _ rfl (by decide) (Nat.zero_le _)
   exact(bO.of_own (l:=⟨some (nb a8),1,1⟩) se o).r
  refine Ar.nat (n+2) rfl (by omega) ((A9 w44 _ 1 (n+2) (XV _) hx (by omega) (by omega)).mono ?_);rintro e w45 ⟨gd,rfl,hgd,hgo,b45⟩;have S:=ae b44 b45;have C:=R43.on S;have B45:=ae a9 S;refine⟨gd.a,gd.n,gd.c,rfl,rfl,⟨_,by rw [aF C.blk];rfl⟩,bc C.blk,?_⟩;intro w46 a0;have k46:w46.heap[c.heap.size]? =some (.cells (xp g d gd 0 0 cW) dO (0,0)):=by subst a0;exact bu C.blk _
  have m:∀ {B sz n:Nat} {e:TypeId} {u:Value} {xs:List Value},w45.ownsRow B e sz u n xs→e≠dO→w46.ownsRow B e sz u n xs:=by
   intro B sz n e u xs ho G;subst a0;exact bw ho _ (by rw [ay];exact az ho C.blk G)
  have B46:ZH c w46:=by subst a0;exact bv B45 (XV _) _
  have L:=m hgo (by decide);obtain⟨ga,hga⟩:∃ga,gd.a=some ga:=by
   obtain⟨p,hp,_⟩:=(bO.of_own se L).r 0 true (by simp [List.getElem?_replicate]);exact⟨p,hp⟩
  obtain⟨u,fz,k⟩:=gD (l:=gd) (enc:=da) (sz:=1) (fun _=>rfl) (by decide) L (by simp [hgd]) hga (i:=n+1) (x:=true) (by simp [List.getElem?_replicate]) (k:=0) (by decide) false (.bool false) rfl;rw [aC]at u fz k;refine⟨_,_,_,by rw [aF k46];rfl,ag.mk ga hga ⟨by omega,by omega,rfl,u,fz,?_⟩⟩;intro w47 hw47;obtain⟨o47,s47,z47,b47⟩:=k w47 hw47;have ne47:gd.v.ownBlock≠some c.heap.size:=az L k46 (by decide);have N:∀ {B sz n:Nat} {e:TypeId} {u:Value} {xs:List Value},w46.ownsRow B e sz u n xs→e≠bW→w47.ownsRow B e sz u n xs:=fun ho G=>aN ho fun j hj=>s47 j (cj ho L G j hj);have hgood:((List.replicate (n+2) true).set (n+1) false)=(List.range M.N).map M.good:=by
   rw [hMN,hM];apply List.ext_getElem?;intro j;by_cases hj:j<n+2
   ·rw [List.getElem?_set,List.getElem?_map,List.getElem?_range hj];show _=some (decide (j≤gN s T));rw [←t];by_cases e:n+1=j
    ·subst e;simp
    ·rw [if_neg e,List.getElem?_replicate,if_pos hj,XJ (by omega)]
   ·rw [List.getElem?_eq_none_iff.2 (by simp;omega),List.getElem?_eq_none_iff.2 (by simp;omega)]
  rw [hgood]at o47;have hbf:ZH c w47:=b47 _ _ (by have:=b17.size;have:=(ae a9 b44).size;omega) B46;refine⟨ae b1 hbf,fun h=>absurd h hm,fun _=>⟨c.heap.size,rfl,Nat.le_of_lt s1,?_⟩⟩;rw [←hM];have hok:M.Ok:=by rw [hM];exact FQ (by omega)
  refine⟨none,d,gd,cW,_,0,(s47 _ ne47).trans k46,⟨aS (N (m C.onx (by decide)) (by decide)) (Nat.zero_le _),by rw [C.rl,hMN],fun i r hi=>aS (N (m (C.each i r hi) (by decide)) (by decide)) (Nat.zero_le _),aS o47 (Nat.zero_le _),hok⟩,rfl,rfl⟩
def Gd (M:Aut) (s:am) (T:List aX) (x id:Int):Value:=
 match(if 0≤x∧x< (M.N:Int)then mT s T id else none)with
 |some k=>.tuple #[.int .i64 ((M.nxt x.toNat k:Nat):Int),.bool true]
 |none=>.tuple #[.int .i64 0,.bool false]
theorem EX (w:World) (a g:Nat) (M:Aut) (h:jK w a g M) (s:am) (T:List aX) (hG:il w g s T) (hn:M.n=gN s T) (x id:Int):
  CP 76 #[.pointer (some ⟨a,0,none⟩),.int .i64 x,.int .i64 id] w fun e w'=>e= .returned (Gd M s T x id)∧w'=w:=by
 refine aV (Eo (some ⟨a,0,none⟩) x id w) ?_;refine(GV w a g M h x).mono ?_;rintro e A ⟨rfl,y⟩;subst A;refine⟨_,rfl,ac.mk (fun b=>?_) fun b=>?_⟩
 ·have b:=XX ((Bool.not_eq_true' _).mp b);unfold Gd;rw [if_neg b];exact⟨rfl,rfl⟩
 have b:=XQ ((Bool.not_eq_false' _).mp b);obtain⟨o,h⟩:=h;obtain⟨next,j,D,E,d,m,l⟩:=h.blk;have C:=l.len.1;unfold Gd;rw [if_pos b];refine ag.mk _ rfl ⟨_,by rw [lQ m];rfl,(fK w g s T hG id).mono ?_⟩;rintro e B ⟨rfl,y⟩;subst B;refine⟨_,_,rfl,ac.mk (fun c=>?_) fun c=>?_⟩
 ·cases hp:mT s T id with
  |none=>exact⟨rfl,rfl⟩
  |some k=>rw [hp]at c;cases c
 ·cases hp:mT s T id with
  |none=>rw [hp]at c;cases c
  |some k=>
   have t:k<M.n:=by rw [hn];exact(dE hp).1
   obtain⟨p,r,f,n,v,u⟩:=l.row (show x.toNat<M.N by omega);obtain⟨z,i,q⟩:=iB u t;refine ag.mk _ rfl ⟨_,_,_,by rw [lQ m];rfl,ag.mk p f ⟨by omega,by omega,_,_,_,n,ag.mk z i ⟨?_,?_,_,q,rfl,rfl⟩⟩⟩
   ·show(0:Int)≤((k:Nat):Int);omega
   ·show((k:Nat):Int) <_;omega
def wi (s:am) (T:List aX) (ids:List Int) (i x:Nat):Prop:=
 (∀(j:Nat) (h:j<ids.length),j<i→(ap s T).Has ids[j]∧(ap s T).Canon (ids.take (j+1)))∧((i=0∧x=0)∨∃(h:i-1<ids.length) (k:Nat),0<i∧mT s T ids[i-1]=some k∧x=k+1)
theorem An {s:am} {T:List aX} {ids:List Int} {i x k:Nat} (hV:(ap s T).Ok) (hok:fo T) (h:wi s T ids i x) (hi:i<ids.length) (hk:mT s T ids[i]=some k):
  (tX (gN s T) (kb s T) (df s T) x k=true↔(ap s T).Canon (ids.take (i+1)))∧(ap s T).Has ids[i]:=by
 obtain⟨y,e,o⟩:=dE hk;have n:=(du hok _).1 o;refine⟨?_,n⟩;have g:ids.take (i+1)=ids.take i++ [ids[i]]:=by rw [List.take_add_one,XK hi];rfl
 rcases h.2 with⟨rfl,rfl⟩ |⟨z,A,w,d,rfl⟩
 ·rw [g,List.take_zero,List.nil_append];show kb s T k=true↔_;unfold kb;rw [e,decide_eq_true_iff]
 ·obtain⟨j,rfl⟩:∃j,i=j+1:=⟨i-1,by omega⟩;simp only [Nat.add_sub_cancel]at d z;obtain⟨q,f,r⟩:=dE d;have p:=h.1 j (by omega) (by omega);have a:ids.take (j+1)=ids.take j++ [ids[j]]:=by rw [List.take_add_one,XK (by omega)];rfl
  have c:∀t∈ids.take j++ [ids[j]],(ap s T).Has t:=by
   intro t u;rw [←a]at u;obtain⟨m,D,rfl⟩:=List.mem_take_iff_getElem.1 u;exact(h.1 m (by omega) (by omega)).1
  have b:=p.2;rw [a]at b;have B:=Voc.canon_more hV c b n;have C:(ap s T).Canon [ids[j],ids[j+1]]↔(ap s T).Canon [ids[j+1]]∧(ap s T).Pair ids[j] ids[j+1]:=Voc.canon_more hV (init:=[]) (l:=ids[j]) (t:=ids[j+1]) (fun x v=>by rw [List.nil_append,List.mem_singleton]at v;rw [v];exact p.1) (Voc.canon_append hV c b).2 n;rw [g,a,B, ←C];unfold tX;rw [if_neg (by omega),if_pos (by unfold gN;omega)];show df s T (A+1-1) k=true↔_;rw [Nat.add_sub_cancel];unfold df;rw [e,f,decide_eq_true_iff]
theorem B6 {s:am} {T:List aX} {ids:List Int} {i x k:Nat} (h:wi s T ids i x) (hi:i<ids.length) (hk:mT s T ids[i]=some k) (hh:(ap s T).Has ids[i]) (hc:(ap s T).Canon (ids.take (i+1))):wi s T ids (i+1) (k+1):=by
 refine⟨fun j a b=>?_,.inr ⟨by simpa using hi,k,by omega,by simpa using hk,rfl⟩⟩;by_cases e:j=i
 ·subst e;exact⟨hh,hc⟩
 ·exact h.1 j a (by omega)
structure NT (s:am) (T:List aX) (M:Aut) (S:Nat→Nat→Prop):Prop where
 zero:S 0 0
 lt:∀x p,S x p→x<gN s T+2∧p<M.N
 good:∀x p,S x p→M.good p=decide (x≤gN s T)
 next:∀x p k,S x p→k<gN s T→S (if tX (gN s T) (kb s T) (df s T) x k then k+1 else gN s T+1) (M.nxt p k)
theorem qy (w:World) (a g:Nat) (M:Aut) (h:jK w a g M) (s:am) (T:List aX) (hG:il w g s T) (hn:M.n=gN s T) (S:Nat→Nat→Prop) (hS:NT s T M S) (hok:fo T) (hV:(ap s T).Ok) (A:Option Addr) (C:Nat) (ids:List Int) (hr:Rw an 1 w A ids) (hl:ids.length≤10000):
  CP 361 #[.pointer (some ⟨a,0,none⟩),.slice A ids.length C] w fun e w'=>∃o:Option Nat,e= .returned (.tuple #[.int .i64 ((o.getD 0:Nat):Int),.bool o.isSome])∧mU (ap s T) ids o∧w'=w:=by
 refine aV (Cr (some ⟨a,0,none⟩) A ids.length C w) ?_;intro I K;have F:=aZ (α:=Nat×World) ids.length (fun i y=>(∃x,wi s T ids i x∧S x y.1)∧y.2=w) (fun i y=>∀H G,I [.int .i64 (i:Int),.int .i64 (y.1:Int),.bool H,.int .i64 G] y.2) (0,w) ⟨⟨0,⟨fun j _ l=>absurd l (Nat.not_lt_zero j),.inl ⟨rfl,rfl⟩⟩,hS.zero⟩,rfl⟩ ?_ ?_
 ·exact F _ _
 ·rintro i u W ⟨p,q⟩ ⟨⟨x,r,f⟩,E⟩ H G;change q=w at E;subst q;change S x p at f;obtain⟨V,U⟩:=hS.lt _ _ f;obtain⟨Y,D,N⟩:=a_ hr u rfl;refine K _ _ _ _ _ (ac.yes (XJ (by omega)) (ag.mk Y D ⟨by omega,by omega,_,N,(EX w a g M h s T hG hn (p:Int) ids[i]).mono ?_⟩));rintro e Z ⟨rfl,hw⟩;subst Z;unfold Gd;rw [if_pos ⟨by omega,by omega⟩];cases hk:mT s T ids[i]with
  |none=>
   refine⟨_,_,rfl,ac.yes rfl ⟨some i,rfl,⟨fun j l n=>r.1 j l n,u,fun e=>?_⟩,rfl⟩⟩;have:=(du hok _).2 e.1;rw [kR hk]at this;cases this
  |some k=>
   have z:k<gN s T:=(dE hk).1;obtain⟨m,t⟩:=An hV hok r u hk;have c:=hS.next _ _ _ f z;obtain⟨_,v⟩:=hS.lt _ _ c;have b:=hS.good _ _ c;obtain⟨o,P⟩:=h;obtain⟨next,J,of,rs,d,Q,L⟩:=P.blk;have R:=L.len.2;obtain⟨X,B,O⟩:=L.good v;refine⟨_,_,rfl,ac.no rfl (ag.mk _ rfl ⟨_,_,_,by rw [lQ Q];rfl,ag.mk X B ⟨?_,?_,_,O,?_⟩⟩)⟩
   ·show(0:Int)≤((_:Nat):Int);omega
   ·show((M.nxt p k:Nat):Int) <_;omega
   show ac (!M.good (M.nxt p k)) _ _;cases hm:tX (gN s T) (kb s T) (df s T) x k with
   |true=>
    rw [hm]at b c;simp only [if_true]at b c;rw [b,XJ (by omega)];refine ac.no rfl (Ar.nat (i+1) rfl (by omega) (W (M.nxt p k,w) ⟨⟨k+1,B6 r u hk t (m.1 hm),c⟩,rfl⟩ _ _))
   |false=>
    rw [hm]at b;simp only [Bool.false_eq_true,if_false]at b;rw [b,XZ (by omega)];refine ac.yes rfl ⟨some i,rfl,⟨fun j l n=>r.1 j l n,u,fun e=>?_⟩,rfl⟩;rw [m.2 e.2]at hm;cases hm
 ·rintro⟨p,q⟩ ⟨⟨x,r,f⟩,E⟩ H G;change q=w at E;subst q;exact K _ _ _ _ _ (ac.no (XZ (by omega)) ⟨none,rfl,fun j l=>r.1 j l l,rfl⟩)
theorem tv {s:am} {T:List aX} (hn:gN s T≤1032):(n_ s T).Ok:=FQ (by omega)
theorem GX {s:am} {T:List aX} (hn:gN s T≤1032):NT s T (n_ s T) (fun x p=>x=p∧x<gN s T+2)where
 zero:=⟨rfl,by omega⟩
 lt:=fun x p h=>⟨h.2,by rw [←h.1];exact h.2⟩
 good:=fun x p h=>by rw [←h.1];rfl
 next:=fun x p k h hk=>⟨by rw [←h.1];rfl,by split<;>omega⟩
theorem EF {s:am} {T:List aX} (hn:gN s T≤1032) {f:Nat→Nat} (hc:Aut.Cls (n_ s T) f):NT s T (Aut.least (n_ s T) f) (Aut.Sim (n_ s T) f)where
 zero:=Aut.Sim.zero (tv hn) f
 lt:=fun x p h=>⟨h.hx,h.hp⟩
 good:=fun x p h=>h.good (tv hn) hc
 next:=fun x p k h hk=>h.next (tv hn) hc hk
theorem il.past {w w':World} {g:Nat} {s:am} {T:List aX} (h:il w g s T) {b:Nat} {c:Array Value} {e:TypeId} {fz:Nat×Nat} (hb:w.heap[b]? =some (.cells c e fz)) (hs:∀j,j<w.heap.size→j≠b→w'.heap[j]? =w.heap[j]?) (n1:vj≠e) (n2:aT≠e) (n3:pv≠e) (n4:iE≠e):il w' g s T:=by
 obtain⟨p,l,f,x,A,a⟩:=h;have d:∀ {B sz n:Nat} {t:TypeId} {u:Value} {xs:List Value},w.ownsRow B t sz u n xs→t≠e→w'.ownsRow B t sz u n xs:=fun o m=>aN o fun k q=>hs k (bL o k q).2 fun y=>az o hb m (by rw [q,y]);refine⟨p,l,f,x,A,(hs g (XY.1 a.blk).1 ?_).trans a.blk,d a.oi n2,a.map.same (hs x a.map.lt ?_),d a.orows n3,a.rl,fun i r z=>d (a.each i r z) n4,d a.oal n4⟩
 ·rintro rfl;have:=a.blk;rw [hb]at this;cases this;exact n1 rfl
 ·rintro rfl;obtain⟨C,k,v,_⟩:=a.map;rw [hb]at v;cases v
open Go Go.Value
def T5 (a:OA) (b c:Nat) (d:OA) (f g:Nat) (h:OA) (i j:Nat) (k:OA) (l m:Nat) (n:OA) (o p:Nat) (q:OA) (r s:Nat) (w:World) (R:RW):Prop:=
 Zv w #[slice a b c,slice d f g,slice h i j,slice k l m] 27 fun t=>
 ZR t (nb w) fun u x y z a1 b1 c1 d1 e1 f1 g1 h1=>
 CP 11 #[agg #[slice u x y,slice z a1 b1,slice c1 d1 e1,slice f1 g1 h1]] t (fun i1 j1=>
 Zx i1 fun k1=>
 ac (decide (k1>0))
 (CP 12 #[] j1 (fun l1 m1=>
 Zp l1 fun n1=>
 R (bool n1) m1))
 (ac (decide ((o:Int)>60))
 (CP 12 #[] j1 (fun o1 p1=>
 Zp o1 fun q1=>
 R (bool q1) p1))
 (ac (decide ((r:Int)>30))
 (CP 12 #[] j1 (fun r1 s1=>
 Zp r1 fun t1=>
 R (bool t1) s1))
 (CP 12 #[] j1 (fun u1 v1=>
 Zp u1 fun x1=>
 ac (!x1)
 (CP 12 #[] v1 (fun y1 z1=>
 Zp y1 fun a2=>
 R (bool a2) z1))
 (ZR v1 (nb w) fun b2 c2 d2 e2 f2 g2 h2 i2 j2 k2 l2 m2=>
 CP 13 #[agg #[slice b2 c2 d2,slice e2 f2 g2,slice h2 i2 j2,slice k2 l2 m2]] v1 (fun n2 o2=>
 ZQ n2 fun p2 q2 r2 s2 t2 u2 v2 x2 y2 z2 a3 b3 c3 d3 e3 f3=>
 Zv o2 #[slice none 0 0,slice none 0 0,slice none 0 0,slice none 0 0,slice none 0 0] 39 fun g3=>
 aI g3 (nb o2) (fun h3=>
 ac (Option.isNone p2)
 (R (bool false) h3)
 (Z5 h3 (nb o2) fun i3 j3 k3 l3 m3 n3 o3 p3 q3 r3 s3 t3 u3 v3 x3=>
 CP 17 #[agg #[slice i3 j3 k3,slice l3 m3 n3,slice o3 p3 q3,slice r3 s3 t3,slice u3 v3 x3],slice n o p] h3 (fun y3 z3=>
 Zx y3 fun a4=>
 ac (decide (a4≥0))
 (R (bool true) z3)
 (CP 22 #[pointer p2,slice n o p] z3 (fun b4 c4=>
 Zz b4 fun d4 e4=>
 CP 23 #[pointer p2,slice n o p] c4 (fun f4 g4=>
 Zz f4 fun h4 i4=>
 CP 14 #[pointer p2,int .i64 1048576] g4 (fun j4 k4=>
 Zf j4 fun l4 m4=>
 CP 15 #[pointer l4,int .i64 1048576] k4 (fun n4 o4=>
 Zf n4 fun p4 q4=>
 ac (e4 != 0)
 (R (bool false) o4)
 (ac (i4 != 0)
 (R (bool false) o4)
 (ac (m4 != 0)
 (R (bool false) o4)
 (ac (q4 != 0)
 (R (bool false) o4)
 (CP 24 #[pointer p2,iface 42 (pointer l4),slice n o p] o4 (fun r4 s4=>
 Zz r4 fun t4 u4=>
 CP 25 #[pointer l4] s4 (fun v4 x4=>
 Zj v4 fun y4=>
 CP 24 #[pointer p2,iface 61 (pointer y4),slice n o p] x4 (fun z4 a5=>
 Zz z4 fun b5 c5=>
 CP 24 #[pointer p2,iface 46 (pointer p4),slice n o p] a5 (fun d5 e5=>
 Zz d5 fun f5 g5=>
 CP 16 #[pointer p4] e5 (fun h5 i5=>
 Zj h5 fun j5=>
 CP 24 #[pointer p2,iface 46 (pointer j5),slice n o p] i5 (fun k5 l5=>
 Zz k5 fun m5 n5=>
 CP 26 #[pointer p2] l5 (fun o5 p5=>
 Zj o5 fun q5=>
 ∀r5:KW,(∀(s5:Int) (t5:OA) (u5 v5:Nat) (x5:Bool) (y5:World),(ac (decide ((u5:Int)>0))
 (∀z5:KW,(∀(a6:Int) (b6:World),((0:Int)≤(0:Int)∧(0:Int)≤a6∧a6≤(v5:Int)∧True∧True∧
 CP 27 #[pointer q5,slice (bB t5 (0:Int).toNat (v5:Int).toNat 1) (a6.toNat- (0:Int).toNat) ((v5:Int).toNat- (0:Int).toNat)] b6 (fun c6 d6=>
 Zz c6 fun e6 f6=>
 (0:Int)≤a6∧a6≤(u5:Int)∧True∧True∧True∧
 Ar .i64 ((o:Int)- (((u5:Int).toNat-a6.toNat:Nat):Int)) (fun g6=>
 (0:Int)≤(0:Int)∧(0:Int)≤g6∧g6≤(p:Int)∧True∧True∧
 ∀h6:KW,(∀(i6:Int) (j6:World),(CP 28 #[pointer q5] j6 (fun k6 l6=>
 Zx k6 fun m6=>
 ac (m6 != i6)
 (R (bool false) l6)
 (Ar .i64 (s5+1) (fun n6=>
 r5 [int .i64 n6,slice (bB t5 a6.toNat (v5:Int).toNat 1) ((u5:Int).toNat-a6.toNat) ((v5:Int).toNat-a6.toNat),bool x5] l6))))→h6 [int .i64 i6] j6)→
 ac (decide (d4≥0))
 (ac (decide (d4< ((g6.toNat- (0:Int).toNat:Nat):Int)))
 (h6 [int .i64 d4] d6)
 (h6 [int .i64 (-1)] d6))
 (h6 [int .i64 (-1)] d6))))→z5 [int .i64 a6] b6)→
 ac (decide (s5< (r:Int)))
 (Zm q s5 r (fun o6=>
 ZP y5 (o6.add (s5.toNat*1)) fun p6=>
 (6:Int)≠0∧
 Ar .i64 ((1:Int)+(IntKind.wrap .i64 (Int.tmod p6 6))) (fun q6=>
 ∃r6 s6,(Builtin.min_ #[3,3] 3 #[int .i64 (u5:Int),int .i64 q6]).run Tryz.prog y5= .ok (int .i64 r6) s6∧
 z5 [int .i64 r6] s6)))
 (z5 [int .i64 (u5:Int)] y5))
 (ac (h4==d4)
 (ac (t4==d4)
 (ac (b5==d4)
 (ac (f5==d4)
 (ac (m5==d4)
 (CP 28 #[pointer q5] y5 (fun t6 u6=>
 Zx t6 fun v6=>
 ac (v6==d4)
 (Z5 u6 (nb o2) fun x6 y6 z6 a7 b7 c7 d7 e7 f7 g7 h7 i7 j7 k7 l7=>
 CP 29 #[agg #[slice x6 y6 z6,slice a7 b7 c7,slice d7 e7 f7,slice g7 h7 i7,slice j7 k7 l7],slice n o p] u6 (fun m7 n7=>
 Zp m7 fun o7=>
 R (bool ((d4==(-1))==o7)) n7))
 (R (bool false) u6)))
 (R (bool false) y5))
 (R (bool false) y5))
 (R (bool false) y5))
 (R (bool false) y5))
 (R (bool false) y5)))→r5 [int .i64 s5,slice t5 u5 v5,bool x5] y5)→
 r5 [int .i64 0,slice n o p,bool false] p5))))))))))))))))))) [slice q2 r2 s2,slice t2 u2 v2,slice x2 y2 z2,slice a3 b3 c3,slice d3 e3 f3] 0)))))))
theorem Hs (a:OA) (b c:Nat) (d:OA) (f g:Nat) (h:OA) (i j:Nat) (k:OA) (l m:Nat) (n:OA) (o p:Nat) (q:OA) (r s:Nat) (w:World) (R:RW) (hh:T5 a b c d f g h i j k l m n o p q r s w R):CR 4 #[agg #[slice a b c,slice d f g,slice h i j,slice k l m],slice n o p,slice q r s] w R:=by refine aH (fn:=Tryz.f4) ?_ ?_ ?_ ?_ ?_ hh<;>kernel_rfl
def SE (w:World) (R:RW):Prop:=
 CP 31 #[string ⟨#[118,111,99,97,98,32,114,97,110,107,115,10,116,111,107,101,110,32,54,49,54,50,10,116,111,107,101,110,32,54,49,54,50,54,51,10,115,112,101,99,105,97,108,32,51,48,48,32,51,99,10,99,108,97,115,115,32,52,56,32,53,55,32,49,10]⟩] w (fun a b=>
 Zg a fun c d f=>
 CP 57 #[pointer c,string ⟨#[97,98,99,97,98,49,60]⟩] b (fun g h=>
 ZS g fun i j k l=>
 CP 22 #[pointer c,slice i j k] h (fun m n=>
 Zz m fun o p=>
 ac (f==0)
 (ac (l==0)
 (Zv n #[int .i64 257,int .i64 256,int .i64 49,int .i64 300] 3 fun q=>
 CP 52 #[slice i j k,slice (some (nb n)) 4 4] q (fun r s=>
 Zp r fun t=>
 ac t
 (ac (o==(-1))
 (R (bool (p==0)) s)
 (R (bool false) s))
 (R (bool false) s)))
 (R (bool false) n))
 (R (bool false) n))))
theorem DL (w:World) (R:RW) (hh:SE w R):CR 12 #[] w R:=by refine aH (fn:=Tryz.f12) ?_ ?_ ?_ ?_ ?_ hh<;>kernel_rfl
def Tu (a:OA) (b:ByteArray) (w:World) (R:RW):Prop:=
 CP 56 #[pointer a] w (fun c d=>
 Zj c fun f=>
 CP 118 #[pointer a,string b,func (.func 119) #[pointer f] #[]] d (fun g h=>
 ZS g fun i j k l=>
 R (tuple #[slice i j k,int .i64 l]) h))
theorem E1 (a:OA) (b:ByteArray) (w:World) (R:RW) (hh:Tu a b w R):CR 57 #[pointer a,string b] w R:=by refine aH (fn:=Tryz.f57) ?_ ?_ ?_ ?_ ?_ hh<;>kernel_rfl
def Q4 (a:OA) (b:ByteArray) (c:Value) (w:World) (R:RW):Prop:=
 ac (Option.isNone a)
 (R (tuple #[slice none 0 0,int .i64 1]) w)
 (ac (decide (((b.size:Int):Int)>4000))
 (R (tuple #[slice none 0 0,int .i64 3]) w)
 (bM gq c [string b] w (fun d f=>
 Zr d fun g h i=>
 CP 172 #[pointer a,slice g h i] f (fun j k=>
 Zr j fun l m n=>
 R (tuple #[slice l m n,int .i64 0]) k))))
theorem zG (a:OA) (b:ByteArray) (c:Value) (w:World) (R:RW) (hh:Q4 a b c w R):CR 118 #[pointer a,string b,c] w R:=by refine aH (fn:=Tryz.f118) ?_ ?_ ?_ ?_ ?_ hh<;>kernel_rfl
def S6 (a:ByteArray) (w:World) (R:RW):Prop:=
 CP 90 #[string a] w (fun b c=>
 ZN b fun d f g h i j k l m n o p q r s t u x=>
 Zv c #[bool false,slice none 0 0,slice none 0 0,slice none 0 0,slice none 0 0,slice none 0 0] 71 fun y=>
 aI y (nb c) (fun z=>
 ac (x != 0)
 (R (tuple #[pointer none,int .i64 u,int .i64 x]) z)
 (Zq z (nb c) fun a1 b1 c1 d1 e1 f1 g1 h1 i1 j1 k1 l1 m1 n1 o1 p1=>
 CP 91 #[agg #[bool a1,slice b1 c1 d1,slice e1 f1 g1,slice h1 i1 j1,slice k1 l1 m1,slice n1 o1 p1]] z (fun q1 r1=>
 Zn q1 fun s1 t1 u1 v1=>
 ∀x1:KW,(∀(y1:Int) (z1:World),(R (tuple #[pointer s1,int .i64 y1,int .i64 v1]) z1)→x1 [int .i64 y1] z1)→
 ac (t1==1)
 (Ar .i64 (u1+2) (fun a2=>
 x1 [int .i64 a2] r1))
 (ac (t1==2)
 (Zl r1 ((nb c).add 1) fun b2 c2 d2=>
 Ar .i64 ((2:Int)+(c2:Int)) (fun e2=>
 Zl r1 ((nb c).add 2) fun f2 g2 h2=>
 Ar .i64 (e2+(g2:Int)) (fun i2=>
 Ar .i64 (u1+i2) (fun j2=>
 x1 [int .i64 j2] r1))))
 (x1 [int .i64 u1] r1))))) [bool d,slice f g h,slice i j k,slice l m n,slice o p q,slice r s t] 0)
theorem Fe (a:ByteArray) (w:World) (R:RW) (hh:S6 a w R):CR 31 #[string a] w R:=by refine aH (fn:=Tryz.f31) ?_ ?_ ?_ ?_ ?_ hh<;>kernel_rfl
def SZ (a:ByteArray) (w:World) (R:RW):Prop:=
 Zv w #[bool false,slice none 0 0,slice none 0 0,slice none 0 0,slice none 0 0,slice none 0 0] 71 fun b=>
 ac (decide (((a.size:Int):Int)>60000))
 (aI b (nb w) (fun c=>
 Zq c (nb w) fun d f g h i j k l m n o p q r s t=>
 R (tuple #[agg #[bool d,slice f g h,slice i j k,slice l m n,slice o p q,slice r s t],int .i64 0,int .i64 3]) c) [bool false,slice none 0 0,slice none 0 0,slice none 0 0,slice none 0 0,slice none 0 0] 0)
 (CP 128 #[string a] b (fun u x=>
 ZM u fun y z a1 b1=>
 Zv x #[bool false,slice none 0 0,slice none 0 0,slice none 0 0,slice none 0 0,slice none 0 0,int .i64 0] 211 fun c1=>
 ∀d1:KW,(∀(e1 f1 g1:Int) (h1:World),(ac (decide (e1< (z:Int)))
 (Zm y e1 z (fun i1=>
 Z0 h1 (i1.add (e1.toNat*1)) fun j1=>
 CP 129 #[pointer (some (nb x)),int .i64 e1,string j1] h1 (fun k1 l1=>
 Zp k1 fun m1=>
 ac (!m1)
 (Ar .i64 (e1+1) (fun n1=>
 aI l1 (nb w) (fun o1=>
 Zq o1 (nb w) fun p1 q1 r1 s1 t1 u1 v1 x1 y1 z1 a2 b2 c2 d2 e2 f2=>
 R (tuple #[agg #[bool p1,slice q1 r1 s1,slice t1 u1 v1,slice x1 y1 z1,slice a2 b2 c2,slice d2 e2 f2],int .i64 n1,int .i64 2]) o1) [bool false,slice none 0 0,slice none 0 0,slice none 0 0,slice none 0 0,slice none 0 0] 0))
 (Ar .i64 (e1+1) (fun g2=>
 d1 [int .i64 g2,int .i64 f1,int .i64 g1] l1)))))
 (ac (!b1)
 (Ar .i64 ((z:Int)+1) (fun h2=>
 aI h1 (nb w) (fun i2=>
 Zq i2 (nb w) fun j2 k2 l2 m2 n2 o2 p2 q2 r2 s2 t2 u2 v2 x2 y2 z2=>
 R (tuple #[agg #[bool j2,slice k2 l2 m2,slice n2 o2 p2,slice q2 r2 s2,slice t2 u2 v2,slice x2 y2 z2],int .i64 h2,int .i64 2]) i2) [bool false,slice none 0 0,slice none 0 0,slice none 0 0,slice none 0 0,slice none 0 0] 0))
 (ac ((z:Int)==0)
 (Ar .i64 ((z:Int)+1) (fun a3=>
 aI h1 (nb w) (fun b3=>
 Zq b3 (nb w) fun c3 d3 e3 f3 g3 h3 i3 j3 k3 l3 m3 n3 o3 p3 q3 r3=>
 R (tuple #[agg #[bool c3,slice d3 e3 f3,slice g3 h3 i3,slice j3 k3 l3,slice m3 n3 o3,slice p3 q3 r3],int .i64 a3,int .i64 2]) b3) [bool false,slice none 0 0,slice none 0 0,slice none 0 0,slice none 0 0,slice none 0 0] 0))
 (Zq h1 ((nb x).add 0) fun s3 t3 u3 v3 x3 y3 z3 a4 b4 c4 d4 e4 f4 g4 h4 i4=>
 aI h1 (nb w) (fun j4=>
 Zq j4 (nb w) fun k4 l4 m4 n4 o4 p4 q4 r4 s4 t4 u4 v4 x4 y4 z4 a5=>
 R (tuple #[agg #[bool k4,slice l4 m4 n4,slice o4 p4 q4,slice r4 s4 t4,slice u4 v4 x4,slice y4 z4 a5],int .i64 0,int .i64 0]) j4) [bool s3,slice t3 u3 v3,slice x3 y3 z3,slice a4 b4 c4,slice d4 e4 f4,slice g4 h4 i4] 0))))→d1 [int .i64 e1,int .i64 f1,int .i64 g1] h1)→
 d1 [int .i64 0,int .i64 0,int .i64 0] c1))
theorem DD (a:ByteArray) (w:World) (R:RW) (hh:SZ a w R):CR 90 #[string a] w R:=by refine aH (fn:=Tryz.f90) ?_ ?_ ?_ ?_ ?_ hh<;>kernel_rfl
def OU (a:ByteArray) (w:World) (R:RW):Prop:=
 ∀b:KW,(∀(c:OA) (d f:Nat) (g:Bool) (h:OA) (i j:Nat) (k:ByteArray) (l:World),(CP 185 #[string k,string ⟨#[10]⟩] l (fun m n=>
 ZL m fun o p q=>
 ac (!q)
 (R (tuple #[slice c d f,bool (o.toList==(⟨#[]⟩:ByteArray).toList)]) n)
 (Zv n #[string o] 9 fun r=>
 Zh 32 #[slice c d f,slice (some (nb n)) 1 1] r fun s t u x=>
 b [slice s t u,bool g,slice h i j,string p] x)))→b [slice c d f,bool g,slice h i j,string k] l)→
 b [slice none 0 0,bool false,slice none 0 0,string a] w
theorem xR (a:ByteArray) (w:World) (R:RW) (hh:OU a w R):CR 128 #[string a] w R:=by refine aH (fn:=Tryz.f128) ?_ ?_ ?_ ?_ ?_ hh<;>kernel_rfl
def RU (a:OA) (b:Int) (c:ByteArray) (w:World) (R:RW):Prop:=
 CP 186 #[string c] w (fun d f=>
 Zr d fun g h i=>
 ∀j,j=f.drew→
 Zm g 0 h (fun k=>
 Z0 j (k.add ((0:Int).toNat*1)) fun l=>
 (0:Int)≤(1:Int)∧(1:Int)≤(h:Int)∧True∧True∧True∧
 CP 187 #[pointer a,string l,slice (bB g (1:Int).toNat (i:Int).toNat 1) ((h:Int).toNat- (1:Int).toNat) ((i:Int).toNat- (1:Int).toNat)] j (fun m n=>
 Zy m fun o p=>
 ac (!p)
 (R (bool false) n)
 (ac (!((b==0)==(o==0)))
 (R (bool false) n)
 (ag a (fun q=>
 Zs n (q.add 6) fun r=>
 ac (decide (o<r))
 (R (bool false) n)
 (ag a (fun s=>
 Zq n (s.add 0) fun t x y z a1 b1 c1 d1 e1 f1 g1 h1 i1 j1 k1 l1=>
 CP 101 #[agg #[bool t,slice x y z,slice a1 b1 c1,slice d1 e1 f1,slice g1 h1 i1,slice j1 k1 l1]] n (fun m1 n1=>
 Zp m1 fun o1=>
 ac (!o1)
 (R (bool false) n1)
 (ag a (fun p1=>
 Zu n1 (p1.add 6) (int .i64 o) fun q1=>
 R (bool true) q1)))))))))))
theorem AW (a:OA) (b:Int) (c:ByteArray) (w:World) (R:RW) (hh:RU a b c w R):CR 129 #[pointer a,int .i64 b,string c] w R:=by refine aH (fn:=Tryz.f129) ?_ ?_ ?_ ?_ ?_ hh<;>kernel_rfl
def Sm (a:ByteArray) (w:World) (R:RW):Prop:=
 CP 232 #[string a,string ⟨#[32]⟩] w (fun b c=>
 Zr b fun d f g=>
 R (slice d f g) c)
theorem Bo (a:ByteArray) (w:World) (R:RW) (hh:Sm a w R):CR 186 #[string a] w R:=by refine aH (fn:=Tryz.f186) ?_ ?_ ?_ ?_ ?_ hh<;>kernel_rfl
def Ry (a:OA) (b:ByteArray) (c:OA) (d f:Nat) (w:World) (R:RW):Prop:=
 ac (b.toList==(⟨#[118,111,99,97,98]⟩:ByteArray).toList)
 (CP 233 #[pointer a,slice c d f] w (fun g h=>
 Zp g fun i=>
 R (tuple #[int .i64 0,bool i]) h))
 (ac (b.toList==(⟨#[109,101,114,103,101]⟩:ByteArray).toList)
 (CP 234 #[pointer a,slice c d f] w (fun j k=>
 Zp j fun l=>
 R (tuple #[int .i64 1,bool l]) k))
 (ac (b.toList==(⟨#[116,111,107,101,110]⟩:ByteArray).toList)
 (CP 235 #[pointer a,slice c d f] w (fun m n=>
 Zp m fun o=>
 R (tuple #[int .i64 1,bool o]) n))
 (ac (b.toList==(⟨#[115,112,101,99,105,97,108]⟩:ByteArray).toList)
 (CP 236 #[pointer a,slice c d f] w (fun p q=>
 Zp p fun r=>
 R (tuple #[int .i64 2,bool r]) q))
 (ac (b.toList==(⟨#[99,108,97,115,115]⟩:ByteArray).toList)
 (CP 237 #[pointer a,slice c d f] w (fun s t=>
 Zp s fun u=>
 R (tuple #[int .i64 3,bool u]) t))
 (ac (b.toList==(⟨#[106,111,105,110]⟩:ByteArray).toList)
 (CP 238 #[pointer a,slice c d f] w (fun x y=>
 Zp x fun z=>
 R (tuple #[int .i64 4,bool z]) y))
 (R (tuple #[int .i64 0,bool false]) w))))))
theorem Bj (a:OA) (b:ByteArray) (c:OA) (d f:Nat) (w:World) (R:RW) (hh:Ry a b c d f w R):CR 187 #[pointer a,string b,slice c d f] w R:=by refine aH (fn:=Tryz.f187) ?_ ?_ ?_ ?_ ?_ hh<;>kernel_rfl
def RJ (a b:OA) (c d:Nat) (w:World) (R:RW):Prop:=
 ac ((c:Int)==1)
 (Zm b 0 c (fun f=>
 Z0 w (f.add ((0:Int).toNat*1)) fun g=>
 ag a (fun h=>
 (bool (g.toList==(⟨#[114,97,110,107,115]⟩:ByteArray).toList)).oneCell'=true∧(∃u,w.cell? ((h.add 0).add 0)=some u)∧w.frozen? ((h.add 0).add 0)=false∧
 ∀i,i=(w.setCell ((h.add 0).add 0) (bool (g.toList==(⟨#[114,97,110,107,115]⟩:ByteArray).toList)))→
 ac ((c:Int)==1)
 (Zm b 0 c (fun j=>
 Z0 i (j.add ((0:Int).toNat*1)) fun k=>
 ac (k.toList==(⟨#[114,97,110,107,115]⟩:ByteArray).toList)
 (R (bool true) i)
 (Zm b 0 c (fun l=>
 Z0 i (l.add ((0:Int).toNat*1)) fun m=>
 R (bool (m.toList==(⟨#[109,101,114,103,101,115]⟩:ByteArray).toList)) i))))
 (R (bool false) i))))
 (ag a (fun n=>
 Zu w ((n.add 0).add 0) (bool false) fun o=>
 ac ((c:Int)==1)
 (Zm b 0 c (fun p=>
 Z0 o (p.add ((0:Int).toNat*1)) fun q=>
 ac (q.toList==(⟨#[114,97,110,107,115]⟩:ByteArray).toList)
 (R (bool true) o)
 (Zm b 0 c (fun r=>
 Z0 o (r.add ((0:Int).toNat*1)) fun s=>
 R (bool (s.toList==(⟨#[109,101,114,103,101,115]⟩:ByteArray).toList)) o))))
 (R (bool false) o)))
theorem C0 (a b:OA) (c d:Nat) (w:World) (R:RW) (hh:RJ a b c d w R):CR 233 #[pointer a,slice b c d] w R:=by refine aH (fn:=Tryz.f233) ?_ ?_ ?_ ?_ ?_ hh<;>kernel_rfl
def OI (a b:OA) (c d:Nat) (w:World) (R:RW):Prop:=
 CP 268 #[slice b c d,int .i64 2] w (fun f g=>
 ZM f fun h i j k=>
 ∀l:KW,(∀m:World,(R (bool k) m)→l [] m)→
 ac k
 (∀n,n=g.drew→
 ag a (fun o=>
 Zl n ((o.add 0).add 1) fun p q r=>
 Zm h 0 i (fun s=>
 Zs n (s.add ((0:Int).toNat*1)) fun t=>
 Zm h 1 i (fun x=>
 Zs n (x.add ((1:Int).toNat*1)) fun y=>
 Zv n #[int .i64 t,int .i64 y] 85 fun z=>
 (z.cell? ((o.add 0).add 1)=some (slice p q r)∧True)∧
 Zh 33 #[slice p q r,slice (some (nb n)) 1 1] z fun a1 b1 c1 d1=>
 ag a (fun e1=>
 Zu d1 ((e1.add 0).add 1) (slice a1 b1 c1) fun f1=>
 l [] f1)))))
 (l [] g))
theorem C_ (a b:OA) (c d:Nat) (w:World) (R:RW) (hh:OI a b c d w R):CR 234 #[pointer a,slice b c d] w R:=by refine aH (fn:=Tryz.f234) ?_ ?_ ?_ ?_ ?_ hh<;>kernel_rfl
def Rn (a b:OA) (c d:Nat) (w:World) (R:RW):Prop:=
 ac ((c:Int) != 1)
 (R (bool false) w)
 (Zm b 0 c (fun f=>
 Z0 w (f.add ((0:Int).toNat*1)) fun g=>
 CP 269 #[string g] w (fun h i=>
 Zd h fun j k=>
 ag a (fun l=>
 Zl i ((l.add 0).add 2) fun m n o=>
 Zv i #[string j] 9 fun p=>
 Zh 32 #[slice m n o,slice (some (nb i)) 1 1] p fun q r s t=>
 ag a (fun x=>
 Zu t ((x.add 0).add 2) (slice q r s) fun y=>
 R (bool k) y)))))
theorem CH (a b:OA) (c d:Nat) (w:World) (R:RW) (hh:Rn a b c d w R):CR 235 #[pointer a,slice b c d] w R:=by refine aH (fn:=Tryz.f235) ?_ ?_ ?_ ?_ ?_ hh<;>kernel_rfl
def Qj (a b:OA) (c d:Nat) (w:World) (R:RW):Prop:=
 ac ((c:Int) != 2)
 (R (bool false) w)
 (Zm b 0 c (fun f=>
 Z0 w (f.add ((0:Int).toNat*1)) fun g=>
 CP 270 #[string g,int .i64 1073741824] w (fun h i=>
 Zy h fun j k=>
 Zm b 1 c (fun l=>
 Z0 i (l.add ((1:Int).toNat*1)) fun m=>
 CP 269 #[string m] i (fun n o=>
 Zd n fun p q=>
 ag a (fun r=>
 Zl o ((r.add 0).add 3) fun s t x=>
 Zv o #[int .i64 j,string p] 87 fun y=>
 Zh 25 #[slice s t x,slice (some (nb o)) 1 1] y fun z a1 b1 c1=>
 ag a (fun d1=>
 Zu c1 ((d1.add 0).add 3) (slice z a1 b1) fun e1=>
 ac k
 (R (bool q) e1)
 (R (bool false) e1))))))))
theorem C8 (a b:OA) (c d:Nat) (w:World) (R:RW) (hh:Qj a b c d w R):CR 236 #[pointer a,slice b c d] w R:=by refine aH (fn:=Tryz.f236) ?_ ?_ ?_ ?_ ?_ hh<;>kernel_rfl
def Qz (a b:OA) (c d:Nat) (w:World) (R:RW):Prop:=
 CP 268 #[slice b c d,int .i64 3] w (fun f g=>
 ZM f fun h i j k=>
 ∀l:KW,(∀m:World,(R (bool k) m)→l [] m)→
 ac k
 (∀n,n=g.drew→
 ag a (fun o=>
 Zl n ((o.add 0).add 4) fun p q r=>
 Zm h 0 i (fun s=>
 Zs n (s.add ((0:Int).toNat*1)) fun t=>
 Zm h 1 i (fun x=>
 Zs n (x.add ((1:Int).toNat*1)) fun y=>
 Zm h 2 i (fun z=>
 Zs n (z.add ((2:Int).toNat*1)) fun a1=>
 Zv n #[int .i64 t,int .i64 y,int .i64 a1] 89 fun b1=>
 (b1.cell? ((o.add 0).add 4)=some (slice p q r)∧True)∧
 Zh 23 #[slice p q r,slice (some (nb n)) 1 1] b1 fun c1 d1 e1 f1=>
 ag a (fun g1=>
 Zu f1 ((g1.add 0).add 4) (slice c1 d1 e1) fun h1=>
 l [] h1))))))
 (l [] g))
theorem ze (a b:OA) (c d:Nat) (w:World) (R:RW) (hh:Qz a b c d w R):CR 237 #[pointer a,slice b c d] w R:=by refine aH (fn:=Tryz.f237) ?_ ?_ ?_ ?_ ?_ hh<;>kernel_rfl
def OG (a b:OA) (c d:Nat) (w:World) (R:RW):Prop:=
 CP 268 #[slice b c d,int .i64 2] w (fun f g=>
 ZM f fun h i j k=>
 ∀l:KW,(∀m:World,(R (bool k) m)→l [] m)→
 ac k
 (∀n,n=g.drew→
 ag a (fun o=>
 Zl n ((o.add 0).add 5) fun p q r=>
 Zm h 0 i (fun s=>
 Zs n (s.add ((0:Int).toNat*1)) fun t=>
 Zm h 1 i (fun x=>
 Zs n (x.add ((1:Int).toNat*1)) fun y=>
 Zv n #[int .i64 t,int .i64 y] 170 fun z=>
 (z.cell? ((o.add 0).add 5)=some (slice p q r)∧True)∧
 Zh 24 #[slice p q r,slice (some (nb n)) 1 1] z fun a1 b1 c1 d1=>
 ag a (fun e1=>
 Zu d1 ((e1.add 0).add 5) (slice a1 b1 c1) fun f1=>
 l [] f1)))))
 (l [] g))
theorem AS (a b:OA) (c d:Nat) (w:World) (R:RW) (hh:OG a b c d w R):CR 238 #[pointer a,slice b c d] w R:=by refine aH (fn:=Tryz.f238) ?_ ?_ ?_ ?_ ?_ hh<;>kernel_rfl
def QI (a:OA) (b c:Nat) (d:Int) (w:World) (R:RW):Prop:=
 ac ((b:Int) != d)
 (R (tuple #[slice none 0 0,bool false]) w)
 (∀f:KW,(∀(g:Int) (h:OA) (i j:Nat) (k:Bool) (l:OA) (m n:Nat) (o:World),(ac (decide (g< (b:Int)))
 (Zm a g b (fun p=>
 Z0 o (p.add (g.toNat*1)) fun q=>
 CP 270 #[string q,int .i64 1073741824] o (fun r s=>
 Zy r fun t u=>
 ac (!u)
 (R (tuple #[slice none 0 0,bool false]) s)
 (Zv s #[int .i64 t] 3 fun x=>
 Zh 28 #[slice h i j,slice (some (nb s)) 1 1] x fun y z a1 b1=>
 Ar .i64 (g+1) (fun c1=>
 f [int .i64 c1,slice y z a1,bool k,slice l m n] b1)))))
 (R (tuple #[slice h i j,bool true]) o))→f [int .i64 g,slice h i j,bool k,slice l m n] o)→
 f [int .i64 0,slice none 0 0,bool false,slice none 0 0] w)
theorem yp (a:OA) (b c:Nat) (d:Int) (w:World) (R:RW) (hh:QI a b c d w R):CR 268 #[slice a b c,int .i64 d] w R:=by refine aH (fn:=Tryz.f268) ?_ ?_ ?_ ?_ ?_ hh<;>kernel_rfl
def PA (a:ByteArray) (w:World) (R:RW):Prop:=
 ac (a.toList==(⟨#[45]⟩:ByteArray).toList)
 (R (tuple #[string ⟨#[]⟩,bool true]) w)
 (ac (a.toList==(⟨#[]⟩:ByteArray).toList)
 (R (tuple #[string ⟨#[]⟩,bool false]) w)
 ((2:Int)≠0∧
 ac ((Int.tmod (a.size:Int) 2:Int) != 0)
 (R (tuple #[string ⟨#[]⟩,bool false]) w)
 ((2:Int)≠0∧
 ∃b c d f,(Instr.makeSlice 57 (int .i64 0) (int .i64 (IntKind.wrap .i64 (Int.tdiv (a.size:Int) 2)))).run Tryz.prog w= .ok (slice b c d) f∧
 ∀g:KW,(∀(h:Int) (i:OA) (j k:Nat) (l:Bool) (m:ByteArray) (n:World),(ac (decide (h< (a.size:Int)))
 (∀o,o=n.drew→
 (0:Int)≤h∧h< (a.size:Int)∧
 Ar .i64 (h+1) (fun p=>
 (0:Int)≤p∧p< (a.size:Int)∧
 CP 295 #[int .u8 (dM a h)] o (fun q r=>
 Zx q fun s=>
 CP 295 #[int .u8 (dM a p)] r (fun t u=>
 Zx t fun x=>
 ac (decide (s<0))
 (R (tuple #[string ⟨#[]⟩,bool false]) u)
 (ac (decide (x<0))
 (R (tuple #[string ⟨#[]⟩,bool false]) u)
 (Ar .i64 (s*16) (fun y=>
 Ar .i64 (y+x) (fun z=>
 Zv u #[int .u8 (IntKind.wrap .u8 z)] 5 fun a1=>
 Zh 57 #[slice i j k,slice (some (nb u)) 1 1] a1 fun b1 c1 d1 e1=>
 Ar .i64 (h+2) (fun f1=>
 g [int .i64 f1,slice b1 c1 d1,bool l,string m] e1)))))))))
 (∃g1 h1,(convert 57 9 (slice i j k)).run Tryz.prog n= .ok (string g1) h1∧
 R (tuple #[string g1,bool true]) h1))→g [int .i64 h,slice i j k,bool l,string m] n)→
 g [int .i64 0,slice b c d,bool false,string ⟨#[]⟩] f)))
theorem zK (a:ByteArray) (w:World) (R:RW) (hh:PA a w R):CR 269 #[string a] w R:=by refine aH (fn:=Tryz.f269) ?_ ?_ ?_ ?_ ?_ hh<;>kernel_rfl
def Rm (a:ByteArray) (b:Int) (w:World) (R:RW):Prop:=
 CP 296 #[string a] w (fun c d=>
 ∃f g,c= .returned (tuple #[int .i64 f,g])∧
 ∃h i,(do eqGuard .neq 372 (.tmp 13) (.const (Value.nilIface)) g Value.nilIface;binOp .neq 372 g Value.nilIface).run Tryz.prog d= .ok (bool h) i∧
 ac h
 (R (tuple #[int .i64 0,bool false]) i)
 (ac (decide (f<0))
 (R (tuple #[int .i64 0,bool false]) i)
 (ac (decide (f>b))
 (R (tuple #[int .i64 0,bool false]) i)
 (CP 297 #[int .i64 f] i (fun j k=>
 ZU j fun l=>
 ac (!(l.toList==a.toList))
 (R (tuple #[int .i64 0,bool false]) k)
 (R (tuple #[int .i64 f,bool true]) k))))))
theorem AI (a:ByteArray) (b:Int) (w:World) (R:RW) (hh:Rm a b w R):CR 270 #[string a,int .i64 b] w R:=by refine aH (fn:=Tryz.f270) ?_ ?_ ?_ ?_ ?_ hh<;>kernel_rfl
def RZ (a:Int) (w:World) (R:RW):Prop:=
 CP 315 #[string ⟨#[48,49,50,51,52,53,54,55,56,57,97,98,99,100,101,102]⟩,int .u8 a] w (fun b c=>
 Zx b fun d=>
 R (int .i64 d) c)
theorem Cu (a:Int) (w:World) (R:RW) (hh:RZ a w R):CR 295 #[int .u8 a] w R:=by refine aH (fn:=Tryz.f295) ?_ ?_ ?_ ?_ ?_ hh<;>kernel_rfl
def QF (a:Int) (w:World) (R:RW):Prop:=
 CP 318 #[int .i64 a] w (fun b c=>
 ZU b fun d=>
 R (string d) c)
theorem CS (a:Int) (w:World) (R:RW) (hh:QF a w R):CR 297 #[int .i64 a] w R:=by refine aH (fn:=Tryz.f297) ?_ ?_ ?_ ?_ ?_ hh<;>kernel_rfl
end Go.Proofs.YtijbcdiffjjefaaGreatDoor.Eng
