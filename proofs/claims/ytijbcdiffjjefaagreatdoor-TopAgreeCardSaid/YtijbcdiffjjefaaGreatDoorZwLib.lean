/- Lemmas on the world that the walks lean on. -/
import Derived.Test.YtijbcdiffjjefaaGreatDoorZwEng
import Derived.Laws.AppendOwn
import Derived.Maps.AppendAt
import Derived.Below
import Derived.Lib.Builder
import Derived.SizedLaws
import Derived.Handed
import Derived.LaidLaws
import Derived.Stop.Joined
import Derived.Lib.UnsafeStr
import Derived.Laws.IdiomStrings
import Derived.Laws.BytesArg
import Derived.Laws.OwnMore
import Derived.DataElems
import Derived.Deep.Slices
import Derived.ChangeArms
import Derived.Test.YtijbcdiffjjefaaGreatDoorZwVc
import Derived.Lib.SplitLaws
import Derived.Lib.CountLaws
import Derived.Lib.Split
import Derived.Lib.Join
import Derived.Lib.ItoaNum
import Derived.Lib.AtoiAll
import Derived.Lib.ItoaMem
import Derived.Laws.MakeOwn
import Derived.Lib.AppendIntMem
import Derived.Lib.AtoiErrMem
import Derived.Lib.AppendStr
import Derived.Shelf.Strings.Builder1
import Derived.WideShapes
import Derived.ChangeSame
import Derived.MapKept
import Derived.Carry
set_option linter.unusedVariables false
set_option linter.unusedSimpArgs false
namespace Go.Proofs.YtijbcdiffjjefaaGreatDoor.Eng
open Go Go.RowKit
abbrev ZH (w v:World):Prop:=Below w.heap.size w v
theorem aJ {P:Program} {f:FuncId} {args:Array Value} {w:World} {R:Value→World→Prop} {R':Ending→World→Prop} (h:Calls P f args w fun e w'=>∃v,e= .returned v∧R v w') (hr:∀v w',R v w'→R' (.returned v) w'):Calls P f args w R':=
 h.mono fun e w' ⟨v,he,h⟩=>by subst he;exact hr v w' h
theorem aV {P:Program} {f:FuncId} {args:Array Value} {w:World} {V:(Value→World→Prop)→Prop} {R':Ending→World→Prop} (h:∀R,V R→Calls P f args w fun e w'=>∃v,e= .returned v∧R v w') (hv:V fun v w'=>R' (.returned v) w'):Calls P f args w R':=
 (h _ hv).mono fun e w' ⟨v,he,h⟩=>by subst he;exact h
theorem aK (w:World) (o:Obj):(w.alloc o).heap.size=w.heap.size+1:=by
 show(w.heap.push o).size=_;simp
theorem fE (w:World) (o:Obj) {k:Nat} (h:k<w.heap.size):(w.alloc o).heap[k]? =w.heap[k]? :=by
 show(w.heap.push o)[k]? =_;simp [Array.getElem?_push,Nat.ne_of_lt h]
theorem aq (w:World) (o:Obj):(w.alloc o).heap[w.heap.size]? =some o:=by
 show(w.heap.push o)[w.heap.size]? =_;simp
theorem bn (w:World) (c:Array Value) (e:TypeId) (j:Nat):(w.alloc (.cells c e)).cell? ⟨w.heap.size,j,none⟩=c[j]? :=by
 simp only [World.cell?,aq];rfl
theorem aQ {w:World} {b j:Nat} {c:Array Value} {e:TypeId} {fz:Nat×Nat} (h:w.heap[b]? =some (.cells c e fz)):w.cell? ⟨b,j,none⟩=c[j]? :=by
 simp only [World.cell?,h];rfl
theorem cd {w:World} {b j:Nat} {c:Array Value} {e:TypeId} (h:w.heap[b]? =some (.cells c e (0,0))):w.frozen? ⟨b,j,none⟩=false:=by
 simp [World.frozen?,h]
theorem cf {w:World} {b j:Nat} {c:Array Value} {e:TypeId} {fz:Nat×Nat} (h:w.heap[b]? =some (.cells c e fz)) (u:Value):(w.setCell ⟨b,j,none⟩ u).heap[b]? =some (.cells (c.setIfInBounds j u) e fz):=by
 simp [World.setCell,Array.getElem?_modify,h]
theorem dA {b:Nat} {e:TypeId} {k:World→Prop}:∀(vs:List Value) (i:Nat) (w:World) (c:Array Value) (o:Nat),w.heap[b]? =some (.cells c e (0,0))→o+i+vs.length≤c.size→(∀v∈vs,v.oneCell'=true)→
  (∀w',w'.heap[b]? =some (.cells (iQ c.toList (o+i) vs).toArray e (0,0))→(∀j,j≠b→w'.heap[j]? =w.heap[j]?)→w'.heap.size=w.heap.size→(∀B w0,B≤b→Below B w0 w→Below B w0 w')→k w')→aI w ⟨b,o,none⟩ k vs i
 | [],i,w,c,o,h,hl,h1,hk=>by
  rintro w' rfl;exact hk w' (by simpa [iQ]using h) (fun _ _=>rfl) rfl (fun _ _ _ h=>h)
 |v::r,i,w,c,o,h,hl,h1,hk=>by
  simp only [List.length_cons]at hl;have ha:(⟨b,o,none⟩:Addr).add i=⟨b,o+i,none⟩:=Addr.add_lit b o i;have hi:o+i<c.size:=by omega
  refine⟨h1 v (by simp),?_,?_,?_⟩
  ·rw [ha,aQ h];exact⟨c[o+i],by simp [hi]⟩
  ·rw [ha];exact cd h
  rw [ha];refine dA r (i+1) _ (c.setIfInBounds (o+i) v) o (cf h v) (by simp;omega) (fun u hu=>h1 u (by simp [hu])) ?_;intro w' hw hne hsz hB;refine hk w' ?_ (fun j hj=>(hne j hj).trans (Below.heap_setCell w ⟨b,o+i,none⟩ v j hj)) (by rw [hsz];simp [World.setCell]) (fun B w0 hb hBel=>hB B w0 hb (hBel.setCell (p:=⟨b,o+i,none⟩) hb v));rw [hw];congr 2;have hi':o+i<c.toList.length:=by simp;omega
  simp only [iQ,Array.toList_setIfInBounds,List.length_cons,List.set_eq_take_append_cons_drop,hi',if_true];have hlen:(c.toList.take (o+i)).length=o+i:=by rw [List.length_take];omega
  rw [show o+(i+1)=(c.toList.take (o+i)).length+1 from by omega,List.take_length_add_append,show(c.toList.take (o+i)).length+1+r.length=(c.toList.take (o+i)).length+(1+r.length)from by omega,List.drop_length_add_append];rw [Nat.add_comm 1 r.length];simp only [List.drop_succ_cons,List.drop_drop,List.take_succ_cons,List.take_zero,List.append_assoc,List.cons_append,List.nil_append];rw [show o+i+1+r.length=o+i+(r.length+1)from by omega]
theorem bg {w:World} {e:TypeId} {k:World→Prop} (z vs:List Value) (hz:z.length=vs.length) (h1:∀v∈vs,v.oneCell'=true) (w1:World) (hw:w1=w.alloc (.cells z.toArray e))
  (hk:∀w',w'.heap[w.heap.size]? =some (.cells vs.toArray e (0,0))→w'.heap.size=w.heap.size+1→ZH w w'→k w'):aI w1 (nb w) k vs 0:=by
 subst hw;refine dA vs 0 _ z.toArray 0 (aq w _) (by simp;omega) h1 ?_;intro w' h c a b;refine hk w' ?_ (by rw [a,aK]) (b _ w (XV _) ((Below.refl _ w).alloc (XV _) _));rw [h];congr 2;simp [iQ, ←hz]
theorem iI {w:World} {base:Nat} {e:TypeId} {size n:Nat} {v:Value} {xs:List Value} (h:w.ownsRow base e size v n xs):∃a c,v= .slice a n c∧n≤c:=by
 rcases h.2 with⟨rfl,rfl⟩ |⟨g,b,d,rfl,_,_,f,_⟩
 ·exact⟨none,0,rfl,XV _⟩
 ·exact⟨_,_,rfl,f⟩
theorem bL {w:World} {base:Nat} {e:TypeId} {size n:Nat} {v:Value} {xs:List Value} (h:w.ownsRow base e size v n xs):∀k,v.ownBlock=some k→base≤k∧k<w.heap.size:=by
 intro k a;rcases h.2 with⟨rfl,rfl⟩ |⟨g,b,c,rfl,d,f,_⟩
 ·cases a
 ·cases a;exact⟨d,(XY.1 f).1⟩
theorem cU (w:World) (base:Nat) (e:TypeId) (size:Nat):w.ownsRow base e size (.slice none 0 0) 0 []:=⟨by simp,.inl ⟨rfl,rfl⟩⟩
theorem iD {P:Program} (t e:TypeId) {z:Value} {size bytes:Nat} (ht:P.underlying t=some (.slice e)) (hi:(P.info? e).map (fun i=>(i.zero,i.size,i.bytes))=some (some z,size,bytes)) (hzs:z.cells.size=size) (hsz:0<size)
  {base:Nat} {w1:World} {v:Value} {n:Nat} {xs:List Value} (hown:w1.ownsRow base e size v n xs) (news:List Value) (hl:news.length=size) (h1:∀u∈news,u.oneCell'=true)
  (hbytes:(n+1)*bytes≤140737488355328) (h63:n+1≤140737488355328) (hbase:base≤w1.heap.size):
  ∃a' c' w3,(Builtin.append_ #[t,t] t #[v,.slice (some (nb w1)) 1 1]).run P (w1.alloc (.cells news.toArray e))= .ok (.slice a' (n+1) c') w3∧w3.ownsRow base e size (.slice a' (n+1) c') (n+1) (xs++news)∧
   (w1.alloc (.cells news.toArray e)).grownBy w3 v.ownBlock∧((Value.slice a' (n+1) c').ownBlock=v.ownBlock∨(Value.slice a' (n+1) c').ownBlock=some (w1.heap.size+1)):=by
 obtain⟨i,c,p,o,h⟩:=info_parts hi;obtain⟨q,w3,m,a,k,_,d⟩:=run_append_own_at (P:=P) (w1.alloc (.cells news.toArray e)) base t t e i z size bytes ht c p o h hzs hsz v n xs (hown.alloc _) (nb w1) 1 1 news (by omega)
  (fun j u f=>by
   have l:j<news.length:=(List.getElem?_eq_some_iff.1 f).1;have b:(nb w1).add j=⟨w1.heap.size,j,none⟩:=by
    unfold Addr.add nb;split
    ·rename_i g;subst g;rfl
    ·simp
   rw [b];rw [bn];simpa using f)
  h1 (by unfold maxLen;omega) hbytes (by rw [aK];omega)
 obtain⟨a',c',rfl,_⟩:=iI a;exact⟨a',c',w3,m,a,k,by rwa [aK]at d⟩
theorem fB {B:Nat} {w w1 w3:World} {e:TypeId} {size n:Nat} {v:Value} {xs:List Value} {o:Obj} (hb:Below B w w1) (hown:w1.ownsRow B e size v n xs) (hg:(w1.alloc o).grownBy w3 v.ownBlock) (hB:B≤w1.heap.size):Below B w w3:=
 (hb.alloc hB o).grown hg (by rw [aK];omega) fun k hk=>(bL hown k hk).1
theorem tC {w1 w3:World} {row:Option Nat} {o:Obj} (hg:(w1.alloc o).grownBy w3 row) {k:Nat} (hk:k<w1.heap.size) (hne:some k≠row):w3.heap[k]? =w1.heap[k]? :=by
 rw [hg.block k (by rw [aK];omega) hne,fE w1 o hk]
theorem vL {w1 w3:World} {row:Option Nat} {o:Obj} (hg:(w1.alloc o).grownBy w3 row):w1.heap.size+1≤w3.heap.size:=by
 have:=hg.size;rwa [aK]at this
theorem ar {w:World} {a:Addr} {u:Value} {k:Nat} (h:k≠a.block):(w.setCell a u).heap[k]? =w.heap[k]? :=Below.heap_setCell w a u k h
theorem ba (w:World) (a:Addr) (u:Value):(w.setCell a u).heap.size=w.heap.size:=by simp [World.setCell]
theorem bw {w:World} {base:Nat} {e:TypeId} {size n:Nat} {v:Value} {xs:List Value} (h:w.ownsRow base e size v n xs) {a:Addr} (u:Value) (hne:v.ownBlock≠some a.block):(w.setCell a u).ownsRow base e size v n xs:=by
 refine⟨h.1,?_⟩;rcases h.2 with f |⟨g,b,c,d,j,k,r⟩
 ·exact .inl f
 ·refine .inr ⟨g,b,c,d,j,?_,r⟩;rw [ar]
  ·exact k
  ·intro i;subst i;exact hne (by rw [d];rfl)
theorem qL {α:Type} (n:Nat) (Inv G:Nat→α→Prop) (last:∀x,Inv n x→G n x) (step:∀i,i<n→(∀x,Inv (i+1) x→G (i+1) x)→∀x,Inv i x→G i x):∀i,i≤n→∀x,Inv i x→G i x:=by
 have a:∀k i,i+k=n→∀x,Inv i x→G i x:=by
  intro k;induction k with
  |zero=>intro i b;have:i=n:=by omega
         subst this;exact last
  |succ k ih=>intro i b;exact step i (by omega) (ih (i+1) (by omega))
 intro i b;exact a (n-i) i (by omega)
theorem cL {k:IntKind} {z:Int} (h1:k.min≤z) (h2:z≤k.max):k.wrap z=z:=by
 cases k<;>simp [IntKind.wrap,IntKind.bits,IntKind.signed,IntKind.min,IntKind.max]at* <;>omega
theorem Ar.ok {k:IntKind} {z:Int} {F:Int→Prop} (h1:k.min≤z) (h2:z≤k.max) (h:F z):Ar k z F:=by
 unfold Ar;rw [cL h1 h2];exact h
theorem Ar.ok64 {z:Int} {F:Int→Prop} (h1: -9223372036854775808≤z) (h2:z≤9223372036854775807) (h:F z):Ar .i64 z F:=Ar.ok (k:=.i64) h1 h2 h
abbrev str (l:List UInt8):ByteArray:=⟨l.toArray⟩
theorem K1 (s:ByteArray):s=str s.data.toList:=by cases s;simp [str]
theorem aP (l:List UInt8):(str l).size=l.length:=by simp [str,ByteArray.size]
theorem cG (l:List UInt8):(str l).toList=l:=by rw [ByteArray.toList_eq]
theorem dB (l:List UInt8) (i:Nat) (h:i<l.length):dM (str l) (i:Int)=((l[i]).toNat:Int):=by
 simp [dM,str,XK h]
theorem nk (a b:List UInt8):str a++str b=str (a++b):=by
 apply ByteArray.ext;simp [str]
theorem eQ {P:Program} {src dst e:TypeId} (hs:P.underlying src=some (.slice e)) (he:P.underlying e=some (.int .u8)) (hd:P.underlying dst=some .string) {w:World} {base:Nat} {a:Option Addr} {n c:Nat} {l:List UInt8}
  (h:w.ownsRow base e 1 (.slice a n c) n (Lib.byteCells l)):(convert src dst (.slice a n c)).run P w= .ok (.string (str l)) w:=by
 have r:=h.1;rw [Lib.byteCells_length]at r;rcases h.2 with⟨d,m⟩ |⟨g,i,k,d,m,o,t,u,v,p⟩
 ·cases d;have:l= []:=List.eq_nil_of_length_eq_zero (by omega);subst this;exact run_convert_bytes_nil w src e hs he 0 0 dst hd
 ·cases d;have s:n=l.length:=by omega
  subst s;refine run_convert_bytes_back w src dst e ⟨g,0,none⟩ c l hs he hd ?_;intro j q;have b:(⟨g,0,none⟩:Addr).add j=⟨g,j,none⟩:=by unfold Addr.add;split<;>simp_all
  rw [b,aQ o];have f:(Lib.byteCells l)[j]? =some (.int .u8 (l[j].toNat:Int)):=by simp [Lib.byteCells,q]
  rw [←p,List.getElem?_take_of_lt (by omega)]at f;simpa using f
theorem eA {w:World} {base:Nat} {e:TypeId} {size n:Nat} {v:Value} {xs:List Value} (h:w.ownsRow base e size v n xs):w.drew.ownsRow base e size v n xs:=h
theorem tV (l:List UInt8) (b:UInt8):Lib.byteCells l++ [.int .u8 b.toNat]=Lib.byteCells (l++ [b]):=by simp [Lib.byteCells]
theorem aE {w w':World} {base:Nat} {e:TypeId} {size n:Nat} {v:Value} {xs:List Value} (h:w.ownsRow base e size v n xs) (hb:ZH w w'):w'.ownsRow base e size v n xs:=by
 refine⟨h.1,?_⟩;rcases h.2 with j |⟨g,a,b,d,f,c,i⟩
 ·exact .inl j
 ·exact .inr ⟨g,a,b,d,f,by rw [hb.block g (XY.1 c).1];exact c,i⟩
theorem ae {a b c:World} (h:ZH a b) (k:ZH b c):ZH a c:=h.trans (k.mono h.size)
theorem ah (w:World) (o:Obj):Below w.heap.size w (w.alloc o):=(Below.refl _ w).alloc (XV _) o
theorem jg (l:List UInt8) (a b:Nat):(str l).extract a b=str ((l.drop a).take (b-a)):=by
 apply ByteArray.ext;simp [str]
theorem ay (a:Addr) (k:Nat):(a.add k).block=a.block:=by
 unfold Addr.add;split<;>rfl
theorem aG (b o n:Nat):Addr.add ⟨b,o,none⟩ n=⟨b,o+n,none⟩:=Addr.add_lit b o n
section
variable {H:Type} {enc:TypeId×Value→H}
theorem Hw {C:Checked} {os:Os} {f:FuncId} {fn:Func} {s:ChangeSpec} {laid:List (String×DataW Unit)}
  (own:ownKnob C.prog.godebug=none) (started:os.Started) (noInit:C.prog.inits.idxOf? f=none) (hfn:C.prog.funcs[f]? =some fn)
  (witness:∃(w:World) (tape:Tape) (i:Input),w.os=os∧(w.forCall tape i).Shaped C.prog∧i.vars= []∧Input.okWide C.prog (w.forCall tape i) .any w.heap.size f i∧
   ((s.pre enc C.prog fn [] false (w.forCall tape i).memory i.args∧laidMetH C.prog laid (w.forCall tape i).memory)∧sizedMet enc C.prog fn (OpenSpec.ofChange s) false (w.forCall tape i).memory i.args)∧({}:Assume).holds C.prog (lone (Frame.enter C.prog f i.args .normal) [] (w.forCall tape i)))
  (contract:∀(W:World) (base:Nat) (args:Array Value) (ds gs:List (DataW H)) (before:List MemPlace),
   (∀(j:Nat) t v,fn.params[j]? =some t→args[j]? =some v→Value.okWide C.prog W .any base t v)→
   DataW.Whole enc C.prog fn.params.toList s.vars false W args.toList ds gs before→
   (DataW.weightsEach C.prog (fn.params.toList++s.plain.varTypes C.prog) (ds++gs)).all (·≤reachBytes)=true→
   laidMetH C.prog laid W→W.ShapedOpen C.prog→
   Calls C.prog f args W fun e W'=>∃v,e= .returned v∧s.post enc C.prog fn false true false false W args v W'):
  ReturnsInHanded {} C os f .any (fun w args=>(s.pre enc C.prog fn [] false w args∧laidMetH C.prog laid w)∧sizedMet enc C.prog fn (OpenSpec.ofChange s) false w args) (s.post enc C.prog fn false true false false):=by
 refine returnsInHanded_of_calls own started noInit witness ?_;intro w tape i _ a _ h c _;obtain⟨_,_,_,g,b,_,_,_,_,d⟩:=h;obtain rfl:g=fn:=Option.some.inj (b.symm.trans hfn);obtain⟨⟨⟨ds,gs,before,k,_⟩,m⟩,n⟩:=c;refine(contract (w.forCall tape i) w.heap.size i.args ds gs before d (DataW.Whole.of_heap (w':=w.forCall tape i) (by rfl) k) (n.weights k) (m.of_heap (by rfl)) a).mono ?_;rintro e W' ⟨v,rfl,l⟩;exact ChangeSpec.post_blind l
end
structure Sl where
 a:Option Addr
 n:Nat
 c:Nat
abbrev Sl.v (s:Sl):Value:=.slice s.a s.n s.c
structure ik where
 sl:Sl
 e:TypeId
 sz:Nat
 xs:List Value
def ik.blk (r:ik):Option Nat:=r.sl.v.ownBlock
def zz (r r':ik):Prop:=∀k,r.blk=some k→r'.blk≠some k
structure dF (w:World) (B:Nat) (rows:List ik):Prop where
 own:∀r∈rows,w.ownsRow B r.e r.sz r.sl.v r.sl.n r.xs
 apart:rows.Pairwise zz
theorem dF.lt {w:World} {B:Nat} {rows:List ik} (h:dF w B rows) {r:ik} (hr:r∈rows):∀k,r.blk=some k→B≤k∧k<w.heap.size:=bL (h.own r hr)
theorem dF.on {w w':World} {B:Nat} {rows:List ik} (h:dF w B rows) (hb:ZH w w'):dF w' B rows:=
 ⟨fun r hr=>aE (h.own r hr) hb,h.apart⟩
theorem aN {w w':World} {B:Nat} {e:TypeId} {size n:Nat} {v:Value} {xs:List Value} (h:w.ownsRow B e size v n xs) (hb:∀k,v.ownBlock=some k→w'.heap[k]? =w.heap[k]?):w'.ownsRow B e size v n xs:=by
 refine⟨h.1,?_⟩;rcases h.2 with j |⟨g,a,b,c,d,f,i⟩
 ·exact .inl j
 ·exact .inr ⟨g,a,b,c,d,by rw [hb g (by rw [c];rfl)];exact f,i⟩
theorem dF.same {w w':World} {B:Nat} {rows:List ik} (h:dF w B rows) (hb:∀r∈rows,∀k,r.blk=some k→w'.heap[k]? =w.heap[k]?):dF w' B rows:=
 ⟨fun r hr=>aN (h.own r hr) (hb r hr),h.apart⟩
theorem dF.setCell {w:World} {B:Nat} {rows:List ik} (h:dF w B rows) (a:Addr) (u:Value) (hne:∀r∈rows,r.blk≠some a.block):dF (w.setCell a u) B rows:=
 h.same fun r hr k hk=>ar fun e=>hne r hr (by rw [hk,e])
theorem D8 {pre post:List ik} {r r':ik} {top:Nat} (h:(pre++r::post).Pairwise zz) (hlt:∀x∈pre++r::post,∀k,x.blk=some k→k<top) (hr:∀k,r'.blk=some k→r.blk=some k∨top≤k):(pre++r'::post).Pairwise zz:=by
 rw [List.pairwise_append,List.pairwise_cons]at h⊢;obtain⟨g,⟨i,j⟩,f⟩:=h;refine⟨g,⟨fun y a k b=>?_,j⟩,fun x d y a=>?_⟩
 ·rcases hr k b with e |e
  ·exact i y a k e
  ·intro c;have:=hlt y (by simp [a]) k c;omega
 ·rcases List.mem_cons.1 a with rfl |a
  ·intro k b c;rcases hr k c with e |e
   ·exact f x d r (by simp) k b e
   ·have:=hlt x (by simp [d]) k b;omega
  ·exact f x d y (by simp [a])
theorem dF.push {P:Program} (t:TypeId) {z:Value} {bytes:Nat} {w1:World} {B:Nat} {pre post:List ik} {r:ik} (h:dF w1 B (pre++r::post)) (ht:P.underlying t=some (.slice r.e)) (hi:(P.info? r.e).map (fun i=>(i.zero,i.size,i.bytes))=some (some z,r.sz,bytes)) (hzs:z.cells.size=r.sz) (hsz:0<r.sz)
  (news:List Value) (hl:news.length=r.sz) (h1:∀u∈news,u.oneCell'=true) (hbytes:(r.sl.n+1)*bytes≤140737488355328) (h63:r.sl.n+1≤140737488355328) (hB:B≤w1.heap.size):
  ∃a' c' w3,(Builtin.append_ #[t,t] t #[r.sl.v,.slice (some (nb w1)) 1 1]).run P (w1.alloc (.cells news.toArray r.e))= .ok (.slice a' (r.sl.n+1) c') w3∧
   dF w3 B (pre++⟨⟨a',r.sl.n+1,c'⟩,r.e,r.sz,r.xs++news⟩::post)∧(∀k,k<w1.heap.size→r.blk≠some k→w3.heap[k]? =w1.heap[k]?)∧
   (∀k,(Value.slice a' (r.sl.n+1) c').ownBlock=some k→r.blk=some k∨w1.heap.size<k)∧(∀w0,Below B w0 w1→Below B w0 w3)∧w1.heap.size<w3.heap.size:=by
 have j:=h.own r (by simp);obtain⟨a',c',w3,v,l,m,n⟩:=iD (P:=P) t r.e ht hi hzs hsz j news hl h1 hbytes h63 hB;have c:∀k,k<w1.heap.size→r.blk≠some k→w3.heap[k]? =w1.heap[k]? :=fun k b o=>tC m b (fun e=>o e.symm);have g:∀k,(Value.slice a' (r.sl.n+1) c').ownBlock=some k→r.blk=some k∨w1.heap.size<k:=by
  intro k b;rcases n with e |e
  ·rw [e]at b;exact .inl b
  ·rw [e]at b;cases b;exact .inr (by omega)
 have p:=vL m;refine⟨a',c',w3,v,⟨?_,D8 (top:=w1.heap.size) h.apart (fun x d k b=>(h.lt d k b).2) fun k b=>(g k b).imp id Nat.le_of_lt⟩,c,g,fun w0 s=>fB s j m hB,by omega⟩;intro x d;have f:∀y∈pre++r::post,zz r y∨zz y r→w3.ownsRow B y.e y.sz y.sl.v y.sl.n y.xs:=by
  intro y q a;refine aN (h.own y q) fun k b=>c k (h.lt q k b).2 fun e=>?_;rcases a with a |a
  ·exact a k e b
  ·exact a k b e
 have a:=h.apart;rw [List.pairwise_append,List.pairwise_cons]at a;rcases List.mem_append.1 d with d |d
 ·exact f x (by simp [d]) (.inr (a.2.2 x d r (by simp)))
 ·rcases List.mem_cons.1 d with rfl |d
  ·exact l
  ·exact f x (by simp [d]) (.inl (a.2.1.1 x d))
def lU (s:Sl):Prop:=s=⟨none,0,0⟩∨∃a,s.a=some a
theorem qc {P:Program} (t e:TypeId) {z:Value} {size bytes:Nat} (ht:P.underlying t=some (.slice e)) (hi:(P.info? e).map (fun i=>(i.zero,i.size,i.bytes))=some (some z,size,bytes)) (hzs:z.cells.size=size) (hsz:0<size)
  {base:Nat} {w1:World} {v:Value} {n:Nat} {xs:List Value} (hown:w1.ownsRow base e size v n xs) (src:Sl) (hsrc:lU src) (news:List Value) (hl:news.length=src.n*size)
  (hcells:∀a,src.a=some a→∀j u,news[j]? =some u→w1.cell? (a.add j)=some u) (h1:∀u∈news,u.oneCell'=true)
  (hbytes:(n+src.n)*bytes≤140737488355328) (h63:n+src.n≤140737488355328) (hbase:base≤w1.heap.size):
  ∃a' c' w3,(Builtin.append_ #[t,t] t #[v,src.v]).run P w1= .ok (.slice a' (n+src.n) c') w3∧w3.ownsRow base e size (.slice a' (n+src.n) c') (n+src.n) (xs++news)∧
   (∀w0,Below base w0 w1→Below base w0 w3)∧(∀k,k<w1.heap.size→v.ownBlock≠some k→w3.heap[k]? =w1.heap[k]?)∧∀k,(Value.slice a' (n+src.n) c').ownBlock=some k→v.ownBlock=some k∨w1.heap.size≤k:=by
 obtain⟨i,f,s,r,d⟩:=info_parts hi;obtain⟨y,x,w⟩:=src;rcases hsrc with h |⟨a,o⟩
 ·cases h;have p:news= []:=List.eq_nil_of_length_eq_zero (by simpa using hl);subst p;obtain⟨a',c',rfl,_⟩:=iI hown;exact⟨a',c',w1,run_append_owned_none w1 base t t e i size ht f _ n xs hown,by simpa using hown,fun w0 d=>d,fun _ _ _=>rfl,fun k c=>.inl c⟩
 ·cases o;obtain⟨A,w3,q,b,m,_,g⟩:=run_append_own_at (P:=P) w1 base t t e i z size bytes ht f s r d hzs hsz v n xs hown a x w news hl (hcells a rfl) h1 (by unfold maxLen;dsimp only at h63;omega) hbytes hbase;obtain⟨a',c',rfl,_⟩:=iI b;refine⟨a',c',w3,q,b,fun w0 d=>d.grown m hbase fun k c=>(bL hown k c).1,fun k c l=>m.block k c (fun e=>l e.symm),fun k c=>?_⟩;rcases g with h |h
  ·exact .inl (by rw [←h];exact c)
  ·rw [h]at c;cases c;exact .inr (XV _)
theorem nE {P:Program} (t e:TypeId) {z:Value} {size bytes:Nat} (ht:P.underlying t=some (.slice e)) (hi:(P.info? e).map (fun i=>(i.zero,i.size,i.bytes))=some (some z,size,bytes)) (hzs:z.cells.size=size) (hsz:0<size)
  {base:Nat} {w1:World} {v:Value} {n:Nat} {xs:List Value} (hown:w1.ownsRow base e size v n xs) (src:Sl) (hsrc:lU src) (news:List Value) (hl:news.length=src.n*size)
  (hcells:∀a,src.a=some a→∀j u,news[j]? =some u→w1.cell? (a.add j)=some u) (h1:∀u∈news,u.oneCell'=true)
  (hbytes:(n+src.n)*bytes≤140737488355328) (h63:n+src.n≤140737488355328) (hbase:base≤w1.heap.size):
  ∃a' c' w3,(Builtin.append_ #[t,t] t #[v,src.v]).run P w1= .ok (.slice a' (n+src.n) c') w3∧w3.ownsRow base e size (.slice a' (n+src.n) c') (n+src.n) (xs++news)∧
   (∀w0,Below base w0 w1→Below base w0 w3)∧(∀k,k<w1.heap.size→v.ownBlock≠some k→w3.heap[k]? =w1.heap[k]?):=by
 obtain⟨a',c',w3,b,c,d,f,_⟩:=qc t e ht hi hzs hsz hown src hsrc news hl hcells h1 hbytes h63 hbase;exact⟨a',c',w3,b,c,d,f⟩
open Go Go.RowKit Go.Deep
theorem qI {α:Type} {p:Nat→α→Prop}:∀n:Nat,(∀i,i<n→∃m,p i m)→∃xs:List α,xs.length=n∧∀i x,xs[i]? =some x→p i x
 |0,_=>⟨[],rfl,fun i x h=>by simp at h⟩
 |n+1,h=>by
  obtain⟨xs,hl,hx⟩:=qI n fun i hi=>h i (by omega);obtain⟨m,hm⟩:=h n (by omega);refine⟨xs++ [m],by simp [hl],fun i x hi=>?_⟩;rcases Nat.lt_trichotomy i xs.length with h1 |h1 |h1
  ·rw [List.getElem?_append_left h1]at hi;exact hx i x hi
  ·subst h1;rw [List.getElem?_append_right (XV _)]at hi;simp at hi;subst hi;rw [hl];exact hm
  ·rw [List.getElem?_append_right (by omega)]at hi;have:=(List.getElem?_eq_some_iff.1 hi).1;simp at this;omega
theorem iy {P:Program} {H:Type} {enc0:TypeId×Value→H} {w:World} {base:Nat} {spare:Nat→Bool} {held:Bool} {t e:TypeId} {fuel:Nat} {cs:List Value} {x:DataW H×List MemPlace} {α:Type} {enc:α→List Value} {sz:Nat} (ht:P.underlying t=some (.slice e)) (hc:P.cellsOf e=sz) (hsz:∀m,(enc m).length=sz) (h0:0<sz)
  (hel:∀n cs' y,DataW.trod enc0 P w base spare held n e cs'=some y→∃m:α,cs'=enc m) (h:DataW.trod enc0 P w base spare held fuel t cs=some x):
  ∃(s:Sl) (xs:List α),cs= [s.v]∧s.n=xs.length∧lU s∧s.n≤s.c∧s.c≤maxLen∧
   ∀(j:Nat) (m:α),xs[j]? =some m→∃p,s.a=some p∧p.block<w.heap.size∧∀(k:Nat) (v:Value),(enc m)[k]? =some v→w.cell? ((p.add (j*sz)).add k)=some v:=by
 rcases open_slice ht h with⟨rfl,_⟩ |⟨a,c,g,m,n,D,I,rfl,J,C,F,o,rfl,G⟩
 ·exact⟨⟨none,0,0⟩,[],rfl,rfl,.inl rfl,XV _,Nat.zero_le _,fun j m f=>by simp at f⟩
 ·have E:c≤m:=by rw [o];split<;>omega
  obtain⟨xs,q,d⟩:=qI (α:=α) (p:=fun i u=>w.cells? base (a.add (i*sz)) sz=some (enc u)) c (fun i K=>by
   obtain⟨cs',r,B⟩:=G i (by omega);rw [hc]at r;obtain⟨u,rfl⟩:=hel _ _ _ B;exact⟨u,r⟩)
  refine⟨⟨some a,c,g⟩,xs,rfl,q.symm,.inr ⟨a,rfl⟩,C,F,fun j u f=>⟨a,rfl,?_,fun k v A=>?_⟩⟩
  ·obtain⟨_,_,b⟩:=World.cells?_some (d j u f);have z:=b 0 h0;have l:0< (enc u).length:=by rw [hsz];exact h0
   rw [XK l]at z;have:=World.block_lt_of_cell? _ _ z;rwa [ay,ay]at this
  ·obtain⟨_,_,b⟩:=World.cells?_some (d j u f);rw [b k (by rw [←hsz u];exact(List.getElem?_eq_some_iff.1 A).1)];exact A
set_option maxRecDepth 100000
open Go Go.RowKit Go.ChangeShapes Go.WideShapes
def Kx:List UInt8:=[48,49,50,51,52,53,54,55,56,57,97,98,99,100,101,102]
def hx (n:Nat):UInt8:=Kx.getD n 0
def step (n:Nat) (b:UInt8):Nat:=10*n+(b.toNat-48)
abbrev Bs:=List UInt8
structure am where
 ranked:Bool:=false
 merges:List (Int×Int):=[]
 tokens:List Bs:=[]
 specials:List (Int×Bs):=[]
 classes:List (Int×Int×Int):=[]
 joins:List (Int×Int):=[]
 deriving DecidableEq
def fp (m:Int×Int):Bool:=decide (0≤m.1∧m.1≤999∧0≤m.2∧m.2≤999)
def gK (s:Bs):Bool:=decide (2≤s.length∧s.length≤64)
def bF (x:Int×Bs):Bool:=decide (0≤x.1∧x.1≤1073741824∧1≤x.2.length∧x.2.length≤64)
def bh (c:Int×Int×Int):Bool:=decide (0≤c.1∧c.1≤c.2.1∧c.2.1≤255∧0≤c.2.2∧c.2.2≤15)
def cO (j:Int×Int):Bool:=decide (0≤j.1∧j.1≤15∧0≤j.2∧j.2≤15)
def cF {α:Type} (l:List α) (most:Nat) (may:α→Bool):Bool:=decide (l.length≤most)&&l.all may
def am.right (s:am):Bool:=
 (if s.ranked then s.merges.isEmpty else s.tokens.isEmpty)&&cF s.merges 744 fp&&cF s.tokens 744 gK&&cF s.specials 32 bF&&cF s.classes 64 bh&&cF s.joins 64 cO
def wG:Bs:=[118,111,99,97,98]
def oW:Bs:=[109,101,114,103,101,115]
def xn:Bs:=[114,97,110,107,115]
def wU:Bs:=[109,101,114,103,101]
def wv:Bs:=[116,111,107,101,110]
def jH:Bs:=[115,112,101,99,105,97,108]
def pp:Bs:=[99,108,97,115,115]
def Gs:Bs:=[106,111,105,110]
theorem iU {s:am} (h:s.right=true):(if s.ranked then s.merges.isEmpty else s.tokens.isEmpty)=true∧cF s.merges 744 fp=true∧cF s.tokens 744 gK=true∧cF s.specials 32 bF=true∧cF s.classes 64 bh=true∧cF s.joins 64 cO=true:=by
 unfold am.right at h;simp only [Bool.and_eq_true]at h;obtain⟨⟨⟨⟨⟨a,b⟩,c⟩,d⟩,e⟩,f⟩:=h;exact⟨a,b,c,d,e,f⟩
abbrev kI:TypeId:=5
abbrev ic:TypeId:=57
theorem Fq:(Tryz.prog.info? kI).map (fun i=>(i.zero,i.size,i.bytes))=some (some (.int .u8 0),1,1):=by kernel_rfl
theorem gc:Tryz.prog.underlying ic=some (.slice kI):=by kernel_rfl
abbrev dN:TypeId:=9
theorem m':Tryz.prog.underlying dN=some .string:=by kernel_rfl
theorem vP:Tryz.prog.underlying kI=some (.int .u8):=by kernel_rfl
abbrev eH:TypeId:=32
theorem jc:Tryz.prog.underlying eH=some (.slice dN):=by kernel_rfl
theorem jk:(Tryz.prog.info? dN).map (fun i=>(i.zero,i.size,i.bytes))=some (some (.string ⟨#[]⟩),1,16):=by kernel_rfl
def S4 (n:Int):Prop:= -9223372036854775808≤n∧n≤9223372036854775807
def fW (xs:List (List UInt8)):List Value:=xs.map fun x=>.string (str x)
def Kd (w:World) (a:Option Addr) (ns:List Int):Prop:=∀(j:Nat) (n:Int),ns[j]? =some n→∃x,a=some x∧x.block<w.heap.size∧w.cell? (x.add j)=some (.int .i64 n)
def dy (w:World) (a:Option Addr) (xs:List (List UInt8)):Prop:=∀(j:Nat) (s:List UInt8),xs[j]? =some s→∃x,a=some x∧x.block<w.heap.size∧w.cell? (x.add j)=some (.string (str s))
theorem dy.on {w w':World} {a:Option Addr} {xs:List (List UInt8)} (h:dy w a xs) (hb:ZH w w'):dy w' a xs:=by
 intro j s c;obtain⟨x,rfl,d,b⟩:=h j s c;exact⟨x,rfl,Nat.lt_of_lt_of_le d hb.size,by rw [hb.cell (by rwa [ay])];exact b⟩
theorem dy.of_own {w:World} {base:Nat} {a:Option Addr} {n c:Nat} {xs:List (List UInt8)} (h:w.ownsRow base dN 1 (.slice a n c) n (fW xs)):dy w a xs∧n=xs.length∧n≤c:=by
 have r:=h.1;rw [show(fW xs).length=xs.length by simp [fW]]at r;refine⟨?_,by omega,?_⟩
 ·intro j s i;have q:=(List.getElem?_eq_some_iff.1 i).1;rcases h.2 with⟨b,m⟩ |⟨g,k,l,b,m,d,v,x,y,o⟩
  ·omega
  ·cases b;refine⟨_,rfl,(XY.1 d).1,?_⟩;rw [aG,Nat.zero_add,aQ d];have f:(fW xs)[j]? =some (.string (str s)):=by simp [fW,i]
   rw [←o,List.getElem?_take_of_lt (by omega)]at f;simpa using f
 ·obtain⟨t,u,e,p⟩:=iI h;cases e;exact p
def Rw {α:Type} (enc:α→List Value) (sz:Nat) (w:World) (a:Option Addr) (xs:List α):Prop:=∀(j:Nat) (x:α),xs[j]? =some x→∃p,a=some p∧p.block<w.heap.size∧∀(k:Nat) (v:Value),(enc x)[k]? =some v→w.cell? ((p.add (j*sz)).add k)=some v
theorem Rw.on {α:Type} {enc:α→List Value} {sz:Nat} {w w':World} {a:Option Addr} {xs:List α} (h:Rw enc sz w a xs) (hb:ZH w w'):Rw enc sz w' a xs:=by
 intro j x d;obtain⟨p,rfl,b,c⟩:=h j x d;refine⟨p,rfl,Nat.lt_of_lt_of_le b hb.size,fun k v e=>?_⟩;rw [hb.cell (by rw [ay,ay];exact b)];exact c k v e
theorem aC (a:Addr):a.add 0=a:=by simp [Addr.add]
def be (m:Int×Int):List Value:=[.int .i64 m.1,.int .i64 m.2]
def cz (s:Bs):List Value:=[.string (str s)]
def aM (x:Int×Bs):List Value:=[.int .i64 x.1,.string (str x.2)]
def bS (c:Int×Int×Int):List Value:=[.int .i64 c.1,.int .i64 c.2.1,.int .i64 c.2.2]
theorem dD (n lo hi:Int) (w:World):CP 196 #[.int .i64 n,.int .i64 lo,.int .i64 hi] w fun e w'=>e= .returned (.bool (decide (lo≤n∧n≤hi)))∧ZH w w':=by
 refine aJ (Cv n lo hi w (fun v w'=>v= .bool (decide (lo≤n∧n≤hi))∧ZH w w') ?_) (by rintro v w' ⟨rfl,h⟩;exact⟨rfl,h⟩);refine ac.mk ?_ ?_
 ·intro h;have h:=XQ h;refine⟨?_,Below.refl _ _⟩;congr 1;exact decide_eq_decide.2 ⟨fun e=>⟨by omega,e⟩,fun e=>e.2⟩
 ·intro h;have h:=XX h;refine⟨?_,Below.refl _ _⟩;rw [XZ (by omega)]
theorem q_ (m:Int×Int) (w:World):CP 148 #[.agg #[.int .i64 m.1,.int .i64 m.2]] w fun e w'=>e= .returned (.bool (fp m))∧ZH w w':=by
 refine aJ (xZ m.1 m.2 w (fun v w'=>v= .bool (fp m)∧ZH w w') ?_) (by rintro v w' ⟨rfl,h⟩;exact⟨rfl,h⟩);rintro f rfl;have b:=ah w (.cells #[Value.int .i64 m.1,Value.int .i64 m.2] 85);refine⟨m.1,by rw [aG,bn];rfl,?_⟩;refine(dD m.1 0 999 _).mono ?_;rintro e d ⟨rfl,a⟩;refine⟨_,rfl,ac.mk ?_ ?_⟩
 ·intro h;have h:=XQ h;refine⟨m.2,by rw [aG,a.cell (by rw [aK];exact Nat.lt_succ_self _),bn];rfl,?_⟩;refine(dD m.2 0 999 d).mono ?_;rintro e g ⟨rfl,c⟩;refine⟨_,rfl,?_,ae b (ae a c)⟩;congr 1;unfold fp;exact decide_eq_decide.2 (by omega)
 ·intro h;have h:=XX h;refine⟨?_,ae b a⟩;congr 1;unfold fp;exact(XZ (by omega)).symm
theorem sM (m:Int×Int) (w:World):CP 156 #[.agg #[.int .i64 m.1,.int .i64 m.2]] w fun e w'=>e= .returned (.bool (cO m))∧ZH w w':=by
 refine aJ (AQ m.1 m.2 w (fun v w'=>v= .bool (cO m)∧ZH w w') ?_) (by rintro v w' ⟨rfl,h⟩;exact⟨rfl,h⟩);rintro f rfl;have b:=ah w (.cells #[Value.int .i64 m.1,Value.int .i64 m.2] 170);refine⟨m.1,by rw [aG,bn];rfl,?_⟩;refine(dD m.1 0 15 _).mono ?_;rintro e d ⟨rfl,a⟩;refine⟨_,rfl,ac.mk ?_ ?_⟩
 ·intro h;have h:=XQ h;refine⟨m.2,by rw [aG,a.cell (by rw [aK];exact Nat.lt_succ_self _),bn];rfl,?_⟩;refine(dD m.2 0 15 d).mono ?_;rintro e g ⟨rfl,c⟩;refine⟨_,rfl,?_,ae b (ae a c)⟩;congr 1;unfold cO;exact decide_eq_decide.2 (by omega)
 ·intro h;have h:=XX h;refine⟨?_,ae b a⟩;congr 1;unfold cO;exact(XZ (by omega)).symm
theorem rm (s:Bs) (w:World):CP 150 #[.string (str s)] w fun e w'=>e= .returned (.bool (gK s))∧ZH w w':=by
 refine aJ (Cg (str s) w (fun v w'=>v= .bool (gK s)∧ZH w w') ?_) (by rintro v w' ⟨rfl,h⟩;exact⟨rfl,h⟩);refine(dD _ 2 64 w).mono ?_;rintro e b ⟨rfl,a⟩;refine⟨_,rfl,?_,a⟩;congr 1;unfold gK;rw [aP];exact decide_eq_decide.2 (by omega)
theorem nO (x:Int×Bs) (w:World):CP 152 #[.agg #[.int .i64 x.1,.string (str x.2)]] w fun e w'=>e= .returned (.bool (bF x))∧ZH w w':=by
 refine aJ (yP x.1 (str x.2) w (fun v w'=>v= .bool (bF x)∧ZH w w') ?_) (by rintro v w' ⟨rfl,h⟩;exact⟨rfl,h⟩);rintro f rfl;have b:=ah w (.cells #[Value.int .i64 x.1,Value.string (str x.2)] 87);refine⟨x.1,by rw [aG,bn];rfl,?_⟩;refine(dD x.1 0 1073741824 _).mono ?_;rintro e d ⟨rfl,a⟩;refine⟨_,rfl,ac.mk ?_ ?_⟩
 ·intro h;have h:=XQ h;refine⟨str x.2,by rw [aG,a.cell (by rw [aK];exact Nat.lt_succ_self _),bn];rfl,?_⟩;refine(dD _ 1 64 d).mono ?_;rintro e g ⟨rfl,c⟩;refine⟨_,rfl,?_,ae b (ae a c)⟩;congr 1;unfold bF;rw [aP];exact decide_eq_decide.2 (by omega)
 ·intro h;have h:=XX h;refine⟨?_,ae b a⟩;congr 1;unfold bF;exact(XZ (by omega)).symm
theorem rd (c:Int×Int×Int) (w:World):CP 154 #[.agg #[.int .i64 c.1,.int .i64 c.2.1,.int .i64 c.2.2]] w fun e w'=>e= .returned (.bool (bh c))∧ZH w w':=by
 refine aJ (Dd c.1 c.2.1 c.2.2 w (fun v w'=>v= .bool (bh c)∧ZH w w') ?_) (by rintro v w' ⟨rfl,h⟩;exact⟨rfl,h⟩);rintro i rfl;have d:=ah w (.cells #[Value.int .i64 c.1,Value.int .i64 c.2.1,Value.int .i64 c.2.2] 89);refine⟨c.1,by rw [aG,bn];rfl,c.2.1,by rw [aG,bn];rfl,?_⟩;refine(dD c.1 0 c.2.1 _).mono ?_;rintro e g ⟨rfl,a⟩;refine⟨_,rfl,ac.mk ?_ ?_⟩
 ·intro h;have h:=XQ h;refine⟨c.2.1,by rw [aG,a.cell (by rw [aK];exact Nat.lt_succ_self _),bn];rfl,ac.mk ?_ ?_⟩
  ·intro b;have b:=XQ b;refine⟨c.2.2,by rw [aG,a.cell (by rw [aK];exact Nat.lt_succ_self _),bn];rfl,?_⟩;refine(dD c.2.2 0 15 g).mono ?_;rintro e j ⟨rfl,f⟩;refine⟨_,rfl,?_,ae d (ae a f)⟩;congr 1;unfold bh;exact decide_eq_decide.2 (by omega)
  ·intro b;have b:=XX b;refine⟨?_,ae d a⟩;congr 1;unfold bh;exact(XZ (by omega)).symm
 ·intro h;have h:=XX h;refine⟨?_,ae d a⟩;congr 1;unfold bh;exact(XZ (by omega)).symm
theorem bM.mono {C:ig} {f:Value} {args:List Value} {w:World} {R R':Ending→World→Prop} (h:bM C f args w R) (hr:∀e w',R e w'→R' e w'):bM C f args w R':=by
 unfold bM at h⊢;split at h
 ·split at h
  ·exact h.mono hr
  ·obtain⟨v,w',a,b⟩:=h;exact⟨v,w',a,hr _ _ b⟩
 ·exact h.elim
theorem b_ {g:FuncId} {cap:Array Value} {args:List Value} {w:World} {R:Ending→World→Prop} (hg:gq.fns g=true) (h:CP g (args++cap.toList).toArray w R):bM gq (.func (.func g) #[] cap) args w R:=by
 unfold bM;simp only [hg];exact h
def vy {α:Type} (p:α→Bool) (xs:List α):Int:=match xs.findIdx? p with
 |some i=>(i:Int)
 |none=> -1
theorem mm {α:Type} (p:α→Bool) (xs:List α):decide (vy p xs≥0)=xs.any p:=by
 unfold vy;cases h:xs.findIdx? p with
 |none=>
  rw [List.findIdx?_eq_none_iff]at h;have:xs.any p=false:=by
   rw [List.any_eq_false];intro x b;simpa using h x b
  rw [this];rfl
 |some i=>
  have a:=List.findIdx?_eq_some_iff_getElem.1 h;have:xs.any p=true:=List.any_eq_true.2 ⟨xs[i]'a.1,List.getElem_mem a.1,a.2.1⟩;rw [this];exact XJ (by simp)
theorem gn {α:Type} {p:α→Bool} {xs:List α} {i:Nat} (h:i<xs.length) (hp:p xs[i]=true) (hb:∀j (hj:j<i),p (xs[j]'(by omega))=false):vy p xs=i:=by
 have:xs.findIdx? p=some i:=List.findIdx?_eq_some_iff_getElem.2 ⟨h,hp,fun j hj=>by simpa using hb j hj⟩;unfold vy;rw [this]
theorem dY {α:Type} {p:α→Bool} {xs:List α} (hb:∀j (hj:j<xs.length),p (xs[j])=false):vy p xs= -1:=by
 have:xs.findIdx? p=none:=by
  rw [List.findIdx?_eq_none_iff];intro x a;obtain⟨j,hj,rfl⟩:=List.getElem_of_mem a;exact hb j hj
 unfold vy;rw [this]
theorem oI {α:Type} (p:α→Bool) (xs:List α):(!xs.any fun x=> !p x)=xs.all p:=by
 induction xs with
 |nil=>rfl
 |cons x xs ih=>simp only [List.any_cons,List.all_cons,Bool.not_or,Bool.not_not,ih]
theorem Cm (a:Option Addr) (c:Nat) (xs:List (Int×Int)) (f:Value) (p:Int×Int→Bool) (w:World) (hr:Rw be 2 w a xs) (hl:xs.length≤1000000000000000)
  (hf:∀x∈xs,∀w1,ZH w w1→bM gq f [.agg #[.int .i64 x.1,.int .i64 x.2]] w1 (fun e w2=>e= .returned (.bool (p x))∧ZH w1 w2)):
  CP 243 #[.slice a xs.length c,f] w fun e w'=>e= .returned (.int .i64 (vy p xs))∧ZH w w':=by
 refine aV (A5 a xs.length c f w) ?_;intro I o;have m:=qL (α:=Int×World) xs.length (fun i x=>(∀j (b:j<xs.length),j<i→p xs[j]=false)∧ZH w x.2) (fun i x=>I [.int .i64 (i:Int),.int .i64 x.1] x.2) ?_ ?_ 0 (Nat.zero_le _) (0,w)
 ·exact m ⟨fun j _ b=>absurd b (Nat.not_lt_zero j),Below.refl _ _⟩
 ·rintro⟨y,w1⟩ ⟨h,d⟩;exact o _ _ _ (ac.no (by simp) ⟨by rw [dY fun j b=>h j b b],d⟩)
 ·rintro i k t ⟨y,w1⟩ ⟨h,d⟩;obtain⟨q,s,_,g⟩:=(hr.on d) i _ (XK k);refine o _ _ _ (ac.yes (by simp;omega) (ag.mk q s ⟨by omega,by omega,xs[i].1,xs[i].2,⟨by have:=g 0 _ rfl;simpa [aC]using this,by have:=g 1 _ rfl;simpa using this,trivial⟩,?_⟩));refine(hf xs[i] (List.getElem_mem k) w1 d).mono ?_;rintro e w2 ⟨rfl,n⟩;refine⟨_,rfl,ac.mk ?_ ?_⟩
  ·intro l;exact⟨by rw [gn k l fun j b=>h j (by omega) b],ae d n⟩
  ·intro l;refine Ar.ok64 (by omega) (by omega) (t (y,w2) ⟨?_,ae d n⟩);intro j b r;by_cases he:j=i
   ·subst he;exact l
   ·exact h j b (by omega)
theorem rY (a:Option Addr) (c:Nat) (xs:List (Int×Int)) (f:Value) (p:Int×Int→Bool) (w:World) (hr:Rw be 2 w a xs) (hl:xs.length≤1000000000000000)
  (hf:∀x∈xs,∀w1,ZH w w1→bM gq f [.agg #[.int .i64 x.1,.int .i64 x.2]] w1 (fun e w2=>e= .returned (.bool (p x))∧ZH w1 w2)):
  CP 194 #[.slice a xs.length c,f] w fun e w'=>e= .returned (.bool (xs.any p))∧ZH w w':=by
 refine aV (BK a xs.length c f w) ?_;refine(Cm a c xs f p w hr hl hf).mono ?_;rintro e w1 ⟨rfl,b⟩;exact⟨_,rfl,by rw [mm],b⟩
theorem Hc (x:Int×Int) (cb:Nat) (may:Value) (p:Int×Int→Bool) (w:World) (hcb:cb<w.heap.size) (hc:w.cell? ⟨cb,0,none⟩=some may) (hm:∀w1,bM gq may [.agg #[.int .i64 x.1,.int .i64 x.2]] w1 (fun e w2=>e= .returned (.bool (p x))∧ZH w1 w2)):
  CP 195 #[.agg #[.int .i64 x.1,.int .i64 x.2],.pointer (some ⟨cb,0,none⟩)] w fun e w'=>e= .returned (.bool (!p x))∧ZH w w':=by
 refine aV (zE (x.1) (x.2) (some ⟨cb,0,none⟩) w) ?_;rintro w1 rfl;have a:=ah w (.cells #[Value.int .i64 x.1,Value.int .i64 x.2] 85);refine⟨may,by rw [a.cell hcb];exact hc,x.1,x.2,⟨by rw [bn];rfl,by rw [aG,bn];rfl,trivial⟩,?_⟩;refine(hm _).mono ?_;rintro e w2 ⟨rfl,b⟩;exact⟨_,rfl,rfl,ae a b⟩
theorem vw (a:Option Addr) (c most:Nat) (xs:List (Int×Int)) (w:World) (hr:Rw be 2 w a xs) (hm:most≤1000000):
  CP 147 #[.slice a xs.length c,.int .i64 most,.func (.func 148) #[] #[]] w fun e w'=>e= .returned (.bool (cF xs most fp))∧ZH w w':=by
 refine aV (zp a xs.length c most (.func (.func 148) #[] #[]) w) ?_;rintro f rfl;refine ac.mk ?_ ?_
 ·intro h;have h:=XQ h;have d:=ah w (.cells (Value.cells (.func (.func 148) #[] #[])) 234);refine(rY a c xs _ (fun x=> !fp x) _ (hr.on d) (by omega) ?_).mono ?_
  ·intro x j f b;refine b_ (by kernel_rfl) ?_;refine Hc x w.heap.size (.func (.func 148) #[] #[]) fp f (Nat.lt_of_lt_of_le (by rw [aK];exact Nat.lt_succ_self _) b.size) (by rw [b.cell (by rw [aK];exact Nat.lt_succ_self _),bn];rfl) ?_;intro g;exact b_ (by kernel_rfl) (q_ x g)
  ·rintro e g ⟨rfl,i⟩;refine⟨_,rfl,?_,ae d i⟩;rw [oI,cF,XJ (show xs.length≤most by omega)];rfl
 ·intro h;have h:=XX h;refine⟨?_,ah _ _⟩;rw [cF,XZ (show ¬xs.length≤most by omega)];rfl
theorem Cd (a:Option Addr) (c:Nat) (xs:List (Bs)) (f:Value) (p:Bs→Bool) (w:World) (hr:Rw cz 1 w a xs) (hl:xs.length≤1000000000000000)
  (hf:∀x∈xs,∀w1,ZH w w1→bM gq f [.string (str x)] w1 (fun e w2=>e= .returned (.bool (p x))∧ZH w1 w2)):
  CP 244 #[.slice a xs.length c,f] w fun e w'=>e= .returned (.int .i64 (vy p xs))∧ZH w w':=by
 refine aV (xY a xs.length c f w) ?_;intro I o;have m:=qL (α:=Int×World) xs.length (fun i x=>(∀j (b:j<xs.length),j<i→p xs[j]=false)∧ZH w x.2) (fun i x=>I [.int .i64 (i:Int),.int .i64 x.1] x.2) ?_ ?_ 0 (Nat.zero_le _) (0,w)
 ·exact m ⟨fun j _ b=>absurd b (Nat.not_lt_zero j),Below.refl _ _⟩
 ·rintro⟨y,w1⟩ ⟨g,d⟩;exact o _ _ _ (ac.no (by simp) ⟨by rw [dY fun j b=>g j b b],d⟩)
 ·rintro i k t ⟨y,w1⟩ ⟨g,d⟩;obtain⟨q,s,_,h⟩:=(hr.on d) i _ (XK k);refine o _ _ _ (ac.yes (by simp;omega) (ag.mk q s ⟨by omega,by omega,str xs[i],by have:=h 0 _ rfl;simpa [aC]using this,?_⟩));refine(hf xs[i] (List.getElem_mem k) w1 d).mono ?_;rintro e w2 ⟨rfl,n⟩;refine⟨_,rfl,ac.mk ?_ ?_⟩
  ·intro l;exact⟨by rw [gn k l fun j b=>g j (by omega) b],ae d n⟩
  ·intro l;refine Ar.ok64 (by omega) (by omega) (t (y,w2) ⟨?_,ae d n⟩);intro j b r;by_cases he:j=i
   ·subst he;exact l
   ·exact g j b (by omega)
theorem ui (a:Option Addr) (c:Nat) (xs:List (Bs)) (f:Value) (p:Bs→Bool) (w:World) (hr:Rw cz 1 w a xs) (hl:xs.length≤1000000000000000)
  (hf:∀x∈xs,∀w1,ZH w w1→bM gq f [.string (str x)] w1 (fun e w2=>e= .returned (.bool (p x))∧ZH w1 w2)):
  CP 197 #[.slice a xs.length c,f] w fun e w'=>e= .returned (.bool (xs.any p))∧ZH w w':=by
 refine aV (Ce a xs.length c f w) ?_;refine(Cd a c xs f p w hr hl hf).mono ?_;rintro e w1 ⟨rfl,b⟩;exact⟨_,rfl,by rw [mm],b⟩
theorem Gx (x:Bs) (cb:Nat) (may:Value) (p:Bs→Bool) (w:World) (hcb:cb<w.heap.size) (hc:w.cell? ⟨cb,0,none⟩=some may) (hm:∀w1,bM gq may [.string (str x)] w1 (fun e w2=>e= .returned (.bool (p x))∧ZH w1 w2)):
  CP 198 #[.string (str x),.pointer (some ⟨cb,0,none⟩)] w fun e w'=>e= .returned (.bool (!p x))∧ZH w w':=by
 refine aV (zA (str x) (some ⟨cb,0,none⟩) w) ?_;refine⟨may,hc,?_⟩;refine(hm w).mono ?_;rintro e w2 ⟨rfl,a⟩;exact⟨_,rfl,rfl,a⟩
theorem Ha (a:Option Addr) (c most:Nat) (xs:List (Bs)) (w:World) (hr:Rw cz 1 w a xs) (hm:most≤1000000):
  CP 149 #[.slice a xs.length c,.int .i64 most,.func (.func 150) #[] #[]] w fun e w'=>e= .returned (.bool (cF xs most gK))∧ZH w w':=by
 refine aV (C5 a xs.length c most (.func (.func 150) #[] #[]) w) ?_;rintro f rfl;refine ac.mk ?_ ?_
 ·intro h;have h:=XQ h;have d:=ah w (.cells (Value.cells (.func (.func 150) #[] #[])) 78);refine(ui a c xs _ (fun x=> !gK x) _ (hr.on d) (by omega) ?_).mono ?_
  ·intro x j f b;refine b_ (by kernel_rfl) ?_;refine Gx x w.heap.size (.func (.func 150) #[] #[]) gK f (Nat.lt_of_lt_of_le (by rw [aK];exact Nat.lt_succ_self _) b.size) (by rw [b.cell (by rw [aK];exact Nat.lt_succ_self _),bn];rfl) ?_;intro g;exact b_ (by kernel_rfl) (rm x g)
  ·rintro e g ⟨rfl,i⟩;refine⟨_,rfl,?_,ae d i⟩;rw [oI,cF,XJ (show xs.length≤most by omega)];rfl
 ·intro h;have h:=XX h;refine⟨?_,ah _ _⟩;rw [cF,XZ (show ¬xs.length≤most by omega)];rfl
theorem qF (a:Option Addr) (c:Nat) (xs:List (Int×Bs)) (f:Value) (p:Int×Bs→Bool) (w:World) (hr:Rw aM 2 w a xs) (hl:xs.length≤1000000000000000)
  (hf:∀x∈xs,∀w1,ZH w w1→bM gq f [.agg #[.int .i64 x.1,.string (str x.2)]] w1 (fun e w2=>e= .returned (.bool (p x))∧ZH w1 w2)):
  CP 132 #[.slice a xs.length c,f] w fun e w'=>e= .returned (.int .i64 (vy p xs))∧ZH w w':=by
 refine aV (yF a xs.length c f w) ?_;intro I o;have m:=qL (α:=Int×World) xs.length (fun i x=>(∀j (b:j<xs.length),j<i→p xs[j]=false)∧ZH w x.2) (fun i x=>I [.int .i64 (i:Int),.int .i64 x.1] x.2) ?_ ?_ 0 (Nat.zero_le _) (0,w)
 ·exact m ⟨fun j _ b=>absurd b (Nat.not_lt_zero j),Below.refl _ _⟩
 ·rintro⟨y,w1⟩ ⟨h,d⟩;exact o _ _ _ (ac.no (by simp) ⟨by rw [dY fun j b=>h j b b],d⟩)
 ·rintro i k t ⟨y,w1⟩ ⟨h,d⟩;obtain⟨q,s,_,g⟩:=(hr.on d) i _ (XK k);refine o _ _ _ (ac.yes (by simp;omega) (ag.mk q s ⟨by omega,by omega,xs[i].1,str xs[i].2,⟨by have:=g 0 _ rfl;simpa [aC]using this,by have:=g 1 _ rfl;simpa using this,trivial⟩,?_⟩));refine(hf xs[i] (List.getElem_mem k) w1 d).mono ?_;rintro e w2 ⟨rfl,n⟩;refine⟨_,rfl,ac.mk ?_ ?_⟩
  ·intro l;exact⟨by rw [gn k l fun j b=>h j (by omega) b],ae d n⟩
  ·intro l;refine Ar.ok64 (by omega) (by omega) (t (y,w2) ⟨?_,ae d n⟩);intro j b r;by_cases he:j=i
   ·subst he;exact l
   ·exact h j b (by omega)
theorem tJ (a:Option Addr) (c:Nat) (xs:List (Int×Bs)) (f:Value) (p:Int×Bs→Bool) (w:World) (hr:Rw aM 2 w a xs) (hl:xs.length≤1000000000000000)
  (hf:∀x∈xs,∀w1,ZH w w1→bM gq f [.agg #[.int .i64 x.1,.string (str x.2)]] w1 (fun e w2=>e= .returned (.bool (p x))∧ZH w1 w2)):
  CP 199 #[.slice a xs.length c,f] w fun e w'=>e= .returned (.bool (xs.any p))∧ZH w w':=by
 refine aV (Cj a xs.length c f w) ?_;refine(qF a c xs f p w hr hl hf).mono ?_;rintro e w1 ⟨rfl,b⟩;exact⟨_,rfl,by rw [mm],b⟩
theorem Gw (x:Int×Bs) (cb:Nat) (may:Value) (p:Int×Bs→Bool) (w:World) (hcb:cb<w.heap.size) (hc:w.cell? ⟨cb,0,none⟩=some may) (hm:∀w1,bM gq may [.agg #[.int .i64 x.1,.string (str x.2)]] w1 (fun e w2=>e= .returned (.bool (p x))∧ZH w1 w2)):
  CP 200 #[.agg #[.int .i64 x.1,.string (str x.2)],.pointer (some ⟨cb,0,none⟩)] w fun e w'=>e= .returned (.bool (!p x))∧ZH w w':=by
 refine aV (Dg (x.1) (str x.2) (some ⟨cb,0,none⟩) w) ?_;rintro w1 rfl;have a:=ah w (.cells #[Value.int .i64 x.1,Value.string (str x.2)] 87);refine⟨may,by rw [a.cell hcb];exact hc,x.1,str x.2,⟨by rw [bn];rfl,by rw [aG,bn];rfl,trivial⟩,?_⟩;refine(hm _).mono ?_;rintro e w2 ⟨rfl,b⟩;exact⟨_,rfl,rfl,ae a b⟩
theorem G' (a:Option Addr) (c most:Nat) (xs:List (Int×Bs)) (w:World) (hr:Rw aM 2 w a xs) (hm:most≤1000000):
  CP 151 #[.slice a xs.length c,.int .i64 most,.func (.func 152) #[] #[]] w fun e w'=>e= .returned (.bool (cF xs most bF))∧ZH w w':=by
 refine aV (BJ a xs.length c most (.func (.func 152) #[] #[]) w) ?_;rintro f rfl;refine ac.mk ?_ ?_
 ·intro h;have h:=XQ h;have d:=ah w (.cells (Value.cells (.func (.func 152) #[] #[])) 218);refine(tJ a c xs _ (fun x=> !bF x) _ (hr.on d) (by omega) ?_).mono ?_
  ·intro x j f b;refine b_ (by kernel_rfl) ?_;refine Gw x w.heap.size (.func (.func 152) #[] #[]) bF f (Nat.lt_of_lt_of_le (by rw [aK];exact Nat.lt_succ_self _) b.size) (by rw [b.cell (by rw [aK];exact Nat.lt_succ_self _),bn];rfl) ?_;intro g;exact b_ (by kernel_rfl) (nO x g)
  ·rintro e g ⟨rfl,i⟩;refine⟨_,rfl,?_,ae d i⟩;rw [oI,cF,XJ (show xs.length≤most by omega)];rfl
 ·intro h;have h:=XX h;refine⟨?_,ah _ _⟩;rw [cF,XZ (show ¬xs.length≤most by omega)];rfl
theorem Ad (a:Option Addr) (c:Nat) (xs:List (Int×Int×Int)) (f:Value) (p:Int×Int×Int→Bool) (w:World) (hr:Rw bS 3 w a xs) (hl:xs.length≤1000000000000000)
  (hf:∀x∈xs,∀w1,ZH w w1→bM gq f [.agg #[.int .i64 x.1,.int .i64 x.2.1,.int .i64 x.2.2]] w1 (fun e w2=>e= .returned (.bool (p x))∧ZH w1 w2)):
  CP 245 #[.slice a xs.length c,f] w fun e w'=>e= .returned (.int .i64 (vy p xs))∧ZH w w':=by
 refine aV (yJ a xs.length c f w) ?_;intro I o;have m:=qL (α:=Int×World) xs.length (fun i x=>(∀j (b:j<xs.length),j<i→p xs[j]=false)∧ZH w x.2) (fun i x=>I [.int .i64 (i:Int),.int .i64 x.1] x.2) ?_ ?_ 0 (Nat.zero_le _) (0,w)
 ·exact m ⟨fun j _ b=>absurd b (Nat.not_lt_zero j),Below.refl _ _⟩
 ·rintro⟨y,w1⟩ ⟨h,g⟩;exact o _ _ _ (ac.no (by simp) ⟨by rw [dY fun j b=>h j b b],g⟩)
 ·rintro i k t ⟨y,w1⟩ ⟨h,g⟩;obtain⟨q,s,_,d⟩:=(hr.on g) i _ (XK k);refine o _ _ _ (ac.yes (by simp;omega) (ag.mk q s ⟨by omega,by omega,xs[i].1,xs[i].2.1,xs[i].2.2,⟨by have:=d 0 _ rfl;simpa [aC]using this,by have:=d 1 _ rfl;simpa using this,by have:=d 2 _ rfl;simpa using this,trivial⟩,?_⟩));refine(hf xs[i] (List.getElem_mem k) w1 g).mono ?_;rintro e w2 ⟨rfl,n⟩;refine⟨_,rfl,ac.mk ?_ ?_⟩
  ·intro l;exact⟨by rw [gn k l fun j b=>h j (by omega) b],ae g n⟩
  ·intro l;refine Ar.ok64 (by omega) (by omega) (t (y,w2) ⟨?_,ae g n⟩);intro j b r;by_cases he:j=i
   ·subst he;exact l
   ·exact h j b (by omega)
theorem tA (a:Option Addr) (c:Nat) (xs:List (Int×Int×Int)) (f:Value) (p:Int×Int×Int→Bool) (w:World) (hr:Rw bS 3 w a xs) (hl:xs.length≤1000000000000000)
  (hf:∀x∈xs,∀w1,ZH w w1→bM gq f [.agg #[.int .i64 x.1,.int .i64 x.2.1,.int .i64 x.2.2]] w1 (fun e w2=>e= .returned (.bool (p x))∧ZH w1 w2)):
  CP 201 #[.slice a xs.length c,f] w fun e w'=>e= .returned (.bool (xs.any p))∧ZH w w':=by
 refine aV (BX a xs.length c f w) ?_;refine(Ad a c xs f p w hr hl hf).mono ?_;rintro e w1 ⟨rfl,b⟩;exact⟨_,rfl,by rw [mm],b⟩
theorem Hj (x:Int×Int×Int) (cb:Nat) (may:Value) (p:Int×Int×Int→Bool) (w:World) (hcb:cb<w.heap.size) (hc:w.cell? ⟨cb,0,none⟩=some may) (hm:∀w1,bM gq may [.agg #[.int .i64 x.1,.int .i64 x.2.1,.int .i64 x.2.2]] w1 (fun e w2=>e= .returned (.bool (p x))∧ZH w1 w2)):
  CP 202 #[.agg #[.int .i64 x.1,.int .i64 x.2.1,.int .i64 x.2.2],.pointer (some ⟨cb,0,none⟩)] w fun e w'=>e= .returned (.bool (!p x))∧ZH w w':=by
 refine aV (zl (x.1) (x.2.1) (x.2.2) (some ⟨cb,0,none⟩) w) ?_;rintro w1 rfl;have a:=ah w (.cells #[Value.int .i64 x.1,Value.int .i64 x.2.1,Value.int .i64 x.2.2] 89);refine⟨may,by rw [a.cell hcb];exact hc,x.1,x.2.1,x.2.2,⟨by rw [bn];rfl,by rw [aG,bn];rfl,by rw [aG,bn];rfl,trivial⟩,?_⟩;refine(hm _).mono ?_;rintro e w2 ⟨rfl,b⟩;exact⟨_,rfl,rfl,ae a b⟩
theorem GI (a:Option Addr) (c most:Nat) (xs:List (Int×Int×Int)) (w:World) (hr:Rw bS 3 w a xs) (hm:most≤1000000):
  CP 153 #[.slice a xs.length c,.int .i64 most,.func (.func 154) #[] #[]] w fun e w'=>e= .returned (.bool (cF xs most bh))∧ZH w w':=by
 refine aV (zg a xs.length c most (.func (.func 154) #[] #[]) w) ?_;rintro f rfl;refine ac.mk ?_ ?_
 ·intro h;have h:=XQ h;have d:=ah w (.cells (Value.cells (.func (.func 154) #[] #[])) 238);refine(tA a c xs _ (fun x=> !bh x) _ (hr.on d) (by omega) ?_).mono ?_
  ·intro x j f b;refine b_ (by kernel_rfl) ?_;refine Hj x w.heap.size (.func (.func 154) #[] #[]) bh f (Nat.lt_of_lt_of_le (by rw [aK];exact Nat.lt_succ_self _) b.size) (by rw [b.cell (by rw [aK];exact Nat.lt_succ_self _),bn];rfl) ?_;intro g;exact b_ (by kernel_rfl) (rd x g)
  ·rintro e g ⟨rfl,i⟩;refine⟨_,rfl,?_,ae d i⟩;rw [oI,cF,XJ (show xs.length≤most by omega)];rfl
 ·intro h;have h:=XX h;refine⟨?_,ah _ _⟩;rw [cF,XZ (show ¬xs.length≤most by omega)];rfl
theorem Cy (a:Option Addr) (c:Nat) (xs:List (Int×Int)) (f:Value) (p:Int×Int→Bool) (w:World) (hr:Rw be 2 w a xs) (hl:xs.length≤1000000000000000)
  (hf:∀x∈xs,∀w1,ZH w w1→bM gq f [.agg #[.int .i64 x.1,.int .i64 x.2]] w1 (fun e w2=>e= .returned (.bool (p x))∧ZH w1 w2)):
  CP 246 #[.slice a xs.length c,f] w fun e w'=>e= .returned (.int .i64 (vy p xs))∧ZH w w':=by
 refine aV (AE a xs.length c f w) ?_;intro I o;have m:=qL (α:=Int×World) xs.length (fun i x=>(∀j (b:j<xs.length),j<i→p xs[j]=false)∧ZH w x.2) (fun i x=>I [.int .i64 (i:Int),.int .i64 x.1] x.2) ?_ ?_ 0 (Nat.zero_le _) (0,w)
 ·exact m ⟨fun j _ b=>absurd b (Nat.not_lt_zero j),Below.refl _ _⟩
 ·rintro⟨y,w1⟩ ⟨h,d⟩;exact o _ _ _ (ac.no (by simp) ⟨by rw [dY fun j b=>h j b b],d⟩)
 ·rintro i k t ⟨y,w1⟩ ⟨h,d⟩;obtain⟨q,s,_,g⟩:=(hr.on d) i _ (XK k);refine o _ _ _ (ac.yes (by simp;omega) (ag.mk q s ⟨by omega,by omega,xs[i].1,xs[i].2,⟨by have:=g 0 _ rfl;simpa [aC]using this,by have:=g 1 _ rfl;simpa using this,trivial⟩,?_⟩));refine(hf xs[i] (List.getElem_mem k) w1 d).mono ?_;rintro e w2 ⟨rfl,n⟩;refine⟨_,rfl,ac.mk ?_ ?_⟩
  ·intro l;exact⟨by rw [gn k l fun j b=>h j (by omega) b],ae d n⟩
  ·intro l;refine Ar.ok64 (by omega) (by omega) (t (y,w2) ⟨?_,ae d n⟩);intro j b r;by_cases he:j=i
   ·subst he;exact l
   ·exact h j b (by omega)
theorem rW (a:Option Addr) (c:Nat) (xs:List (Int×Int)) (f:Value) (p:Int×Int→Bool) (w:World) (hr:Rw be 2 w a xs) (hl:xs.length≤1000000000000000)
  (hf:∀x∈xs,∀w1,ZH w w1→bM gq f [.agg #[.int .i64 x.1,.int .i64 x.2]] w1 (fun e w2=>e= .returned (.bool (p x))∧ZH w1 w2)):
  CP 203 #[.slice a xs.length c,f] w fun e w'=>e= .returned (.bool (xs.any p))∧ZH w w':=by
 refine aV (Bb a xs.length c f w) ?_;refine(Cy a c xs f p w hr hl hf).mono ?_;rintro e w1 ⟨rfl,b⟩;exact⟨_,rfl,by rw [mm],b⟩
theorem GW (x:Int×Int) (cb:Nat) (may:Value) (p:Int×Int→Bool) (w:World) (hcb:cb<w.heap.size) (hc:w.cell? ⟨cb,0,none⟩=some may) (hm:∀w1,bM gq may [.agg #[.int .i64 x.1,.int .i64 x.2]] w1 (fun e w2=>e= .returned (.bool (p x))∧ZH w1 w2)):
  CP 204 #[.agg #[.int .i64 x.1,.int .i64 x.2],.pointer (some ⟨cb,0,none⟩)] w fun e w'=>e= .returned (.bool (!p x))∧ZH w w':=by
 refine aV (Bg (x.1) (x.2) (some ⟨cb,0,none⟩) w) ?_;rintro w1 rfl;have a:=ah w (.cells #[Value.int .i64 x.1,Value.int .i64 x.2] 170);refine⟨may,by rw [a.cell hcb];exact hc,x.1,x.2,⟨by rw [bn];rfl,by rw [aG,bn];rfl,trivial⟩,?_⟩;refine(hm _).mono ?_;rintro e w2 ⟨rfl,b⟩;exact⟨_,rfl,rfl,ae a b⟩
theorem G6 (a:Option Addr) (c most:Nat) (xs:List (Int×Int)) (w:World) (hr:Rw be 2 w a xs) (hm:most≤1000000):
  CP 155 #[.slice a xs.length c,.int .i64 most,.func (.func 156) #[] #[]] w fun e w'=>e= .returned (.bool (cF xs most cO))∧ZH w w':=by
 refine aV (Av a xs.length c most (.func (.func 156) #[] #[]) w) ?_;rintro f rfl;refine ac.mk ?_ ?_
 ·intro h;have h:=XQ h;have d:=ah w (.cells (Value.cells (.func (.func 156) #[] #[])) 240);refine(rW a c xs _ (fun x=> !cO x) _ (hr.on d) (by omega) ?_).mono ?_
  ·intro x j f b;refine b_ (by kernel_rfl) ?_;refine GW x w.heap.size (.func (.func 156) #[] #[]) cO f (Nat.lt_of_lt_of_le (by rw [aK];exact Nat.lt_succ_self _) b.size) (by rw [b.cell (by rw [aK];exact Nat.lt_succ_self _),bn];rfl) ?_;intro g;exact b_ (by kernel_rfl) (sM x g)
  ·rintro e g ⟨rfl,i⟩;refine⟨_,rfl,?_,ae d i⟩;rw [oI,cF,XJ (show xs.length≤most by omega)];rfl
 ·intro h;have h:=XX h;refine⟨?_,ah _ _⟩;rw [cF,XZ (show ¬xs.length≤most by omega)];rfl
structure bk where
 ranked:Bool
 s1:Sl
 s2:Sl
 s3:Sl
 s4:Sl
 s5:Sl
abbrev bk.cells (x:bk):Array Value:=#[.bool x.ranked,x.s1.v,x.s2.v,x.s3.v,x.s4.v,x.s5.v]
abbrev bk.v (x:bk):Value:=.agg x.cells
structure cY (w:World) (x:bk) (s:am):Prop where
 ranked:x.ranked=s.ranked
 n1:x.s1.n=s.merges.length
 r1:Rw be 2 w x.s1.a s.merges
 n2:x.s2.n=s.tokens.length
 r2:Rw cz 1 w x.s2.a s.tokens
 n3:x.s3.n=s.specials.length
 r3:Rw aM 2 w x.s3.a s.specials
 n4:x.s4.n=s.classes.length
 r4:Rw bS 3 w x.s4.a s.classes
 n5:x.s5.n=s.joins.length
 r5:Rw be 2 w x.s5.a s.joins
theorem cY.on {w w':World} {x:bk} {s:am} (h:cY w x s) (hb:ZH w w'):cY w' x s:=
 ⟨h.ranked,h.n1,h.r1.on hb,h.n2,h.r2.on hb,h.n3,h.r3.on hb,h.n4,h.r4.on hb,h.n5,h.r5.on hb⟩
theorem Hk {w w1:World} {c:Array Value} {e:TypeId} {j:Nat} (h:Below (w.alloc (.cells c e)).heap.size (w.alloc (.cells c e)) w1):w1.cell? ⟨w.heap.size,j,none⟩=c[j]? :=by
 rw [h.cell (by rw [aK];exact Nat.lt_succ_self _),bn]
theorem un (x:bk) (s:am) (w:World) (h:cY w x s):
  CP 101 #[x.v] w fun e w'=>e= .returned (.bool s.right)∧ZH w w':=by
 refine aJ (BE x.ranked x.s1.a x.s1.n x.s1.c x.s2.a x.s2.n x.s2.c x.s3.a x.s3.n x.s3.c x.s4.a x.s4.n x.s4.c x.s5.a x.s5.n x.s5.c w (fun v w'=>v= .bool s.right∧ZH w w') ?_) (by rintro v w' ⟨rfl,h⟩;exact⟨rfl,h⟩);rintro O rfl;have r:=ah w (.cells x.cells 71);have q:=h.on r;have o:∀j,(w.alloc (.cells x.cells 71)).cell? ((nb w).add j)=x.cells[j]? :=fun j=>by rw [aG,Nat.zero_add,bn]
 have n:(if s.ranked then s.merges.isEmpty else s.tokens.isEmpty)=true→∀(A:Bool),A=cF s.merges 744 fp→∀f,Below (w.alloc (.cells x.cells 71)).heap.size (w.alloc (.cells x.cells 71)) f→
   ac A
    (∃lA:Option Addr,∃lN:Nat,∃lC:Nat,f.cell? ((nb w).add 2)=some (Value.slice lA lN lC)∧
     CP 149 #[Value.slice lA lN lC,Value.int .i64 744,Value.func (.func 150) #[] #[]] f (fun B d=>
      ∃b_12:Bool,B= .returned (Value.bool b_12)∧
      ac b_12
       (∃lA:Option Addr,∃lN:Nat,∃lC:Nat,d.cell? ((nb w).add 3)=some (Value.slice lA lN lC)∧
        CP 151 #[Value.slice lA lN lC,Value.int .i64 32,Value.func (.func 152) #[] #[]] d (fun C u=>
         ∃b_16:Bool,C= .returned (Value.bool b_16)∧
         ac b_16
          (∃lA:Option Addr,∃lN:Nat,∃lC:Nat,u.cell? ((nb w).add 4)=some (Value.slice lA lN lC)∧
           CP 153 #[Value.slice lA lN lC,Value.int .i64 64,Value.func (.func 154) #[] #[]] u (fun I y=>
            ∃b_20:Bool,I= .returned (Value.bool b_20)∧
            ac b_20
             (∃lA:Option Addr,∃lN:Nat,∃lC:Nat,y.cell? ((nb w).add 5)=some (Value.slice lA lN lC)∧
              CP 155 #[Value.slice lA lN lC,Value.int .i64 64,Value.func (.func 156) #[] #[]] y (fun J F=>
               ∃b_24:Bool,J= .returned (Value.bool b_24)∧(Value.bool b_24= .bool s.right∧ZH w F)))
             (Value.bool false= .bool s.right∧ZH w y)))
          (Value.bool false= .bool s.right∧ZH w u)))
       (Value.bool false= .bool s.right∧ZH w d)))
    (Value.bool false= .bool s.right∧ZH w f):=by
  intro E A t f m;have z:∀ {d:World} (j:Nat),Below (w.alloc (.cells x.cells 71)).heap.size (w.alloc (.cells x.cells 71)) d→d.cell? ((nb w).add j)=x.cells[j]? :=fun j m=>by rw [aG,Nat.zero_add,Hk m]
  have l:∀ {d:World},s.right=false→Below (w.alloc (.cells x.cells 71)).heap.size (w.alloc (.cells x.cells 71)) d→(Value.bool false= .bool s.right∧ZH w d):=fun e m=>⟨by rw [e],ae r m⟩;refine ac.mk ?_ fun e=>l (by unfold am.right;rw [←t,e];simp) m;intro G;refine⟨_,_,_,z 2 m,?_⟩;rw [h.n2];refine(Ha x.s2.a x.s2.c 744 s.tokens f (q.r2.on m) (by omega)).mono ?_;rintro e d ⟨rfl,K⟩;have g:=ae m K;refine⟨_,rfl,ac.mk ?_ fun e=>l (by unfold am.right;rw [e];simp) g⟩;intro H;refine⟨_,_,_,z 3 g,?_⟩;rw [h.n3];refine(G' x.s3.a x.s3.c 32 s.specials d (q.r3.on g) (by omega)).mono ?_;rintro e u ⟨rfl,L⟩;have i:=ae g L;refine⟨_,rfl,ac.mk ?_ fun e=>l (by unfold am.right;rw [e];simp) i⟩;intro B;refine⟨_,_,_,z 4 i,?_⟩;rw [h.n4];refine(GI x.s4.a x.s4.c 64 s.classes u (q.r4.on i) (by omega)).mono ?_;rintro e y ⟨rfl,M⟩;have k:=ae i M;refine⟨_,rfl,ac.mk ?_ fun e=>l (by unfold am.right;rw [e];simp) k⟩;intro C;refine⟨_,_,_,z 5 k,?_⟩;rw [h.n5];refine(G6 x.s5.a x.s5.c 64 s.joins y (q.r5.on k) (by omega)).mono ?_;rintro e F ⟨rfl,N⟩;refine⟨_,rfl,?_,ae r (ae k N)⟩;congr 1;unfold am.right;rw [E, ←t,G,H,B,C];rfl
 refine⟨_,o 0,ac.mk ?_ ?_⟩
 ·intro a;have a:s.ranked=true:=by rw [←h.ranked];exact a
  refine⟨_,_,_,o 1,ac.mk ?_ ?_⟩
  ·intro c;have c:=XQ c;refine⟨?_,r⟩;congr 1;unfold am.right;have:s.merges.isEmpty=false:=by cases hh:s.merges with |nil=>rw [h.n1,hh]at c;simp at c |cons _ _=>rfl
   rw [if_pos a,this];rfl
  ·intro c;have c:=XX c;have p:s.merges= []:=List.eq_nil_of_length_eq_zero (by rw [h.n1]at c;omega);refine⟨_,o 0,ac.no (by rw [h.ranked,a];rfl) ?_⟩;refine⟨_,_,_,o 1,?_⟩;have b:=vw x.s1.a x.s1.c 744 s.merges _ q.r1 (by omega);rw [←h.n1]at b;refine b.mono ?_;rintro e f ⟨rfl,D⟩;exact⟨_,rfl,n (by rw [if_pos a,p];rfl) _ rfl f D⟩
 ·intro a;have a:s.ranked=false:=by rw [←h.ranked];exact a
  refine⟨_,o 0,ac.yes (by rw [h.ranked,a];rfl) ?_⟩;refine⟨_,_,_,o 2,ac.mk ?_ ?_⟩
  ·intro c;have c:=XQ c;refine⟨?_,r⟩;congr 1;unfold am.right;have:s.tokens.isEmpty=false:=by cases hh:s.tokens with |nil=>rw [h.n2,hh]at c;simp at c |cons _ _=>rfl
   rw [if_neg (by rw [a];simp),this];rfl
  ·intro c;have c:=XX c;have p:s.tokens= []:=List.eq_nil_of_length_eq_zero (by rw [h.n2]at c;omega);refine⟨_,_,_,o 1,?_⟩;have b:=vw x.s1.a x.s1.c 744 s.merges _ q.r1 (by omega);rw [←h.n1]at b;refine b.mono ?_;rintro e f ⟨rfl,D⟩;exact⟨_,rfl,n (by rw [if_neg (by rw [a];simp),p];rfl) _ rfl f D⟩
theorem aZ {α:Type} (n:Nat) (Inv G:Nat→α→Prop) (x0:α) (h0:Inv 0 x0) (step:∀i,i<n→(∀x,Inv (i+1) x→G (i+1) x)→∀x,Inv i x→G i x) (last:∀x,Inv n x→G n x):G 0 x0:=
 qL n Inv G last step 0 (Nat.zero_le _) x0 h0
theorem bu {w:World} {b j:Nat} {c:Array Value} {e:TypeId} (h:w.heap[b]? =some (.cells c e (0,0))) (v:Value):(w.setCell ((⟨b,0,none⟩:Addr).add j) v).heap[b]? =some (.cells (c.setIfInBounds j v) e (0,0)):=by
 rw [aG,Nat.zero_add];exact cf h v
theorem aF {w:World} {b j:Nat} {c:Array Value} {e:TypeId} (h:w.heap[b]? =some (.cells c e (0,0))):w.cell? ((⟨b,0,none⟩:Addr).add j)=c[j]? :=by
 rw [aG,Nat.zero_add];exact aQ h
theorem bc {w:World} {b j:Nat} {c:Array Value} {e:TypeId} (h:w.heap[b]? =some (.cells c e (0,0))):w.frozen? ((⟨b,0,none⟩:Addr).add j)=false:=by
 rw [aG,Nat.zero_add];exact cd h
theorem bv {B:Nat} {w w':World} {b j:Nat} (h:Below B w w') (hb:B≤b) (v:Value):Below B w (w'.setCell ((⟨b,0,none⟩:Addr).add j) v):=by
 rw [aG,Nat.zero_add];exact h.setCell (p:=⟨b,0+j,none⟩) hb v |> (by simpa using ·)
theorem HB {α β:Type} (f:α→β) (l:List α) (i:Nat) (h:i<l.length):(l.take (i+1)).map f=(l.take i).map f++ [f l[i]]:=by
 rw [List.take_add_one,XK h,List.map_append];rfl
theorem gv {α:Type} {l:List α} {most:Nat} {may:α→Bool} (h:cF l most may=true):l.length≤most:=by
 unfold cF at h;rw [Bool.and_eq_true]at h;exact XQ h.1
theorem lL {α:Type} {enc:α→List Value} {sz:Nat} (hsz:∀x,(enc x).length=sz):∀(xs:List α) (j:Nat) (x:α),xs[j]? =some x→∀k,k<sz→(xs.flatMap enc)[j*sz+k]? =(enc x)[k]?
 | [],j,x,h,k,hk=>by simp at h
 |y::ys,0,x,h,k,hk=>by
  simp at h;subst h;rw [List.flatMap_cons,List.getElem?_append_left (by rw [hsz];omega)];congr 1;omega
 |y::ys,j+1,x,h,k,hk=>by
  simp at h;rw [List.flatMap_cons,List.getElem?_append_right (by rw [hsz,Nat.succ_mul];omega),hsz, ←lL hsz ys j x h k hk];congr 1;rw [Nat.succ_mul];omega
theorem cA {α:Type} {enc:α→List Value} {sz:Nat} (hsz:∀x,(enc x).length=sz) (xs:List α):(xs.flatMap enc).length=xs.length*sz:=by
 induction xs with
 |nil=>simp
 |cons x xs ih=>rw [List.flatMap_cons,List.length_append,ih,hsz,List.length_cons,Nat.succ_mul];omega
theorem Rw.of_own {α:Type} {enc:α→List Value} {sz:Nat} {w:World} {B:Nat} {e:TypeId} {s:Sl} {xs:List α} (h:w.ownsRow B e sz s.v s.n (xs.flatMap enc)) (hsz:∀x,(enc x).length=sz) (h0:0<sz):Rw enc sz w s.a xs∧s.n=xs.length:=by
 have a:=h.1;rw [cA hsz]at a;have a:s.n=xs.length:=(Nat.eq_of_mul_eq_mul_right h0 a).symm;refine⟨?_,a⟩;intro j x i;have t:=(List.getElem?_eq_some_iff.1 i).1;rcases h.2 with⟨c,p⟩ |⟨g,n,o,c,p,d,u,y,z,q⟩
 ·omega
 ·obtain⟨A,m,C⟩:=s;cases c;refine⟨_,rfl,(XY.1 d).1,?_⟩;intro k v l;have b:k<sz:=by rw [←hsz x];exact(List.getElem?_eq_some_iff.1 l).1
  rw [aG,aG,Nat.zero_add,aQ d];have f:=lL hsz xs j x i k b;have r:j*sz+k<m*sz:=by
   have:(j+1)*sz≤m*sz:=Nat.mul_le_mul_right _ (by simp at a;omega);rw [Nat.succ_mul]at this;omega
  rw [l, ←q,List.getElem?_take_of_lt r]at f;simpa using f
def an (n:Int):List Value:=[.int .i64 n]
theorem Rw.ints {w:World} {a:Option Addr} {ns:List Int} (h:Rw an 1 w a ns):Kd w a ns:=by
 intro j n c;obtain⟨p,rfl,d,b⟩:=h j n c;have:=b 0 _ rfl;rw [Nat.mul_one,aC]at this;exact⟨p,rfl,d,this⟩
theorem lS {P:Program} {B b:Nat} {c:Array Value} {T:TypeId} {w1:World} {pre post:List ik} {r:ik} (jj:Nat) (hblk:w1.heap[b]? =some (.cells c T (0,0))) (hjj:jj<c.size) (hrows:dF w1 B (pre++r::post)) (hoff:∀x∈pre++r::post,x.blk≠some b) (hBb:B≤b)
  (t:TypeId) {z:Value} {bytes:Nat} (ht:P.underlying t=some (.slice r.e)) (hi:(P.info? r.e).map (fun i=>(i.zero,i.size,i.bytes))=some (some z,r.sz,bytes)) (hzs:z.cells.size=r.sz) (hsz:0<r.sz)
  (news:List Value) (hl:news.length=r.sz) (h1:∀u∈news,u.oneCell'=true) (hbytes:(r.sl.n+1)*bytes≤140737488355328) (h63:r.sl.n+1≤140737488355328):
  ∃a' c' w3,(Builtin.append_ #[t,t] t #[r.sl.v,.slice (some (nb w1)) 1 1]).run P (w1.alloc (.cells news.toArray r.e))= .ok (.slice a' (r.sl.n+1) c') w3∧
   (∃u,w3.cell? ((⟨b,0,none⟩:Addr).add jj)=some u)∧w3.frozen? ((⟨b,0,none⟩:Addr).add jj)=false∧
   ∀w4,w4=w3.setCell ((⟨b,0,none⟩:Addr).add jj) (.slice a' (r.sl.n+1) c')→
    w4.heap[b]? =some (.cells (c.setIfInBounds jj (.slice a' (r.sl.n+1) c')) T (0,0))∧dF w4 B (pre++⟨⟨a',r.sl.n+1,c'⟩,r.e,r.sz,r.xs++news⟩::post)∧
    (∀x∈pre++(⟨⟨a',r.sl.n+1,c'⟩,r.e,r.sz,r.xs++news⟩:ik)::post,x.blk≠some b)∧(∀w0,Below B w0 w1→Below B w0 w4):=by
 have l:b<w1.heap.size:=(XY.1 hblk).1;obtain⟨a',c',w3,p,f,g,k,n,m⟩:=hrows.push (P:=P) t ht hi hzs hsz news hl h1 hbytes h63 (by omega);have a:w3.heap[b]? =some (.cells c T (0,0)):=by rw [g b l (hoff r (by simp))];exact hblk
 have d:∀x∈pre++(⟨⟨a',r.sl.n+1,c'⟩,r.e,r.sz,r.xs++news⟩:ik)::post,x.blk≠some b:=by
  intro x j;rcases List.mem_append.1 j with j |j
  ·exact hoff x (by simp [j])
  ·rcases List.mem_cons.1 j with rfl |j
   ·intro e;rcases k b e with h |h
    ·exact hoff r (by simp) h
    ·omega
   ·exact hoff x (by simp [j])
 refine⟨a',c',w3,p,⟨c[jj],?_⟩,bc a,?_⟩
 ·rw [aF a];simp [hjj]
 ·rintro w4 rfl;refine⟨bu a _,f.setCell _ _ (by rw [ay];exact d),d,fun w0 o=>?_⟩;exact bv (n w0 o) hBb _
abbrev aT:TypeId:=3
abbrev bQ:TypeId:=28
theorem ov:Tryz.prog.underlying bQ=some (.slice aT):=by kernel_rfl
theorem rt:(Tryz.prog.info? aT).map (fun i=>(i.zero,i.size,i.bytes))=some (some (.int .i64 0),1,8):=by kernel_rfl
abbrev mw:TypeId:=85
abbrev nH:TypeId:=87
abbrev Hu:TypeId:=89
abbrev KI:TypeId:=170
theorem vS:Tryz.prog.underlying 33=some (.slice mw):=by kernel_rfl
theorem tw:Tryz.prog.underlying 25=some (.slice nH):=by kernel_rfl
theorem xO:Tryz.prog.underlying 23=some (.slice Hu):=by kernel_rfl
theorem wZ:Tryz.prog.underlying 24=some (.slice KI):=by kernel_rfl
theorem wk:(Tryz.prog.info? mw).map (fun i=>(i.zero,i.size,i.bytes))=some (some (.agg #[.int .i64 0,.int .i64 0]),2,16):=by kernel_rfl
theorem xb:(Tryz.prog.info? nH).map (fun i=>(i.zero,i.size,i.bytes))=some (some (.agg #[.int .i64 0,.string ⟨#[]⟩]),2,24):=by kernel_rfl
theorem Ed:(Tryz.prog.info? Hu).map (fun i=>(i.zero,i.size,i.bytes))=some (some (.agg #[.int .i64 0,.int .i64 0,.int .i64 0]),3,24):=by kernel_rfl
theorem Ep:(Tryz.prog.info? KI).map (fun i=>(i.zero,i.size,i.bytes))=some (some (.agg #[.int .i64 0,.int .i64 0]),2,16):=by kernel_rfl
def gW (s:am):Prop:=s.merges.length≤1000000∧s.tokens.length≤1000000∧s.specials.length≤1000000∧s.classes.length≤1000000∧s.joins.length≤1000000
theorem dz {s:am} (h:s.right=true):gW s:=by
 obtain⟨_,a,b,c,d,e⟩:=iU h;have f:=gv a;have g:=gv b;have i:=gv c;have j:=gv d;have k:=gv e;exact⟨by omega,by omega,by omega,by omega,by omega⟩
abbrev dp:TypeId:=71
abbrev cW:Sl:=⟨none,0,0⟩
abbrev gu:bk:=⟨false,cW,cW,cW,cW,cW⟩
theorem Rw.off {α:Type} {enc:α→List Value} {sz:Nat} {w w7:World} {b:Nat} {a:Option Addr} {xs:List α} (h:Rw enc sz w a xs) (hne:∀j,j≠b→w7.heap[j]? =w.heap[j]?) (hs:w.heap.size≤w7.heap.size) (ha:∀p,a=some p→p.block≠b):Rw enc sz w7 a xs:=by
 intro j x e;obtain⟨p,c,g,d⟩:=h j x e;refine⟨p,c,by omega,fun k v f=>?_⟩;rw [←d k v f];unfold World.cell?;rw [hne _ (by rw [ay,ay];exact ha p c)]
theorem Rw.at {α:Type} {enc:α→List Value} {sz:Nat} {w:World} {a:Option Addr} {xs:List α} (h:Rw enc sz w a xs) {p:Addr} (hp:a=some p) {j:Nat} {x:α} (hj:xs[j]? =some x) (k:Nat) (v:Value) (hk:(enc x)[k]? =some v):w.cell? ((p.add (j*sz)).add k)=some v:=by
 obtain⟨q,b,_,c⟩:=h j x hj;rw [hp]at b;cases b;exact c k v hk
theorem uV {w w6:World} {c:Array Value} {T:TypeId} (K:bk→World→Prop) (x:bk) (hblk:w6.heap[w.heap.size]? =some (.cells c T (0,0))) (hc:c.size=6)
  (hR:∀w7,(∀w0,Below w.heap.size w0 w6→Below w.heap.size w0 w7)→(∀j,j≠w.heap.size→w7.heap[j]? =w6.heap[j]?)→K x w7):
  aI w6 (nb w) (fun w7=>
   ∃res0:Bool,∃res1A:Option Addr,∃res1N:Nat,∃res1C:Nat,∃res2A:Option Addr,∃res2N:Nat,∃res2C:Nat,∃res3A:Option Addr,∃res3N:Nat,∃res3C:Nat,∃res4A:Option Addr,∃res4N:Nat,∃res4C:Nat,∃res5A:Option Addr,∃res5N:Nat,∃res5C:Nat,(w7.cell? (nb w)=some (Value.bool res0)∧w7.cell? ((nb w).add 1)=some (Value.slice res1A res1N res1C)∧w7.cell? ((nb w).add 2)=some (Value.slice res2A res2N res2C)∧w7.cell? ((nb w).add 3)=some (Value.slice res3A res3N res3C)∧w7.cell? ((nb w).add 4)=some (Value.slice res4A res4N res4C)∧w7.cell? ((nb w).add 5)=some (Value.slice res5A res5N res5C)∧True)∧
   K ⟨res0,⟨res1A,res1N,res1C⟩,⟨res2A,res2N,res2C⟩,⟨res3A,res3N,res3C⟩,⟨res4A,res4N,res4C⟩,⟨res5A,res5N,res5C⟩⟩ w7)
   [Value.bool x.ranked,Value.slice x.s1.a x.s1.n x.s1.c,Value.slice x.s2.a x.s2.n x.s2.c,Value.slice x.s3.a x.s3.n x.s3.c,Value.slice x.s4.a x.s4.n x.s4.c,Value.slice x.s5.a x.s5.n x.s5.c] 0:=by
 refine dA _ 0 w6 c 0 hblk (by simp [hc]) (by intro v d;simp at d;rcases d with rfl |rfl |rfl |rfl |rfl |rfl<;>rfl) ?_
 intro w7 f b i g;have a:w7.heap[w.heap.size]? =some (.cells x.cells T (0,0)):=by
  rw [f];congr 2;simp [iQ,hc]
 have e:w7.cell? (nb w)=some (Value.bool x.ranked):=by have:=aF (j:=0) a;rw [aC]at this;exact this.trans rfl
 exact⟨x.ranked,_,_,_,_,_,_,_,_,_,_,_,_,_,_,_,⟨e,(aF (j:=1) a).trans rfl,(aF (j:=2) a).trans rfl,(aF (j:=3) a).trans rfl,(aF (j:=4) a).trans rfl,(aF (j:=5) a).trans rfl,trivial⟩,hR w7 (fun w0 h=>g _ w0 (XV _) h) b⟩
def mJ (v:Value):Prop:=(∃k n,v= .int k n)∨∃s,v= .string s
theorem Iv {w:World} {p:Addr} {v:Value} {c:Array Value} {T:TypeId} {fz:Nat×Nat} (h:w.heap[p.block]? =some (.cells c T fz)) (hc:w.cell? p=some v):v∈c:=by
 unfold World.cell? at hc;rw [h]at hc;dsimp only at hc;split at hc
 ·cases hc
 ·exact Array.mem_of_getElem? hc
theorem Rw.past {α:Type} {enc:α→List Value} {sz:Nat} {w w':World} {b:Nat} {c:Array Value} {T:TypeId} {fz:Nat×Nat} {a:Option Addr} {xs:List α} (h:Rw enc sz w a xs) (henc:∀x,∃v,(enc x)[0]? =some v∧mJ v) (hb:w.heap[b]? =some (.cells c T fz)) (hc:∀v∈c,¬mJ v)
  (hne:∀j,j<w.heap.size→j≠b→w'.heap[j]? =w.heap[j]?) (hs:w.heap.size≤w'.heap.size):Rw enc sz w' a xs:=by
 intro j x n;obtain⟨p,q,g,d⟩:=h j x n;refine⟨p,q,by omega,fun k v o=>?_⟩;have i:p.block≠b:=by
  intro e;obtain⟨l,m,f⟩:=henc x;have:=d 0 l m;exact hc l (Iv (by rw [ay,ay,e];exact hb) this) f
 rw [←d k v o];unfold World.cell?;rw [hne _ (by rw [ay,ay];exact g) (by rw [ay,ay];exact i)]
theorem dq (k:IntKind) (n:Int):mJ (.int k n):=.inl ⟨k,n,rfl⟩
theorem cY.past {w w':World} {b:Nat} {c:Array Value} {T:TypeId} {fz:Nat×Nat} {x:bk} {s:am} (h:cY w x s) (hb:w.heap[b]? =some (.cells c T fz)) (hc:∀v∈c,¬mJ v)
  (hne:∀j,j<w.heap.size→j≠b→w'.heap[j]? =w.heap[j]?) (hs:w.heap.size≤w'.heap.size):cY w' x s:=
 ⟨h.ranked,h.n1,h.r1.past (fun m=>⟨_,rfl,dq _ _⟩) hb hc hne hs,h.n2,h.r2.past (fun m=>⟨_,rfl,.inr ⟨_,rfl⟩⟩) hb hc hne hs,h.n3,h.r3.past (fun m=>⟨_,rfl,dq _ _⟩) hb hc hne hs,
  h.n4,h.r4.past (fun m=>⟨_,rfl,dq _ _⟩) hb hc hne hs,h.n5,h.r5.past (fun m=>⟨_,rfl,dq _ _⟩) hb hc hne hs⟩
theorem Rw.flat {α:Type} {enc:α→List Value} {sz:Nat} {w:World} {p:Addr} {xs:List α} (h:Rw enc sz w (some p) xs) (hsz:∀x,(enc x).length=sz) (h0:0<sz) (i:Nat) (u:Value) (hi:(xs.flatMap enc)[i]? =some u):w.cell? (p.add i)=some u:=by
 have b:=(List.getElem?_eq_some_iff.1 hi).1;rw [cA hsz]at b;have d:i/sz<xs.length:=Nat.div_lt_of_lt_mul (by rw [Nat.mul_comm];exact b);have e:i%sz<sz:=Nat.mod_lt _ h0;have a:i/sz*sz+i%sz=i:=by rw [Nat.mul_comm];exact Nat.div_add_mod i sz
 have c:=lL hsz xs (i/sz) _ (XK d) (i%sz) e;rw [a,hi]at c;have:=h.at rfl (XK d) (i%sz) u c.symm;rw [Addr.add_add,a]at this;exact this
theorem iP {α:Type} {enc:α→List Value} {sz:Nat} (hsz:∀x,(enc x).length=sz) (h0:0<sz) (h1:∀x,∀u∈enc x,u.oneCell'=true) (t e:TypeId) {z:Value} {bytes:Nat} (ht:Tryz.prog.underlying t=some (.slice e)) (hi:(Tryz.prog.info? e).map (fun i=>(i.zero,i.size,i.bytes))=some (some z,sz,bytes)) (hzs:z.cells.size=sz)
  (w8:World) (src:Sl) (xs:List α) (hsrc:lU src) (hr:Rw enc sz w8 src.a xs) (hn:src.n=xs.length) (hb:src.n*bytes≤140737488355328) (hN:src.n≤140737488355328):∀w18,w18=w8.alloc (.cells #[] e)→
  ∃A C w19,(Builtin.append_ #[t,t] t #[.slice (some (nb w8)) 0 0,src.v]).run Tryz.prog w18= .ok (.slice A src.n C) w19∧w19.ownsRow w8.heap.size e sz (.slice A src.n C) src.n (xs.flatMap enc)∧ZH w8 w19:=by
 rintro w18 rfl;have d:=ah w8 (.cells #[] e);have b:(w8.alloc (.cells #[] e)).ownsRow w8.heap.size e sz (.slice (some (nb w8)) 0 0) 0 []:=⟨by simp,.inr ⟨w8.heap.size,0,_,rfl,XV _,aq w8 _,XV _,by decide,by simp,by simp⟩⟩;obtain⟨A,C,w19,f,g,h,_⟩:=nE (P:=Tryz.prog) t e ht hi hzs h0 b src hsrc (xs.flatMap enc) (by rw [cA hsz,hn]) (by
  intro a k j u l;have c:=hr.on d;rw [k]at c;exact c.flat hsz h0 j u l) (by
  intro u m;obtain⟨x,_,n⟩:=List.mem_flatMap.1 m;exact h1 x u n) (by rw [Nat.zero_add];exact hb) (by rw [Nat.zero_add];exact hN) d.size
 rw [Nat.zero_add]at f g;exact⟨A,C,w19,f,g,h w8 d⟩
theorem nh {w2:World} {k:World→Prop} (x:bk) (w3:World) (hw3:w3=w2.alloc (.cells gu.cells dp)) (hk:∀w4,w4.heap[w2.heap.size]? =some (.cells x.cells dp (0,0))→ZH w2 w4→k w4):
  aI w3 (nb w2) k [Value.bool x.ranked,Value.slice x.s1.a x.s1.n x.s1.c,Value.slice x.s2.a x.s2.n x.s2.c,Value.slice x.s3.a x.s3.n x.s3.c,Value.slice x.s4.a x.s4.n x.s4.c,Value.slice x.s5.a x.s5.n x.s5.c] 0:=by
 refine bg [.bool false,.slice none 0 0,.slice none 0 0,.slice none 0 0,.slice none 0 0,.slice none 0 0] [.bool x.ranked,x.s1.v,x.s2.v,x.s3.v,x.s4.v,x.s5.v] rfl (by intro v a;simp at a;rcases a with rfl |rfl |rfl |rfl |rfl |rfl<;>rfl) w3 hw3 ?_
 intro w4 b _ c;exact hk w4 b c
theorem dX {w:World} {b:Nat} {x:bk} {T:TypeId} {fz:Nat×Nat} (h:w.heap[b]? =some (.cells x.cells T fz)):
  w.cell? ⟨b,0,none⟩=some (Value.bool x.ranked)∧w.cell? ((⟨b,0,none⟩:Addr).add 1)=some x.s1.v∧w.cell? ((⟨b,0,none⟩:Addr).add 2)=some x.s2.v∧w.cell? ((⟨b,0,none⟩:Addr).add 3)=some x.s3.v∧w.cell? ((⟨b,0,none⟩:Addr).add 4)=some x.s4.v∧w.cell? ((⟨b,0,none⟩:Addr).add 5)=some x.s5.v∧True:=by
 have a:∀j,w.cell? ((⟨b,0,none⟩:Addr).add j)=x.cells[j]? :=fun j=>by rw [aG,Nat.zero_add,aQ h]
 exact⟨by have:=a 0;rw [aC]at this;exact this,a 1,a 2,a 3,a 4,a 5,trivial⟩
theorem Below.keeps {B:Nat} {w w':World} (h:Below B w w') {b:Nat} (hb:b<B) {o:Obj} (ho:w.heap[b]? =some o):w'.heap[b]? =some o:=by rw [h.block b hb,ho]
theorem aj {w w':World} (h:ZH w w') {b:Nat} {o:Obj} (ho:w.heap[b]? =some o):w'.heap[b]? =some o:=by rw [h.block b (XY.1 ho).1,ho]
section
variable {H:Type} {enc0:TypeId×Value→H} {w:World} {base:Nat} {spare:Nat→Bool} {held:Bool}
theorem GQ {e:TypeId} {f0 f1:Field} (he:Tryz.prog.underlying e=some (.struct #[f0,f1])) (o0:f0.offset=0) (o1:f1.offset=1) (t0:Tryz.prog.underlying f0.type=some (.int .i64)) (t1:Tryz.prog.underlying f1.type=some (.int .i64)) (c0:Tryz.prog.cellsOf f0.type=1) (c1:Tryz.prog.cellsOf f1.type=1) (hc:Tryz.prog.cellsOf e=2):
  ∀n cs' y,DataW.trod enc0 Tryz.prog w base spare held n e cs'=some y→∃m:Int×Int,cs'=be m:=by
 intro n cs' y h;obtain⟨o,p,k,_,l,c,d⟩:=trod_struct2 he h;rw [o0,c0]at c;rw [o1,c1]at d;rw [hc]at l
 match cs',l with
 | [a,b],_=>
  obtain⟨i,f,_⟩:=DataW.trod_int t0 c;obtain⟨j,g,_⟩:=DataW.trod_int t1 d;simp at f g;subst f g;exact⟨(i,j),rfl⟩
theorem wM {e:TypeId} {f0 f1:Field} (he:Tryz.prog.underlying e=some (.struct #[f0,f1])) (o0:f0.offset=0) (o1:f1.offset=1) (t0:Tryz.prog.underlying f0.type=some (.int .i64)) (t1:Tryz.prog.underlying f1.type=some .string) (c0:Tryz.prog.cellsOf f0.type=1) (c1:Tryz.prog.cellsOf f1.type=1) (hc:Tryz.prog.cellsOf e=2):
  ∀n cs' y,DataW.trod enc0 Tryz.prog w base spare held n e cs'=some y→∃m:Int×Bs,cs'=aM m:=by
 intro n cs' y h;obtain⟨o,p,k,_,l,c,d⟩:=trod_struct2 he h;rw [o0,c0]at c;rw [o1,c1]at d;rw [hc]at l
 match cs',l with
 | [a,b],_=>
  obtain⟨i,f,_⟩:=DataW.trod_int t0 c;obtain⟨j,g,_⟩:=DataW.trod_string t1 d;simp at f g;subst f g;exact⟨(i,j.data.toList),by simp [aM, ←K1]⟩
theorem D1 {e:TypeId} {f0 f1 f2:Field} (he:Tryz.prog.underlying e=some (.struct #[f0,f1,f2])) (o0:f0.offset=0) (o1:f1.offset=1) (o2:f2.offset=2) (t0:Tryz.prog.underlying f0.type=some (.int .i64)) (t1:Tryz.prog.underlying f1.type=some (.int .i64)) (t2:Tryz.prog.underlying f2.type=some (.int .i64)) (c0:Tryz.prog.cellsOf f0.type=1) (c1:Tryz.prog.cellsOf f1.type=1) (c2:Tryz.prog.cellsOf f2.type=1) (hc:Tryz.prog.cellsOf e=3):
  ∀n cs' y,DataW.trod enc0 Tryz.prog w base spare held n e cs'=some y→∃m:Int×Int×Int,cs'=bS m:=by
 intro n cs' y h;obtain⟨t,k,_,_,s,d,f⟩:=DataW.trod_struct he h;have g:=f 0 f0 rfl;have l:=f 1 f1 rfl;have o:=f 2 f2 rfl;rw [o0,c0]at g;rw [o1,c1]at l;rw [o2,c2]at o;rw [hc]at s
 match cs',s,t,d with
 | [a,b,c],_,[y0,y1,y2],_=>
  obtain⟨i,p,_⟩:=DataW.trod_int t0 g;obtain⟨j,q,_⟩:=DataW.trod_int t1 l;obtain⟨k,r,_⟩:=DataW.trod_int t2 o;simp at p q r;subst p q r;exact⟨(i,j,k),rfl⟩
end
set_option linter.unusedSectionVars false
def gg {κ:Type} [DecidableEq κ] (k:κ):List (κ×Value)→Nat→Option (Nat×Value)
 | [],_=>none
 |p::r,i=>if k=p.1 then some (i,p.2)else gg k r (i+1)
def e_ {κ:Type} [DecidableEq κ] (k:κ):List (κ×Value)→Option Value
 | []=>none
 |p::r=>if k=p.1 then some p.2 else e_ k r
theorem jF {κ:Type} [DecidableEq κ] (k:κ):∀(m:List (κ×Value)) (i:Nat),(gg k m i).map (·.2)=e_ k m
 | [],i=>rfl
 |p::r,i=>by
  simp only [gg,e_];split
  ·rfl
  ·exact jF k r (i+1)
structure kL (P:Program) (kt:TypeId) (κ:Type) [DecidableEq κ] (kv:κ→Value):Prop where
 check:∀(e:Bool) (k:κ) (w:World),(Instr.checkKey e 10000 kt (kv k)).run P w= .ok () w
 find:∀(k:κ) (es:List MapEntry) (m:List (κ×Value)) (w:World),es.map (fun x=>(x.key,x.val))=m.map (fun p=>(kv p.1,p.2))→(Instr.findKey kt (kv k) es).run P w= .ok (gg k m 0) w
def bJ {κ:Type} (kv:κ→Value) (w:World) (r:Nat) (m:List (κ×Value)):Prop:=∃es clock,w.heap[r]? =some (.map es clock)∧es.toList.map (fun x=>(x.key,x.val))=m.map (fun p=>(kv p.1,p.2))∧∀x∈es.toList,x.born<clock
theorem iA {P:Program} {w:World} {r:Nat} {es:Array MapEntry} {c:Nat} (hb:w.heap[r]? =some (.map es c)):(getObj r).run P w= .ok (.map es c) w:=by simp [getObj,Sem.run,hb]
theorem pt {P:Program} {w:World} {r:Nat} {es:Array MapEntry} {c:Nat} (o:Obj) (hb:w.heap[r]? =some (.map es c)):(setObj r o).run P w= .ok () {w with heap:=w.heap.setIfInBounds r o}:=by simp [setObj,Sem.run,hb]
section
variable {P:Program} {kt et t:TypeId} {κ:Type} [DecidableEq κ] {kv:κ→Value}
theorem bJ.lt {w:World} {r:Nat} {m:List (κ×Value)} (h:bJ kv w r m):r<w.heap.size:=by
 obtain⟨b,a,h,_⟩:=h;exact(XY.1 h).1
theorem bJ.same {w w':World} {r:Nat} {m:List (κ×Value)} (h:bJ kv w r m) (hs:w'.heap[r]? =w.heap[r]?):bJ kv w' r m:=by
 obtain⟨c,a,h,d,b⟩:=h;exact⟨c,a,by rw [hs];exact h,d,b⟩
theorem bJ.on {w w':World} {r:Nat} {m:List (κ×Value)} (h:bJ kv w r m) (hb:ZH w w'):bJ kv w' r m:=h.same (hb.block r h.lt)
theorem ip (w:World):bJ kv (w.alloc (.map #[] 0)) w.heap.size []:=⟨#[],0,aq w _,rfl,by simp⟩
theorem eL (K:kL P kt κ kv) (ht:P.underlying t=some (.map kt et)) {z:Value} (hz:(P.info? et).map (·.zero)=some (some z)) {w:World} {r:Nat} {m:List (κ×Value)} (h:bJ kv w r m) (k:κ):
  (Instr.lookup t (.map (some r)) (kv k) true).run P w= .ok (.tuple #[(e_ k m).getD z,.bool (e_ k m).isSome]) w:=by
 obtain⟨c,b,d,e,_⟩:=h;unfold Instr.lookup;simp only [Sem.run_bind,run_underlying ht,Result.andThen,iA d,Sem.run_pure,K.check,K.find k c.toList m w e];have a:=jF k m 0;cases hx:gg k m 0 with
 |none=>
  rw [hx]at a;simp only [Option.map_none]at a;rw [←a];simp [gG hz,Result.andThen]
 |some q=>
  rw [hx]at a;simp only [Option.map_some]at a;rw [←a];simp
theorem HH (K:kL P kt κ kv) (ht:P.underlying t=some (.map kt et)) {z:Value} (hz:(P.info? et).map (·.zero)=some (some z)) {w:World} {r:Nat} {m:List (κ×Value)} (h:bJ kv w r m) (k:κ):
  (Instr.lookup t (.map (some r)) (kv k) false).run P w= .ok ((e_ k m).getD z) w:=by
 obtain⟨c,b,d,e,_⟩:=h;unfold Instr.lookup;simp only [Sem.run_bind,run_underlying ht,Result.andThen,iA d,Sem.run_pure,K.check,K.find k c.toList m w e];have a:=jF k m 0;cases hx:gg k m 0 with
 |none=>
  rw [hx]at a;simp only [Option.map_none]at a;rw [←a];simp [gG hz,Result.andThen]
 |some q=>
  rw [hx]at a;simp only [Option.map_some]at a;rw [←a];simp
theorem vv {k:κ} {m:List (κ×Value)}:e_ k m=none↔∀p∈m,p.1≠k:=by
 induction m with
 |nil=>simp [e_]
 |cons p m ih=>
  simp only [e_];split
  ·rename_i e;simp [e]
  ·rename_i e;rw [ih];constructor
   ·intro h q a;rcases List.mem_cons.1 a with rfl |a
    ·exact fun b=>e b.symm
    ·exact h q a
   ·exact fun h q a=>h q (by simp [a])
theorem eO (K:kL P kt κ kv) (ht:P.underlying t=some (.map kt et)) {w:World} {r:Nat} {m:List (κ×Value)} (h:bJ kv w r m) (k:κ) (v:Value) (hk:e_ k m=none):
  ∃w',(Instr.mapUpdate t (.map (some r)) (kv k) v).run P w= .ok () w'∧bJ kv w' r (m++ [(k,v)])∧(∀j,j≠r→w'.heap[j]? =w.heap[j]?)∧w'.heap.size=w.heap.size∧(∀B w0,B≤r→Below B w0 w→Below B w0 w'):=by
 obtain⟨c,a,d,n,i⟩:=h;have g:=(XY.1 d).1;have f:=jF k m 0;rw [hk]at f;have b:gg k m 0=none:=by
  cases b:gg k m 0 with
  |none=>rfl
  |some q=>rw [b]at f;cases f
 refine⟨{w with heap:=w.heap.setIfInBounds r (.map (c.push {key:=kv k,val:=v,born:=a}) (a+1))},?_,?_,?_,by simp,?_⟩
 ·unfold Instr.mapUpdate;simp only [Sem.run_bind,run_underlying ht,Result.andThen,iA d,K.check,K.find k c.toList m w n,b];exact pt _ d
 ·refine⟨c.push {key:=kv k,val:=v,born:=a},a+1,by simp [g],by simp [n],fun x b=>?_⟩;rw [Array.toList_push,List.mem_append,List.mem_singleton]at b;rcases b with b |rfl
  ·have:=i x b;omega
  ·exact Nat.lt_succ_self _
 ·intro j l;simp [Array.getElem?_setIfInBounds_ne (fun e=>l e.symm)]
 ·intro B w0 p o;exact o.trans ⟨rfl,rfl,rfl,by simp,fun j l=>by simp [Array.getElem?_setIfInBounds_ne (show r≠j by omega)]⟩
def RQ {κ:Type} (kv:κ→Value) (w:World) (r:Nat) (m:List (κ×Value)) (k:κ) (c:Nat):Prop:=∃(es:Array MapEntry) (z:Value),w.heap[r]? =some (.map (es.push {key:=kv k,val:=z,born:=c}) (c+1))∧es.toList.map (fun x=>(x.key,x.val))=m.map (fun p=>(kv p.1,p.2))∧∀x∈es.toList,x.born<c
theorem gJ (K:kL P kt κ kv) (ht:P.underlying t=some (.map kt et)) {z:Value} (hz:(P.info? et).map (·.zero)=some (some z)) {w:World} {r:Nat} {m:List (κ×Value)} (h:bJ kv w r m) (k:κ) (hk:e_ k m=none):
  ∃(c:Nat) (w':World),(Instr.mapEntry t (.map (some r)) (kv k)).run P w= .ok (.tuple #[z,.int .i64 c]) w'∧RQ kv w' r m k c∧(∀j,j≠r→w'.heap[j]? =w.heap[j]?)∧w'.heap.size=w.heap.size∧(∀B w0,B≤r→Below B w0 w→Below B w0 w'):=by
 obtain⟨b,a,d,o,i⟩:=h;have g:=(XY.1 d).1;have f:=jF k m 0;rw [hk]at f;have l:gg k m 0=none:=by
  cases l:gg k m 0 with
  |none=>rfl
  |some q=>rw [l]at f;cases f
 refine⟨a,{w with heap:=w.heap.setIfInBounds r (.map (b.push {key:=kv k,val:=z,born:=a}) (a+1))},?_,⟨b,z,by simp [g],o,i⟩,?_,by simp,?_⟩
 ·unfold Instr.mapEntry;simp only [Sem.run_bind,run_underlying ht,Result.andThen,iA d,K.check,K.find k b.toList m w o,l,gG hz,pt _ d];rfl
 ·intro j n;simp [Array.getElem?_setIfInBounds_ne (fun e=>n e.symm)]
 ·intro B w0 s p;exact p.trans ⟨rfl,rfl,rfl,by simp,fun j n=>by simp [Array.getElem?_setIfInBounds_ne (show r≠j by omega)]⟩
theorem CZ (es:Array MapEntry) (x:MapEntry) (v:Value):(es.push x).modify es.size (fun e=>{e with val:=v})=es.push {x with val:=v}:=by
 apply Array.ext
 ·simp
 ·intro i b a;simp only [Array.getElem_modify,Array.getElem_push];simp at a;by_cases hi:i<es.size
  ·simp [hi,show ¬es.size=i by omega]
  ·simp [show es.size=i by omega]
theorem gR {w:World} {r:Nat} {m:List (κ×Value)} {k:κ} {c:Nat} (t:TypeId) (h:RQ kv w r m k c) (v:Value):
  ∃w':World,(Instr.entryStore t (.map (some r)) (.int .i64 c) v).run P w= .ok () w'∧bJ kv w' r (m++ [(k,v)])∧(∀j,j≠r→w'.heap[j]? =w.heap[j]?)∧w'.heap.size=w.heap.size∧(∀B w0,B≤r→Below B w0 w→Below B w0 w'):=by
 obtain⟨a,z,g,o,b⟩:=h;have i:=(XY.1 g).1;have n:(a.push {key:=kv k,val:=z,born:=c}).findIdx? (fun e=>((e.born:Int)==(c:Int)))=some a.size:=by
  rw [Array.findIdx?_eq_some_iff_getElem];refine⟨by simp,by simp,fun j d=>?_⟩;have:=b a[j] (by simp);simp [Array.getElem_push_lt d];omega
 refine⟨{w with heap:=w.heap.setIfInBounds r (.map (a.push {key:=kv k,val:=v,born:=c}) (c+1))},?_,⟨a.push {key:=kv k,val:=v,born:=c},c+1,by simp [i],by simp [o],?_⟩,?_,by simp,?_⟩
 ·unfold Instr.entryStore;simp only [Sem.run_bind,Result.andThen,iA g,asInt,asIntOf,Sem.run_map,Sem.run_pure,n,CZ];exact pt _ g
 ·intro x f;rw [Array.toList_push,List.mem_append,List.mem_singleton]at f;rcases f with f |rfl
  ·have:=b x f;omega
  ·exact Nat.lt_succ_self _
 ·intro j d;simp [Array.getElem?_setIfInBounds_ne (fun e=>d e.symm)]
 ·intro B w0 p l;exact l.trans ⟨rfl,rfl,rfl,by simp,fun j d=>by simp [Array.getElem?_setIfInBounds_ne (show r≠j by omega)]⟩
theorem fR {w:World} (t:TypeId):(Instr.makeMap t none).run P w= .ok (.map (some w.heap.size)) (w.alloc (.map #[] 0)):=by
 unfold Instr.makeMap;simp [Sem.run_bind,newObj,Sem.run,Result.andThen]
end
theorem sR {κ:Type} [DecidableEq κ] {kv:κ→Value} {d:TypeDesc} (hs:∀a b,Instr.sameNow d (kv a) (kv b)=some (decide (a=b))) (k:κ):∀(es:List MapEntry) (m:List (κ×Value)) (i:Nat),es.map (fun x=>(x.key,x.val))=m.map (fun p=>(kv p.1,p.2))→Instr.findNow d (kv k) es i=some (gg k m i)
 | [],m,i,h=>by
  have:m= []:=by simpa using h.symm
  subst this;rfl
 |e::es,[],i,h=>by simp at h
 |e::es,p::m,i,h=>by
  simp only [List.map_cons,List.cons.injEq,Prod.mk.injEq]at h;simp only [Instr.findNow,gg];rw [h.1.1,hs];by_cases hk:k=p.1
  ·rw [XJ hk,if_pos hk,h.1.2]
  ·rw [XZ hk,if_neg hk];exact sR hs k es m (i+1) h.2
theorem rU {P:Program} {kt:TypeId} {κ:Type} [DecidableEq κ] {kv:κ→Value} {d:TypeDesc} (hd:P.underlying kt=some d) (hs:∀a b,Instr.sameNow d (kv a) (kv b)=some (decide (a=b)))
  (hc:∀(e:Bool) (k:κ) (w:World),(Instr.checkKey e 10000 kt (kv k)).run P w= .ok () w):kL P kt κ kv:=by
 refine⟨hc,fun k c m w h=>?_⟩;unfold Instr.findKey;simp only [Sem.run_bind,run_underlying hd,Result.andThen,sR hs k c m 0 h,Sem.run_pure]
abbrev eu (n:Int):Value:=.int .i64 n
abbrev di (s:List UInt8):Value:=.string (str s)
abbrev dT (m:Int×Int):Value:=.agg #[.int .i64 m.1,.int .i64 m.2]
theorem KG {P:Program} {kt:TypeId} (hd:P.underlying kt=some (.int .i64)):kL P kt Int eu:=by
 refine rU hd (fun a b=>by simp [Instr.sameNow,eu];exact(Bool.beq_eq_decide_eq a b)) (fun e k w=>?_);unfold Instr.checkKey;simp [run_underlying hd,Result.andThen]
theorem K2 {a b:List UInt8} (h:str a=str b):a=b:=by
 have:=congrArg (fun x:ByteArray=>x.data.toList) h;simpa [str]using this
theorem Iu {P:Program} {kt:TypeId} (hd:P.underlying kt=some .string):kL P kt (List UInt8) di:=by
 refine rU hd (fun a b=>?_) (fun e k w=>?_)
 ·simp only [Instr.sameNow,di];congr 1;rw [Bool.eq_iff_iff,Go.MapKept.bytes_beq,decide_eq_true_eq];exact⟨K2,fun h=>by rw [h]⟩
 ·unfold Instr.checkKey;simp [run_underlying hd,Result.andThen]
theorem qO {P:Program} {kt:TypeId} (hf:tM P kt [.i,.i]=true) (k:Int×Int):∀(es:List MapEntry) (m:List ((Int×Int)×Value)) (i:Nat) (w:World),es.map (fun x=>(x.key,x.val))=m.map (fun p=>(dT p.1,p.2))→(Instr.findAsking kt (dT k) es i).run P w= .ok (gg k m i) w
 | [],m,i,w,h=>by
  have:m= []:=by simpa using h.symm
  subst this;rfl
 |e::es,[],i,w,h=>by simp at h
 |e::es,p::m,i,w,h=>by
  simp only [List.map_cons,List.cons.injEq,Prod.mk.injEq]at h;have b:KX [.i,.i] (#[Value.int .i64 k.1,Value.int .i64 k.2]:Array Value).toList (#[Value.int .i64 p.1.1,Value.int .i64 p.1.2]:Array Value).toList=some (decide (k=p.1)):=by
   have a:(k.1==p.1.1&&(k.2==p.1.2&&true))=decide (k=p.1):=by
    rw [Bool.eq_iff_iff];simp [Prod.ext_iff]
   rw [←a];rfl
  obtain⟨c,_⟩:=mY (w:=w) hf b;simp only [Instr.findAsking,Sem.run_bind,gg,h.1.1];unfold Op.equal;rw [show(Op.equalIn Op.maxDepth kt (dT k) (dT p.1)).run P w= .ok (decide (k=p.1)) w from c];by_cases hk:k=p.1
  ·simp [hk,Result.andThen,h.1.2]
  ·simp only [Result.andThen,XZ hk,if_neg hk];exact qO hf k es m (i+1) w h.2
theorem G9 {P:Program} {kt:TypeId} {fs:Array Field} (hd:P.underlying kt=some (.struct fs)) (hf:tM P kt [.i,.i]=true) (hc:∀(e:Bool) (k:Int×Int) (w:World),(Instr.checkKey e 10000 kt (dT k)).run P w= .ok () w):kL P kt (Int×Int) dT:=by
 refine⟨hc,fun k a m w h=>?_⟩;unfold Instr.findKey;simp only [Sem.run_bind,run_underlying hd,Result.andThen];cases a with
 |nil=>
  have:m= []:=by simpa using h.symm
  subst this;rfl
 |cons e a=>
  have:Instr.findNow (.struct fs) (dT k) (e::a) 0=none:=by simp [Instr.findNow,Instr.sameNow]
  rw [this];exact qO hf k (e::a) m 0 w h
theorem fG {P:Program} {B b:Nat} {c:Array Value} {T e:TypeId} {w1:World} {sz:Nat} {s:Sl} {xs:List Value} (jj:Nat) (hblk:w1.heap[b]? =some (.cells c T (0,0))) (hjj:jj<c.size) (hown:w1.ownsRow B e sz s.v s.n xs) (hoff:s.v.ownBlock≠some b) (hBb:B≤b)
  (t:TypeId) {z:Value} {bytes:Nat} (ht:P.underlying t=some (.slice e)) (hi:(P.info? e).map (fun i=>(i.zero,i.size,i.bytes))=some (some z,sz,bytes)) (hzs:z.cells.size=sz) (hsz:0<sz)
  (news:List Value) (hl:news.length=sz) (h1:∀u∈news,u.oneCell'=true) (hbytes:(s.n+1)*bytes≤140737488355328) (h63:s.n+1≤140737488355328):
  ∃a' c' w3,(Builtin.append_ #[t,t] t #[s.v,.slice (some (nb w1)) 1 1]).run P (w1.alloc (.cells news.toArray e))= .ok (.slice a' (s.n+1) c') w3∧
   (∃u,w3.cell? ((⟨b,0,none⟩:Addr).add jj)=some u)∧w3.frozen? ((⟨b,0,none⟩:Addr).add jj)=false∧
   ∀w4,w4=w3.setCell ((⟨b,0,none⟩:Addr).add jj) (.slice a' (s.n+1) c')→
    w4.heap[b]? =some (.cells (c.setIfInBounds jj (.slice a' (s.n+1) c')) T (0,0))∧w4.ownsRow B e sz (.slice a' (s.n+1) c') (s.n+1) (xs++news)∧
    (Value.slice a' (s.n+1) c').ownBlock≠some b∧(∀w0,Below B w0 w1→Below B w0 w4)∧(∀k,k<w1.heap.size→k≠b→s.v.ownBlock≠some k→w4.heap[k]? =w1.heap[k]?)∧w1.heap.size<w4.heap.size∧(∀k,(Value.slice a' (s.n+1) c').ownBlock=some k→s.v.ownBlock=some k∨w1.heap.size≤k):=by
 have p:b<w1.heap.size:=(XY.1 hblk).1;obtain⟨a',c',w3,v,l,n,m⟩:=iD (P:=P) t e ht hi hzs hsz hown news hl h1 hbytes h63 (by omega);have d:∀k,k<w1.heap.size→s.v.ownBlock≠some k→w3.heap[k]? =w1.heap[k]? :=fun k g j=>tC n g (fun e=>j e.symm);have a:w3.heap[b]? =some (.cells c T (0,0)):=by rw [d b p hoff];exact hblk
 have f:(Value.slice a' (s.n+1) c').ownBlock≠some b:=by
  rcases m with h |h
  ·rw [h];exact hoff
  ·rw [h];intro e;cases e;omega
 have q:=vL n;refine⟨a',c',w3,v,⟨c[jj],?_⟩,bc a,?_⟩
 ·rw [aF a];simp [hjj]
 ·rintro w4 rfl;refine⟨bu a _,bw l _ (by rw [ay];exact f),f,fun w0 r=>bv (fB r hown n (by omega)) hBb _,fun k g o j=>?_,?_⟩
  ·rw [ar (by rw [ay];exact o)];exact d k g j
  ·rw [ba];exact⟨by omega,fun k g=>by
    rcases m with h |h
    ·rw [h]at g;exact .inl g
    ·rw [h]at g;cases g;exact .inr (by omega)⟩
theorem cK (a b:Int):∀v∈ [Value.int .i64 a,Value.int .i64 b],v.oneCell'=true:=by
 intro v c;simp only [List.mem_cons,List.not_mem_nil,or_false]at c;rcases c with rfl |rfl<;>rfl
theorem dc {w:World} {B:Nat} {e:TypeId} {sz n:Nat} {v:Value} {xs:List Value} {r:Nat} {κ:Type} {kv:κ→Value} {m:List (κ×Value)} (h:w.ownsRow B e sz v n xs) (hm:bJ kv w r m):v.ownBlock≠some r:=by
 intro b;obtain⟨i,a,hm,_⟩:=hm;rcases h.2 with⟨rfl,_⟩ |⟨g,d,f,rfl,_,c,_⟩
 ·cases b
 ·cases b;rw [hm]at c;cases c
theorem oS {P:Program} {src dst e:TypeId} (hs:P.underlying src=some (.slice e)) (he:P.underlying e=some (.int .u8)) (hd:P.underlying dst=some .string) (w:World) (i:Nat) (hi:i<256):
  (convert src dst (.slice (some (nb w)) 1 1)).run P (w.alloc (.cells #[.int .u8 (i:Int)] e))= .ok (.string (str [UInt8.ofNat i])) (w.alloc (.cells #[.int .u8 (i:Int)] e)):=by
 have a:(UInt8.ofNat i).toNat=i:=by simp;omega
 refine eQ hs he hd (base:=w.heap.size) (l:=[UInt8.ofNat i]) ⟨by simp [Lib.byteCells],.inr ⟨w.heap.size,1,_,rfl,XV _,aq w _,XV _,by decide,by simp,by simp [Lib.byteCells,a]⟩⟩
abbrev aX:=Bs×(Int×Int)
def gF (e:aX):List Value:=[.string (str e.1),.int .i64 e.2.1,.int .i64 e.2.2]
def my (es:List aX):List (Bs×Value):=es.zipIdx.map fun x=>(x.1.1,.int .i64 (x.2:Int))
def nq (es:List aX):List ((Int×Int)×Value):=((es.drop 256).zipIdx 256).map fun x=>(x.1.2,.int .i64 (x.2:Int))
def cM (i:Nat):aX:=([UInt8.ofNat i],(-1, -1))
def bU:List aX:=(List.range 256).map cM
theorem vA (es:List aX) (e:aX):my (es++ [e])=my es++ [(e.1,.int .i64 (es.length:Int))]:=by simp [my,List.zipIdx_append]
theorem Hd (es:List aX) (e:aX) (h:256≤es.length):nq (es++ [e])=nq es++ [(e.2,.int .i64 (es.length:Int))]:=by
 have a:256+(es.length-256)=es.length:=by omega
 simp only [nq,List.drop_append_of_le_length h,List.zipIdx_append,List.map_append,List.length_drop,a,List.zipIdx_cons,List.zipIdx_nil,List.map_cons,List.map_nil]
theorem ue (es:List aX) (h:es.length≤256):nq es= []:=by simp [nq,List.drop_eq_nil_of_le h]
theorem pj {s:Bs} {es:List aX}:e_ s (my es)=none↔∀e∈es,e.1≠s:=by
 rw [vv];constructor
 ·intro h e c;obtain⟨i,a,rfl⟩:=List.getElem_of_mem c;exact h (es[i].1,.int .i64 (i:Int)) (by
   simp only [my,List.mem_map];exact⟨(es[i],i),by rw [List.mem_zipIdx_iff_getElem?];simp [a],rfl⟩)
 ·intro h p b;simp only [my,List.mem_map]at b;obtain⟨⟨e,i⟩,a,rfl⟩:=b;rw [List.mem_zipIdx_iff_getElem?]at a;exact h e (List.mem_of_getElem? a)
theorem Ds {m:Int×Int}:∀(l:List aX) (k:Nat),e_ m ((l.zipIdx k).map fun x=>(x.1.2,Value.int .i64 (x.2:Int)))=((l.map (·.2)).idxOf? m).map fun i=>Value.int .i64 ((k+i:Nat):Int)
 | [],k=>rfl
 |e::l,k=>by
  simp only [List.zipIdx_cons,List.map_cons,e_,List.idxOf?_cons];by_cases h:m=e.2
  ·simp [h]
  ·rw [if_neg h,Ds l (k+1)];have:(e.2==m)=false:=by simp;exact fun a=>h a.symm
   rw [this];simp only [Bool.false_eq_true,if_false,Option.map_map];congr 1;funext i;simp;omega
def au (es:List aX):List (Int×Int):=(es.drop 256).map (·.2)
theorem GM (m:Int×Int) (es:List aX):e_ m (nq es)=((au es).idxOf? m).map fun i=>Value.int .i64 ((256+i:Nat):Int):=Ds _ 256
abbrev kZ:TypeId:=261
abbrev DO:TypeId:=300
abbrev rR:TypeId:=258
abbrev Gg:TypeId:=205
abbrev Ma:TypeId:=259
theorem rJ:Tryz.prog.underlying rR=some (.slice DO):=by kernel_rfl
theorem vz:(Tryz.prog.info? DO).map (fun i=>(i.zero,i.size,i.bytes))=some (some (.agg #[.string ⟨#[]⟩,.int .i64 0,.int .i64 0]),3,32):=by kernel_rfl
theorem fk:Tryz.prog.underlying Gg=some (.map 9 aT):=by kernel_rfl
theorem FW:Tryz.prog.underlying Ma=some (.map mw aT):=by kernel_rfl
theorem en:(Tryz.prog.info? aT).map (·.zero)=some (some (.int .i64 0)):=by kernel_rfl
theorem mP:kL Tryz.prog 9 Bs di:=Iu (by kernel_rfl)
theorem oD:kL Tryz.prog aT Int eu:=KG (by kernel_rfl)
theorem Md:kL Tryz.prog mw (Int×Int) dT:=by
 refine G9 (fs:=br (Tryz.prog.underlying mw)) (by kernel_rfl) (by kernel_rfl) (fun e k w=>?_);cases e<;>kernel_rfl
structure Ob (w:World) (B p:Nat) (l:Sl) (mb mp:Nat) (most:Int) (es:List aX):Prop where
 blk:w.heap[p]? =some (.cells #[l.v,.map (some mb),.map (some mp),.int .i64 most] kZ (0,0))
 row:w.ownsRow B DO 3 l.v l.n (es.flatMap gF)
 len:l.n=es.length
 off:l.v.ownBlock≠some p
 bytes:bJ di w mb (my es)
 pairs:bJ dT w mp (nq es)
 bp:B≤p
 bb:B≤mb
 bm:B≤mp
 ne:mb≠mp
def ie (w:World) (B p:Nat) (es:List aX):Prop:=∃l mb mp most,Ob w B p l mb mp most es∧1≤most∧most≤64∧∀e∈es,(e.1.length:Int)≤most
def dx (w:World) (p:Nat) (es:List aX):Prop:=∃(l:Sl) (mb mp:Nat) (most:Int),w.heap[p]? =some (.cells #[l.v,.map (some mb),.map (some mp),.int .i64 most] kZ (0,0))∧l.n=es.length∧Rw gF 3 w l.a es∧bJ di w mb (my es)∧bJ dT w mp (nq es)∧most≤64∧∀e∈es,(e.1.length:Int)≤most
theorem dx.on {w w':World} {p:Nat} {es:List aX} (h:dx w p es) (hb:ZH w w'):dx w' p es:=by
 obtain⟨l,i,j,a,b,c,d,e,f,g⟩:=h;exact⟨l,i,j,a,aj hb b,c,d.on hb,e.on hb,f.on hb,g⟩
theorem dx.lt {w:World} {p:Nat} {es:List aX} (h:dx w p es):p<w.heap.size:=by
 obtain⟨l,c,d,a,b,_⟩:=h;exact(XY.1 b).1
theorem sH (e:aX):(gF e).length=3:=rfl
theorem ie.is {w:World} {B p:Nat} {es:List aX} (h:ie w B p es):dx w p es:=by
 obtain⟨l,c,d,a,h,_,b⟩:=h;exact⟨l,c,d,a,h.blk,h.len,(Rw.of_own h.row sH (by decide)).1,h.bytes,h.pairs,b⟩
theorem ie.on {w w':World} {B p:Nat} {es:List aX} (h:ie w B p es) (hb:ZH w w'):ie w' B p es:=by
 obtain⟨l,c,d,a,h,b⟩:=h;exact⟨l,c,d,a,⟨aj hb h.blk,aE h.row hb,h.len,h.off,h.bytes.on hb,h.pairs.on hb,h.bp,h.bb,h.bm,h.ne⟩,b⟩
theorem ai (p:Nat) (w:World) {c:Array Value} {e:TypeId} {fz:Nat×Nat} (h:w.heap[p]? =some (.cells c e fz)) (j:Nat):w.cell? ((⟨p,0,none⟩:Addr).add j)=c[j]? :=by rw [aG,Nat.zero_add,aQ h]
theorem fO (w:World) (p:Nat) (es:List aX) (h:dx w p es):CP 116 #[.pointer (some ⟨p,0,none⟩)] w fun e w'=>e= .returned (.int .i64 es.length)∧w'=w:=by
 obtain⟨l,d,f,a,b,c,_⟩:=h;refine aV (Co (some ⟨p,0,none⟩) w) ?_;exact ac.no rfl (ag.mk _ rfl ⟨l.a,l.n,l.c,by rw [ai p w b];rfl,by rw [c],rfl⟩)
def bH (es:List aX) (id:Int):Prop:=0≤id∧id<es.length
instance (es:List aX) (id:Int):Decidable (bH es id):=by unfold bH;infer_instance
theorem iY (w:World) (p:Nat) (es:List aX) (h:dx w p es) (id:Int):CP 210 #[.pointer (some ⟨p,0,none⟩),.int .i64 id] w fun e w'=>e= .returned (.bool (decide (bH es id)))∧w'=w:=by
 refine aJ (yI (some ⟨p,0,none⟩) id w (fun v w'=>v= .bool (decide (bH es id))∧w'=w) ?_) (by rintro v w' ⟨rfl,h⟩;exact⟨rfl,h⟩);refine ac.mk ?_ ?_
 ·intro a;have a:=XQ a;refine(fO w p es h).mono ?_;rintro e w' ⟨rfl,b⟩;subst b;refine⟨_,rfl,?_,rfl⟩;congr 1;exact decide_eq_decide.2 ⟨fun h=>⟨a,h⟩,fun h=>h.2⟩
 ·intro a;have a:=XX a;refine⟨?_,rfl⟩;rw [XZ];exact fun h=>a h.1
def bj (es:List aX) (id:Int):Bs:=((es[id.toNat]?).map (·.1)).getD []
theorem ee {es:List aX} {id:Int} (h:bH es id):∃e,es[id.toNat]? =some e∧bj es id=e.1:=by
 have a:id.toNat<es.length:=by have:=h.1;have:=h.2;omega
 exact⟨es[id.toNat],XK a,by simp [bj,XK a]⟩
theorem gQ (w:World) (p:Nat) (es:List aX) (h:dx w p es) (id:Int):CP 163 #[.pointer (some ⟨p,0,none⟩),.int .i64 id] w fun e w'=>e= .returned (.tuple #[.string (str (if bH es id then bj es id else [])),.bool (decide (bH es id))])∧w'=w:=by
 refine aV (Ai (some ⟨p,0,none⟩) id w) ?_;refine(iY w p es h id).mono ?_;rintro e w' ⟨rfl,k⟩;subst k;refine⟨_,rfl,ac.mk ?_ ?_⟩
 ·intro b;have b:¬bH es id:=by simpa using b
  rw [if_neg b,XZ b];exact⟨rfl,rfl⟩
 ·intro b;have b:bH es id:=by simpa using b
  obtain⟨l,o,q,c,d,n,f,_⟩:=h;obtain⟨x,m,i⟩:=ee b;obtain⟨a,g,_,j⟩:=f _ x m;have:=b.1;have:=b.2;refine ag.mk _ rfl ⟨l.a,l.n,l.c,by rw [ai p _ d];rfl,ag.mk a g ⟨by omega,by omega,str x.1,j 0 _ rfl,?_⟩⟩;rw [if_pos b,XJ b,i];exact⟨rfl,rfl⟩
theorem nW (w:World) (p:Nat) (es:List aX) (h:dx w p es) (a b:Int):CP 285 #[.pointer (some ⟨p,0,none⟩),.int .i64 a,.int .i64 b] w fun e w'=>e= .returned (.tuple #[.int .i64 ((((au es).idxOf? (a,b)).map fun i=>((256+i:Nat):Int)).getD 0),.bool ((au es).idxOf? (a,b)).isSome])∧ZH w w':=by
 obtain⟨l,o,j,d,f,k,m,n,g,_⟩:=h;refine aV (zc (some ⟨p,0,none⟩) a b w) ?_;refine ac.no rfl (ag.mk _ rfl ⟨some j,by rw [ai p w f];rfl,?_⟩);have c:=eL Md FW en g (a,b);rw [GM]at c;cases hx:(au es).idxOf? (a,b)with
 |none=>rw [hx]at c;exact⟨0,false,w,c,rfl,Below.refl _ _⟩
 |some i=>rw [hx]at c;exact⟨_,true,w,c,rfl,Below.refl _ _⟩
def bI (es:List aX) (id:Int):Int×Int:=((es[id.toNat]?).map (·.2)).getD (-1, -1)
def BC (es:List aX) (id:Int):Value:=if bH es id∧bI es id≠(-1, -1)then .tuple #[.agg #[.int .i64 (bI es id).1,.int .i64 (bI es id).2],.bool true]else .tuple #[.agg #[.int .i64 0,.int .i64 0],.bool false]
theorem fj (w:World) (p:Nat) (es:List aX) (h:dx w p es) (id:Int):CP 309 #[.pointer (some ⟨p,0,none⟩),.int .i64 id] w fun e w'=>e= .returned (BC es id)∧ZH w w':=by
 refine aV (yX (some ⟨p,0,none⟩) id w) ?_;rintro r q;have z:ZH w r:=by subst q;exact ah _ _
 have t:=h.on z;have c:∀(a b:Int) (k:World→Prop),(∀i,i.cell? (nb w)=some (Value.int .i64 a)∧i.cell? ((nb w).add 1)=some (Value.int .i64 b)∧True→ZH w i→k i)→aI r (nb w) k [Value.int .i64 a,Value.int .i64 b] 0:=by
  intro a b k A;refine bg [.int .i64 0,.int .i64 0] [.int .i64 a,.int .i64 b] rfl (cK a b) r q ?_;intro i f _ j;exact A i ⟨by have:=ai _ _ f 0;rw [aC]at this;exact this,ai _ _ f 1,trivial⟩ j
 refine(iY r p es t id).mono ?_;rintro e C ⟨rfl,B⟩;subst B;refine⟨_,rfl,ac.mk ?_ ?_⟩
 ·intro d;have d:¬bH es id:=by simpa using d
  refine c 0 0 _ fun i f j=>⟨0,0,f,?_,j⟩;rw [BC,if_neg fun h=>d h.1]
 ·intro d;have d:bH es id:=by simpa using d
  obtain⟨l,E,F,y,u,D,f,_⟩:=t;have o:id.toNat<es.length:=by have:=d.1;have:=d.2;omega
  have s:bI es id=es[id.toNat].2:=by simp [bI,XK o]
  obtain⟨a,v,_,x⟩:=f _ _ (XK o);have:=d.1;have:=d.2;have m:=x 1 _ rfl;have n:C.cell? (((a.add (id.toNat*3)).add 1).add 1)=some (.int .i64 es[id.toNat].2.2):=by
   have:=x 2 _ rfl;rwa [show(2:Nat)=1+1 from rfl, ←Addr.add_add]at this
  refine ag.mk _ rfl ⟨l.a,l.n,l.c,by rw [ai p _ u];rfl,ag.mk a v ⟨by omega,by omega,_,_,⟨m,n,trivial⟩,ac.mk ?_ ?_⟩⟩
  ·intro g;have g:es[id.toNat].2=(-1, -1):=by
    simp only [Bool.and_true,Bool.and_eq_true,beq_iff_eq]at g;exact Prod.ext g.1 g.2
   refine c 0 0 _ fun i f j=>⟨0,0,f,?_,j⟩;rw [BC,if_neg fun h=>h.2 (s.trans g)]
  ·intro g;have g:es[id.toNat].2≠(-1, -1):=by
    intro e;rw [e]at g;simp at g
   refine ag.mk _ rfl ⟨l.a,l.n,l.c,by rw [ai p _ u];rfl,ag.mk a v ⟨by omega,by omega,_,_,⟨m,n,trivial⟩,?_⟩⟩;refine c _ _ _ fun i f j=>⟨_,_,f,?_,j⟩;rw [BC,if_pos ⟨d,by rw [s];exact g⟩,s]
structure fo (es:List aX):Prop where
 low:es.take 256=bU
 len:256≤es.length
 most:es.length≤1000
 step:∀(i:Nat) (e:aX),es[i]? =some e→256≤i→(0≤e.2.1∧e.2.1<i)∧(0≤e.2.2∧e.2.2<i)∧e.1=bj es e.2.1++bj es e.2.2
 short:∀e∈es,e.1.length≤64
 nodup:(es.map (·.1)).Nodup
def cn (es:List aX) (m:Int×Int):Bs:=bj es m.1++bj es m.2
def cq (es:List aX) (m:Int×Int):Except Int aX:=
 if ¬(bH es m.1∧bH es m.2)then .error 4
 else if 64< (cn es m).length then .error 3
 else if 1000≤es.length then .error 5
 else if cn es m∈es.map (·.1)then .error 10
 else .ok (cn es m,m)
theorem iq {es:List aX} (x:aX) {id:Int} (h:bH es id):bj (es++ [x]) id=bj es id:=by
 have:=h.1;have:=h.2;simp only [bj];rw [List.getElem?_append_left (by omega)]
theorem lW {es:List aX} (h:fo es) {m:Int×Int} {x:aX} (hx:cq es m= .ok x):fo (es++ [x])∧x.2=m∧bH es m.1∧bH es m.2:=by
 unfold cq at hx;split at hx
 ·cases hx
 ·rename_i c;split at hx
  ·cases hx
  ·rename_i n;split at hx
   ·cases hx
   ·rename_i q;split at hx
    ·cases hx
    ·rename_i o;cases hx;have c:bH es m.1∧bH es m.2:=Classical.not_not.1 c;refine⟨⟨by rw [List.take_append_of_le_length h.len];exact h.low,by have:=h.len;simp;omega,by simp;omega,fun i e j d=>?_,fun e g=>?_,?_⟩,rfl,c.1,c.2⟩
     ·rcases Nat.lt_trichotomy i es.length with l |l |l
      ·rw [List.getElem?_append_left l]at j;obtain⟨k,f,p⟩:=h.step i e j d;refine⟨k,f,?_⟩;rw [iq _ ⟨k.1,by omega⟩,iq _ ⟨f.1,by omega⟩];exact p
      ·subst l;simp at j;subst j;refine⟨c.1,c.2,?_⟩;rw [iq _ c.1,iq _ c.2];rfl
      ·have:=(List.getElem?_eq_some_iff.1 j).1;simp at this;omega
     ·rcases List.mem_append.1 g with g |g
      ·exact h.short e g
      ·rw [List.mem_singleton.1 g];exact Nat.le_of_not_lt n
     ·rw [List.map_append,List.nodup_append];refine⟨h.nodup,by simp,fun a k b f=>?_⟩;simp at f;subst f;intro e;subst e;exact o k
theorem Ja {es:List aX} (h:fo es) {m:Int×Int} (hm:cn es m∉es.map (·.1)):e_ m (nq es)=none:=by
 rw [vv];intro q b e;simp only [nq,List.mem_map]at b;obtain⟨⟨x,i⟩,a,rfl⟩:=b;simp only at e;have a:=(List.mem_zipIdx_iff_le_and_getElem?_sub.1 a);simp only [List.getElem?_drop]at a;have c:es[i]? =some x:=by
  have:=a.2;rwa [show 256+(i-256)=i by omega]at this
 obtain⟨_,_,d⟩:=h.step i x c a.1;apply hm;rw [cn, ←e, ←d];exact List.mem_map.2 ⟨x,List.mem_of_getElem? c,rfl⟩
theorem uL {s:Bs} {es:List aX} {v:Value} (h:e_ s (my es)=some v):∃n:Int,v= .int .i64 n:=by
 have:∀(m:List (Bs×Value)),(∀p∈m,∃n:Int,p.2= .int .i64 n)→e_ s m=some v→∃n:Int,v= .int .i64 n:=by
  intro m;induction m with
  |nil=>intro _ h;cases h
  |cons p m ih=>
   intro a h;simp only [e_]at h;split at h
   ·cases h;exact a p (by simp)
   ·exact ih (fun q c=>a q (by simp [c])) h
 refine this _ (fun p b=>?_) h;simp only [my,List.mem_map]at b;obtain⟨x,_,rfl⟩:=b;exact⟨_,rfl⟩
theorem dI {w:World} {p r:Nat} {c:Array Value} {T:TypeId} {fz:Nat×Nat} (h:w.heap[p]? =some (.cells c T fz)) {κ:Type} {kv:κ→Value} {m:List (κ×Value)} (hm:bJ kv w r m):r≠p:=by
 rintro rfl;obtain⟨b,a,hm,_⟩:=hm;rw [h]at hm;cases hm
theorem Bp {P:Program} (a b:Int) (ts:Array TypeId) (t:TypeId) (w:World):(Builtin.max_ ts t #[.int .i64 a,.int .i64 b]).run P w= .ok (.int .i64 (if b>a then b else a)) w:=by
 simp [Builtin.max_,Builtin.max2]
def wP (w:World) (B p:Nat) (es:List aX) (m:Int×Int) (v:Value) (w':World):Prop:=Below B w w'∧match cq es m with
 | .error n=>v= .tuple #[.int .i64 0,.int .i64 n]∧ie w' B p es
 | .ok x=>v= .tuple #[.int .i64 es.length,.int .i64 0]∧ie w' B p (es++ [x])
theorem qq (w:World) (B p:Nat) (es:List aX) (h:ie w B p es) (hok:fo es) (hB:B≤w.heap.size) (m:Int×Int):
  CP 240 #[.pointer (some ⟨p,0,none⟩),.agg #[.int .i64 m.1,.int .i64 m.2]] w fun e w'=>∃v,e= .returned v∧wP w B p es m v w':=by
 refine Cn (some ⟨p,0,none⟩) m.1 m.2 w (wP w B p es m) ?_;rintro w1 y;have X:ZH w w1:=by subst y;exact ah _ _
 have h1:=h.on X;have t:∀j,w1.cell? ((nb w).add j)=(#[Value.int .i64 m.1,Value.int .i64 m.2]:Array Value)[j]? :=by
  intro j;subst y;rw [aG,Nat.zero_add,bn]
 refine ac.no rfl ⟨m.1,t 0,?_⟩;refine(iY w1 p es h1.is m.1).mono ?_;rintro e w2 ⟨rfl,hw⟩;subst hw;have q:∀(n:Int) (w':World),cq es m= .error n→ZH w2 w'→wP w B p es m (.tuple #[.int .i64 0,.int .i64 n]) w':=by
  intro n w' hn hb;refine⟨(ae X hb).mono hB,?_⟩;rw [hn];exact⟨rfl,h1.on hb⟩
 refine⟨_,rfl,ac.mk (fun d=>?_) fun d=>⟨m.2,t 1,?_⟩⟩
 ·have d:¬bH es m.1:=by simpa using d
  exact q 4 _ (by rw [cq,if_pos fun h=>d h.1]) (Below.refl _ _)
 have i1:bH es m.1:=by simpa using d
 refine(iY w2 p es h1.is m.2).mono ?_;rintro e w3 ⟨rfl,hw⟩;subst hw;refine⟨_,rfl,ac.mk (fun d=>?_) fun d=>?_⟩
 ·have d:¬bH es m.2:=by simpa using d
  exact q 4 _ (by rw [cq,if_pos fun h=>d h.2]) (Below.refl _ _)
 have i2:bH es m.2:=by simpa using d
 rintro w4 hw4;have F:ZH w3 w4:=by subst hw4;exact(Below.refl _ _).drew
 have L:w4.heap=w3.heap:=by subst hw4;rfl
 obtain⟨l,G,z,E,a,hm0,hm1,hm2⟩:=h1.on F;have g:∀j,w4.cell? ((nb w).add j)=(#[Value.int .i64 m.1,Value.int .i64 m.2]:Array Value)[j]? :=fun j=>by
  rw [F.cell (by rw [ay];subst y;rw [aK];exact Nat.lt_succ_self _)];exact t j
 have a3:=(Rw.of_own a.row sH (by decide)).1;obtain⟨x1,hx1,e1⟩:=ee i1;obtain⟨x2,hx2,e2⟩:=ee i2;obtain⟨a1,ha1,_,hc1⟩:=a3 _ x1 hx1;obtain⟨a2,ha2,_,hc2⟩:=a3 _ x2 hx2;have M:=a.len;have:=i1.1;have:=i1.2;have:=i2.1;have:=i2.2;have s1:=hok.short x1 (List.mem_of_getElem? hx1);have s2:=hok.short x2 (List.mem_of_getElem? hx2);have o:w4.cell? ((⟨p,0,none⟩:Addr).add 0)=some (.slice l.a l.n l.c):=by rw [ai p _ a.blk];rfl
 refine ag.mk _ rfl ⟨l.a,l.n,l.c,o,m.1,g 0,ag.mk a1 ha1 ⟨by omega,by omega,str x1.1,hc1 0 _ rfl,ag.mk _ rfl ⟨l.a,l.n,l.c,o,m.2,g 1,ag.mk a2 ha2 ⟨by omega,by omega,str x2.1,hc2 0 _ rfl,?_⟩⟩⟩⟩;have hj:str x1.1++str x2.1=str (cn es m):=by rw [nk,cn,e1,e2]
 have hjl:(cn es m).length=x1.1.length+x2.1.length:=by rw [cn,e1,e2,List.length_append]
 try dsimp only
 rw [hj];refine⟨by rw [aP,aP];show _≤(9223372036854775807:Int);omega,ac.mk (fun d=>?_) fun d=>?_⟩
 ·have d:=XQ d;rw [aP]at d;exact q 3 _ (by rw [cq,if_neg (Classical.not_not.2 ⟨i1,i2⟩),if_pos (by omega)]) F
 have hs:=XX d;rw [aP]at hs;have hs:¬64< (cn es m).length:=by omega
 refine ag.mk _ rfl ⟨l.a,l.n,l.c,o,ac.mk (fun d=>?_) fun d=>?_⟩
 ·have d:=XQ d;exact q 5 _ (by rw [cq,if_neg (Classical.not_not.2 ⟨i1,i2⟩),if_neg hs,if_pos (by omega)]) F
 have d:=XX d;have hk:¬1000≤es.length:=by omega
 refine ag.mk _ rfl ⟨some G,by rw [ai p _ a.blk];rfl,?_⟩;have hl:=eL mP fk en a.bytes (cn es m);cases hx:e_ (cn es m) (my es)with
 |some v=>
  obtain⟨n,rfl⟩:=uL hx;rw [hx]at hl;refine⟨n,true,w4,hl,ac.yes rfl ?_⟩;have hmem:cn es m∈es.map (·.1):=by
   rcases Classical.em (cn es m∈es.map (·.1))with h |h
   ·exact h
   ·have:e_ (cn es m) (my es)=none:=pj.2 fun e Y he'=>h (List.mem_map.2 ⟨e,Y,he'⟩);rw [this]at hx;cases hx
  exact q 10 _ (by rw [cq,if_neg (Classical.not_not.2 ⟨i1,i2⟩),if_neg hs,if_neg hk,if_pos hmem]) F
 |none=>
  rw [hx]at hl;have a0:cn es m∉es.map (·.1):=fun h=>by
   obtain⟨e,Y,he'⟩:=List.mem_map.1 h;exact pj.1 hx e Y he'
  have hadd:cq es m= .ok (cn es m,m):=by rw [cq,if_neg (Classical.not_not.2 ⟨i1,i2⟩),if_neg hs,if_neg hk,if_neg a0]
  refine⟨0,false,w4,hl,ac.no rfl (ag.mk _ rfl ⟨l.a,l.n,l.c,o,?_⟩)⟩;rintro H hw6;have r:H.heap=w4.heap:=by subst hw6;rfl
  have hb6:ZH w4 H:=by subst hw6;exact(Below.refl _ _).drew
  have C:∀j,H.cell? ((nb w).add j)=(#[Value.int .i64 m.1,Value.int .i64 m.2]:Array Value)[j]? :=fun j=>by
   rw [hb6.cell (by rw [ay,L];subst y;rw [aK];exact Nat.lt_succ_self _)];exact g j
  have f:H.heap[p]? =some (.cells #[l.v,.map (some G),.map (some z),.int .i64 E] kZ (0,0)):=by rw [r];exact a.blk
  have hsz6:H.heap.size=w.heap.size+1:=by rw [r,L];subst y;rw [aK]
  have O:G≠p:=dI a.blk a.bytes;have R:z≠p:=dI a.blk a.pairs;have u:=aE a.row hb6;obtain⟨a',c',w8,hr8,hu8,hf8,h9⟩:=fG (P:=Tryz.prog) (s:=l) 0 f (show 0<4 by decide) u a.off a.bp rR rJ vz rfl (by decide) (gF (cn es m,m)) rfl (by
   intro v hv;simp only [gF,List.mem_cons,List.not_mem_nil,or_false]at hv;rcases hv with rfl |rfl |rfl<;>rfl) (by omega) (by omega)
  refine ag.mk _ rfl ⟨l.a,l.n,l.c,by rw [ai p _ f];rfl,m.1,m.2,⟨by have:=C 0;rwa [aC]at this,C 1,trivial⟩,?_⟩;rintro w7 rfl;refine⟨⟨by rw [(ah H _).cell (by rw [ay];exact(XY.1 f).1),ai p _ f];rfl,trivial⟩,a',l.n+1,c',w8,hr8,ag.mk _ rfl ⟨rfl,hu8,hf8,?_⟩⟩;intro w9 hw9;obtain⟨I,x,S,hB9,i,hsz9⟩:=h9 w9 hw9;rintro W a6;have b:W.heap=w9.heap:=by subst a6;rfl
  have A:W.heap[p]? =some (.cells #[.slice a' (l.n+1) c',.map (some G),.map (some z),.int .i64 E] kZ (0,0)):=by rw [b];exact I
  have hmbl:G<H.heap.size:=by rw [r];exact a.bytes.lt
  have hmpl:z<H.heap.size:=by rw [r];exact a.pairs.lt
  have K:bJ di H G (my es):=a.bytes.same (by rw [r]);have U:bJ dT H z (nq es):=a.pairs.same (by rw [r]);have J:bJ di W G (my es):=K.same (by rw [b];exact i G hmbl O (dc u K));have T:bJ dT W z (nq es):=U.same (by rw [b];exact i z hmpl R (dc u U));have N:H.heap[w.heap.size]? =some (.cells #[Value.int .i64 m.1,Value.int .i64 m.2] 85):=by
   rw [r,L];subst y;exact aq _ _
  have hlw:∀k,k<w.heap.size→H.heap[k]? =w.heap[k]? :=fun k hk=>by rw [r,L];exact X.block k hk
  have hpw:p<w.heap.size:=h.is.lt;have Q:G≠w.heap.size:=by
   rintro e;exact absurd (dI N K) (fun h=>h e)
  have hmpw:z≠w.heap.size:=by
   rintro e;exact absurd (dI N U) (fun h=>h e)
  have hrw:l.v.ownBlock≠some w.heap.size:=by
   intro e;obtain⟨l0,_,_,_,hT0,_⟩:=h;have e1:l0=l:=by
    have:=hlw p hpw;rw [f,hT0.blk]at this;have:=Option.some.inj this;simp only [Obj.cells.injEq,Array.mk.injEq,List.cons.injEq,Value.slice.injEq]at this;obtain⟨⟨⟨q1,q2,q3⟩,_⟩,_⟩:=this;cases l0;cases l;simp_all
   subst e1;have:=bL hT0.row _ e;omega
  have hloc9:w9.heap[w.heap.size]? =some (.cells #[Value.int .i64 m.1,Value.int .i64 m.2] 85):=by
   rw [i w.heap.size (by omega) (by omega) hrw];exact N
  have agg:∀w':World,w'.heap[w.heap.size]? =w9.heap[w.heap.size]? →w'.cell? (nb w)=some (Value.int .i64 m.1)∧w'.cell? ((nb w).add 1)=some (Value.int .i64 m.2)∧True:=by
   intro w' hw';rw [hloc9]at hw';exact⟨by have:=ai _ _ hw' 0;rwa [aC]at this,ai _ _ hw' 1,trivial⟩
  obtain⟨k1,w11,hr11,hp11,D,hz11,hB11⟩:=gJ mP fk en J (cn es m) hx;obtain⟨w12,hr12,hm12,V,hz12,hB12⟩:=gR Gg hp11 (.int .i64 (l.n:Int));have hpm12:bJ dT w12 z (nq es):=T.same (by rw [V z a.ne.symm,D z a.ne.symm]);obtain⟨k2,w13,hr13,hp13,a4,hz13,hB13⟩:=gJ Md FW en hpm12 m (Ja hok a0);obtain⟨Z,hr14,hm14,a5,hz14,hB14⟩:=gR Ma hp13 (.int .i64 (l.n:Int));have h10:∀k,k≠G→k≠z→Z.heap[k]? =w9.heap[k]? :=fun k h1 h2=>by rw [a5 k h2,a4 k h2,V k h1,D k h1,b]
  refine ag.mk _ rfl ⟨some G,by rw [ai p _ A];rfl,ag.mk _ rfl ⟨some z,by rw [ai p _ A];rfl,m.1,m.2,agg W (by rw [b]),0,k1,w11,hr11,agg w11 (by rw [D _ (Ne.symm Q),b]),w12,hr12,agg w12 (by rw [V _ (Ne.symm Q),D _ (Ne.symm Q),b]),0,k2,w13,hr13,Z,hr14,?_⟩⟩;have c:Z.heap[p]? =some (.cells #[.slice a' (l.n+1) c',.map (some G),.map (some z),.int .i64 E] kZ (0,0)):=by
   rw [h10 p (Ne.symm O) (Ne.symm R)];exact I
  refine ag.mk _ rfl ⟨E,by rw [ai p _ c];rfl,_,Z,Bp _ _ _ _ _,ag.mk _ rfl ⟨rfl,⟨_,by rw [ai p _ c];rfl⟩,bc c,?_⟩⟩;rintro w16 rfl;refine⟨?_,?_⟩
  ·refine bv (hB14 _ _ a.bm (hB13 _ _ a.bm (hB12 _ _ a.bb (hB11 _ _ a.bb ?_)))) a.bp _;have:Below B w w9:=hB9 w (((ae X F).trans ((hb6.mono (by rw [L];subst y;rw [aK];omega)))).mono hB);subst a6;exact this.drew
  ·rw [hadd];refine⟨by rw [M],⟨a',l.n+1,c'⟩,G,z,_,⟨bu c _,?_,by simp;omega,S,?_,?_,a.bp,a.bb,a.bm,a.ne⟩,?_⟩
   ·have hflat:(es++ [(cn es m,m)]).flatMap gF=es.flatMap gF++gF (cn es m,m):=by simp
    rw [hflat];refine bw (aN x fun k hk=>h10 k ?_ ?_) _ (by rw [ay];exact S)
    ·rintro rfl;refine dc x (?_:bJ di w9 _ (my es)) hk;exact J.same (by rw [b])
    ·rintro rfl;refine dc x (?_:bJ dT w9 _ (nq es)) hk;exact T.same (by rw [b])
   ·rw [vA, ←M];exact hm12.same (by rw [ar (by rw [ay];exact O),a5 _ a.ne,a4 _ a.ne])
   ·rw [Hd _ _ hok.len, ←M];exact hm14.same (by rw [ar (by rw [ay];exact R)])
   ·rw [aP];refine⟨by split<;>omega,by split<;>omega,fun e Y=>?_⟩
    rcases List.mem_append.1 Y with Y |Y
    ·have:=hm2 e Y;split<;>omega
    ·rw [List.mem_singleton.1 Y];show((cn es m).length:Int)≤_;split<;>omega
theorem vk {i j:Nat} (hi:i<256) (hj:j<256) (h:UInt8.ofNat i=UInt8.ofNat j):i=j:=by
 have:=congrArg UInt8.toNat h;simp at this;omega
theorem DK (w:World):CP 241 #[] w fun e w'=>∃p,e= .returned (.pointer (some ⟨p,0,none⟩))∧ie w' w.heap.size p bU∧ZH w w':=by
 refine aV (CA w) ?_;refine⟨some w.heap.size,_,fR _,some (w.alloc (.map #[] 0)).heap.size,_,fR _,?_⟩;rintro w3 J;have C:(w.alloc (.map #[] 0)).heap.size=w.heap.size+1:=aK _ _;have K:((w.alloc (.map #[] 0)).alloc (.map #[] 0)).heap.size=w.heap.size+2:=by rw [aK,C]
 have U:ZH w w3:=by
  subst J;exact(((Below.refl _ _).alloc (XV _) _).alloc (by omega) _).alloc (by omega) _
 have T:ie w3 w.heap.size (w.heap.size+2) ((List.range 0).map cM):=by
  subst J;refine⟨⟨none,0,0⟩,w.heap.size,w.heap.size+1,1,⟨?_,cU _ _ _ _,rfl,(by intro h;cases h),?_,?_,by omega,by omega,by omega,by omega⟩,by omega,by omega,by simp⟩
  ·have:=aq ((w.alloc (.map #[] 0)).alloc (.map #[] 0)) (.cells #[Value.slice none 0 0,Value.map (some w.heap.size),Value.map (some (w.alloc (.map #[] 0)).heap.size),Value.int .i64 1] kZ);rw [K]at this;rw [this,C]
  ·exact(ip (kv:=di) w).same (by rw [fE _ _ (by omega),fE _ _ (by omega)])
  ·have h0:=ip (kv:=dT) (w.alloc (.map #[] 0));rw [C]at h0;exact h0.same (by rw [fE _ _ (by omega)])
 have X:nb ((w.alloc (.map #[] 0)).alloc (.map #[] 0))=⟨w.heap.size+2,0,none⟩:=by rw [nb,K]
 rw [X];intro I hI;have a2:=aZ (α:=World) 256 (fun i x=>ie x w.heap.size (w.heap.size+2) ((List.range i).map cM)∧ZH w x) (fun i x=>I [.int .i64 (i:Int)] x) w3 ⟨T,U⟩ ?_ ?_
 ·exact a2
 ·rintro i hi ih w4 ⟨⟨l,L,R,M,b,Q⟩,O⟩;refine hI _ _ (ac.yes (by simp;omega) ?_);have a1:IntKind.wrap .u8 (i:Int)=(i:Int):=cL (by show(0:Int)≤_;omega) (by show _≤(255:Int);omega);rw [a1];rintro w5 rfl;have r:=ah w4 (.cells #[Value.int .u8 (i:Int)] 5);refine⟨_,_,oS (P:=Tryz.prog) (by kernel_rfl) (by kernel_rfl) (by kernel_rfl) w4 i hi,?_⟩;have d:=aj r b.blk;refine⟨l.a,l.n,l.c,by rw [ai _ _ d];rfl,?_⟩;rintro w7 rfl;have c:=aE b.row r;have f:=b.bytes.on r;have m:=b.pairs.on r;have E:l.n=i:=by rw [b.len];simp
  obtain⟨a',c',w8,Y,Z,W,h9⟩:=fG (P:=Tryz.prog) (s:=l) 0 d (show 0<4 by decide) c b.off b.bp rR rJ vz rfl (by decide) (gF (cM i)) rfl (by
   intro v hv;simp only [gF,List.mem_cons,List.not_mem_nil,or_false]at hv;rcases hv with rfl |rfl |rfl<;>rfl) (by omega) (by omega)
  refine⟨a',l.n+1,c',w8,Y,rfl,Z,W,?_⟩;intro w9 a0;obtain⟨n,o,B,S,g,hsz9⟩:=h9 w9 a0;have y:L≠w.heap.size+2:=dI d f;have G:R≠w.heap.size+2:=dI d m;have t:bJ di w9 L (my ((List.range i).map cM)):=f.same (g L f.lt y (dc c f));have z:bJ dT w9 R (nq ((List.range i).map cM)):=m.same (g R m.lt G (dc c m));refine⟨some L,by rw [ai _ _ n];rfl,?_⟩;obtain⟨N,H,F,q,hz10,D⟩:=eO mP fk t [UInt8.ofNat i] (.int .i64 (i:Int)) (pj.2 fun e u V=>by
   obtain⟨j,hj,rfl⟩:=List.mem_map.1 u;have hj:=List.mem_range.1 hj;have:=vk (by omega) hi (List.cons.inj V).1;omega)
  have a:(List.range (i+1)).map cM=(List.range i).map cM++ [cM i]:=by rw [List.range_succ];simp
  refine⟨N,H,Ar.ok64 (by omega) (by omega) (ih N ⟨⟨⟨a',l.n+1,c'⟩,L,R,M,⟨?_,?_,by simp [E],B,?_,?_,b.bp,b.bb,b.bm,b.ne⟩,Q.1,Q.2.1,?_⟩,?_⟩)⟩
  ·rw [q _ (Ne.symm y)];exact n
  ·rw [a];have A:((List.range i).map cM++ [cM i]).flatMap gF=((List.range i).map cM).flatMap gF++gF (cM i):=by simp
   rw [A];refine aN o fun k hk=>q k ?_;rintro rfl;exact dc o t hk
  ·rw [a,vA];simpa [cM]using F
  ·rw [a,ue _ (by simp;omega)];rw [ue _ (by simp;omega)]at z;exact z.same (q _ (Ne.symm b.ne))
  ·intro e u;rw [a]at u;rcases List.mem_append.1 u with u |u
   ·exact Q.2.2 e u
   ·rw [List.mem_singleton.1 u];exact Q.1
  ·exact D _ _ b.bb (S w (O.alloc O.size _))
 ·rintro w4 ⟨b,O⟩;exact hI _ _ (ac.no (by simp) ⟨_,rfl,b,O⟩)
theorem sU {i:Nat} {e:aX} (h:bU[i]? =some e):i<256∧e=cM i:=by
 simp only [bU,List.getElem?_map,List.getElem?_range]at h;have b:i<256:=by
  rcases Nat.lt_or_ge i 256 with a |a
  ·exact a
  ·rw [List.getElem?_eq_none (by simpa using a)]at h;cases h
 rw [List.getElem?_range b]at h;exact⟨b,(Option.some.inj h).symm⟩
theorem pE:fo bU:=by
 refine⟨List.take_of_length_le (by simp [bU]),by simp [bU],by simp [bU],fun i e a c=>?_,fun e d=>?_,?_⟩
 ·have:=(sU a).1;omega
 ·obtain⟨i,a,rfl⟩:=List.getElem_of_mem d;rw [(sU (XK a)).2];simp [cM]
 ·simp only [bU,List.map_map,List.Nodup];rw [List.pairwise_map];refine List.Pairwise.imp_of_mem ?_ (List.nodup_range (n:=256));intro i j a f b h;simp only [Function.comp,cM,List.cons.injEq,and_true]at h;exact b (vk (List.mem_range.1 a) (List.mem_range.1 f) h)
def cI:List aX→Nat→List (Int×Int)→Except (Nat×Int) (List aX)
 |es,_,[]=>.ok es
 |es,i,m::r=>match cq es m with
  | .error n=>.error (i,n)
  | .ok x=>cI (es++ [x]) (i+1) r
def FY (w:World) (ms:List (Int×Int)) (v:Value) (w':World):Prop:=ZH w w'∧match cI bU 0 ms with
 | .error q=>v= .tuple #[.pointer none,.int .i64 q.1,.int .i64 q.2]
 | .ok es=>∃p,v= .tuple #[.pointer (some ⟨p,0,none⟩),.int .i64 ms.length,.int .i64 0]∧ie w' w.heap.size p es∧fo es
theorem gB {es:List aX} {m:Int×Int} {n:Int} (h:cq es m= .error n):n≠0:=by
 unfold cq at h
 repeat' split at h
 all_goals (cases h;try decide)
theorem qb (w:World) (a:Option Addr) (c:Nat) (ms:List (Int×Int)) (hr:Rw be 2 w a ms) (hl:ms.length≤1000000000):
  CP 189 #[.slice a ms.length c] w fun e w'=>∃v,e= .returned v∧FY w ms v w':=by
 refine yb a ms.length c w (FY w ms) ?_;refine(DK w).mono ?_;rintro e M ⟨p,rfl,k,f⟩;refine⟨_,rfl,?_⟩;intro I B;have y:=aZ (α:=Int×Int×Option Addr×World) ms.length (fun i x=>∃j,ie x.2.2.2 w.heap.size p j∧fo j∧cI bU 0 ms=cI j i (ms.drop i)∧ZH w x.2.2.2) (fun i x=>I [.int .i64 (i:Int),.int .i64 x.1,.int .i64 x.2.1,.pointer x.2.2.1] x.2.2.2) (0,0,none,M) ⟨bU,k,pE,by rw [List.drop_zero],f⟩ ?_ ?_
 ·exact y
 ·rintro i D L ⟨J,H,G,o⟩ ⟨j,k,h,g,f⟩;change ie o _ _ _ at k;change ZH w o at f;obtain⟨q,K,_,C⟩:=(hr.on f) i _ (XK D);have z:=C 0 _ rfl;rw [aC]at z;refine B _ _ _ _ _ (ac.yes (by simp;omega) (ag.mk q K ⟨by omega,by omega,_,_,⟨z,C 1 _ rfl,trivial⟩,?_⟩));intro N t;refine bg [.int .i64 0,.int .i64 0] [.int .i64 ms[i].1,.int .i64 ms[i].2] rfl (cK _ _) N t ?_;intro E A u l;refine⟨_,_,⟨by have:=ai _ _ A 0;rw [aC]at this;exact this,ai _ _ A 1,trivial⟩,?_⟩;refine(qq E w.heap.size p j (k.on l) h (by have O:w.heap.size≤o.heap.size:=f.size;have P:E.heap.size=o.heap.size+1:=u;omega) ms[i]).mono ?_;rintro e F ⟨v,rfl,r,b⟩;have d:ms.drop i=ms[i]::ms.drop (i+1):=(List.drop_eq_getElem_cons D);have m:ZH w F:=(f.trans (l.mono f.size)).trans r;cases hx:cq j ms[i]with
  |error n=>
   rw [hx]at b;obtain⟨rfl,_⟩:=b;refine⟨_,_,rfl,ac.yes (by simpa using gB hx) ⟨m,?_⟩⟩;rw [g,d,cI,hx]
  |ok x=>
   rw [hx]at b;obtain⟨rfl,s⟩:=b;refine⟨_,_,rfl,ac.no (by simp) (Ar.ok64 (by omega) (by omega) (L (J,H,G,F) ⟨_,s,(lW h hx).1,?_,m⟩))⟩;rw [g,d,cI,hx]
 ·rintro⟨J,H,G,o⟩ ⟨j,k,h,g,f⟩;refine B _ _ _ _ _ (ac.no (by simp) ⟨f,?_⟩);rw [g,List.drop_length,cI];exact⟨p,rfl,k,h⟩
end Go.Proofs.YtijbcdiffjjefaaGreatDoor.Eng
