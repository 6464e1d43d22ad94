/- Lemmas on the world that the walks lean on. -/
import Derived.Test.YtijbcdiffjjefaaGreatDoorZxEng
import Derived.Laws.AppendOwn
import Derived.Maps.AppendAt
import Derived.Below
import Derived.Lib.Builder
import Derived.SizedLaws
import Derived.Handed
import Derived.LaidLaws
import Derived.Stop.Joined
import Derived.Lib.UnsafeStr
import Derived.Laws.IdiomStrings
import Derived.Laws.BytesArg
import Derived.Laws.OwnMore
import Derived.DataElems
import Derived.Deep.Slices
import Derived.ChangeArms
import Derived.Test.YtijbcdiffjjefaaGreatDoorZxVc
import Derived.Lib.SplitLaws
import Derived.Lib.CountLaws
import Derived.Lib.Split
import Derived.Lib.Join
import Derived.Lib.ItoaNum
import Derived.Lib.AtoiAll
import Derived.Lib.ItoaMem
import Derived.Laws.MakeOwn
import Derived.Lib.AppendIntMem
import Derived.Lib.AtoiErrMem
import Derived.Lib.AppendStr
import Derived.Shelf.Strings.Builder1
import Derived.WideShapes
import Derived.ChangeSame
import Derived.MapKept
import Derived.Carry
set_option linter.unusedVariables false
set_option linter.unusedSimpArgs false
namespace Go.Proofs.YtijbcdiffjjefaaGreatDoor.Eng
open Go Go.RowKit
theorem aJ {P:Program} {f:FuncId} {args:Array Value} {w:World} {R:Value→World→Prop} {R':Ending→World→Prop} (h:Calls P f args w fun e w'=>∃v,e= .returned v∧R v w') (hr:∀v w',R v w'→R' (.returned v) w'):Calls P f args w R':=
 h.mono fun e w' ⟨v,he,h⟩=>by subst he;exact hr v w' h
theorem aN {P:Program} {f:FuncId} {args:Array Value} {w:World} {V:(Value→World→Prop)→Prop} {R':Ending→World→Prop} (h:∀R,V R→Calls P f args w fun e w'=>∃v,e= .returned v∧R v w') (hv:V fun v w'=>R' (.returned v) w'):Calls P f args w R':=
 (h _ hv).mono fun e w' ⟨v,he,h⟩=>by subst he;exact h
theorem aA (w:World) (o:Obj):(w.alloc o).heap.size=w.heap.size+1:=by
 show(w.heap.push o).size=_;simp
theorem fB (w:World) (o:Obj) {k:Nat} (h:k<w.heap.size):(w.alloc o).heap[k]? =w.heap[k]? :=by
 show(w.heap.push o)[k]? =_;simp [Array.getElem?_push,Nat.ne_of_lt h]
theorem ap (w:World) (o:Obj):(w.alloc o).heap[w.heap.size]? =some o:=by
 show(w.heap.push o)[w.heap.size]? =_;simp
theorem aV (w:World) (c:Array Value) (e:TypeId) (j:Nat):(w.alloc (.cells c e)).cell? ⟨w.heap.size,j,none⟩=c[j]? :=by
 simp only [World.cell?,ap];rfl
theorem aZ {w:World} {b j:Nat} {c:Array Value} {e:TypeId} {fz:Nat×Nat} (h:w.heap[b]? =some (.cells c e fz)):w.cell? ⟨b,j,none⟩=c[j]? :=by
 simp only [World.cell?,h];rfl
theorem bV {w:World} {b j:Nat} {c:Array Value} {e:TypeId} (h:w.heap[b]? =some (.cells c e (0,0))):w.frozen? ⟨b,j,none⟩=false:=by
 simp [World.frozen?,h]
theorem bO {w:World} {b j:Nat} {c:Array Value} {e:TypeId} {fz:Nat×Nat} (h:w.heap[b]? =some (.cells c e fz)) (u:Value):(w.setCell ⟨b,j,none⟩ u).heap[b]? =some (.cells (c.setIfInBounds j u) e fz):=by
 simp [World.setCell,Array.getElem?_modify,h]
theorem eK {b:Nat} {e:TypeId} {k:World→Prop}:∀(vs:List Value) (i:Nat) (w:World) (c:Array Value) (o:Nat),w.heap[b]? =some (.cells c e (0,0))→o+i+vs.length≤c.size→(∀v∈vs,v.oneCell'=true)→
  (∀w',w'.heap[b]? =some (.cells (ip c.toList (o+i) vs).toArray e (0,0))→(∀j,j≠b→w'.heap[j]? =w.heap[j]?)→w'.heap.size=w.heap.size→(∀B w0,B≤b→Below B w0 w→Below B w0 w')→k w')→ax w ⟨b,o,none⟩ k vs i
 | [],i,w,c,o,h,hl,h1,hk=>by
  rintro w' rfl;exact hk w' (by simpa [ip]using h) (fun _ _=>rfl) rfl (fun _ _ _ h=>h)
 |v::r,i,w,c,o,h,hl,h1,hk=>by
  simp only [List.length_cons]at hl;have ha:(⟨b,o,none⟩:Addr).add i=⟨b,o+i,none⟩:=Addr.add_lit b o i;have hi:o+i<c.size:=by omega
  refine⟨h1 v (by simp),?_,?_,?_⟩
  ·rw [ha,aZ h];exact⟨c[o+i],by simp [hi]⟩
  ·rw [ha];exact bV h
  rw [ha];refine eK r (i+1) _ (c.setIfInBounds (o+i) v) o (bO h v) (by simp;omega) (fun u hu=>h1 u (by simp [hu])) ?_;intro w' hw hne hsz hB;refine hk w' ?_ (fun j hj=>(hne j hj).trans (Below.heap_setCell w ⟨b,o+i,none⟩ v j hj)) (by rw [hsz];simp [World.setCell]) (fun B w0 hb hBel=>hB B w0 hb (hBel.setCell (p:=⟨b,o+i,none⟩) hb v));rw [hw];congr 2;have hi':o+i<c.toList.length:=by simp;omega
  simp only [ip,Array.toList_setIfInBounds,List.length_cons,List.set_eq_take_append_cons_drop,hi',if_true];have hlen:(c.toList.take (o+i)).length=o+i:=by rw [List.length_take];omega
  rw [show o+(i+1)=(c.toList.take (o+i)).length+1 from by omega,List.take_length_add_append,show(c.toList.take (o+i)).length+1+r.length=(c.toList.take (o+i)).length+(1+r.length)from by omega,List.drop_length_add_append];rw [Nat.add_comm 1 r.length];simp only [List.drop_succ_cons,List.drop_drop,List.take_succ_cons,List.take_zero,List.append_assoc,List.cons_append,List.nil_append];rw [show o+i+1+r.length=o+i+(r.length+1)from by omega]
theorem aS {w:World} {e:TypeId} {k:World→Prop} (z vs:List Value) (hz:z.length=vs.length) (h1:∀v∈vs,v.oneCell'=true) (w1:World) (hw:w1=w.alloc (.cells z.toArray e))
  (hk:∀w',w'.heap[w.heap.size]? =some (.cells vs.toArray e (0,0))→w'.heap.size=w.heap.size+1→Below w.heap.size w w'→k w'):ax w1 (nb w) k vs 0:=by
 subst hw;refine eK vs 0 _ z.toArray 0 (ap w _) (by simp;omega) h1 ?_;intro w' h hne hsz hB;refine hk w' ?_ (by rw [hsz,aA]) (hB _ w (Nat.le_refl _) ((Below.refl _ w).alloc (Nat.le_refl _) _));rw [h];congr 2;simp [ip, ←hz]
theorem jC {w:World} {base:Nat} {e:TypeId} {size n:Nat} {v:Value} {xs:List Value} (h:w.ownsRow base e size v n xs):∃a c,v= .slice a n c∧n≤c:=by
 rcases h.2 with⟨rfl,rfl⟩ |⟨g,cap,cur,rfl,_,_,hc,_⟩
 ·exact⟨none,0,rfl,Nat.le_refl _⟩
 ·exact⟨_,_,rfl,hc⟩
theorem cB {w:World} {base:Nat} {e:TypeId} {size n:Nat} {v:Value} {xs:List Value} (h:w.ownsRow base e size v n xs):∀k,v.ownBlock=some k→base≤k∧k<w.heap.size:=by
 intro k hk;rcases h.2 with⟨rfl,rfl⟩ |⟨g,cap,cur,rfl,hb,hg,_⟩
 ·cases hk
 ·cases hk;exact⟨hb,(Array.getElem?_eq_some_iff.1 hg).1⟩
theorem cO (w:World) (base:Nat) (e:TypeId) (size:Nat):w.ownsRow base e size (.slice none 0 0) 0 []:=⟨by simp,.inl ⟨rfl,rfl⟩⟩
theorem iw {P:Program} (t e:TypeId) {z:Value} {size bytes:Nat} (ht:P.underlying t=some (.slice e)) (hi:(P.info? e).map (fun i=>(i.zero,i.size,i.bytes))=some (some z,size,bytes)) (hzs:z.cells.size=size) (hsz:0<size)
  {base:Nat} {w1:World} {v:Value} {n:Nat} {xs:List Value} (hown:w1.ownsRow base e size v n xs) (news:List Value) (hl:news.length=size) (h1:∀u∈news,u.oneCell'=true)
  (hbytes:(n+1)*bytes≤140737488355328) (h63:n+1≤140737488355328) (hbase:base≤w1.heap.size):
  ∃a' c' w3,(Builtin.append_ #[t,t] t #[v,.slice (some (nb w1)) 1 1]).run P (w1.alloc (.cells news.toArray e))= .ok (.slice a' (n+1) c') w3∧w3.ownsRow base e size (.slice a' (n+1) c') (n+1) (xs++news)∧
   (w1.alloc (.cells news.toArray e)).grownBy w3 v.ownBlock∧((Value.slice a' (n+1) c').ownBlock=v.ownBlock∨(Value.slice a' (n+1) c').ownBlock=some (w1.heap.size+1)):=by
 obtain⟨i,hi',hz,hs,hb⟩:=info_parts hi;obtain⟨v',w3,hr,hown',hg,_,hnb⟩:=run_append_own_at (P:=P) (w1.alloc (.cells news.toArray e)) base t t e i z size bytes ht hi' hz hs hb hzs hsz v n xs (hown.alloc _) (nb w1) 1 1 news (by omega)
  (fun j u hj=>by
   have hjl:j<news.length:=(List.getElem?_eq_some_iff.1 hj).1;have hadd:(nb w1).add j=⟨w1.heap.size,j,none⟩:=by
    unfold Addr.add nb;split
    ·rename_i h0;subst h0;rfl
    ·simp
   rw [hadd];rw [aV];simpa using hj)
  h1 (by unfold maxLen;omega) hbytes (by rw [aA];omega)
 obtain⟨a',c',rfl,_⟩:=jC hown';exact⟨a',c',w3,hr,hown',hg,by rwa [aA]at hnb⟩
theorem fi {B:Nat} {w w1 w3:World} {e:TypeId} {size n:Nat} {v:Value} {xs:List Value} {o:Obj} (hb:Below B w w1) (hown:w1.ownsRow B e size v n xs) (hg:(w1.alloc o).grownBy w3 v.ownBlock) (hB:B≤w1.heap.size):Below B w w3:=
 (hb.alloc hB o).grown hg (by rw [aA];omega) fun k hk=>(cB hown k hk).1
theorem se {w1 w3:World} {row:Option Nat} {o:Obj} (hg:(w1.alloc o).grownBy w3 row) {k:Nat} (hk:k<w1.heap.size) (hne:some k≠row):w3.heap[k]? =w1.heap[k]? :=by
 rw [hg.block k (by rw [aA];omega) hne,fB w1 o hk]
theorem ut {w1 w3:World} {row:Option Nat} {o:Obj} (hg:(w1.alloc o).grownBy w3 row):w1.heap.size+1≤w3.heap.size:=by
 have:=hg.size;rwa [aA]at this
theorem aq {w:World} {a:Addr} {u:Value} {k:Nat} (h:k≠a.block):(w.setCell a u).heap[k]? =w.heap[k]? :=Below.heap_setCell w a u k h
theorem ba (w:World) (a:Addr) (u:Value):(w.setCell a u).heap.size=w.heap.size:=by simp [World.setCell]
theorem bD {w:World} {base:Nat} {e:TypeId} {size n:Nat} {v:Value} {xs:List Value} (h:w.ownsRow base e size v n xs) {a:Addr} (u:Value) (hne:v.ownBlock≠some a.block):(w.setCell a u).ownsRow base e size v n xs:=by
 refine⟨h.1,?_⟩;rcases h.2 with h2 |⟨g,cap,cur,hv,hg,hh,r⟩
 ·exact .inl h2
 ·refine .inr ⟨g,cap,cur,hv,hg,?_,r⟩;rw [aq]
  ·exact hh
  ·intro he;subst he;exact hne (by rw [hv];rfl)
theorem qd {α:Type} (n:Nat) (Inv G:Nat→α→Prop) (last:∀x,Inv n x→G n x) (step:∀i,i<n→(∀x,Inv (i+1) x→G (i+1) x)→∀x,Inv i x→G i x):∀i,i≤n→∀x,Inv i x→G i x:=by
 have key:∀k i,i+k=n→∀x,Inv i x→G i x:=by
  intro k;induction k with
  |zero=>intro i hi;have:i=n:=by omega
         subst this;exact last
  |succ k ih=>intro i hi;exact step i (by omega) (ih (i+1) (by omega))
 intro i hi;exact key (n-i) i (by omega)
theorem di {k:IntKind} {z:Int} (h1:k.min≤z) (h2:z≤k.max):k.wrap z=z:=by
 cases k<;>simp [IntKind.wrap,IntKind.bits,IntKind.signed,IntKind.min,IntKind.max]at* <;>omega
theorem Ar.ok {k:IntKind} {z:Int} {F:Int→Prop} (h1:k.min≤z) (h2:z≤k.max) (h:F z):Ar k z F:=by
 unfold Ar;rw [di h1 h2];exact h
theorem Ar.ok64 {z:Int} {F:Int→Prop} (h1: -9223372036854775808≤z) (h2:z≤9223372036854775807) (h:F z):Ar .i64 z F:=Ar.ok (k:=.i64) h1 h2 h
abbrev str (l:List UInt8):ByteArray:=⟨l.toArray⟩
theorem Kp (s:ByteArray):s=str s.data.toList:=by cases s;simp [str]
theorem aR (l:List UInt8):(str l).size=l.length:=by simp [str,ByteArray.size]
theorem cu (l:List UInt8):(str l).toList=l:=by rw [ByteArray.toList_eq]
theorem eU (l:List UInt8) (i:Nat) (h:i<l.length):eu (str l) (i:Int)=((l[i]).toNat:Int):=by
 simp [eu,str,List.getElem?_eq_getElem h]
theorem sW (a b:List UInt8):str a++str b=str (a++b):=by
 apply ByteArray.ext;simp [str]
theorem iO {P:Program} {src dst e:TypeId} (hs:P.underlying src=some (.slice e)) (he:P.underlying e=some (.int .u8)) (hd:P.underlying dst=some .string) {w:World} {base:Nat} {a:Option Addr} {n c:Nat} {l:List UInt8}
  (h:w.ownsRow base e 1 (.slice a n c) n (Lib.byteCells l)):(convert src dst (.slice a n c)).run P w= .ok (.string (str l)) w:=by
 have hl:=h.1;rw [Lib.byteCells_length]at hl;rcases h.2 with⟨h1,h2⟩ |⟨g,cap,cur,h1,h2,h3,h4,h5,h6,h7⟩
 ·cases h1;have:l= []:=List.eq_nil_of_length_eq_zero (by omega);subst this;exact run_convert_bytes_nil w src e hs he 0 0 dst hd
 ·cases h1;have hn:n=l.length:=by omega
  subst hn;refine run_convert_bytes_back w src dst e ⟨g,0,none⟩ c l hs he hd ?_;intro j hj;have hadd:(⟨g,0,none⟩:Addr).add j=⟨g,j,none⟩:=by unfold Addr.add;split<;>simp_all
  rw [hadd,aZ h3];have h8:(Lib.byteCells l)[j]? =some (.int .u8 (l[j].toNat:Int)):=by simp [Lib.byteCells,hj]
  rw [←h7,List.getElem?_take_of_lt (by omega)]at h8;simpa using h8
theorem im {w:World} {base:Nat} {e:TypeId} {size n:Nat} {v:Value} {xs:List Value} (h:w.ownsRow base e size v n xs):w.drew.ownsRow base e size v n xs:=h
theorem su (l:List UInt8) (b:UInt8):Lib.byteCells l++ [.int .u8 b.toNat]=Lib.byteCells (l++ [b]):=by simp [Lib.byteCells]
theorem aF {w w':World} {base:Nat} {e:TypeId} {size n:Nat} {v:Value} {xs:List Value} (h:w.ownsRow base e size v n xs) (hb:Below w.heap.size w w'):w'.ownsRow base e size v n xs:=by
 refine⟨h.1,?_⟩;rcases h.2 with hh |⟨g,cap,cur,h1,h2,h3,h4⟩
 ·exact .inl hh
 ·exact .inr ⟨g,cap,cur,h1,h2,by rw [hb.block g (Array.getElem?_eq_some_iff.1 h3).1];exact h3,h4⟩
theorem ae {a b c:World} (h:Below a.heap.size a b) (k:Below b.heap.size b c):Below a.heap.size a c:=h.trans (k.mono h.size)
theorem ah (w:World) (o:Obj):Below w.heap.size w (w.alloc o):=(Below.refl _ w).alloc (Nat.le_refl _) o
theorem pC (l:List UInt8) (a b:Nat):(str l).extract a b=str ((l.drop a).take (b-a)):=by
 apply ByteArray.ext;simp [str]
theorem av (a:Addr) (k:Nat):(a.add k).block=a.block:=by
 unfold Addr.add;split<;>rfl
theorem aB (b o n:Nat):Addr.add ⟨b,o,none⟩ n=⟨b,o+n,none⟩:=Addr.add_lit b o n
section
variable {H:Type} {enc:TypeId×Value→H}
theorem FF {C:Checked} {os:Os} {f:FuncId} {fn:Func} {s:ChangeSpec} {laid:List (String×DataW Unit)}
  (own:ownKnob C.prog.godebug=none) (started:os.Started) (noInit:C.prog.inits.idxOf? f=none) (hfn:C.prog.funcs[f]? =some fn)
  (witness:∃(w:World) (tape:Tape) (i:Input),w.os=os∧(w.forCall tape i).Shaped C.prog∧i.vars= []∧Input.okWide C.prog (w.forCall tape i) .any w.heap.size f i∧
   ((s.pre enc C.prog fn [] false (w.forCall tape i).memory i.args∧laidMetH C.prog laid (w.forCall tape i).memory)∧sizedMet enc C.prog fn (OpenSpec.ofChange s) false (w.forCall tape i).memory i.args)∧({}:Assume).holds C.prog (lone (Frame.enter C.prog f i.args .normal) [] (w.forCall tape i)))
  (contract:∀(W:World) (base:Nat) (args:Array Value) (ds gs:List (DataW H)) (before:List MemPlace),
   (∀(j:Nat) t v,fn.params[j]? =some t→args[j]? =some v→Value.okWide C.prog W .any base t v)→
   DataW.Whole enc C.prog fn.params.toList s.vars false W args.toList ds gs before→
   (DataW.weightsEach C.prog (fn.params.toList++s.plain.varTypes C.prog) (ds++gs)).all (·≤reachBytes)=true→
   laidMetH C.prog laid W→W.ShapedOpen C.prog→
   Calls C.prog f args W fun e W'=>∃v,e= .returned v∧s.post enc C.prog fn false true false false W args v W'):
  ReturnsInHanded {} C os f .any (fun w args=>(s.pre enc C.prog fn [] false w args∧laidMetH C.prog laid w)∧sizedMet enc C.prog fn (OpenSpec.ofChange s) false w args) (s.post enc C.prog fn false true false false):=by
 refine returnsInHanded_of_calls own started noInit witness ?_;intro w tape i _ hshape _ hok hpre _;obtain⟨_,_,_,fn',hfn',_,_,_,_,hval⟩:=hok;obtain rfl:fn'=fn:=Option.some.inj (hfn'.symm.trans hfn);obtain⟨⟨⟨ds,gs,before,hw,_⟩,hx⟩,hz⟩:=hpre;refine(contract (w.forCall tape i) w.heap.size i.args ds gs before hval (DataW.Whole.of_heap (w':=w.forCall tape i) (by rfl) hw) (hz.weights hw) (hx.of_heap (by rfl)) hshape).mono ?_;rintro e W' ⟨v,rfl,hp⟩;exact ChangeSpec.post_blind hp
end
structure Sl where
 a:Option Addr
 n:Nat
 c:Nat
abbrev Sl.v (s:Sl):Value:=.slice s.a s.n s.c
structure hU where
 sl:Sl
 e:TypeId
 sz:Nat
 xs:List Value
def hU.blk (r:hU):Option Nat:=r.sl.v.ownBlock
def yj (r r':hU):Prop:=∀k,r.blk=some k→r'.blk≠some k
structure dv (w:World) (B:Nat) (rows:List hU):Prop where
 own:∀r∈rows,w.ownsRow B r.e r.sz r.sl.v r.sl.n r.xs
 apart:rows.Pairwise yj
theorem dv.lt {w:World} {B:Nat} {rows:List hU} (h:dv w B rows) {r:hU} (hr:r∈rows):∀k,r.blk=some k→B≤k∧k<w.heap.size:=cB (h.own r hr)
theorem dv.on {w w':World} {B:Nat} {rows:List hU} (h:dv w B rows) (hb:Below w.heap.size w w'):dv w' B rows:=
 ⟨fun r hr=>aF (h.own r hr) hb,h.apart⟩
theorem aU {w w':World} {B:Nat} {e:TypeId} {size n:Nat} {v:Value} {xs:List Value} (h:w.ownsRow B e size v n xs) (hb:∀k,v.ownBlock=some k→w'.heap[k]? =w.heap[k]?):w'.ownsRow B e size v n xs:=by
 refine⟨h.1,?_⟩;rcases h.2 with hh |⟨g,cap,cur,h1,h2,h3,h4⟩
 ·exact .inl hh
 ·exact .inr ⟨g,cap,cur,h1,h2,by rw [hb g (by rw [h1];rfl)];exact h3,h4⟩
theorem dv.same {w w':World} {B:Nat} {rows:List hU} (h:dv w B rows) (hb:∀r∈rows,∀k,r.blk=some k→w'.heap[k]? =w.heap[k]?):dv w' B rows:=
 ⟨fun r hr=>aU (h.own r hr) (hb r hr),h.apart⟩
theorem dv.setCell {w:World} {B:Nat} {rows:List hU} (h:dv w B rows) (a:Addr) (u:Value) (hne:∀r∈rows,r.blk≠some a.block):dv (w.setCell a u) B rows:=
 h.same fun r hr k hk=>aq fun e=>hne r hr (by rw [hk,e])
theorem DU {pre post:List hU} {r r':hU} {top:Nat} (h:(pre++r::post).Pairwise yj) (hlt:∀x∈pre++r::post,∀k,x.blk=some k→k<top) (hr:∀k,r'.blk=some k→r.blk=some k∨top≤k):(pre++r'::post).Pairwise yj:=by
 rw [List.pairwise_append,List.pairwise_cons]at h⊢;obtain⟨h1,⟨h2,h3⟩,h4⟩:=h;refine⟨h1,⟨fun y hy k hk=>?_,h3⟩,fun x hx y hy=>?_⟩
 ·rcases hr k hk with e |e
  ·exact h2 y hy k e
  ·intro e';have:=hlt y (by simp [hy]) k e';omega
 ·rcases List.mem_cons.1 hy with rfl |hy
  ·intro k hk e';rcases hr k e' with e |e
   ·exact h4 x hx r (by simp) k hk e
   ·have:=hlt x (by simp [hx]) k hk;omega
  ·exact h4 x hx y (by simp [hy])
theorem dv.push {P:Program} (t:TypeId) {z:Value} {bytes:Nat} {w1:World} {B:Nat} {pre post:List hU} {r:hU} (h:dv w1 B (pre++r::post)) (ht:P.underlying t=some (.slice r.e)) (hi:(P.info? r.e).map (fun i=>(i.zero,i.size,i.bytes))=some (some z,r.sz,bytes)) (hzs:z.cells.size=r.sz) (hsz:0<r.sz)
  (news:List Value) (hl:news.length=r.sz) (h1:∀u∈news,u.oneCell'=true) (hbytes:(r.sl.n+1)*bytes≤140737488355328) (h63:r.sl.n+1≤140737488355328) (hB:B≤w1.heap.size):
  ∃a' c' w3,(Builtin.append_ #[t,t] t #[r.sl.v,.slice (some (nb w1)) 1 1]).run P (w1.alloc (.cells news.toArray r.e))= .ok (.slice a' (r.sl.n+1) c') w3∧
   dv w3 B (pre++⟨⟨a',r.sl.n+1,c'⟩,r.e,r.sz,r.xs++news⟩::post)∧(∀k,k<w1.heap.size→r.blk≠some k→w3.heap[k]? =w1.heap[k]?)∧
   (∀k,(Value.slice a' (r.sl.n+1) c').ownBlock=some k→r.blk=some k∨w1.heap.size<k)∧(∀w0,Below B w0 w1→Below B w0 w3)∧w1.heap.size<w3.heap.size:=by
 have hown:=h.own r (by simp);obtain⟨a',c',w3,hr,hown',hg,hnb⟩:=iw (P:=P) t r.e ht hi hzs hsz hown news hl h1 hbytes h63 hB;have hkeep:∀k,k<w1.heap.size→r.blk≠some k→w3.heap[k]? =w1.heap[k]? :=fun k hk hne=>se hg hk (fun e=>hne e.symm);have hnew:∀k,(Value.slice a' (r.sl.n+1) c').ownBlock=some k→r.blk=some k∨w1.heap.size<k:=by
  intro k hk;rcases hnb with e |e
  ·rw [e]at hk;exact .inl hk
  ·rw [e]at hk;cases hk;exact .inr (by omega)
 have hsize:=ut hg;refine⟨a',c',w3,hr,⟨?_,DU (top:=w1.heap.size) h.apart (fun x hx k hk=>(h.lt hx k hk).2) fun k hk=>(hnew k hk).imp id Nat.le_of_lt⟩,hkeep,hnew,fun w0 hb=>fi hb hown hg hB,by omega⟩;intro x hx;have other:∀y∈pre++r::post,yj r y∨yj y r→w3.ownsRow B y.e y.sz y.sl.v y.sl.n y.xs:=by
  intro y hy hap;refine aU (h.own y hy) fun k hk=>hkeep k (h.lt hy k hk).2 fun e=>?_;rcases hap with hap |hap
  ·exact hap k e hk
  ·exact hap k hk e
 have hap:=h.apart;rw [List.pairwise_append,List.pairwise_cons]at hap;rcases List.mem_append.1 hx with hx |hx
 ·exact other x (by simp [hx]) (.inr (hap.2.2 x hx r (by simp)))
 ·rcases List.mem_cons.1 hx with rfl |hx
  ·exact hown'
  ·exact other x (by simp [hx]) (.inl (hap.2.1.1 x hx))
def tZ (s:Sl):Prop:=s=⟨none,0,0⟩∨∃a,s.a=some a
theorem pZ {P:Program} (t e:TypeId) {z:Value} {size bytes:Nat} (ht:P.underlying t=some (.slice e)) (hi:(P.info? e).map (fun i=>(i.zero,i.size,i.bytes))=some (some z,size,bytes)) (hzs:z.cells.size=size) (hsz:0<size)
  {base:Nat} {w1:World} {v:Value} {n:Nat} {xs:List Value} (hown:w1.ownsRow base e size v n xs) (src:Sl) (hsrc:tZ src) (news:List Value) (hl:news.length=src.n*size)
  (hcells:∀a,src.a=some a→∀j u,news[j]? =some u→w1.cell? (a.add j)=some u) (h1:∀u∈news,u.oneCell'=true)
  (hbytes:(n+src.n)*bytes≤140737488355328) (h63:n+src.n≤140737488355328) (hbase:base≤w1.heap.size):
  ∃a' c' w3,(Builtin.append_ #[t,t] t #[v,src.v]).run P w1= .ok (.slice a' (n+src.n) c') w3∧w3.ownsRow base e size (.slice a' (n+src.n) c') (n+src.n) (xs++news)∧
   (∀w0,Below base w0 w1→Below base w0 w3)∧(∀k,k<w1.heap.size→v.ownBlock≠some k→w3.heap[k]? =w1.heap[k]?)∧∀k,(Value.slice a' (n+src.n) c').ownBlock=some k→v.ownBlock=some k∨w1.heap.size≤k:=by
 obtain⟨i,hi',hz,hs,hb⟩:=info_parts hi;obtain⟨sa,sn,sc⟩:=src;rcases hsrc with h |⟨a,ha⟩
 ·cases h;have hn:news= []:=List.eq_nil_of_length_eq_zero (by simpa using hl);subst hn;obtain⟨a',c',rfl,_⟩:=jC hown;exact⟨a',c',w1,run_append_owned_none w1 base t t e i size ht hi' _ n xs hown,by simpa using hown,fun w0 hb=>hb,fun _ _ _=>rfl,fun k hk=>.inl hk⟩
 ·cases ha;obtain⟨v',w3,hr,hown',hg,_,hnb⟩:=run_append_own_at (P:=P) w1 base t t e i z size bytes ht hi' hz hs hb hzs hsz v n xs hown a sn sc news hl (hcells a rfl) h1 (by unfold maxLen;dsimp only at h63;omega) hbytes hbase;obtain⟨a',c',rfl,_⟩:=jC hown';refine⟨a',c',w3,hr,hown',fun w0 hb=>hb.grown hg hbase fun k hk=>(cB hown k hk).1,fun k hk hne=>hg.block k hk (fun e=>hne e.symm),fun k hk=>?_⟩;rcases hnb with h |h
  ·exact .inl (by rw [←h];exact hk)
  ·rw [h]at hk;cases hk;exact .inr (Nat.le_refl _)
theorem mU {P:Program} (t e:TypeId) {z:Value} {size bytes:Nat} (ht:P.underlying t=some (.slice e)) (hi:(P.info? e).map (fun i=>(i.zero,i.size,i.bytes))=some (some z,size,bytes)) (hzs:z.cells.size=size) (hsz:0<size)
  {base:Nat} {w1:World} {v:Value} {n:Nat} {xs:List Value} (hown:w1.ownsRow base e size v n xs) (src:Sl) (hsrc:tZ src) (news:List Value) (hl:news.length=src.n*size)
  (hcells:∀a,src.a=some a→∀j u,news[j]? =some u→w1.cell? (a.add j)=some u) (h1:∀u∈news,u.oneCell'=true)
  (hbytes:(n+src.n)*bytes≤140737488355328) (h63:n+src.n≤140737488355328) (hbase:base≤w1.heap.size):
  ∃a' c' w3,(Builtin.append_ #[t,t] t #[v,src.v]).run P w1= .ok (.slice a' (n+src.n) c') w3∧w3.ownsRow base e size (.slice a' (n+src.n) c') (n+src.n) (xs++news)∧
   (∀w0,Below base w0 w1→Below base w0 w3)∧(∀k,k<w1.heap.size→v.ownBlock≠some k→w3.heap[k]? =w1.heap[k]?):=by
 obtain⟨a',c',w3,g1,g2,g3,g4,_⟩:=pZ t e ht hi hzs hsz hown src hsrc news hl hcells h1 hbytes h63 hbase;exact⟨a',c',w3,g1,g2,g3,g4⟩
open Go Go.RowKit Go.Deep
theorem pE {α:Type} {p:Nat→α→Prop}:∀n:Nat,(∀i,i<n→∃m,p i m)→∃xs:List α,xs.length=n∧∀i x,xs[i]? =some x→p i x
 |0,_=>⟨[],rfl,fun i x h=>by simp at h⟩
 |n+1,h=>by
  obtain⟨xs,hl,hx⟩:=pE n fun i hi=>h i (by omega);obtain⟨m,hm⟩:=h n (by omega);refine⟨xs++ [m],by simp [hl],fun i x hi=>?_⟩;rcases Nat.lt_trichotomy i xs.length with h1 |h1 |h1
  ·rw [List.getElem?_append_left h1]at hi;exact hx i x hi
  ·subst h1;rw [List.getElem?_append_right (Nat.le_refl _)]at hi;simp at hi;subst hi;rw [hl];exact hm
  ·rw [List.getElem?_append_right (by omega)]at hi;have:=(List.getElem?_eq_some_iff.1 hi).1;simp at this;omega
theorem jB {P:Program} {H:Type} {enc0:TypeId×Value→H} {w:World} {base:Nat} {spare:Nat→Bool} {held:Bool} {t e:TypeId} {fuel:Nat} {cs:List Value} {x:DataW H×List MemPlace} {α:Type} {enc:α→List Value} {sz:Nat} (ht:P.underlying t=some (.slice e)) (hc:P.cellsOf e=sz) (hsz:∀m,(enc m).length=sz) (h0:0<sz)
  (hel:∀n cs' y,DataW.trod enc0 P w base spare held n e cs'=some y→∃m:α,cs'=enc m) (h:DataW.trod enc0 P w base spare held fuel t cs=some x):
  ∃(s:Sl) (xs:List α),cs= [s.v]∧s.n=xs.length∧tZ s∧s.n≤s.c∧s.c≤maxLen∧
   ∀(j:Nat) (m:α),xs[j]? =some m→∃p,s.a=some p∧p.block<w.heap.size∧∀(k:Nat) (v:Value),(enc m)[k]? =some v→w.cell? ((p.add (j*sz)).add k)=some v:=by
 rcases open_slice ht h with⟨rfl,_⟩ |⟨a,len,cap,m,n,D,Pl,rfl,hb,hl,hm,hmm,rfl,hx⟩
 ·exact⟨⟨none,0,0⟩,[],rfl,rfl,.inl rfl,Nat.le_refl _,Nat.zero_le _,fun j m hj=>by simp at hj⟩
 ·have hle:len≤m:=by rw [hmm];split<;>omega
  obtain⟨xs,hxl,hxs⟩:=pE (α:=α) (p:=fun i u=>w.cells? base (a.add (i*sz)) sz=some (enc u)) len (fun i hi=>by
   obtain⟨cs',h1,h2⟩:=hx i (by omega);rw [hc]at h1;obtain⟨u,rfl⟩:=hel _ _ _ h2;exact⟨u,h1⟩)
  refine⟨⟨some a,len,cap⟩,xs,rfl,hxl.symm,.inr ⟨a,rfl⟩,hl,hm,fun j u hj=>⟨a,rfl,?_,fun k v hk=>?_⟩⟩
  ·obtain⟨_,_,hcell⟩:=World.cells?_some (hxs j u hj);have h3:=hcell 0 h0;have hlt:0< (enc u).length:=by rw [hsz];exact h0
   rw [List.getElem?_eq_getElem hlt]at h3;have:=World.block_lt_of_cell? _ _ h3;rwa [av,av]at this
  ·obtain⟨_,_,hcell⟩:=World.cells?_some (hxs j u hj);rw [hcell k (by rw [←hsz u];exact(List.getElem?_eq_some_iff.1 hk).1)];exact hk
set_option maxRecDepth 100000
open Go Go.RowKit Go.ChangeShapes Go.WideShapes
def Hm:List UInt8:=[48,49,50,51,52,53,54,55,56,57,97,98,99,100,101,102]
def hx (n:Nat):UInt8:=Hm.getD n 0
def eZ:List UInt8→List UInt8
 | []=>[]
 |b::l=>hx (b.toNat/16)::hx (b.toNat%16)::eZ l
def jU (l:List UInt8):List UInt8:=if l= []then [45]else eZ l
def step (n:Nat) (b:UInt8):Nat:=10*n+(b.toNat-48)
abbrev Bs:=List UInt8
structure ak where
 ranked:Bool:=false
 merges:List (Int×Int):=[]
 tokens:List Bs:=[]
 specials:List (Int×Bs):=[]
 classes:List (Int×Int×Int):=[]
 joins:List (Int×Int):=[]
 deriving DecidableEq
def dN (m:Int×Int):Bool:=decide (0≤m.1∧m.1≤999∧0≤m.2∧m.2≤999)
def eX (s:Bs):Bool:=decide (2≤s.length∧s.length≤64)
def bc (x:Int×Bs):Bool:=decide (0≤x.1∧x.1≤1073741824∧1≤x.2.length∧x.2.length≤64)
def aQ (c:Int×Int×Int):Bool:=decide (0≤c.1∧c.1≤c.2.1∧c.2.1≤255∧0≤c.2.2∧c.2.2≤15)
def cr (j:Int×Int):Bool:=decide (0≤j.1∧j.1≤15∧0≤j.2∧j.2≤15)
def bB {α:Type} (l:List α) (most:Nat) (may:α→Bool):Bool:=decide (l.length≤most)&&l.all may
def ak.right (s:ak):Bool:=
 (if s.ranked then s.merges.isEmpty else s.tokens.isEmpty)&&bB s.merges 744 dN&&bB s.tokens 744 eX&&bB s.specials 32 bc&&bB s.classes 64 aQ&&bB s.joins 64 cr
def fe:Bs:=[118,111,99,97,98]
def gA:Bs:=[109,101,114,103,101,115]
def jP:Bs:=[114,97,110,107,115]
def wMerge:Bs:=[109,101,114,103,101]
def wToken:Bs:=[116,111,107,101,110]
def wSpecial:Bs:=[115,112,101,99,105,97,108]
def wClass:Bs:=[99,108,97,115,115]
def wJoin:Bs:=[106,111,105,110]
def cT (ws:List Bs):Bs:=Lib.join ws [32]
def iM (r:Bool):Bs:=cT [fe,if r then jP else gA]
def gS (m:Int×Int):Bs:=cT [wMerge,Lib.itoa m.1,Lib.itoa m.2]
def gp (t:Bs):Bs:=cT [wToken,jU t]
def dQ (x:Int×Bs):Bs:=cT [wSpecial,Lib.itoa x.1,jU x.2]
def ir (c:Int×Int×Int):Bs:=cT [wClass,Lib.itoa c.1,Lib.itoa c.2.1,Lib.itoa c.2.2]
def ny (j:Int×Int):Bs:=cT [wJoin,Lib.itoa j.1,Lib.itoa j.2]
def ak.tail (s:ak):List Bs:=s.merges.map gS++(s.tokens.map gp++(s.specials.map dQ++(s.classes.map ir++s.joins.map ny)))
def ak.lines (s:ak):List Bs:=iM s.ranked::s.tail
def lK (ls:List Bs):Bs:=(ls.map (·++ [10])).flatten
def ak.text (s:ak):Bs:=lK s.lines
theorem cP {s:ak} (h:s.right=true):(if s.ranked then s.merges.isEmpty else s.tokens.isEmpty)=true∧bB s.merges 744 dN=true∧bB s.tokens 744 eX=true∧bB s.specials 32 bc=true∧bB s.classes 64 aQ=true∧bB s.joins 64 cr=true:=by
 unfold ak.right at h;simp only [Bool.and_eq_true]at h;obtain⟨⟨⟨⟨⟨h1,h2⟩,h3⟩,h4⟩,h5⟩,h6⟩:=h;exact⟨h1,h2,h3,h4,h5,h6⟩
abbrev vg:TypeId:=5
abbrev kV:TypeId:=57
theorem Cr:(Tryz.prog.info? vg).map (fun i=>(i.zero,i.size,i.bytes))=some (some (.int .u8 0),1,1):=by kernel_rfl
theorem jq:Tryz.prog.underlying kV=some (.slice vg):=by kernel_rfl
abbrev fE:TypeId:=9
theorem vX:Tryz.prog.underlying fE=some .string:=by kernel_rfl
theorem IE:Tryz.prog.underlying vg=some (.int .u8):=by kernel_rfl
abbrev ft:TypeId:=32
theorem jW:Tryz.prog.underlying ft=some (.slice fE):=by kernel_rfl
theorem kd:(Tryz.prog.info? fE).map (fun i=>(i.zero,i.size,i.bytes))=some (some (.string ⟨#[]⟩),1,16):=by kernel_rfl
def QE (n:Int):Prop:= -9223372036854775808≤n∧n≤9223372036854775807
def fL (xs:List (List UInt8)):List Value:=xs.map fun x=>.string (str x)
def Gu (w:World) (a:Option Addr) (ns:List Int):Prop:=∀(j:Nat) (n:Int),ns[j]? =some n→∃x,a=some x∧x.block<w.heap.size∧w.cell? (x.add j)=some (.int .i64 n)
def dm (w:World) (a:Option Addr) (xs:List (List UInt8)):Prop:=∀(j:Nat) (s:List UInt8),xs[j]? =some s→∃x,a=some x∧x.block<w.heap.size∧w.cell? (x.add j)=some (.string (str s))
theorem dm.on {w w':World} {a:Option Addr} {xs:List (List UInt8)} (h:dm w a xs) (hb:Below w.heap.size w w'):dm w' a xs:=by
 intro j s hj;obtain⟨x,rfl,hx,hc⟩:=h j s hj;exact⟨x,rfl,Nat.lt_of_lt_of_le hx hb.size,by rw [hb.cell (by rwa [av])];exact hc⟩
theorem dm.of_own {w:World} {base:Nat} {a:Option Addr} {n c:Nat} {xs:List (List UInt8)} (h:w.ownsRow base fE 1 (.slice a n c) n (fL xs)):dm w a xs∧n=xs.length∧n≤c:=by
 have hn:=h.1;rw [show(fL xs).length=xs.length by simp [fL]]at hn;refine⟨?_,by omega,?_⟩
 ·intro j s hj;have hjl:=(List.getElem?_eq_some_iff.1 hj).1;rcases h.2 with⟨h1,h2⟩ |⟨g,cap,cur,h1,h2,h3,h4,h5,h6,h7⟩
  ·omega
  ·cases h1;refine⟨_,rfl,(Array.getElem?_eq_some_iff.1 h3).1,?_⟩;rw [aB,Nat.zero_add,aZ h3];have h8:(fL xs)[j]? =some (.string (str s)):=by simp [fL,hj]
   rw [←h7,List.getElem?_take_of_lt (by omega)]at h8;simpa using h8
 ·obtain⟨a',c',e,hc⟩:=jC h;cases e;exact hc
def Rw {α:Type} (enc:α→List Value) (sz:Nat) (w:World) (a:Option Addr) (xs:List α):Prop:=∀(j:Nat) (x:α),xs[j]? =some x→∃p,a=some p∧p.block<w.heap.size∧∀(k:Nat) (v:Value),(enc x)[k]? =some v→w.cell? ((p.add (j*sz)).add k)=some v
theorem Rw.on {α:Type} {enc:α→List Value} {sz:Nat} {w w':World} {a:Option Addr} {xs:List α} (h:Rw enc sz w a xs) (hb:Below w.heap.size w w'):Rw enc sz w' a xs:=by
 intro j x hj;obtain⟨p,rfl,hp,hc⟩:=h j x hj;refine⟨p,rfl,Nat.lt_of_lt_of_le hp hb.size,fun k v hk=>?_⟩;rw [hb.cell (by rw [av,av];exact hp)];exact hc k v hk
theorem au (a:Addr):a.add 0=a:=by simp [Addr.add]
def aP (m:Int×Int):List Value:=[.int .i64 m.1,.int .i64 m.2]
def c_ (s:Bs):List Value:=[.string (str s)]
def aD (x:Int×Bs):List Value:=[.int .i64 x.1,.string (str x.2)]
def bH (c:Int×Int×Int):List Value:=[.int .i64 c.1,.int .i64 c.2.1,.int .i64 c.2.2]
theorem dr (n lo hi:Int) (w:World):CP 196 #[.int .i64 n,.int .i64 lo,.int .i64 hi] w fun e w'=>e= .returned (.bool (decide (lo≤n∧n≤hi)))∧Below w.heap.size w w':=by
 refine aJ (wW n lo hi w (fun v w'=>v= .bool (decide (lo≤n∧n≤hi))∧Below w.heap.size w w') ?_) (by rintro v w' ⟨rfl,h⟩;exact⟨rfl,h⟩);refine ac.mk ?_ ?_
 ·intro h;have h:=of_decide_eq_true h;refine⟨?_,Below.refl _ _⟩;congr 1;exact decide_eq_decide.2 ⟨fun e=>⟨by omega,e⟩,fun e=>e.2⟩
 ·intro h;have h:=of_decide_eq_false h;refine⟨?_,Below.refl _ _⟩;rw [decide_eq_false (by omega)]
theorem qr (m:Int×Int) (w:World):CP 148 #[.agg #[.int .i64 m.1,.int .i64 m.2]] w fun e w'=>e= .returned (.bool (dN m))∧Below w.heap.size w w':=by
 refine aJ (zj m.1 m.2 w (fun v w'=>v= .bool (dN m)∧Below w.heap.size w w') ?_) (by rintro v w' ⟨rfl,h⟩;exact⟨rfl,h⟩);rintro w1 rfl;have hb:=ah w (.cells #[Value.int .i64 m.1,Value.int .i64 m.2] 85);refine⟨m.1,by rw [aB,aV];rfl,?_⟩;refine(dr m.1 0 999 _).mono ?_;rintro e w2 ⟨rfl,h2⟩;refine⟨_,rfl,ac.mk ?_ ?_⟩
 ·intro h;have h:=of_decide_eq_true h;refine⟨m.2,by rw [aB,h2.cell (by rw [aA];exact Nat.lt_succ_self _),aV];rfl,?_⟩;refine(dr m.2 0 999 w2).mono ?_;rintro e w3 ⟨rfl,h3⟩;refine⟨_,rfl,?_,ae hb (ae h2 h3)⟩;congr 1;unfold dN;exact decide_eq_decide.2 (by omega)
 ·intro h;have h:=of_decide_eq_false h;refine⟨?_,ae hb h2⟩;congr 1;unfold dN;exact(decide_eq_false (by omega)).symm
theorem qR (m:Int×Int) (w:World):CP 156 #[.agg #[.int .i64 m.1,.int .i64 m.2]] w fun e w'=>e= .returned (.bool (cr m))∧Below w.heap.size w w':=by
 refine aJ (AX m.1 m.2 w (fun v w'=>v= .bool (cr m)∧Below w.heap.size w w') ?_) (by rintro v w' ⟨rfl,h⟩;exact⟨rfl,h⟩);rintro w1 rfl;have hb:=ah w (.cells #[Value.int .i64 m.1,Value.int .i64 m.2] 170);refine⟨m.1,by rw [aB,aV];rfl,?_⟩;refine(dr m.1 0 15 _).mono ?_;rintro e w2 ⟨rfl,h2⟩;refine⟨_,rfl,ac.mk ?_ ?_⟩
 ·intro h;have h:=of_decide_eq_true h;refine⟨m.2,by rw [aB,h2.cell (by rw [aA];exact Nat.lt_succ_self _),aV];rfl,?_⟩;refine(dr m.2 0 15 w2).mono ?_;rintro e w3 ⟨rfl,h3⟩;refine⟨_,rfl,?_,ae hb (ae h2 h3)⟩;congr 1;unfold cr;exact decide_eq_decide.2 (by omega)
 ·intro h;have h:=of_decide_eq_false h;refine⟨?_,ae hb h2⟩;congr 1;unfold cr;exact(decide_eq_false (by omega)).symm
theorem qp (s:Bs) (w:World):CP 150 #[.string (str s)] w fun e w'=>e= .returned (.bool (eX s))∧Below w.heap.size w w':=by
 refine aJ (Bh (str s) w (fun v w'=>v= .bool (eX s)∧Below w.heap.size w w') ?_) (by rintro v w' ⟨rfl,h⟩;exact⟨rfl,h⟩);refine(dr _ 2 64 w).mono ?_;rintro e w2 ⟨rfl,h2⟩;refine⟨_,rfl,?_,h2⟩;congr 1;unfold eX;rw [aR];exact decide_eq_decide.2 (by omega)
theorem oB (x:Int×Bs) (w:World):CP 152 #[.agg #[.int .i64 x.1,.string (str x.2)]] w fun e w'=>e= .returned (.bool (bc x))∧Below w.heap.size w w':=by
 refine aJ (yP x.1 (str x.2) w (fun v w'=>v= .bool (bc x)∧Below w.heap.size w w') ?_) (by rintro v w' ⟨rfl,h⟩;exact⟨rfl,h⟩);rintro w1 rfl;have hb:=ah w (.cells #[Value.int .i64 x.1,Value.string (str x.2)] 87);refine⟨x.1,by rw [aB,aV];rfl,?_⟩;refine(dr x.1 0 1073741824 _).mono ?_;rintro e w2 ⟨rfl,h2⟩;refine⟨_,rfl,ac.mk ?_ ?_⟩
 ·intro h;have h:=of_decide_eq_true h;refine⟨str x.2,by rw [aB,h2.cell (by rw [aA];exact Nat.lt_succ_self _),aV];rfl,?_⟩;refine(dr _ 1 64 w2).mono ?_;rintro e w3 ⟨rfl,h3⟩;refine⟨_,rfl,?_,ae hb (ae h2 h3)⟩;congr 1;unfold bc;rw [aR];exact decide_eq_decide.2 (by omega)
 ·intro h;have h:=of_decide_eq_false h;refine⟨?_,ae hb h2⟩;congr 1;unfold bc;exact(decide_eq_false (by omega)).symm
theorem qt (c:Int×Int×Int) (w:World):CP 154 #[.agg #[.int .i64 c.1,.int .i64 c.2.1,.int .i64 c.2.2]] w fun e w'=>e= .returned (.bool (aQ c))∧Below w.heap.size w w':=by
 refine aJ (AC c.1 c.2.1 c.2.2 w (fun v w'=>v= .bool (aQ c)∧Below w.heap.size w w') ?_) (by rintro v w' ⟨rfl,h⟩;exact⟨rfl,h⟩);rintro w1 rfl;have hb:=ah w (.cells #[Value.int .i64 c.1,Value.int .i64 c.2.1,Value.int .i64 c.2.2] 89);refine⟨c.1,by rw [aB,aV];rfl,c.2.1,by rw [aB,aV];rfl,?_⟩;refine(dr c.1 0 c.2.1 _).mono ?_;rintro e w2 ⟨rfl,h2⟩;refine⟨_,rfl,ac.mk ?_ ?_⟩
 ·intro h;have h:=of_decide_eq_true h;refine⟨c.2.1,by rw [aB,h2.cell (by rw [aA];exact Nat.lt_succ_self _),aV];rfl,ac.mk ?_ ?_⟩
  ·intro h5;have h5:=of_decide_eq_true h5;refine⟨c.2.2,by rw [aB,h2.cell (by rw [aA];exact Nat.lt_succ_self _),aV];rfl,?_⟩;refine(dr c.2.2 0 15 w2).mono ?_;rintro e w3 ⟨rfl,h3⟩;refine⟨_,rfl,?_,ae hb (ae h2 h3)⟩;congr 1;unfold aQ;exact decide_eq_decide.2 (by omega)
  ·intro h5;have h5:=of_decide_eq_false h5;refine⟨?_,ae hb h2⟩;congr 1;unfold aQ;exact(decide_eq_false (by omega)).symm
 ·intro h;have h:=of_decide_eq_false h;refine⟨?_,ae hb h2⟩;congr 1;unfold aQ;exact(decide_eq_false (by omega)).symm
theorem bE.mono {C:gV} {f:Value} {args:List Value} {w:World} {R R':Ending→World→Prop} (h:bE C f args w R) (hr:∀e w',R e w'→R' e w'):bE C f args w R':=by
 unfold bE at h⊢;split at h
 ·split at h
  ·exact h.mono hr
  ·obtain⟨v,w',h1,h2⟩:=h;exact⟨v,w',h1,hr _ _ h2⟩
 ·exact h.elim
theorem bZ {g:FuncId} {cap:Array Value} {args:List Value} {w:World} {R:Ending→World→Prop} (hg:gJ.fns g=true) (h:CP g (args++cap.toList).toArray w R):bE gJ (.func (.func g) #[] cap) args w R:=by
 unfold bE;simp only [hg];exact h
def Av {α:Type} (p:α→Bool) (xs:List α):Int:=match xs.findIdx? p with
 |some i=>(i:Int)
 |none=> -1
theorem l_ {α:Type} (p:α→Bool) (xs:List α):decide (Av p xs≥0)=xs.any p:=by
 unfold Av;cases h:xs.findIdx? p with
 |none=>
  rw [List.findIdx?_eq_none_iff]at h;have:xs.any p=false:=by
   rw [List.any_eq_false];intro x hx;simpa using h x hx
  rw [this];rfl
 |some i=>
  have hi:=List.findIdx?_eq_some_iff_getElem.1 h;have:xs.any p=true:=List.any_eq_true.2 ⟨xs[i]'hi.1,List.getElem_mem hi.1,hi.2.1⟩;rw [this];exact decide_eq_true (by simp)
theorem gH {α:Type} {p:α→Bool} {xs:List α} {i:Nat} (h:i<xs.length) (hp:p xs[i]=true) (hb:∀j (hj:j<i),p (xs[j]'(by omega))=false):Av p xs=i:=by
 have:xs.findIdx? p=some i:=List.findIdx?_eq_some_iff_getElem.2 ⟨h,hp,fun j hj=>by simpa using hb j hj⟩;unfold Av;rw [this]
theorem gI {α:Type} {p:α→Bool} {xs:List α} (hb:∀j (hj:j<xs.length),p (xs[j])=false):Av p xs= -1:=by
 have:xs.findIdx? p=none:=by
  rw [List.findIdx?_eq_none_iff];intro x hx;obtain⟨j,hj,rfl⟩:=List.getElem_of_mem hx;exact hb j hj
 unfold Av;rw [this]
theorem nB {α:Type} (p:α→Bool) (xs:List α):(!xs.any fun x=> !p x)=xs.all p:=by
 induction xs with
 |nil=>rfl
 |cons x xs ih=>simp only [List.any_cons,List.all_cons,Bool.not_or,Bool.not_not,ih]
theorem zH (a:Option Addr) (c:Nat) (xs:List (Int×Int)) (f:Value) (p:Int×Int→Bool) (w:World) (hr:Rw aP 2 w a xs) (hl:xs.length≤1000000000000000)
  (hf:∀x∈xs,∀w1,Below w.heap.size w w1→bE gJ f [.agg #[.int .i64 x.1,.int .i64 x.2]] w1 (fun e w2=>e= .returned (.bool (p x))∧Below w1.heap.size w1 w2)):
  CP 243 #[.slice a xs.length c,f] w fun e w'=>e= .returned (.int .i64 (Av p xs))∧Below w.heap.size w w':=by
 refine aN (Bu a xs.length c f w) ?_;intro I hI;have key:=qd (α:=Int×World) xs.length (fun i x=>(∀j (hj:j<xs.length),j<i→p xs[j]=false)∧Below w.heap.size w x.2) (fun i x=>I [.int .i64 (i:Int),.int .i64 x.1] x.2) ?_ ?_ 0 (Nat.zero_le _) (0,w)
 ·exact key ⟨fun j _ hj=>absurd hj (Nat.not_lt_zero j),Below.refl _ _⟩
 ·rintro⟨y,w1⟩ ⟨hb,hB⟩;exact hI _ _ _ (ac.no (by simp) ⟨by rw [gI fun j hj=>hb j hj hj],hB⟩)
 ·rintro i hi ih ⟨y,w1⟩ ⟨hb,hB⟩;obtain⟨q,hq,_,hcx⟩:=(hr.on hB) i _ (List.getElem?_eq_getElem hi);refine hI _ _ _ (ac.yes (by simp;omega) (af.mk q hq ⟨by omega,by omega,xs[i].1,xs[i].2,⟨by have:=hcx 0 _ rfl;simpa [au]using this,by have:=hcx 1 _ rfl;simpa using this,trivial⟩,?_⟩));refine(hf xs[i] (List.getElem_mem hi) w1 hB).mono ?_;rintro e w2 ⟨rfl,h2⟩;refine⟨_,rfl,ac.mk ?_ ?_⟩
  ·intro hp;exact⟨by rw [gH hi hp fun j hj=>hb j (by omega) hj],ae hB h2⟩
  ·intro hp;refine Ar.ok64 (by omega) (by omega) (ih (y,w2) ⟨?_,ae hB h2⟩);intro j hj hji;by_cases he:j=i
   ·subst he;exact hp
   ·exact hb j hj (by omega)
theorem rE (a:Option Addr) (c:Nat) (xs:List (Int×Int)) (f:Value) (p:Int×Int→Bool) (w:World) (hr:Rw aP 2 w a xs) (hl:xs.length≤1000000000000000)
  (hf:∀x∈xs,∀w1,Below w.heap.size w w1→bE gJ f [.agg #[.int .i64 x.1,.int .i64 x.2]] w1 (fun e w2=>e= .returned (.bool (p x))∧Below w1.heap.size w1 w2)):
  CP 194 #[.slice a xs.length c,f] w fun e w'=>e= .returned (.bool (xs.any p))∧Below w.heap.size w w':=by
 refine aN (xV a xs.length c f w) ?_;refine(zH a c xs f p w hr hl hf).mono ?_;rintro e w1 ⟨rfl,h1⟩;exact⟨_,rfl,by rw [l_],h1⟩
theorem Fv (x:Int×Int) (cb:Nat) (may:Value) (p:Int×Int→Bool) (w:World) (hcb:cb<w.heap.size) (hc:w.cell? ⟨cb,0,none⟩=some may) (hm:∀w1,bE gJ may [.agg #[.int .i64 x.1,.int .i64 x.2]] w1 (fun e w2=>e= .returned (.bool (p x))∧Below w1.heap.size w1 w2)):
  CP 195 #[.agg #[.int .i64 x.1,.int .i64 x.2],.pointer (some ⟨cb,0,none⟩)] w fun e w'=>e= .returned (.bool (!p x))∧Below w.heap.size w w':=by
 refine aN (Ah (x.1) (x.2) (some ⟨cb,0,none⟩) w) ?_;rintro w1 rfl;have hb:=ah w (.cells #[Value.int .i64 x.1,Value.int .i64 x.2] 85);refine⟨may,by rw [hb.cell hcb];exact hc,x.1,x.2,⟨by rw [aV];rfl,by rw [aB,aV];rfl,trivial⟩,?_⟩;refine(hm _).mono ?_;rintro e w2 ⟨rfl,h2⟩;exact⟨_,rfl,rfl,ae hb h2⟩
theorem uA (a:Option Addr) (c most:Nat) (xs:List (Int×Int)) (w:World) (hr:Rw aP 2 w a xs) (hm:most≤1000000):
  CP 147 #[.slice a xs.length c,.int .i64 most,.func (.func 148) #[] #[]] w fun e w'=>e= .returned (.bool (bB xs most dN))∧Below w.heap.size w w':=by
 refine aN (zG a xs.length c most (.func (.func 148) #[] #[]) w) ?_;rintro w1 rfl;refine ac.mk ?_ ?_
 ·intro h;have h:=of_decide_eq_true h;have hb:=ah w (.cells (Value.cells (.func (.func 148) #[] #[])) 234);refine(rE a c xs _ (fun x=> !dN x) _ (hr.on hb) (by omega) ?_).mono ?_
  ·intro x hx w1 hB;refine bZ (by kernel_rfl) ?_;refine Fv x w.heap.size (.func (.func 148) #[] #[]) dN w1 (Nat.lt_of_lt_of_le (by rw [aA];exact Nat.lt_succ_self _) hB.size) (by rw [hB.cell (by rw [aA];exact Nat.lt_succ_self _),aV];rfl) ?_;intro w2;exact bZ (by kernel_rfl) (qr x w2)
  ·rintro e w2 ⟨rfl,h2⟩;refine⟨_,rfl,?_,ae hb h2⟩;rw [nB,bB,decide_eq_true (show xs.length≤most by omega)];rfl
 ·intro h;have h:=of_decide_eq_false h;refine⟨?_,ah _ _⟩;rw [bB,decide_eq_false (show ¬xs.length≤most by omega)];rfl
theorem yU (a:Option Addr) (c:Nat) (xs:List (Bs)) (f:Value) (p:Bs→Bool) (w:World) (hr:Rw c_ 1 w a xs) (hl:xs.length≤1000000000000000)
  (hf:∀x∈xs,∀w1,Below w.heap.size w w1→bE gJ f [.string (str x)] w1 (fun e w2=>e= .returned (.bool (p x))∧Below w1.heap.size w1 w2)):
  CP 244 #[.slice a xs.length c,f] w fun e w'=>e= .returned (.int .i64 (Av p xs))∧Below w.heap.size w w':=by
 refine aN (B8 a xs.length c f w) ?_;intro I hI;have key:=qd (α:=Int×World) xs.length (fun i x=>(∀j (hj:j<xs.length),j<i→p xs[j]=false)∧Below w.heap.size w x.2) (fun i x=>I [.int .i64 (i:Int),.int .i64 x.1] x.2) ?_ ?_ 0 (Nat.zero_le _) (0,w)
 ·exact key ⟨fun j _ hj=>absurd hj (Nat.not_lt_zero j),Below.refl _ _⟩
 ·rintro⟨y,w1⟩ ⟨hb,hB⟩;exact hI _ _ _ (ac.no (by simp) ⟨by rw [gI fun j hj=>hb j hj hj],hB⟩)
 ·rintro i hi ih ⟨y,w1⟩ ⟨hb,hB⟩;obtain⟨q,hq,_,hcx⟩:=(hr.on hB) i _ (List.getElem?_eq_getElem hi);refine hI _ _ _ (ac.yes (by simp;omega) (af.mk q hq ⟨by omega,by omega,str xs[i],by have:=hcx 0 _ rfl;simpa [au]using this,?_⟩));refine(hf xs[i] (List.getElem_mem hi) w1 hB).mono ?_;rintro e w2 ⟨rfl,h2⟩;refine⟨_,rfl,ac.mk ?_ ?_⟩
  ·intro hp;exact⟨by rw [gH hi hp fun j hj=>hb j (by omega) hj],ae hB h2⟩
  ·intro hp;refine Ar.ok64 (by omega) (by omega) (ih (y,w2) ⟨?_,ae hB h2⟩);intro j hj hji;by_cases he:j=i
   ·subst he;exact hp
   ·exact hb j hj (by omega)
theorem sO (a:Option Addr) (c:Nat) (xs:List (Bs)) (f:Value) (p:Bs→Bool) (w:World) (hr:Rw c_ 1 w a xs) (hl:xs.length≤1000000000000000)
  (hf:∀x∈xs,∀w1,Below w.heap.size w w1→bE gJ f [.string (str x)] w1 (fun e w2=>e= .returned (.bool (p x))∧Below w1.heap.size w1 w2)):
  CP 197 #[.slice a xs.length c,f] w fun e w'=>e= .returned (.bool (xs.any p))∧Below w.heap.size w w':=by
 refine aN (B7 a xs.length c f w) ?_;refine(yU a c xs f p w hr hl hf).mono ?_;rintro e w1 ⟨rfl,h1⟩;exact⟨_,rfl,by rw [l_],h1⟩
theorem Fr (x:Bs) (cb:Nat) (may:Value) (p:Bs→Bool) (w:World) (hcb:cb<w.heap.size) (hc:w.cell? ⟨cb,0,none⟩=some may) (hm:∀w1,bE gJ may [.string (str x)] w1 (fun e w2=>e= .returned (.bool (p x))∧Below w1.heap.size w1 w2)):
  CP 198 #[.string (str x),.pointer (some ⟨cb,0,none⟩)] w fun e w'=>e= .returned (.bool (!p x))∧Below w.heap.size w w':=by
 refine aN (zU (str x) (some ⟨cb,0,none⟩) w) ?_;refine⟨may,hc,?_⟩;refine(hm w).mono ?_;rintro e w2 ⟨rfl,h2⟩;exact⟨_,rfl,rfl,h2⟩
theorem FZ (a:Option Addr) (c most:Nat) (xs:List (Bs)) (w:World) (hr:Rw c_ 1 w a xs) (hm:most≤1000000):
  CP 149 #[.slice a xs.length c,.int .i64 most,.func (.func 150) #[] #[]] w fun e w'=>e= .returned (.bool (bB xs most eX))∧Below w.heap.size w w':=by
 refine aN (zh a xs.length c most (.func (.func 150) #[] #[]) w) ?_;rintro w1 rfl;refine ac.mk ?_ ?_
 ·intro h;have h:=of_decide_eq_true h;have hb:=ah w (.cells (Value.cells (.func (.func 150) #[] #[])) 78);refine(sO a c xs _ (fun x=> !eX x) _ (hr.on hb) (by omega) ?_).mono ?_
  ·intro x hx w1 hB;refine bZ (by kernel_rfl) ?_;refine Fr x w.heap.size (.func (.func 150) #[] #[]) eX w1 (Nat.lt_of_lt_of_le (by rw [aA];exact Nat.lt_succ_self _) hB.size) (by rw [hB.cell (by rw [aA];exact Nat.lt_succ_self _),aV];rfl) ?_;intro w2;exact bZ (by kernel_rfl) (qp x w2)
  ·rintro e w2 ⟨rfl,h2⟩;refine⟨_,rfl,?_,ae hb h2⟩;rw [nB,bB,decide_eq_true (show xs.length≤most by omega)];rfl
 ·intro h;have h:=of_decide_eq_false h;refine⟨?_,ah _ _⟩;rw [bB,decide_eq_false (show ¬xs.length≤most by omega)];rfl
theorem pM (a:Option Addr) (c:Nat) (xs:List (Int×Bs)) (f:Value) (p:Int×Bs→Bool) (w:World) (hr:Rw aD 2 w a xs) (hl:xs.length≤1000000000000000)
  (hf:∀x∈xs,∀w1,Below w.heap.size w w1→bE gJ f [.agg #[.int .i64 x.1,.string (str x.2)]] w1 (fun e w2=>e= .returned (.bool (p x))∧Below w1.heap.size w1 w2)):
  CP 132 #[.slice a xs.length c,f] w fun e w'=>e= .returned (.int .i64 (Av p xs))∧Below w.heap.size w w':=by
 refine aN (BZ a xs.length c f w) ?_;intro I hI;have key:=qd (α:=Int×World) xs.length (fun i x=>(∀j (hj:j<xs.length),j<i→p xs[j]=false)∧Below w.heap.size w x.2) (fun i x=>I [.int .i64 (i:Int),.int .i64 x.1] x.2) ?_ ?_ 0 (Nat.zero_le _) (0,w)
 ·exact key ⟨fun j _ hj=>absurd hj (Nat.not_lt_zero j),Below.refl _ _⟩
 ·rintro⟨y,w1⟩ ⟨hb,hB⟩;exact hI _ _ _ (ac.no (by simp) ⟨by rw [gI fun j hj=>hb j hj hj],hB⟩)
 ·rintro i hi ih ⟨y,w1⟩ ⟨hb,hB⟩;obtain⟨q,hq,_,hcx⟩:=(hr.on hB) i _ (List.getElem?_eq_getElem hi);refine hI _ _ _ (ac.yes (by simp;omega) (af.mk q hq ⟨by omega,by omega,xs[i].1,str xs[i].2,⟨by have:=hcx 0 _ rfl;simpa [au]using this,by have:=hcx 1 _ rfl;simpa using this,trivial⟩,?_⟩));refine(hf xs[i] (List.getElem_mem hi) w1 hB).mono ?_;rintro e w2 ⟨rfl,h2⟩;refine⟨_,rfl,ac.mk ?_ ?_⟩
  ·intro hp;exact⟨by rw [gH hi hp fun j hj=>hb j (by omega) hj],ae hB h2⟩
  ·intro hp;refine Ar.ok64 (by omega) (by omega) (ih (y,w2) ⟨?_,ae hB h2⟩);intro j hj hji;by_cases he:j=i
   ·subst he;exact hp
   ·exact hb j hj (by omega)
theorem sC (a:Option Addr) (c:Nat) (xs:List (Int×Bs)) (f:Value) (p:Int×Bs→Bool) (w:World) (hr:Rw aD 2 w a xs) (hl:xs.length≤1000000000000000)
  (hf:∀x∈xs,∀w1,Below w.heap.size w w1→bE gJ f [.agg #[.int .i64 x.1,.string (str x.2)]] w1 (fun e w2=>e= .returned (.bool (p x))∧Below w1.heap.size w1 w2)):
  CP 199 #[.slice a xs.length c,f] w fun e w'=>e= .returned (.bool (xs.any p))∧Below w.heap.size w w':=by
 refine aN (zs a xs.length c f w) ?_;refine(pM a c xs f p w hr hl hf).mono ?_;rintro e w1 ⟨rfl,h1⟩;exact⟨_,rfl,by rw [l_],h1⟩
theorem F5 (x:Int×Bs) (cb:Nat) (may:Value) (p:Int×Bs→Bool) (w:World) (hcb:cb<w.heap.size) (hc:w.cell? ⟨cb,0,none⟩=some may) (hm:∀w1,bE gJ may [.agg #[.int .i64 x.1,.string (str x.2)]] w1 (fun e w2=>e= .returned (.bool (p x))∧Below w1.heap.size w1 w2)):
  CP 200 #[.agg #[.int .i64 x.1,.string (str x.2)],.pointer (some ⟨cb,0,none⟩)] w fun e w'=>e= .returned (.bool (!p x))∧Below w.heap.size w w':=by
 refine aN (B5 (x.1) (str x.2) (some ⟨cb,0,none⟩) w) ?_;rintro w1 rfl;have hb:=ah w (.cells #[Value.int .i64 x.1,Value.string (str x.2)] 87);refine⟨may,by rw [hb.cell hcb];exact hc,x.1,str x.2,⟨by rw [aV];rfl,by rw [aB,aV];rfl,trivial⟩,?_⟩;refine(hm _).mono ?_;rintro e w2 ⟨rfl,h2⟩;exact⟨_,rfl,rfl,ae hb h2⟩
theorem F8 (a:Option Addr) (c most:Nat) (xs:List (Int×Bs)) (w:World) (hr:Rw aD 2 w a xs) (hm:most≤1000000):
  CP 151 #[.slice a xs.length c,.int .i64 most,.func (.func 152) #[] #[]] w fun e w'=>e= .returned (.bool (bB xs most bc))∧Below w.heap.size w w':=by
 refine aN (zn a xs.length c most (.func (.func 152) #[] #[]) w) ?_;rintro w1 rfl;refine ac.mk ?_ ?_
 ·intro h;have h:=of_decide_eq_true h;have hb:=ah w (.cells (Value.cells (.func (.func 152) #[] #[])) 218);refine(sC a c xs _ (fun x=> !bc x) _ (hr.on hb) (by omega) ?_).mono ?_
  ·intro x hx w1 hB;refine bZ (by kernel_rfl) ?_;refine F5 x w.heap.size (.func (.func 152) #[] #[]) bc w1 (Nat.lt_of_lt_of_le (by rw [aA];exact Nat.lt_succ_self _) hB.size) (by rw [hB.cell (by rw [aA];exact Nat.lt_succ_self _),aV];rfl) ?_;intro w2;exact bZ (by kernel_rfl) (oB x w2)
  ·rintro e w2 ⟨rfl,h2⟩;refine⟨_,rfl,?_,ae hb h2⟩;rw [nB,bB,decide_eq_true (show xs.length≤most by omega)];rfl
 ·intro h;have h:=of_decide_eq_false h;refine⟨?_,ah _ _⟩;rw [bB,decide_eq_false (show ¬xs.length≤most by omega)];rfl
theorem zx (a:Option Addr) (c:Nat) (xs:List (Int×Int×Int)) (f:Value) (p:Int×Int×Int→Bool) (w:World) (hr:Rw bH 3 w a xs) (hl:xs.length≤1000000000000000)
  (hf:∀x∈xs,∀w1,Below w.heap.size w w1→bE gJ f [.agg #[.int .i64 x.1,.int .i64 x.2.1,.int .i64 x.2.2]] w1 (fun e w2=>e= .returned (.bool (p x))∧Below w1.heap.size w1 w2)):
  CP 245 #[.slice a xs.length c,f] w fun e w'=>e= .returned (.int .i64 (Av p xs))∧Below w.heap.size w w':=by
 refine aN (yT a xs.length c f w) ?_;intro I hI;have key:=qd (α:=Int×World) xs.length (fun i x=>(∀j (hj:j<xs.length),j<i→p xs[j]=false)∧Below w.heap.size w x.2) (fun i x=>I [.int .i64 (i:Int),.int .i64 x.1] x.2) ?_ ?_ 0 (Nat.zero_le _) (0,w)
 ·exact key ⟨fun j _ hj=>absurd hj (Nat.not_lt_zero j),Below.refl _ _⟩
 ·rintro⟨y,w1⟩ ⟨hb,hB⟩;exact hI _ _ _ (ac.no (by simp) ⟨by rw [gI fun j hj=>hb j hj hj],hB⟩)
 ·rintro i hi ih ⟨y,w1⟩ ⟨hb,hB⟩;obtain⟨q,hq,_,hcx⟩:=(hr.on hB) i _ (List.getElem?_eq_getElem hi);refine hI _ _ _ (ac.yes (by simp;omega) (af.mk q hq ⟨by omega,by omega,xs[i].1,xs[i].2.1,xs[i].2.2,⟨by have:=hcx 0 _ rfl;simpa [au]using this,by have:=hcx 1 _ rfl;simpa using this,by have:=hcx 2 _ rfl;simpa using this,trivial⟩,?_⟩));refine(hf xs[i] (List.getElem_mem hi) w1 hB).mono ?_;rintro e w2 ⟨rfl,h2⟩;refine⟨_,rfl,ac.mk ?_ ?_⟩
  ·intro hp;exact⟨by rw [gH hi hp fun j hj=>hb j (by omega) hj],ae hB h2⟩
  ·intro hp;refine Ar.ok64 (by omega) (by omega) (ih (y,w2) ⟨?_,ae hB h2⟩);intro j hj hji;by_cases he:j=i
   ·subst he;exact hp
   ·exact hb j hj (by omega)
theorem qY (a:Option Addr) (c:Nat) (xs:List (Int×Int×Int)) (f:Value) (p:Int×Int×Int→Bool) (w:World) (hr:Rw bH 3 w a xs) (hl:xs.length≤1000000000000000)
  (hf:∀x∈xs,∀w1,Below w.heap.size w w1→bE gJ f [.agg #[.int .i64 x.1,.int .i64 x.2.1,.int .i64 x.2.2]] w1 (fun e w2=>e= .returned (.bool (p x))∧Below w1.heap.size w1 w2)):
  CP 201 #[.slice a xs.length c,f] w fun e w'=>e= .returned (.bool (xs.any p))∧Below w.heap.size w w':=by
 refine aN (xb a xs.length c f w) ?_;refine(zx a c xs f p w hr hl hf).mono ?_;rintro e w1 ⟨rfl,h1⟩;exact⟨_,rfl,by rw [l_],h1⟩
theorem Gk (x:Int×Int×Int) (cb:Nat) (may:Value) (p:Int×Int×Int→Bool) (w:World) (hcb:cb<w.heap.size) (hc:w.cell? ⟨cb,0,none⟩=some may) (hm:∀w1,bE gJ may [.agg #[.int .i64 x.1,.int .i64 x.2.1,.int .i64 x.2.2]] w1 (fun e w2=>e= .returned (.bool (p x))∧Below w1.heap.size w1 w2)):
  CP 202 #[.agg #[.int .i64 x.1,.int .i64 x.2.1,.int .i64 x.2.2],.pointer (some ⟨cb,0,none⟩)] w fun e w'=>e= .returned (.bool (!p x))∧Below w.heap.size w w':=by
 refine aN (Cb (x.1) (x.2.1) (x.2.2) (some ⟨cb,0,none⟩) w) ?_;rintro w1 rfl;have hb:=ah w (.cells #[Value.int .i64 x.1,Value.int .i64 x.2.1,Value.int .i64 x.2.2] 89);refine⟨may,by rw [hb.cell hcb];exact hc,x.1,x.2.1,x.2.2,⟨by rw [aV];rfl,by rw [aB,aV];rfl,by rw [aB,aV];rfl,trivial⟩,?_⟩;refine(hm _).mono ?_;rintro e w2 ⟨rfl,h2⟩;exact⟨_,rfl,rfl,ae hb h2⟩
theorem Fl (a:Option Addr) (c most:Nat) (xs:List (Int×Int×Int)) (w:World) (hr:Rw bH 3 w a xs) (hm:most≤1000000):
  CP 153 #[.slice a xs.length c,.int .i64 most,.func (.func 154) #[] #[]] w fun e w'=>e= .returned (.bool (bB xs most aQ))∧Below w.heap.size w w':=by
 refine aN (xC a xs.length c most (.func (.func 154) #[] #[]) w) ?_;rintro w1 rfl;refine ac.mk ?_ ?_
 ·intro h;have h:=of_decide_eq_true h;have hb:=ah w (.cells (Value.cells (.func (.func 154) #[] #[])) 238);refine(qY a c xs _ (fun x=> !aQ x) _ (hr.on hb) (by omega) ?_).mono ?_
  ·intro x hx w1 hB;refine bZ (by kernel_rfl) ?_;refine Gk x w.heap.size (.func (.func 154) #[] #[]) aQ w1 (Nat.lt_of_lt_of_le (by rw [aA];exact Nat.lt_succ_self _) hB.size) (by rw [hB.cell (by rw [aA];exact Nat.lt_succ_self _),aV];rfl) ?_;intro w2;exact bZ (by kernel_rfl) (qt x w2)
  ·rintro e w2 ⟨rfl,h2⟩;refine⟨_,rfl,?_,ae hb h2⟩;rw [nB,bB,decide_eq_true (show xs.length≤most by omega)];rfl
 ·intro h;have h:=of_decide_eq_false h;refine⟨?_,ah _ _⟩;rw [bB,decide_eq_false (show ¬xs.length≤most by omega)];rfl
theorem yw (a:Option Addr) (c:Nat) (xs:List (Int×Int)) (f:Value) (p:Int×Int→Bool) (w:World) (hr:Rw aP 2 w a xs) (hl:xs.length≤1000000000000000)
  (hf:∀x∈xs,∀w1,Below w.heap.size w w1→bE gJ f [.agg #[.int .i64 x.1,.int .i64 x.2]] w1 (fun e w2=>e= .returned (.bool (p x))∧Below w1.heap.size w1 w2)):
  CP 246 #[.slice a xs.length c,f] w fun e w'=>e= .returned (.int .i64 (Av p xs))∧Below w.heap.size w w':=by
 refine aN (BP a xs.length c f w) ?_;intro I hI;have key:=qd (α:=Int×World) xs.length (fun i x=>(∀j (hj:j<xs.length),j<i→p xs[j]=false)∧Below w.heap.size w x.2) (fun i x=>I [.int .i64 (i:Int),.int .i64 x.1] x.2) ?_ ?_ 0 (Nat.zero_le _) (0,w)
 ·exact key ⟨fun j _ hj=>absurd hj (Nat.not_lt_zero j),Below.refl _ _⟩
 ·rintro⟨y,w1⟩ ⟨hb,hB⟩;exact hI _ _ _ (ac.no (by simp) ⟨by rw [gI fun j hj=>hb j hj hj],hB⟩)
 ·rintro i hi ih ⟨y,w1⟩ ⟨hb,hB⟩;obtain⟨q,hq,_,hcx⟩:=(hr.on hB) i _ (List.getElem?_eq_getElem hi);refine hI _ _ _ (ac.yes (by simp;omega) (af.mk q hq ⟨by omega,by omega,xs[i].1,xs[i].2,⟨by have:=hcx 0 _ rfl;simpa [au]using this,by have:=hcx 1 _ rfl;simpa using this,trivial⟩,?_⟩));refine(hf xs[i] (List.getElem_mem hi) w1 hB).mono ?_;rintro e w2 ⟨rfl,h2⟩;refine⟨_,rfl,ac.mk ?_ ?_⟩
  ·intro hp;exact⟨by rw [gH hi hp fun j hj=>hb j (by omega) hj],ae hB h2⟩
  ·intro hp;refine Ar.ok64 (by omega) (by omega) (ih (y,w2) ⟨?_,ae hB h2⟩);intro j hj hji;by_cases he:j=i
   ·subst he;exact hp
   ·exact hb j hj (by omega)
theorem tA (a:Option Addr) (c:Nat) (xs:List (Int×Int)) (f:Value) (p:Int×Int→Bool) (w:World) (hr:Rw aP 2 w a xs) (hl:xs.length≤1000000000000000)
  (hf:∀x∈xs,∀w1,Below w.heap.size w w1→bE gJ f [.agg #[.int .i64 x.1,.int .i64 x.2]] w1 (fun e w2=>e= .returned (.bool (p x))∧Below w1.heap.size w1 w2)):
  CP 203 #[.slice a xs.length c,f] w fun e w'=>e= .returned (.bool (xs.any p))∧Below w.heap.size w w':=by
 refine aN (zM a xs.length c f w) ?_;refine(yw a c xs f p w hr hl hf).mono ?_;rintro e w1 ⟨rfl,h1⟩;exact⟨_,rfl,by rw [l_],h1⟩
theorem FT (x:Int×Int) (cb:Nat) (may:Value) (p:Int×Int→Bool) (w:World) (hcb:cb<w.heap.size) (hc:w.cell? ⟨cb,0,none⟩=some may) (hm:∀w1,bE gJ may [.agg #[.int .i64 x.1,.int .i64 x.2]] w1 (fun e w2=>e= .returned (.bool (p x))∧Below w1.heap.size w1 w2)):
  CP 204 #[.agg #[.int .i64 x.1,.int .i64 x.2],.pointer (some ⟨cb,0,none⟩)] w fun e w'=>e= .returned (.bool (!p x))∧Below w.heap.size w w':=by
 refine aN (Be (x.1) (x.2) (some ⟨cb,0,none⟩) w) ?_;rintro w1 rfl;have hb:=ah w (.cells #[Value.int .i64 x.1,Value.int .i64 x.2] 170);refine⟨may,by rw [hb.cell hcb];exact hc,x.1,x.2,⟨by rw [aV];rfl,by rw [aB,aV];rfl,trivial⟩,?_⟩;refine(hm _).mono ?_;rintro e w2 ⟨rfl,h2⟩;exact⟨_,rfl,rfl,ae hb h2⟩
theorem FE (a:Option Addr) (c most:Nat) (xs:List (Int×Int)) (w:World) (hr:Rw aP 2 w a xs) (hm:most≤1000000):
  CP 155 #[.slice a xs.length c,.int .i64 most,.func (.func 156) #[] #[]] w fun e w'=>e= .returned (.bool (bB xs most cr))∧Below w.heap.size w w':=by
 refine aN (Bk a xs.length c most (.func (.func 156) #[] #[]) w) ?_;rintro w1 rfl;refine ac.mk ?_ ?_
 ·intro h;have h:=of_decide_eq_true h;have hb:=ah w (.cells (Value.cells (.func (.func 156) #[] #[])) 240);refine(tA a c xs _ (fun x=> !cr x) _ (hr.on hb) (by omega) ?_).mono ?_
  ·intro x hx w1 hB;refine bZ (by kernel_rfl) ?_;refine FT x w.heap.size (.func (.func 156) #[] #[]) cr w1 (Nat.lt_of_lt_of_le (by rw [aA];exact Nat.lt_succ_self _) hB.size) (by rw [hB.cell (by rw [aA];exact Nat.lt_succ_self _),aV];rfl) ?_;intro w2;exact bZ (by kernel_rfl) (qR x w2)
  ·rintro e w2 ⟨rfl,h2⟩;refine⟨_,rfl,?_,ae hb h2⟩;rw [nB,bB,decide_eq_true (show xs.length≤most by omega)];rfl
 ·intro h;have h:=of_decide_eq_false h;refine⟨?_,ah _ _⟩;rw [bB,decide_eq_false (show ¬xs.length≤most by omega)];rfl
structure aY where
 ranked:Bool
 s1:Sl
 s2:Sl
 s3:Sl
 s4:Sl
 s5:Sl
abbrev aY.cells (x:aY):Array Value:=#[.bool x.ranked,x.s1.v,x.s2.v,x.s3.v,x.s4.v,x.s5.v]
abbrev aY.v (x:aY):Value:=.agg x.cells
structure cI (w:World) (x:aY) (s:ak):Prop where
 ranked:x.ranked=s.ranked
 n1:x.s1.n=s.merges.length
 r1:Rw aP 2 w x.s1.a s.merges
 n2:x.s2.n=s.tokens.length
 r2:Rw c_ 1 w x.s2.a s.tokens
 n3:x.s3.n=s.specials.length
 r3:Rw aD 2 w x.s3.a s.specials
 n4:x.s4.n=s.classes.length
 r4:Rw bH 3 w x.s4.a s.classes
 n5:x.s5.n=s.joins.length
 r5:Rw aP 2 w x.s5.a s.joins
theorem cI.on {w w':World} {x:aY} {s:ak} (h:cI w x s) (hb:Below w.heap.size w w'):cI w' x s:=
 ⟨h.ranked,h.n1,h.r1.on hb,h.n2,h.r2.on hb,h.n3,h.r3.on hb,h.n4,h.r4.on hb,h.n5,h.r5.on hb⟩
theorem Gn {w w1:World} {c:Array Value} {e:TypeId} {j:Nat} (h:Below (w.alloc (.cells c e)).heap.size (w.alloc (.cells c e)) w1):w1.cell? ⟨w.heap.size,j,none⟩=c[j]? :=by
 rw [h.cell (by rw [aA];exact Nat.lt_succ_self _),aV]
theorem rF (x:aY) (s:ak) (w:World) (h:cI w x s):
  CP 101 #[x.v] w fun e w'=>e= .returned (.bool s.right)∧Below w.heap.size w w':=by
 refine aJ (yV x.ranked x.s1.a x.s1.n x.s1.c x.s2.a x.s2.n x.s2.c x.s3.a x.s3.n x.s3.c x.s4.a x.s4.n x.s4.c x.s5.a x.s5.n x.s5.c w (fun v w'=>v= .bool s.right∧Below w.heap.size w w') ?_) (by rintro v w' ⟨rfl,h⟩;exact⟨rfl,h⟩);rintro w1 rfl;have hb:=ah w (.cells x.cells 71);have h1:=h.on hb;have c0:∀j,(w.alloc (.cells x.cells 71)).cell? ((nb w).add j)=x.cells[j]? :=fun j=>by rw [aB,Nat.zero_add,aV]
 have rest:(if s.ranked then s.merges.isEmpty else s.tokens.isEmpty)=true→∀(b1:Bool),b1=bB s.merges 744 dN→∀w2,Below (w.alloc (.cells x.cells 71)).heap.size (w.alloc (.cells x.cells 71)) w2→
   ac b1
    (∃lA:Option Addr,∃lN:Nat,∃lC:Nat,w2.cell? ((nb w).add 2)=some (Value.slice lA lN lC)∧
     CP 149 #[Value.slice lA lN lC,Value.int .i64 744,Value.func (.func 150) #[] #[]] w2 (fun e3 w3=>
      ∃b_12:Bool,e3= .returned (Value.bool b_12)∧
      ac b_12
       (∃lA:Option Addr,∃lN:Nat,∃lC:Nat,w3.cell? ((nb w).add 3)=some (Value.slice lA lN lC)∧
        CP 151 #[Value.slice lA lN lC,Value.int .i64 32,Value.func (.func 152) #[] #[]] w3 (fun e4 w4=>
         ∃b_16:Bool,e4= .returned (Value.bool b_16)∧
         ac b_16
          (∃lA:Option Addr,∃lN:Nat,∃lC:Nat,w4.cell? ((nb w).add 4)=some (Value.slice lA lN lC)∧
           CP 153 #[Value.slice lA lN lC,Value.int .i64 64,Value.func (.func 154) #[] #[]] w4 (fun e5 w5=>
            ∃b_20:Bool,e5= .returned (Value.bool b_20)∧
            ac b_20
             (∃lA:Option Addr,∃lN:Nat,∃lC:Nat,w5.cell? ((nb w).add 5)=some (Value.slice lA lN lC)∧
              CP 155 #[Value.slice lA lN lC,Value.int .i64 64,Value.func (.func 156) #[] #[]] w5 (fun e6 w6=>
               ∃b_24:Bool,e6= .returned (Value.bool b_24)∧(Value.bool b_24= .bool s.right∧Below w.heap.size w w6)))
             (Value.bool false= .bool s.right∧Below w.heap.size w w5)))
          (Value.bool false= .bool s.right∧Below w.heap.size w w4)))
       (Value.bool false= .bool s.right∧Below w.heap.size w w3)))
    (Value.bool false= .bool s.right∧Below w.heap.size w w2):=by
  intro hr0 b1 hb1 w2 hB;have c2:∀ {w3:World} (j:Nat),Below (w.alloc (.cells x.cells 71)).heap.size (w.alloc (.cells x.cells 71)) w3→w3.cell? ((nb w).add j)=x.cells[j]? :=fun j hB=>by rw [aB,Nat.zero_add,Gn hB]
  have off:∀ {w3:World},s.right=false→Below (w.alloc (.cells x.cells 71)).heap.size (w.alloc (.cells x.cells 71)) w3→(Value.bool false= .bool s.right∧Below w.heap.size w w3):=fun e hB=>⟨by rw [e],ae hb hB⟩;refine ac.mk ?_ fun e=>off (by unfold ak.right;rw [←hb1,e];simp) hB;intro e1;refine⟨_,_,_,c2 2 hB,?_⟩;rw [h.n2];refine(FZ x.s2.a x.s2.c 744 s.tokens w2 (h1.r2.on hB) (by omega)).mono ?_;rintro e w3 ⟨rfl,h3⟩;have hB3:=ae hB h3;refine⟨_,rfl,ac.mk ?_ fun e=>off (by unfold ak.right;rw [e];simp) hB3⟩;intro e2;refine⟨_,_,_,c2 3 hB3,?_⟩;rw [h.n3];refine(F8 x.s3.a x.s3.c 32 s.specials w3 (h1.r3.on hB3) (by omega)).mono ?_;rintro e w4 ⟨rfl,h4⟩;have hB4:=ae hB3 h4;refine⟨_,rfl,ac.mk ?_ fun e=>off (by unfold ak.right;rw [e];simp) hB4⟩;intro e3;refine⟨_,_,_,c2 4 hB4,?_⟩;rw [h.n4];refine(Fl x.s4.a x.s4.c 64 s.classes w4 (h1.r4.on hB4) (by omega)).mono ?_;rintro e w5 ⟨rfl,h5⟩;have hB5:=ae hB4 h5;refine⟨_,rfl,ac.mk ?_ fun e=>off (by unfold ak.right;rw [e];simp) hB5⟩;intro e4;refine⟨_,_,_,c2 5 hB5,?_⟩;rw [h.n5];refine(FE x.s5.a x.s5.c 64 s.joins w5 (h1.r5.on hB5) (by omega)).mono ?_;rintro e w6 ⟨rfl,h6⟩;refine⟨_,rfl,?_,ae hb (ae hB5 h6)⟩;congr 1;unfold ak.right;rw [hr0, ←hb1,e1,e2,e3,e4];rfl
 refine⟨_,c0 0,ac.mk ?_ ?_⟩
 ·intro hrk;have hrk:s.ranked=true:=by rw [←h.ranked];exact hrk
  refine⟨_,_,_,c0 1,ac.mk ?_ ?_⟩
  ·intro hm;have hm:=of_decide_eq_true hm;refine⟨?_,hb⟩;congr 1;unfold ak.right;have:s.merges.isEmpty=false:=by cases hh:s.merges with |nil=>rw [h.n1,hh]at hm;simp at hm |cons _ _=>rfl
   rw [if_pos hrk,this];rfl
  ·intro hm;have hm:=of_decide_eq_false hm;have hme:s.merges= []:=List.eq_nil_of_length_eq_zero (by rw [h.n1]at hm;omega);refine⟨_,c0 0,ac.no (by rw [h.ranked,hrk];rfl) ?_⟩;refine⟨_,_,_,c0 1,?_⟩;have hall:=uA x.s1.a x.s1.c 744 s.merges _ h1.r1 (by omega);rw [←h.n1]at hall;refine hall.mono ?_;rintro e w2 ⟨rfl,h2⟩;exact⟨_,rfl,rest (by rw [if_pos hrk,hme];rfl) _ rfl w2 h2⟩
 ·intro hrk;have hrk:s.ranked=false:=by rw [←h.ranked];exact hrk
  refine⟨_,c0 0,ac.yes (by rw [h.ranked,hrk];rfl) ?_⟩;refine⟨_,_,_,c0 2,ac.mk ?_ ?_⟩
  ·intro hm;have hm:=of_decide_eq_true hm;refine⟨?_,hb⟩;congr 1;unfold ak.right;have:s.tokens.isEmpty=false:=by cases hh:s.tokens with |nil=>rw [h.n2,hh]at hm;simp at hm |cons _ _=>rfl
   rw [if_neg (by rw [hrk];simp),this];rfl
  ·intro hm;have hm:=of_decide_eq_false hm;have hme:s.tokens= []:=List.eq_nil_of_length_eq_zero (by rw [h.n2]at hm;omega);refine⟨_,_,_,c0 1,?_⟩;have hall:=uA x.s1.a x.s1.c 744 s.merges _ h1.r1 (by omega);rw [←h.n1]at hall;refine hall.mono ?_;rintro e w2 ⟨rfl,h2⟩;exact⟨_,rfl,rest (by rw [if_neg (by rw [hrk];simp),hme];rfl) _ rfl w2 h2⟩
theorem bj {α:Type} (n:Nat) (Inv G:Nat→α→Prop) (x0:α) (h0:Inv 0 x0) (step:∀i,i<n→(∀x,Inv (i+1) x→G (i+1) x)→∀x,Inv i x→G i x) (last:∀x,Inv n x→G n x):G 0 x0:=
 qd n Inv G last step 0 (Nat.zero_le _) x0 h0
theorem bF {w:World} {b j:Nat} {c:Array Value} {e:TypeId} (h:w.heap[b]? =some (.cells c e (0,0))) (v:Value):(w.setCell ((⟨b,0,none⟩:Addr).add j) v).heap[b]? =some (.cells (c.setIfInBounds j v) e (0,0)):=by
 rw [aB,Nat.zero_add];exact bO h v
theorem aH {w:World} {b j:Nat} {c:Array Value} {e:TypeId} (h:w.heap[b]? =some (.cells c e (0,0))):w.cell? ((⟨b,0,none⟩:Addr).add j)=c[j]? :=by
 rw [aB,Nat.zero_add];exact aZ h
theorem be {w:World} {b j:Nat} {c:Array Value} {e:TypeId} (h:w.heap[b]? =some (.cells c e (0,0))):w.frozen? ((⟨b,0,none⟩:Addr).add j)=false:=by
 rw [aB,Nat.zero_add];exact bV h
theorem bv {B:Nat} {w w':World} {b j:Nat} (h:Below B w w') (hb:B≤b) (v:Value):Below B w (w'.setCell ((⟨b,0,none⟩:Addr).add j) v):=by
 rw [aB,Nat.zero_add];exact h.setCell (p:=⟨b,0+j,none⟩) hb v |> (by simpa using ·)
theorem fX {α:Type} {l:List α} {most:Nat} {may:α→Bool} (h:bB l most may=true):l.length≤most:=by
 unfold bB at h;rw [Bool.and_eq_true]at h;exact of_decide_eq_true h.1
theorem lE {α:Type} {enc:α→List Value} {sz:Nat} (hsz:∀x,(enc x).length=sz):∀(xs:List α) (j:Nat) (x:α),xs[j]? =some x→∀k,k<sz→(xs.flatMap enc)[j*sz+k]? =(enc x)[k]?
 | [],j,x,h,k,hk=>by simp at h
 |y::ys,0,x,h,k,hk=>by
  simp at h;subst h;rw [List.flatMap_cons,List.getElem?_append_left (by rw [hsz];omega)];congr 1;omega
 |y::ys,j+1,x,h,k,hk=>by
  simp at h;rw [List.flatMap_cons,List.getElem?_append_right (by rw [hsz,Nat.succ_mul];omega),hsz, ←lE hsz ys j x h k hk];congr 1;rw [Nat.succ_mul];omega
theorem bY {α:Type} {enc:α→List Value} {sz:Nat} (hsz:∀x,(enc x).length=sz) (xs:List α):(xs.flatMap enc).length=xs.length*sz:=by
 induction xs with
 |nil=>simp
 |cons x xs ih=>rw [List.flatMap_cons,List.length_append,ih,hsz,List.length_cons,Nat.succ_mul];omega
theorem Rw.of_own {α:Type} {enc:α→List Value} {sz:Nat} {w:World} {B:Nat} {e:TypeId} {s:Sl} {xs:List α} (h:w.ownsRow B e sz s.v s.n (xs.flatMap enc)) (hsz:∀x,(enc x).length=sz) (h0:0<sz):Rw enc sz w s.a xs∧s.n=xs.length:=by
 have hn:=h.1;rw [bY hsz]at hn;have hn:s.n=xs.length:=(Nat.eq_of_mul_eq_mul_right h0 hn).symm;refine⟨?_,hn⟩;intro j x hj;have hjl:=(List.getElem?_eq_some_iff.1 hj).1;rcases h.2 with⟨h1,h2⟩ |⟨g,cap,cur,h1,h2,h3,h4,h5,h6,h7⟩
 ·omega
 ·obtain⟨sa,sn,sc⟩:=s;cases h1;refine⟨_,rfl,(Array.getElem?_eq_some_iff.1 h3).1,?_⟩;intro k v hk;have hkl:k<sz:=by rw [←hsz x];exact(List.getElem?_eq_some_iff.1 hk).1
  rw [aB,aB,Nat.zero_add,aZ h3];have h8:=lE hsz xs j x hj k hkl;have hb:j*sz+k<sn*sz:=by
   have:(j+1)*sz≤sn*sz:=Nat.mul_le_mul_right _ (by simp at hn;omega);rw [Nat.succ_mul]at this;omega
  rw [hk, ←h7,List.getElem?_take_of_lt hb]at h8;simpa using h8
def ay (n:Int):List Value:=[.int .i64 n]
theorem Rw.ints {w:World} {a:Option Addr} {ns:List Int} (h:Rw ay 1 w a ns):Gu w a ns:=by
 intro j n hj;obtain⟨p,rfl,hp,hc⟩:=h j n hj;have:=hc 0 _ rfl;rw [Nat.mul_one,au]at this;exact⟨p,rfl,hp,this⟩
theorem ly {P:Program} {B b:Nat} {c:Array Value} {T:TypeId} {w1:World} {pre post:List hU} {r:hU} (jj:Nat) (hblk:w1.heap[b]? =some (.cells c T (0,0))) (hjj:jj<c.size) (hrows:dv w1 B (pre++r::post)) (hoff:∀x∈pre++r::post,x.blk≠some b) (hBb:B≤b)
  (t:TypeId) {z:Value} {bytes:Nat} (ht:P.underlying t=some (.slice r.e)) (hi:(P.info? r.e).map (fun i=>(i.zero,i.size,i.bytes))=some (some z,r.sz,bytes)) (hzs:z.cells.size=r.sz) (hsz:0<r.sz)
  (news:List Value) (hl:news.length=r.sz) (h1:∀u∈news,u.oneCell'=true) (hbytes:(r.sl.n+1)*bytes≤140737488355328) (h63:r.sl.n+1≤140737488355328):
  ∃a' c' w3,(Builtin.append_ #[t,t] t #[r.sl.v,.slice (some (nb w1)) 1 1]).run P (w1.alloc (.cells news.toArray r.e))= .ok (.slice a' (r.sl.n+1) c') w3∧
   (∃u,w3.cell? ((⟨b,0,none⟩:Addr).add jj)=some u)∧w3.frozen? ((⟨b,0,none⟩:Addr).add jj)=false∧
   ∀w4,w4=w3.setCell ((⟨b,0,none⟩:Addr).add jj) (.slice a' (r.sl.n+1) c')→
    w4.heap[b]? =some (.cells (c.setIfInBounds jj (.slice a' (r.sl.n+1) c')) T (0,0))∧dv w4 B (pre++⟨⟨a',r.sl.n+1,c'⟩,r.e,r.sz,r.xs++news⟩::post)∧
    (∀x∈pre++(⟨⟨a',r.sl.n+1,c'⟩,r.e,r.sz,r.xs++news⟩:hU)::post,x.blk≠some b)∧(∀w0,Below B w0 w1→Below B w0 w4):=by
 have hlt:b<w1.heap.size:=(Array.getElem?_eq_some_iff.1 hblk).1;obtain⟨a',c',w3,hr,hrows',hkeep,hnew,hB,hsize⟩:=hrows.push (P:=P) t ht hi hzs hsz news hl h1 hbytes h63 (by omega);have hblk3:w3.heap[b]? =some (.cells c T (0,0)):=by rw [hkeep b hlt (hoff r (by simp))];exact hblk
 have hoff':∀x∈pre++(⟨⟨a',r.sl.n+1,c'⟩,r.e,r.sz,r.xs++news⟩:hU)::post,x.blk≠some b:=by
  intro x hx;rcases List.mem_append.1 hx with hx |hx
  ·exact hoff x (by simp [hx])
  ·rcases List.mem_cons.1 hx with rfl |hx
   ·intro e;rcases hnew b e with h |h
    ·exact hoff r (by simp) h
    ·omega
   ·exact hoff x (by simp [hx])
 refine⟨a',c',w3,hr,⟨c[jj],?_⟩,be hblk3,?_⟩
 ·rw [aH hblk3];simp [hjj]
 ·rintro w4 rfl;refine⟨bF hblk3 _,hrows'.setCell _ _ (by rw [av];exact hoff'),hoff',fun w0 hb=>?_⟩;exact bv (hB w0 hb) hBb _
abbrev bh:TypeId:=3
abbrev cq:TypeId:=28
theorem qG:Tryz.prog.underlying cq=some (.slice bh):=by kernel_rfl
theorem wC:(Tryz.prog.info? bh).map (fun i=>(i.zero,i.size,i.bytes))=some (some (.int .i64 0),1,8):=by kernel_rfl
abbrev mh:TypeId:=85
abbrev nr:TypeId:=87
abbrev FU:TypeId:=89
abbrev Jc:TypeId:=170
theorem wd:Tryz.prog.underlying 33=some (.slice mh):=by kernel_rfl
theorem qV:Tryz.prog.underlying 25=some (.slice nr):=by kernel_rfl
theorem wA:Tryz.prog.underlying 23=some (.slice FU):=by kernel_rfl
theorem vM:Tryz.prog.underlying 24=some (.slice Jc):=by kernel_rfl
theorem vD:(Tryz.prog.info? mh).map (fun i=>(i.zero,i.size,i.bytes))=some (some (.agg #[.int .i64 0,.int .i64 0]),2,16):=by kernel_rfl
theorem vW:(Tryz.prog.info? nr).map (fun i=>(i.zero,i.size,i.bytes))=some (some (.agg #[.int .i64 0,.string ⟨#[]⟩]),2,24):=by kernel_rfl
theorem Da:(Tryz.prog.info? FU).map (fun i=>(i.zero,i.size,i.bytes))=some (some (.agg #[.int .i64 0,.int .i64 0,.int .i64 0]),3,24):=by kernel_rfl
theorem DR:(Tryz.prog.info? Jc).map (fun i=>(i.zero,i.size,i.bytes))=some (some (.agg #[.int .i64 0,.int .i64 0]),2,16):=by kernel_rfl
def gj (s:ak):Prop:=s.merges.length≤1000000∧s.tokens.length≤1000000∧s.specials.length≤1000000∧s.classes.length≤1000000∧s.joins.length≤1000000
theorem dc {s:ak} (h:s.right=true):gj s:=by
 obtain⟨_,p1,p2,p3,p4,p5⟩:=cP h;have l1:=fX p1;have l2:=fX p2;have l3:=fX p3;have l4:=fX p4;have l5:=fX p5;exact⟨by omega,by omega,by omega,by omega,by omega⟩
abbrev da:TypeId:=71
abbrev dZ:Sl:=⟨none,0,0⟩
abbrev fW:aY:=⟨false,dZ,dZ,dZ,dZ,dZ⟩
theorem Rw.off {α:Type} {enc:α→List Value} {sz:Nat} {w w7:World} {b:Nat} {a:Option Addr} {xs:List α} (h:Rw enc sz w a xs) (hne:∀j,j≠b→w7.heap[j]? =w.heap[j]?) (hs:w.heap.size≤w7.heap.size) (ha:∀p,a=some p→p.block≠b):Rw enc sz w7 a xs:=by
 intro j x hj;obtain⟨p,hp,hlt,hc⟩:=h j x hj;refine⟨p,hp,by omega,fun k v hk=>?_⟩;rw [←hc k v hk];unfold World.cell?;rw [hne _ (by rw [av,av];exact ha p hp)]
theorem Rw.at {α:Type} {enc:α→List Value} {sz:Nat} {w:World} {a:Option Addr} {xs:List α} (h:Rw enc sz w a xs) {p:Addr} (hp:a=some p) {j:Nat} {x:α} (hj:xs[j]? =some x) (k:Nat) (v:Value) (hk:(enc x)[k]? =some v):w.cell? ((p.add (j*sz)).add k)=some v:=by
 obtain⟨q,hq,_,hc⟩:=h j x hj;rw [hp]at hq;cases hq;exact hc k v hk
theorem uD {w w6:World} {c:Array Value} {T:TypeId} (K:aY→World→Prop) (x:aY) (hblk:w6.heap[w.heap.size]? =some (.cells c T (0,0))) (hc:c.size=6)
  (hR:∀w7,(∀w0,Below w.heap.size w0 w6→Below w.heap.size w0 w7)→(∀j,j≠w.heap.size→w7.heap[j]? =w6.heap[j]?)→K x w7):
  ax w6 (nb w) (fun w7=>
   ∃res0:Bool,∃res1A:Option Addr,∃res1N:Nat,∃res1C:Nat,∃res2A:Option Addr,∃res2N:Nat,∃res2C:Nat,∃res3A:Option Addr,∃res3N:Nat,∃res3C:Nat,∃res4A:Option Addr,∃res4N:Nat,∃res4C:Nat,∃res5A:Option Addr,∃res5N:Nat,∃res5C:Nat,(w7.cell? (nb w)=some (Value.bool res0)∧w7.cell? ((nb w).add 1)=some (Value.slice res1A res1N res1C)∧w7.cell? ((nb w).add 2)=some (Value.slice res2A res2N res2C)∧w7.cell? ((nb w).add 3)=some (Value.slice res3A res3N res3C)∧w7.cell? ((nb w).add 4)=some (Value.slice res4A res4N res4C)∧w7.cell? ((nb w).add 5)=some (Value.slice res5A res5N res5C)∧True)∧
   K ⟨res0,⟨res1A,res1N,res1C⟩,⟨res2A,res2N,res2C⟩,⟨res3A,res3N,res3C⟩,⟨res4A,res4N,res4C⟩,⟨res5A,res5N,res5C⟩⟩ w7)
   [Value.bool x.ranked,Value.slice x.s1.a x.s1.n x.s1.c,Value.slice x.s2.a x.s2.n x.s2.c,Value.slice x.s3.a x.s3.n x.s3.c,Value.slice x.s4.a x.s4.n x.s4.c,Value.slice x.s5.a x.s5.n x.s5.c] 0:=by
 refine eK _ 0 w6 c 0 hblk (by simp [hc]) (by intro v hv;simp at hv;rcases hv with rfl |rfl |rfl |rfl |rfl |rfl<;>rfl) ?_
 intro w7 h7 hne hsz hB;have h7':w7.heap[w.heap.size]? =some (.cells x.cells T (0,0)):=by
  rw [h7];congr 2;simp [ip,hc]
 have c0:w7.cell? (nb w)=some (Value.bool x.ranked):=by have:=aH (j:=0) h7';rw [au]at this;exact this.trans rfl
 exact⟨x.ranked,_,_,_,_,_,_,_,_,_,_,_,_,_,_,_,⟨c0,(aH (j:=1) h7').trans rfl,(aH (j:=2) h7').trans rfl,(aH (j:=3) h7').trans rfl,(aH (j:=4) h7').trans rfl,(aH (j:=5) h7').trans rfl,trivial⟩,hR w7 (fun w0 h=>hB _ w0 (Nat.le_refl _) h) hne⟩
def mr (v:Value):Prop:=(∃k n,v= .int k n)∨∃s,v= .string s
theorem G0 {w:World} {p:Addr} {v:Value} {c:Array Value} {T:TypeId} {fz:Nat×Nat} (h:w.heap[p.block]? =some (.cells c T fz)) (hc:w.cell? p=some v):v∈c:=by
 unfold World.cell? at hc;rw [h]at hc;dsimp only at hc;split at hc
 ·cases hc
 ·exact Array.mem_of_getElem? hc
theorem Rw.past {α:Type} {enc:α→List Value} {sz:Nat} {w w':World} {b:Nat} {c:Array Value} {T:TypeId} {fz:Nat×Nat} {a:Option Addr} {xs:List α} (h:Rw enc sz w a xs) (henc:∀x,∃v,(enc x)[0]? =some v∧mr v) (hb:w.heap[b]? =some (.cells c T fz)) (hc:∀v∈c,¬mr v)
  (hne:∀j,j<w.heap.size→j≠b→w'.heap[j]? =w.heap[j]?) (hs:w.heap.size≤w'.heap.size):Rw enc sz w' a xs:=by
 intro j x hj;obtain⟨p,hp,hlt,hcc⟩:=h j x hj;refine⟨p,hp,by omega,fun k v hk=>?_⟩;have hpb:p.block≠b:=by
  intro e;obtain⟨v0,h0,hsol⟩:=henc x;have:=hcc 0 v0 h0;exact hc v0 (G0 (by rw [av,av,e];exact hb) this) hsol
 rw [←hcc k v hk];unfold World.cell?;rw [hne _ (by rw [av,av];exact hlt) (by rw [av,av];exact hpb)]
theorem df (k:IntKind) (n:Int):mr (.int k n):=.inl ⟨k,n,rfl⟩
theorem cI.past {w w':World} {b:Nat} {c:Array Value} {T:TypeId} {fz:Nat×Nat} {x:aY} {s:ak} (h:cI w x s) (hb:w.heap[b]? =some (.cells c T fz)) (hc:∀v∈c,¬mr v)
  (hne:∀j,j<w.heap.size→j≠b→w'.heap[j]? =w.heap[j]?) (hs:w.heap.size≤w'.heap.size):cI w' x s:=
 ⟨h.ranked,h.n1,h.r1.past (fun m=>⟨_,rfl,df _ _⟩) hb hc hne hs,h.n2,h.r2.past (fun m=>⟨_,rfl,.inr ⟨_,rfl⟩⟩) hb hc hne hs,h.n3,h.r3.past (fun m=>⟨_,rfl,df _ _⟩) hb hc hne hs,
  h.n4,h.r4.past (fun m=>⟨_,rfl,df _ _⟩) hb hc hne hs,h.n5,h.r5.past (fun m=>⟨_,rfl,df _ _⟩) hb hc hne hs⟩
theorem Rw.flat {α:Type} {enc:α→List Value} {sz:Nat} {w:World} {p:Addr} {xs:List α} (h:Rw enc sz w (some p) xs) (hsz:∀x,(enc x).length=sz) (h0:0<sz) (i:Nat) (u:Value) (hi:(xs.flatMap enc)[i]? =some u):w.cell? (p.add i)=some u:=by
 have hlt:=(List.getElem?_eq_some_iff.1 hi).1;rw [bY hsz]at hlt;have hj:i/sz<xs.length:=Nat.div_lt_of_lt_mul (by rw [Nat.mul_comm];exact hlt);have hk:i%sz<sz:=Nat.mod_lt _ h0;have hsplit:i/sz*sz+i%sz=i:=by rw [Nat.mul_comm];exact Nat.div_add_mod i sz
 have hg:=lE hsz xs (i/sz) _ (List.getElem?_eq_getElem hj) (i%sz) hk;rw [hsplit,hi]at hg;have:=h.at rfl (List.getElem?_eq_getElem hj) (i%sz) u hg.symm;rw [Addr.add_add,hsplit]at this;exact this
theorem jG {α:Type} {enc:α→List Value} {sz:Nat} (hsz:∀x,(enc x).length=sz) (h0:0<sz) (h1:∀x,∀u∈enc x,u.oneCell'=true) (t e:TypeId) {z:Value} {bytes:Nat} (ht:Tryz.prog.underlying t=some (.slice e)) (hi:(Tryz.prog.info? e).map (fun i=>(i.zero,i.size,i.bytes))=some (some z,sz,bytes)) (hzs:z.cells.size=sz)
  (w8:World) (src:Sl) (xs:List α) (hsrc:tZ src) (hr:Rw enc sz w8 src.a xs) (hn:src.n=xs.length) (hb:src.n*bytes≤140737488355328) (hN:src.n≤140737488355328):∀w18,w18=w8.alloc (.cells #[] e)→
  ∃A C w19,(Builtin.append_ #[t,t] t #[.slice (some (nb w8)) 0 0,src.v]).run Tryz.prog w18= .ok (.slice A src.n C) w19∧w19.ownsRow w8.heap.size e sz (.slice A src.n C) src.n (xs.flatMap enc)∧Below w8.heap.size w8 w19:=by
 rintro w18 rfl;have hB:=ah w8 (.cells #[] e);have hown:(w8.alloc (.cells #[] e)).ownsRow w8.heap.size e sz (.slice (some (nb w8)) 0 0) 0 []:=⟨by simp,.inr ⟨w8.heap.size,0,_,rfl,Nat.le_refl _,ap w8 _,Nat.le_refl _,by decide,by simp,by simp⟩⟩;obtain⟨A,C,w19,h2,h3,h4,_⟩:=mU (P:=Tryz.prog) t e ht hi hzs h0 hown src hsrc (xs.flatMap enc) (by rw [bY hsz,hn]) (by
  intro a ha j u hj;have hr':=hr.on hB;rw [ha]at hr';exact hr'.flat hsz h0 j u hj) (by
  intro u hu;obtain⟨x,_,hx⟩:=List.mem_flatMap.1 hu;exact h1 x u hx) (by rw [Nat.zero_add];exact hb) (by rw [Nat.zero_add];exact hN) hB.size
 rw [Nat.zero_add]at h2 h3;exact⟨A,C,w19,h2,h3,h4 w8 hB⟩
theorem mL {w2:World} {k:World→Prop} (x:aY) (w3:World) (hw3:w3=w2.alloc (.cells fW.cells da)) (hk:∀w4,w4.heap[w2.heap.size]? =some (.cells x.cells da (0,0))→Below w2.heap.size w2 w4→k w4):
  ax w3 (nb w2) k [Value.bool x.ranked,Value.slice x.s1.a x.s1.n x.s1.c,Value.slice x.s2.a x.s2.n x.s2.c,Value.slice x.s3.a x.s3.n x.s3.c,Value.slice x.s4.a x.s4.n x.s4.c,Value.slice x.s5.a x.s5.n x.s5.c] 0:=by
 refine aS [.bool false,.slice none 0 0,.slice none 0 0,.slice none 0 0,.slice none 0 0,.slice none 0 0] [.bool x.ranked,x.s1.v,x.s2.v,x.s3.v,x.s4.v,x.s5.v] rfl (by intro v hv;simp at hv;rcases hv with rfl |rfl |rfl |rfl |rfl |rfl<;>rfl) w3 hw3 ?_
 intro w4 h4 _ hB;exact hk w4 h4 hB
theorem dF {w:World} {b:Nat} {x:aY} {T:TypeId} {fz:Nat×Nat} (h:w.heap[b]? =some (.cells x.cells T fz)):
  w.cell? ⟨b,0,none⟩=some (Value.bool x.ranked)∧w.cell? ((⟨b,0,none⟩:Addr).add 1)=some x.s1.v∧w.cell? ((⟨b,0,none⟩:Addr).add 2)=some x.s2.v∧w.cell? ((⟨b,0,none⟩:Addr).add 3)=some x.s3.v∧w.cell? ((⟨b,0,none⟩:Addr).add 4)=some x.s4.v∧w.cell? ((⟨b,0,none⟩:Addr).add 5)=some x.s5.v∧True:=by
 have hc:∀j,w.cell? ((⟨b,0,none⟩:Addr).add j)=x.cells[j]? :=fun j=>by rw [aB,Nat.zero_add,aZ h]
 exact⟨by have:=hc 0;rw [au]at this;exact this,hc 1,hc 2,hc 3,hc 4,hc 5,trivial⟩
theorem Below.keeps {B:Nat} {w w':World} (h:Below B w w') {b:Nat} (hb:b<B) {o:Obj} (ho:w.heap[b]? =some o):w'.heap[b]? =some o:=by rw [h.block b hb,ho]
theorem aj {w w':World} (h:Below w.heap.size w w') {b:Nat} {o:Obj} (ho:w.heap[b]? =some o):w'.heap[b]? =some o:=by rw [h.block b (Array.getElem?_eq_some_iff.1 ho).1,ho]
section
variable {H:Type} {enc0:TypeId×Value→H} {w:World} {base:Nat} {spare:Nat→Bool} {held:Bool}
theorem Fy {e:TypeId} {f0 f1:Field} (he:Tryz.prog.underlying e=some (.struct #[f0,f1])) (o0:f0.offset=0) (o1:f1.offset=1) (t0:Tryz.prog.underlying f0.type=some (.int .i64)) (t1:Tryz.prog.underlying f1.type=some (.int .i64)) (c0:Tryz.prog.cellsOf f0.type=1) (c1:Tryz.prog.cellsOf f1.type=1) (hc:Tryz.prog.cellsOf e=2):
  ∀n cs' y,DataW.trod enc0 Tryz.prog w base spare held n e cs'=some y→∃m:Int×Int,cs'=aP m:=by
 intro n cs' y h;obtain⟨y0,y1,k,_,hl,h0,h1⟩:=trod_struct2 he h;rw [o0,c0]at h0;rw [o1,c1]at h1;rw [hc]at hl
 match cs',hl with
 | [a,b],_=>
  obtain⟨i,hi,_⟩:=DataW.trod_int t0 h0;obtain⟨j,hj,_⟩:=DataW.trod_int t1 h1;simp at hi hj;subst hi hj;exact⟨(i,j),rfl⟩
theorem wu {e:TypeId} {f0 f1:Field} (he:Tryz.prog.underlying e=some (.struct #[f0,f1])) (o0:f0.offset=0) (o1:f1.offset=1) (t0:Tryz.prog.underlying f0.type=some (.int .i64)) (t1:Tryz.prog.underlying f1.type=some .string) (c0:Tryz.prog.cellsOf f0.type=1) (c1:Tryz.prog.cellsOf f1.type=1) (hc:Tryz.prog.cellsOf e=2):
  ∀n cs' y,DataW.trod enc0 Tryz.prog w base spare held n e cs'=some y→∃m:Int×Bs,cs'=aD m:=by
 intro n cs' y h;obtain⟨y0,y1,k,_,hl,h0,h1⟩:=trod_struct2 he h;rw [o0,c0]at h0;rw [o1,c1]at h1;rw [hc]at hl
 match cs',hl with
 | [a,b],_=>
  obtain⟨i,hi,_⟩:=DataW.trod_int t0 h0;obtain⟨j,hj,_⟩:=DataW.trod_string t1 h1;simp at hi hj;subst hi hj;exact⟨(i,j.data.toList),by simp [aD, ←Kp]⟩
theorem Cy {e:TypeId} {f0 f1 f2:Field} (he:Tryz.prog.underlying e=some (.struct #[f0,f1,f2])) (o0:f0.offset=0) (o1:f1.offset=1) (o2:f2.offset=2) (t0:Tryz.prog.underlying f0.type=some (.int .i64)) (t1:Tryz.prog.underlying f1.type=some (.int .i64)) (t2:Tryz.prog.underlying f2.type=some (.int .i64)) (c0:Tryz.prog.cellsOf f0.type=1) (c1:Tryz.prog.cellsOf f1.type=1) (c2:Tryz.prog.cellsOf f2.type=1) (hc:Tryz.prog.cellsOf e=3):
  ∀n cs' y,DataW.trod enc0 Tryz.prog w base spare held n e cs'=some y→∃m:Int×Int×Int,cs'=bH m:=by
 intro n cs' y h;obtain⟨xs,k,_,_,hl,hlen,hF⟩:=DataW.trod_struct he h;have h0:=hF 0 f0 rfl;have h1:=hF 1 f1 rfl;have h2:=hF 2 f2 rfl;rw [o0,c0]at h0;rw [o1,c1]at h1;rw [o2,c2]at h2;rw [hc]at hl
 match cs',hl,xs,hlen with
 | [a,b,c],_,[y0,y1,y2],_=>
  obtain⟨i,hi,_⟩:=DataW.trod_int t0 h0;obtain⟨j,hj,_⟩:=DataW.trod_int t1 h1;obtain⟨k,hk,_⟩:=DataW.trod_int t2 h2;simp at hi hj hk;subst hi hj hk;exact⟨(i,j,k),rfl⟩
end
set_option linter.unusedSectionVars false
def fF {κ:Type} [DecidableEq κ] (k:κ):List (κ×Value)→Nat→Option (Nat×Value)
 | [],_=>none
 |p::r,i=>if k=p.1 then some (i,p.2)else fF k r (i+1)
def fh {κ:Type} [DecidableEq κ] (k:κ):List (κ×Value)→Option Value
 | []=>none
 |p::r=>if k=p.1 then some p.2 else fh k r
theorem jy {κ:Type} [DecidableEq κ] (k:κ):∀(m:List (κ×Value)) (i:Nat),(fF k m i).map (·.2)=fh k m
 | [],i=>rfl
 |p::r,i=>by
  simp only [fF,fh];split
  ·rfl
  ·exact jy k r (i+1)
structure kF (P:Program) (kt:TypeId) (κ:Type) [DecidableEq κ] (kv:κ→Value):Prop where
 check:∀(e:Bool) (k:κ) (w:World),(Instr.checkKey e 10000 kt (kv k)).run P w= .ok () w
 find:∀(k:κ) (es:List MapEntry) (m:List (κ×Value)) (w:World),es.map (fun x=>(x.key,x.val))=m.map (fun p=>(kv p.1,p.2))→(Instr.findKey kt (kv k) es).run P w= .ok (fF k m 0) w
def br {κ:Type} (kv:κ→Value) (w:World) (r:Nat) (m:List (κ×Value)):Prop:=∃es clock,w.heap[r]? =some (.map es clock)∧es.toList.map (fun x=>(x.key,x.val))=m.map (fun p=>(kv p.1,p.2))∧∀x∈es.toList,x.born<clock
theorem ii {P:Program} {w:World} {r:Nat} {es:Array MapEntry} {c:Nat} (hb:w.heap[r]? =some (.map es c)):(getObj r).run P w= .ok (.map es c) w:=by simp [getObj,Sem.run,hb]
theorem oO {P:Program} {w:World} {r:Nat} {es:Array MapEntry} {c:Nat} (o:Obj) (hb:w.heap[r]? =some (.map es c)):(setObj r o).run P w= .ok () {w with heap:=w.heap.setIfInBounds r o}:=by simp [setObj,Sem.run,hb]
section
variable {P:Program} {kt et t:TypeId} {κ:Type} [DecidableEq κ] {kv:κ→Value}
theorem br.lt {w:World} {r:Nat} {m:List (κ×Value)} (h:br kv w r m):r<w.heap.size:=by
 obtain⟨es,clock,h,_⟩:=h;exact(Array.getElem?_eq_some_iff.1 h).1
theorem br.same {w w':World} {r:Nat} {m:List (κ×Value)} (h:br kv w r m) (hs:w'.heap[r]? =w.heap[r]?):br kv w' r m:=by
 obtain⟨es,clock,h,hm,hs'⟩:=h;exact⟨es,clock,by rw [hs];exact h,hm,hs'⟩
theorem br.on {w w':World} {r:Nat} {m:List (κ×Value)} (h:br kv w r m) (hb:Below w.heap.size w w'):br kv w' r m:=h.same (hb.block r h.lt)
theorem iL (w:World):br kv (w.alloc (.map #[] 0)) w.heap.size []:=⟨#[],0,ap w _,rfl,by simp⟩
theorem eS (K:kF P kt κ kv) (ht:P.underlying t=some (.map kt et)) {z:Value} (hz:(P.info? et).map (·.zero)=some (some z)) {w:World} {r:Nat} {m:List (κ×Value)} (h:br kv w r m) (k:κ):
  (Instr.lookup t (.map (some r)) (kv k) true).run P w= .ok (.tuple #[(fh k m).getD z,.bool (fh k m).isSome]) w:=by
 obtain⟨es,clock,hb,hm,_⟩:=h;unfold Instr.lookup;simp only [Sem.run_bind,run_underlying ht,Result.andThen,ii hb,Sem.run_pure,K.check,K.find k es.toList m w hm];have hl:=jy k m 0;cases hx:fF k m 0 with
 |none=>
  rw [hx]at hl;simp only [Option.map_none]at hl;rw [←hl];simp [gq hz,Result.andThen]
 |some q=>
  rw [hx]at hl;simp only [Option.map_some]at hl;rw [←hl];simp
theorem FW (K:kF P kt κ kv) (ht:P.underlying t=some (.map kt et)) {z:Value} (hz:(P.info? et).map (·.zero)=some (some z)) {w:World} {r:Nat} {m:List (κ×Value)} (h:br kv w r m) (k:κ):
  (Instr.lookup t (.map (some r)) (kv k) false).run P w= .ok ((fh k m).getD z) w:=by
 obtain⟨es,clock,hb,hm,_⟩:=h;unfold Instr.lookup;simp only [Sem.run_bind,run_underlying ht,Result.andThen,ii hb,Sem.run_pure,K.check,K.find k es.toList m w hm];have hl:=jy k m 0;cases hx:fF k m 0 with
 |none=>
  rw [hx]at hl;simp only [Option.map_none]at hl;rw [←hl];simp [gq hz,Result.andThen]
 |some q=>
  rw [hx]at hl;simp only [Option.map_some]at hl;rw [←hl];simp
theorem vf {k:κ} {m:List (κ×Value)}:fh k m=none↔∀p∈m,p.1≠k:=by
 induction m with
 |nil=>simp [fh]
 |cons p m ih=>
  simp only [fh];split
  ·rename_i e;simp [e]
  ·rename_i e;rw [ih];constructor
   ·intro h q hq;rcases List.mem_cons.1 hq with rfl |hq
    ·exact fun e'=>e e'.symm
    ·exact h q hq
   ·exact fun h q hq=>h q (by simp [hq])
theorem fo (K:kF P kt κ kv) (ht:P.underlying t=some (.map kt et)) {w:World} {r:Nat} {m:List (κ×Value)} (h:br kv w r m) (k:κ) (v:Value) (hk:fh k m=none):
  ∃w',(Instr.mapUpdate t (.map (some r)) (kv k) v).run P w= .ok () w'∧br kv w' r (m++ [(k,v)])∧(∀j,j≠r→w'.heap[j]? =w.heap[j]?)∧w'.heap.size=w.heap.size∧(∀B w0,B≤r→Below B w0 w→Below B w0 w'):=by
 obtain⟨es,clock,hb,hm,hst⟩:=h;have hlt:=(Array.getElem?_eq_some_iff.1 hb).1;have hl:=jy k m 0;rw [hk]at hl;have hx:fF k m 0=none:=by
  cases hx:fF k m 0 with
  |none=>rfl
  |some q=>rw [hx]at hl;cases hl
 refine⟨{w with heap:=w.heap.setIfInBounds r (.map (es.push {key:=kv k,val:=v,born:=clock}) (clock+1))},?_,?_,?_,by simp,?_⟩
 ·unfold Instr.mapUpdate;simp only [Sem.run_bind,run_underlying ht,Result.andThen,ii hb,K.check,K.find k es.toList m w hm,hx];exact oO _ hb
 ·refine⟨es.push {key:=kv k,val:=v,born:=clock},clock+1,by simp [hlt],by simp [hm],fun x hx=>?_⟩;rw [Array.toList_push,List.mem_append,List.mem_singleton]at hx;rcases hx with hx |rfl
  ·have:=hst x hx;omega
  ·exact Nat.lt_succ_self _
 ·intro j hj;simp [Array.getElem?_setIfInBounds_ne (fun e=>hj e.symm)]
 ·intro B w0 hB h0;exact h0.trans ⟨rfl,rfl,rfl,by simp,fun j hj=>by simp [Array.getElem?_setIfInBounds_ne (show r≠j by omega)]⟩
def Pe {κ:Type} (kv:κ→Value) (w:World) (r:Nat) (m:List (κ×Value)) (k:κ) (c:Nat):Prop:=∃(es:Array MapEntry) (z:Value),w.heap[r]? =some (.map (es.push {key:=kv k,val:=z,born:=c}) (c+1))∧es.toList.map (fun x=>(x.key,x.val))=m.map (fun p=>(kv p.1,p.2))∧∀x∈es.toList,x.born<c
theorem gC (K:kF P kt κ kv) (ht:P.underlying t=some (.map kt et)) {z:Value} (hz:(P.info? et).map (·.zero)=some (some z)) {w:World} {r:Nat} {m:List (κ×Value)} (h:br kv w r m) (k:κ) (hk:fh k m=none):
  ∃(c:Nat) (w':World),(Instr.mapEntry t (.map (some r)) (kv k)).run P w= .ok (.tuple #[z,.int .i64 c]) w'∧Pe kv w' r m k c∧(∀j,j≠r→w'.heap[j]? =w.heap[j]?)∧w'.heap.size=w.heap.size∧(∀B w0,B≤r→Below B w0 w→Below B w0 w'):=by
 obtain⟨es,clock,hb,hm,hst⟩:=h;have hlt:=(Array.getElem?_eq_some_iff.1 hb).1;have hl:=jy k m 0;rw [hk]at hl;have hx:fF k m 0=none:=by
  cases hx:fF k m 0 with
  |none=>rfl
  |some q=>rw [hx]at hl;cases hl
 refine⟨clock,{w with heap:=w.heap.setIfInBounds r (.map (es.push {key:=kv k,val:=z,born:=clock}) (clock+1))},?_,⟨es,z,by simp [hlt],hm,hst⟩,?_,by simp,?_⟩
 ·unfold Instr.mapEntry;simp only [Sem.run_bind,run_underlying ht,Result.andThen,ii hb,K.check,K.find k es.toList m w hm,hx,gq hz,oO _ hb];rfl
 ·intro j hj;simp [Array.getElem?_setIfInBounds_ne (fun e=>hj e.symm)]
 ·intro B w0 hB h0;exact h0.trans ⟨rfl,rfl,rfl,by simp,fun j hj=>by simp [Array.getElem?_setIfInBounds_ne (show r≠j by omega)]⟩
theorem BO (es:Array MapEntry) (x:MapEntry) (v:Value):(es.push x).modify es.size (fun e=>{e with val:=v})=es.push {x with val:=v}:=by
 apply Array.ext
 ·simp
 ·intro i h1 h2;simp only [Array.getElem_modify,Array.getElem_push];simp at h2;by_cases hi:i<es.size
  ·simp [hi,show ¬es.size=i by omega]
  ·simp [show es.size=i by omega]
theorem gv {w:World} {r:Nat} {m:List (κ×Value)} {k:κ} {c:Nat} (t:TypeId) (h:Pe kv w r m k c) (v:Value):
  ∃w':World,(Instr.entryStore t (.map (some r)) (.int .i64 c) v).run P w= .ok () w'∧br kv w' r (m++ [(k,v)])∧(∀j,j≠r→w'.heap[j]? =w.heap[j]?)∧w'.heap.size=w.heap.size∧(∀B w0,B≤r→Below B w0 w→Below B w0 w'):=by
 obtain⟨es,z,hb,hm,hst⟩:=h;have hlt:=(Array.getElem?_eq_some_iff.1 hb).1;have hf:(es.push {key:=kv k,val:=z,born:=c}).findIdx? (fun e=>((e.born:Int)==(c:Int)))=some es.size:=by
  rw [Array.findIdx?_eq_some_iff_getElem];refine⟨by simp,by simp,fun j hj=>?_⟩;have:=hst es[j] (by simp);simp [Array.getElem_push_lt hj];omega
 refine⟨{w with heap:=w.heap.setIfInBounds r (.map (es.push {key:=kv k,val:=v,born:=c}) (c+1))},?_,⟨es.push {key:=kv k,val:=v,born:=c},c+1,by simp [hlt],by simp [hm],?_⟩,?_,by simp,?_⟩
 ·unfold Instr.entryStore;simp only [Sem.run_bind,Result.andThen,ii hb,asInt,asIntOf,Sem.run_map,Sem.run_pure,hf,BO];exact oO _ hb
 ·intro x hx;rw [Array.toList_push,List.mem_append,List.mem_singleton]at hx;rcases hx with hx |rfl
  ·have:=hst x hx;omega
  ·exact Nat.lt_succ_self _
 ·intro j hj;simp [Array.getElem?_setIfInBounds_ne (fun e=>hj e.symm)]
 ·intro B w0 hB h0;exact h0.trans ⟨rfl,rfl,rfl,by simp,fun j hj=>by simp [Array.getElem?_setIfInBounds_ne (show r≠j by omega)]⟩
theorem gG {w:World} (t:TypeId):(Instr.makeMap t none).run P w= .ok (.map (some w.heap.size)) (w.alloc (.map #[] 0)):=by
 unfold Instr.makeMap;simp [Sem.run_bind,newObj,Sem.run,Result.andThen]
end
theorem rm {κ:Type} [DecidableEq κ] {kv:κ→Value} {d:TypeDesc} (hs:∀a b,Instr.sameNow d (kv a) (kv b)=some (decide (a=b))) (k:κ):∀(es:List MapEntry) (m:List (κ×Value)) (i:Nat),es.map (fun x=>(x.key,x.val))=m.map (fun p=>(kv p.1,p.2))→Instr.findNow d (kv k) es i=some (fF k m i)
 | [],m,i,h=>by
  have:m= []:=by simpa using h.symm
  subst this;rfl
 |e::es,[],i,h=>by simp at h
 |e::es,p::m,i,h=>by
  simp only [List.map_cons,List.cons.injEq,Prod.mk.injEq]at h;simp only [Instr.findNow,fF];rw [h.1.1,hs];by_cases hk:k=p.1
  ·rw [decide_eq_true hk,if_pos hk,h.1.2]
  ·rw [decide_eq_false hk,if_neg hk];exact rm hs k es m (i+1) h.2
theorem rf {P:Program} {kt:TypeId} {κ:Type} [DecidableEq κ] {kv:κ→Value} {d:TypeDesc} (hd:P.underlying kt=some d) (hs:∀a b,Instr.sameNow d (kv a) (kv b)=some (decide (a=b)))
  (hc:∀(e:Bool) (k:κ) (w:World),(Instr.checkKey e 10000 kt (kv k)).run P w= .ok () w):kF P kt κ kv:=by
 refine⟨hc,fun k es m w h=>?_⟩;unfold Instr.findKey;simp only [Sem.run_bind,run_underlying hd,Result.andThen,rm hs k es m 0 h,Sem.run_pure]
abbrev dJ (n:Int):Value:=.int .i64 n
abbrev dp (s:List UInt8):Value:=.string (str s)
abbrev dE (m:Int×Int):Value:=.agg #[.int .i64 m.1,.int .i64 m.2]
theorem HC {P:Program} {kt:TypeId} (hd:P.underlying kt=some (.int .i64)):kF P kt Int dJ:=by
 refine rf hd (fun a b=>by simp [Instr.sameNow,dJ];exact(Bool.beq_eq_decide_eq a b)) (fun e k w=>?_);unfold Instr.checkKey;simp [run_underlying hd,Result.andThen]
theorem JZ {a b:List UInt8} (h:str a=str b):a=b:=by
 have:=congrArg (fun x:ByteArray=>x.data.toList) h;simpa [str]using this
theorem G8 {P:Program} {kt:TypeId} (hd:P.underlying kt=some .string):kF P kt (List UInt8) dp:=by
 refine rf hd (fun a b=>?_) (fun e k w=>?_)
 ·simp only [Instr.sameNow,dp];congr 1;rw [Bool.eq_iff_iff,Go.MapKept.bytes_beq,decide_eq_true_eq];exact⟨JZ,fun h=>by rw [h]⟩
 ·unfold Instr.checkKey;simp [run_underlying hd,Result.andThen]
theorem pD {P:Program} {kt:TypeId} (hf:r_ P kt [.i,.i]=true) (k:Int×Int):∀(es:List MapEntry) (m:List ((Int×Int)×Value)) (i:Nat) (w:World),es.map (fun x=>(x.key,x.val))=m.map (fun p=>(dE p.1,p.2))→(Instr.findAsking kt (dE k) es i).run P w= .ok (fF k m i) w
 | [],m,i,w,h=>by
  have:m= []:=by simpa using h.symm
  subst this;rfl
 |e::es,[],i,w,h=>by simp at h
 |e::es,p::m,i,w,h=>by
  simp only [List.map_cons,List.cons.injEq,Prod.mk.injEq]at h;have hb:JG [.i,.i] (#[Value.int .i64 k.1,Value.int .i64 k.2]:Array Value).toList (#[Value.int .i64 p.1.1,Value.int .i64 p.1.2]:Array Value).toList=some (decide (k=p.1)):=by
   have h1:(k.1==p.1.1&&(k.2==p.1.2&&true))=decide (k=p.1):=by
    rw [Bool.eq_iff_iff];simp [Prod.ext_iff]
   rw [←h1];rfl
  obtain⟨hr,_⟩:=mN (w:=w) hf hb;simp only [Instr.findAsking,Sem.run_bind,fF,h.1.1];unfold Op.equal;rw [show(Op.equalIn Op.maxDepth kt (dE k) (dE p.1)).run P w= .ok (decide (k=p.1)) w from hr];by_cases hk:k=p.1
  ·simp [hk,Result.andThen,h.1.2]
  ·simp only [Result.andThen,decide_eq_false hk,if_neg hk];exact pD hf k es m (i+1) w h.2
theorem F_ {P:Program} {kt:TypeId} {fs:Array Field} (hd:P.underlying kt=some (.struct fs)) (hf:r_ P kt [.i,.i]=true) (hc:∀(e:Bool) (k:Int×Int) (w:World),(Instr.checkKey e 10000 kt (dE k)).run P w= .ok () w):kF P kt (Int×Int) dE:=by
 refine⟨hc,fun k es m w h=>?_⟩;unfold Instr.findKey;simp only [Sem.run_bind,run_underlying hd,Result.andThen];cases es with
 |nil=>
  have:m= []:=by simpa using h.symm
  subst this;rfl
 |cons e es=>
  have:Instr.findNow (.struct fs) (dE k) (e::es) 0=none:=by simp [Instr.findNow,Instr.sameNow]
  rw [this];exact pD hf k (e::es) m 0 w h
theorem fk {P:Program} {B b:Nat} {c:Array Value} {T e:TypeId} {w1:World} {sz:Nat} {s:Sl} {xs:List Value} (jj:Nat) (hblk:w1.heap[b]? =some (.cells c T (0,0))) (hjj:jj<c.size) (hown:w1.ownsRow B e sz s.v s.n xs) (hoff:s.v.ownBlock≠some b) (hBb:B≤b)
  (t:TypeId) {z:Value} {bytes:Nat} (ht:P.underlying t=some (.slice e)) (hi:(P.info? e).map (fun i=>(i.zero,i.size,i.bytes))=some (some z,sz,bytes)) (hzs:z.cells.size=sz) (hsz:0<sz)
  (news:List Value) (hl:news.length=sz) (h1:∀u∈news,u.oneCell'=true) (hbytes:(s.n+1)*bytes≤140737488355328) (h63:s.n+1≤140737488355328):
  ∃a' c' w3,(Builtin.append_ #[t,t] t #[s.v,.slice (some (nb w1)) 1 1]).run P (w1.alloc (.cells news.toArray e))= .ok (.slice a' (s.n+1) c') w3∧
   (∃u,w3.cell? ((⟨b,0,none⟩:Addr).add jj)=some u)∧w3.frozen? ((⟨b,0,none⟩:Addr).add jj)=false∧
   ∀w4,w4=w3.setCell ((⟨b,0,none⟩:Addr).add jj) (.slice a' (s.n+1) c')→
    w4.heap[b]? =some (.cells (c.setIfInBounds jj (.slice a' (s.n+1) c')) T (0,0))∧w4.ownsRow B e sz (.slice a' (s.n+1) c') (s.n+1) (xs++news)∧
    (Value.slice a' (s.n+1) c').ownBlock≠some b∧(∀w0,Below B w0 w1→Below B w0 w4)∧(∀k,k<w1.heap.size→k≠b→s.v.ownBlock≠some k→w4.heap[k]? =w1.heap[k]?)∧w1.heap.size<w4.heap.size∧(∀k,(Value.slice a' (s.n+1) c').ownBlock=some k→s.v.ownBlock=some k∨w1.heap.size≤k):=by
 have hlt:b<w1.heap.size:=(Array.getElem?_eq_some_iff.1 hblk).1;obtain⟨a',c',w3,hr,hown',hg,hnb⟩:=iw (P:=P) t e ht hi hzs hsz hown news hl h1 hbytes h63 (by omega);have hkeep:∀k,k<w1.heap.size→s.v.ownBlock≠some k→w3.heap[k]? =w1.heap[k]? :=fun k hk hne=>se hg hk (fun e=>hne e.symm);have hblk3:w3.heap[b]? =some (.cells c T (0,0)):=by rw [hkeep b hlt hoff];exact hblk
 have hoff':(Value.slice a' (s.n+1) c').ownBlock≠some b:=by
  rcases hnb with h |h
  ·rw [h];exact hoff
  ·rw [h];intro e;cases e;omega
 have hsize:=ut hg;refine⟨a',c',w3,hr,⟨c[jj],?_⟩,be hblk3,?_⟩
 ·rw [aH hblk3];simp [hjj]
 ·rintro w4 rfl;refine⟨bF hblk3 _,bD hown' _ (by rw [av];exact hoff'),hoff',fun w0 hb=>bv (fi hb hown hg (by omega)) hBb _,fun k hk hkb hne=>?_,?_⟩
  ·rw [aq (by rw [av];exact hkb)];exact hkeep k hk hne
  ·rw [ba];exact⟨by omega,fun k hk=>by
    rcases hnb with h |h
    ·rw [h]at hk;exact .inl hk
    ·rw [h]at hk;cases hk;exact .inr (by omega)⟩
theorem cw (a b:Int):∀v∈ [Value.int .i64 a,Value.int .i64 b],v.oneCell'=true:=by
 intro v hv;simp only [List.mem_cons,List.not_mem_nil,or_false]at hv;rcases hv with rfl |rfl<;>rfl
theorem cS {w:World} {B:Nat} {e:TypeId} {sz n:Nat} {v:Value} {xs:List Value} {r:Nat} {κ:Type} {kv:κ→Value} {m:List (κ×Value)} (h:w.ownsRow B e sz v n xs) (hm:br kv w r m):v.ownBlock≠some r:=by
 intro hb;obtain⟨es,clock,hm,_⟩:=hm;rcases h.2 with⟨rfl,_⟩ |⟨g,cap,cur,rfl,_,hg,_⟩
 ·cases hb
 ·cases hb;rw [hm]at hg;cases hg
theorem nV {P:Program} {src dst e:TypeId} (hs:P.underlying src=some (.slice e)) (he:P.underlying e=some (.int .u8)) (hd:P.underlying dst=some .string) (w:World) (i:Nat) (hi:i<256):
  (convert src dst (.slice (some (nb w)) 1 1)).run P (w.alloc (.cells #[.int .u8 (i:Int)] e))= .ok (.string (str [UInt8.ofNat i])) (w.alloc (.cells #[.int .u8 (i:Int)] e)):=by
 have hn:(UInt8.ofNat i).toNat=i:=by simp;omega
 refine iO hs he hd (base:=w.heap.size) (l:=[UInt8.ofNat i]) ⟨by simp [Lib.byteCells],.inr ⟨w.heap.size,1,_,rfl,Nat.le_refl _,ap w _,Nat.le_refl _,by decide,by simp,by simp [Lib.byteCells,hn]⟩⟩
abbrev aT:=Bs×(Int×Int)
def gr (e:aT):List Value:=[.string (str e.1),.int .i64 e.2.1,.int .i64 e.2.2]
def mm (es:List aT):List (Bs×Value):=es.zipIdx.map fun x=>(x.1.1,.int .i64 (x.2:Int))
def m' (es:List aT):List ((Int×Int)×Value):=((es.drop 256).zipIdx 256).map fun x=>(x.1.2,.int .i64 (x.2:Int))
def cA (i:Nat):aT:=([UInt8.ofNat i],(-1, -1))
def bG:List aT:=(List.range 256).map cA
theorem ur (es:List aT) (e:aT):mm (es++ [e])=mm es++ [(e.1,.int .i64 (es.length:Int))]:=by simp [mm,List.zipIdx_append]
theorem FC (es:List aT) (e:aT) (h:256≤es.length):m' (es++ [e])=m' es++ [(e.2,.int .i64 (es.length:Int))]:=by
 have hl:256+(es.length-256)=es.length:=by omega
 simp only [m',List.drop_append_of_le_length h,List.zipIdx_append,List.map_append,List.length_drop,hl,List.zipIdx_cons,List.zipIdx_nil,List.map_cons,List.map_nil]
theorem tj (es:List aT) (h:es.length≤256):m' es= []:=by simp [m',List.drop_eq_nil_of_le h]
theorem oW {s:Bs} {es:List aT}:fh s (mm es)=none↔∀e∈es,e.1≠s:=by
 rw [vf];constructor
 ·intro h e he;obtain⟨i,hi,rfl⟩:=List.getElem_of_mem he;exact h (es[i].1,.int .i64 (i:Int)) (by
   simp only [mm,List.mem_map];exact⟨(es[i],i),by rw [List.mem_zipIdx_iff_getElem?];simp [hi],rfl⟩)
 ·intro h p hp;simp only [mm,List.mem_map]at hp;obtain⟨⟨e,i⟩,hi,rfl⟩:=hp;rw [List.mem_zipIdx_iff_getElem?]at hi;exact h e (List.mem_of_getElem? hi)
theorem AA {m:Int×Int}:∀(l:List aT) (k:Nat),fh m ((l.zipIdx k).map fun x=>(x.1.2,Value.int .i64 (x.2:Int)))=((l.map (·.2)).idxOf? m).map fun i=>Value.int .i64 ((k+i:Nat):Int)
 | [],k=>rfl
 |e::l,k=>by
  simp only [List.zipIdx_cons,List.map_cons,fh,List.idxOf?_cons];by_cases h:m=e.2
  ·simp [h]
  ·rw [if_neg h,AA l (k+1)];have:(e.2==m)=false:=by simp;exact fun e'=>h e'.symm
   rw [this];simp only [Bool.false_eq_true,if_false,Option.map_map];congr 1;funext i;simp;omega
def ao (es:List aT):List (Int×Int):=(es.drop 256).map (·.2)
theorem F7 (m:Int×Int) (es:List aT):fh m (m' es)=((ao es).idxOf? m).map fun i=>Value.int .i64 ((256+i:Nat):Int):=AA _ 256
abbrev lg:TypeId:=261
abbrev Cs:TypeId:=300
abbrev qX:TypeId:=258
abbrev EK:TypeId:=205
abbrev Mg:TypeId:=259
theorem sL:Tryz.prog.underlying qX=some (.slice Cs):=by kernel_rfl
theorem uo:(Tryz.prog.info? Cs).map (fun i=>(i.zero,i.size,i.bytes))=some (some (.agg #[.string ⟨#[]⟩,.int .i64 0,.int .i64 0]),3,32):=by kernel_rfl
theorem gw:Tryz.prog.underlying EK=some (.map 9 bh):=by kernel_rfl
theorem EI:Tryz.prog.underlying Mg=some (.map mh bh):=by kernel_rfl
theorem en:(Tryz.prog.info? bh).map (·.zero)=some (some (.int .i64 0)):=by kernel_rfl
theorem pB:kF Tryz.prog 9 Bs dp:=G8 (by kernel_rfl)
theorem nI:kF Tryz.prog bh Int dJ:=HC (by kernel_rfl)
theorem K6:kF Tryz.prog mh (Int×Int) dE:=by
 refine F_ (fs:=bg (Tryz.prog.underlying mh)) (by kernel_rfl) (by kernel_rfl) (fun e k w=>?_);cases e<;>kernel_rfl
structure Mi (w:World) (B p:Nat) (l:Sl) (mb mp:Nat) (most:Int) (es:List aT):Prop where
 blk:w.heap[p]? =some (.cells #[l.v,.map (some mb),.map (some mp),.int .i64 most] lg (0,0))
 row:w.ownsRow B Cs 3 l.v l.n (es.flatMap gr)
 len:l.n=es.length
 off:l.v.ownBlock≠some p
 bytes:br dp w mb (mm es)
 pairs:br dE w mp (m' es)
 bp:B≤p
 bb:B≤mb
 bm:B≤mp
 ne:mb≠mp
def gW (w:World) (B p:Nat) (es:List aT):Prop:=∃l mb mp most,Mi w B p l mb mp most es∧1≤most∧most≤64∧∀e∈es,(e.1.length:Int)≤most
def dl (w:World) (p:Nat) (es:List aT):Prop:=∃(l:Sl) (mb mp:Nat) (most:Int),w.heap[p]? =some (.cells #[l.v,.map (some mb),.map (some mp),.int .i64 most] lg (0,0))∧l.n=es.length∧Rw gr 3 w l.a es∧br dp w mb (mm es)∧br dE w mp (m' es)∧most≤64∧∀e∈es,(e.1.length:Int)≤most
theorem dl.on {w w':World} {p:Nat} {es:List aT} (h:dl w p es) (hb:Below w.heap.size w w'):dl w' p es:=by
 obtain⟨l,mb,mp,most,h1,h2,h3,h4,h5,h6⟩:=h;exact⟨l,mb,mp,most,aj hb h1,h2,h3.on hb,h4.on hb,h5.on hb,h6⟩
theorem dl.lt {w:World} {p:Nat} {es:List aT} (h:dl w p es):p<w.heap.size:=by
 obtain⟨l,mb,mp,most,h1,_⟩:=h;exact(Array.getElem?_eq_some_iff.1 h1).1
theorem sU (e:aT):(gr e).length=3:=rfl
theorem gW.is {w:World} {B p:Nat} {es:List aT} (h:gW w B p es):dl w p es:=by
 obtain⟨l,mb,mp,most,h,_,hm⟩:=h;exact⟨l,mb,mp,most,h.blk,h.len,(Rw.of_own h.row sU (by decide)).1,h.bytes,h.pairs,hm⟩
theorem gW.on {w w':World} {B p:Nat} {es:List aT} (h:gW w B p es) (hb:Below w.heap.size w w'):gW w' B p es:=by
 obtain⟨l,mb,mp,most,h,hm⟩:=h;exact⟨l,mb,mp,most,⟨aj hb h.blk,aF h.row hb,h.len,h.off,h.bytes.on hb,h.pairs.on hb,h.bp,h.bb,h.bm,h.ne⟩,hm⟩
theorem ai (p:Nat) (w:World) {c:Array Value} {e:TypeId} {fz:Nat×Nat} (h:w.heap[p]? =some (.cells c e fz)) (j:Nat):w.cell? ((⟨p,0,none⟩:Addr).add j)=c[j]? :=by rw [aB,Nat.zero_add,aZ h]
theorem fD (w:World) (p:Nat) (es:List aT) (h:dl w p es):CP 116 #[.pointer (some ⟨p,0,none⟩)] w fun e w'=>e= .returned (.int .i64 es.length)∧w'=w:=by
 obtain⟨l,mb,mp,most,h1,h2,_⟩:=h;refine aN (Ai (some ⟨p,0,none⟩) w) ?_;exact ac.no rfl (af.mk _ rfl ⟨l.a,l.n,l.c,by rw [ai p w h1];rfl,by rw [h2],rfl⟩)
def bu (es:List aT) (id:Int):Prop:=0≤id∧id<es.length
instance (es:List aT) (id:Int):Decidable (bu es id):=by unfold bu;infer_instance
theorem iQ (w:World) (p:Nat) (es:List aT) (h:dl w p es) (id:Int):CP 210 #[.pointer (some ⟨p,0,none⟩),.int .i64 id] w fun e w'=>e= .returned (.bool (decide (bu es id)))∧w'=w:=by
 refine aJ (BR (some ⟨p,0,none⟩) id w (fun v w'=>v= .bool (decide (bu es id))∧w'=w) ?_) (by rintro v w' ⟨rfl,h⟩;exact⟨rfl,h⟩);refine ac.mk ?_ ?_
 ·intro h0;have h0:=of_decide_eq_true h0;refine(fD w p es h).mono ?_;rintro e w' ⟨rfl,hw⟩;subst hw;refine⟨_,rfl,?_,rfl⟩;congr 1;exact decide_eq_decide.2 ⟨fun h=>⟨h0,h⟩,fun h=>h.2⟩
 ·intro h0;have h0:=of_decide_eq_false h0;refine⟨?_,rfl⟩;rw [decide_eq_false];exact fun h=>h0 h.1
def bk (es:List aT) (id:Int):Bs:=((es[id.toNat]?).map (·.1)).getD []
theorem e_ {es:List aT} {id:Int} (h:bu es id):∃e,es[id.toNat]? =some e∧bk es id=e.1:=by
 have hlt:id.toNat<es.length:=by have:=h.1;have:=h.2;omega
 exact⟨es[id.toNat],List.getElem?_eq_getElem hlt,by simp [bk,List.getElem?_eq_getElem hlt]⟩
theorem jf (w:World) (p:Nat) (es:List aT) (h:dl w p es) (id:Int):CP 163 #[.pointer (some ⟨p,0,none⟩),.int .i64 id] w fun e w'=>e= .returned (.tuple #[.string (str (if bu es id then bk es id else [])),.bool (decide (bu es id))])∧w'=w:=by
 refine aN (zw (some ⟨p,0,none⟩) id w) ?_;refine(iQ w p es h id).mono ?_;rintro e w' ⟨rfl,hw⟩;subst hw;refine⟨_,rfl,ac.mk ?_ ?_⟩
 ·intro h0;have h0:¬bu es id:=by simpa using h0
  rw [if_neg h0,decide_eq_false h0];exact⟨rfl,rfl⟩
 ·intro h0;have h0:bu es id:=by simpa using h0
  obtain⟨l,mb,mp,most,h1,h2,h3,_⟩:=h;obtain⟨x,hx,hb⟩:=e_ h0;obtain⟨a,ha,_,hc⟩:=h3 _ x hx;have:=h0.1;have:=h0.2;refine af.mk _ rfl ⟨l.a,l.n,l.c,by rw [ai p _ h1];rfl,af.mk a ha ⟨by omega,by omega,str x.1,hc 0 _ rfl,?_⟩⟩;rw [if_pos h0,decide_eq_true h0,hb];exact⟨rfl,rfl⟩
theorem nD (w:World) (p:Nat) (es:List aT) (h:dl w p es) (a b:Int):CP 285 #[.pointer (some ⟨p,0,none⟩),.int .i64 a,.int .i64 b] w fun e w'=>e= .returned (.tuple #[.int .i64 ((((ao es).idxOf? (a,b)).map fun i=>((256+i:Nat):Int)).getD 0),.bool ((ao es).idxOf? (a,b)).isSome])∧Below w.heap.size w w':=by
 obtain⟨l,mb,mp,most,h1,h2,h3,h4,h5,_⟩:=h;refine aN (BB (some ⟨p,0,none⟩) a b w) ?_;refine ac.no rfl (af.mk _ rfl ⟨some mp,by rw [ai p w h1];rfl,?_⟩);have hl:=eS K6 EI en h5 (a,b);rw [F7]at hl;cases hx:(ao es).idxOf? (a,b)with
 |none=>rw [hx]at hl;exact⟨0,false,w,hl,rfl,Below.refl _ _⟩
 |some i=>rw [hx]at hl;exact⟨_,true,w,hl,rfl,Below.refl _ _⟩
def bn (es:List aT) (id:Int):Int×Int:=((es[id.toNat]?).map (·.2)).getD (-1, -1)
def Ad (es:List aT) (id:Int):Value:=if bu es id∧bn es id≠(-1, -1)then .tuple #[.agg #[.int .i64 (bn es id).1,.int .i64 (bn es id).2],.bool true]else .tuple #[.agg #[.int .i64 0,.int .i64 0],.bool false]
theorem eY (w:World) (p:Nat) (es:List aT) (h:dl w p es) (id:Int):CP 309 #[.pointer (some ⟨p,0,none⟩),.int .i64 id] w fun e w'=>e= .returned (Ad es id)∧Below w.heap.size w w':=by
 refine aN (yi (some ⟨p,0,none⟩) id w) ?_;rintro w1 hw1;have hb:Below w.heap.size w w1:=by subst hw1;exact ah _ _
 have h':=h.on hb;have store:∀(a b:Int) (k:World→Prop),(∀w3,w3.cell? (nb w)=some (Value.int .i64 a)∧w3.cell? ((nb w).add 1)=some (Value.int .i64 b)∧True→Below w.heap.size w w3→k w3)→ax w1 (nb w) k [Value.int .i64 a,Value.int .i64 b] 0:=by
  intro a b k hk;refine aS [.int .i64 0,.int .i64 0] [.int .i64 a,.int .i64 b] rfl (cw a b) w1 hw1 ?_;intro w3 h3 _ hB;exact hk w3 ⟨by have:=ai _ _ h3 0;rw [au]at this;exact this,ai _ _ h3 1,trivial⟩ hB
 refine(iQ w1 p es h' id).mono ?_;rintro e w2 ⟨rfl,hw⟩;subst hw;refine⟨_,rfl,ac.mk ?_ ?_⟩
 ·intro h0;have h0:¬bu es id:=by simpa using h0
  refine store 0 0 _ fun w3 h3 hB=>⟨0,0,h3,?_,hB⟩;rw [Ad,if_neg fun h=>h0 h.1]
 ·intro h0;have h0:bu es id:=by simpa using h0
  obtain⟨l,mb,mp,most,h1,h2,h3,_⟩:=h';have hlt:id.toNat<es.length:=by have:=h0.1;have:=h0.2;omega
  have hp:bn es id=es[id.toNat].2:=by simp [bn,List.getElem?_eq_getElem hlt]
  obtain⟨a,ha,_,hc⟩:=h3 _ _ (List.getElem?_eq_getElem hlt);have:=h0.1;have:=h0.2;have hc1:=hc 1 _ rfl;have hc2:w2.cell? (((a.add (id.toNat*3)).add 1).add 1)=some (.int .i64 es[id.toNat].2.2):=by
   have:=hc 2 _ rfl;rwa [show(2:Nat)=1+1 from rfl, ←Addr.add_add]at this
  refine af.mk _ rfl ⟨l.a,l.n,l.c,by rw [ai p _ h1];rfl,af.mk a ha ⟨by omega,by omega,_,_,⟨hc1,hc2,trivial⟩,ac.mk ?_ ?_⟩⟩
  ·intro hm;have hm:es[id.toNat].2=(-1, -1):=by
    simp only [Bool.and_true,Bool.and_eq_true,beq_iff_eq]at hm;exact Prod.ext hm.1 hm.2
   refine store 0 0 _ fun w3 h3 hB=>⟨0,0,h3,?_,hB⟩;rw [Ad,if_neg fun h=>h.2 (hp.trans hm)]
  ·intro hm;have hm:es[id.toNat].2≠(-1, -1):=by
    intro e;rw [e]at hm;simp at hm
   refine af.mk _ rfl ⟨l.a,l.n,l.c,by rw [ai p _ h1];rfl,af.mk a ha ⟨by omega,by omega,_,_,⟨hc1,hc2,trivial⟩,?_⟩⟩;refine store _ _ _ fun w3 h3 hB=>⟨_,_,h3,?_,hB⟩;rw [Ad,if_pos ⟨h0,by rw [hp];exact hm⟩,hp]
structure iD (es:List aT):Prop where
 low:es.take 256=bG
 len:256≤es.length
 most:es.length≤1000
 step:∀(i:Nat) (e:aT),es[i]? =some e→256≤i→(0≤e.2.1∧e.2.1<i)∧(0≤e.2.2∧e.2.2<i)∧e.1=bk es e.2.1++bk es e.2.2
 short:∀e∈es,e.1.length≤64
 nodup:(es.map (·.1)).Nodup
def bR (es:List aT) (m:Int×Int):Bs:=bk es m.1++bk es m.2
def bP (es:List aT) (m:Int×Int):Except Int aT:=
 if ¬(bu es m.1∧bu es m.2)then .error 4
 else if 64< (bR es m).length then .error 3
 else if 1000≤es.length then .error 5
 else if bR es m∈es.map (·.1)then .error 10
 else .ok (bR es m,m)
theorem gX {es:List aT} (x:aT) {id:Int} (h:bu es id):bk (es++ [x]) id=bk es id:=by
 have:=h.1;have:=h.2;simp only [bk];rw [List.getElem?_append_left (by omega)]
theorem mg {es:List aT} (h:iD es) {m:Int×Int} {x:aT} (hx:bP es m= .ok x):iD (es++ [x])∧x.2=m∧bu es m.1∧bu es m.2:=by
 unfold bP at hx;split at hx
 ·cases hx
 ·rename_i h1;split at hx
  ·cases hx
  ·rename_i h2;split at hx
   ·cases hx
   ·rename_i h3;split at hx
    ·cases hx
    ·rename_i h4;cases hx;have h1:bu es m.1∧bu es m.2:=Classical.not_not.1 h1;refine⟨⟨by rw [List.take_append_of_le_length h.len];exact h.low,by have:=h.len;simp;omega,by simp;omega,fun i e hi h256=>?_,fun e he=>?_,?_⟩,rfl,h1.1,h1.2⟩
     ·rcases Nat.lt_trichotomy i es.length with hl |hl |hl
      ·rw [List.getElem?_append_left hl]at hi;obtain⟨ha,hb,hc⟩:=h.step i e hi h256;refine⟨ha,hb,?_⟩;rw [gX _ ⟨ha.1,by omega⟩,gX _ ⟨hb.1,by omega⟩];exact hc
      ·subst hl;simp at hi;subst hi;refine⟨h1.1,h1.2,?_⟩;rw [gX _ h1.1,gX _ h1.2];rfl
      ·have:=(List.getElem?_eq_some_iff.1 hi).1;simp at this;omega
     ·rcases List.mem_append.1 he with he |he
      ·exact h.short e he
      ·rw [List.mem_singleton.1 he];exact Nat.le_of_not_lt h2
     ·rw [List.map_append,List.nodup_append];refine⟨h.nodup,by simp,fun a ha b hb=>?_⟩;simp at hb;subst hb;intro e;subst e;exact h4 ha
theorem HM {es:List aT} (h:iD es) {m:Int×Int} (hm:bR es m∉es.map (·.1)):fh m (m' es)=none:=by
 rw [vf];intro q hq e;simp only [m',List.mem_map]at hq;obtain⟨⟨x,i⟩,hi,rfl⟩:=hq;simp only at e;have hi:=(List.mem_zipIdx_iff_le_and_getElem?_sub.1 hi);simp only [List.getElem?_drop]at hi;have hx:es[i]? =some x:=by
  have:=hi.2;rwa [show 256+(i-256)=i by omega]at this
 obtain⟨_,_,hc⟩:=h.step i x hx hi.1;apply hm;rw [bR, ←e, ←hc];exact List.mem_map.2 ⟨x,List.mem_of_getElem? hx,rfl⟩
theorem tO {s:Bs} {es:List aT} {v:Value} (h:fh s (mm es)=some v):∃n:Int,v= .int .i64 n:=by
 have:∀(m:List (Bs×Value)),(∀p∈m,∃n:Int,p.2= .int .i64 n)→fh s m=some v→∃n:Int,v= .int .i64 n:=by
  intro m;induction m with
  |nil=>intro _ h;cases h
  |cons p m ih=>
   intro hm h;simp only [fh]at h;split at h
   ·cases h;exact hm p (by simp)
   ·exact ih (fun q hq=>hm q (by simp [hq])) h
 refine this _ (fun p hp=>?_) h;simp only [mm,List.mem_map]at hp;obtain⟨x,_,rfl⟩:=hp;exact⟨_,rfl⟩
theorem dx {w:World} {p r:Nat} {c:Array Value} {T:TypeId} {fz:Nat×Nat} (h:w.heap[p]? =some (.cells c T fz)) {κ:Type} {kv:κ→Value} {m:List (κ×Value)} (hm:br kv w r m):r≠p:=by
 rintro rfl;obtain⟨es,clock,hm,_⟩:=hm;rw [h]at hm;cases hm
theorem xf {P:Program} (a b:Int) (ts:Array TypeId) (t:TypeId) (w:World):(Builtin.max_ ts t #[.int .i64 a,.int .i64 b]).run P w= .ok (.int .i64 (if b>a then b else a)) w:=by
 simp [Builtin.max_,Builtin.max2]
def vJ (w:World) (B p:Nat) (es:List aT) (m:Int×Int) (v:Value) (w':World):Prop:=Below B w w'∧match bP es m with
 | .error n=>v= .tuple #[.int .i64 0,.int .i64 n]∧gW w' B p es
 | .ok x=>v= .tuple #[.int .i64 es.length,.int .i64 0]∧gW w' B p (es++ [x])
theorem ql (w:World) (B p:Nat) (es:List aT) (h:gW w B p es) (hok:iD es) (hB:B≤w.heap.size) (m:Int×Int):
  CP 240 #[.pointer (some ⟨p,0,none⟩),.agg #[.int .i64 m.1,.int .i64 m.2]] w fun e w'=>∃v,e= .returned v∧vJ w B p es m v w':=by
 refine xQ (some ⟨p,0,none⟩) m.1 m.2 w (vJ w B p es m) ?_;rintro w1 hw1;have hb1:Below w.heap.size w w1:=by subst hw1;exact ah _ _
 have h1:=h.on hb1;have hcell:∀j,w1.cell? ((nb w).add j)=(#[Value.int .i64 m.1,Value.int .i64 m.2]:Array Value)[j]? :=by
  intro j;subst hw1;rw [aB,Nat.zero_add,aV]
 refine ac.no rfl ⟨m.1,hcell 0,?_⟩;refine(iQ w1 p es h1.is m.1).mono ?_;rintro e w2 ⟨rfl,hw⟩;subst hw;have fail:∀(n:Int) (w':World),bP es m= .error n→Below w2.heap.size w2 w'→vJ w B p es m (.tuple #[.int .i64 0,.int .i64 n]) w':=by
  intro n w' hn hb;refine⟨(ae hb1 hb).mono hB,?_⟩;rw [hn];exact⟨rfl,h1.on hb⟩
 refine⟨_,rfl,ac.mk (fun h0=>?_) fun h0=>⟨m.2,hcell 1,?_⟩⟩
 ·have h0:¬bu es m.1:=by simpa using h0
  exact fail 4 _ (by rw [bP,if_pos fun h=>h0 h.1]) (Below.refl _ _)
 have i1:bu es m.1:=by simpa using h0
 refine(iQ w2 p es h1.is m.2).mono ?_;rintro e w3 ⟨rfl,hw⟩;subst hw;refine⟨_,rfl,ac.mk (fun h0=>?_) fun h0=>?_⟩
 ·have h0:¬bu es m.2:=by simpa using h0
  exact fail 4 _ (by rw [bP,if_pos fun h=>h0 h.2]) (Below.refl _ _)
 have i2:bu es m.2:=by simpa using h0
 rintro w4 hw4;have hb4:Below w3.heap.size w3 w4:=by subst hw4;exact(Below.refl _ _).drew
 have hh4:w4.heap=w3.heap:=by subst hw4;rfl
 obtain⟨l,mb,mp,most,hT,hm0,hm1,hm2⟩:=h1.on hb4;have hcell4:∀j,w4.cell? ((nb w).add j)=(#[Value.int .i64 m.1,Value.int .i64 m.2]:Array Value)[j]? :=fun j=>by
  rw [hb4.cell (by rw [av];subst hw1;rw [aA];exact Nat.lt_succ_self _)];exact hcell j
 have hrow:=(Rw.of_own hT.row sU (by decide)).1;obtain⟨x1,hx1,e1⟩:=e_ i1;obtain⟨x2,hx2,e2⟩:=e_ i2;obtain⟨a1,ha1,_,hc1⟩:=hrow _ x1 hx1;obtain⟨a2,ha2,_,hc2⟩:=hrow _ x2 hx2;have hlen:=hT.len;have:=i1.1;have:=i1.2;have:=i2.1;have:=i2.2;have s1:=hok.short x1 (List.mem_of_getElem? hx1);have s2:=hok.short x2 (List.mem_of_getElem? hx2);have hlen0:w4.cell? ((⟨p,0,none⟩:Addr).add 0)=some (.slice l.a l.n l.c):=by rw [ai p _ hT.blk];rfl
 refine af.mk _ rfl ⟨l.a,l.n,l.c,hlen0,m.1,hcell4 0,af.mk a1 ha1 ⟨by omega,by omega,str x1.1,hc1 0 _ rfl,af.mk _ rfl ⟨l.a,l.n,l.c,hlen0,m.2,hcell4 1,af.mk a2 ha2 ⟨by omega,by omega,str x2.1,hc2 0 _ rfl,?_⟩⟩⟩⟩;have hj:str x1.1++str x2.1=str (bR es m):=by rw [sW,bR,e1,e2]
 have hjl:(bR es m).length=x1.1.length+x2.1.length:=by rw [bR,e1,e2,List.length_append]
 rw [hj];refine⟨by rw [aR,aR];show _≤(9223372036854775807:Int);omega,ac.mk (fun h0=>?_) fun h0=>?_⟩
 ·have h0:=of_decide_eq_true h0;rw [aR]at h0;exact fail 3 _ (by rw [bP,if_neg (Classical.not_not.2 ⟨i1,i2⟩),if_pos (by omega)]) hb4
 have hs:=of_decide_eq_false h0;rw [aR]at hs;have hs:¬64< (bR es m).length:=by omega
 refine af.mk _ rfl ⟨l.a,l.n,l.c,hlen0,ac.mk (fun h0=>?_) fun h0=>?_⟩
 ·have h0:=of_decide_eq_true h0;exact fail 5 _ (by rw [bP,if_neg (Classical.not_not.2 ⟨i1,i2⟩),if_neg hs,if_pos (by omega)]) hb4
 have h0:=of_decide_eq_false h0;have hk:¬1000≤es.length:=by omega
 refine af.mk _ rfl ⟨some mb,by rw [ai p _ hT.blk];rfl,?_⟩;have hl:=eS pB gw en hT.bytes (bR es m);cases hx:fh (bR es m) (mm es)with
 |some v=>
  obtain⟨n,rfl⟩:=tO hx;rw [hx]at hl;refine⟨n,true,w4,hl,ac.yes rfl ?_⟩;have hmem:bR es m∈es.map (·.1):=by
   rcases Classical.em (bR es m∈es.map (·.1))with h |h
   ·exact h
   ·have:fh (bR es m) (mm es)=none:=oW.2 fun e he he'=>h (List.mem_map.2 ⟨e,he,he'⟩);rw [this]at hx;cases hx
  exact fail 10 _ (by rw [bP,if_neg (Classical.not_not.2 ⟨i1,i2⟩),if_neg hs,if_neg hk,if_pos hmem]) hb4
 |none=>
  rw [hx]at hl;have hnew:bR es m∉es.map (·.1):=fun h=>by
   obtain⟨e,he,he'⟩:=List.mem_map.1 h;exact oW.1 hx e he he'
  have hadd:bP es m= .ok (bR es m,m):=by rw [bP,if_neg (Classical.not_not.2 ⟨i1,i2⟩),if_neg hs,if_neg hk,if_neg hnew]
  refine⟨0,false,w4,hl,ac.no rfl (af.mk _ rfl ⟨l.a,l.n,l.c,hlen0,?_⟩)⟩;rintro w6 hw6;have hh6:w6.heap=w4.heap:=by subst hw6;rfl
  have hb6:Below w4.heap.size w4 w6:=by subst hw6;exact(Below.refl _ _).drew
  have hcell6:∀j,w6.cell? ((nb w).add j)=(#[Value.int .i64 m.1,Value.int .i64 m.2]:Array Value)[j]? :=fun j=>by
   rw [hb6.cell (by rw [av,hh4];subst hw1;rw [aA];exact Nat.lt_succ_self _)];exact hcell4 j
  have hblk6:w6.heap[p]? =some (.cells #[l.v,.map (some mb),.map (some mp),.int .i64 most] lg (0,0)):=by rw [hh6];exact hT.blk
  have hsz6:w6.heap.size=w.heap.size+1:=by rw [hh6,hh4];subst hw1;rw [aA]
  have hmbp:mb≠p:=dx hT.blk hT.bytes;have hmpp:mp≠p:=dx hT.blk hT.pairs;have hrow6:=aF hT.row hb6;obtain⟨a',c',w8,hr8,hu8,hf8,h9⟩:=fk (P:=Tryz.prog) (s:=l) 0 hblk6 (show 0<4 by decide) hrow6 hT.off hT.bp qX sL uo rfl (by decide) (gr (bR es m,m)) rfl (by
   intro v hv;simp only [gr,List.mem_cons,List.not_mem_nil,or_false]at hv;rcases hv with rfl |rfl |rfl<;>rfl) (by omega) (by omega)
  refine af.mk _ rfl ⟨l.a,l.n,l.c,by rw [ai p _ hblk6];rfl,m.1,m.2,⟨by have:=hcell6 0;rwa [au]at this,hcell6 1,trivial⟩,?_⟩;rintro w7 rfl;refine⟨⟨by rw [(ah w6 _).cell (by rw [av];exact(Array.getElem?_eq_some_iff.1 hblk6).1),ai p _ hblk6];rfl,trivial⟩,a',l.n+1,c',w8,hr8,af.mk _ rfl ⟨rfl,hu8,hf8,?_⟩⟩;intro w9 hw9;obtain⟨hblk9,hrow9,hoff9,hB9,hkeep9,hsz9⟩:=h9 w9 hw9;rintro w10 hw10;have hh10:w10.heap=w9.heap:=by subst hw10;rfl
  have hblk10:w10.heap[p]? =some (.cells #[.slice a' (l.n+1) c',.map (some mb),.map (some mp),.int .i64 most] lg (0,0)):=by rw [hh10];exact hblk9
  have hmbl:mb<w6.heap.size:=by rw [hh6];exact hT.bytes.lt
  have hmpl:mp<w6.heap.size:=by rw [hh6];exact hT.pairs.lt
  have hbm6:br dp w6 mb (mm es):=hT.bytes.same (by rw [hh6]);have hpm6:br dE w6 mp (m' es):=hT.pairs.same (by rw [hh6]);have hbm10:br dp w10 mb (mm es):=hbm6.same (by rw [hh10];exact hkeep9 mb hmbl hmbp (cS hrow6 hbm6));have hpm10:br dE w10 mp (m' es):=hpm6.same (by rw [hh10];exact hkeep9 mp hmpl hmpp (cS hrow6 hpm6));have hloc:w6.heap[w.heap.size]? =some (.cells #[Value.int .i64 m.1,Value.int .i64 m.2] 85):=by
   rw [hh6,hh4];subst hw1;exact ap _ _
  have hlw:∀k,k<w.heap.size→w6.heap[k]? =w.heap[k]? :=fun k hk=>by rw [hh6,hh4];exact hb1.block k hk
  have hpw:p<w.heap.size:=h.is.lt;have hmbw:mb≠w.heap.size:=by
   rintro e;exact absurd (dx hloc hbm6) (fun h=>h e)
  have hmpw:mp≠w.heap.size:=by
   rintro e;exact absurd (dx hloc hpm6) (fun h=>h e)
  have hrw:l.v.ownBlock≠some w.heap.size:=by
   intro e;obtain⟨l0,_,_,_,hT0,_⟩:=h;have e1:l0=l:=by
    have:=hlw p hpw;rw [hblk6,hT0.blk]at this;have:=Option.some.inj this;simp only [Obj.cells.injEq,Array.mk.injEq,List.cons.injEq,Value.slice.injEq]at this;obtain⟨⟨⟨q1,q2,q3⟩,_⟩,_⟩:=this;cases l0;cases l;simp_all
   subst e1;have:=cB hT0.row _ e;omega
  have hloc9:w9.heap[w.heap.size]? =some (.cells #[Value.int .i64 m.1,Value.int .i64 m.2] 85):=by
   rw [hkeep9 w.heap.size (by omega) (by omega) hrw];exact hloc
  have agg:∀w':World,w'.heap[w.heap.size]? =w9.heap[w.heap.size]? →w'.cell? (nb w)=some (Value.int .i64 m.1)∧w'.cell? ((nb w).add 1)=some (Value.int .i64 m.2)∧True:=by
   intro w' hw';rw [hloc9]at hw';exact⟨by have:=ai _ _ hw' 0;rwa [au]at this,ai _ _ hw' 1,trivial⟩
  obtain⟨k1,w11,hr11,hp11,hs11,hz11,hB11⟩:=gC pB gw en hbm10 (bR es m) hx;obtain⟨w12,hr12,hm12,hs12,hz12,hB12⟩:=gv EK hp11 (.int .i64 (l.n:Int));have hpm12:br dE w12 mp (m' es):=hpm10.same (by rw [hs12 mp hT.ne.symm,hs11 mp hT.ne.symm]);obtain⟨k2,w13,hr13,hp13,hs13,hz13,hB13⟩:=gC K6 EI en hpm12 m (HM hok hnew);obtain⟨w14,hr14,hm14,hs14,hz14,hB14⟩:=gv Mg hp13 (.int .i64 (l.n:Int));have h10:∀k,k≠mb→k≠mp→w14.heap[k]? =w9.heap[k]? :=fun k h1 h2=>by rw [hs14 k h2,hs13 k h2,hs12 k h1,hs11 k h1,hh10]
  refine af.mk _ rfl ⟨some mb,by rw [ai p _ hblk10];rfl,af.mk _ rfl ⟨some mp,by rw [ai p _ hblk10];rfl,m.1,m.2,agg w10 (by rw [hh10]),0,k1,w11,hr11,agg w11 (by rw [hs11 _ (Ne.symm hmbw),hh10]),w12,hr12,agg w12 (by rw [hs12 _ (Ne.symm hmbw),hs11 _ (Ne.symm hmbw),hh10]),0,k2,w13,hr13,w14,hr14,?_⟩⟩;have hblk14:w14.heap[p]? =some (.cells #[.slice a' (l.n+1) c',.map (some mb),.map (some mp),.int .i64 most] lg (0,0)):=by
   rw [h10 p (Ne.symm hmbp) (Ne.symm hmpp)];exact hblk9
  refine af.mk _ rfl ⟨most,by rw [ai p _ hblk14];rfl,_,w14,xf _ _ _ _ _,af.mk _ rfl ⟨rfl,⟨_,by rw [ai p _ hblk14];rfl⟩,be hblk14,?_⟩⟩;rintro w16 rfl;refine⟨?_,?_⟩
  ·refine bv (hB14 _ _ hT.bm (hB13 _ _ hT.bm (hB12 _ _ hT.bb (hB11 _ _ hT.bb ?_)))) hT.bp _;have:Below B w w9:=hB9 w (((ae hb1 hb4).trans ((hb6.mono (by rw [hh4];subst hw1;rw [aA];omega)))).mono hB);subst hw10;exact this.drew
  ·rw [hadd];refine⟨by rw [hlen],⟨a',l.n+1,c'⟩,mb,mp,_,⟨bF hblk14 _,?_,by simp;omega,hoff9,?_,?_,hT.bp,hT.bb,hT.bm,hT.ne⟩,?_⟩
   ·have hflat:(es++ [(bR es m,m)]).flatMap gr=es.flatMap gr++gr (bR es m,m):=by simp
    rw [hflat];refine bD (aU hrow9 fun k hk=>h10 k ?_ ?_) _ (by rw [av];exact hoff9)
    ·rintro rfl;refine cS hrow9 (?_:br dp w9 _ (mm es)) hk;exact hbm10.same (by rw [hh10])
    ·rintro rfl;refine cS hrow9 (?_:br dE w9 _ (m' es)) hk;exact hpm10.same (by rw [hh10])
   ·rw [ur, ←hlen];exact hm12.same (by rw [aq (by rw [av];exact hmbp),hs14 _ hT.ne,hs13 _ hT.ne])
   ·rw [FC _ _ hok.len, ←hlen];exact hm14.same (by rw [aq (by rw [av];exact hmpp)])
   ·rw [aR];refine⟨by split<;>omega,by split<;>omega,fun e he=>?_⟩
    rcases List.mem_append.1 he with he |he
    ·have:=hm2 e he;split<;>omega
    ·rw [List.mem_singleton.1 he];show((bR es m).length:Int)≤_;split<;>omega
theorem u_ {i j:Nat} (hi:i<256) (hj:j<256) (h:UInt8.ofNat i=UInt8.ofNat j):i=j:=by
 have:=congrArg UInt8.toNat h;simp at this;omega
theorem DJ (w:World):CP 241 #[] w fun e w'=>∃p,e= .returned (.pointer (some ⟨p,0,none⟩))∧gW w' w.heap.size p bG∧Below w.heap.size w w':=by
 refine aN (xe w) ?_;refine⟨some w.heap.size,_,gG _,some (w.alloc (.map #[] 0)).heap.size,_,gG _,?_⟩;rintro w3 hw3;have hz1:(w.alloc (.map #[] 0)).heap.size=w.heap.size+1:=aA _ _;have hz2:((w.alloc (.map #[] 0)).alloc (.map #[] 0)).heap.size=w.heap.size+2:=by rw [aA,hz1]
 have hb3:Below w.heap.size w w3:=by
  subst hw3;exact(((Below.refl _ _).alloc (Nat.le_refl _) _).alloc (by omega) _).alloc (by omega) _
 have hT3:gW w3 w.heap.size (w.heap.size+2) ((List.range 0).map cA):=by
  subst hw3;refine⟨⟨none,0,0⟩,w.heap.size,w.heap.size+1,1,⟨?_,cO _ _ _ _,rfl,(by intro h;cases h),?_,?_,by omega,by omega,by omega,by omega⟩,by omega,by omega,by simp⟩
  ·have:=ap ((w.alloc (.map #[] 0)).alloc (.map #[] 0)) (.cells #[Value.slice none 0 0,Value.map (some w.heap.size),Value.map (some (w.alloc (.map #[] 0)).heap.size),Value.int .i64 1] lg);rw [hz2]at this;rw [this,hz1]
  ·exact(iL (kv:=dp) w).same (by rw [fB _ _ (by omega),fB _ _ (by omega)])
  ·have h0:=iL (kv:=dE) (w.alloc (.map #[] 0));rw [hz1]at h0;exact h0.same (by rw [fB _ _ (by omega)])
 have hp2:nb ((w.alloc (.map #[] 0)).alloc (.map #[] 0))=⟨w.heap.size+2,0,none⟩:=by rw [nb,hz2]
 rw [hp2];intro I hI;have key:=bj (α:=World) 256 (fun i x=>gW x w.heap.size (w.heap.size+2) ((List.range i).map cA)∧Below w.heap.size w x) (fun i x=>I [.int .i64 (i:Int)] x) w3 ⟨hT3,hb3⟩ ?_ ?_
 ·exact key
 ·rintro i hi ih w4 ⟨⟨l,mb,mp,most,hT,hm⟩,hB⟩;refine hI _ _ (ac.yes (by simp;omega) ?_);have hwr:IntKind.wrap .u8 (i:Int)=(i:Int):=di (by show(0:Int)≤_;omega) (by show _≤(255:Int);omega);rw [hwr];rintro w5 rfl;have hb5:=ah w4 (.cells #[Value.int .u8 (i:Int)] 5);refine⟨_,_,nV (P:=Tryz.prog) (by kernel_rfl) (by kernel_rfl) (by kernel_rfl) w4 i hi,?_⟩;have hblk:=aj hb5 hT.blk;refine⟨l.a,l.n,l.c,by rw [ai _ _ hblk];rfl,?_⟩;rintro w7 rfl;have hrow5:=aF hT.row hb5;have hbm5:=hT.bytes.on hb5;have hpm5:=hT.pairs.on hb5;have hlen:l.n=i:=by rw [hT.len];simp
  obtain⟨a',c',w8,hr8,hu8,hf8,h9⟩:=fk (P:=Tryz.prog) (s:=l) 0 hblk (show 0<4 by decide) hrow5 hT.off hT.bp qX sL uo rfl (by decide) (gr (cA i)) rfl (by
   intro v hv;simp only [gr,List.mem_cons,List.not_mem_nil,or_false]at hv;rcases hv with rfl |rfl |rfl<;>rfl) (by omega) (by omega)
  refine⟨a',l.n+1,c',w8,hr8,rfl,hu8,hf8,?_⟩;intro w9 hw9;obtain⟨hblk9,hrow9,hoff9,hB9,hkeep9,hsz9⟩:=h9 w9 hw9;have hmbp:mb≠w.heap.size+2:=dx hblk hbm5;have hmpp:mp≠w.heap.size+2:=dx hblk hpm5;have hbm9:br dp w9 mb (mm ((List.range i).map cA)):=hbm5.same (hkeep9 mb hbm5.lt hmbp (cS hrow5 hbm5));have hpm9:br dE w9 mp (m' ((List.range i).map cA)):=hpm5.same (hkeep9 mp hpm5.lt hmpp (cS hrow5 hpm5));refine⟨some mb,by rw [ai _ _ hblk9];rfl,?_⟩;obtain⟨w10,hr10,hm10,hs10,hz10,hB10⟩:=fo pB gw hbm9 [UInt8.ofNat i] (.int .i64 (i:Int)) (oW.2 fun e he heq=>by
   obtain⟨j,hj,rfl⟩:=List.mem_map.1 he;have hj:=List.mem_range.1 hj;have:=u_ (by omega) hi (List.cons.inj heq).1;omega)
  have hrange:(List.range (i+1)).map cA=(List.range i).map cA++ [cA i]:=by rw [List.range_succ];simp
  refine⟨w10,hr10,Ar.ok64 (by omega) (by omega) (ih w10 ⟨⟨⟨a',l.n+1,c'⟩,mb,mp,most,⟨?_,?_,by simp [hlen],hoff9,?_,?_,hT.bp,hT.bb,hT.bm,hT.ne⟩,hm.1,hm.2.1,?_⟩,?_⟩)⟩
  ·rw [hs10 _ (Ne.symm hmbp)];exact hblk9
  ·rw [hrange];have hflat:((List.range i).map cA++ [cA i]).flatMap gr=((List.range i).map cA).flatMap gr++gr (cA i):=by simp
   rw [hflat];refine aU hrow9 fun k hk=>hs10 k ?_;rintro rfl;exact cS hrow9 hbm9 hk
  ·rw [hrange,ur];simpa [cA]using hm10
  ·rw [hrange,tj _ (by simp;omega)];rw [tj _ (by simp;omega)]at hpm9;exact hpm9.same (hs10 _ (Ne.symm hT.ne))
  ·intro e he;rw [hrange]at he;rcases List.mem_append.1 he with he |he
   ·exact hm.2.2 e he
   ·rw [List.mem_singleton.1 he];exact hm.1
  ·exact hB10 _ _ hT.bb (hB9 w (hB.alloc hB.size _))
 ·rintro w4 ⟨hT,hB⟩;exact hI _ _ (ac.no (by simp) ⟨_,rfl,hT,hB⟩)
theorem sV {i:Nat} {e:aT} (h:bG[i]? =some e):i<256∧e=cA i:=by
 simp only [bG,List.getElem?_map,List.getElem?_range]at h;have hi:i<256:=by
  rcases Nat.lt_or_ge i 256 with h' |h'
  ·exact h'
  ·rw [List.getElem?_eq_none (by simpa using h')]at h;cases h
 rw [List.getElem?_range hi]at h;exact⟨hi,(Option.some.inj h).symm⟩
theorem oQ:iD bG:=by
 refine⟨List.take_of_length_le (by simp [bG]),by simp [bG],by simp [bG],fun i e hi h256=>?_,fun e he=>?_,?_⟩
 ·have:=(sV hi).1;omega
 ·obtain⟨i,hi,rfl⟩:=List.getElem_of_mem he;rw [(sV (List.getElem?_eq_getElem hi)).2];simp [cA]
 ·simp only [bG,List.map_map,List.Nodup];rw [List.pairwise_map];refine List.Pairwise.imp_of_mem ?_ (List.nodup_range (n:=256));intro i j hi hj hne h;simp only [Function.comp,cA,List.cons.injEq,and_true]at h;exact hne (u_ (List.mem_range.1 hi) (List.mem_range.1 hj) h)
def cm:List aT→Nat→List (Int×Int)→Except (Nat×Int) (List aT)
 |es,_,[]=>.ok es
 |es,i,m::r=>match bP es m with
  | .error n=>.error (i,n)
  | .ok x=>cm (es++ [x]) (i+1) r
def ES (w:World) (ms:List (Int×Int)) (v:Value) (w':World):Prop:=Below w.heap.size w w'∧match cm bG 0 ms with
 | .error q=>v= .tuple #[.pointer none,.int .i64 q.1,.int .i64 q.2]
 | .ok es=>∃p,v= .tuple #[.pointer (some ⟨p,0,none⟩),.int .i64 ms.length,.int .i64 0]∧gW w' w.heap.size p es∧iD es
theorem gn {es:List aT} {m:Int×Int} {n:Int} (h:bP es m= .error n):n≠0:=by
 unfold bP at h
 repeat' split at h
 all_goals (cases h;try decide)
theorem qg (w:World) (a:Option Addr) (c:Nat) (ms:List (Int×Int)) (hr:Rw aP 2 w a ms) (hl:ms.length≤1000000000):
  CP 189 #[.slice a ms.length c] w fun e w'=>∃v,e= .returned v∧ES w ms v w':=by
 refine Ba a ms.length c w (ES w ms) ?_;refine(DJ w).mono ?_;rintro e w1 ⟨p,rfl,hT,hB⟩;refine⟨_,rfl,?_⟩;intro I hI;have key:=bj (α:=Int×Int×Option Addr×World) ms.length (fun i x=>∃es,gW x.2.2.2 w.heap.size p es∧iD es∧cm bG 0 ms=cm es i (ms.drop i)∧Below w.heap.size w x.2.2.2) (fun i x=>I [.int .i64 (i:Int),.int .i64 x.1,.int .i64 x.2.1,.pointer x.2.2.1] x.2.2.2) (0,0,none,w1) ⟨bG,hT,oQ,by rw [List.drop_zero],hB⟩ ?_ ?_
 ·exact key
 ·rintro i hi ih ⟨y4,y3,y2,w2⟩ ⟨es,hT,hok,heq,hB⟩;change gW w2 _ _ _ at hT;change Below w.heap.size w w2 at hB;obtain⟨q,hq,_,hc⟩:=(hr.on hB) i _ (List.getElem?_eq_getElem hi);have h0:=hc 0 _ rfl;rw [au]at h0;refine hI _ _ _ _ _ (ac.yes (by simp;omega) (af.mk q hq ⟨by omega,by omega,_,_,⟨h0,hc 1 _ rfl,trivial⟩,?_⟩));intro w3 hw3;refine aS [.int .i64 0,.int .i64 0] [.int .i64 ms[i].1,.int .i64 ms[i].2] rfl (cw _ _) w3 hw3 ?_;intro w4 h4 hz4 hB4;refine⟨_,_,⟨by have:=ai _ _ h4 0;rw [au]at this;exact this,ai _ _ h4 1,trivial⟩,?_⟩;refine(ql w4 w.heap.size p es (hT.on hB4) hok (by have h1:w.heap.size≤w2.heap.size:=hB.size;have h2:w4.heap.size=w2.heap.size+1:=hz4;omega) ms[i]).mono ?_;rintro e w5 ⟨v,rfl,hB5,hpost⟩;have hdrop:ms.drop i=ms[i]::ms.drop (i+1):=(List.drop_eq_getElem_cons hi);have hB6:Below w.heap.size w w5:=(hB.trans (hB4.mono hB.size)).trans hB5;cases hx:bP es ms[i]with
  |error n=>
   rw [hx]at hpost;obtain⟨rfl,_⟩:=hpost;refine⟨_,_,rfl,ac.yes (by simpa using gn hx) ⟨hB6,?_⟩⟩;rw [heq,hdrop,cm,hx]
  |ok x=>
   rw [hx]at hpost;obtain⟨rfl,hT'⟩:=hpost;refine⟨_,_,rfl,ac.no (by simp) (Ar.ok64 (by omega) (by omega) (ih (y4,y3,y2,w5) ⟨_,hT',(mg hok hx).1,?_,hB6⟩))⟩;rw [heq,hdrop,cm,hx]
 ·rintro⟨y4,y3,y2,w2⟩ ⟨es,hT,hok,heq,hB⟩;refine hI _ _ _ _ _ (ac.no (by simp) ⟨hB,?_⟩);rw [heq,List.drop_length,cm];exact⟨p,rfl,hT,hok⟩
end Go.Proofs.YtijbcdiffjjefaaGreatDoor.Eng
