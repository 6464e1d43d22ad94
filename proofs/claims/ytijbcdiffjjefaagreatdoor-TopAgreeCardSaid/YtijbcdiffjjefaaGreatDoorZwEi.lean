/- What is made of items: encode.tokens, walked (a range over encode.pieces). -/
import Derived.Test.YtijbcdiffjjefaaGreatDoorZwRx
import Derived.Test.YtijbcdiffjjefaaGreatDoorZwRk
import Derived.Test.YtijbcdiffjjefaaGreatDoorZwAb
import Derived.Test.YtijbcdiffjjefaaGreatDoorZwFp
import Derived.Test.YtijbcdiffjjefaaGreatDoorZwTab
set_option linter.unusedVariables false
set_option linter.unusedSimpArgs false
set_option linter.unnecessarySimpa false
set_option maxRecDepth 100000
namespace Go.Proofs.YtijbcdiffjjefaaGreatDoor.Eng
open Go Go.RowKit Go.Shelf
attribute [local go_sem] Oper.semAt_some
abbrev Dv:TypeId:=31
theorem rL (w:World) (v:Option Addr) (A:Option Addr) (N C:Nat):
  CP 224 #[.pointer v,.slice A N C] w fun e w'=>e= .returned (.func (.func 260) #[] #[.pointer (some ⟨w.heap.size+1,0,none⟩),.pointer (some ⟨w.heap.size,0,none⟩)])∧w'=(w.alloc (.cells #[.pointer v] Dv)).alloc (.cells #[.slice A N C] bQ):=by
 refine aJ (BM v A N C w (fun u w'=>u= .func (.func 260) #[] #[.pointer (some ⟨w.heap.size+1,0,none⟩),.pointer (some ⟨w.heap.size,0,none⟩)]∧w'=(w.alloc (.cells #[.pointer v] Dv)).alloc (.cells #[.slice A N C] bQ)) ?_) (by rintro v w' ⟨rfl,h⟩;exact⟨rfl,h⟩);intro c a d b;subst a b;refine⟨?_,rfl⟩;unfold nb;rw [World.size_alloc]
structure E3 (w W:World) (v:Nat) (s:am) (T:List aX) (Z:List Int) (i:Nat) (x:Pl):Prop where
 vb0:W.heap[w.heap.size]? =some (.cells #[.pointer (some ⟨v,0,none⟩)] Dv (0,0))
 vb:W.heap[w.heap.size+2]? =some (.cells #[.pointer (some ⟨v,0,none⟩)] Dv (0,0))
 bx:W.heap[w.heap.size+3]? =some (.cells #[x.2.v] bQ (0,0))
 row:Rw an 1 w x.2.a (Z.drop x.1)
 len:x.2.n=(Z.drop x.1).length
 cap:x.2.n≤x.2.c
 out:∃(ys:List Int) (o:Sl),Boxed W (w.heap.size+1) bQ o.v∧W.ownsRow w.heap.size aT 1 o.v o.n (ys.flatMap an)∧ys++(ap s T).encode (Z.drop i)=(ap s T).encode Z
 le:ZH w W
theorem E3.on {w W W':World} {v:Nat} {s:am} {T:List aX} {Z:List Int} {i:Nat} {x:Pl} (h:E3 w W v s T Z i x) (hb:ZH W W'):E3 w W' v s T Z i x:=by
 obtain⟨d,o,a,b,c⟩:=h.out;exact⟨aj hb h.vb0,aj hb h.vb,aj hb h.bx,h.row,h.len,h.cap,⟨d,o,aj hb a,aE b hb,c⟩,ae h.le hb⟩
theorem E3.put {w W:World} {v:Nat} {s:am} {T:List aX} {Z:List Int} {i:Nat} {x:Pl} (h:E3 w W v s T Z i x) {k:Nat} {o o':Obj} (hk:w.heap.size≤k) (ho:W.heap[k]? =some o) (hc:o.isCells=false):E3 w (W.putObj k o') v s T Z i x:=by
 have a:∀ {j:Nat} {c:Array Value} {t:TypeId} {f:Nat×Nat},W.heap[j]? =some (.cells c t f)→(W.putObj k o').heap[j]? =some (.cells c t f):=by
  intro j c t f b;rw [World.putObj_heap_other fun e=>?_]
  ·exact b
  ·subst e;rw [b]at ho;cases ho;cases hc
 obtain⟨m,y,d,g,l⟩:=h.out;exact⟨a h.vb0,a h.vb,a h.bx,h.row,h.len,h.cap,⟨m,y,a d,ownsRow_putObj g o' ho hc,l⟩,h.le.trans ((Below.refl _ W).grown (grownBy_putObj' W k o') h.le.size (fun j e=>by cases e;exact hk))⟩
theorem E3.step {w W:World} {v:Nat} {s:am} {T:List aX} {Z:List Int} {k:Nat} {x:Pl} (hk:k≤(Z.drop x.1).length) (h:E3 w W v s T Z (x.1+k) x):E3 w (W.setCell ⟨w.heap.size+3,0,none⟩ (jV k x).2.v) v s T Z (jV k x).1 (jV k x):=by
 have q:Boxed W (w.heap.size+3) bQ x.2.v:=h.bx;have b:∀ {j:Nat} {c:Array Value} {t:TypeId} {f:Nat×Nat},j≠w.heap.size+3→W.heap[j]? =some (.cells c t f)→(W.setCell ⟨w.heap.size+3,0,none⟩ (jV k x).2.v).heap[j]? =some (.cells c t f):=by
  intro j c t f m r;rw [(grownBy_setCell' W (w.heap.size+3) _).block j (XY.1 r).1 (fun e=>m (Option.some.inj e))];exact r
 obtain⟨A,y,u,o,z⟩:=h.out;have d:=h.len;have g:=h.cap;obtain⟨i,⟨a,n,l⟩⟩:=x;change n=(Z.drop i).length at d;change n≤l at g;change k≤(Z.drop i).length at hk;refine⟨b (by omega) h.vb0,b (by omega) h.vb,q.set _,?_,?_,?_,⟨A,y,b (by omega) u,o.kept (grownBy_setCell' W _ _) (.inr (q.not_row (by decide) o).symm),z⟩,h.le.trans ((Below.refl _ W).setCell (p:=⟨w.heap.size+3,0,none⟩) (by show w.heap.size≤w.heap.size+3;omega) _)⟩
 ·have:=h.row.cut k l (by show(Z.drop i).length≤l;omega);rw [List.drop_drop]at this;exact this
 ·show n-k=(Z.drop (i+k)).length;rw [List.length_drop]at d⊢;omega
 ·show n-k≤l-k;omega
theorem cS {F:Fence} {n:Nat} {P:Program} {o:Oper} {a:Act} {w w':World} {K:Act→World→Prop} {Q:Exit→Act→World→Prop} (s x:Operand) (t:TypeId)
  (hop:o.op=Op.call {callee:=Callee.builtin Builtin.append,args:=#[s,x],argTypes:=#[t,t]}) {vs vx v':Value} (hs:a.eval s=vs) (hx:a.eval x=vx)
  (hrun:(Builtin.append_ #[t,t] o.type #[vs,vx]).run P w= .ok v' w') (h:K (a.put o.dst v') w'):Oper.wpIn F n P o a w K Q:=by
 unfold Oper.wpIn;refine⟨?_,?_⟩
 ·simp [Oper.about,hop,resolve,Target.leads,Sem.run_pure]
 ·rw [Oper.semAt_plain F _ _ (by rw [hop];intro c b;cases b)];simp [execOp,hop,resolve,invoke,builtin,hs,hx,hrun,Result.andThen];exact h
set_option maxHeartbeats 4000000 in
theorem qJ (w:World) (v:Nat) (c:Array Value) (tp bp mp:Nat) (h:iv w v c tp bp mp) (s:am) (T:List aX) (x:bk) (hP:bZ w s T x tp bp mp) (A:Option Addr) (C:Nat) (Z:List Int) (hr:Rw an 1 w A Z) (hC:Z.length≤C) (hl:Z.length≤100000) (hZ:∀y∈Z,dV s y=true):
  CP 172 #[.pointer (some ⟨v,0,none⟩),.slice A Z.length C] w fun e w'=>∃l:Sl,e= .returned l.v∧l.n=((ap s T).encode Z).length∧w'.ownsRow w.heap.size aT 1 l.v l.n (((ap s T).encode Z).flatMap an)∧ZH w w':=by
 obtain⟨N,hN⟩:∃N,Z.length=N:=⟨_,rfl⟩;rw [hN];refine(callsIn_wide (n:=0)).1 ?_;refine callsIn_of_wp_marks Tryz.func172 rfl trivial ?_ rfl;simp only [Tryz.ntmps172,List.size_toArray,List.length_cons,List.length_nil,Nat.reduceAdd,Nat.reduceSub,Array.replicate_succ,Array.replicate_zero,List.push_toArray,List.append_toArray,List.nil_append,List.cons_append]
 gi_wp2_with (refine⟨trivial,rfl,?_⟩;refine CallsIn.mono (callsIn_wide.2 (rL _ _ _ _ _)) ?_;rintro e w' ⟨rfl,rfl⟩)
 obtain⟨W0,hW0⟩:∃W0,((((w.alloc (.cells #[.pointer (some ⟨v,0,none⟩)] Dv)).alloc (.cells #[.slice none 0 0] bQ)).alloc (.cells #[.pointer (some ⟨v,0,none⟩)] Dv)).alloc (.cells #[.slice A N C] bQ))=W0:=⟨_,rfl⟩;rw [hW0];have hz0:W0.heap.size=w.heap.size+4:=by rw [←hW0];simp only [World.size_alloc]
 have hT0:E3 w W0 v s T Z 0 (0,⟨A,N,C⟩):=by
  rw [←hW0];have e1:=Boxed.new w Dv (.pointer (some ⟨v,0,none⟩));have e2:=Boxed.new (w.alloc (.cells #[.pointer (some ⟨v,0,none⟩)] Dv)) bQ (.slice none 0 0);have e3:=Boxed.new ((w.alloc (.cells #[.pointer (some ⟨v,0,none⟩)] Dv)).alloc (.cells #[.slice none 0 0] bQ)) Dv (.pointer (some ⟨v,0,none⟩));have e4:=Boxed.new (((w.alloc (.cells #[.pointer (some ⟨v,0,none⟩)] Dv)).alloc (.cells #[.slice none 0 0] bQ)).alloc (.cells #[.pointer (some ⟨v,0,none⟩)] Dv)) bQ (.slice A N C);simp only [World.size_alloc]at e2 e3 e4;exact⟨((e1.alloc _).alloc _).alloc _,e3.alloc _,e4,by rw [List.drop_zero];exact hr,hN.symm,by show N≤C;omega,⟨[],cW,(e2.alloc _).alloc _,bE _ _ _ _ an,rfl⟩,((((Below.refl w.heap.size w).alloc (XV _) _).alloc (by simp only [World.size_alloc];omega) _).alloc (by simp only [World.size_alloc];omega) _).alloc (by simp only [World.size_alloc];omega) _⟩
 have hlt:∀y∈Z,y<256:=by
  intro y hy;have:=hZ y hy;unfold dV at this;have:=XQ this;omega
 have hcl:∀c∈s.classes,bh c=true:=(nJ hP.right).1;obtain⟨cut,hcut⟩:∃cut,(ap s T).cut=cut:=⟨_,rfl⟩;refine rp (n:=0) (gf:=260) (lb:=#[.pointer (some ⟨w.heap.size+3,0,none⟩),.pointer (some ⟨w.heap.size+2,0,none⟩)]) rfl (enters_of Tryz.func260 (by kernel_rfl) rfl)
  (encs:=fun y:Pl=>#[.slice y.2.a (fu cut (Z.drop y.1)) (fu cut (Z.drop y.1))]) ((0,⟨A,N,C⟩):Pl) (fun y:Pl=>y.2.n=0) (fun _=>rfl)
  (fun y W=>E3 w W v s T Z y.1 y) (fun y W=>E3 w W v s T Z (y.1+fu cut (Z.drop y.1)) y)
  (fun y W k o o' hy hk ho hc=>hy.put (by omega) ho hc) (fun y W k o o' hy hk ho hc=>hy.put (by omega) ho hc)
  (fun o o'=>(hT0.on (ah _ _)).on (ah _ _)) ?seq
  (fun y=>{tmps:=#[.pointer (some ⟨v,0,none⟩),.slice A N C,.pointer (some ⟨w.heap.size,0,none⟩),undef,.slice none 0 0,.pointer (some ⟨w.heap.size+1,0,none⟩),.slice y.2.a (fu cut (Z.drop y.1)) (fu cut (Z.drop y.1)),.pointer (some ⟨v,0,none⟩),.slice A N C,.func (.func 260) #[] #[.pointer (some ⟨w.heap.size+1+1+1,0,none⟩),.pointer (some ⟨w.heap.size+1+1,0,none⟩)],.slice y.2.a (fu cut (Z.drop y.1)) (fu cut (Z.drop y.1)),undef,undef,undef,undef,undef,undef],defers:=[]}) ?assign ?body ?done
 case seq=>
  intro l W Keep hK hY h0 hk0;refine xC v tp bp mp (w.heap.size+3) (w.heap.size+2) c s T hcl Z (by omega) hlt l (fun y W=>E3 w W v s T Z y.1 y) (fun y W=>E3 w W v s T Z (y.1+fu cut (Z.drop y.1)) y) Keep hK ?_ ?_ ?_ ?_ ?_ (0,⟨A,N,C⟩) W h0 hk0
  ·exact fun y W hy=>⟨hy.bx,hy.vb,h.on hy.le,hP.bound.on hy.le,hy.row.on hy.le,hy.len,hy.cap⟩
  ·exact fun y W W' hy hb=>hy.on hb
  ·exact fun y W hy=>hy.bx
  ·intro y W k hk hy;rw [←hcut, ←hk]at hy;exact hy.step (by rw [hk];exact rF _ _)
  ·intro y W1 k hk hy hn hkp;have:=hY y W1 hn hy hkp;rw [←hcut]at this;rw [hk, ←hcut];exact this
 case assign=>
  intro l y W K hK
  gi_wp2
  exact hK
 case body=>
  intro l y W hy hR;obtain⟨ys,⟨oa,on,oc⟩,hb,ho,he⟩:=hR.out;have hc1:W.cell? ⟨w.heap.size+1,0,none⟩=some (.slice oa on oc):=hb.cell;have hc2:W.cell? ⟨w.heap.size,0,none⟩=some (.pointer (some ⟨v,0,none⟩)):=(show Boxed W w.heap.size Dv _ from hR.vb0).cell;have hmx:Tryz.prog.follows .mixedOrders=true:=by kernel_rfl
  obtain⟨k,hk⟩:∃k,fu cut (Z.drop y.1)=k:=⟨_,rfl⟩;have hpc:∀q,ZH W q→CallsIn (Fence.wide.inRound l) 0 Tryz.prog 225 #[.pointer (some ⟨v,0,none⟩),.slice y.2.a k k] q fun e q'=>∃la ln lc,e= .returned (.slice la ln lc)∧ln=((ap s T).encP ((Z.drop y.1).take k)).length∧q'.ownsRow q.heap.size aT 1 (.slice la ln lc) ln (((ap s T).encP ((Z.drop y.1).take k)).flatMap an)∧ZH q q':=by
   intro q hq;have hle:=hR.le;have hne:Z.drop y.1≠ []:=by
    intro e;have:=hR.len;rw [e]at this;exact hy this
   have hk2:k≤(Z.drop y.1).length:=by rw [←hk];exact rF _ _
   have hq':=ae hle hq;have hpo:=HY (s:=s) (T:=T) hne (fun z hz=>hZ z (List.mem_of_mem_drop hz));rw [hcut,hk]at hpo;have hkl:((Z.drop y.1).take k).length=k:=by rw [List.length_take,Nat.min_eq_left hk2]
   have:=uv q v c tp bp mp (h.on hq') s T x (hP.on hq') y.2.a k ((Z.drop y.1).take k) ((hR.row.on hq').take k) hpo (by rw [hkl];rw [List.length_drop]at hk2;omega);rw [hkl]at this;refine CallsIn.inRound l (callsIn_wide.2 (this.mono ?_));rintro e q' ⟨r,rfl,h1,h2,h3⟩;exact⟨_,_,_,rfl,h1,h2,h3⟩
  rw [hk]
  gi_wp2
  have hd:=aU W;have hoD:=aE ho hd;have hbD:Boxed W.drew (w.heap.size+1) bQ (.slice oa on oc):=aj hd hb;have hc1D:W.drew.cell? ⟨w.heap.size+1,0,none⟩=some (.slice oa on oc):=hbD.cell;have hc2D:W.drew.cell? ⟨w.heap.size,0,none⟩=some (.pointer (some ⟨v,0,none⟩)):=(show Boxed W.drew w.heap.size Dv _ from aj hd hR.vb0).cell;have hys:ys.length≤100000:=by
   have h1:=congrArg List.length he;rw [List.length_append]at h1;have h2:=oO (ap s T) Z;omega
  have hps:((ap s T).encP ((Z.drop y.1).take k)).length≤100000:=by
   have h1:=BT (ap s T) ((Z.drop y.1).take k);rw [List.length_take,List.length_drop]at h1;omega
  have hon:on=ys.length:=(Rw.of_own (s:=⟨oa,on,oc⟩) ho (fun _=>rfl) (by decide)).2;have happ:∀(W3:World) (la:Option Addr) (ln lc:Nat),Below W.drew.heap.size W.drew W3→ln=((ap s T).encP ((Z.drop y.1).take k)).length→W3.ownsRow W.drew.heap.size aT 1 (.slice la ln lc) ln (((ap s T).encP ((Z.drop y.1).take k)).flatMap an)→
    ∃ra rn rc W4,(Builtin.append_ #[bQ,bQ] bQ #[.slice oa on oc,.slice la ln lc]).run Tryz.prog W3= .ok (.slice ra rn rc) W4∧W4.frozen? ⟨w.heap.size+1,0,none⟩=false∧W4.cell? ⟨w.heap.size+1,0,none⟩=some (.slice oa on oc)∧KeepsOthers W (W4.setCell ⟨w.heap.size+1,0,none⟩ (.slice ra rn rc))∧E3 w (W4.setCell ⟨w.heap.size+1,0,none⟩ (.slice ra rn rc)) v s T Z (y.1+k) y:=by
   intro W3 la ln lc hlb hln hlo;have hle3:ZH w W3:=ae (ae hR.le hd) hlb;have hb3:Boxed W3 (w.heap.size+1) bQ (.slice oa on oc):=aj hlb hbD;have hb30:Boxed W3 w.heap.size Dv (.pointer (some ⟨v,0,none⟩)):=aj hlb (aj hd hR.vb0);have hb32:Boxed W3 (w.heap.size+2) Dv (.pointer (some ⟨v,0,none⟩)):=aj hlb (aj hd hR.vb);have hb33:Boxed W3 (w.heap.size+3) bQ y.2.v:=aj hlb (aj hd hR.bx);have ho3:W3.ownsRow w.heap.size aT 1 (Sl.v ⟨oa,on,oc⟩) on (ys.flatMap an):=aE hoD hlb;obtain⟨r,W4,hrn,hrun,ho4,hbel,hkeep,_⟩:=co.spread (s:=⟨oa,on,oc⟩) (l:=⟨la,ln,lc⟩) ho3 (bO.of_own co hlo) hle3.size (by show on≤_;omega) (by show ln≤_;omega) (by decide);have hB34:=hbel W3 (Below.refl _ _);have hg4:W3.grownBy W4 (Sl.v ⟨oa,on,oc⟩).ownBlock:=⟨hB34.os,hB34.tape,hB34.output,hB34.size,fun j hj hne=>hkeep j hj fun e=>hne e.symm⟩;have hb4:=hb3.kept hg4 (hb3.not_row (by decide) ho3);have hg5:=grownBy_setCell' W4 (w.heap.size+1) r.v;have to5:∀ {B:Nat} {t:TypeId} {u:Value},B≠w.heap.size+1→t≠aT→Boxed W3 B t u→Boxed (W4.setCell ⟨w.heap.size+1,0,none⟩ r.v) B t u:=fun hB ht hb=>(hb.kept hg4 (hb.not_row ht ho3)).kept hg5 (fun e=>hB (Option.some.inj e));have hne:Z.drop y.1≠ []:=by
    intro e;have:=hR.len;rw [e]at this;exact hy this
   refine⟨r.a,r.n,r.c,W4,hrun,hb4.frozen,hb4.cell,?_,?_⟩
   ·refine(((KeepsOthers.drew W).trans (KeepsOthers.of_grownBy (row:=none) ⟨hlb.os,hlb.tape,hlb.output,hlb.size,fun j hj _=>hlb.block j hj⟩ (fun j o e=>by cases e))).trans (KeepsOthers.of_grownBy hg4 fun j o ej hj=>?_)).trans (KeepsOthers.setCell _ _ _);rcases ho3.2 with⟨e0,_⟩ |⟨g,cap,cur,e0,_,hgb,_⟩
    ·rw [e0]at ej;simp [Value.ownBlock]at ej
    ·rw [e0]at ej;obtain rfl:g=j:=by simpa [Value.ownBlock]using ej
     rw [hgb]at hj;cases hj;rfl
   ·refine⟨to5 (by omega) (by decide) hb30,to5 (by omega) (by decide) hb32,to5 (by omega) (by decide) hb33,hR.row,hR.len,hR.cap,⟨ys++(ap s T).encP ((Z.drop y.1).take k),r,hb4.set r.v,ho4.kept hg5 (.inr (hb4.not_row (by decide) ho4).symm),?_⟩,(hbel w hle3).trans ((Below.refl _ W4).setCell (p:=⟨w.heap.size+1,0,none⟩) (by show w.heap.size≤w.heap.size+1;omega) _)⟩;rw [←he,Fi _ hne,hcut,hk,List.drop_drop,List.append_assoc]
  have hcs:∀W3,Below W.drew.heap.size W.drew W3→W3.cell? ⟨w.heap.size+1,0,none⟩=some (.slice oa on oc):=by
   intro W3 hlb;have:Boxed W3 (w.heap.size+1) bQ (.slice oa on oc):=aj hlb hbD;exact this.cell
  have hcall:=hpc _ hd;clear hon;refine wpIn_region_any hmx ?_;change wpAnyIn _ _ _ _ _ _ _ _ _ (World.drew _);refine wpAnyIn_ready (rs:=[0,1,2]) (by kernel_rfl) (by simp) ?_;refine AllReadyIn.cons rfl (fun K hK=>?_) ?_
  ·go_simp
   refine hK _ _ ?_;clear hK K;refine wpAnyIn_ready (rs:=[1,2]) (by kernel_rfl) (by simp) ?_;refine AllReadyIn.cons rfl (fun K hK=>?_) ?_
   ·go_simp
    refine hK _ _ ?_;clear hK K;refine wpAnyIn_ready (rs:=[2]) (by kernel_rfl) (by simp) ?_;refine AllReadyIn.cons rfl (fun K hK=>?_) ?_
    ·go_simp
     refine hK _ _ ?_;clear hK K;refine wpAnyIn_ready (rs:=[3]) (by kernel_rfl) (by simp) ?_;refine AllReadyIn.cons rfl (fun K hK=>?_) ?_
     ·go_simp
      refine⟨trivial,rfl,?_⟩;refine CallsIn.mono hcall ?_;rintro e W3 ⟨la,ln,lc,rfl,hln,hlo,hlb⟩;obtain⟨ra,rn,rc,W4,hrn,hf4,hc4,hkk4,hR4⟩:=happ W3 la ln lc hlb hln hlo;have hc3:=hcs W3 hlb;clear hln hlo hlb;dsimp only;refine hK _ _ ?_;clear hK K;refine wpAnyIn_ready (rs:=[4]) (by kernel_rfl) (by simp) ?_;refine AllReadyIn.cons rfl (fun K hK=>?_) ?_
      ·rw [if_pos (by rfl)];refine cS _ _ _ rfl rfl rfl hrn ?_;clear hrn
       go_simp
       refine hK _ _ ?_;clear hK K;refine wpAnyIn_ready (rs:=[5]) (by kernel_rfl) (by simp) ?_;refine AllReadyIn.cons rfl (fun K hK=>?_) ?_
       ·go_simp
        refine hK _ _ ?_;clear hK K;refine wpAnyIn_done (by kernel_rfl) ?_ _;exact⟨rfl,hkk4,hR4⟩
       exact AllReadyIn.nil
      exact AllReadyIn.nil
     exact AllReadyIn.nil
    exact AllReadyIn.nil
   refine AllReadyIn.cons rfl (fun K hK=>?_) ?_
   ·go_simp
    refine hK _ _ ?_;clear hK K;refine wpAnyIn_ready (rs:=[1]) (by kernel_rfl) (by simp) ?_;refine AllReadyIn.cons rfl (fun K hK=>?_) ?_
    ·go_simp
     refine hK _ _ ?_;clear hK K;refine wpAnyIn_ready (rs:=[3]) (by kernel_rfl) (by simp) ?_;refine AllReadyIn.cons rfl (fun K hK=>?_) ?_
     ·go_simp
      refine⟨trivial,rfl,?_⟩;refine CallsIn.mono hcall ?_;rintro e W3 ⟨la,ln,lc,rfl,hln,hlo,hlb⟩;obtain⟨ra,rn,rc,W4,hrn,hf4,hc4,hkk4,hR4⟩:=happ W3 la ln lc hlb hln hlo;have hc3:=hcs W3 hlb;clear hln hlo hlb;dsimp only;refine hK _ _ ?_;clear hK K;refine wpAnyIn_ready (rs:=[4]) (by kernel_rfl) (by simp) ?_;refine AllReadyIn.cons rfl (fun K hK=>?_) ?_
      ·rw [if_pos (by rfl)];refine cS _ _ _ rfl rfl rfl hrn ?_;clear hrn
       go_simp
       refine hK _ _ ?_;clear hK K;refine wpAnyIn_ready (rs:=[5]) (by kernel_rfl) (by simp) ?_;refine AllReadyIn.cons rfl (fun K hK=>?_) ?_
       ·go_simp
        refine hK _ _ ?_;clear hK K;refine wpAnyIn_done (by kernel_rfl) ?_ _;exact⟨rfl,hkk4,hR4⟩
       exact AllReadyIn.nil
      exact AllReadyIn.nil
     exact AllReadyIn.nil
    exact AllReadyIn.nil
   exact AllReadyIn.nil
  refine AllReadyIn.cons rfl (fun K hK=>?_) ?_
  ·go_simp
   refine hK _ _ ?_;clear hK K;refine wpAnyIn_ready (rs:=[0,2]) (by kernel_rfl) (by simp) ?_;refine AllReadyIn.cons rfl (fun K hK=>?_) ?_
   ·go_simp
    refine hK _ _ ?_;clear hK K;refine wpAnyIn_ready (rs:=[2]) (by kernel_rfl) (by simp) ?_;refine AllReadyIn.cons rfl (fun K hK=>?_) ?_
    ·go_simp
     refine hK _ _ ?_;clear hK K;refine wpAnyIn_ready (rs:=[3]) (by kernel_rfl) (by simp) ?_;refine AllReadyIn.cons rfl (fun K hK=>?_) ?_
     ·go_simp
      refine⟨trivial,rfl,?_⟩;refine CallsIn.mono hcall ?_;rintro e W3 ⟨la,ln,lc,rfl,hln,hlo,hlb⟩;obtain⟨ra,rn,rc,W4,hrn,hf4,hc4,hkk4,hR4⟩:=happ W3 la ln lc hlb hln hlo;have hc3:=hcs W3 hlb;clear hln hlo hlb;dsimp only;refine hK _ _ ?_;clear hK K;refine wpAnyIn_ready (rs:=[4]) (by kernel_rfl) (by simp) ?_;refine AllReadyIn.cons rfl (fun K hK=>?_) ?_
      ·rw [if_pos (by rfl)];refine cS _ _ _ rfl rfl rfl hrn ?_;clear hrn
       go_simp
       refine hK _ _ ?_;clear hK K;refine wpAnyIn_ready (rs:=[5]) (by kernel_rfl) (by simp) ?_;refine AllReadyIn.cons rfl (fun K hK=>?_) ?_
       ·go_simp
        refine hK _ _ ?_;clear hK K;refine wpAnyIn_done (by kernel_rfl) ?_ _;exact⟨rfl,hkk4,hR4⟩
       exact AllReadyIn.nil
      exact AllReadyIn.nil
     exact AllReadyIn.nil
    exact AllReadyIn.nil
   refine AllReadyIn.cons rfl (fun K hK=>?_) ?_
   ·go_simp
    refine hK _ _ ?_;clear hK K;refine wpAnyIn_ready (rs:=[0,3]) (by kernel_rfl) (by simp) ?_;refine AllReadyIn.cons rfl (fun K hK=>?_) ?_
    ·go_simp
     refine hK _ _ ?_;clear hK K;refine wpAnyIn_ready (rs:=[3]) (by kernel_rfl) (by simp) ?_;refine AllReadyIn.cons rfl (fun K hK=>?_) ?_
     ·go_simp
      refine⟨trivial,rfl,?_⟩;refine CallsIn.mono hcall ?_;rintro e W3 ⟨la,ln,lc,rfl,hln,hlo,hlb⟩;obtain⟨ra,rn,rc,W4,hrn,hf4,hc4,hkk4,hR4⟩:=happ W3 la ln lc hlb hln hlo;have hc3:=hcs W3 hlb;clear hln hlo hlb;dsimp only;refine hK _ _ ?_;clear hK K;refine wpAnyIn_ready (rs:=[4]) (by kernel_rfl) (by simp) ?_;refine AllReadyIn.cons rfl (fun K hK=>?_) ?_
      ·rw [if_pos (by rfl)];refine cS _ _ _ rfl rfl rfl hrn ?_;clear hrn
       go_simp
       refine hK _ _ ?_;clear hK K;refine wpAnyIn_ready (rs:=[5]) (by kernel_rfl) (by simp) ?_;refine AllReadyIn.cons rfl (fun K hK=>?_) ?_
       ·go_simp
        refine hK _ _ ?_;clear hK K;refine wpAnyIn_done (by kernel_rfl) ?_ _;exact⟨rfl,hkk4,hR4⟩
       exact AllReadyIn.nil
      exact AllReadyIn.nil
     exact AllReadyIn.nil
    refine AllReadyIn.cons rfl (fun K hK=>?_) ?_
    ·go_simp
     refine⟨trivial,rfl,?_⟩;refine CallsIn.mono hcall ?_;rintro e W3 ⟨la,ln,lc,rfl,hln,hlo,hlb⟩;obtain⟨ra,rn,rc,W4,hrn,hf4,hc4,hkk4,hR4⟩:=happ W3 la ln lc hlb hln hlo;have hc3:=hcs W3 hlb;clear hln hlo hlb;dsimp only;refine hK _ _ ?_;clear hK K;refine wpAnyIn_ready (rs:=[0]) (by kernel_rfl) (by simp) ?_;refine AllReadyIn.cons rfl (fun K hK=>?_) ?_
     ·go_simp
      refine hK _ _ ?_;clear hK K;refine wpAnyIn_ready (rs:=[4]) (by kernel_rfl) (by simp) ?_;refine AllReadyIn.cons rfl (fun K hK=>?_) ?_
      ·rw [if_pos (by rfl)];refine cS _ _ _ rfl rfl rfl hrn ?_;clear hrn
       go_simp
       refine hK _ _ ?_;clear hK K;refine wpAnyIn_ready (rs:=[5]) (by kernel_rfl) (by simp) ?_;refine AllReadyIn.cons rfl (fun K hK=>?_) ?_
       ·go_simp
        refine hK _ _ ?_;clear hK K;refine wpAnyIn_done (by kernel_rfl) ?_ _;exact⟨rfl,hkk4,hR4⟩
       exact AllReadyIn.nil
      exact AllReadyIn.nil
     exact AllReadyIn.nil
    exact AllReadyIn.nil
   exact AllReadyIn.nil
  refine AllReadyIn.cons rfl (fun K hK=>?_) ?_
  ·go_simp
   refine hK _ _ ?_;clear hK K;refine wpAnyIn_ready (rs:=[0,1]) (by kernel_rfl) (by simp) ?_;refine AllReadyIn.cons rfl (fun K hK=>?_) ?_
   ·go_simp
    refine hK _ _ ?_;clear hK K;refine wpAnyIn_ready (rs:=[1]) (by kernel_rfl) (by simp) ?_;refine AllReadyIn.cons rfl (fun K hK=>?_) ?_
    ·go_simp
     refine hK _ _ ?_;clear hK K;refine wpAnyIn_ready (rs:=[3]) (by kernel_rfl) (by simp) ?_;refine AllReadyIn.cons rfl (fun K hK=>?_) ?_
     ·go_simp
      refine⟨trivial,rfl,?_⟩;refine CallsIn.mono hcall ?_;rintro e W3 ⟨la,ln,lc,rfl,hln,hlo,hlb⟩;obtain⟨ra,rn,rc,W4,hrn,hf4,hc4,hkk4,hR4⟩:=happ W3 la ln lc hlb hln hlo;have hc3:=hcs W3 hlb;clear hln hlo hlb;dsimp only;refine hK _ _ ?_;clear hK K;refine wpAnyIn_ready (rs:=[4]) (by kernel_rfl) (by simp) ?_;refine AllReadyIn.cons rfl (fun K hK=>?_) ?_
      ·rw [if_pos (by rfl)];refine cS _ _ _ rfl rfl rfl hrn ?_;clear hrn
       go_simp
       refine hK _ _ ?_;clear hK K;refine wpAnyIn_ready (rs:=[5]) (by kernel_rfl) (by simp) ?_;refine AllReadyIn.cons rfl (fun K hK=>?_) ?_
       ·go_simp
        refine hK _ _ ?_;clear hK K;refine wpAnyIn_done (by kernel_rfl) ?_ _;exact⟨rfl,hkk4,hR4⟩
       exact AllReadyIn.nil
      exact AllReadyIn.nil
     exact AllReadyIn.nil
    exact AllReadyIn.nil
   refine AllReadyIn.cons rfl (fun K hK=>?_) ?_
   ·go_simp
    refine hK _ _ ?_;clear hK K;refine wpAnyIn_ready (rs:=[0,3]) (by kernel_rfl) (by simp) ?_;refine AllReadyIn.cons rfl (fun K hK=>?_) ?_
    ·go_simp
     refine hK _ _ ?_;clear hK K;refine wpAnyIn_ready (rs:=[3]) (by kernel_rfl) (by simp) ?_;refine AllReadyIn.cons rfl (fun K hK=>?_) ?_
     ·go_simp
      refine⟨trivial,rfl,?_⟩;refine CallsIn.mono hcall ?_;rintro e W3 ⟨la,ln,lc,rfl,hln,hlo,hlb⟩;obtain⟨ra,rn,rc,W4,hrn,hf4,hc4,hkk4,hR4⟩:=happ W3 la ln lc hlb hln hlo;have hc3:=hcs W3 hlb;clear hln hlo hlb;dsimp only;refine hK _ _ ?_;clear hK K;refine wpAnyIn_ready (rs:=[4]) (by kernel_rfl) (by simp) ?_;refine AllReadyIn.cons rfl (fun K hK=>?_) ?_
      ·rw [if_pos (by rfl)];refine cS _ _ _ rfl rfl rfl hrn ?_;clear hrn
       go_simp
       refine hK _ _ ?_;clear hK K;refine wpAnyIn_ready (rs:=[5]) (by kernel_rfl) (by simp) ?_;refine AllReadyIn.cons rfl (fun K hK=>?_) ?_
       ·go_simp
        refine hK _ _ ?_;clear hK K;refine wpAnyIn_done (by kernel_rfl) ?_ _;exact⟨rfl,hkk4,hR4⟩
       exact AllReadyIn.nil
      exact AllReadyIn.nil
     exact AllReadyIn.nil
    refine AllReadyIn.cons rfl (fun K hK=>?_) ?_
    ·go_simp
     refine⟨trivial,rfl,?_⟩;refine CallsIn.mono hcall ?_;rintro e W3 ⟨la,ln,lc,rfl,hln,hlo,hlb⟩;obtain⟨ra,rn,rc,W4,hrn,hf4,hc4,hkk4,hR4⟩:=happ W3 la ln lc hlb hln hlo;have hc3:=hcs W3 hlb;clear hln hlo hlb;dsimp only;refine hK _ _ ?_;clear hK K;refine wpAnyIn_ready (rs:=[0]) (by kernel_rfl) (by simp) ?_;refine AllReadyIn.cons rfl (fun K hK=>?_) ?_
     ·go_simp
      refine hK _ _ ?_;clear hK K;refine wpAnyIn_ready (rs:=[4]) (by kernel_rfl) (by simp) ?_;refine AllReadyIn.cons rfl (fun K hK=>?_) ?_
      ·rw [if_pos (by rfl)];refine cS _ _ _ rfl rfl rfl hrn ?_;clear hrn
       go_simp
       refine hK _ _ ?_;clear hK K;refine wpAnyIn_ready (rs:=[5]) (by kernel_rfl) (by simp) ?_;refine AllReadyIn.cons rfl (fun K hK=>?_) ?_
       ·go_simp
        refine hK _ _ ?_;clear hK K;refine wpAnyIn_done (by kernel_rfl) ?_ _;exact⟨rfl,hkk4,hR4⟩
       exact AllReadyIn.nil
      exact AllReadyIn.nil
     exact AllReadyIn.nil
    exact AllReadyIn.nil
   exact AllReadyIn.nil
  exact AllReadyIn.nil
 case done=>
  intro D y W hD hy hR hK;obtain⟨ys,⟨oa,on,oc⟩,hb,ho,he⟩:=hR.out;have hc1:W.cell? ⟨w.heap.size+1,0,none⟩=some (.slice oa on oc):=hb.cell
  gi_wp2
  refine⟨by simp,.inl ⟨_,_,rfl,run_takeDeferred hK,?_⟩⟩;refine⟨_,results_tmp rfl _ _ _,?_⟩;have hnil:Z.drop y.1= []:=List.eq_nil_of_length_eq_zero (by rw [←hR.len];exact hy);rw [hnil]at he;have he:ys=(ap s T).encode Z:=by rw [←he];exact(List.append_nil ys).symm
  subst he;exact⟨⟨oa,on,oc⟩,rfl,(Rw.of_own (s:=⟨oa,on,oc⟩) ho (fun _=>rfl) (by decide)).2,ownsRow_putObj ho _ hK rfl,hR.le.trans ((Below.refl _ W).grown (grownBy_putObj' W D _) hR.le.size (fun j e=>by cases e;omega))⟩
theorem ff.used {w:World} {v:Nat} {s:am} {T:List aX} {w0:World} {x:bk} {tp bp mp:Nat} {d:Int} {l:Sl} {uses:Int} (hV:ff w v s T w0 x tp bp mp d l uses) (m:Int):
  ff (w.setCell ⟨v,13,none⟩ (.int .i64 m)) v s T w0 x tp bp mp d l m∧aD v w (w.setCell ⟨v,13,none⟩ (.int .i64 m)):=by
 obtain⟨b,c,a⟩:=Jn hV.blk hV.below hV.lt 13 (.int .i64 m);exact⟨⟨hV.parts,c,hV.lt,b,hV.once.imp (fun h=>h) fun⟨p,q,r⟩=>⟨p,q,a.own r fun e=>by have:=(bL r _ e).1;have:=hV.lt;omega⟩⟩,a⟩
theorem GF {s:am} {T:List aX} (hok:fo T) (id:Int):((ap s T).items id).length≤64:=by
 unfold Voc.items;split
 ·rw [List.length_singleton];decide
 ·show(bf (bj T id)).length≤64;unfold bf;rw [List.length_map];unfold bj;cases h:T[id.toNat]? with
  |none=>exact Nat.zero_le _
  |some y=>exact hok.short y (List.mem_of_getElem? h)
def nF (s:am) (T:List aX) (ids:List Int):Int×Int:=if dP s T ids≥0 then(dP s T ids,4)else(ids.length,0)
theorem wI (w:World) (v:Nat) (s:am) (T:List aX) {w0:World} {x:bk} {tp bp mp:Nat} {d:Int} {l0:Sl} {uses:Int} (hR:ff w v s T w0 x tp bp mp d l0 uses) (A:Option Addr) (C:Nat) (ids:List Int) (hr:Rw an 1 w A ids) (hA:ids≠ []→∀p,A=some p→p.block≠v) (hl:ids.length≤100000):
  CP 47 #[.pointer (some ⟨v,0,none⟩),.slice A ids.length C] w fun e w'=>∃l:Sl,e= .returned (.tuple #[l.v,.int .i64 (nF s T ids).1,.int .i64 (nF s T ids).2])∧(¬dP s T ids≥0→l.n=((ap s T).itemsAll ids).length∧w'.ownsRow w.heap.size aT 1 l.v l.n (((ap s T).itemsAll ids).flatMap an))∧(dP s T ids≥0→l.n=0)∧ff w' v s T w0 x tp bp mp d l0 (IntKind.i64.wrap (uses+1))∧aD v w w':=by
 refine aV (D2 (some ⟨v,0,none⟩) A ids.length C w) ?_;have L:(⟨v,0,none⟩:Addr).add 13=⟨v,13,none⟩:=by rw [aG,Nat.zero_add]
 refine ac.no rfl (ag.mk _ rfl ?_);rw [L];refine(kM ⟨v,13,none⟩ uses w (aQ hR.blk) (cd hR.blk)).mono ?_;rintro e D ⟨rfl,G⟩;obtain⟨g,K⟩:=hR.used (IntKind.i64.wrap (uses+1));rw [←G]at g K;have Y:D.heap.size=w.heap.size:=by rw [G,ba]
 have Q:Rw an 1 D A ids:=hr.touch K hA;have P:=g.now.ok;refine⟨_,rfl,?_⟩;intro I V;have R:=aZ (α:=Sl×World) ids.length (fun i y=>y.2.ownsRow w.heap.size aT 1 y.1.v y.1.n (((ap s T).itemsAll (ids.take i)).flatMap an)∧y.1.n=((ap s T).itemsAll (ids.take i)).length∧y.1.n≤64*i∧(∀(j:Nat) (B:j<i) (F:j<ids.length),bY s T ids[j]=true)∧ZH D y.2) (fun i y=>∀J H m o n,I [.int .i64 (i:Int),y.1.v,.int .i64 J,.int .i64 H,.slice m o n] y.2) (cW,D) ⟨bE _ _ _ _ an,rfl,XV _,fun j B=>absurd B (Nat.not_lt_zero j),Below.refl _ _⟩ ?_ ?_
 ·exact R _ _ _ _ _
 ·rintro i M ih ⟨f,q⟩ ⟨a,k,W,c,z⟩ J H m o n;change q.ownsRow w.heap.size aT 1 f.v f.n _ at a;change f.n=_ at k;change f.n≤_ at W;change ZH D q at z;obtain⟨p,hp,Z⟩:=a_ (Q.on z) M rfl;have E:=g.on z;refine V _ f.a f.n f.c J H m o n q (ac.yes (XJ (by omega)) (ag.mk p hp ⟨by omega,by omega,_,Z,?_⟩));refine(vT q v _ tp bp mp E.vblk s T x E.now ids[i]).mono ?_;rintro e q1 ⟨l,rfl,N,U⟩;have t:=ae z U;refine⟨_,_,_,_,rfl,ac.mk (fun u=>?_) fun u=>?_⟩
  ·have u:bY s T ids[i]=false:=by simpa using u
   have b:dP s T ids=i:=gn M (by rw [u];rfl) fun j B=>by rw [c j B (by omega)];rfl
   refine⟨cW,by rw [nF,if_pos (by omega),b],fun hn=>absurd b (by omega),fun _=>rfl,g.on t,K.trans (aD.of_below t)⟩
  ·have u:bY s T ids[i]=true:=by simpa using u
   obtain⟨O,X⟩:=N u;have hlt:=GF (s:=s) P ids[i];obtain⟨r,S,hrn,e1,e2,e3,_⟩:=co.spread (aE a U) (l:=l) (ys:=(ap s T).items ids[i]) ⟨O,(Rw.of_own X (fun _=>rfl) (by decide)).1,lD X⟩ (by have:=t.size;omega) (by omega) (by omega) (by decide);have e:(ap s T).itemsAll (ids.take (i+1))=(ap s T).itemsAll (ids.take i)++(ap s T).items ids[i]:=by
    unfold Voc.itemsAll;rw [List.take_add_one,XK M,List.flatMap_append];simp
   refine⟨r.a,r.n,r.c,S,e1,Ar.nat (i+1) rfl (by omega) (ih (r,S) ⟨?_,?_,?_,?_,?_⟩ _ _ _ _ _)⟩
   ·rw [e];exact e2
   ·rw [e,List.length_append];show r.n=_;omega
   ·show r.n≤_;omega
   ·intro j B F;by_cases hji:j=i
    ·subst hji;exact u
    ·exact c j (by omega) F
   ·show ZH D S;unfold ZH;rw [Y];exact e3 D (by rw [←Y];exact t)
 ·rintro⟨f,q⟩ ⟨a,k,W,c,z⟩ J H m o n;change q.ownsRow w.heap.size aT 1 f.v f.n _ at a;change f.n=_ at k;change ZH D q at z;rw [List.take_length]at a k;have b:dP s T ids= -1:=dY fun j B=>by rw [c j B B];rfl
  exact V _ f.a f.n f.c J H m o n q (ac.no (XZ (by omega)) ⟨f,by rw [nF,if_neg (by omega)],fun _=>⟨k,a⟩,fun h=>absurd b (by omega),g.on z,K.trans (aD.of_below z)⟩)
theorem xe (w:World) (v:Nat) (s:am) (T:List aX) (hV:aW w v s T) (A:Option Addr) (C:Nat) (ids:List Int) (hr:Rw an 1 w A ids) (hA:ids≠ []→∀p,A=some p→p.block≠v) (hl:ids.length≤100000):
  CP 47 #[.pointer (some ⟨v,0,none⟩),.slice A ids.length C] w fun e w'=>∃l:Sl,e= .returned (.tuple #[l.v,.int .i64 (nF s T ids).1,.int .i64 (nF s T ids).2])∧(¬dP s T ids≥0→l.n=((ap s T).itemsAll ids).length∧w'.ownsRow w.heap.size aT 1 l.v l.n (((ap s T).itemsAll ids).flatMap an))∧aW w' v s T∧aD v w w':=by
 obtain⟨n,x,m,i,k,d,j,a,h⟩:=hV;exact(wI w v s T h A C ids hr hA hl).mono fun e w' ⟨l,b,c,_,f,g⟩=>⟨l,b,c,⟨_,_,_,_,_,_,_,_,f⟩,g⟩
theorem HF {s:am} {T:List aX} {Z:List Int} (h:(ap s T).Items Z):∀x∈Z,dV s x=true:=by
 intro x b;obtain⟨a,c⟩:=h x b;have a: -((s.specials.map (·.1)).length:Int)≤x:=a;rw [List.length_map]at a;unfold dV;rw [decide_eq_true_eq];omega
theorem Oc {w:World} {B:Nat} {e:TypeId} {sz:Nat} {l:Sl} {xs:List Value} (h:w.ownsRow B e sz l.v l.n xs):l.n≤l.c:=by
 obtain⟨a,c,e,b⟩:=iI h;have e:Value.slice l.a l.n l.c= .slice a l.n c:=e;simp only [Value.slice.injEq]at e;omega
theorem sK (a:Option Addr) (c:Nat) (xs:List Int) (f:Value) (p:Int→Bool) (w:World) (hr:Rw an 1 w a xs) (hl:xs.length≤1000000000000000)
  (hf:∀x∈xs,∀w1,ZH w w1→bM gq f [.int .i64 x] w1 (fun e w2=>e= .returned (.bool (p x))∧ZH w1 w2)):
  CP 377 #[.slice a xs.length c,f] w fun e w'=>e= .returned (.bool (decide (vy p xs≥0)))∧ZH w w':=by
 refine aJ (yi a xs.length c f w (fun v w'=>v= .bool (decide (vy p xs≥0))∧ZH w w') ?_) (by rintro v w' ⟨rfl,h⟩;exact⟨rfl,h⟩);refine(kW a c xs f p w hr hl hf).mono ?_;rintro e w1 ⟨rfl,b⟩;exact⟨_,rfl,rfl,b⟩
theorem xa (w:World) (v:Nat) (c:Array Value) (tp bp mp:Nat) (h:iv w v c tp bp mp) (s:am) (T:List aX) (x:bk) (hP:bZ w s T x tp bp mp) (A:Option Addr) (C:Nat) (Z:List Int) (hr:Rw an 1 w A Z) (hC:Z.length≤C) (hl:Z.length≤100000) (hZ:∀y∈Z,dV s y=true):
  CP 376 #[.pointer (some ⟨v,0,none⟩),.slice A Z.length C] w fun e w'=>∃l:Sl,e= .returned l.v∧l.n=((ap s T).encode Z).length∧w'.ownsRow w.heap.size aT 1 l.v l.n (((ap s T).encode Z).flatMap an)∧ZH w w':=by
 refine aJ (yw (some ⟨v,0,none⟩) A Z.length C w (fun u w'=>∃l:Sl,u=l.v∧l.n=((ap s T).encode Z).length∧w'.ownsRow w.heap.size aT 1 l.v l.n (((ap s T).encode Z).flatMap an)∧ZH w w') ?_) (by rintro v w' ⟨l,rfl,h⟩;exact⟨l,rfl,h⟩);intro o d;have g:ZH w o:=by subst d;exact ah _ _
 have m:o.heap[w.heap.size]? =some (.cells #[.pointer (some ⟨v,0,none⟩)] 31 (0,0)):=by subst d;exact aq _ _
 have n:∀ {w':World},w'.heap[w.heap.size]? =some (.cells #[.pointer (some ⟨v,0,none⟩)] 31 (0,0))→w'.cell? (nb w)=some (.pointer (some ⟨v,0,none⟩)):=fun h=>aQ h;have p:=hP.few;refine⟨_,n m,ac.no rfl ?_⟩;refine(sK A C Z _ (fun y=> !dV s y) o (hr.on g) (by omega) ?_).mono ?_
 ·intro y D f b;refine b_ (by kernel_rfl) ?_;refine aJ (Be y (some (nb w)) f (fun u w'=>u= .bool (!dV s y)∧ZH f w') ?_) (by rintro v w' ⟨rfl,h⟩;exact⟨rfl,h⟩);have a:=ae g b;refine ag.mk _ rfl ⟨_,n (aj b m),?_⟩;refine(uH f v c tp bp mp (h.on a) s (hP.on a).marks (by omega) y).mono ?_;rintro e B ⟨rfl,z⟩;subst z;exact⟨_,rfl,rfl,Below.refl _ _⟩
 ·rintro e f ⟨rfl,b⟩;have a:=ae g b;have k:vy (fun y=> !dV s y) Z= -1:=dY fun j r=>by rw [hZ _ (List.getElem_mem r)];rfl
  refine⟨_,rfl,ac.no (by rw [k];rfl) ⟨_,n (aj b m),?_⟩⟩;refine(qJ f v c tp bp mp (h.on a) s T x (hP.on a) A C Z (hr.on a) hC hl hZ).mono ?_;rintro e B ⟨l,rfl,i,t,q⟩;exact⟨_,_,_,rfl,l,rfl,i,aS t a.size,ae a q⟩
theorem qV (q:World) (v:Nat) (s:am) (T:List aX) (hV:aW q v s T) (hok:fo T) (hvok:(ap s T).Ok) (A:Option Addr) (C:Nat) (ids:List Int) (hr:Rw an 1 q A ids) (hA:ids≠ []→∀p,A=some p→p.block≠v) (hl:ids.length≤1000) (hh:∀t∈ids,(ap s T).Has t):
  CP 374 #[.agg #[.pointer (some ⟨v,0,none⟩)],.slice A ids.length C] q fun e q'=>e= .returned (.bool (decide ((ap s T).Canon ids)))∧aW q' v s T∧aD v q q':=by
 refine aJ (yu (some ⟨v,0,none⟩) A ids.length C q (fun u q'=>u= .bool (decide ((ap s T).Canon ids))∧aW q' v s T∧aD v q q') ?_) (by rintro v w' ⟨rfl,h⟩;exact⟨rfl,h⟩);intro B n;have r:ZH q B:=by subst n;exact ah _ _
 have o:∃K,B.heap[q.heap.size]? =some (.cells #[.pointer (some ⟨v,0,none⟩)] K (0,0)):=⟨_,by subst n;exact aq _ _⟩;obtain⟨K,o⟩:=o;have R:=hV.lt;refine⟨_,ai _ _ o 0,?_⟩;have a:dP s T ids= -1:=dY fun j Q=>by
  rw [(du hok _).2 (hh _ (List.getElem_mem Q))];rfl
 refine(xe B v s T (hV.on r) A C ids (hr.on r) hA (by omega)).mono ?_;rintro e Z ⟨l,rfl,w,c,J⟩;obtain⟨g,G⟩:=w (by rw [a];decide);have t:=(aD.of_below (v:=v) r).trans J;have F:=ir (s:=s) hok ids;refine⟨_,_,_,_,_,rfl,ac.no (by rw [nF,if_neg (by rw [a];decide)];rfl) ?_⟩;have k:=Rw.of_own G (fun _=>rfl) (by decide);refine⟨_,ai _ _ (J.held (by omega) o) 0,?_⟩;have f:=c;obtain⟨w0,x,Y,O,X,d,l0,L,E⟩:=c;obtain⟨H,S,I⟩:=l;change S=_ at g;subst g;refine(xa Z v _ Y O X E.vblk s T x E.now H I _ k.1 (Oc (l:=⟨H,_,I⟩) G) (by omega) (HF (Voc.itemsAll_ok hvok hh))).mono ?_;rintro e M ⟨m,rfl,i,y,D⟩;obtain⟨U,W,V⟩:=m;change W=_ at i;subst i;have P:=oO (ap s T) ((ap s T).itemsAll ids);refine⟨_,_,_,rfl,?_⟩;have z:Rw an 1 M A ids:=((hr.touch t hA).on D);refine(pw M U A V C _ ids (Rw.of_own y (fun _=>rfl) (by decide)).1 z (by omega)).mono ?_;rintro e w4 ⟨rfl,N⟩;have b:=ae D N;exact⟨_,rfl,rfl,f.on b,t.trans (aD.of_below b)⟩
theorem EE (v:Addr) (A:Option Addr) (N C:Nat) (w:World):(callMethod (ET (some v)) "First" #[.slice A N C]).run Tryz.prog w= .ok (.enter 373 #[.agg #[.pointer (some v)],.slice A N C]) w:=by kernel_rfl
def vV (s:am) (T:List aX) (ids:List Int) (r1 r2:Int):Prop:=((bP s T ids).2≠0∧r1=(bP s T ids).1∧r2=(bP s T ids).2)∨((bP s T ids).2=0∧(∀t∈ids,bY s T t=true)∧∃o,cN (ap s T) ids o∧r1=dv o∧r2=0)
theorem Fs (w:World) (v:Nat) (s:am) (T:List aX) (hV:aW w v s T) (hok:fo T) (hvok:(ap s T).Ok) (A:Option Addr) (C:Nat) (ids:List Int) (hr:Rw an 1 w A ids) (hC:ids.length≤C) (hA:ids≠ []→∀p,A=some p→p.block≠v) (hl:ids.length≤1000∨4000<ids.length):
  CP 23 #[.pointer (some ⟨v,0,none⟩),.slice A ids.length C] w fun e w'=>∃r1 r2:Int,e= .returned (.tuple #[.int .i64 r1,.int .i64 r2])∧vV s T ids r1 r2∧aW w' v s T∧aD v w w':=by
 have r:CP 24 #[.pointer (some ⟨v,0,none⟩),ET (some ⟨v,0,none⟩),.slice A ids.length C] w fun e w'=>∃(r1 r2:Int),e= .returned (.tuple #[.int .i64 r1,.int .i64 r2])∧vV s T ids r1 r2∧aW w' v s T∧aD v w w':=by
  refine aJ (iN (some ⟨v,0,none⟩) (ET (some ⟨v,0,none⟩)) A ids.length C w (fun u w'=>∃(r1 r2:Int),u= .tuple #[.int .i64 r1,.int .i64 r2]∧vV s T ids r1 r2∧aW w' v s T∧aD v w w') ?_) (by rintro v w' ⟨r1,r2,rfl,h⟩;exact⟨r1,r2,rfl,h⟩);refine(iF w v s T hV A C ids hr).mono ?_;rintro e j ⟨rfl,c⟩;refine⟨_,_,rfl,ac.mk (fun d=>?_) fun d=>?_⟩
  ·have d:(bP s T ids).2≠0:=by simpa using d
   exact⟨_,_,rfl,.inl ⟨d,rfl,rfl⟩,hV.on c,aD.of_below c⟩
  ·have d:(bP s T ids).2=0:=by simpa using d
   have f:ids.length≤4000∧¬dP s T ids≥0:=by
    have a:=d;unfold bP at a;split at a
    ·cases a
    ·split at a
     ·cases a
     ·exact⟨by omega,by assumption⟩
   have b:=ft f.2;have i:∀t∈ids,(ap s T).Has t:=fun t y=>(du hok t).1 (b t y);refine⟨false,j,by kernel_rfl,ac.no rfl ⟨_,_,EE ⟨v,0,none⟩ A ids.length C j,?_⟩⟩;refine(qU j v s T (hV.on c) A C ids (hr.on c) hA hC (by omega) ?_).mono ?_
   ·intro m E F q n K H G x l;have:=qV q v s T n hok hvok E F (ids.take m) x (fun _=>l) (by rw [List.length_take];omega) fun t y=>i t (List.mem_of_mem_take y);rw [List.length_take,Nat.min_eq_left H]at this;exact this
   rintro e D ⟨o,rfl,B,g,I⟩;have t:=(aD.of_below (v:=v) c).trans I;cases o with
   |none=>
    refine⟨0,false,rfl,(kn 0 false D).mono ?_⟩;rintro e J ⟨rfl,z⟩;subst z;exact⟨_,rfl,_,_,rfl,.inr ⟨d,b,none,B,rfl,rfl⟩,g,t⟩
   |some k=>
    refine⟨(k:Int),true,rfl,(kn (k:Int) true D).mono ?_⟩;rintro e J ⟨rfl,z⟩;subst z;exact⟨_,rfl,_,_,rfl,.inr ⟨d,b,some k,B,rfl,rfl⟩,g,t⟩
 refine aJ (Dz (some ⟨v,0,none⟩) A ids.length C w (fun u w'=>∃(r1 r2:Int),u= .tuple #[.int .i64 r1,.int .i64 r2]∧vV s T ids r1 r2∧aW w' v s T∧aD v w w') ?_) (by rintro v w' ⟨r1,r2,rfl,h⟩;exact⟨r1,r2,rfl,h⟩);refine r.mono ?_;rintro e j ⟨r1,r2,rfl,h⟩;exact⟨_,_,rfl,_,_,rfl,h⟩
theorem Cs {P:Program} (a b:Int) (ts:Array TypeId) (t:TypeId) (w:World):(Builtin.min_ ts t #[.int .i64 a,.int .i64 b]).run P w= .ok (.int .i64 (if b<a then b else a)) w:=by
 simp [Builtin.min_,Builtin.min2]
def jf (xs:List (Int×Bs)) (t:Bs):Nat→Option Nat
 |0=>none
 |n+1=>match(xs.map (·.2)).idxOf? (t.take (n+1))with
  |some i=>some i
  |none=>jf xs t n
def eU (xs:List (Int×Bs)) (t:Bs):Option Nat:=jf xs t (min (fa xs) t.length).toNat
theorem FU {l:List Bs} {k:Bs} {i:Nat} (h:l.idxOf? k=some i):∃hi:i<l.length,l[i]=k:=by
 unfold List.idxOf? at h;obtain⟨hi,a,_⟩:=List.findIdx?_eq_some_iff_getElem.1 h;exact⟨hi,by simpa using a⟩
theorem kY {xs:List (Int×Bs)} {t:Bs}:∀ {n:Nat} {i:Nat},jf xs t n=some i→∃(hi:i<xs.length) (k:Nat),1≤k∧k≤n∧(xs[i]).2=t.take k
 |n+1,i,h=>by
  unfold jf at h;cases hx:(xs.map (·.2)).idxOf? (t.take (n+1))with
  |some j=>
   rw [hx]at h;cases h;obtain⟨hi,he⟩:=FU hx;rw [List.length_map]at hi;rw [List.getElem_map]at he;exact⟨hi,n+1,by omega,XV _,he⟩
  |none=>
   rw [hx]at h;obtain⟨hi,k,h1,h2,h3⟩:=kY (n:=n) h;exact⟨hi,k,h1,by omega,h3⟩
theorem uu {xs:List (Int×Bs)} {b:UInt8} {r:Bs} (hf:gO xs b.toNat=false):∀n,jf xs (b::r) n=none
 |0=>rfl
 |n+1=>by
  cases h:jf xs (b::r) (n+1)with
  |none=>rfl
  |some i=>
   exfalso;obtain⟨hi,k,h1,_,h3⟩:=kY h;have:gO xs b.toNat=true:=by
    unfold gO;rw [List.any_eq_true];refine⟨xs[i],List.getElem_mem hi,?_⟩;rw [h3];obtain⟨m,rfl⟩:∃m,k=m+1:=⟨k-1,by omega⟩;simp
   rw [hf]at this;cases this
def MN:Option Nat→Value
 |none=>.tuple #[.int .i64 0,.bool false]
 |some i=>.tuple #[.int .i64 (-1- (i:Int)),.bool true]
theorem vg (xs:List (Int×Bs)):0≤fa xs:=by
 unfold fa;have:∀(l:List (Int×Bs)) (n:Int),0≤n→0≤l.foldl (fun n x=>if(x.2.length:Int)>n then(x.2.length:Int)else n) n:=by
  intro l;induction l with
  |nil=>exact fun n h=>h
  |cons x l ih=>
   intro n h;rw [List.foldl_cons];refine ih _ ?_;split<;>omega
 exact this xs 0 (Int.le_refl _)
theorem A_ (w:World) (p:Nat) (xs:List (Int×Bs)) (h:ni w p xs) (hl:xs.length≤1000000) (t:Bs) (ht:t.length≤1000000000):
  CP 173 #[.pointer (some ⟨p,0,none⟩),.string (str t)] w fun e w'=>e= .returned (MN (eU xs t))∧ZH w w':=by
 refine aJ (De (some ⟨p,0,none⟩) (str t) w (fun u w'=>u=MN (eU xs t)∧ZH w w') ?_) (by rintro v w' ⟨rfl,h⟩;exact⟨rfl,h⟩);intro E D;have k:ZH w E:=by subst D;exact aU w
 cases t with
 |nil=>
  refine ac.no rfl (ac.yes (by simp [str]) ⟨?_,k⟩);have:eU xs []=none:=by
   unfold eU;have:=vg xs;rw [show(min (fa xs) (([]:Bs).length:Int)).toNat=0 by simp;omega];rfl
  rw [this];rfl
 |cons b r=>
  have O:=h.on k;obtain⟨l,T,U,c,m,o,K,L,N,H⟩:=O;have z:dM (str (b::r)) 0=(b.toNat:Int):=dB (b::r) 0 (by simp);have f:=b.toNat_lt;have R:=vg xs;refine ac.no rfl (ac.no ?_ ⟨by omega,by rw [aP];simp,ag.mk _ rfl ?_⟩)
  ·rw [Bool.eq_false_iff];intro d;have:=(beq_iff_eq.1 d);simp [str]at this
  rw [z];refine⟨by omega,by omega,gO xs b.toNat,?_,ac.mk (fun s=>?_) fun s=>?_⟩
  ·rw [Addr.add_add,ai _ _ m,show((b.toNat:Int)).toNat*1=b.toNat by omega];exact o.first _ f
  ·have s:gO xs b.toNat=false:=by simpa using s
   rw [eU,uu s];exact⟨rfl,k⟩
  ·refine ag.mk _ rfl ⟨_,by rw [ai _ _ m];exact o.most,?_⟩;obtain⟨M,P⟩:∃M:Nat,M=(min (fa xs) ((b::r).length:Int)).toNat:=⟨_,rfl⟩;have y:(if(((str (b::r)).size:Nat):Int) <fa xs then(((str (b::r)).size:Nat):Int)else fa xs)=(M:Int):=by
    rw [aP];split<;>omega
   refine⟨(M:Int),E,by rw [←y];exact Cs _ _ _ _ _,?_⟩;intro I J;have g:∀(n:Nat),n≤M→jf xs (b::r) n=eU xs (b::r)→∀(q:World),ZH w q→∀(G:Bool) (F:Int),I [.int .i64 (n:Int),.bool G,.int .i64 F] q:=by
    intro n;induction n with
    |zero=>
     intro S d q B G F;refine J _ _ _ q (ac.no (XZ (by omega)) ⟨?_,B⟩);rw [←d];rfl
    |succ n ihn=>
     intro S d q B G F;refine J _ _ _ q (ac.yes (XJ (by omega)) ?_);intro j C;have x:=ae B (show ZH q j by subst C;exact aU q);obtain⟨l,T,U,c,m,o,K,L,N,H⟩:=h.on x;have a:=eL mP fk en H ((b::r).take (n+1));have A:(str (b::r)).extract (0:Int).toNat (((n+1:Nat):Int)).toNat=str ((b::r).take (n+1)):=by
      rw [jg];rfl
     refine ag.mk _ rfl ⟨_,by rw [ai _ _ m];exact o.c2,by omega,by omega,by rw [aP];omega,?_⟩;rw [A];unfold jf at d;rw [pl]at a;cases hx:(xs.map (·.2)).idxOf? ((b::r).take (n+1))with
     |some i=>
      rw [hx]at a d;obtain⟨Q,_⟩:=FU hx;rw [List.length_map]at Q;refine⟨_,_,j,a,ac.yes rfl ((mG i (by omega) j).mono ?_)⟩;rintro e V ⟨rfl,W⟩;subst V;refine⟨_,rfl,?_,x⟩;rw [←d];rfl
     |none=>
      rw [hx]at a d;exact⟨_,_,j,a,ac.no rfl (Ar.nat n (by omega) (by omega) (ihn (by omega) d j x _ _))⟩
   exact g M (XV _) (by rw [P];rfl) E k _ _
def lP (xs:List (Int×Bs)):Nat→Bs→List Int
 |0,_=>[]
 |_,[]=>[]
 |n+1,b::r=>match eU xs (b::r)with
  |none=>(b.toNat:Int)::lP xs n r
  |some i=>(-1- (i:Int))::lP xs n ((b::r).drop ((xs[i]?).map (·.2)|>.getD []).length)
def c_ (xs:List (Int×Bs)) (t:Bs):List Int:=lP xs t.length t
theorem kw {xs:List (Int×Bs)} {t:Bs} {i:Nat} (h:eU xs t=some i):∃hi:i<xs.length,1≤(xs[i]).2.length∧(xs[i]).2<+:t:=by
 obtain⟨hi,k,b,c,a⟩:=kY h;refine⟨hi,?_,by rw [a];exact List.take_prefix _ _⟩;rw [a,List.length_take];omega
theorem lF {xs:List (Int×Bs)}:∀ {n m:Nat} {t:Bs},t.length≤n→t.length≤m→lP xs n t=lP xs m t
 |0,0,_,_,_=>rfl
 |0,m+1,[],_,_=>rfl
 |n+1,0,[],_,_=>rfl
 |n+1,m+1,[],_,_=>rfl
 |0,m+1,b::r,h,_=>by simp at h
 |n+1,0,b::r,_,h=>by simp at h
 |n+1,m+1,b::r,h1,h2=>by
  unfold lP;have h1:r.length≤n:=by simpa using h1
  have h2:r.length≤m:=by simpa using h2
  cases hm:eU xs (b::r)with
  |none=>
   dsimp only;rw [lF h1 h2]
  |some i=>
   obtain⟨a,c,_⟩:=kw hm;dsimp only;rw [XK a];simp only [Option.map_some,Option.getD_some];have:((b::r).drop (xs[i]).2.length).length≤r.length:=by rw [List.length_drop];simp;omega
   rw [lF (n:=n) (m:=m) (by omega) (by omega)]
theorem qp {xs:List (Int×Bs)} {b:UInt8} {r:Bs} (h:eU xs (b::r)=none):c_ xs (b::r)=(b.toNat:Int)::c_ xs r:=by
 unfold c_;rw [List.length_cons,lP,h]
theorem qt {xs:List (Int×Bs)} {b:UInt8} {r:Bs} {i:Nat} (h:eU xs (b::r)=some i) (hi:i<xs.length):c_ xs (b::r)=(-1- (i:Int))::c_ xs ((b::r).drop (xs[i]).2.length):=by
 unfold c_;rw [List.length_cons,lP,h];dsimp only;rw [XK hi];simp only [Option.map_some,Option.getD_some];obtain⟨_,a,_⟩:=kw h;rw [lF (m:=((b::r).drop (xs[i]).2.length).length) (by rw [List.length_drop];simp;omega) (XV _)]
theorem kB (xs:List (Int×Bs)):∀(n:Nat) (t:Bs),t.length≤n→(c_ xs t).length≤t.length
 |_,[],_=>XV _
 |0,b::r,h=>by simp at h
 |n+1,b::r,h=>by
  have h:r.length≤n:=by simpa using h
  cases hm:eU xs (b::r)with
  |none=>
   rw [qp hm];have:=kB xs n r h;simp;omega
  |some i=>
   obtain⟨a,d,_⟩:=kw hm;rw [qt hm a];have c:((b::r).drop (xs[i]).2.length).length≤r.length:=by rw [List.length_drop];simp;omega
   have:=kB xs n _ (by omega:((b::r).drop (xs[i]).2.length).length≤n);simp only [List.length_cons];omega
set_option maxHeartbeats 1000000 in
theorem t_ (w:World) (p:Nat) (xs:List (Int×Bs)) (h:ni w p xs) (hl:xs.length≤1000000) (t:Bs) (ht:t.length≤1000000):
  CP 119 #[.pointer (some ⟨p,0,none⟩),.string (str t)] w fun e w'=>∃l:Sl,e= .returned l.v∧w'.ownsRow w.heap.size aT 1 l.v l.n ((c_ xs t).flatMap an)∧ZH w w':=by
 refine aJ (CO (some ⟨p,0,none⟩) (str t) w (fun u w'=>∃l:Sl,u=l.v∧w'.ownsRow w.heap.size aT 1 l.v l.n ((c_ xs t).flatMap an)∧ZH w w') ?_) (by rintro v w' ⟨l,rfl,h⟩;exact⟨l,rfl,h⟩);intro I V;have B:∀(d i:Nat) (f:Sl) (a:List Int) (q:World),t.length-i≤d→i≤t.length→a.length≤i→a++c_ xs (t.drop i)=c_ xs t→q.ownsRow w.heap.size aT 1 f.v f.n (a.flatMap an)→ZH w q→I [.int .i64 (i:Int),f.v] q:=by
  have s:∀(i:Nat) (f:Sl) (a:List Int) (q:World),i=t.length→a++c_ xs (t.drop i)=c_ xs t→q.ownsRow w.heap.size aT 1 f.v f.n (a.flatMap an)→ZH w q→I [.int .i64 (i:Int),f.v] q:=by
   intro i f a q N c m r;subst N;rw [List.drop_length]at c;have c:a=c_ xs t:=by rw [←c];exact(List.append_nil a).symm
   subst c;exact V _ f.a f.n f.c q (ac.no (XZ (by rw [aP];omega)) ⟨f,rfl,m,r⟩)
  intro d;induction d with
  |zero=>
   intro i f a q hd N O c m r;exact s i f a q (by omega) c m r
  |succ d ihd=>
   intro i f a q hd N O c m r;by_cases k:i=t.length
   ·exact s i f a q k c m r
   have k:i<t.length:=by omega
   have hon:f.n=a.length:=(Rw.of_own m (fun _=>rfl) (by decide)).2;have g:t.drop i=t[i]::t.drop (i+1):=List.drop_eq_getElem_cons k;refine V _ f.a f.n f.c q (ac.yes (XJ (by rw [aP];omega)) ?_);intro J W;have M:(str t).extract ((i:Int)).toNat ((((str t).size:Nat):Int)).toNat=str (t.drop i):=by
    rw [jg,aP];congr 1;rw [show((i:Int)).toNat=i by omega,show(((t.length:Nat):Int)).toNat=t.length by omega];exact List.take_of_length_le (by rw [List.length_drop];exact XV _)
   refine⟨by omega,by rw [aP];omega,by omega,?_⟩;rw [M];refine(A_ q p xs (h.on r) hl (t.drop i) (by rw [List.length_drop];omega)).mono ?_;rintro e w3 ⟨rfl,C⟩;have n:=ae r C;rw [g]at c⊢;cases hm:eU xs (t[i]::t.drop (i+1))with
   |none=>
    rw [qp hm]at c;refine⟨_,_,rfl,ac.yes rfl ⟨by omega,by rw [aP];omega,?_⟩⟩;intro w4 A;have L:dM (str t) (i:Int)=((t[i]).toNat:Int):=dB t i k;have K:=(t[i]).toNat_lt;rw [L,cL (by show(-9223372036854775808:Int)≤_;omega) (by show _≤(9223372036854775807:Int);omega)]at A;obtain⟨b,S,e1,E,F,G,_⟩:=co.push (aE m C) ((t[i]).toNat:Int) A rfl n.size (by omega) (by decide);exact⟨b.a,b.n,b.c,S,E,Ar.nat (i+1) rfl (by omega) (W _ b.a b.n b.c S (ihd (i+1) b (a++ [((t[i]).toNat:Int)]) S (by omega) (by omega) (by rw [List.length_append];simp;omega) (by rw [List.append_assoc];exact c) F (G _ n)))⟩
   |some j=>
    obtain⟨X,hp,y⟩:=kw hm;rw [qt hm X]at c;refine⟨_,_,rfl,ac.no rfl ?_⟩;refine(oY w3 p xs (h.on n) hl (-1- (j:Int)) (by omega)).mono ?_;rintro e w6 ⟨rfl,D⟩;have P:=ae n D;have H:iK xs (-1- (j:Int))=some xs[j]:=by
     unfold iK;rw [if_pos (by omega),show(-1- (-1- (j:Int))).toNat=j by omega,XK X]
    rw [H];refine⟨_,_,_,rfl,?_⟩;intro w7 Q;refine bg [.int .i64 0,.string ⟨#[]⟩] [.int .i64 (xs[j]).1,.string (str (xs[j]).2)] rfl (by intro u Y;simp only [List.mem_cons,List.not_mem_nil,or_false]at Y;rcases Y with rfl |rfl<;>rfl) w7 Q ?_
    intro w8 Z z8 U;have z:=ae P U;intro w9 R;obtain⟨b,o,e1,E,F,G,e5⟩:=co.push (aE (aE (aE m C) D) U) (-1- (j:Int)) R rfl z.size (by omega) (by decide);have T:o.heap[w6.heap.size]? =some (.cells #[.int .i64 (xs[j]).1,.string (str (xs[j]).2)] 87 (0,0)):=by
     rw [e5 _ (XY.1 Z).1 (fun e=>by
      have:=(bL (aE (aE m C) D) _ e).2;omega)]
     exact Z
    have x:=y.length_le;simp only [List.length_cons,List.length_drop]at x;refine⟨b.a,b.n,b.c,o,E,_,ai _ _ T 1,Ar.nat (i+(xs[j]).2.length) (by rw [aP];omega) (by omega) (W _ b.a b.n b.c o (ihd (i+(xs[j]).2.length) b (a++ [-1- (j:Int)]) o (by omega) (by omega) (by rw [List.length_append];simp;omega) ?_ F (G _ z)))⟩;rw [List.append_assoc];rw [←g,List.drop_drop]at c;exact c
 have:=B t.length 0 cW [] w (by omega) (Nat.zero_le _) (XV _) rfl (bE _ _ _ _ an) (Below.refl _ _);exact this
theorem xi (w:World) (A A2:Option Addr) (C C2:Nat) (xs ys:List Int) (hr:Rw an 1 w A xs) (hr2:Rw an 1 w A2 ys) (hl:xs.length≤1000000000):
  CP 52 #[.slice A xs.length C,.slice A2 ys.length C2] w fun e w'=>e= .returned (.bool (decide (xs=ys)))∧ZH w w':=by
 refine aJ (DE A xs.length C A2 ys.length C2 w (fun u w'=>u= .bool (decide (xs=ys))∧ZH w w') ?_) (by rintro v w' ⟨rfl,h⟩;exact⟨rfl,h⟩);refine ac.mk (fun c=>⟨?_,Below.refl _ _⟩) fun d=>?_
 ·have c:¬(xs.length:Int)=(ys.length:Int):=by simpa using c
  rw [XZ fun e=>c (by rw [e])]
 ·have d:(xs.length:Int)=(ys.length:Int):=by simpa using d
  intro I r;have p:=aZ (α:=World) xs.length (fun i q=>(∀j,j<i→xs[j]? =ys[j]?)∧ZH w q) (fun i q=>∀f,I [.int .i64 (i:Int),.bool f] q) w ⟨fun j g=>absurd g (Nat.not_lt_zero j),Below.refl _ _⟩ ?_ ?_
  ·exact p _
  ·rintro i s z q ⟨o,m⟩ f;refine r _ f q (ac.yes (XJ (by omega)) ?_);intro t n;have a:=ae m (show ZH q t by subst n;exact aU q);obtain⟨B,k,x⟩:=a_ (hr.on a) s rfl;obtain⟨D,l,y⟩:=a_ (hr2.on a) (show i<ys.length by omega) rfl;refine ag.mk B k ⟨by omega,by omega,_,x,ag.mk D l ⟨by omega,by omega,_,y,ac.mk (fun b=>⟨?_,a⟩) fun b=>?_⟩⟩
   ·have b:¬xs[i]=ys[i]:=by simpa using b
    rw [XZ fun e=>b (by subst e;rfl)]
   ·have b:xs[i]=ys[i]:=by simpa using b
    refine Ar.nat (i+1) rfl (by omega) (z t ⟨fun j g=>?_,a⟩ _);by_cases e:j=i
    ·subst e;rw [XK s,XK (by omega),b]
    ·exact o j (by omega)
  ·rintro q ⟨o,m⟩ f;refine r _ f q (ac.no (XZ (by omega)) ⟨?_,m⟩);rw [XJ];apply List.ext_getElem?;intro j;by_cases g:j<xs.length
   ·exact o j g
   ·rw [List.getElem?_eq_none_iff.2 (by omega),List.getElem?_eq_none_iff.2 (by omega)]
theorem vY (w:Bs) (u:Nat) (h:Lib.decDigits u=w) (hu:u≤yZ) (hm:(u:Int)≤ox):iR w=some (u:Int):=by
 unfold iR;rw [qf w ox u hu hm h];rfl
theorem KY:iR [51,48,48]=some 300:=vY _ 300 (by rw [f_ (by decide),f_ (by decide),Lib.decDigits_one (by decide)];rfl) (by decide) (by decide)
theorem Om:iR [52,56]=some 48:=vY _ 48 (by rw [f_ (by decide),Lib.decDigits_one (by decide)];rfl) (by decide) (by decide)
theorem NP:iR [53,55]=some 57:=vY _ 57 (by rw [f_ (by decide),Lib.decDigits_one (by decide)];rfl) (by decide) (by decide)
theorem OM:iR [49]=some 1:=vY _ 1 (by rw [Lib.decDigits_one (by decide)];rfl) (by decide) (by decide)
def sT:am:={ranked:=true,tokens:=[[97,98],[97,98,99]],specials:=[(300,[60])],classes:=[(48,57,1)]}
def tT:Bs:=[118,111,99,97,98,32,114,97,110,107,115,10,116,111,107,101,110,32,54,49,54,50,10,116,111,107,101,110,32,54,49,54,50,54,51,10,115,112,101,99,105,97,108,32,51,48,48,32,51,99,10,99,108,97,115,115,32,52,56,32,53,55,32,49,10]
def TT:List aX:=bU++ [([97,98],(97,98)),([97,98,99],(256,99))]
theorem K9:sT.right=true:=by decide+kernel
def Oe:Bs:=[118,111,99,97,98,32,114,97,110,107,115]
def N8:Bs:=[116,111,107,101,110,32,54,49,54,50]
def Oj:Bs:=[116,111,107,101,110,32,54,49,54,50,54,51]
def L1:Bs:=[115,112,101,99,105,97,108,32,51,48,48,32,51,99]
def KQ:Bs:=[99,108,97,115,115,32,52,56,32,53,55,32,49]
def TU:am:={ranked:=true}
def TS:am:={ranked:=true,tokens:=[[97,98]]}
def Ti:am:={ranked:=true,tokens:=[[97,98],[97,98,99]]}
def Sw:am:={ranked:=true,tokens:=[[97,98],[97,98,99]],specials:=[(300,[60])]}
theorem N0:gz {} 0 0 Oe=some (TU,0):=by kernel_rfl
theorem NQ:gz TU 0 1 N8=some (TS,1):=by kernel_rfl
theorem Od:gz TS 1 2 Oj=some (Ti,1):=by kernel_rfl
theorem Qt:uI Ti [jH,[51,48,48],[51,99]]=some (Sw,2):=by
 rw [uI,if_neg (by decide),if_neg (by decide),if_neg (by decide),if_pos rfl];rw [lJ,KY,show jA [51,99]=some [60] by decide+kernel];rfl
theorem Ox:gz Ti 1 3 L1=some (Sw,2):=by
 unfold gz;rw [show cH 32 L1= [jH,[51,48,48],[51,99]] by decide+kernel,Qt];decide+kernel
theorem O1:uI Sw [pp,[52,56],[53,55],[49]]=some (sT,3):=by
 rw [uI,if_neg (by decide),if_neg (by decide),if_neg (by decide),if_neg (by decide),if_pos rfl];rw [qM,Om,NP,OM];rfl
theorem Oq:gz Sw 2 4 KQ=some (sT,3):=by
 unfold gz;rw [show cH 32 KQ= [pp,[52,56],[53,55],[49]] by decide+kernel,O1];decide+kernel
theorem Ls:jz tT= .ok sT:=by
 have a:(cH 10 tT).dropLast= [Oe,N8,Oj,L1,KQ]:=by decide+kernel
 have b:jq {} 0 0 [Oe,N8,Oj,L1,KQ]= .ok (sT,3):=by
  simp only [jq,Nat.zero_add,Nat.reduceAdd,N0,NQ,Od,Ox,Oq]
 unfold jz;rw [a,b];exact if_pos ⟨by decide+kernel,by simp⟩
theorem Lj:dk sT= .ok TT:=by
 have h:(match dk sT with | .ok t=>decide (t=TT) | .error _=>false)=true:=by decide+kernel
 cases hx:dk sT with
 |error q=>rw [hx]at h;cases h
 |ok t=>rw [hx]at h;rw [XQ h]
def bT:Bs:=[97,98,99,97,98,49,60]
def qZ:List Int:=[257,256,49,300]
theorem Nu:c_ sT.specials bT= [97,98,99,97,98,49, -1]:=by decide+kernel
theorem Qe:(ap sT TT).encode [97,98,99,97,98,49, -1]=qZ:=by decide+kernel
theorem P0:(ap sT TT).Canon qZ:=by decide+kernel
theorem Qp:(ap sT TT).Canon (qZ.take 1):=by decide+kernel
theorem O3:(ap sT TT).Canon (qZ.take 2):=by decide+kernel
theorem Pm:(ap sT TT).Canon (qZ.take 3):=by decide+kernel
theorem LP:bP sT TT qZ=(0,0):=by decide+kernel
theorem GJ {g:FuncId} {pre cap:Array Value} {args:List Value} {w:World} {R:Ending→World→Prop} (hg:gq.fns g=true) (h:CP g (pre.toList++(args++cap.toList)).toArray w R):bM gq (.func (.func g) pre cap) args w R:=by
 unfold bM;simp only [hg];exact h
theorem Ew (w:World) (v:Nat) (c:Array Value) (tp bp mp:Nat) (h:iv w v c tp bp mp) (s:am) (T:List aX) (x:bk) (hP:bZ w s T x tp bp mp) (t:Bs) (ht:t.length≤4000) (hZ:∀y∈c_ s.specials t,dV s y=true):
  CP 118 #[.pointer (some ⟨v,0,none⟩),.string (str t),.func (.func 119) #[.pointer (some ⟨mp,0,none⟩)] #[]] w fun e w'=>∃l:Sl,e= .returned (.tuple #[l.v,.int .i64 0])∧l.n=((ap s T).encode (c_ s.specials t)).length∧w'.ownsRow w.heap.size aT 1 l.v l.n (((ap s T).encode (c_ s.specials t)).flatMap an)∧ZH w w':=by
 refine aJ (zG (some ⟨v,0,none⟩) (str t) (.func (.func 119) #[.pointer (some ⟨mp,0,none⟩)] #[]) w (fun u w'=>∃l:Sl,u= .tuple #[l.v,.int .i64 0]∧l.n=((ap s T).encode (c_ s.specials t)).length∧w'.ownsRow w.heap.size aT 1 l.v l.n (((ap s T).encode (c_ s.specials t)).flatMap an)∧ZH w w') ?_) (by rintro v w' ⟨l,rfl,h⟩;exact⟨l,rfl,h⟩);refine ac.no rfl (ac.no (by rw [aP];exact XZ (by omega)) ?_);refine GJ (by kernel_rfl) ?_;have a:=(dz hP.right).2.2.1;refine(t_ w mp s.specials hP.marks a t (by omega)).mono ?_;rintro e p ⟨l,rfl,f,b⟩;have m:=(Rw.of_own f (fun _=>rfl) (by decide)).2;have n:=(Rw.of_own f (fun _=>rfl) (by decide)).1;have j:=Gb f;have o:=kB s.specials t.length t (XV _);refine⟨_,_,_,rfl,?_⟩;rw [m];refine(qJ p v c tp bp mp (h.on b) s T x (hP.on b) l.a l.c (c_ s.specials t) n (by omega) (by omega) hZ).mono ?_;rintro e q ⟨k,rfl,i,d,g⟩;exact⟨_,_,_,rfl,k,rfl,i,aS d b.size,ae b g⟩
theorem uC (w:World) (v:Nat) (c:Array Value) (tp bp mp:Nat) (h:iv w v c tp bp mp) (s:am) (T:List aX) (x:bk) (hP:bZ w s T x tp bp mp) (t:Bs) (ht:t.length≤4000) (hZ:∀y∈c_ s.specials t,dV s y=true):
  CP 57 #[.pointer (some ⟨v,0,none⟩),.string (str t)] w fun e w'=>∃l:Sl,e= .returned (.tuple #[l.v,.int .i64 0])∧l.n=((ap s T).encode (c_ s.specials t)).length∧w'.ownsRow w.heap.size aT 1 l.v l.n (((ap s T).encode (c_ s.specials t)).flatMap an)∧ZH w w':=by
 refine aJ (E1 (some ⟨v,0,none⟩) (str t) w (fun u w'=>∃l:Sl,u= .tuple #[l.v,.int .i64 0]∧l.n=((ap s T).encode (c_ s.specials t)).length∧w'.ownsRow w.heap.size aT 1 l.v l.n (((ap s T).encode (c_ s.specials t)).flatMap an)∧ZH w w') ?_) (by rintro v w' ⟨l,rfl,h⟩;exact⟨l,rfl,h⟩);refine(eD h).mono ?_;rintro e b ⟨rfl,rfl⟩;refine⟨_,rfl,(Ew b v c tp bp mp h s T x hP t ht hZ).mono ?_⟩;rintro e d ⟨l,rfl,a⟩;exact⟨_,_,_,_,rfl,l,rfl,a⟩
theorem vZ (t:Bs) (w:World) (h:tg w) {s:am} {T:List aX} (hl:t.length≤60000) (hs:jz t= .ok s) (hright:s.right=true) (hT:dk s= .ok T):
  CP 31 #[.string (str t)] w fun e w'=>∃p,e= .returned (.tuple #[.pointer (some ⟨p,0,none⟩),.int .i64 0,.int .i64 0])∧ka w.heap.size w' p s T∧ZH w w':=by
 refine aJ (Fe (str t) w (fun v w'=>∃p,v= .tuple #[.pointer (some ⟨p,0,none⟩),.int .i64 0,.int .i64 0]∧ka w.heap.size w' p s T∧ZH w w') ?_) (by rintro v w' ⟨p,rfl,h⟩;exact⟨p,rfl,h⟩);refine(tN t w h.pow h.errs h.mx).mono ?_;rintro e q ⟨v,rfl,a,f⟩;unfold eB at a;rw [if_neg (by omega),hs]at a;obtain⟨x,rfl,l⟩:=a;refine⟨_,_,_,_,_,_,_,_,_,_,_,_,_,_,_,_,0,0,rfl,?_⟩;intro m c;refine nh x m c ?_;intro n i d;have b:=ae f d;refine ac.no rfl ⟨_,_,_,_,_,_,_,_,_,_,_,_,_,_,_,_,dX i,?_⟩;refine(qu n x s (l.on d) hright).mono ?_;rintro e o ⟨v,rfl,g,a⟩;rw [hT]at a;obtain⟨p,rfl,k⟩:=a;refine⟨_,_,_,_,rfl,?_⟩;intro J j;exact ac.no rfl (ac.no rfl (j 0 o ⟨p,rfl,k.base b.size,ae b g⟩))
theorem N9:∀y∈c_ sT.specials bT,dV sT y=true:=by rw [Nu];decide+kernel
theorem oH (w:World) (h:tg w):CP 12 #[] w fun e w'=>e= .returned (.bool true)∧ZH w w':=by
 refine aV (DL w) ?_;refine(vZ tT w h (by decide) Ls K9 Lj).mono ?_;rintro e M ⟨v,rfl,j,E⟩;have t:=j.voc.2;have J:=j.voc.1.lt;obtain⟨N,x,L,G,K,m,_⟩:=j;refine⟨_,_,_,rfl,(uC M v _ L G K m.vblk sT TT x m.now bT (by decide) N9).mono ?_⟩;rintro e D ⟨l,rfl,A,r,y⟩;rw [Nu,Qe]at A r;have B:=(Rw.of_own r (fun _=>rfl) (by decide)).1;have n:aW D v sT TT:=⟨_,_,_,_,_,_,_,_,m.on y⟩;have c:qZ≠ []→∀p,l.a=some p→p.block≠v:=fun _ p I=>by
  have:=iz r p I;omega
 refine⟨_,_,_,_,rfl,?_⟩;rw [A];refine(sI D v sT TT n l.a l.c qZ B c).mono ?_;rintro e i ⟨H,C,f⟩;obtain⟨_,_,o,d,rfl⟩:=f.resolve_left (fun h=>h.1 (by rw [LP]));have a:o=none:=by
  cases o with
  |none=>rfl
  |some k=>exact absurd (show(ap sT TT).Canon (qZ.take (k+1))from(match k,d.1 with |0,_=>Qp |1,_=>O3 |2,_=>Pm |3,_=>P0)) d.2.2
 subst a;have s:=B.touch C c;have b:=ae E y;have q:ZH w i:=b.trans (C.below t b.size);refine⟨_,_,rfl,ac.yes rfl (ac.yes rfl ?_)⟩;intro u g;have z:ZH i u:=by subst g;exact ah _ _
 refine(xi u l.a (some (nb i)) l.c 4 qZ qZ (s.on z) (Km i u qZ _ rfl g) (by decide)).mono ?_;rintro e O ⟨rfl,F⟩;exact⟨_,rfl,ac.yes (by simp) (ac.yes rfl ⟨rfl,ae (ae q z) F⟩)⟩
theorem gi {V:Voc} (hV:V.Ok) {ids:List Int} (hh:∀t∈ids,V.Has t) {o o':Option Nat} (h:cN V ids o) (h':cN V ids o'):o=o':=by
 have a:∀ {n m:Nat},n≤m→V.Canon (ids.take m)→V.Canon (ids.take n):=by
  intro n m d c;have:ids.take m=ids.take n++(ids.take m).drop n:=by
   conv=>lhs;rw [←List.take_append_drop n (ids.take m)]
   rw [List.take_take,Nat.min_eq_left d]
  rw [this]at c;exact(Voc.canon_append hV (fun t f=>hh t (by rw [←this]at f;exact List.mem_of_mem_take f)) c).1
 have b:V.Canon ids→∀n,V.Canon (ids.take n):=by
  intro c n;by_cases hn:n≤ids.length
  ·exact a hn (by rw [List.take_length];exact c)
  ·rw [List.take_of_length_le (by omega)];exact c
 cases o with
 |none=>
  cases o' with
  |none=>rfl
  |some k=>exact absurd (b h _) h'.2.2
 |some k=>
  cases o' with
  |none=>exact absurd (b h' _) h.2.2
  |some k'=>
   obtain⟨_,g,i⟩:=h;obtain⟨_,j,l⟩:=h';congr 1;rcases Nat.lt_trichotomy k k' with e |e |e
   ·exact absurd (a (by omega) j) i
   ·exact e
   ·exact absurd (a (by omega) g) l
theorem lR (w:World) (o:Option Nat):CP 79 #[.int .i64 ((o.getD 0:Nat):Int),.bool o.isSome] w fun e w'=>e= .returned (.int .i64 (dv o))∧w'=w:=by
 refine aV (rQ ((o.getD 0:Nat):Int) o.isSome w) ?_;cases o with
 |none=>exact ac.yes rfl ⟨rfl,rfl⟩
 |some k=>exact ac.no rfl ⟨rfl,rfl⟩
def nf (s:am) (T:List aX) (ids:List Int) (u:Value):Prop:=((bP s T ids).2≠0∧u= .tuple #[.int .i64 (bP s T ids).1,.int .i64 (bP s T ids).2])∨((bP s T ids).2=0∧(∀t∈ids,bY s T t=true)∧∃o,cN (ap s T) ids o∧u= .tuple #[.int .i64 (dv o),.int .i64 0])
theorem wH {s:am} {T:List aX} (hok:fo T) (hV:(ap s T).Ok) {ids:List Int} {u u':Value} (h:nf s T ids u) (h':nf s T ids u'):u=u':=by
 rcases h with⟨c,d⟩ |⟨c,f,o,g,d⟩
 ·rcases h' with⟨_,b⟩ |⟨a,_⟩
  ·rw [d,b]
  ·exact absurd a c
 ·rcases h' with⟨a,_⟩ |⟨_,_,j,e,b⟩
  ·exact absurd c a
  ·rw [d,b,gi hV (fun t i=>(du hok t).1 (f t i)) g e]
theorem KD (w:World) (v b:Nat) (s:am) (T:List aX) (hV:aW w v s T) (hok:fo T) (A:Option Addr) (C:Nat) (ids:List Int) (hr:Rw an 1 w A ids)
  (hf:∀w1,ZH w w1→ids.length≤4000→CP 360 #[.pointer (some ⟨b,0,none⟩),.slice A ids.length C] w1 fun e w'=>∃o:Option Nat,e= .returned (.tuple #[.int .i64 ((o.getD 0:Nat):Int),.bool o.isSome])∧mU (ap s T) ids o∧w'=w1):
  CP 24 #[.pointer (some ⟨v,0,none⟩),.iface 42 (.pointer (some ⟨b,0,none⟩)),.slice A ids.length C] w fun e w'=>∃r1 r2:Int,e= .returned (.tuple #[.int .i64 r1,.int .i64 r2])∧nf s T ids (.tuple #[.int .i64 r1,.int .i64 r2])∧ZH w w':=by
 refine aV (iN (some ⟨v,0,none⟩) (.iface 42 (.pointer (some ⟨b,0,none⟩))) A ids.length C w) ?_;refine(iF w v s T hV A C ids hr).mono ?_;rintro e w1 ⟨rfl,g⟩;refine⟨_,_,rfl,ac.mk (fun d=>?_) fun d=>?_⟩
 ·have d:(bP s T ids).2≠0:=by simpa using d
  exact⟨_,_,rfl,.inl ⟨d,rfl⟩,g⟩
 ·have d:(bP s T ids).2=0:=by simpa using d
  have a:ids.length≤4000∧¬dP s T ids≥0:=by
   have c:=d;unfold bP at c;split at c
   ·cases c
   ·split at c
    ·cases c
    ·exact⟨by omega,by assumption⟩
  have f:=ft a.2;refine⟨false,w1,by kernel_rfl,ac.no rfl ⟨_,_,(show(callMethod (.iface 42 (.pointer (some ⟨b,0,none⟩))) "First" #[.slice A ids.length C]).run Tryz.prog w1= .ok (.enter 360 #[.pointer (some ⟨b,0,none⟩),.slice A ids.length C]) w1 by kernel_rfl),?_⟩⟩;refine(hf w1 g a.1).mono ?_;rintro e k ⟨o,rfl,h,j⟩;subst k;refine⟨_,_,rfl,(lR w1 o).mono ?_⟩;rintro e l ⟨rfl,j⟩;subst l;exact⟨_,rfl,_,_,rfl,.inr ⟨d,f,o,pI (fun t i=>(du hok t).1 (f t i)) h,rfl⟩,g⟩
theorem Jj (w:World) (v b:Nat) (s:am) (T:List aX) (hV:aW w v s T) (hok:fo T) (A:Option Addr) (C:Nat) (ids:List Int) (hr:Rw an 1 w A ids)
  (hf:∀w1,ZH w w1→ids.length≤4000→CP 363 #[.pointer (some ⟨b,0,none⟩),.slice A ids.length C] w1 fun e w'=>∃o:Option Nat,e= .returned (.tuple #[.int .i64 ((o.getD 0:Nat):Int),.bool o.isSome])∧mU (ap s T) ids o∧w'=w1):
  CP 24 #[.pointer (some ⟨v,0,none⟩),.iface 61 (.pointer (some ⟨b,0,none⟩)),.slice A ids.length C] w fun e w'=>∃r1 r2:Int,e= .returned (.tuple #[.int .i64 r1,.int .i64 r2])∧nf s T ids (.tuple #[.int .i64 r1,.int .i64 r2])∧ZH w w':=by
 refine aV (iN (some ⟨v,0,none⟩) (.iface 61 (.pointer (some ⟨b,0,none⟩))) A ids.length C w) ?_;refine(iF w v s T hV A C ids hr).mono ?_;rintro e w1 ⟨rfl,g⟩;refine⟨_,_,rfl,ac.mk (fun d=>?_) fun d=>?_⟩
 ·have d:(bP s T ids).2≠0:=by simpa using d
  exact⟨_,_,rfl,.inl ⟨d,rfl⟩,g⟩
 ·have d:(bP s T ids).2=0:=by simpa using d
  have a:ids.length≤4000∧¬dP s T ids≥0:=by
   have c:=d;unfold bP at c;split at c
   ·cases c
   ·split at c
    ·cases c
    ·exact⟨by omega,by assumption⟩
  have f:=ft a.2;refine⟨false,w1,by kernel_rfl,ac.no rfl ⟨_,_,(show(callMethod (.iface 61 (.pointer (some ⟨b,0,none⟩))) "First" #[.slice A ids.length C]).run Tryz.prog w1= .ok (.enter 363 #[.pointer (some ⟨b,0,none⟩),.slice A ids.length C]) w1 by kernel_rfl),?_⟩⟩;refine(hf w1 g a.1).mono ?_;rintro e k ⟨o,rfl,h,j⟩;subst k;refine⟨_,_,rfl,(lR w1 o).mono ?_⟩;rintro e l ⟨rfl,j⟩;subst l;exact⟨_,rfl,_,_,rfl,.inr ⟨d,f,o,pI (fun t i=>(du hok t).1 (f t i)) h,rfl⟩,g⟩
theorem zD (w:World) (v b:Nat) (s:am) (T:List aX) (hV:aW w v s T) (hok:fo T) (A:Option Addr) (C:Nat) (ids:List Int) (hr:Rw an 1 w A ids)
  (hf:∀w1,ZH w w1→ids.length≤4000→CP 361 #[.pointer (some ⟨b,0,none⟩),.slice A ids.length C] w1 fun e w'=>∃o:Option Nat,e= .returned (.tuple #[.int .i64 ((o.getD 0:Nat):Int),.bool o.isSome])∧mU (ap s T) ids o∧w'=w1):
  CP 24 #[.pointer (some ⟨v,0,none⟩),.iface 46 (.pointer (some ⟨b,0,none⟩)),.slice A ids.length C] w fun e w'=>∃r1 r2:Int,e= .returned (.tuple #[.int .i64 r1,.int .i64 r2])∧nf s T ids (.tuple #[.int .i64 r1,.int .i64 r2])∧ZH w w':=by
 refine aV (iN (some ⟨v,0,none⟩) (.iface 46 (.pointer (some ⟨b,0,none⟩))) A ids.length C w) ?_;refine(iF w v s T hV A C ids hr).mono ?_;rintro e w1 ⟨rfl,g⟩;refine⟨_,_,rfl,ac.mk (fun d=>?_) fun d=>?_⟩
 ·have d:(bP s T ids).2≠0:=by simpa using d
  exact⟨_,_,rfl,.inl ⟨d,rfl⟩,g⟩
 ·have d:(bP s T ids).2=0:=by simpa using d
  have a:ids.length≤4000∧¬dP s T ids≥0:=by
   have c:=d;unfold bP at c;split at c
   ·cases c
   ·split at c
    ·cases c
    ·exact⟨by omega,by assumption⟩
  have f:=ft a.2;refine⟨false,w1,by kernel_rfl,ac.no rfl ⟨_,_,(show(callMethod (.iface 46 (.pointer (some ⟨b,0,none⟩))) "First" #[.slice A ids.length C]).run Tryz.prog w1= .ok (.enter 361 #[.pointer (some ⟨b,0,none⟩),.slice A ids.length C]) w1 by kernel_rfl),?_⟩⟩;refine(hf w1 g a.1).mono ?_;rintro e k ⟨o,rfl,h,j⟩;subst k;refine⟨_,_,rfl,(lR w1 o).mono ?_⟩;rintro e l ⟨rfl,j⟩;subst l;exact⟨_,rfl,_,_,rfl,.inr ⟨d,f,o,pI (fun t i=>(du hok t).1 (f t i)) h,rfl⟩,g⟩
theorem aW.byA {w w':World} {v a:Nat} {s:am} {T:List aX} (h:aW w v s T) {c:Array Value} (hc:w.heap[a]? =some (.cells c dO (0,0))) (hva:v<a) (t:aD a w w'):aW w' v s T:=by
 obtain⟨o,x,n,i,m,d,l,e,b⟩:=h;have f:=b.lt;refine⟨o,x,n,i,m,d,l,e,b.parts,b.below.trans (t.below (by omega) b.below.size),f,t.held (by omega) b.blk,?_⟩;rcases b.once with h |⟨j,k,g⟩
 ·exact .inl h
 ·exact .inr ⟨j,k,t.own g (az g hc (by decide))⟩
open Go Go.Value
def TK (a:Int) (b:OA) (w:World) (R:RW):Prop:=
 ag b (fun c=>
 Zt w c fun d=>
 ag d (fun f=>
 Zt w (f.add 0) fun g=>
 CP 49 #[pointer g,int .i64 a] w (fun h i=>
 Zp h fun j=>
 R (bool (!j)) i)))
theorem Eh (a:Int) (b:OA) (w:World) (R:RW) (hh:TK a b w R):CR 86 #[int .i64 a,pointer b] w R:=by refine aH (fn:=Tryz.f86) ?_ ?_ ?_ ?_ ?_ hh<;>kernel_rfl
def Sz (a b:OA) (c d:Nat) (w:World) (R:RW):Prop:=
 ag a (fun f=>
 Zl w (f.add 1) fun g h i=>
 CP 88 #[slice g h i] w (fun j k=>
 Zr j fun l m n=>
 Zh 28 #[slice l m n,slice b c d] k fun o p q r=>
 ag a (fun s=>
 Zt r (s.add 0) fun t=>
 CP 127 #[pointer t,slice o p q] r (fun x y=>
 Zy x fun z a1=>
 ac a1
 (∀b1,b1=y.drew→
 ag a (fun c1=>
 Zs b1 (c1.add 2) fun d1=>
 ag a (fun e1=>
 Zl b1 (e1.add 1) fun f1 g1 h1=>
 Ar .i64 (d1- (g1:Int)) (fun i1=>
 Ar .i64 (i1+z) (fun j1=>
 ag a (fun k1=>
 Zu b1 (k1.add 3) (int .i64 j1) fun l1=>
 R (tuple #[]) l1))))))
 (R (tuple #[]) y)))))
theorem Fc (a b:OA) (c d:Nat) (w:World) (R:RW) (hh:Sz a b c d w R):CR 87 #[pointer a,slice b c d] w R:=by refine aH (fn:=Tryz.f87) ?_ ?_ ?_ ?_ ?_ hh<;>kernel_rfl
theorem Voc.canon_tail {V:Voc} (h:V.Ok) {init:List Int} {l:Int} (hI:∀x∈init++ [l],V.Has x) (hc:V.Canon (init++ [l])):∀(n:Nat) (P:List Int),P.length=n→(∀x∈P,V.Has x)→(V.Canon (init++ [l]++P)↔V.Canon ([l]++P))
 |0,P,hP,_=>by
  have:P= []:=List.eq_nil_of_length_eq_zero hP;subst this;rw [List.append_nil,List.append_nil];exact⟨fun _=>(Voc.canon_append h hI hc).2,fun _=>hc⟩
 |n+1,P,hP,hh=>by
  rcases List.eq_nil_or_concat P with e |⟨Q,t,e⟩
  ·subst e;cases hP
  ·rw [List.concat_eq_append]at e;subst e;rw [List.length_append,List.length_singleton]at hP;have hQ:∀x∈Q,V.Has x:=fun x hx=>hh x (by simp [hx]);have ih:=Voc.canon_tail h hI hc n Q (by omega) hQ;have hT:V.Has t:=hh t (by simp);have hl:V.Has l:=hI l (by simp);obtain⟨m,i1,i2,e1,e2⟩:∃m i1 i2,init++ [l]++Q=i1++ [m]∧ [l]++Q=i2++ [m]:=by
    rcases List.eq_nil_or_concat Q with e |⟨R,m,e⟩
    ·subst e;exact⟨l,init,[],by simp,rfl⟩
    ·rw [List.concat_eq_append]at e;subst e;exact⟨m,init++ [l]++R,[l]++R,by simp,by simp⟩
   have h1:∀x∈init++ [l]++Q,V.Has x:=by
    intro x hx;rcases List.mem_append.1 hx with hx |hx
    ·exact hI x hx
    ·exact hQ x hx
   have h2:∀x∈ [l]++Q,V.Has x:=by
    intro x hx;rcases List.mem_append.1 hx with hx |hx
    ·rw [List.mem_singleton.1 hx];exact hl
    ·exact hQ x hx
   have h3:∀x∈init++ [l]++Q++ [t],V.Has x:=by
    intro x hx;rcases List.mem_append.1 hx with hx |hx
    ·exact h1 x hx
    ·rw [List.mem_singleton.1 hx];exact hT
   have h4:∀x∈ [l]++Q++ [t],V.Has x:=by
    intro x hx;rcases List.mem_append.1 hx with hx |hx
    ·exact h2 x hx
    ·rw [List.mem_singleton.1 hx];exact hT
   rw [←List.append_assoc, ←List.append_assoc];by_cases hZ:V.Canon (init++ [l]++Q)
   ·have hZ2:=ih.1 hZ;rw [e1]at hZ h1⊢;rw [e2]at hZ2 h2⊢;rw [Voc.canon_more h h1 hZ hT,Voc.canon_more h h2 hZ2 hT]
   ·exact⟨fun e=>absurd (Voc.canon_append h h3 e).1 hZ,fun e=>absurd (ih.2 (Voc.canon_append h h4 e).1) hZ⟩
def fe (all:List Int):List Int:=all.drop (all.length-1)
theorem wh (all:List Int):(all= []∧fe all= [])∨∃init l,all=init++ [l]∧fe all= [l]:=by
 rcases List.eq_nil_or_concat all with e |⟨i,l,e⟩
 ·exact .inl ⟨e,by rw [e];rfl⟩
 ·rw [List.concat_eq_append]at e;refine .inr ⟨i,l,e,?_⟩;rw [fe,e,List.length_append,List.length_singleton,Nat.add_sub_cancel,List.drop_left]
theorem EW {V:Voc} (h:V.Ok) {all ids:List Int} (hc:V.Canon all) (hA:∀x∈all,V.Has x) (hh:∀x∈ids,V.Has x) {o:Option Nat} (ho:cN V (fe all++ids) o):cN V (all++ids) (o.map (·+(all.length- (fe all).length))):=by
 rcases wh all with⟨rfl,e⟩ |⟨a,l,rfl,e⟩
 ·rw [e]at ho⊢;cases o with
  |none=>exact ho
  |some k=>exact ho
 ·rw [e]at ho⊢;have b:=fun P q=>Voc.canon_tail h hA hc P.length P rfl q;cases o with
  |none=>exact(b ids hh).2 ho
  |some k=>
   obtain⟨i,m,f⟩:=ho;obtain⟨j,rfl⟩:∃j,k=j+1:=by
    cases k with
    |zero=>exact absurd (Voc.canon_append h hA hc).2 f
    |succ j=>exact⟨j,rfl⟩
   have d:(a++ [l]).length=a.length+1:=by simp
   have p:∀n,(a++ [l]++ids).take (n+(a.length+1))=a++ [l]++ids.take n:=by
    intro n;rw [List.take_append,d,List.take_of_length_le (by rw [d];omega),show n+(a.length+1)- (a.length+1)=n by omega]
   have g:∀n,([l]++ids).take (n+1)= [l]++ids.take n:=fun n=>rfl;have c:∀n x,x∈ids.take n→V.Has x:=fun n x r=>hh x (List.mem_of_mem_take r);rw [g]at m f;show j+1+((a++ [l]).length-1) <_∧V.Canon (List.take (j+1+((a++ [l]).length-1)) _)∧¬V.Canon (List.take (j+1+((a++ [l]).length-1)+1) _);rw [d,show j+1+(a.length+1-1)=j+(a.length+1) by omega,show j+(a.length+1)+1=j+1+(a.length+1) by omega,p,p];refine⟨?_,(b _ (c j)).2 m,fun e=>f ((b _ (c (j+1))).1 e)⟩;rw [List.length_append]at i⊢;rw [d];simp at i;omega
theorem Ev {V:Voc} {all ids:List Int} {k:Nat} (h:cN V all (some k)):cN V (all++ids) (some k):=by
 obtain⟨c,a,b⟩:=h;refine⟨by rw [List.length_append];omega,?_,?_⟩
 ·rw [List.take_append_of_le_length (by omega)];exact a
 ·rw [List.take_append_of_le_length (by omega)];exact b
abbrev IW:TypeId:=159
theorem aD.set {v d j:Nat} {a b:World} (t:aD v a b) (hd:a.heap.size≤d) (u:Value):aD v a (b.setCell ((⟨d,0,none⟩:Addr).add j) u):=
 ⟨t.os,t.tape,t.output,by rw [ba];exact t.size,fun k hk hv=>by rw [ar (by rw [ay];show k≠d;omega)];exact t.block k hk hv⟩
theorem aW.set {w:World} {v d j:Nat} {s:am} {T:List aX} (h:aW w v s T) {c:Array Value} {e:TypeId} (hd:w.heap[d]? =some (.cells c e (0,0))) (he:bW≠e) (hv:v<d) (u:Value):aW (w.setCell ((⟨d,0,none⟩:Addr).add j) u) v s T:=by
 obtain⟨p,x,o,i,n,q,l,b,a⟩:=h;have f:=a.lt;refine⟨p,x,o,i,n,q,l,b,a.parts,bv a.below (by omega) u,f,by rw [ar (by rw [ay];show v≠d;omega)];exact a.blk,?_⟩;rcases a.once with h |⟨k,m,g⟩
 ·exact .inl h
 ·exact .inr ⟨k,m,bw g u (by rw [ay];exact az g hd he)⟩
structure dt (w0 q:World) (d v:Nat) (s:am) (T:List aX) (last:Sl) (lst:List Int) (cnt off:Int):Prop where
 voc:aW q v s T
 t:aD v w0 q
 ld:w0.heap.size≤d
 lv:v<w0.heap.size
 blk:q.heap[d]? =some (.cells #[.pointer (some ⟨v,0,none⟩),last.v,.int .i64 cnt,.int .i64 off] IW (0,0))
 own:q.ownsRow w0.heap.size aT 1 last.v last.n (lst.flatMap an)
variable {w0 q q':World} {d v:Nat} {s:am} {T:List aX} {last:Sl} {lst:List Int} {cnt off:Int}
theorem dt.on (h:dt w0 q d v s T last lst cnt off) (hb:ZH q q'):dt w0 q' d v s T last lst cnt off:=
 ⟨h.voc.on hb,h.t.trans (aD.of_below hb),h.ld,h.lv,aj hb h.blk,aE h.own hb⟩
theorem aW.blk_row {q:World} {v:Nat} {s:am} {T:List aX} (h:aW q v s T) {B:Nat} {e:TypeId} {sz n:Nat} {u:Value} {xs:List Value} (ho:q.ownsRow B e sz u n xs) (he:e≠dJ):u.ownBlock≠some v:=by
 obtain⟨i,x,g,c,f,d,l,a,b⟩:=h;exact az ho b.blk he
theorem dt.touch (h:dt w0 q d v s T last lst cnt off) (t:aD v q q') (hV:aW q' v s T):dt w0 q' d v s T last lst cnt off:=
 ⟨hV,h.t.trans t,h.ld,h.lv,t.held (by have:=h.ld;have:=h.lv;omega) h.blk,t.own h.own (h.voc.blk_row h.own (by decide))⟩
theorem dt.off_d (h:dt w0 q d v s T last lst cnt off):last.v.ownBlock≠some d:=az h.own h.blk (by decide)
theorem dt.set_off (h:dt w0 q d v s T last lst cnt off) (n:Int):dt w0 (q.setCell ((⟨d,0,none⟩:Addr).add 3) (.int .i64 n)) d v s T last lst cnt n:=
 ⟨h.voc.set h.blk (by decide) (by have:=h.ld;have:=h.lv;omega) _,h.t.set h.ld _,h.ld,h.lv,bu h.blk _,bw h.own _ (by rw [ay];exact h.off_d)⟩
theorem dt.set_cnt (h:dt w0 q d v s T last lst cnt off) (n:Int):dt w0 (q.setCell ((⟨d,0,none⟩:Addr).add 2) (.int .i64 n)) d v s T last lst n off:=
 ⟨h.voc.set h.blk (by decide) (by have:=h.ld;have:=h.lv;omega) _,h.t.set h.ld _,h.ld,h.lv,bu h.blk _,bw h.own _ (by rw [ay];exact h.off_d)⟩
theorem dt.set_last (h:dt w0 q d v s T last lst cnt off) {l2:Sl} {m:List Int} (ho:q.ownsRow w0.heap.size aT 1 l2.v l2.n (m.flatMap an)):dt w0 (q.setCell ((⟨d,0,none⟩:Addr).add 1) l2.v) d v s T l2 m cnt off:=
 ⟨h.voc.set h.blk (by decide) (by have:=h.ld;have:=h.lv;omega) _,h.t.set h.ld _,h.ld,h.lv,bu h.blk _,bw ho _ (by rw [ay];exact az ho h.blk (by decide))⟩
def eG (v d:Nat) (q q':World):Prop:=∀k,k<q.heap.size→k≠v→k≠d→q'.heap[k]? =q.heap[k]?
theorem eG.of_below (h:ZH q q'):eG v d q q':=fun k hk _ _=>h.block k hk
theorem eG.of_touch (h:aD v q q'):eG v d q q':=fun k hk hv _=>h.block k hk hv
theorem eG.trans {a b c:World} (h:eG v d a b) (hs:a.heap.size≤b.heap.size) (k:eG v d b c):eG v d a c:=fun i hi hv hd=>(k i (Nat.lt_of_lt_of_le hi hs) hv hd).trans (h i hi hv hd)
theorem eG.set (h:eG v d q q') (j:Nat) (u:Value):eG v d q (q'.setCell ((⟨d,0,none⟩:Addr).add j) u):=fun i hi hv hd=>by rw [ar (by rw [ay];exact hd)];exact h i hi hv hd
theorem GO (h:dt w0 q d v s T last lst cnt (-1)) (hcl:(lst.length:Int)≤cnt) (hcb:cnt≤1000000) (hll:lst.length≤1) (hlh:∀t∈lst,(ap s T).Has t) (A:Option Addr) (C:Nat) (ids:List Int) (hr:Rw an 1 w0 A ids) (hA:ids≠ []→∀p,A=some p→p.block≠v) (hk:lU ⟨A,ids.length,C⟩) (hl:ids.length≤1000) (hh:∀t∈ids,(ap s T).Has t):
  CP 87 #[.pointer (some ⟨d,0,none⟩),.slice A ids.length C] q fun e q'=>e= .returned (.tuple #[])∧q.heap.size≤q'.heap.size∧eG v d q q'∧∃o,cN (ap s T) (lst++ids) o∧dt w0 q' d v s T last lst cnt (dv (o.map (·+(cnt.toNat-lst.length)))):=by
 refine aJ (Fc (some ⟨d,0,none⟩) A ids.length C q (fun u q'=>u= .tuple #[]∧q.heap.size≤q'.heap.size∧eG v d q q'∧∃o,cN (ap s T) (lst++ids) o∧dt w0 q' d v s T last lst cnt (dv (o.map (·+(cnt.toNat-lst.length))))) ?_) (by rintro v w' ⟨rfl,h⟩;exact⟨rfl,h⟩);have f:=bO.of_own co h.own;have c:=f.n;obtain⟨U,W,V⟩:=last;change W=lst.length at c;subst c;refine ag.mk _ rfl ⟨_,_,_,ai _ _ h.blk 1,?_⟩;refine(qi q U V lst f.r (by omega)).mono ?_;rintro e q1 ⟨s1,rfl,R,D,m⟩;have O:=h.on m;have b:∀ {z:World},aD v w0 z→bO an 1 z ⟨A,ids.length,C⟩ ids:=fun t=>⟨rfl,hr.touch t hA,hk⟩;obtain⟨r,L,g1,M,I,N,_⟩:=co.spread D (b O.t) m.size (by omega) (by show ids.length≤_;omega) (by decide);have j:=N q m;have w:=h.on j;have g:=bO.of_own co I;have i:=g.n;have hd:=h.ld;have hv:=h.lv;have hz:=h.t.size;refine⟨_,_,_,rfl,r.a,r.n,r.c,L,M,ag.mk _ rfl ⟨_,ai _ _ w.blk 0,?_⟩⟩;obtain⟨Y,rn,Z⟩:=r;change rn=_ at i;subst i;have y:∀t∈lst++ids,(ap s T).Has t:=fun t S=>(List.mem_append.1 S).elim (hlh t) (hh t);refine(sm L v s T w.voc Y Z (lst++ids) g.r (fun _ p Q=>by have:=iz I p Q;omega) (by rw [List.length_append];omega) y).mono ?_;rintro e l ⟨o,rfl,B,x,G⟩;have J:=w.touch G x;have K:eG v d q l:=(eG.of_below j).trans j.size (eG.of_touch G);have H:q.heap.size≤l.heap.size:=XW j.size G.size;cases o with
 |none=>exact⟨0,false,rfl,ac.no rfl ⟨rfl,H,K,none,B,J⟩⟩
 |some k=>
  refine⟨(k:Int),true,rfl,ac.yes rfl ?_⟩;intro X E;have n:ZH l X:=by subst E;exact aU l
  have a:=J.on n;have P:k≤1001:=by have:=B.1;rw [List.length_append]at this;omega
  refine ag.mk _ rfl ⟨_,ai _ _ a.blk 2,ag.mk _ rfl ⟨_,_,_,ai _ _ a.blk 1,Ar.ok64 (by show _≤cnt- (lst.length:Int);omega) (by show cnt- (lst.length:Int)≤_;omega) (Ar.ok64 (by show _≤cnt- (lst.length:Int)+(k:Int);omega) (by show cnt- (lst.length:Int)+(k:Int)≤_;omega) (ag.mk _ rfl ⟨rfl,⟨_,ai _ _ a.blk 3⟩,bc a.blk,?_⟩))⟩⟩;intro q5 F;subst F;refine⟨rfl,by rw [ba];exact XW H n.size,(K.trans H (eG.of_below n)).set 3 _,some k,B,?_⟩;have e:dv ((some k).map (·+(cnt.toNat-lst.length)))=cnt- (lst.length:Int)+(k:Int):=by
   show((k+(cnt.toNat-lst.length):Nat):Int)=_;omega
  rw [e];exact a.set_off _
structure kG (w0 q:World) (d v:Nat) (s:am) (T:List aX) (all:List Int) (o:Option Nat) (last:Sl):Prop where
 raw:dt w0 q d v s T last (fe all) all.length (dv o)
 has:∀t∈all,(ap s T).Has t
 first:cN (ap s T) all o
theorem kG.on {all:List Int} {o:Option Nat} (h:kG w0 q d v s T all o last) (hb:ZH q q'):kG w0 q' d v s T all o last:=⟨h.raw.on hb,h.has,h.first⟩
theorem kG.t {all:List Int} {o:Option Nat} (h:kG w0 q d v s T all o last):aD v w0 q:=h.raw.t
theorem uQ (all:List Int) {ids:List Int} (h:ids≠ []):fe (all++ids)=ids.drop (ids.length-1):=by
 have:0<ids.length:=List.length_pos_iff.2 h;rw [fe,List.length_append,List.drop_append,List.drop_eq_nil_of_le (by omega),show all.length+ids.length-1-all.length=ids.length-1 by omega];rfl
theorem FI {all:List Int} {t:Int} (h:t∈fe all):t∈all:=List.mem_of_mem_drop h
theorem E0 (all:List Int):(fe all).length≤1∧(fe all).length≤all.length:=by
 rw [fe,List.length_drop];omega
def NI (w0:World) (q:World) (d v:Nat) (s:am) (T:List aX) (all:List Int) (o:Option Nat) (last:Sl) (ids:List Int) (u:Value) (q':World):Prop:=
 q.heap.size≤q'.heap.size∧eG v d q q'∧∃last':Sl,(last'=last∨∀k,last'.v.ownBlock=some k→q.heap.size≤k)∧((dP s T ids≥0∧u= .tuple #[.int .i64 (dP s T ids),.int .i64 4]∧kG w0 q' d v s T all o last')∨(¬dP s T ids≥0∧∃o',u= .tuple #[.int .i64 (dv o'),.int .i64 0]∧kG w0 q' d v s T (all++ids) o' last'))
theorem GK {all:List Int} {o:Option Nat} (h:kG w0 q d v s T all o last) (hVok:(ap s T).Ok) (hTok:fo T) (hf:all.length≤100000) (A:Option Addr) (C:Nat) (ids:List Int) (hr:Rw an 1 w0 A ids) (hA:ids≠ []→∀p,A=some p→p.block≠v) (hk:lU ⟨A,ids.length,C⟩) (hC:ids.length≤C) (hl:ids.length≤1000):
  CP 27 #[.pointer (some ⟨d,0,none⟩),.slice A ids.length C] q fun e q'=>∃u,e= .returned u∧NI w0 q d v s T all o last ids u q':=by
 refine D' (some ⟨d,0,none⟩) A ids.length C q (NI w0 q d v s T all o last ids) ?_;intro w1 O;have b1:ZH q w1:=by subst O;exact ah _ _
 have V:w1.heap[q.heap.size]? =some (.cells #[.pointer (some ⟨d,0,none⟩)] 63 (0,0)):=by subst O;exact aq _ _
 have h1:=h.on b1;obtain⟨c,i,f⟩:=h1;have hlq:d<q.heap.size:=(XY.1 h.raw.blk).1;have hd:=c.ld;have hv:=c.lv;have a:∀ {z:World},z.heap[q.heap.size]? =some (.cells #[.pointer (some ⟨d,0,none⟩)] 63 (0,0))→z.cell? (nb q)=some (.pointer (some ⟨d,0,none⟩)):=fun H=>aQ H;refine⟨_,a V,ac.no rfl ⟨_,a V,ag.mk _ rfl ⟨_,ai _ _ c.blk 2,Ar.ok64 (by omega) (by omega) (ac.no (XZ (by omega)) ?_)⟩⟩⟩;refine(kW A C ids _ (fun P=> !bY s T P) w1 (hr.touch c.t hA) (by omega) ?_).mono ?_
 ·intro P hid Y D;refine b_ (by kernel_rfl) ?_;refine aJ (Eh P (some (nb q)) Y (fun u Q=>u= .bool (!bY s T P)∧ZH Y Q) ?_) (by rintro v Q ⟨rfl,h⟩;exact⟨rfl,h⟩);refine ag.mk _ rfl ⟨_,a (aj D V),ag.mk _ rfl ⟨_,ai _ _ (c.on D).blk 0,?_⟩⟩;refine((c.on D).voc.has_call P).mono ?_;rintro e w3 ⟨rfl,hw⟩;subst hw;exact⟨_,rfl,rfl,Below.refl _ _⟩
 rintro e Y ⟨rfl,Z⟩;have n:=c.on Z;have j:=ae b1 Z;have E:=aj Z V;refine⟨_,rfl,ac.mk (fun b=>⟨j.size,eG.of_below j,last,.inl rfl,.inl ⟨XQ b,rfl,n,i,f⟩⟩) fun b=>?_⟩;have b:=XX b;have K:=ft b;have g:∀t∈ids,(ap s T).Has t:=by
  intro t N;have:=K t N;unfold bY at this;rw [decide_eq_true_eq,fV hTok]at this;exact Or.comm.1 this
 intro J4 hJ4;have hll:=E0 all;have B:∀(z:World) (F:Option Nat),dt w0 z d v s T last (fe all) all.length (dv F)→cN (ap s T) (all++ids) F→z.heap[q.heap.size]? =some (.cells #[.pointer (some ⟨d,0,none⟩)] 63 (0,0))→q.heap.size≤z.heap.size→eG v d q z→J4 [] z:=by
  intro z F H J lz sz kz;refine hJ4 z ⟨_,a lz,ag.mk _ rfl ⟨_,ai _ _ H.blk 2,Ar.nat (all.length+ids.length) (by omega) (by omega) (ag.mk _ rfl ⟨rfl,⟨_,ai _ _ H.blk 2⟩,bc H.blk,?_⟩)⟩⟩;intro I r;have h4:dt w0 I d v s T last (fe all) ((all.length+ids.length:Nat):Int) (dv F):=by subst r;exact H.set_cnt _
  have k4:eG v d q I:=by subst r;exact kz.set 2 _
  have X:q.heap.size≤I.heap.size:=by subst r;rw [ba];exact sz
  have W:I.heap[q.heap.size]? =some (.cells #[.pointer (some ⟨d,0,none⟩)] 63 (0,0)):=by
   subst r;rw [ar (by rw [ay];show q.heap.size≠d;omega)];exact lz
  intro J10 x;have y:(((all++ids).length:Nat):Int)=((all.length+ids.length:Nat):Int):=by rw [List.length_append]
  have l:∀t∈all++ids,(ap s T).Has t:=fun t N=>(List.mem_append.1 N).elim (i t) (g t);refine ac.mk (fun G=>?_) fun G=>?_
  ·have G:=XQ G;have hne:ids≠ []:=by rintro rfl;simp at G
   intro R hw6;have S:ZH I R:=by subst hw6;exact aU I
   have h6:=h4.on S;have e1:ids.length- (ids.length-1)=(ids.drop (ids.length-1)).length:=by rw [List.length_drop]
   refine⟨_,a (aj S W),Ar.nat (ids.length-1) (by omega) (by omega) ⟨by omega,by omega,trivial,trivial,trivial,?_⟩⟩;have hcl:CP 88 #[.slice (bB A (ids.length-1) C 1) (ids.length- (ids.length-1)) (C- (ids.length-1))] R fun e Q=>∃s:Sl,e= .returned s.v∧s.n=(ids.drop (ids.length-1)).length∧Q.ownsRow R.heap.size aT 1 s.v s.n ((ids.drop (ids.length-1)).flatMap an)∧ZH R Q:=by
    rw [e1];exact qi R _ _ _ ((hr.touch h6.t hA).cut (ids.length-1) C hC) (by rw [List.length_drop];omega)
   refine hcl.mono ?_;rintro e w7 ⟨E,rfl,_,U,b7⟩;have h7:=h6.on b7;have m:=ae S b7;have hz6:=h6.t.size;refine⟨_,_,_,rfl,⟨a (aj m W),trivial⟩,ag.mk _ rfl ⟨rfl,⟨_,ai _ _ h7.blk 1⟩,bc h7.blk,?_⟩⟩;intro w8 hw8;subst hw8;have h8:=h7.set_last (aS U hz6);refine x _ ⟨_,a (by rw [ar (by rw [ay];show q.heap.size≠d;omega)];exact aj m W),ag.mk _ rfl ⟨_,ai _ _ h8.blk 3,by rw [ba];exact XW X m.size,(k4.trans X (eG.of_below m)).set 1 _,E,.inr fun k hk=>XW (XW X S.size) (bL U k hk).1,.inr ⟨b,F,rfl,?_,l,J⟩⟩⟩;rw [uQ all hne,y];exact h8
  ·have G:=XX G;have he:ids= []:=List.eq_nil_of_length_eq_zero (by omega);refine x _ ⟨_,a W,ag.mk _ rfl ⟨_,ai _ _ h4.blk 3,X,k4,last,.inl rfl,.inr ⟨b,F,rfl,?_,l,J⟩⟩⟩;rw [y];have e2:fe (all++ids)=fe all:=by rw [he,List.append_nil]
   rw [e2];exact h4
 refine⟨_,a E,ag.mk _ rfl ⟨_,ai _ _ n.blk 3,ac.mk (fun M=>⟨_,a E,?_⟩) fun M=>?_⟩⟩
 ·have U:o=none:=by
   cases o with
   |none=>rfl
   |some k=>
    have M:dv (some k)= -1:=by simpa using M
    have:(k:Int)= -1:=M;omega
  subst U;refine(GO n (by omega) (by omega) hll.1 (fun t N=>i t (FI N)) A C ids hr hA hk hl g).mono ?_;rintro e w9 ⟨rfl,s9,k9,F,ho',h9⟩;have w:=j.size;have L:=(XY.1 E).1;refine⟨rfl,B w9 _ h9 (EW hVok f i g ho') ?_ (XW w s9) ((eG.of_below j).trans w k9)⟩;rw [k9 _ L (by omega) (by omega)];exact E
 ·cases o with
  |none=>simp [dv]at M
  |some k=>exact B Y (some k) n (Ev f) E j.size (eG.of_below j)
theorem zh (q:World) (v:Nat):CP 26 #[.pointer (some ⟨v,0,none⟩)] q fun e q'=>e= .returned (.pointer (some ⟨q.heap.size,0,none⟩))∧q'=q.alloc (.cells #[.pointer (some ⟨v,0,none⟩),.slice none 0 0,.int .i64 0,.int .i64 (-1)] IW):=by
 refine aJ (Fh (some ⟨v,0,none⟩) q (fun u q'=>u= .pointer (some ⟨q.heap.size,0,none⟩)∧q'=q.alloc (.cells #[.pointer (some ⟨v,0,none⟩),.slice none 0 0,.int .i64 0,.int .i64 (-1)] IW)) ?_) (by rintro v b ⟨rfl,h⟩;exact⟨rfl,h⟩);exact ac.no rfl fun c a=>⟨rfl,a⟩
theorem LM {v:Nat} {s:am} {T:List aX} (w0:World) (hV:aW w0 v s T) (q:World) (hq:q=w0.alloc (.cells #[.pointer (some ⟨v,0,none⟩),.slice none 0 0,.int .i64 0,.int .i64 (-1)] IW)):kG w0 q w0.heap.size v s T [] none cW:=by
 subst hq;have a:=ah w0 (.cells #[.pointer (some ⟨v,0,none⟩),.slice none 0 0,.int .i64 0,.int .i64 (-1)] IW);exact⟨⟨hV.on a,aD.of_below a,XV _,hV.lt,aq _ _,bE _ _ _ _ an⟩,fun t b=>(by cases b),rfl⟩
section
variable {w0 q:World} {d v:Nat} {s:am} {T:List aX} {all:List Int} {o:Option Nat} {last:Sl}
theorem kK (h:kG w0 q d v s T all o last):CP 28 #[.pointer (some ⟨d,0,none⟩)] q fun e q'=>e= .returned (.int .i64 (dv o))∧q'=q:=by
 obtain⟨a,_,_⟩:=h;refine aJ (EL (some ⟨d,0,none⟩) q (fun u q'=>u= .int .i64 (dv o)∧q'=q) ?_) (by rintro v b ⟨rfl,h⟩;exact⟨rfl,h⟩);exact ac.no rfl (ag.mk _ rfl ⟨_,ai _ _ a.blk 3,rfl,rfl⟩)
end
theorem BP {V:Voc} (hV:V.Ok) {ids:List Int} (hh:∀t∈ids,V.Has t) (hc:V.Canon ids) {o:Option Nat} (ho:cN V ids o):o=none:=by
 cases o with
 |none=>rfl
 |some k=>
  exfalso;obtain⟨_,_,a⟩:=ho;rw [←List.take_append_drop (k+1) ids]at hc hh;exact a (Voc.canon_append hV hh hc).1
theorem H' {s:am} {T:List aX} (hok:fo T) {t:Int} (h:(ap s T).Has t):bY s T t=true:=by
 unfold bY;rw [decide_eq_true_eq,fV hok];exact Or.comm.1 h
theorem I' {s:am} {T:List aX} (hok:fo T) {ids:List Int} (hh:∀t∈ids,(ap s T).Has t) (hl:ids.length≤4000):bP s T ids=(0,0):=by
 have:dP s T ids= -1:=dY (p:=fun b=> !bY s T b) fun j a=>by rw [H' hok (hh _ (List.getElem_mem a))];rfl
 rw [bP,if_neg (by omega),this];rfl
theorem tj (w:World) (x:nI) (s:am) (T:List aX) (h:ij w x s T) (A:Option Addr) (N C:Nat) (ids:List Int) (hN:N=ids.length) (hr:Rw an 1 w A ids) (hl:ids.length≤10000) (hh:∀t∈ids,(ap s T).Has t):CP 29 #[x.v,.slice A N C] w fun e w'=>e= .returned (.bool (decide ((ap s T).Canon ids)))∧ZH w w':=by
 subst hN;exact uy w x s T h A C ids hr hl hh
theorem bO.begin {α:Type} {enc:α→List Value} {sz:Nat} {w:World} {A:Option Addr} {C:Nat} {xs:List α} (hr:Rw enc sz w A xs) (hC:xs.length≤C) (k:Nat) (hk:k≤xs.length) (hA:A=none→C=0):bO enc sz w ⟨bB A 0 C sz,k-0,C-0⟩ (xs.take k):=by
 refine⟨by rw [List.length_take,Nat.min_eq_left hk];exact Nat.sub_zero k,?_,?_⟩
 ·have:=(hr.cut 0 C hC).take k;rwa [List.drop_zero]at this
 ·cases A with
  |none=>
   have:=hA rfl;subst this;have:k=0:=by omega
   subst this;exact .inl rfl
  |some p=>
   refine .inr ?_;show ∃a,bB (some p) 0 C sz=some a;unfold bB;split
   ·exact⟨_,rfl⟩
   ·exact⟨_,rfl⟩
abbrev Gt:={n:Int//0≤n∧n<256}
def Kn (n:Gt):List Value:=[.int .u8 n.1]
theorem aD.then_below2 {v:Nat} {a b c:World} (t:aD v a b) (hb:Below a.heap.size b c):aD v a c:=
 ⟨hb.os.trans t.os,hb.tape.trans t.tape,hb.output.trans t.output,XW t.size hb.size,fun k hk hv=>(hb.block k hk).trans (t.block k hk hv)⟩
theorem oX {a:Option Addr} {l m s:Nat} {p:Addr} (h:bB a l m s=some p):∃q,a=some q∧q.block=p.block:=by
 unfold bB at h;split at h
 ·exact⟨p,h,rfl⟩
 ·cases a with
  |none=>cases h
  |some q=>
   cases h;exact⟨q,rfl,(ay _ _).symm⟩
def G1 (o:Option Nat) (m:Nat):Option Nat:=match o with
 |none=>none
 |some k=>if k<m then some k else none
theorem EV {V:Voc} (hV:V.Ok) {ids:List Int} (hh:∀t∈ids,V.Has t) {o:Option Nat} (h:cN V ids o) (m:Nat) (hm:m≤ids.length):cN V (ids.take m) (G1 o m):=by
 have a:∀ {n k:Nat},n≤k→V.Canon (ids.take k)→V.Canon (ids.take n):=by
  intro n k b d;have e:ids.take k=ids.take n++(ids.take k).drop n:=by
   conv=>lhs;rw [←List.take_append_drop n (ids.take k)]
   rw [List.take_take,Nat.min_eq_left b]
  rw [e]at d;exact(Voc.canon_append hV (fun t f=>hh t (by rw [←e]at f;exact List.mem_of_mem_take f)) d).1
 cases o with
 |none=>
  refine a hm ?_;rw [List.take_length];exact h
 |some k=>
  obtain⟨j,c,g⟩:=h;unfold G1;dsimp only;split
  ·rename_i i;refine⟨by rw [List.length_take];omega,?_,?_⟩
   ·rw [List.take_take,Nat.min_eq_left (by omega)];exact c
   ·rw [List.take_take,Nat.min_eq_left (by omega)];exact g
  ·rename_i i;exact a (by omega) c
theorem BY {V:Voc} (hV:V.Ok) {ids:List Int} (hh:∀t∈ids,V.Has t) {o:Option Nat} (h:cN V ids o):(dv o== -1)=decide (V.Canon ids):=by
 cases o with
 |none=>rw [XJ (show V.Canon ids from h)];rfl
 |some k=>
  have b:¬V.Canon ids:=fun a=>by cases BP hV hh a h
  rw [XZ b];have:¬((k:Int)= -1):=by omega
  simpa [dv]using this
set_option maxHeartbeats 2000000 in
theorem uD (w:World) (y:HP) (ls:List Int) (cs:List (Int×Int×Int)) (js:List (Int×Int)) (xs:List (Int×Bs)) (h:BG w y ls cs js xs) (A:Option Addr) (C:Nat) (ids:List Int) (hr:Rw an 1 w A ids) (hC:ids.length≤C) (hk:lU ⟨A,ids.length,C⟩) (A2:Option Addr) (C2:Nat) (cuts:List Gt) (hr2:Rw Kn 1 w A2 cuts) (hL:tg w):
  CP 4 #[y.v,.slice A ids.length C,.slice A2 cuts.length C2] w fun e w'=>e= .returned (.bool true)∧ZH w w':=by
 refine aJ (Hs y.l.a y.l.n y.l.c y.c.a y.c.n y.c.c y.j.a y.j.n y.j.c y.x.a y.x.n y.x.c A ids.length C A2 cuts.length C2 w (fun u w'=>u= .bool true∧ZH w w') ?_) (by rintro v w' ⟨rfl,h⟩;exact⟨rfl,h⟩);intro w1 hw1;have hb1:ZH w w1:=by subst hw1;exact ah _ _
 have l1:w1.heap[w.heap.size]? =some (.cells y.cells OB (0,0)):=by subst hw1;exact aq _ _
 refine⟨_,_,_,_,_,_,_,_,_,_,_,_,R5 l1,?_⟩;refine(up w1 y ls cs js xs (h.on hb1)).mono ?_;rintro e w2 ⟨c0,rfl,b2⟩;have Y:=ae hb1 b2;have aw:∀ {q:World},ZH w q→CP 12 #[] q fun e w'=>∃b:Bool,e= .returned (.bool b)∧(Value.bool b=Value.bool true∧ZH w w'):=by
  intro q hq;refine(oH q (hL.on hq)).mono ?_;rintro e w3 ⟨rfl,b3⟩;exact⟨true,rfl,rfl,ae hq b3⟩
 refine⟨c0,rfl,ac.mk (fun _=>aw Y) fun _=>ac.mk (fun _=>aw Y) fun h60=>ac.mk (fun _=>aw Y) fun h30=>?_⟩;have h60:=XX h60;have h30:=XX h30;refine(oH w2 (hL.on Y)).mono ?_;rintro e w6 ⟨rfl,b6⟩;have hb6:=ae Y b6;refine⟨_,rfl,ac.no rfl ⟨_,_,_,_,_,_,_,_,_,_,_,_,R5 (aj b6 (aj b2 l1)),?_⟩⟩;refine(E5 w6 y ls cs js xs (h.on hb6)).mono ?_;rintro e w8 ⟨u,rfl,v,r,s,T,rfl,hB8,hv,b8⟩;have hb8:=ae hb6 b8;refine⟨_,_,_,_,_,_,_,_,_,_,_,_,_,_,_,_,rfl,?_⟩;intro w9 hw9;refine bg (uF Lr) (uF r) rfl (pf r) w9 hw9 ?_;intro O h10 hz10 b10;have hB:=hB8.on b10;have X:=ae hb8 b10;have hz6:=hb6.size;have B:=hB.now.ok;have c:=hB.now.vok;have hvl:=hB8.voc.lt;have hvl10:=hB.voc.lt;have hwv:w.heap.size≤v:=XW hz6 hv;have Z:=(hr.on hb6).far hv;obtain⟨hl,hsq⟩:=Kb hB;have rcells:∀ {q:World},aD v O q→q.heap[w8.heap.size]? =some (.cells (uF r).toArray Jz (0,0)):=fun t=>t.held (by omega) h10;have i:∀ {q:World},aD v O q→ZH w q:=fun t=>X.trans (t.below hwv X.size);refine ac.no rfl ⟨_,_,_,_,_,_,_,_,_,_,_,_,_,_,_,rf (x:=r) h10,?_⟩;refine(CC O r s T hB.now A C ids (hr.on X) (by omega)).mono ?_;rintro e w11 ⟨rfl,b11⟩;have T11:aD v O w11:=aD.of_below b11;refine⟨_,rfl,ac.mk (fun _=>⟨rfl,i T11⟩) fun a0=>?_⟩;have a0:=ft (XX a0);have E:∀t∈ids,(ap s T).Has t:=fun t ht=>(du B t).1 (a0 t ht);have G:bP s T ids=(0,0):=I' B E (by omega);have hV11:=hB.voc.on b11;refine(sI w11 v s T hV11 A C ids (hr.on (i T11)) Z).mono ?_;rintro e w12 ⟨hV12,t12,hres⟩;obtain⟨_,_,o,ho,rfl⟩:=hres.resolve_left (fun h=>h.1 (by rw [G]));have T12:=T11.trans t12;have hJ:nf s T ids (.tuple #[.int .i64 (dv o),.int .i64 0]):=.inr ⟨by rw [G],a0,o,ho,rfl⟩;have N:∀ {x1 x2:Int},nf s T ids (.tuple #[.int .i64 x1,.int .i64 x2])→x1=dv o∧x2=0:=by
  intro x1 x2 hx;have e:=wH B c hx hJ;simp only [Value.tuple.injEq,Array.mk.injEq,List.cons.injEq,Value.int.injEq,true_and,and_true]at e;exact e
 refine⟨_,_,rfl,(Fs w12 v s T hV12 B c A C ids (hr.on (i T12)) hC Z (.inl (by omega))).mono ?_⟩;rintro e w13 ⟨a1,a2,rfl,hag,hV13,t13⟩;have T13:=T12.trans t13;obtain⟨rfl,rfl⟩:a1=dv o∧a2=0:=by
  rcases hag with⟨h1,_⟩ |⟨_,_,o1,ho1,e1,e2⟩
  ·exact absurd (by rw [G]) h1
  ·rw [e1,e2,gi c E ho1 ho];exact⟨rfl,rfl⟩
 refine⟨_,_,rfl,(wn w13 v s T hV13 hB.asc 1048576).mono ?_⟩;rintro e w14 ⟨u,rfl,hV14,t14,hu⟩;rw [if_neg (by omega)]at hu;obtain⟨g,rfl,hG,hg⟩:=hu;have T14:=T13.trans t14;have a3:yD s T:=kV hB.asc (by
  obtain⟨w0',x,tp,bp,mp,d,l,uses,hR⟩:=hB.voc;exact hR.now.ids)
 have hn:gN s T≤1006:=hl;have hmost:¬(((gN s T+2)*gN s T:Nat):Int)>1048576:=by
  have:(gN s T+2)*gN s T≤1008*1006:=Nat.mul_le_mul (by omega) hn;omega
 refine⟨_,_,rfl,(GH w14 g s T hG (by omega) a3 1048576).mono ?_⟩;rintro e w15 ⟨b15,_,hu⟩;obtain⟨a,rfl,ha,hA⟩:=hu hmost;have T15:=T14.trans (aD.of_below b15);have hG15:=hG.on b15;have W:=hV14.on b15;refine⟨_,_,rfl,ac.no rfl (ac.no rfl (ac.no rfl (ac.no rfl ?_)))⟩;refine(KD w15 v g s T W B A C ids (hr.on (i T15)) fun z H hle=>yj z g s T (hG15.on H) (by omega) B c A C ids ((hr.on (i T15)).on H) (by omega)).mono ?_;rintro e w16 ⟨x1,x2,rfl,hx,Q⟩;obtain⟨rfl,rfl⟩:=N hx;have T16:=T15.trans (aD.of_below Q);have V:=hG15.on Q;have hgl:g<w16.heap.size:=by
  obtain⟨ids',rows,alone,mb,rs,hR⟩:=V;exact(XY.1 hR.blk).1
 refine⟨_,_,rfl,(xF w16 g s T V (by omega) a3 hgl).mono ?_⟩;rintro e w17 ⟨f,rfl,hF,S⟩;have T17:=T16.trans (aD.of_below S);refine⟨_,rfl,(Jj w17 v f s T ((W.on Q).on S) B A C ids (hr.on (i T17)) fun z H hle=>Cp z f g s T (hF.on H) B c A C ids ((hr.on (i T17)).on H) (by omega)).mono ?_⟩;rintro e w18 ⟨y1,y2,rfl,hy,b18⟩;obtain⟨rfl,rfl⟩:=N hy;have T18:=T17.trans (aD.of_below b18);have hA18:=((hA.on Q).on S).on b18;have hG18:=(V.on S).on b18;have hV18:=((W.on Q).on S).on b18;refine⟨_,_,rfl,(zD w18 v a s T hV18 B A C ids (hr.on (i T18)) fun z H hle=>qy z a g _ (hA18.on H) s T (hG18.on H) rfl _ (GX (by omega)) B c A C ids ((hr.on (i T18)).on H) (by omega)).mono ?_⟩;rintro e w19 ⟨z1,z2,rfl,a4,b19⟩;obtain⟨rfl,rfl⟩:=N a4;have T19:=T18.trans (aD.of_below b19);have hV19:=hV18.on b19;have hG19:=hG18.on b19;have hA19:=hA18.on b19;refine⟨_,_,rfl,(Fj w19 a g (n_ s T) hA19 (by show gN s T+2≤10000;omega) (by show gN s T≤10000;omega)).mono ?_⟩;rintro e w20 ⟨bb,fc,rfl,hc,hLs,_,_,t20⟩;have hva:v<a:=Nat.lt_of_lt_of_le hV14.lt ha;have T20:aD v O w20:=T19.then_below2 (t20.below (by have:=T14.size;omega) T19.size);obtain⟨ca,hca⟩:∃ca,w19.heap[a]? =some (.cells ca dO (0,0)):=by
  obtain⟨o1,hW⟩:=hA19;exact hW.typed
 have hG20:il w20 g s T:=il.past hG19 hca (fun j hj hne=>t20.block j hj hne) (by decide) (by decide) (by decide) (by decide);have hV20:aW w20 v s T:=hV19.byA hca hva t20;refine⟨_,rfl,(zD w20 v bb s T hV20 B A C ids (hr.on (i T20)) fun z H hle=>qy z bb g _ (hLs.on H) s T (hG20.on H) rfl _ (EF (by omega) hc) B c A C ids ((hr.on (i T20)).on H) (by omega)).mono ?_⟩;rintro e P ⟨q1,q2,rfl,hq,b21⟩;obtain⟨rfl,rfl⟩:=N hq;have T21:=T20.trans (aD.of_below b21);have hV21:=hV20.on b21;refine⟨_,_,rfl,(zh P v).mono ?_⟩;rintro e q0 ⟨rfl,hq0⟩;have hd0:=LM P hV21 q0 hq0;obtain⟨d,hd⟩:∃d,d=P.heap.size:=⟨_,rfl⟩;rw [←hd]at hd0⊢;refine⟨_,rfl,?_⟩;have hr21:=hr.on (i T21);have hr2':∀ {q:World},aD v O q→Rw Kn 1 q A2 cuts:=fun t=>hr2.on (i t);intro I hI;have fin:∀(j:Int) (R:Sl) (y6:Bool) (q:World) (o':Option Nat) (D:Sl),R.n=0→kG P q d v s T ids o' D→I [.int .i64 j,.slice R.a R.n R.c,.bool y6] q:=by
  intro j R y6 q o' D hR0 U;have Tq:=T21.trans U.t;obtain rfl:=gi c E U.first ho;refine hI j R.a R.n R.c y6 q (ac.no (by rw [hR0];rfl) (ac.yes (by simp) (ac.yes (by simp) (ac.yes (by simp) (ac.yes (by simp) (ac.yes (by simp) ?_))))));refine(kK U).mono ?_;rintro e w29 ⟨rfl,rfl⟩;refine⟨_,rfl,ac.yes (by simp) ⟨_,_,_,_,_,_,_,_,_,_,_,_,_,_,_,rf (x:=r) (rcells Tq),?_⟩⟩;refine(tj w29 r s T (hB.rv _ Tq) A _ C ids rfl (hr.on (i Tq)) (by omega) E).mono ?_;rintro e w30 ⟨rfl,b30⟩;refine⟨_,rfl,?_,i (Tq.trans (aD.of_below b30))⟩;rw [BY c E ho];simp
 have loop:∀(n m j:Nat) (R:Sl) (y6:Bool) (q:World) (o':Option Nat) (D:Sl),ids.length-m≤n→m≤ids.length→j≤m→R.n=ids.length-m→Rw an 1 P R.a (ids.drop m)→R.n≤R.c→(R.a=none→R.c=0)→(ids.drop m≠ []→∀p,R.a=some p→p.block≠v)→kG P q d v s T (ids.take m) o' D→I [.int .i64 (j:Int),.slice R.a R.n R.c,.bool y6] q:=by
  intro n;induction n with
  |zero=>
   intro m j R y6 q o' D h1 h2 h3 hRn hRr hRc hRa hRv U;have hm:m=ids.length:=by omega
   rw [hm,List.take_length]at U;exact fin j R y6 q o' D (by omega) U
  |succ n ihn=>
   intro m j R y6 q o' D h1 h2 h3 hRn hRr hRc hRa hRv U;by_cases hm:m=ids.length
   ·rw [hm,List.take_length]at U;exact fin j R y6 q o' D (by omega) U
   have M:(ids.drop m).length=R.n:=by rw [List.length_drop,hRn]
   have Tq:=T21.trans U.t;obtain⟨ra,hra⟩:∃ra,R.a=some ra:=by
    obtain⟨p,hp,_⟩:=hRr 0 _ (XK (by omega));exact⟨p,hp⟩
   refine hI (j:Int) R.a R.n R.c y6 q (ac.yes (XJ (by omega)) ?_);intro J hJ;have L:∀p:Nat,1≤p→p≤R.n→J [.int .i64 (p:Int)] q:=by
    intro p hp1 hp2;refine hJ (p:Int) q ⟨by omega,by omega,by omega,trivial,trivial,?_⟩;simp only [Int.toNat_natCast,Nat.sub_zero];have hL0:=bO.begin hRr (by omega) p (by omega) hRa;have hpl:((ids.drop m).take p).length=p:=by rw [List.length_take];omega
    have hf:=GK U c B (by rw [List.length_take];omega) (bB R.a 0 R.c 1) R.c ((ids.drop m).take p) hL0.r (fun _ z H=>by
     obtain⟨z',a4,ez⟩:=oX H;rw [←ez];exact hRv (by intro e;rw [e]at M;simp at M;omega) z' a4) (by rw [hpl];exact hL0.k) (by rw [hpl];omega) (by omega)
    rw [hpl]at hf;refine hf.mono ?_;rintro e w25 ⟨u,rfl,z25,k25,last',hlast,hcase⟩;have hnb:¬dP s T ((ids.drop m).take p)≥0:=by
     intro hb;have:dP s T ((ids.drop m).take p)= -1:=dY fun j hj=>by rw [a0 _ (List.mem_of_mem_drop (List.mem_of_mem_take (List.getElem_mem hj)))];rfl
     omega
    obtain⟨_,o2,rfl,hD2⟩:=hcase.resolve_left (fun h=>hnb h.1);have etake:ids.take m++(ids.drop m).take p=ids.take (m+p):=by rw [List.take_add]
    rw [etake]at hD2;have hoff:o2=G1 o (m+p):=gi c (fun t ht=>E t (List.mem_of_mem_take ht)) hD2.first (EV c E ho (m+p) (by omega));refine⟨_,_,rfl,by omega,by omega,trivial,trivial,trivial,Ar.ok64 (by omega) (by omega) ⟨by omega,by omega,by omega,trivial,trivial,?_⟩⟩;intro J2 hJ2;have K:J2 [.int .i64 (dv (G1 o (m+p)))] w25:=by
     refine hJ2 _ _ ((kK hD2).mono ?_);rintro e w27 ⟨rfl,rfl⟩;rw [hoff];refine⟨_,rfl,ac.no (by simp) (Ar.nat (j+1) (by omega) (by omega) ?_)⟩;have hcut:=hRr.cut p R.c (by omega);rw [List.drop_drop]at hcut;refine ihn (m+p) (j+1) ⟨bB R.a p R.c 1,R.n-p,R.c-p⟩ y6 w27 o2 last' (by omega) (by omega) (by omega) (by show R.n-p=_;omega) hcut (by show R.n-p≤R.c-p;omega) (fun F=>?_) (fun _ z H=>?_) hD2
     ·exfalso;change bB R.a p R.c 1=none at F;rw [hra]at F;unfold bB at F;split at F<;>cases F
     ·obtain⟨z',a4,ez⟩:=oX H;rw [←ez];exact hRv (by intro e;rw [e]at M;simp at M;omega) z' a4
    have hlen2:((ids.length:Int)- ((R.n-p:Nat):Int)).toNat=m+p:=by omega
    rw [hlen2];cases o with
    |none=>exact ac.no rfl K
    |some k=>
     refine ac.yes (XJ (by show(k:Int)≥0;omega)) (ac.mk (fun hk=>?_) fun hk=>?_)
     ·have hk:(k:Int) < ((m+p:Nat):Int):=XQ hk;have e:G1 (some k) (m+p)=some k:=if_pos (by omega);rw [e]at K;exact K
     ·have hk:¬(k:Int) < ((m+p:Nat):Int):=XX hk;have e:G1 (some k) (m+p)=none:=if_neg (by omega);rw [e]at K;exact K
   refine ac.mk (fun hj=>?_) fun _=>L R.n (by omega) (XV _);have hj:=XQ hj;have hjl:j<cuts.length:=by omega
   obtain⟨pa,hpa,c0⟩:=a_ (hr2' Tq) hjl (v:=.int .u8 (cuts[j]).1) rfl;refine ag.mk pa hpa ⟨by omega,by omega,_,c0,by decide,?_⟩;obtain⟨n0,n1⟩:=(cuts[j]).2;obtain⟨a5,hnb8⟩:∃z:Nat,(cuts[j]).1=(z:Int):=⟨(cuts[j]).1.toNat,by omega⟩;have ht:Int.tmod (cuts[j]).1 6=((a5%6:Nat):Int):=by rw [hnb8];rfl
   have h6:a5%6<6:=Nat.mod_lt _ (by decide);rw [ht,cL (by show(-9223372036854775808:Int)≤_;omega) (by show _≤(9223372036854775807:Int);omega)];refine Ar.ok64 (by omega) (by omega) ⟨_,_,Cs _ _ _ _ _,?_⟩;split
   ·have:=L (1+a5%6) (by omega) (by omega);rw [show((1:Int)+((a5%6:Nat):Int))=((1+a5%6:Nat):Int) by omega];exact this
   ·exact L R.n (by omega) (XV _)
 exact loop ids.length 0 0 ⟨A,ids.length,C⟩ false q0 none cW (by omega) (Nat.zero_le _) (XV _) (by show ids.length=_;omega) hr21 hC (fun hn=>lU.zero hk hn) (fun hne=>Z (by rwa [List.drop_zero]at hne)) hd0
open Go Go.RowKit Go.ChangeShapes Go.WideShapes
section
variable {H:Type} {enc0:TypeId×Value→H} {w:World} {base:Nat} {spare:Nat→Bool} {held:Bool}
theorem Lz {e:TypeId} (he:Tryz.prog.underlying e=some (.int .u8)):∀n cs' y,DataW.trod enc0 Tryz.prog w base spare held n e cs'=some y→∃m:Gt,cs'=Kn m:=by
 intro n cs' y h;obtain⟨i,a,_,c⟩:=DataW.trod_int he h;have b:0≤i∧i<256:=by
  simp [Lit.wf,IntKind.min,IntKind.max,IntKind.signed,IntKind.bits]at c;omega
 exact⟨⟨i,b⟩,a⟩
theorem Jv {A:Option Addr} {N C:Nat} {d:DataW H} {p:List MemPlace} (h:DataW.Trod enc0 Tryz.prog w base spare held 57 (.slice A N C) d p):∃xs:List Gt,N=xs.length∧lU ⟨A,N,C⟩∧N≤C∧C≤maxLen∧Rw Kn 1 w A xs:=by
 obtain⟨a,b⟩:=h;obtain⟨s,xs,e,n,k,c,m,r⟩:=iy (enc:=Kn) (sz:=1) Tryz.underlying57 (by kernel_rfl) (fun _=>rfl) (Nat.succ_pos _) (Lz Tryz.underlying5) b;obtain⟨f,i,g⟩:=s;simp [Value.cells]at e;obtain⟨rfl,rfl,rfl⟩:=e;exact⟨xs,n,k,c,m,r⟩
end
end Go.Proofs.YtijbcdiffjjefaaGreatDoor.Eng
