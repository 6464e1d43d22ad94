/- Which states are alike, walked by the engine; the once by the kit's tactics. -/
import Derived.Test.YtijbcdiffjjefaaGreatDoorZxGg
import Derived.Laws.CopyRow
import Derived.Test.YtijbcdiffjjefaaGreatDoorZxTab
set_option linter.unusedVariables false
set_option linter.unusedSimpArgs false
set_option maxRecDepth 100000
namespace Go.Proofs.YtijbcdiffjjefaaGreatDoor.Eng
open Go Go.RowKit
set_option maxHeartbeats 1600000 in
theorem Bj (v:Nat) (w:World) (K:World→Prop)
  (hfind:CP 125 #[.pointer (some ⟨v,0,none⟩)] (w.setCell ⟨v,4,none⟩ (.int .i32 1)) fun e w'=>e= .returned (.tuple #[])∧K w')
  (hK:∀w',K w'→w'.cell? ⟨v,3,none⟩=some (.int .u32 0)∧w'.frozen? ⟨v,3,none⟩=false∧w'.cell? ⟨v,4,none⟩=some (.int .i32 1)∧w'.frozen? ⟨v,4,none⟩=false)
  (h0:w.cell? ⟨v,3,none⟩=some (.int .u32 0)) (h1:w.cell? ⟨v,4,none⟩=some (.int .i32 0)) (f0:w.frozen? ⟨v,3,none⟩=false) (f1:w.frozen? ⟨v,4,none⟩=false):
  CP 162 #[.pointer (some ⟨v,3,none⟩),.func (.func 125) #[.pointer (some ⟨v,0,none⟩)] #[]] w fun e w'=>e= .returned (.tuple #[])∧∃w2,K w2∧w'=(w2.drew.setCell ⟨v,3,none⟩ (.int .u32 1)).setCell ⟨v,4,none⟩ (.int .i32 0):=by
 have hl:=run_call_load (P:=Tryz.prog) Tryz.func206 (by kernel_rfl) (by kernel_rfl) (by kernel_rfl) .u32 (by kernel_rfl) (w:=w.setCell ⟨v,4,none⟩ (.int .i32 1)) (a:=⟨v,3,none⟩) (x:=0) ((World.cell?_setCell_other _ ⟨v,4,none⟩ ⟨v,3,none⟩ _ (by simp)).trans h0);have hnot:∀(x:Bool) (w:World),(Op.unary .not (.bool x)).run Tryz.prog w= .ok (.bool (!x)) w:=fun _ _=>rfl
 go_enter_defers Tryz.func162,Tryz.ntmps162
 go_wp2_with (go_at_call 207;refine(uP ⟨v,4,none⟩ _ (by go_simp) (by go_simp)).mono ?_;rintro e w' ⟨rfl,rfl⟩)
 go_wp2_with (first |(go_at_call 125;refine hfind.mono ?_;rintro e w' ⟨rfl,hk⟩) |go_in)
 obtain⟨k0,k1,k2,k3⟩:=hK _ hk;refine leaves_cons (f:=209) (args:=#[.pointer (some ⟨v,3,none⟩),.bool true]) (by simp) (by simp [go_sem]) ?_;refine(sK ⟨v,3,none⟩ (.int .u32 0) .returning _ k0 k1).mono ?_;rintro e u' w'' ⟨rfl,rfl,rfl⟩;refine leaves_cons (f:=208) (args:=#[.pointer (some ⟨v,4,none⟩)]) (by simp [settle]) (by simp [go_sem]) ?_;refine(pG ⟨v,4,none⟩ _ _ ?_ ?_).mono ?_
 ·refine(World.cell?_setCell_other _ ⟨v,3,none⟩ ⟨v,4,none⟩ _ (by simp)).trans ?_;rw [World.cell?_drew];exact k2
 ·simp [k3]
 rintro e u' w'' ⟨rfl,rfl,rfl⟩;simp [Leaves,settle,results,Tryz.results162];exact⟨_,hk,rfl⟩
set_option maxHeartbeats 1600000 in
theorem FL (v:Nat) (w:World) (K:World→Prop)
  (hfind:CP 125 #[.pointer (some ⟨v,0,none⟩)] (w.setCell ⟨v,4,none⟩ (.int .i32 1)) fun e w'=>e= .returned (.tuple #[])∧K w')
  (hK:∀w',K w'→w'.cell? ⟨v,3,none⟩=some (.int .u32 0)∧w'.frozen? ⟨v,3,none⟩=false∧w'.cell? ⟨v,4,none⟩=some (.int .i32 1)∧w'.frozen? ⟨v,4,none⟩=false)
  (h0:w.cell? ⟨v,3,none⟩=some (.int .u32 0)) (h1:w.cell? ⟨v,4,none⟩=some (.int .i32 0)) (f0:w.frozen? ⟨v,3,none⟩=false) (f1:w.frozen? ⟨v,4,none⟩=false):
  CP 107 #[.pointer (some ⟨v,3,none⟩),.func (.func 125) #[.pointer (some ⟨v,0,none⟩)] #[]] w fun e w'=>e= .returned (.tuple #[])∧∃w2,K w2∧w'=(w2.drew.setCell ⟨v,3,none⟩ (.int .u32 1)).setCell ⟨v,4,none⟩ (.int .i32 0):=by
 have hl:=run_call_load (P:=Tryz.prog) Tryz.func206 (by kernel_rfl) (by kernel_rfl) (by kernel_rfl) .u32 (by kernel_rfl) h0;have hnot:∀(x:Bool) (w:World),(Op.unary .not (.bool x)).run Tryz.prog w= .ok (.bool (!x)) w:=fun _ _=>rfl
 go_enter Tryz.func107,Tryz.ntmps107
 go_wp2_with (first |(go_at_call 162;refine(Bj v w K hfind hK h0 h1 f0 f1).mono ?_;rintro e w' ⟨rfl,hk⟩) |(go_at_call 161;go_in))
 go_end0
 exact⟨rfl,hk⟩
abbrev wP (g:Nat) (next good:Sl) (d l:Int) (of:Sl):Array Value:=#[.pointer (some ⟨g,0,none⟩),next.v,good.v,.int .u32 d,.int .i32 l,.int .u32 0,of.v]
def lh (w:World) (a g:Nat) (M:Aut) (o:Option (Nat→Nat)):Prop:=∃(next good of:Sl) (rs:List Sl) (d:Int),w.heap[a]? =some (.cells (wP g next good d 0 of) dI (0,0))∧jo w M next good rs∧(match o with
 |none=>d=0∧of=dZ
 |some f=>d=1∧Aut.Cls M f∧of.n=M.N∧w.ownsRow 0 bh 1 of.v of.n (fV ((List.range M.N).map f)))
def fM (w:World) (a g:Nat) (M:Aut):Prop:=∃o,lh w a g M o
theorem lh.on {w w':World} {a g:Nat} {M:Aut} {o:Option (Nat→Nat)} (h:lh w a g M o) (hb:Below w.heap.size w w'):lh w' a g M o:=by
 obtain⟨next,good,of,rs,d,h1,h2,h3⟩:=h;refine⟨next,good,of,rs,d,aj hb h1,h2.on hb,?_⟩;cases o with
 |none=>exact h3
 |some f=>exact⟨h3.1,h3.2.1,h3.2.2.1,aF h3.2.2.2 hb⟩
theorem fM.on {w w':World} {a g:Nat} {M:Aut} (h:fM w a g M) (hb:Below w.heap.size w w'):fM w' a g M:=by
 obtain⟨o,h⟩:=h;exact⟨o,h.on hb⟩
theorem lh.lt {w:World} {a g:Nat} {M:Aut} {o:Option (Nat→Nat)} (h:lh w a g M o):a<w.heap.size:=by
 obtain⟨next,good,of,rs,d,h1,_⟩:=h;exact(Array.getElem?_eq_some_iff.1 h1).1
theorem lh.typed {w:World} {a g:Nat} {M:Aut} {o:Option (Nat→Nat)} (h:lh w a g M o):∃c,w.heap[a]? =some (.cells c dI (0,0)):=by
 obtain⟨next,good,of,rs,d,h1,_⟩:=h;exact⟨_,h1⟩
theorem Mh {w:World} {a:Nat} {c:Array Value} (h:w.heap[a]? =some (.cells c dI (0,0))) (j:Nat) (u:Value):
  (w.setCell ⟨a,j,none⟩ u).heap[a]? =some (.cells (c.setIfInBounds j u) dI (0,0))∧aC a w (w.setCell ⟨a,j,none⟩ u):=
 ⟨bO h u,⟨rfl,rfl,rfl,by rw [ba];exact Nat.le_refl _,fun k _ hk=>aq hk⟩⟩
theorem mZ (w:World) (a g:Nat) (M:Aut) (o:Option (Nat→Nat)) (h:lh w a g M o) (hN:M.N≤10000) (hn:M.n≤10000):
  CP 73 #[.pointer (some ⟨a,0,none⟩)] w fun e w'=>∃(of:Sl) (f:Nat→Nat),e= .returned of.v∧(∀f0,o=some f0→f=f0∧w'=w)∧of.n=M.N∧Rw ay 1 w' of.a (((List.range M.N).map f).map fun i:Nat=>(i:Int))∧lh w' a g M (some f)∧aC a w w':=by
 obtain⟨next,good,of,rs,d,hblk,hM,ho⟩:=h;refine aJ (CB (some ⟨a,0,none⟩) w (fun u w'=>∃(of:Sl) (f:Nat→Nat),u=of.v∧(∀f0,o=some f0→f=f0∧w'=w)∧of.n=M.N∧Rw ay 1 w' of.a (((List.range M.N).map f).map fun i:Nat=>(i:Int))∧lh w' a g M (some f)∧aC a w w') ?_) (by rintro v w' ⟨of,f,rfl,h⟩;exact⟨of,f,rfl,h⟩);have e3:((⟨a,0,none⟩:Addr).add 3).add 0=⟨a,3,none⟩:=by rw [aB,aB]
 have e6:((⟨a,0,none⟩:Addr).add 3).add 3=(⟨a,0,none⟩:Addr).add 6:=by rw [Addr.add_add]
 have at_:∀ {w':World} {c:Array Value},w'.heap[a]? =some (.cells c dI (0,0))→∀j,w'.cell? ⟨a,j,none⟩=c[j]? :=fun h j=>aZ h;have fz:∀ {w':World} {c:Array Value},w'.heap[a]? =some (.cells c dI (0,0))→∀j,w'.frozen? ⟨a,j,none⟩=false:=fun h j=>bV h;refine af.mk _ rfl ?_;rw [e3];have rest:∀(w3:World) (of3:Sl) (f:Nat→Nat),(∀f0,o=some f0→f=f0∧w3=w)→w3.heap[a]? =some (.cells (wP g next good 1 0 of3) dI (0,0))→Aut.Cls M f→of3.n=M.N→w3.ownsRow 0 bh 1 of3.v of3.n (fV ((List.range M.N).map f))→aC a w w3→
   af (some ⟨a,0,none⟩) (fun pa_1=>∃lA:Option Addr,∃lN:Nat,∃lC:Nat,w3.cell? ((pa_1.add 3).add 3)=some (Value.slice lA lN lC)∧
    (∃(of:Sl) (f:Nat→Nat),Value.slice lA lN lC=of.v∧(∀f0,o=some f0→f=f0∧w3=w)∧of.n=M.N∧Rw ay 1 w3 of.a (((List.range M.N).map f).map fun i:Nat=>(i:Int))∧lh w3 a g M (some f)∧aC a w w3)):=by
  intro w3 of3 f hf hb hc hl hown t;exact af.mk _ rfl ⟨_,_,_,by rw [e6,lp hb];rfl,of3,f,rfl,hf,hl,(dk.of_own eL hown).r,⟨next,good,of3,rs,1,hb,hM.touch hblk t,rfl,hc,hl,hown⟩,t⟩
 cases o with
 |none=>
  obtain⟨rfl,rfl⟩:=ho;obtain⟨b2,t2⟩:=Mh hblk 4 (.int .i32 1);have hM2:=hM.touch hblk t2;refine(FL a w (fun w'=>∃(of:Sl) (f:Nat→Nat),w'.heap[a]? =some (.cells (((wP g next good 0 0 dZ).setIfInBounds 4 (.int .i32 1)).setIfInBounds 6 of.v) dI (0,0))∧Aut.Cls M f∧of.n=M.N∧w'.ownsRow (w.setCell ⟨a,4,none⟩ (.int .i32 1)).heap.size bh 1 of.v of.n (fV ((List.range M.N).map f))∧aC a (w.setCell ⟨a,4,none⟩ (.int .i32 1)) w') (zi _ a _ b2 rfl M next good rs hM2 rfl rfl hN hn) ?_ (at_ hblk 3) (at_ hblk 4) (fz hblk 3) (fz hblk 4)).mono ?_
  ·rintro w' ⟨of',f,hb',_⟩;exact⟨at_ hb' 3,fz hb' 3,at_ hb' 4,fz hb' 4⟩
  ·rintro e w3 ⟨rfl,wf,⟨of',f,hbf,hc,hl,hof,tf⟩,hw3⟩;refine⟨rfl,?_⟩;have hbd:wf.drew.heap[a]? =some (.cells (((wP g next good 0 0 dZ).setIfInBounds 4 (.int .i32 1)).setIfInBounds 6 of'.v) dI (0,0)):=hbf;obtain⟨b4,t4⟩:=Mh hbd 3 (.int .u32 1);obtain⟨b5,t5⟩:=Mh b4 4 (.int .i32 0);rw [←hw3]at b5 t5;have tt:aC a wf w3:=((aC.of_below (aO wf)).trans t4).trans t5;exact rest w3 of' f (fun f0 h=>by cases h) b5 hc hl (tt.own (aX hof (Nat.zero_le _)) (aE hof hbf (by decide))) ((t2.trans tf).trans tt)
 |some f=>
  obtain⟨rfl,hc,hl,hown⟩:=ho;refine(uI ⟨a,3,none⟩ 1 (by decide) _ w (at_ hblk 3)).mono ?_;rintro e w3 ⟨rfl,hw⟩;subst hw;exact⟨rfl,rest w3 of f (fun f0 h=>by cases h;exact⟨rfl,rfl⟩) hblk hc hl hown (aC.of_below (Below.refl _ _))⟩
theorem lh.blk {w:World} {a g:Nat} {M:Aut} {o:Option (Nat→Nat)} (h:lh w a g M o):∃(next good of:Sl) (rs:List Sl) (d:Int),w.heap[a]? =some (.cells (wP g next good d 0 of) dI (0,0))∧jo w M next good rs:=by
 obtain⟨next,good,of,rs,d,h1,h2,_⟩:=h;exact⟨next,good,of,rs,d,h1,h2⟩
theorem jV (w:World) (a g:Nat) (M:Aut) (h:fM w a g M):
  CP 21 #[.pointer (some ⟨a,0,none⟩)] w fun e w'=>e= .returned (.int .i64 (M.N:Int))∧w'=w:=by
 obtain⟨o,h⟩:=h;obtain⟨next,good,of,rs,d,h1,h2⟩:=h.blk;have:=lr w a h1 next rfl;rw [h2.len.1]at this;exact this
theorem lO (w:World) (a g:Nat) (M:Aut) (h:fM w a g M) (x:Int):
  CP 77 #[.pointer (some ⟨a,0,none⟩),.int .i64 x] w fun e w'=>e= .returned (.bool (decide (0≤x∧x< (M.N:Int))))∧w'=w:=by
 refine aN (Cv (some ⟨a,0,none⟩) x w) ?_;refine ac.mk (fun h0=>(jV w a g M h).mono ?_) fun h0=>⟨?_,rfl⟩
 ·rintro e w1 ⟨rfl,hw⟩;have h0:=of_decide_eq_true h0;refine⟨_,rfl,?_,hw⟩;rw [decide_eq_decide.2 (show x< (M.N:Int)↔0≤x∧x< (M.N:Int)from⟨fun h=>⟨h0,h⟩,fun h=>h.2⟩)]
 ·have h0:=of_decide_eq_false h0;rw [decide_eq_false fun h=>h0 h.1]
theorem tw (w:World) (a g:Nat) (M:Aut) (h:fM w a g M) (hN:M.N≤10000) (hn:M.n≤10000) (x y:Int):
  CP 19 #[.pointer (some ⟨a,0,none⟩),.int .i64 x,.int .i64 y] w fun e w'=>∃b:Bool,e= .returned (.bool b)∧((0≤x∧x< (M.N:Int))∧(0≤y∧y< (M.N:Int))→∃f,Aut.Cls M f∧b=decide (f x.toNat=f y.toNat))∧(¬((0≤x∧x< (M.N:Int))∧(0≤y∧y< (M.N:Int)))→b=false)∧fM w' a g M∧aC a w w':=by
 refine aN (Cp (some ⟨a,0,none⟩) x y w) ?_;intro w1 hw1;have b1:Below w.heap.size w w1:=by subst hw1;exact aO w
 have h1:=h.on b1;refine(lO w1 a g M h1 x).mono ?_;rintro e w2 ⟨rfl,hw⟩;subst w2;refine⟨_,rfl,ac.mk (fun hx=>(lO w1 a g M h1 y).mono ?_) fun hx=>⟨false,rfl,fun h=>absurd h.1 (of_decide_eq_false hx),fun _=>rfl,h1,aC.of_below b1⟩⟩;rintro e w3 ⟨rfl,hw⟩;subst w3;have hx:=of_decide_eq_true hx;refine⟨_,rfl,ac.mk (fun hy=>?_) fun hy=>⟨false,rfl,fun h=>absurd h.2 (of_decide_eq_false hy),fun _=>rfl,h1,aC.of_below b1⟩⟩;have hy:=of_decide_eq_true hy;obtain⟨o,hA⟩:=h1;refine(mZ w1 a g M o hA hN hn).mono ?_;rintro e w4 ⟨of,f,rfl,_,hl,hr,hA4,t4⟩;obtain⟨p,hp,c⟩:=fm hr (show x.toNat<M.N by omega);refine⟨_,_,_,rfl,af.mk p hp ⟨by omega,by omega,_,c,?_⟩⟩;refine(mZ w4 a g M _ hA4 hN hn).mono ?_;rintro e w5 ⟨of5,f5,rfl,hf5,hl5,hr5,hA5,t5⟩;obtain⟨hf5,hw5⟩:=hf5 f rfl;subst hf5;have hc:Aut.Cls M f5:=by
  obtain⟨_,_,_,_,_,_,_,_,h,_⟩:=hA5;exact h
 obtain⟨p5,hp5,c5⟩:=fm hr5 (show y.toNat<M.N by omega);have hkeep:w5.cell? (p.add (x.toNat*1))=some (.int .i64 ((f5 x.toNat:Nat):Int)):=by
  rw [hw5];exact c
 refine⟨_,_,_,rfl,⟨hkeep,trivial⟩,af.mk p5 hp5 ⟨by omega,by omega,_,c5,_,rfl,fun _=>⟨f5,hc,?_⟩,fun h=>absurd ⟨hx,hy⟩ h,⟨_,hA5⟩,((aC.of_below b1).trans t4).trans t5⟩⟩;rw [Bool.eq_iff_iff,beq_iff_eq,decide_eq_true_eq];exact Int.natCast_inj
open Aut (metF metL scan visit)
abbrev Qt:TypeId:=108
theorem vk:Tryz.prog.underlying Qt=some (.map bh bh):=by kernel_rfl
def rr (f:Nat→Nat) (l:List Nat):List (Int×Value):=l.zipIdx.map fun x=>(((f x.1:Nat):Int),.int .i64 (x.2:Int))
theorem FX (f:Nat→Nat) (l:List Nat) (x:Nat):rr f (l++ [x])=rr f l++ [(((f x:Nat):Int),.int .i64 (l.length:Int))]:=by simp [rr,List.zipIdx_append]
theorem pn (f:Nat→Nat) (l:List Nat) (x:Nat):fh ((x:Nat):Int) (rr f l)=((l.map f).idxOf? x).map fun i:Nat=>Value.int .i64 (i:Int):=by
 have:=ie (fun s:Nat=>((f s:Nat):Int)) ((x:Nat):Int) l 0;simp only [Nat.zero_add]at this;rw [show fh ((x:Nat):Int) (rr f l)=_ from this];congr 1;have key:∀l:List Nat,(l.map fun s:Nat=>((f s:Nat):Int)).idxOf? ((x:Nat):Int)=(l.map f).idxOf? x:=by
  intro l;induction l with
  |nil=>rfl
  |cons y l ih=>
   simp only [List.map_cons,List.idxOf?_cons,ih];by_cases h:f y=x
   ·simp [h]
   ·simp [h];omega
 exact key l
theorem uN (l:List Nat) (x:Nat):fV (l++ [x])=((l.map fun i:Nat=>(i:Int))++ [((x:Nat):Int)]).flatMap ay:=by simp [fV]
theorem IG (w:World) (a:Nat) {c:Array Value} (h:w.heap[a]? =some (.cells c dI (0,0))) (M:Aut) (next good:Sl) (rs:List Sl) (hM:jo w M next good rs) (h1:c[1]? =some next.v) (hN:M.N≤10000) (hn:M.n≤10000) (cb:Value) (f:Nat→Nat) (hf:∀i,i<M.N→f i<M.N)
  (his:∀s,s<M.N→∀w1,Below w.heap.size w w1→bE gJ cb [.int .i64 (s:Int)] w1 (fun e w2=>e= .returned (.int .i64 ((f s:Nat):Int))∧w2=w1)):
  CP 74 #[.pointer (some ⟨a,0,none⟩),cb] w fun e w'=>∃(l:Sl) (m:Nat),e= .returned (.tuple #[l.v,.map (some m)])∧l.n=(metL M f).length∧w'.ownsRow w.heap.size bh 1 l.v l.n (fV (metL M f))∧br dJ w' m (rr f (metL M f))∧Below w.heap.size w w':=by
 refine aN (DC (some ⟨a,0,none⟩) cb w) ?_;have hok:=hM.ok;intro w1 hw1;have b1:Below w.heap.size w w1:=by subst hw1;exact ah _ _
 have o1:w1.ownsRow w.heap.size bh 1 (.slice (some (nb w)) 1 1) 1 (fV [0]):=by subst hw1;exact jE _ rfl (by decide) (Nat.le_refl _)
 have lt1:w.heap.size<w1.heap.size:=by subst hw1;rw [aA];omega
 refine⟨_,_,gG _,?_⟩;have b2:=ah w1 (.map #[] 0);have m2:br dJ (w1.alloc (.map #[] 0)) w1.heap.size ([]:List (Int×Value)):=iL w1;obtain⟨w2,hw2⟩:∃w2,w2=w1.alloc (.map #[] 0):=⟨_,rfl⟩;rw [←hw2]at b2 m2;rw [←hw2];have hb2:=ae b1 b2;refine(his 0 hok.pos w2 hb2).mono ?_;rintro e w3 ⟨rfl,rfl⟩;obtain⟨w4,hr4,m4,hs4,hz4,hB4⟩:=fo nI vk m2 ((f 0:Nat):Int) (.int .i64 0) rfl;refine⟨_,rfl,w4,hr4,?_⟩;have o4:w4.ownsRow w.heap.size bh 1 (.slice (some (nb w)) 1 1) 1 (fV [0]):=aU (aF o1 b2) fun k hk=>hs4 k (fun e=>eC (aF o1 b2) m2 (by rw [hk,e]));have hb4:=hB4 _ _ (Nat.le_of_lt lt1) hb2;intro I hI;have hln:=hM.len.1;have inner:∀(i s:Nat) (L:List Nat),(metF M f i)[i]? =some s→L=metF M f i→s<M.N→∀(q:World) (l:Sl),q.ownsRow w.heap.size bh 1 l.v l.n (fV L)→l.n=L.length→br dJ q w1.heap.size (rr f L)→Below w.heap.size w q→
   (∀(q':World) (l':Sl),q'.ownsRow w.heap.size bh 1 l'.v l'.n (fV (metF M f (i+1)))→l'.n=(metF M f (i+1)).length→br dJ q' w1.heap.size (rr f (metF M f (i+1)))→Below w.heap.size w q'→I [.int .i64 ((i+1:Nat):Int),l'.v] q')→i≤10000→I [.int .i64 (i:Int),l.v] q:=by
  intro i s L hs hL hsN q l ho hl hm hB cont hi4;have hlt:=(List.getElem?_eq_some_iff.1 hs).1;rw [←hL]at hs hlt;have hrl:s<rs.length:=by rw [hM.rl];exact hsN
  have few:∀k,k≤M.n→(scan M f L s k).length≤M.N:=by
   intro k hk;have p1:=(Aut.scan_mono (M:=M) f L s k (M.n-k)).length_le;rw [show k+(M.n-k)=M.n by omega]at p1;have p2:=Aut.met_few hok hf (i+1);rw [metF, ←hL,hs]at p2;exact Nat.le_trans p1 p2
  refine hI _ l.a l.n l.c q (ac.yes (decide_eq_true (by omega)) ?_);intro q1 hq1;have bq:Below q.heap.size q q1:=by subst hq1;exact aO q
  have hB1:=ae hB bq;have ho1:=aF ho bq;have hMq:=hM.on hB1;have hls:=dk.of_own eL (xs:=L.map fun i:Nat=>(i:Int)) ho1;have hsv:L[i]=s:=(List.getElem?_eq_some_iff.1 hs).2;obtain⟨p,hp,c0⟩:=bQ hls.r (show i< (L.map fun i:Nat=>(i:Int)).length by simpa using hlt) (v:=.int .i64 ((s:Nat):Int)) (by simp [ay,hsv]);obtain⟨p2,hp2,c2,hrn,_⟩:=hMq.rowAt hsN hrl;refine af.mk _ rfl ⟨_,_,_,by rw [lp (aj hB1 h)];exact h1,af.mk p hp ⟨by omega,by omega,_,c0,af.mk p2 hp2 ⟨by omega,by omega,_,_,_,c2,?_⟩⟩⟩;intro I2 hI2;have key:=bj (α:=Sl×World) M.n (fun k y=>y.2.ownsRow w.heap.size bh 1 y.1.v y.1.n (fV (scan M f L s k))∧y.1.n=(scan M f L s k).length∧br dJ y.2 w1.heap.size (rr f (scan M f L s k))∧Below w.heap.size w y.2) (fun k y=>I2 [.int .i64 (k:Int),y.1.v] y.2) (l,q1) ⟨ho1,hl,hm.on bq,hB1⟩ ?_ ?_
  ·exact key
  ·rintro k hk ih ⟨l',z⟩ ⟨hoz,hlz,hmz,hBz⟩;change z.ownsRow w.heap.size bh 1 l'.v l'.n _ at hoz;change l'.n=_ at hlz;change br dJ z _ _ at hmz;change Below w.heap.size w z at hBz;obtain⟨_,_,_,_,hrr⟩:=(hM.on hBz).rowAt hsN hrl;obtain⟨p3,hp3,c3⟩:=fm hrr hk;have hx:=hok.lt s k hsN hk;obtain⟨x,hxe⟩:∃x,x=M.nxt s k:=⟨_,rfl⟩;rw [←hxe]at c3 hx;have hfew:=few k (by omega);have hvis:scan M f L s (k+1)=visit f (scan M f L s k) x:=by rw [scan, ←hxe]
   refine hI2 _ l'.a l'.n l'.c z (ac.yes (decide_eq_true (by omega)) ?_);intro J hJ;refine af.mk p3 hp3 ⟨by omega,by omega,_,c3,(his x hx z hBz).mono ?_⟩;rintro e z1 ⟨rfl,rfl⟩;have hlk:=eS nI vk en hmz ((f x:Nat):Int);rw [pn]at hlk;cases hc:((scan M f L s k).map f).idxOf? (f x)with
   |some j=>
    rw [hc]at hlk;have hmem:f x∈(scan M f L s k).map f:=by
     have:=List.isSome_idxOf?.1 (show(((scan M f L s k).map f).idxOf? (f x)).isSome=true by rw [hc];rfl);exact this
    have hv:scan M f L s (k+1)=scan M f L s k:=by rw [hvis,visit,if_pos hmem]
    exact⟨_,rfl,_,_,z1,hlk,ac.no rfl (hJ _ _ _ _ (Ar.nat (k+1) rfl (by omega) (ih (l',z1) ⟨by rw [hv];exact hoz,by rw [hv];exact hlz,by rw [hv];exact hmz,hBz⟩)))⟩
   |none=>
    rw [hc]at hlk;have hmem:f x∉(scan M f L s k).map f:=List.idxOf?_eq_none_iff.1 hc;have hv:scan M f L s (k+1)=scan M f L s k++ [x]:=by rw [hvis,visit,if_neg hmem]
    refine⟨_,rfl,_,_,z1,hlk,ac.yes rfl ((his x hx z1 hBz).mono ?_)⟩;rintro e z2 ⟨rfl,rfl⟩;obtain⟨z3,hr3,hm3,hs3,hz3,hB3⟩:=fo nI vk hmz ((f x:Nat):Int) (.int .i64 ((l'.n:Nat):Int)) (by rw [pn,hc];rfl);have ho3:=aU hoz fun j hj=>hs3 j fun e=>eC hoz hmz (by rw [hj,e]);have hBz3:=hB3 _ _ (Nat.le_of_lt lt1) hBz;refine⟨_,rfl,z3,hr3,?_⟩;intro z4 hz4;obtain⟨l'',z5,e1,e2,e3,e4,e5⟩:=eL.push (xs:=(scan M f L s k).map fun i:Nat=>(i:Int)) ho3 ((x:Nat):Int) hz4 rfl hBz3.size (by omega) (by decide);refine⟨l''.a,l''.n,l''.c,z5,e2,hJ _ _ _ _ (Ar.nat (k+1) rfl (by omega) (ih (l'',z5) ⟨?_,?_,?_,e4 _ hBz3⟩))⟩
    ·rw [hv,uN];exact e3
    ·show l''.n=_;rw [hv,List.length_append,List.length_singleton,e1,hlz]
    ·rw [hv,FX, ←hlz];exact hm3.same (e5 _ hm3.lt (eC ho3 hm3))
  ·rintro⟨l',z⟩ ⟨hoz,hlz,hmz,hBz⟩;change z.ownsRow w.heap.size bh 1 l'.v l'.n _ at hoz;change l'.n=_ at hlz;have hfull:metF M f (i+1)=scan M f L s M.n:=by rw [metF, ←hL,hs]
   refine hI2 _ l'.a l'.n l'.c z (ac.no (decide_eq_false (by omega)) (Ar.nat (i+1) rfl (by omega) (cont z l' ?_ ?_ ?_ hBz)))
   ·rw [hfull];exact hoz
   ·rw [hfull];exact hlz
   ·rw [hfull];exact hmz
 have loop:∀(d i:Nat) (q:World) (l:Sl),M.N-i≤d→i≤(metF M f i).length→q.ownsRow w.heap.size bh 1 l.v l.n (fV (metF M f i))→l.n=(metF M f i).length→br dJ q w1.heap.size (rr f (metF M f i))→Below w.heap.size w q→I [.int .i64 (i:Int),l.v] q:=by
  have fin:∀(i:Nat) (q:World) (l:Sl),(metF M f i).length≤i→q.ownsRow w.heap.size bh 1 l.v l.n (fV (metF M f i))→l.n=(metF M f i).length→br dJ q w1.heap.size (rr f (metF M f i))→Below w.heap.size w q→I [.int .i64 (i:Int),l.v] q:=by
   intro i q l hi ho hl hm hB;have e:=Aut.met_done hok hf hi;rw [e]at ho hl hm;rw [e]at hi;exact hI _ l.a l.n l.c q (ac.no (decide_eq_false (by omega)) ⟨l,w1.heap.size,rfl,hl,ho,hm,hB⟩)
  intro d;induction d with
  |zero=>
   intro i q l hd hi ho hl hm hB;have:=Aut.met_few hok hf i;exact fin i q l (by omega) ho hl hm hB
  |succ d ihd=>
   intro i q l hd hi ho hl hm hB;by_cases e:i< (metF M f i).length
   ·have hfe:=Aut.met_few hok hf i;refine inner i _ _ (List.getElem?_eq_getElem e) rfl ((Aut.metF_mid hok f i).lt _ (List.getElem_mem e)) q l ho hl hm hB (fun q' l' h1 h2 h3 h4=>ihd (i+1) q' l' (by omega) ?_ h1 h2 h3 h4) (by omega);have:=(Aut.metF_pre (M:=M) f i).length_le;omega
   ·exact fin i q l (by omega) ho hl hm hB
 exact loop M.N 0 w4 ⟨some (nb w),1,1⟩ (by omega) (Nat.zero_le _) o4 rfl m4 hb4
open Aut (metF metL scan visit)
structure ky (w:World) (B b g:Nat) (M:Aut) (nx gd:Sl) (rs:List Sl) (m j:Nat):Prop where
 blk:w.heap[b]? =some (.cells (wP g nx gd 0 0 dZ) dI (0,0))
 onx:w.ownsRow B cq 1 nx.v nx.n (rs.flatMap tb)
 rl:rs.length=m
 each:∀(i:Nat) (r:Sl),rs[i]? =some r→w.ownsRow B bh 1 r.v r.n (fV ((List.range M.n).map (M.nxt i)))
 ogd:w.ownsRow B b_ 1 gd.v gd.n (((List.range j).map M.good).flatMap dS)
theorem ky.on {w w':World} {B b g:Nat} {M:Aut} {nx gd:Sl} {rs:List Sl} {m j:Nat} (h:ky w B b g M nx gd rs m j) (hb:Below w.heap.size w w'):ky w' B b g M nx gd rs m j:=
 ⟨aj hb h.blk,aF h.onx hb,h.rl,fun i r hr=>aF (h.each i r hr) hb,aF h.ogd hb⟩
theorem ky.pushRow {w:World} {B b g:Nat} {M:Aut} {nx gd:Sl} {rs:List Sl} {m j:Nat} (h:ky w B b g M nx gd rs m j) (hBb:B≤b) {r:Sl} (hr:w.ownsRow B bh 1 r.v r.n (fV ((List.range M.n).map (M.nxt m)))) {w1:World} (hw1:w1=w.alloc (.cells #[r.v] cq)) (hB:B≤w.heap.size) (hm:m≤100000):
  ∃(nx':Sl) (w2:World),(Builtin.append_ #[kY,kY] kY #[.slice nx.a nx.n nx.c,.slice (some (nb w)) 1 1]).run Tryz.prog w1= .ok (.slice nx'.a nx'.n nx'.c) w2∧(∃u,w2.cell? ((⟨b,0,none⟩:Addr).add 1)=some u)∧w2.frozen? ((⟨b,0,none⟩:Addr).add 1)=false∧∀w3,w3=w2.setCell ((⟨b,0,none⟩:Addr).add 1) nx'.v→ky w3 B b g M nx' gd (rs++ [r]) (m+1) j∧(∀w0,Below B w0 w→Below B w0 w3)∧∀ {k:Nat} {c:Array Value} {e:TypeId} {fz:Nat×Nat},w.heap[k]? =some (.cells c e fz)→e≠cq→e≠dI→w3.heap[k]? =some (.cells c e fz):=by
 have hnn:=(dk.of_own nG h.onx).n;have hrl:=h.rl;obtain⟨nx',w2,e1,e2,e3,e4,e5⟩:=nG.push h.onx r hw1 rfl hB (by omega) (by decide);have y1:w2.heap[b]? =some (.cells (wP g nx gd 0 0 dZ) dI (0,0)):=(e5 b (Array.getElem?_eq_some_iff.1 h.blk).1 (aE h.onx h.blk (by decide))).trans h.blk;refine⟨nx',w2,e2,⟨_,by rw [aH y1];rfl⟩,be y1,?_⟩;intro w3 hw3;have hs:∀j,j≠b→w3.heap[j]? =w2.heap[j]? :=by
  intro j hj;subst hw3;exact aq (by rw [av];exact hj)
 have same:∀ {B sz n:Nat} {e:TypeId} {u:Value} {xs:List Value},w.ownsRow B e sz u n xs→e≠cq→e≠dI→w3.ownsRow B e sz u n xs:=by
  intro B sz n e u xs ho h1 h2;refine aU ho fun k hk=>?_;rw [hs k fun e=>aE ho h.blk h2 (by rw [hk,e])];exact e5 k (cB ho k hk).2 (cn ho h.onx h1 k hk)
 refine⟨⟨by subst hw3;exact bF y1 _,aU e3 fun k hk=>hs k fun e=>aE e3 y1 (by decide) (by rw [hk,e]),by simp;omega,?_,same h.ogd (by decide) (by decide)⟩,fun w0 h0=>by subst hw3;exact bv (e4 _ h0) hBb _,?_⟩
 ·intro i r' hi;by_cases hcl:i<rs.length
  ·rw [List.getElem?_append_left hcl]at hi;exact same (h.each i r' hi) (by decide) (by decide)
  ·have hci:i=m:=by
    have:=(List.getElem?_eq_some_iff.1 hi).1;simp at this;omega
   subst hci;rw [List.getElem?_append_right (by omega),hrl,Nat.sub_self]at hi;cases hi;exact same hr (by decide) (by decide)
 ·intro k c e fz hk h1 h2;have hkb:k≠b:=by
   rintro rfl;rw [h.blk]at hk;cases hk;exact h2 rfl
  rw [hs k hkb,e5 k (Array.getElem?_eq_some_iff.1 hk).1 (aE h.onx hk fun e=>h1 e.symm)];exact hk
theorem ky.pushGood {w:World} {B b g:Nat} {M:Aut} {nx gd:Sl} {rs:List Sl} {m j:Nat} (h:ky w B b g M nx gd rs m j) (hBb:B≤b) {v:Bool} (hv:v=M.good j) {w1:World} (hw1:w1=w.alloc (.cells #[.bool v] b_)) (hB:B≤w.heap.size) (hj:j≤100000):
  ∃(gd':Sl) (w2:World),(Builtin.append_ #[jN,jN] jN #[.slice gd.a gd.n gd.c,.slice (some (nb w)) 1 1]).run Tryz.prog w1= .ok (.slice gd'.a gd'.n gd'.c) w2∧(∃u,w2.cell? ((⟨b,0,none⟩:Addr).add 2)=some u)∧w2.frozen? ((⟨b,0,none⟩:Addr).add 2)=false∧∀w3,w3=w2.setCell ((⟨b,0,none⟩:Addr).add 2) gd'.v→ky w3 B b g M nx gd' rs m (j+1)∧(∀w0,Below B w0 w→Below B w0 w3):=by
 have hnn:=(dk.of_own Gd h.ogd).n;rw [List.length_map,List.length_range]at hnn;obtain⟨gd',w2,e1,e2,e3,e4,e5⟩:=Gd.push h.ogd v hw1 rfl hB (by omega) (by decide);have y1:w2.heap[b]? =some (.cells (wP g nx gd 0 0 dZ) dI (0,0)):=(e5 b (Array.getElem?_eq_some_iff.1 h.blk).1 (aE h.ogd h.blk (by decide))).trans h.blk;refine⟨gd',w2,e2,⟨_,by rw [aH y1];rfl⟩,be y1,?_⟩;intro w3 hw3;have hs:∀j,j≠b→w3.heap[j]? =w2.heap[j]? :=by
  intro j hj;subst hw3;exact aq (by rw [av];exact hj)
 have same:∀ {B sz n:Nat} {e:TypeId} {u:Value} {xs:List Value},w.ownsRow B e sz u n xs→e≠b_→e≠dI→w3.ownsRow B e sz u n xs:=by
  intro B sz n e u xs ho h1 h2;refine aU ho fun k hk=>?_;rw [hs k fun e=>aE ho h.blk h2 (by rw [hk,e])];exact e5 k (cB ho k hk).2 (cn ho h.ogd h1 k hk)
 refine⟨⟨by subst hw3;exact bF y1 _,same h.onx (by decide) (by decide),h.rl,fun i r hr=>same (h.each i r hr) (by decide) (by decide),?_⟩,fun w0 h0=>by subst hw3;exact bv (e4 _ h0) hBb _⟩;rw [List.range_succ,List.map_append,List.map_cons,List.map_nil, ←hv];exact aU e3 fun k hk=>hs k fun e=>aE e3 y1 (by decide) (by rw [hk,e])
theorem ky.done {w:World} {B b g:Nat} {M:Aut} {nx gd:Sl} {rs:List Sl} (h:ky w B b g M nx gd rs M.N M.N) (hok:M.Ok):lh w b g M none:=
 ⟨nx,gd,dZ,rs,0,h.blk,⟨aX h.onx (Nat.zero_le _),h.rl,fun i r hr=>aX (h.each i r hr) (Nat.zero_le _),aX h.ogd (Nat.zero_le _),hok⟩,rfl,rfl⟩
theorem tM (w:World) (ob:Nat) {eo:TypeId} (of:Sl) (f:Nat→Nat) (n:Nat) (ho:w.heap[ob]? =some (.cells #[of.v] eo (0,0))) (hl:of.n=n) (hr:Rw ay 1 w of.a (((List.range n).map f).map fun i:Nat=>(i:Int))) (s:Nat) (hs:s<n):
  CP 75 #[.int .i64 (s:Int),.pointer (some ⟨ob,0,none⟩)] w fun e w'=>e= .returned (.int .i64 ((f s:Nat):Int))∧w'=w:=by
 refine aN (C8 s (some ⟨ob,0,none⟩) w) ?_;obtain⟨p,hp,c⟩:=fm hr hs;exact af.mk _ rfl ⟨_,_,_,bw ho,af.mk p hp ⟨by omega,by omega,_,c,rfl,rfl⟩⟩
theorem IU {l:List Nat} {x:Nat} (h:x∈l):l.idxOf? x=some (l.idxOf x):=by
 induction l with
 |nil=>cases h
 |cons y l ih=>
  rw [List.idxOf?_cons,List.idxOf_cons];by_cases e:y=x
  ·simp [e]
  ·have:x∈l:=by
    rcases List.mem_cons.1 h with h |h
    ·exact absurd h.symm e
    ·exact h
   have hb:(y==x)=false:=by simpa using e
   simp [hb,ih this]
set_option maxHeartbeats 1000000 in
theorem Ay (w:World) (a g:Nat) (M:Aut) (o:Option (Nat→Nat)) (h:lh w a g M o) (hN:M.N≤10000) (hn:M.n≤10000):
  CP 16 #[.pointer (some ⟨a,0,none⟩)] w fun e w'=>∃(b:Nat) (f:Nat→Nat),e= .returned (.pointer (some ⟨b,0,none⟩))∧(∀f0,o=some f0→f=f0)∧Aut.Cls M f∧fM w' b g (Aut.least M f)∧lh w' a g M (some f)∧w.heap.size≤b∧aC a w w':=by
 refine aN (Cq (some ⟨a,0,none⟩) w) ?_;refine ac.no rfl ((mZ w a g M o h hN hn).mono ?_);rintro e w1 ⟨of,f,rfl,hof,hofn,hofr,hA,t1⟩;have hc:Aut.Cls M f:=by
  obtain⟨_,_,_,_,_,_,_,_,h,_⟩:=hA;exact h
 obtain⟨next,good,of',rs0,d,hblk,hM⟩:=hA.blk;have hok:=hM.ok;have hal:=hA.lt;refine⟨_,_,_,rfl,?_⟩;intro w2 hw2;refine ij hw2 rfl ?_;intro w3 o3 b3;have hM3:=hM.on b3;refine(IG w3 a (aj b3 hblk) M next good rs0 hM3 rfl hN hn _ f hc.lt fun s hs z hz=>bZ (by kernel_rfl) (tM z w1.heap.size of f M.N (aj hz o3) hofn ((hofr.on b3).on hz) s hs)).mono ?_;rintro e w4 ⟨l,m,rfl,hln,hlo,hm,b4⟩;have hb4:=ae b3 b4;have hA4:=hA.on hb4;refine⟨_,_,_,_,rfl,af.mk _ rfl ⟨_,by rw [lp (aj hb4 hblk)];rfl,?_⟩⟩;intro w5 hw5;have b5:Below w4.heap.size w4 w5:=by subst hw5;exact ah _ _
 obtain⟨M',hM'⟩:∃M',M'=Aut.least M f:=⟨_,rfl⟩;have hok':M'.Ok:=by rw [hM'];exact Aut.least_ok hok hc.lt
 have hN':M'.N=(metL M f).length:=by rw [hM'];rfl
 have hn':M'.n=M.n:=by rw [hM'];rfl
 have hfew:=Aut.met_few hok hc.lt M.N;change(metL M f).length≤M.N at hfew;have start:ky w5 w4.heap.size w4.heap.size g M' dZ dZ [] 0 0:=⟨by subst hw5;exact ap _ _,cX _ _ _ _ tb,rfl,(by intro i r h;cases h),cX _ _ _ _ dS⟩;have hl1:w1.heap.size<w4.heap.size:=(Array.getElem?_eq_some_iff.1 (aj b4 o3)).1;intro I hI;let Inv (p:Nat) (q:World):Prop:=∃nx gd rs,ky q w4.heap.size w4.heap.size g M' nx gd rs p p∧Below w4.heap.size w4 q;have key:=bj (α:=World) M'.N Inv (fun p q=>I [.int .i64 (p:Int)] q) w5 ⟨dZ,dZ,[],start,b5⟩ ?_ ?_
 ·exact key
 ·rintro p hp ih q ⟨nx,gd,rs,R,hB⟩;have hpl:p< (metL M f).length:=by omega
  obtain⟨s,hs⟩:∃s,s=(metL M f)[p]:=⟨_,rfl⟩;have hsN:s<M.N:=by rw [hs];exact(Aut.met_mid hok f).lt _ (List.getElem_mem hpl)
  have hsD:(metL M f).getD p 0=s:=by rw [Aut.getD_at hpl,hs]
  have hnxt:∀k,M'.nxt p k=((metL M f).map f).idxOf (f (M.nxt s k)):=by
   intro k;rw [hM'];show((metL M f).map f).idxOf (f (M.nxt ((metL M f).getD p 0) k))=_;rw [hsD]
  have hgd:M'.good p=M.good s:=by
   rw [hM'];show M.good ((metL M f).getD p 0)=_;rw [hsD]
  have hlsq:=(dk.of_own eL (xs:=(metL M f).map fun i:Nat=>(i:Int)) hlo).r.on hB;obtain⟨p0,hp0,c0⟩:=bQ hlsq (show p< ((metL M f).map fun i:Nat=>(i:Int)).length by simpa using hpl) (v:=.int .i64 ((s:Nat):Int)) (by simp [ay,hs]);have hrl:s<rs0.length:=by rw [hM.rl];exact hsN
  have hMq:=(hM.on hb4).on hB;have hbq:=aj hB (aj hb4 hblk);obtain⟨p2,hp2,c2,hrn,_⟩:=hMq.rowAt hsN hrl;have hnl:=hM.len;refine hI _ _ (ac.yes (decide_eq_true (by omega)) (af.mk p0 hp0 ⟨by omega,by omega,_,c0,af.mk _ rfl ⟨_,_,_,by rw [lp hbq];rfl,af.mk p2 hp2 ⟨by omega,by omega,_,_,_,c2,?_⟩⟩⟩));intro I2 hI2;have key2:=bj (α:=Sl×World) M.n (fun k y=>y.2.ownsRow q.heap.size bh 1 y.1.v y.1.n (fV ((List.range k).map (M'.nxt p)))∧y.1.n=k∧Below q.heap.size q y.2) (fun k y=>I2 [.int .i64 (k:Int),y.1.v] y.2) (dZ,q) ⟨cX _ _ _ _ ay,rfl,Below.refl _ _⟩ ?_ ?_
  ·exact key2
  ·rintro k hk ih2 ⟨t,z⟩ ⟨hto,htn,hBz⟩;change z.ownsRow q.heap.size bh 1 t.v t.n _ at hto;change t.n=k at htn;change Below q.heap.size q z at hBz;have hB4z:Below w4.heap.size w4 z:=ae hB hBz;obtain⟨_,_,_,_,hrr⟩:=(hMq.on hBz).rowAt hsN hrl;obtain⟨p3,hp3,c3⟩:=fm hrr hk;obtain⟨x,hx⟩:∃x,x=M.nxt s k:=⟨_,rfl⟩;have hxN:x<M.N:=by rw [hx];exact hok.lt s k hsN hk
   rw [←hx]at c3;have oz:=aj hB4z (aj b4 o3);obtain⟨p4,hp4,c4⟩:=fm (((hofr.on b3).on b4).on hB4z) hxN;have hmem:f x∈(metL M f).map f:=by
    rw [hx];exact Aut.met_in hok hc.lt (j:=p) (by rw [List.getElem?_eq_getElem hpl,hs]) hk
   have hlk:=FW nI vk en (hm.on hB4z) ((f x:Nat):Int);rw [pn,IU hmem]at hlk;refine hI2 _ t.a t.n t.c z (ac.yes (decide_eq_true (by omega)) (af.mk p3 hp3 ⟨by omega,by omega,_,c3,_,_,_,bw oz,af.mk p4 hp4 ⟨by omega,by omega,_,c4,_,z,hlk,?_⟩⟩));intro z1 hz1;obtain⟨t',z2,e1,e2,e3,e4,_⟩:=eL.push (xs:=((List.range k).map (M'.nxt p)).map fun i:Nat=>(i:Int)) hto ((((metL M f).map f).idxOf (f x):Nat):Int) hz1 rfl hBz.size (by omega) (by decide);refine⟨t'.a,t'.n,t'.c,z2,e2,Ar.nat (k+1) rfl (by omega) (ih2 (t',z2) ⟨?_,by show t'.n=k+1;omega,e4 _ hBz⟩)⟩;rw [List.range_succ,List.map_append,List.map_cons,List.map_nil,uN,hnxt k, ←hx];exact e3
  ·rintro⟨t,z⟩ ⟨hto,htn,hBz⟩;change z.ownsRow q.heap.size bh 1 t.v t.n _ at hto;change Below q.heap.size q z at hBz;have hB4z:Below w4.heap.size w4 z:=ae hB hBz;have Rz:=R.on hBz;rw [←hn']at hto;refine hI2 _ t.a t.n t.c z (ac.no (decide_eq_false (by omega)) ⟨_,_,_,by rw [aH Rz.blk];rfl,?_⟩);intro z1 hz1;obtain⟨nx',z2,e2,u2,f2,k2⟩:=Rz.pushRow (Nat.le_refl _) (aX hto hB.size) hz1 hB4z.size (by omega);refine⟨nx'.a,nx'.n,nx'.c,z2,e2,rfl,u2,f2,?_⟩;intro z3 hz3;obtain⟨R3,bz3,_⟩:=k2 z3 hz3;have hB3:=bz3 _ hB4z;intro z4 hz4;have b34:Below z3.heap.size z3 z4:=by subst hz4;exact aO z3
   have R4:=R3.on b34;have hB4':=ae hB3 b34;have hM4:=(hM.on hb4).on hB4';obtain⟨p5,hp5,c5⟩:=hM4.good hsN;refine⟨_,_,_,by rw [aH R4.blk];rfl,af.mk _ rfl ⟨_,_,_,by rw [lp (aj hB4' (aj hb4 hblk))];rfl,af.mk p5 hp5 ⟨by omega,by omega,_,c5,?_⟩⟩⟩;intro z5 hz5;obtain⟨gd',z6,e6,u6,f6,k6⟩:=R4.pushGood (Nat.le_refl _) hgd.symm hz5 hB4'.size (by omega);have b45:Below z4.heap.size z4 z5:=by subst hz5;exact ah _ _
   refine⟨⟨by rw [aH (R4.on b45).blk];rfl,trivial⟩,gd'.a,gd'.n,gd'.c,z6,e6,rfl,u6,f6,?_⟩;intro z7 hz7;obtain⟨R7,bz7⟩:=k6 z7 hz7;exact Ar.nat (p+1) rfl (by omega) (ih z7 ⟨nx',gd',_,R7,bz7 _ hB4'⟩)
 ·rintro q ⟨nx,gd,rs,R,hB⟩;have hw1:w.heap.size≤w1.heap.size:=t1.size;refine hI _ _ (ac.no (decide_eq_false (by omega)) ⟨w4.heap.size,f,rfl,fun f0 h=>(hof f0 h).1,hc,⟨none,?_⟩,hA4.on hB,by omega,(t1.trans (aC.of_below hb4)).trans (aC.of_below hB)⟩);rw [←hM'];exact R.done hok'
theorem CE (w:World) (a g:Nat) (M:Aut) (h:fM w a g M) (hN:M.N≤10000) (hn:M.n≤10000):
  CP 16 #[.pointer (some ⟨a,0,none⟩)] w fun e w'=>∃(b:Nat) (f:Nat→Nat),e= .returned (.pointer (some ⟨b,0,none⟩))∧Aut.Cls M f∧fM w' b g (Aut.least M f)∧fM w' a g M∧w.heap.size≤b∧aC a w w':=by
 obtain⟨o,h⟩:=h;refine(Ay w a g M o h hN hn).mono ?_;rintro e w' ⟨b,f,rfl,_,h1,h2,h3,h4,h5⟩;exact⟨b,f,rfl,h1,h2,⟨_,h3⟩,h4,h5⟩
section
variable {A:Option Addr} {C:Nat} {l:List Int}
end
theorem Fk (c:Nat) (hc:c<4294967296) (w:World):CP 124 #[.int .u64 1,.int .u64 (c:Int)] w fun e w'=>e= .returned (.tuple #[.int .u64 0,.int .u64 (c:Int)])∧w'=w:=by
 have hm:CP 179 #[.int .u64 1,.int .u64 (c:Int)] w fun e w'=>e= .returned (.tuple #[.int .u64 0,.int .u64 (c:Int)])∧w'=w:=by
  refine aN (yq 1 c w) ?_;unfold LG Ar;have a1:IntKind.wrap .u64 ((BitVec.ofInt (IntKind.bits .u64) (1:Int)&&&BitVec.ofInt (IntKind.bits .u64) 4294967295).toNat:Int)=1:=by decide
  have a2:IntKind.wrap .u64 ((BitVec.ofInt (IntKind.bits .u64) (c:Int)&&&BitVec.ofInt (IntKind.bits .u64) 4294967295).toNat:Int)=(c:Int):=by
   have:=PP c 4294967295 (by omega) (by decide);rw [show(c&&&4294967295:Nat)=c from by have:=Nat.and_two_pow_sub_one_eq_mod c 32;rw [show(2^32-1:Nat)=4294967295 by decide]at this;rw [this];exact Nat.mod_eq_of_lt hc]at this;exact this
  have a3:Int.fdiv (1:Int) (2^(min (32:Int).toNat (IntKind.bits .u64)))=0:=by decide
  have a4:Int.fdiv (c:Int) (2^(min (32:Int).toNat (IntKind.bits .u64)))=0:=by
   have:=Q6 c 32 (by decide);rw [show c/2^32=0 from Nat.div_eq_of_lt hc]at this;exact this
  have wc:IntKind.wrap .u64 (c:Int)=(c:Int):=jD c (by omega);have w0:IntKind.wrap .u64 (0:Int)=0:=by decide
  have z0:Int.fdiv (0:Int) (2^(min (32:Int).toNat (IntKind.bits .u64)))=0:=by decide
  have z1:IntKind.wrap .u64 ((BitVec.ofInt (IntKind.bits .u64) (0:Int)&&&BitVec.ofInt (IntKind.bits .u64) 4294967295).toNat:Int)=0:=by decide
  simp only [a1,a2,a3,a4,Int.one_mul,Int.zero_mul,Int.mul_zero,Int.zero_add,Int.add_zero,wc,w0,z0,z1];repeat first |trivial |exact⟨rfl,rfl⟩ |refine⟨by decide,?_⟩
 refine aN (Ag 1 c w) ?_;refine hm.mono ?_;rintro e w1 ⟨rfl,hw⟩;exact⟨_,_,rfl,rfl,hw⟩
theorem nQ {B g:Nat} {w0 w:World} (hb:Below B w0 w) (hg:B≤g) (cs:Array Value):Below B w0 (w.setRow g cs):=
 hb.trans ⟨rfl,rfl,rfl,by rw [size_setRow];exact Nat.le_refl _,fun k hk=>setRow_other w g k cs (by omega)⟩
theorem Bb (w:World) (A:Option Addr) (C N:Nat) (h1:1≤C) (hx:Rw dS 1 w A [true]) (hN:1≤N) (hN2:N≤1000000):
  CP 72 #[.slice A 1 C,.int .i64 (N:Int)] w fun e w'=>∃l:Sl,e= .returned l.v∧l.n=N∧w'.ownsRow w.heap.size b_ 1 l.v l.n ((List.replicate N true).flatMap dS)∧Below w.heap.size w w':=by
 refine aN (Ck A 1 C N w) ?_;intro J1 hJ1;refine ac.no (decide_eq_false (by omega)) (hJ1 _ ?_);have hwN:IntKind.wrap .u64 (N:Int)=(N:Int):=jD N (by omega);rw [hwN];refine(Fk N (by omega) w).mono ?_;rintro e w1 ⟨rfl,hw⟩;subst w1;refine⟨_,_,rfl,?_⟩;intro J2 hJ2;refine ac.no rfl (ac.no (decide_eq_false (by omega)) (hJ2 _ ?_));have hwi:IntKind.wrap .i64 (N:Int)=(N:Int):=di (by show(-9223372036854775808:Int)≤_;omega) (by show _≤(9223372036854775807:Int);omega);rw [hwi];refine⟨_,_,_,_,mA w N hN2,?_⟩;have b1:=ah w (.cells (Array.replicate N (.bool false)) b_);have o1:(w.alloc (.cells (Array.replicate N (.bool false)) b_)).heap[w.heap.size]? =some (.cells (Array.replicate N (.bool false)) b_ (0,0)):=ap _ _;obtain⟨w1,hw1⟩:∃w1,w1=w.alloc (.cells (Array.replicate N (.bool false)) b_):=⟨_,rfl⟩;rw [←hw1]at b1 o1;rw [←hw1];let cur (m:Nat):List Value:=List.replicate m (.bool true)++List.replicate (N-m) (.bool false);have clen:∀m,m≤N→(cur m).length=N:=by intro m hm;simp [cur];omega
 have info1:(Tryz.prog.info? b_).map (·.size)=some 1:=by
  obtain⟨i,hi,_,hs,_⟩:=zC;rw [hi];exact congrArg some hs
 have hst:∀(q:World) (m k:Nat),m+k≤N→q.heap[w.heap.size]? =some (.cells (cur m).toArray b_ (0,0))→(q.setRow w.heap.size (((cur m).toArray.toList.take m++List.replicate k (Value.bool true))++(cur m).toArray.toList.drop (m+(List.replicate k (Value.bool true)).length)).toArray).heap[w.heap.size]? =some (.cells (cur (m+k)).toArray b_ (0,0)):=by
  intro q m k hm hq;rw [setRow_heap _ _ _ _ _ _ hq];congr 3;simp only [cur,List.length_replicate];rw [List.take_append_of_le_length (by simp),List.take_of_length_le (by simp),List.drop_append,List.length_replicate,List.drop_eq_nil_of_le (by simp),List.nil_append,List.drop_replicate,List.replicate_append_replicate];congr 2;omega
 have k1:w1.heap[w.heap.size]? =some (.cells (cur 0).toArray b_ (0,0)):=by
  rw [o1,show(cur 0).toArray=Array.replicate N (.bool false) by simp [cur]]
 obtain⟨p,hp,_,hc⟩:=(hx.on b1) 0 true rfl;have c0:=hc 0 _ rfl;rw [Nat.zero_mul,au,au]at c0;subst hp;have cp1:=run_copy_row Tryz.prog w1 jN jN bh b_ w.heap.size 0 N N p 1 C (cur 0).toArray b_ (List.replicate 1 (.bool true)) CU info1 k1 (by rw [List.length_replicate];show 1=min 1 N;omega) (by
  intro j v hj
  match j,hj with
  |0,hj=>cases hj;rw [au];exact c0) (by simp [clen 0 (Nat.zero_le _)];omega) (by intro v hv;simp at hv;subst hv;rfl)
 have k2:=hst w1 0 1 (by omega) k1;refine⟨_,_,cp1,?_⟩;intro I hI;have loop:∀(d m:Nat) (q:World),N-m≤d→1≤m→m≤N→q.heap[w.heap.size]? =some (.cells (cur m).toArray b_ (0,0))→Below w.heap.size w q→I [.int .i64 (m:Int)] q:=by
  have fin:∀(q:World),q.heap[w.heap.size]? =some (.cells (cur N).toArray b_ (0,0))→Below w.heap.size w q→I [.int .i64 (N:Int)] q:=by
   intro q hq hB;refine hI _ _ (ac.no (decide_eq_false (by omega)) ⟨⟨some (nb w),N,N⟩,rfl,rfl,⟨by simp [dS],.inr ⟨w.heap.size,N,_,rfl,Nat.le_refl _,hq,Nat.le_refl _,by unfold maxLen;omega,by simp [cur],?_⟩⟩,hB⟩);simp [cur,dS,List.flatMap_replicate]
  intro d;induction d with
  |zero=>
   intro m q hd h1m hmN hq hB;obtain rfl:m=N:=by omega
   exact fin q hq hB
  |succ d ihd=>
   intro m q hd h1m hmN hq hB;by_cases e:m=N
   ·subst e;exact fin q hq hB
   obtain⟨k,hk⟩:∃k,k=min m (N-m):=⟨_,rfl⟩;have hkp:1≤k∧m+k≤N∧k≤m:=by omega
   refine hI _ _ (ac.yes (decide_eq_true (by omega)) ?_);intro q1 hq1;have bq:Below q.heap.size q q1:=by subst hq1;exact aO q
   have hq':=aj bq hq;have hB1:=ae hB bq;refine⟨by omega,by omega,trivial,trivial,trivial,by omega,by omega,by omega,trivial,trivial,?_⟩;have es:cd (some (nb w)) ((m:Int)).toNat (((N:Nat):Int)).toNat 1=some ⟨w.heap.size,m,none⟩:=by
    unfold cd;rw [if_neg (by omega)];show some ((nb w).add (m*1))=_;rw [aB,Nat.mul_one,Nat.zero_add]
   have ed:cd (some (nb w)) (0:Int).toNat (((N:Nat):Int)).toNat 1=some ⟨w.heap.size,0,none⟩:=by
    unfold cd;rw [if_neg (by omega)];show some ((nb w).add (0*1))=_;rw [Nat.zero_mul,au]
   rw [es,ed];have cp:=run_copy_row Tryz.prog q1 jN jN bh b_ w.heap.size m (((N:Nat):Int).toNat- (m:Int).toNat) (((N:Nat):Int).toNat- (m:Int).toNat) ⟨w.heap.size,0,none⟩ ((m:Int).toNat- (0:Int).toNat) (((N:Nat):Int).toNat- (0:Int).toNat) (cur m).toArray b_ (List.replicate k (.bool true)) CU info1 hq' (by
    rw [List.length_replicate,hk];show min m (N-m)=min (m-0) (N-m);rw [Nat.sub_zero]) (by
    intro j v hj;rw [List.getElem?_replicate]at hj;split at hj
    ·next hjk=>
     cases hj;rw [ai _ _ hq'];simp only [List.getElem?_toArray,cur];rw [List.getElem?_append_left (by simp;omega),List.getElem?_replicate,if_pos (by omega)]
    ·cases hj) (by simp [clen m hmN];omega) (by intro v hv;rw [(List.mem_replicate.1 hv).2];rfl)
   have k3:=hst q1 m k (by omega) hq';refine⟨_,_,cp,?_⟩;rw [List.length_replicate];refine Ar.nat (m+k) (by omega) (by omega) (ihd (m+k) _ (by omega) (by omega) (by omega) ?_ (nQ hB1 (Nat.le_refl _) _));rw [List.length_replicate]at k3;exact k3
 exact loop N 1 _ (by omega) (Nat.le_refl _) hN k2 (nQ b1 (Nat.le_refl _) _)
abbrev Rn:TypeId:=42
abbrev EV:TypeId:=110
abbrev M5:TypeId:=135
def fK (s:ak) (T:List aT):Aut:=E1 (gN s T) (uq s T) (gY s T)
abbrev Fj (b:Nat):Value:=.func (.func 64) #[] #[.pointer (some ⟨b,0,none⟩)]
theorem np (w:World) (gb g:Nat) {ec:TypeId} (s:ak) (T:List aT) (h:oR w g s T) (hc:w.heap[gb]? =some (.cells #[.pointer (some ⟨g,0,none⟩)] ec (0,0))) (i:Nat) (hi:i<gN s T):
  CP 64 #[.int .i64 (i:Int),.pointer (some ⟨gb,0,none⟩)] w fun e w'=>e= .returned (.int .i64 ((bU s T).getD i 0))∧w'=w:=by
 refine aN (Cw i (some ⟨gb,0,none⟩) w) ?_;refine af.mk _ rfl ⟨_,bw hc,(Mn w g s T h i hi).mono ?_⟩;rintro e w1 ⟨rfl,hw⟩;exact⟨_,_,rfl,rfl,hw⟩
theorem uk (w:World) (gb fb g:Nat) {ec ef:TypeId} (s:ak) (T:List aT) (h:oR w g s T) (hn:gN s T≤1032) (hc:w.heap[gb]? =some (.cells #[.pointer (some ⟨g,0,none⟩)] ec (0,0))) (hf:w.heap[fb]? =some (.cells #[Fj gb] ef (0,0))) (i:Nat) (hi:i<gN s T):
  CP 67 #[.int .i64 (i:Int),.pointer (some ⟨gb,0,none⟩),.pointer (some ⟨fb,0,none⟩)] w fun e w'=>e= .returned (.bool (uq s T i))∧Below w.heap.size w w':=by
 refine aN (D5 i (some ⟨gb,0,none⟩) (some ⟨fb,0,none⟩) w) ?_;intro w1 hw1;have b1:Below w.heap.size w w1:=by subst hw1;exact aO w
 have hc1:=aj b1 hc;refine af.mk _ rfl ⟨_,bw hc1,af.mk _ rfl ⟨_,bw (aj b1 hf),(show bE gJ (Fj gb) [.int .i64 (i:Int)] w1 _ from bZ (by kernel_rfl) (np w1 gb g s T (h.on b1) hc1 i hi)).mono ?_⟩⟩;rintro e w2 ⟨rfl,hw⟩;subst w2;refine⟨_,rfl,⟨bw hc1,trivial⟩,(At w1 g s T (h.on b1) hn _).mono ?_⟩;rintro e w3 ⟨rfl,hw⟩;subst w3;rw [Mv hi];exact⟨_,rfl,rfl,b1⟩
theorem By (w:World) (rb:Nat) {er:TypeId} (r:Sl) (n:Nat) (p:Nat→Bool) (hr:Rw dh 1 w r.a (bo n p)) (hl:r.n=(bo n p).length) (hn:n≤100000) (hb:w.heap[rb]? =some (.cells #[r.v] er (0,0))) (i:Nat) (hi:i<n):
  CP 70 #[.int .i64 (i:Int),.pointer (some ⟨rb,0,none⟩)] w fun e w'=>e= .returned (.bool (p i))∧Below w.heap.size w w':=by
 refine aN (D' i (some ⟨rb,0,none⟩) w) ?_;unfold Oe;rw [EZ i (by omega),GW];rw [cQ]at hl;have hk:i/64< (n+63)/64:=by omega
 obtain⟨q,hq,_,hc⟩:=hr _ _ (qa n p hk);have c0:=hc 0 _ rfl;rw [au]at c0;refine af.mk _ rfl ⟨_,_,_,bw hb,by decide,af.mk q hq ⟨by omega,by omega,_,c0,by decide,by omega,?_,Below.refl _ _⟩⟩;rw [EL _ _ (oZ _ _ _) (Nat.mod_lt _ (by decide)),qc n p hi]
theorem Ep (i:Nat) (w:World):CP 71 #[.int .i64 (i:Int)] w fun e w'=>e= .returned (.bool false)∧Below w.heap.size w w':=
 aJ (Cj i w (fun u w'=>u= .bool false∧Below w.heap.size w w') ⟨rfl,Below.refl _ _⟩) (by rintro v w' ⟨rfl,h⟩;exact⟨rfl,h⟩)
theorem Gy {n:Nat} {al:Nat→Bool} {rel:Nat→Nat→Bool} {m:Nat→Bool} {i:Nat} (h:∀k,k<n→m k=CL n al rel i k):((List.range n).map fun k=>((if m k then k+1 else n+1:Nat):Int)).flatMap ay=fV ((List.range (E1 n al rel).n).map ((E1 n al rel).nxt i)):=by
 unfold fV;rw [List.map_map];congr 1;apply List.map_congr_left;intro k hk;show((if m k then k+1 else n+1:Nat):Int)=((if CL n al rel i k then k+1 else n+1:Nat):Int);rw [h k (List.mem_range.1 hk)]
theorem ky.put {w:World} {B b g:Nat} {M:Aut} {nx gd:Sl} {rs:List Sl} {m j:Nat} (h:ky w B b g M nx gd rs m j) {k:Nat} {c:Array Value} (hk:w.heap[k]? =some (.cells c EV (0,0))) (u:Value):ky (w.setCell ⟨k,0,none⟩ u) B b g M nx gd rs m j:=by
 have hkb:b≠k:=by
  rintro rfl;rw [h.blk]at hk;cases hk
 exact⟨(aq hkb).trans h.blk,bD h.onx u (aE h.onx hk (by decide)),h.rl,fun i r hr=>bD (h.each i r hr) u (aE (h.each i r hr) hk (by decide)),bD h.ogd u (aE h.ogd hk (by decide))⟩
set_option maxHeartbeats 4000000 in
theorem FN (w:World) (g:Nat) (s:ak) (T:List aT) (h:oR w g s T) (hn:gN s T≤1032) (hr:Ig s T) (most:Int):
  CP 15 #[.pointer (some ⟨g,0,none⟩),.int .i64 most] w fun e w'=>Below w.heap.size w w'∧((((gN s T+2)*gN s T:Nat):Int)>most→e= .returned (.tuple #[.pointer none,.int .i64 5]))∧(¬(((gN s T+2)*gN s T:Nat):Int)>most→∃a,e= .returned (.tuple #[.pointer (some ⟨a,0,none⟩),.int .i64 0])∧w.heap.size≤a∧fM w' a g (fK s T)):=by
 let R:Value→World→Prop:=fun u w'=>Below w.heap.size w w'∧((((gN s T+2)*gN s T:Nat):Int)>most→u= .tuple #[.pointer none,.int .i64 5])∧(¬(((gN s T+2)*gN s T:Nat):Int)>most→∃a,u= .tuple #[.pointer (some ⟨a,0,none⟩),.int .i64 0]∧w.heap.size≤a∧fM w' a g (fK s T));refine aJ (D7 (some ⟨g,0,none⟩) most w R ?_) (by rintro v w' ⟨h1,h2,h3⟩;exact⟨h1,fun e=>by rw [h2 e],fun e=>by obtain⟨a,rfl,h⟩:=h3 e;exact⟨a,rfl,h⟩⟩);intro w1 hw1;have b1:Below w.heap.size w w1:=by subst hw1;exact ah _ _
 have l1:w1.heap[w.heap.size]? =some (.cells #[.pointer (some ⟨g,0,none⟩)] Rn (0,0)):=by subst hw1;exact ap _ _
 have s1:w.heap.size<w1.heap.size:=(Array.getElem?_eq_some_iff.1 l1).1;refine⟨_,bw l1,(ry w1 g s T (h.on b1)).mono ?_⟩;rintro e w2 ⟨rfl,hw⟩;subst w2;obtain⟨n,hgn⟩:∃n,n=gN s T:=⟨_,rfl⟩;have hgl:(bU s T).length=n:=hgn.symm;have hn2:n≤1032:=by omega
 have hmul:(n+2)*n≤1034*1032:=Nat.mul_le_mul (by omega) hn2;rw [hgl];refine⟨_,rfl,_,bw l1,ac.no rfl (Ar.nat (n+2) rfl (by omega) (Ar.nat ((n+2)*n) (by simp) (by omega) (ac.mk (fun hm=>?_) fun hm=>?_)))⟩
 ·have hm:=of_decide_eq_true hm;rw [hgn]at hm;exact⟨b1,fun _=>rfl,fun h=>absurd hm h⟩
 have hm:=of_decide_eq_false hm;rw [hgn]at hm;refine⟨_,bw l1,?_⟩;intro w3 hw3;have b3:Below w1.heap.size w1 w3:=by subst hw3;exact ah _ _
 obtain⟨M,hM⟩:∃M,M=fK s T:=⟨_,rfl⟩;have hMn:M.n=n:=by rw [hM,hgn];rfl
 have hMN:M.N=n+2:=by rw [hM,hgn];rfl
 have R3:ky w3 w1.heap.size w1.heap.size g M dZ dZ [] 0 0:=⟨by subst hw3;exact ap _ _,cX _ _ _ _ tb,rfl,(by intro i r h;cases h),cX _ _ _ _ dS⟩;refine Ar.nat (n+1) rfl (by omega) ?_;intro w4 hw4;refine ij hw4 rfl ?_;intro w5 l5 b5;intro w6 hw6;have b6:Below w5.heap.size w5 w6:=by subst hw6;exact aO w5
 have b36:=ae b5 b6;have b16:=ae b3 b36;have hb6:=ae b1 b16;have R6:=R3.on b36;have f6:=aj b6 l5;have g6:=aj b16 l1;have h6:=h.on hb6;have hall:∀(f:Nat→Bool) (i:Nat),(∀k,k<n→f k=CL (gN s T) (uq s T) (gY s T) i k)→((List.range n).map fun k=>((if f k then k+1 else n+1:Nat):Int)).flatMap ay=fV ((List.range M.n).map (M.nxt i)):=by
  intro f i hf;rw [hM,hgn];exact Gy (by rw [←hgn]at hf⊢;exact hf)
 refine⟨dZ.a,dZ.n,dZ.c,by rw [aH R6.blk];rfl,(mY w6 n (n+1) _ (uq s T) (by omega) fun k hk q hq=>bZ (by kernel_rfl) (uk q w.heap.size w3.heap.size g s T (h6.on hq) hn (aj hq g6) (aj hq f6) k (by omega))).mono ?_⟩;rintro e w7 ⟨l,rfl,hl,hlo,b7⟩;have R7:=R6.on b7;refine⟨l.a,l.n,l.c,rfl,⟨by rw [aH R7.blk];rfl,trivial⟩,?_⟩;intro w8 hw8;have b8:Below w7.heap.size w7 w8:=by subst hw8;exact ah _ _
 have b17:=ae b16 b7;have f7:=aj b7 f6;have hs1:w1.heap.size≤w6.heap.size:=b16.size;obtain⟨nx,w9,e9,u9,z9,k9⟩:=R7.pushRow (Nat.le_refl _) (r:=l) (by rw [←hall (uq s T) 0 (fun k _=>rfl)];exact aX hlo hs1) hw8 b17.size (by omega);refine⟨⟨by rw [aH (R7.on b8).blk];rfl,trivial⟩,nx.a,nx.n,nx.c,w9,e9,rfl,u9,z9,?_⟩;intro w10 hw10;obtain⟨R10,B10,K10⟩:=k9 w10 hw10;have f10:=K10 f7 (by decide) (by decide);have b110:=B10 w1 b17;intro I hI;let Inv (i:Nat) (q:World):Prop:=∃nx rs,ky q w1.heap.size w1.heap.size g M nx dZ rs (i+1) 0∧Below w1.heap.size w1 q∧q.heap[w3.heap.size]? =some (.cells #[Fj w.heap.size] M5 (0,0));have key:=bj (α:=World) n Inv (fun i q=>I [.int .i64 (i:Int)] q) w10 ⟨nx,_,R10,b110,f10⟩ ?_ ?_
 ·exact key
 ·rintro i hi ih q ⟨nx,rs,Rq,Bq,fq⟩;have hi':i<gN s T:=by omega
  have tail:∀(z:World) (rb:Nat) (r:Sl),z.heap[rb]? =some (.cells #[r.v] EV (0,0))→Rw dh 1 z r.a (bo n (gY s T i))→r.n=(bo n (gY s T i)).length→ky z w1.heap.size w1.heap.size g M nx dZ rs (i+1) 0→Below w1.heap.size w1 z→z.heap[w3.heap.size]? =some (.cells #[Fj w.heap.size] M5 (0,0))→
    ∀w17:World,w17=z.drew→
           ∃lA_18:Option Addr,∃lN_19:Nat,∃lC_20:Nat,w17.cell? ((nb w1).add 1)=some (Value.slice lA_18 lN_19 lC_20)∧
           CP 66 #[Value.int .i64 (n:Int),Value.int .i64 ((n+1:Nat):Int),Value.func (.func 70) #[] #[Value.pointer (some ⟨rb,0,none⟩)]] w17 (fun e18 w18=>
           ∃lA_21:Option Addr,∃lN_22:Nat,∃lC_23:Nat,e18= .returned (Value.slice lA_21 lN_22 lC_23)∧
           (w18.cell? ((nb w1).add 1)=some (Value.slice lA_18 lN_19 lC_20)∧True)∧
           ∀w19:World,w19=w18.alloc (.cells #[Value.slice lA_21 lN_22 lC_23] cq)→
           (w19.cell? ((nb w1).add 1)=some (Value.slice lA_18 lN_19 lC_20)∧True)∧
           ∃lA_24:Option Addr,∃lN_25:Nat,∃lC_26:Nat,∃w20:World,(Builtin.append_ #[kY,kY] kY #[Value.slice lA_18 lN_19 lC_20,Value.slice (some (nb w18)) 1 1]).run Tryz.prog w19= .ok (Value.slice lA_24 lN_25 lC_26) w20∧
           (Value.slice lA_24 lN_25 lC_26).oneCell'=true∧(∃u,w20.cell? ((nb w1).add 1)=some u)∧w20.frozen? ((nb w1).add 1)=false∧
           ∀w21:World,w21=(w20.setCell ((nb w1).add 1) (Value.slice lA_24 lN_25 lC_26))→
           Ar .i64 ((i:Int)+1) (fun n_27=>I [Value.int .i64 n_27] w21)):=by
   intro z rb r hz hrw hrl Rz Bz fz w17 hw17;have bd:Below z.heap.size z w17:=by subst hw17;exact aO z
   have Rd:=Rz.on bd;refine⟨nx.a,nx.n,nx.c,by rw [aH Rd.blk];rfl,(mY w17 n (n+1) _ (gY s T i) (by omega) fun k hk q hq=>bZ (by kernel_rfl) (By q rb r n (gY s T i) ((hrw.on bd).on hq) hrl (by omega) (aj hq (aj bd hz)) k hk)).mono ?_⟩;rintro e w18 ⟨l,rfl,hl,hlo,b18⟩;have R18:=Rd.on b18;refine⟨l.a,l.n,l.c,rfl,⟨by rw [aH R18.blk];rfl,trivial⟩,?_⟩;intro w19 hw19;have b19:Below w18.heap.size w18 w19:=by subst hw19;exact ah _ _
   have Bd:=ae Bz bd;have B18:=ae Bd b18;have f18:=aj b18 (aj bd fz);obtain⟨nx',w20,e20,u20,z20,k20⟩:=R18.pushRow (Nat.le_refl _) (r:=l) (by
    rw [←hall (gY s T i) (i+1) (fun k _=>by
     unfold CL;rw [if_neg (by omega),if_pos (by omega)];rfl)]
    exact aX hlo Bd.size) hw19 B18.size (by omega)
   refine⟨⟨by rw [aH (R18.on b19).blk];rfl,trivial⟩,nx'.a,nx'.n,nx'.c,w20,e20,rfl,u20,z20,?_⟩;intro w21 hw21;obtain⟨R21,B21,K21⟩:=k20 w21 hw21;exact Ar.nat (i+1) rfl (by omega) (ih w21 ⟨nx',_,R21,B21 w1 B18,K21 f18 (by decide) (by decide)⟩)
  refine hI _ _ (ac.yes (decide_eq_true (by omega)) ?_);intro w12 hw12;have b12:Below q.heap.size q w12:=by subst hw12;exact aO q
  have B12:=ae Bq b12;have R12:=Rq.on b12;have f12:=aj b12 fq;have g12:=aj B12 l1;have h12:oR w12 g s T:=(h.on b1).on B12;have rowOf:∀(z:World),oR z g s T→CP 69 #[.pointer (some ⟨g,0,none⟩),.int .i64 ((bU s T).getD i 0)] z fun e z'=>∃r:Sl,e= .returned r.v∧Rw dh 1 z' r.a (bo n (gY s T i))∧r.n=(bo n (gY s T i)).length∧z'.ownsRow z.heap.size iE 1 r.v r.n ((bo n (gY s T i)).flatMap dh)∧Below z.heap.size z z':=by
   intro z hz;refine(F' z g s T hz hn _).mono ?_;rintro e z' ⟨bz,⟨hno,_⟩ |⟨k,l,hk,rfl,ho⟩⟩
   ·rw [HN hr hi']at hno;cases hno
   ·rw [HN hr hi']at hk;cases hk;rw [hgl]at ho;have hls:=dk.of_own sH ho;exact⟨l,rfl,hls.r,hls.n,ho,bz⟩
  refine⟨_,bw g12,_,bw f12,(show bE gJ (Fj w.heap.size) [.int .i64 (i:Int)] w12 _ from bZ (by kernel_rfl) (np w12 w.heap.size g s T h12 g12 i hi')).mono ?_,?_⟩
  ·rintro e w13 ⟨rfl,hw⟩;subst w13;refine⟨_,rfl,⟨bw g12,trivial⟩,(rowOf w12 h12).mono ?_,?_⟩
   ·rintro e w14 ⟨r,rfl,hrw,hrl,_,b14⟩;refine⟨_,_,_,rfl,?_⟩;intro w15 hw15;refine ij hw15 rfl ?_;intro w16 l16 b16';exact tail w16 w14.heap.size r l16 (hrw.on b16') hrl ((R12.on b14).on b16') (ae (ae B12 b14) b16') (aj b16' (aj b14 f12))
   ·intro w22 hw22;have b22:Below w12.heap.size w12 w22:=by subst hw22;exact ah _ _
    have o22:w22.heap[w12.heap.size]? =some (.cells #[.slice none 0 0] EV (0,0)):=by subst hw22;exact ap _ _
    refine⟨⟨bw (aj b22 g12),trivial⟩,(rowOf w22 (h12.on b22)).mono ?_⟩;rintro e w23 ⟨r,rfl,hrw,hrl,hro,b23⟩;have o23:=aj b23 o22;have b1223:=ae b22 b23;refine⟨_,_,_,rfl,rfl,⟨_,bw o23⟩,bV o23,?_⟩;intro w24 hw24;have hrl':=hrl;subst hw24;have hb24:Below w1.heap.size w1 (w23.setCell (nb w12) r.v):=(ae B12 b1223).setCell (p:=⟨w12.heap.size,0,none⟩) B12.size _;have hne:w3.heap.size≠w12.heap.size:=by have:=(Array.getElem?_eq_some_iff.1 f12).1;omega
    exact tail _ w12.heap.size r (bO o23 r.v) (dk.of_own sH (bD hro r.v (aE hro o23 (by decide)))).r hrl ((R12.on b1223).put o23 _) hb24 ((aq (show w3.heap.size≠(nb w12).block from hne)).trans (aj b1223 f12))
  ·intro w30 hw30;have b30:Below w12.heap.size w12 w30:=by subst hw30;exact ah _ _
   have o30:w30.heap[w12.heap.size]? =some (.cells #[.slice none 0 0] EV (0,0)):=by subst hw30;exact ap _ _
   have g30:=aj b30 g12;refine⟨⟨bw (aj b30 f12),trivial⟩,⟨bw g30,trivial⟩,(show bE gJ (Fj w.heap.size) [.int .i64 (i:Int)] w30 _ from bZ (by kernel_rfl) (np w30 w.heap.size g s T (h12.on b30) g30 i hi')).mono ?_⟩;rintro e w31 ⟨rfl,hw⟩;subst w31;refine⟨_,rfl,⟨bw g30,trivial⟩,(rowOf w30 (h12.on b30)).mono ?_⟩;rintro e w32 ⟨r,rfl,hrw,hrl,hro,b32⟩;have o32:=aj b32 o30;have b1232:=ae b30 b32;refine⟨_,_,_,rfl,rfl,⟨_,bw o32⟩,bV o32,?_⟩;intro w33 hw33;subst hw33;have hb33:Below w1.heap.size w1 (w32.setCell (nb w12) r.v):=(ae B12 b1232).setCell (p:=⟨w12.heap.size,0,none⟩) B12.size _;have hne:w3.heap.size≠w12.heap.size:=by have:=(Array.getElem?_eq_some_iff.1 f12).1;omega
   exact tail _ w12.heap.size r (bO o32 r.v) (dk.of_own sH (bD hro r.v (aE hro o32 (by decide)))).r hrl ((R12.on b1232).put o32 _) hb33 ((aq (show w3.heap.size≠(nb w12).block from hne)).trans (aj b1232 f12))
 ·rintro q ⟨nx,rs,Rq,Bq,fq⟩;refine hI _ _ (ac.no (decide_eq_false (by omega)) ?_);intro w39 hw39;have b39:Below q.heap.size q w39:=by subst hw39;exact aO q
  have R39:=Rq.on b39;have B39:=ae Bq b39;refine⟨nx.a,nx.n,nx.c,by rw [aH R39.blk];rfl,(mY w39 n (n+1) _ (fun _=>false) (by omega) fun k hk z hz=>bZ (by kernel_rfl) (Ep k z)).mono ?_⟩;rintro e w40 ⟨l,rfl,hl,hlo,b40⟩;have R40:=R39.on b40;have B40:=ae B39 b40;refine⟨l.a,l.n,l.c,rfl,⟨by rw [aH R40.blk];rfl,trivial⟩,?_⟩;intro w41 hw41;have b41:Below w40.heap.size w40 w41:=by subst hw41;exact ah _ _
  obtain⟨nx',w42,e42,u42,z42,k42⟩:=R40.pushRow (Nat.le_refl _) (r:=l) (by
   rw [←hall (fun _=>false) (n+1) (fun k _=>by
    unfold CL;rw [if_neg (by omega),if_neg (by omega)])]
   exact aX hlo B39.size) hw41 B40.size (by omega)
  refine⟨⟨by rw [aH (R40.on b41).blk];rfl,trivial⟩,nx'.a,nx'.n,nx'.c,w42,e42,rfl,u42,z42,?_⟩;intro w43 hw43;obtain⟨R43,B43,_⟩:=k42 w43 hw43;have B43:=B43 w1 B40;intro w44 hw44;have b44:Below w43.heap.size w43 w44:=by subst hw44;exact ah _ _
  have hx:Rw dS 1 w44 (some (nb w43)) [true]:=by
   have o:w44.ownsRow 0 b_ 1 (.slice (some (nb w43)) 1 1) 1 ([true].flatMap dS):=by subst hw44;exact jE _ rfl (by decide) (Nat.zero_le _)
   exact(dk.of_own (l:=⟨some (nb w43),1,1⟩) Gd o).r
  refine Ar.nat (n+2) rfl (by omega) ((Bb w44 _ 1 (n+2) (Nat.le_refl _) hx (by omega) (by omega)).mono ?_);rintro e w45 ⟨gd,rfl,hgd,hgo,b45⟩;have b4345:=ae b44 b45;have R45:=R43.on b4345;have B45:=ae B43 b4345;refine⟨gd.a,gd.n,gd.c,rfl,rfl,⟨_,by rw [aH R45.blk];rfl⟩,be R45.blk,?_⟩;intro w46 hw46;have k46:w46.heap[w1.heap.size]? =some (.cells (wP g nx' gd 0 0 dZ) dI (0,0)):=by subst hw46;exact bF R45.blk _
  have same46:∀ {B sz n:Nat} {e:TypeId} {u:Value} {xs:List Value},w45.ownsRow B e sz u n xs→e≠dI→w46.ownsRow B e sz u n xs:=by
   intro B sz n e u xs ho hne;subst hw46;exact bD ho _ (by rw [av];exact aE ho R45.blk hne)
  have B46:Below w1.heap.size w1 w46:=by subst hw46;exact bv B45 (Nat.le_refl _) _
  have go46:=same46 hgo (by decide);obtain⟨ga,hga⟩:∃ga,gd.a=some ga:=by
   obtain⟨p,hp,_⟩:=(dk.of_own Gd go46).r 0 true (by simp [List.getElem?_replicate]);exact⟨p,hp⟩
  obtain⟨u,fz,k⟩:=gc (l:=gd) (enc:=dS) (sz:=1) (fun _=>rfl) (by decide) go46 (by simp [hgd]) hga (i:=n+1) (x:=true) (by simp [List.getElem?_replicate]) (k:=0) (by decide) false (.bool false) rfl;rw [au]at u fz k;refine⟨_,_,_,by rw [aH k46];rfl,af.mk ga hga ⟨by omega,by omega,rfl,u,fz,?_⟩⟩;intro w47 hw47;obtain⟨o47,s47,z47,b47⟩:=k w47 hw47;have ne47:gd.v.ownBlock≠some w1.heap.size:=aE go46 k46 (by decide);have same47:∀ {B sz n:Nat} {e:TypeId} {u:Value} {xs:List Value},w46.ownsRow B e sz u n xs→e≠b_→w47.ownsRow B e sz u n xs:=fun ho hne=>aU ho fun j hj=>s47 j (cn ho go46 hne j hj);have hgood:((List.replicate (n+2) true).set (n+1) false)=(List.range M.N).map M.good:=by
   rw [hMN,hM];apply List.ext_getElem?;intro j;by_cases hj:j<n+2
   ·rw [List.getElem?_set,List.getElem?_map,List.getElem?_range hj];show _=some (decide (j≤gN s T));rw [←hgn];by_cases e:n+1=j
    ·subst e;simp
    ·rw [if_neg e,List.getElem?_replicate,if_pos hj,decide_eq_true (by omega)]
   ·rw [List.getElem?_eq_none_iff.2 (by simp;omega),List.getElem?_eq_none_iff.2 (by simp;omega)]
  rw [hgood]at o47;have hbf:Below w1.heap.size w1 w47:=b47 _ _ (by have:=b17.size;have:=(ae B43 b44).size;omega) B46;refine⟨ae b1 hbf,fun h=>absurd h hm,fun _=>⟨w1.heap.size,rfl,Nat.le_of_lt s1,?_⟩⟩;rw [←hM];have hok:M.Ok:=by rw [hM];exact EP (by omega)
  refine⟨none,nx',gd,dZ,_,0,(s47 _ ne47).trans k46,⟨aX (same47 (same46 R45.onx (by decide)) (by decide)) (Nat.zero_le _),by rw [R45.rl,hMN],fun i r hi=>aX (same47 (same46 (R45.each i r hi) (by decide)) (by decide)) (Nat.zero_le _),aX o47 (Nat.zero_le _),hok⟩,rfl,rfl⟩
theorem sP (w:World) (a g:Nat) (M:Aut) (h:fM w a g M) (x:Int):
  CP 20 #[.pointer (some ⟨a,0,none⟩),.int .i64 x] w fun e w'=>e= .returned (.bool (decide (0≤x∧x< (M.N:Int))&&M.good x.toNat))∧w'=w:=by
 refine aN (DI (some ⟨a,0,none⟩) x w) ?_;refine(lO w a g M h x).mono ?_;rintro e w1 ⟨rfl,hw⟩;subst w1;refine⟨_,rfl,ac.mk (fun h0=>?_) fun h0=>⟨by rw [h0];rfl,rfl⟩⟩;have h1:=of_decide_eq_true h0;obtain⟨o,h⟩:=h;obtain⟨next,good,of,rs,d,hb,hM⟩:=h.blk;have hl:=hM.len.2;obtain⟨p,hp,c⟩:=hM.good (show x.toNat<M.N by omega);refine af.mk _ rfl ⟨_,_,_,by rw [lp hb];rfl,af.mk p hp ⟨by omega,by omega,_,c,by rw [h0];rfl,rfl⟩⟩
def EW (M:Aut) (s:ak) (T:List aT) (x id:Int):Value:=
 match(if 0≤x∧x< (M.N:Int)then tP s T id else none)with
 |some k=>.tuple #[.int .i64 ((M.nxt x.toNat k:Nat):Int),.bool true]
 |none=>.tuple #[.int .i64 0,.bool false]
theorem Ed (w:World) (a g:Nat) (M:Aut) (h:fM w a g M) (s:ak) (T:List aT) (hG:oR w g s T) (hn:M.n=gN s T) (x id:Int):
  CP 76 #[.pointer (some ⟨a,0,none⟩),.int .i64 x,.int .i64 id] w fun e w'=>e= .returned (EW M s T x id)∧w'=w:=by
 refine aN (EA (some ⟨a,0,none⟩) x id w) ?_;refine(lO w a g M h x).mono ?_;rintro e w1 ⟨rfl,hw⟩;subst w1;refine⟨_,rfl,ac.mk (fun h0=>?_) fun h0=>?_⟩
 ·have h0:=of_decide_eq_false ((Bool.not_eq_true' _).mp h0);unfold EW;rw [if_neg h0];exact⟨rfl,rfl⟩
 have h0:=of_decide_eq_true ((Bool.not_eq_false' _).mp h0);obtain⟨o,h⟩:=h;obtain⟨next,good,of,rs,d,hb,hM⟩:=h.blk;have hl:=hM.len.1;unfold EW;rw [if_pos h0];refine af.mk _ rfl ⟨_,by rw [lp hb];rfl,(kR w g s T hG id).mono ?_⟩;rintro e w2 ⟨rfl,hw⟩;subst w2;refine⟨_,_,rfl,ac.mk (fun h1=>?_) fun h1=>?_⟩
 ·cases hp:tP s T id with
  |none=>exact⟨rfl,rfl⟩
  |some k=>rw [hp]at h1;cases h1
 ·cases hp:tP s T id with
  |none=>rw [hp]at h1;cases h1
  |some k=>
   have hk:k<M.n:=by rw [hn];exact(lH hp).1
   obtain⟨p,r,hp1,c1,hrn,hr⟩:=hM.row (show x.toNat<M.N by omega);obtain⟨p2,hp2,c2⟩:=fm hr hk;refine af.mk _ rfl ⟨_,_,_,by rw [lp hb];rfl,af.mk p hp1 ⟨by omega,by omega,_,_,_,c1,af.mk p2 hp2 ⟨?_,?_,_,c2,rfl,rfl⟩⟩⟩
   ·show(0:Int)≤((k:Nat):Int);omega
   ·show((k:Nat):Int) <_;omega
theorem Hw {s:ak} {T:List aT} (hn:gN s T≤1032):(fK s T).Ok:=EP (by omega)
theorem fM.touch {w w':World} {a g:Nat} {M:Aut} (h:fM w a g M) {b:Nat} {c:Array Value} {e:TypeId} {fz:Nat×Nat} (hb:w.heap[b]? =some (.cells c e fz)) (t:aC b w w') (n1:a≠b) (n2:bh≠e) (n3:cq≠e) (n4:b_≠e):fM w' a g M:=by
 obtain⟨o,next,good,of,rs,d,h1,h2,h3⟩:=h;have own:∀ {B sz n:Nat} {t:TypeId} {u:Value} {xs:List Value},w.ownsRow B t sz u n xs→t≠e→w'.ownsRow B t sz u n xs:=fun ho hne=>aU ho fun k hk=>t.block k (cB ho k hk).2 fun e3=>aE ho hb hne (by rw [hk,e3]);refine⟨o,next,good,of,rs,d,t.held n1 h1,⟨own h2.onx n3,h2.rl,fun i r hi=>own (h2.each i r hi) n2,own h2.ogd n4,h2.ok⟩,?_⟩;cases o with
 |none=>exact h3
 |some f=>exact⟨h3.1,h3.2.1,h3.2.2.1,own h3.2.2.2 n2⟩
def pt (M:Aut) (s:ak) (T:List aT) (x:Nat) (ids:List Int):Nat:=ids.foldl (fun p id=>M.nxt p ((tP s T id).getD 0)) x
theorem Hd {s:ak} {T:List aT} {id:Int} (h:cY s T id=true):∃k,tP s T id=some k∧k<gN s T:=by
 cases hk:tP s T id with
 |none=>rw [yR hk]at h;cases h
 |some k=>exact⟨k,rfl,(lH hk).1⟩
theorem F4 (M:Aut) (s:ak) (T:List aT) (x:Nat) {ids:List Int} {i:Nat} (hi:i<ids.length) {k:Nat} (hk:tP s T ids[i]=some k):pt M s T x (ids.take (i+1))=M.nxt (pt M s T x (ids.take i)) k:=by
 unfold pt;rw [List.take_add_one,List.getElem?_eq_getElem hi,List.foldl_append];simp [hk]
theorem vP {M:Aut} (hM:M.Ok) {s:ak} {T:List aT} (hn:M.n=gN s T) {f:Nat→Nat} (hc:Aut.Cls M f):∀(ids:List Int) (x p:Nat),(∀t∈ids,cY s T t=true)→Aut.Sim M f x p→Aut.Sim M f (pt M s T x ids) (pt (Aut.least M f) s T p ids)
 | [],x,p,_,h=>h
 |t::ids,x,p,hh,h=>by
  obtain⟨k,hk,hlt⟩:=Hd (hh t List.mem_cons_self);have:=vP hM hn hc ids (M.nxt x k) ((Aut.least M f).nxt p k) (fun t ht=>hh t (List.mem_cons_of_mem _ ht)) (h.next hM hc (by omega));unfold pt at this⊢;rw [List.foldl_cons,List.foldl_cons,hk];exact this
theorem HX {M:Aut} {f f':Nat→Nat} (h:Aut.Cls M f) (h':Aut.Cls M f') {i j:Nat} (hi:i<M.N) (hj:j<M.N):f i=f j↔f' i=f' j:=
 ⟨fun e=>h'.coarse _ h.bis i j hi hj e,fun e=>h.coarse _ h'.bis i j hi hj e⟩
theorem Ew {M:Aut} (hM:M.Ok) {f:Nat→Nat} {x y p q:Nat} (h1:Aut.Sim M f x p) (h2:Aut.Sim M f y q):p=q↔f x=f y:=by
 constructor
 ·rintro rfl;rw [h1.e,h2.e]
 ·intro e;exact Aut.least_inj hM h1.hp h2.hp (by rw [←h1.e, ←h2.e,e])
theorem iS (w:World) (a g:Nat) (M:Aut) (h:fM w a g M) (hM:M.Ok) (s:ak) (T:List aT) (hG:oR w g s T) (hn:M.n=gN s T) (A:Option Addr) (C:Nat) (ids:List Int) (hr:Rw ay 1 w A ids) (hl:ids.length≤10000) (hh:∀t∈ids,cY s T t=true):
  CP 18 #[.pointer (some ⟨a,0,none⟩),.slice A ids.length C] w fun e w'=>e= .returned (.tuple #[.int .i64 ((pt M s T 0 ids:Nat):Int),.bool true])∧pt M s T 0 ids<M.N∧w'=w:=by
 refine aN (Ev (some ⟨a,0,none⟩) A ids.length C w) ?_;intro I hI;have key:=bj (α:=Nat×World) ids.length (fun i y=>(y.1=pt M s T 0 (ids.take i)∧y.1<M.N)∧y.2=w) (fun i y=>∀y5 y4,I [.int .i64 (i:Int),.int .i64 (y.1:Int),.bool y5,.int .i64 y4] y.2) (0,w) ⟨⟨by rw [List.take_zero];rfl,hM.pos⟩,rfl⟩ ?_ ?_
 ·exact key _ _
 ·rintro i hi ih ⟨p,q⟩ ⟨⟨hp,hpN⟩,hq⟩ y5 y4;change q=w at hq;subst q;change p=_ at hp;change p<M.N at hpN;obtain⟨pa,hpa,c0⟩:=bQ hr hi rfl;refine hI _ _ _ _ _ (ac.yes (decide_eq_true (by omega)) (af.mk pa hpa ⟨by omega,by omega,_,c0,(Ed w a g M h s T hG hn (p:Int) ids[i]).mono ?_⟩));rintro e w2 ⟨rfl,hw⟩;subst w2;obtain⟨k,hk,hkn⟩:=Hd (hh _ (List.getElem_mem hi));unfold EW;rw [if_pos ⟨by omega,by omega⟩,hk];refine⟨_,_,rfl,ac.no rfl (Ar.nat (i+1) rfl (by omega) (ih (M.nxt p k,w) ⟨⟨?_,hM.lt _ _ hpN (by omega)⟩,rfl⟩ _ _))⟩;show M.nxt p k=_;rw [F4 M s T 0 hi hk,hp]
 ·rintro⟨p,q⟩ ⟨⟨hp,hpN⟩,hq⟩ y5 y4;change q=w at hq;subst q;change p=_ at hp;change p<M.N at hpN;rw [List.take_length]at hp;subst hp;exact hI _ _ _ _ _ (ac.no (decide_eq_false (by omega)) ⟨rfl,hpN,rfl⟩)
open Go Go.Value
def Rl (a:OA) (b c:Nat) (d:OA) (f g:Nat) (h:OA) (i j:Nat) (k:OA) (l m:Nat) (n:OA) (o p:Nat) (q:OA) (r s:Nat) (w:World) (R:RW):Prop:=
 ∀t,t=w.alloc (.cells #[slice a b c,slice d f g,slice h i j,slice k l m] 27)→
 ∃u x y z a1 b1 c1 d1 e1 f1 g1 h1,(t.cell? (nb w)=some (slice u x y)∧t.cell? ((nb w).add 1)=some (slice z a1 b1)∧t.cell? ((nb w).add 2)=some (slice c1 d1 e1)∧t.cell? ((nb w).add 3)=some (slice f1 g1 h1)∧True)∧
 CP 11 #[agg #[slice u x y,slice z a1 b1,slice c1 d1 e1,slice f1 g1 h1]] t (fun i1 j1=>
 ∃k1,i1= .returned (int .i64 k1)∧
 ac (decide (k1>0))
 (CP 12 #[] j1 (fun l1 m1=>
 ∃n1,l1= .returned (bool n1)∧
 R (bool n1) m1))
 (ac (decide ((o:Int)>30))
 (CP 12 #[] j1 (fun o1 p1=>
 ∃q1,o1= .returned (bool q1)∧
 R (bool q1) p1))
 (ac (decide ((r:Int)>30))
 (CP 12 #[] j1 (fun r1 s1=>
 ∃t1,r1= .returned (bool t1)∧
 R (bool t1) s1))
 (CP 12 #[] j1 (fun u1 v1=>
 ∃x1,u1= .returned (bool x1)∧
 ac (!x1)
 (CP 12 #[] v1 (fun y1 z1=>
 ∃a2,y1= .returned (bool a2)∧
 R (bool a2) z1))
 (∃b2 c2 d2 e2 f2 g2 h2 i2 j2 k2 l2 m2,(v1.cell? (nb w)=some (slice b2 c2 d2)∧v1.cell? ((nb w).add 1)=some (slice e2 f2 g2)∧v1.cell? ((nb w).add 2)=some (slice h2 i2 j2)∧v1.cell? ((nb w).add 3)=some (slice k2 l2 m2)∧True)∧
 CP 13 #[agg #[slice b2 c2 d2,slice e2 f2 g2,slice h2 i2 j2,slice k2 l2 m2]] v1 (fun n2 o2=>
 ∃p2 q2 r2 s2 t2 u2 v2 x2 y2 z2 a3 b3 c3 d3 e3 f3,n2= .returned (tuple #[pointer p2,agg #[slice q2 r2 s2,slice t2 u2 v2,slice x2 y2 z2,slice a3 b3 c3,slice d3 e3 f3]])∧
 ∀g3,g3=o2.alloc (.cells #[slice none 0 0,slice none 0 0,slice none 0 0,slice none 0 0,slice none 0 0] 39)→
 ax g3 (nb o2) (fun h3=>
 CP 14 #[pointer p2,int .i64 1048576] h3 (fun i3 j3=>
 ∃k3 l3,i3= .returned (tuple #[pointer k3,int .i64 l3])∧
 CP 15 #[pointer k3,int .i64 1048576] j3 (fun m3 n3=>
 ∃o3 p3,m3= .returned (tuple #[pointer o3,int .i64 p3])∧
 ac (Option.isNone p2)
 (R (bool false) n3)
 (ac (l3 != 0)
 (R (bool false) n3)
 (ac (p3 != 0)
 (R (bool false) n3)
 (CP 16 #[pointer o3] n3 (fun q3 r3=>
 ∃s3,q3= .returned (pointer s3)∧
 ∃t3 u3 v3 x3 y3 z3 a4 b4 c4 d4 e4 f4 g4 h4 i4,(r3.cell? (nb o2)=some (slice t3 u3 v3)∧r3.cell? ((nb o2).add 1)=some (slice x3 y3 z3)∧r3.cell? ((nb o2).add 2)=some (slice a4 b4 c4)∧r3.cell? ((nb o2).add 3)=some (slice d4 e4 f4)∧r3.cell? ((nb o2).add 4)=some (slice g4 h4 i4)∧True)∧
 CP 17 #[agg #[slice t3 u3 v3,slice x3 y3 z3,slice a4 b4 c4,slice d4 e4 f4,slice g4 h4 i4],slice n o p] r3 (fun j4 k4=>
 ∃l4,j4= .returned (int .i64 l4)∧
 ac (decide (l4≥0))
 (R (bool true) k4)
 (∃m4 n4 o4 p4 q4 r4 s4 t4 u4 v4 x4 y4 z4 a5 b5,(k4.cell? (nb o2)=some (slice m4 n4 o4)∧k4.cell? ((nb o2).add 1)=some (slice p4 q4 r4)∧k4.cell? ((nb o2).add 2)=some (slice s4 t4 u4)∧k4.cell? ((nb o2).add 3)=some (slice v4 x4 y4)∧k4.cell? ((nb o2).add 4)=some (slice z4 a5 b5)∧True)∧
 CP 17 #[agg #[slice m4 n4 o4,slice p4 q4 r4,slice s4 t4 u4,slice v4 x4 y4,slice z4 a5 b5],slice q r s] k4 (fun c5 d5=>
 ∃e5,c5= .returned (int .i64 e5)∧
 ac (decide (e5≥0))
 (R (bool true) d5)
 (CP 18 #[pointer o3,slice n o p] d5 (fun f5 g5=>
 ∃h5 i5,f5= .returned (tuple #[int .i64 h5,bool i5])∧
 CP 18 #[pointer o3,slice q r s] g5 (fun j5 k5=>
 ∃l5 m5,j5= .returned (tuple #[int .i64 l5,bool m5])∧
 CP 18 #[pointer s3,slice n o p] k5 (fun n5 o5=>
 ∃p5 q5,n5= .returned (tuple #[int .i64 p5,bool q5])∧
 CP 18 #[pointer s3,slice q r s] o5 (fun r5 s5=>
 ∃t5 u5,r5= .returned (tuple #[int .i64 t5,bool u5])∧
 CP 19 #[pointer o3,int .i64 h5,int .i64 l5] s5 (fun v5 x5=>
 ∃y5,v5= .returned (bool y5)∧
 ac ((p5==t5)==y5)
 (CP 19 #[pointer s3,int .i64 p5,int .i64 t5] x5 (fun z5 a6=>
 ∃b6,z5= .returned (bool b6)∧
 ac (b6==(p5==t5))
 (CP 20 #[pointer o3,int .i64 h5] a6 (fun c6 d6=>
 ∃e6,c6= .returned (bool e6)∧
 CP 20 #[pointer s3,int .i64 p5] d6 (fun f6 g6=>
 ∃h6,f6= .returned (bool h6)∧
 ac (e6==h6)
 (CP 21 #[pointer s3] g6 (fun i6 j6=>
 ∃k6,i6= .returned (int .i64 k6)∧
 CP 21 #[pointer o3] j6 (fun l6 m6=>
 ∃n6,l6= .returned (int .i64 n6)∧
 R (bool (decide (k6≤n6))) m6)))
 (R (bool false) g6))))
 (R (bool false) a6)))
 (R (bool false) x5))))))))))))))))) [slice q2 r2 s2,slice t2 u2 v2,slice x2 y2 z2,slice a3 b3 c3,slice d3 e3 f3] 0)))))))
theorem F6 (a:OA) (b c:Nat) (d:OA) (f g:Nat) (h:OA) (i j:Nat) (k:OA) (l m:Nat) (n:OA) (o p:Nat) (q:OA) (r s:Nat) (w:World) (R:RW) (hh:Rl a b c d f g h i j k l m n o p q r s w R):CR 3 #[agg #[slice a b c,slice d f g,slice h i j,slice k l m],slice n o p,slice q r s] w R:=
 az (fn:=Tryz.f3) (by kernel_rfl) (by kernel_rfl) (by kernel_rfl) (by kernel_rfl) (by kernel_rfl) hh
def Qi (w:World) (R:RW):Prop:=
 CP 31 #[string ⟨#[118,111,99,97,98,32,114,97,110,107,115,10,116,111,107,101,110,32,54,49,54,50,10,116,111,107,101,110,32,54,49,54,50,54,51,10,115,112,101,99,105,97,108,32,51,48,48,32,51,99,10,99,108,97,115,115,32,52,56,32,53,55,32,49,10]⟩] w (fun a b=>
 ∃c d f,a= .returned (tuple #[pointer c,int .i64 d,int .i64 f])∧
 CP 57 #[pointer c,string ⟨#[97,98,99,97,98,49,60]⟩] b (fun g h=>
 ∃i j k l,g= .returned (tuple #[slice i j k,int .i64 l])∧
 CP 22 #[pointer c,slice i j k] h (fun m n=>
 ∃o p,m= .returned (tuple #[int .i64 o,int .i64 p])∧
 ac (f==0)
 (ac (l==0)
 (∀q,q=n.alloc (.cells #[int .i64 257,int .i64 256,int .i64 49,int .i64 300] 3)→
 CP 52 #[slice i j k,slice (some (nb n)) 4 4] q (fun r s=>
 ∃t,r= .returned (bool t)∧
 ac t
 (ac (o==(-1))
 (R (bool (p==0)) s)
 (R (bool false) s))
 (R (bool false) s)))
 (R (bool false) n))
 (R (bool false) n))))
theorem D2 (w:World) (R:RW) (hh:Qi w R):CR 12 #[] w R:=
 az (fn:=Tryz.f12) (by kernel_rfl) (by kernel_rfl) (by kernel_rfl) (by kernel_rfl) (by kernel_rfl) hh
def QA (a:OA) (b:ByteArray) (w:World) (R:RW):Prop:=
 CP 56 #[pointer a] w (fun c d=>
 ∃f,c= .returned (pointer f)∧
 CP 118 #[pointer a,string b,func (.func 119) #[pointer f] #[]] d (fun g h=>
 ∃i j k l,g= .returned (tuple #[slice i j k,int .i64 l])∧
 R (tuple #[slice i j k,int .i64 l]) h))
theorem CY (a:OA) (b:ByteArray) (w:World) (R:RW) (hh:QA a b w R):CR 57 #[pointer a,string b] w R:=
 az (fn:=Tryz.f57) (by kernel_rfl) (by kernel_rfl) (by kernel_rfl) (by kernel_rfl) (by kernel_rfl) hh
def Nz (a:OA) (b:ByteArray) (c:Value) (w:World) (R:RW):Prop:=
 ac (Option.isNone a)
 (R (tuple #[slice none 0 0,int .i64 1]) w)
 (ac (decide (((b.size:Int):Int)>4000))
 (R (tuple #[slice none 0 0,int .i64 3]) w)
 (bE gJ c [string b] w (fun d f=>
 ∃g h i,d= .returned (slice g h i)∧
 CP 172 #[pointer a,slice g h i] f (fun j k=>
 ∃l m n,j= .returned (slice l m n)∧
 R (tuple #[slice l m n,int .i64 0]) k))))
theorem A_ (a:OA) (b:ByteArray) (c:Value) (w:World) (R:RW) (hh:Nz a b c w R):CR 118 #[pointer a,string b,c] w R:=
 az (fn:=Tryz.f118) (by kernel_rfl) (by kernel_rfl) (by kernel_rfl) (by kernel_rfl) (by kernel_rfl) hh
def Qu (a:ByteArray) (w:World) (R:RW):Prop:=
 CP 90 #[string a] w (fun b c=>
 ∃d f g h i j k l m n o p q r s t u x,b= .returned (tuple #[agg #[bool d,slice f g h,slice i j k,slice l m n,slice o p q,slice r s t],int .i64 u,int .i64 x])∧
 ∀y,y=c.alloc (.cells #[bool false,slice none 0 0,slice none 0 0,slice none 0 0,slice none 0 0,slice none 0 0] 71)→
 ax y (nb c) (fun z=>
 ac (x != 0)
 (R (tuple #[pointer none,int .i64 u,int .i64 x]) z)
 (∃a1 b1 c1 d1 e1 f1 g1 h1 i1 j1 k1 l1 m1 n1 o1 p1,(z.cell? (nb c)=some (bool a1)∧z.cell? ((nb c).add 1)=some (slice b1 c1 d1)∧z.cell? ((nb c).add 2)=some (slice e1 f1 g1)∧z.cell? ((nb c).add 3)=some (slice h1 i1 j1)∧z.cell? ((nb c).add 4)=some (slice k1 l1 m1)∧z.cell? ((nb c).add 5)=some (slice n1 o1 p1)∧True)∧
 CP 91 #[agg #[bool a1,slice b1 c1 d1,slice e1 f1 g1,slice h1 i1 j1,slice k1 l1 m1,slice n1 o1 p1]] z (fun q1 r1=>
 ∃s1 t1 u1 v1,q1= .returned (tuple #[pointer s1,int .i64 t1,int .i64 u1,int .i64 v1])∧
 ∀x1:KW,(∀(y1:Int) (z1:World),(R (tuple #[pointer s1,int .i64 y1,int .i64 v1]) z1)→x1 [int .i64 y1] z1)→
 ac (t1==1)
 (Ar .i64 (u1+2) (fun a2=>
 x1 [int .i64 a2] r1))
 (ac (t1==2)
 (∃b2 c2 d2,r1.cell? ((nb c).add 1)=some (slice b2 c2 d2)∧
 Ar .i64 ((2:Int)+(c2:Int)) (fun e2=>
 ∃f2 g2 h2,r1.cell? ((nb c).add 2)=some (slice f2 g2 h2)∧
 Ar .i64 (e2+(g2:Int)) (fun i2=>
 Ar .i64 (u1+i2) (fun j2=>
 x1 [int .i64 j2] r1))))
 (x1 [int .i64 u1] r1))))) [bool d,slice f g h,slice i j k,slice l m n,slice o p q,slice r s t] 0)
theorem Do (a:ByteArray) (w:World) (R:RW) (hh:Qu a w R):CR 31 #[string a] w R:=
 az (fn:=Tryz.f31) (by kernel_rfl) (by kernel_rfl) (by kernel_rfl) (by kernel_rfl) (by kernel_rfl) hh
def Qf (a:ByteArray) (w:World) (R:RW):Prop:=
 ∀b,b=w.alloc (.cells #[bool false,slice none 0 0,slice none 0 0,slice none 0 0,slice none 0 0,slice none 0 0] 71)→
 ac (decide (((a.size:Int):Int)>60000))
 (ax b (nb w) (fun c=>
 ∃d f g h i j k l m n o p q r s t,(c.cell? (nb w)=some (bool d)∧c.cell? ((nb w).add 1)=some (slice f g h)∧c.cell? ((nb w).add 2)=some (slice i j k)∧c.cell? ((nb w).add 3)=some (slice l m n)∧c.cell? ((nb w).add 4)=some (slice o p q)∧c.cell? ((nb w).add 5)=some (slice r s t)∧True)∧
 R (tuple #[agg #[bool d,slice f g h,slice i j k,slice l m n,slice o p q,slice r s t],int .i64 0,int .i64 3]) c) [bool false,slice none 0 0,slice none 0 0,slice none 0 0,slice none 0 0,slice none 0 0] 0)
 (CP 128 #[string a] b (fun u x=>
 ∃y z a1 b1,u= .returned (tuple #[slice y z a1,bool b1])∧
 ∀c1,c1=x.alloc (.cells #[bool false,slice none 0 0,slice none 0 0,slice none 0 0,slice none 0 0,slice none 0 0,int .i64 0] 211)→
 ∀d1:KW,(∀(e1 f1 g1:Int) (h1:World),(ac (decide (e1< (z:Int)))
 (af y (fun i1=>
 (0:Int)≤e1∧e1< (z:Int)∧
 ∃j1,h1.cell? (i1.add (e1.toNat*1))=some (string j1)∧
 CP 129 #[pointer (some (nb x)),int .i64 e1,string j1] h1 (fun k1 l1=>
 ∃m1,k1= .returned (bool m1)∧
 ac (!m1)
 (Ar .i64 (e1+1) (fun n1=>
 ax l1 (nb w) (fun o1=>
 ∃p1 q1 r1 s1 t1 u1 v1 x1 y1 z1 a2 b2 c2 d2 e2 f2,(o1.cell? (nb w)=some (bool p1)∧o1.cell? ((nb w).add 1)=some (slice q1 r1 s1)∧o1.cell? ((nb w).add 2)=some (slice t1 u1 v1)∧o1.cell? ((nb w).add 3)=some (slice x1 y1 z1)∧o1.cell? ((nb w).add 4)=some (slice a2 b2 c2)∧o1.cell? ((nb w).add 5)=some (slice d2 e2 f2)∧True)∧
 R (tuple #[agg #[bool p1,slice q1 r1 s1,slice t1 u1 v1,slice x1 y1 z1,slice a2 b2 c2,slice d2 e2 f2],int .i64 n1,int .i64 2]) o1) [bool false,slice none 0 0,slice none 0 0,slice none 0 0,slice none 0 0,slice none 0 0] 0))
 (Ar .i64 (e1+1) (fun g2=>
 d1 [int .i64 g2,int .i64 f1,int .i64 g1] l1)))))
 (ac (!b1)
 (Ar .i64 ((z:Int)+1) (fun h2=>
 ax h1 (nb w) (fun i2=>
 ∃j2 k2 l2 m2 n2 o2 p2 q2 r2 s2 t2 u2 v2 x2 y2 z2,(i2.cell? (nb w)=some (bool j2)∧i2.cell? ((nb w).add 1)=some (slice k2 l2 m2)∧i2.cell? ((nb w).add 2)=some (slice n2 o2 p2)∧i2.cell? ((nb w).add 3)=some (slice q2 r2 s2)∧i2.cell? ((nb w).add 4)=some (slice t2 u2 v2)∧i2.cell? ((nb w).add 5)=some (slice x2 y2 z2)∧True)∧
 R (tuple #[agg #[bool j2,slice k2 l2 m2,slice n2 o2 p2,slice q2 r2 s2,slice t2 u2 v2,slice x2 y2 z2],int .i64 h2,int .i64 2]) i2) [bool false,slice none 0 0,slice none 0 0,slice none 0 0,slice none 0 0,slice none 0 0] 0))
 (ac ((z:Int)==0)
 (Ar .i64 ((z:Int)+1) (fun a3=>
 ax h1 (nb w) (fun b3=>
 ∃c3 d3 e3 f3 g3 h3 i3 j3 k3 l3 m3 n3 o3 p3 q3 r3,(b3.cell? (nb w)=some (bool c3)∧b3.cell? ((nb w).add 1)=some (slice d3 e3 f3)∧b3.cell? ((nb w).add 2)=some (slice g3 h3 i3)∧b3.cell? ((nb w).add 3)=some (slice j3 k3 l3)∧b3.cell? ((nb w).add 4)=some (slice m3 n3 o3)∧b3.cell? ((nb w).add 5)=some (slice p3 q3 r3)∧True)∧
 R (tuple #[agg #[bool c3,slice d3 e3 f3,slice g3 h3 i3,slice j3 k3 l3,slice m3 n3 o3,slice p3 q3 r3],int .i64 a3,int .i64 2]) b3) [bool false,slice none 0 0,slice none 0 0,slice none 0 0,slice none 0 0,slice none 0 0] 0))
 (∃s3 t3 u3 v3 x3 y3 z3 a4 b4 c4 d4 e4 f4 g4 h4 i4,(h1.cell? ((nb x).add 0)=some (bool s3)∧h1.cell? (((nb x).add 0).add 1)=some (slice t3 u3 v3)∧h1.cell? (((nb x).add 0).add 2)=some (slice x3 y3 z3)∧h1.cell? (((nb x).add 0).add 3)=some (slice a4 b4 c4)∧h1.cell? (((nb x).add 0).add 4)=some (slice d4 e4 f4)∧h1.cell? (((nb x).add 0).add 5)=some (slice g4 h4 i4)∧True)∧
 ax h1 (nb w) (fun j4=>
 ∃k4 l4 m4 n4 o4 p4 q4 r4 s4 t4 u4 v4 x4 y4 z4 a5,(j4.cell? (nb w)=some (bool k4)∧j4.cell? ((nb w).add 1)=some (slice l4 m4 n4)∧j4.cell? ((nb w).add 2)=some (slice o4 p4 q4)∧j4.cell? ((nb w).add 3)=some (slice r4 s4 t4)∧j4.cell? ((nb w).add 4)=some (slice u4 v4 x4)∧j4.cell? ((nb w).add 5)=some (slice y4 z4 a5)∧True)∧
 R (tuple #[agg #[bool k4,slice l4 m4 n4,slice o4 p4 q4,slice r4 s4 t4,slice u4 v4 x4,slice y4 z4 a5],int .i64 0,int .i64 0]) j4) [bool s3,slice t3 u3 v3,slice x3 y3 z3,slice a4 b4 c4,slice d4 e4 f4,slice g4 h4 i4] 0))))→d1 [int .i64 e1,int .i64 f1,int .i64 g1] h1)→
 d1 [int .i64 0,int .i64 0,int .i64 0] c1))
theorem CM (a:ByteArray) (w:World) (R:RW) (hh:Qf a w R):CR 90 #[string a] w R:=
 az (fn:=Tryz.f90) (by kernel_rfl) (by kernel_rfl) (by kernel_rfl) (by kernel_rfl) (by kernel_rfl) hh
def Om (a:ByteArray) (w:World) (R:RW):Prop:=
 ∀b:KW,(∀(c:OA) (d f:Nat) (g:Bool) (h:OA) (i j:Nat) (k:ByteArray) (l:World),(CP 185 #[string k,string ⟨#[10]⟩] l (fun m n=>
 ∃o p q,m= .returned (tuple #[string o,string p,bool q])∧
 ac (!q)
 (R (tuple #[slice c d f,bool (o.toList==(⟨#[]⟩:ByteArray).toList)]) n)
 (∀r,r=n.alloc (.cells #[string o] 9)→
 ∃s t u x,(Builtin.append_ #[32,32] 32 #[slice c d f,slice (some (nb n)) 1 1]).run Tryz.prog r= .ok (slice s t u) x∧
 b [slice s t u,bool g,slice h i j,string p] x)))→b [slice c d f,bool g,slice h i j,string k] l)→
 b [slice none 0 0,bool false,slice none 0 0,string a] w
theorem Am (a:ByteArray) (w:World) (R:RW) (hh:Om a w R):CR 128 #[string a] w R:=
 az (fn:=Tryz.f128) (by kernel_rfl) (by kernel_rfl) (by kernel_rfl) (by kernel_rfl) (by kernel_rfl) hh
def Pt (a:OA) (b:Int) (c:ByteArray) (w:World) (R:RW):Prop:=
 CP 186 #[string c] w (fun d f=>
 ∃g h i,d= .returned (slice g h i)∧
 ∀j,j=f.drew→
 af g (fun k=>
 (0:Int)≤0∧0< (h:Int)∧
 ∃l,j.cell? (k.add ((0:Int).toNat*1))=some (string l)∧
 (0:Int)≤(1:Int)∧(1:Int)≤(h:Int)∧True∧True∧True∧
 CP 187 #[pointer a,string l,slice (cd g (1:Int).toNat (i:Int).toNat 1) ((h:Int).toNat- (1:Int).toNat) ((i:Int).toNat- (1:Int).toNat)] j (fun m n=>
 ∃o p,m= .returned (tuple #[int .i64 o,bool p])∧
 ac (!p)
 (R (bool false) n)
 (ac (!((b==0)==(o==0)))
 (R (bool false) n)
 (af a (fun q=>
 ∃r,n.cell? (q.add 6)=some (int .i64 r)∧
 ac (decide (o<r))
 (R (bool false) n)
 (af a (fun s=>
 ∃t x y z a1 b1 c1 d1 e1 f1 g1 h1 i1 j1 k1 l1,(n.cell? (s.add 0)=some (bool t)∧n.cell? ((s.add 0).add 1)=some (slice x y z)∧n.cell? ((s.add 0).add 2)=some (slice a1 b1 c1)∧n.cell? ((s.add 0).add 3)=some (slice d1 e1 f1)∧n.cell? ((s.add 0).add 4)=some (slice g1 h1 i1)∧n.cell? ((s.add 0).add 5)=some (slice j1 k1 l1)∧True)∧
 CP 101 #[agg #[bool t,slice x y z,slice a1 b1 c1,slice d1 e1 f1,slice g1 h1 i1,slice j1 k1 l1]] n (fun m1 n1=>
 ∃o1,m1= .returned (bool o1)∧
 ac (!o1)
 (R (bool false) n1)
 (af a (fun p1=>
 (int .i64 o).oneCell'=true∧(∃u,n1.cell? (p1.add 6)=some u)∧n1.frozen? (p1.add 6)=false∧
 ∀q1,q1=(n1.setCell (p1.add 6) (int .i64 o))→
 R (bool true) q1)))))))))))
theorem AW (a:OA) (b:Int) (c:ByteArray) (w:World) (R:RW) (hh:Pt a b c w R):CR 129 #[pointer a,int .i64 b,string c] w R:=
 az (fn:=Tryz.f129) (by kernel_rfl) (by kernel_rfl) (by kernel_rfl) (by kernel_rfl) (by kernel_rfl) hh
def OW (a:ByteArray) (w:World) (R:RW):Prop:=
 CP 232 #[string a,string ⟨#[32]⟩] w (fun b c=>
 ∃d f g,b= .returned (slice d f g)∧
 R (slice d f g) c)
theorem zT (a:ByteArray) (w:World) (R:RW) (hh:OW a w R):CR 186 #[string a] w R:=
 az (fn:=Tryz.f186) (by kernel_rfl) (by kernel_rfl) (by kernel_rfl) (by kernel_rfl) (by kernel_rfl) hh
def NM (a:OA) (b:ByteArray) (c:OA) (d f:Nat) (w:World) (R:RW):Prop:=
 ac (b.toList==(⟨#[118,111,99,97,98]⟩:ByteArray).toList)
 (CP 233 #[pointer a,slice c d f] w (fun g h=>
 ∃i,g= .returned (bool i)∧
 R (tuple #[int .i64 0,bool i]) h))
 (ac (b.toList==(⟨#[109,101,114,103,101]⟩:ByteArray).toList)
 (CP 234 #[pointer a,slice c d f] w (fun j k=>
 ∃l,j= .returned (bool l)∧
 R (tuple #[int .i64 1,bool l]) k))
 (ac (b.toList==(⟨#[116,111,107,101,110]⟩:ByteArray).toList)
 (CP 235 #[pointer a,slice c d f] w (fun m n=>
 ∃o,m= .returned (bool o)∧
 R (tuple #[int .i64 1,bool o]) n))
 (ac (b.toList==(⟨#[115,112,101,99,105,97,108]⟩:ByteArray).toList)
 (CP 236 #[pointer a,slice c d f] w (fun p q=>
 ∃r,p= .returned (bool r)∧
 R (tuple #[int .i64 2,bool r]) q))
 (ac (b.toList==(⟨#[99,108,97,115,115]⟩:ByteArray).toList)
 (CP 237 #[pointer a,slice c d f] w (fun s t=>
 ∃u,s= .returned (bool u)∧
 R (tuple #[int .i64 3,bool u]) t))
 (ac (b.toList==(⟨#[106,111,105,110]⟩:ByteArray).toList)
 (CP 238 #[pointer a,slice c d f] w (fun x y=>
 ∃z,x= .returned (bool z)∧
 R (tuple #[int .i64 4,bool z]) y))
 (R (tuple #[int .i64 0,bool false]) w))))))
theorem zK (a:OA) (b:ByteArray) (c:OA) (d f:Nat) (w:World) (R:RW) (hh:NM a b c d f w R):CR 187 #[pointer a,string b,slice c d f] w R:=
 az (fn:=Tryz.f187) (by kernel_rfl) (by kernel_rfl) (by kernel_rfl) (by kernel_rfl) (by kernel_rfl) hh
def Pm (a b:OA) (c d:Nat) (w:World) (R:RW):Prop:=
 ac ((c:Int)==1)
 (af b (fun f=>
 (0:Int)≤0∧0< (c:Int)∧
 ∃g,w.cell? (f.add ((0:Int).toNat*1))=some (string g)∧
 af a (fun h=>
 (bool (g.toList==(⟨#[114,97,110,107,115]⟩:ByteArray).toList)).oneCell'=true∧(∃u,w.cell? ((h.add 0).add 0)=some u)∧w.frozen? ((h.add 0).add 0)=false∧
 ∀i,i=(w.setCell ((h.add 0).add 0) (bool (g.toList==(⟨#[114,97,110,107,115]⟩:ByteArray).toList)))→
 ac ((c:Int)==1)
 (af b (fun j=>
 (0:Int)≤0∧0< (c:Int)∧
 ∃k,i.cell? (j.add ((0:Int).toNat*1))=some (string k)∧
 ac (k.toList==(⟨#[114,97,110,107,115]⟩:ByteArray).toList)
 (R (bool true) i)
 (af b (fun l=>
 (0:Int)≤0∧0< (c:Int)∧
 ∃m,i.cell? (l.add ((0:Int).toNat*1))=some (string m)∧
 R (bool (m.toList==(⟨#[109,101,114,103,101,115]⟩:ByteArray).toList)) i))))
 (R (bool false) i))))
 (af a (fun n=>
 (bool false).oneCell'=true∧(∃u,w.cell? ((n.add 0).add 0)=some u)∧w.frozen? ((n.add 0).add 0)=false∧
 ∀o,o=(w.setCell ((n.add 0).add 0) (bool false))→
 ac ((c:Int)==1)
 (af b (fun p=>
 (0:Int)≤0∧0< (c:Int)∧
 ∃q,o.cell? (p.add ((0:Int).toNat*1))=some (string q)∧
 ac (q.toList==(⟨#[114,97,110,107,115]⟩:ByteArray).toList)
 (R (bool true) o)
 (af b (fun r=>
 (0:Int)≤0∧0< (c:Int)∧
 ∃s,o.cell? (r.add ((0:Int).toNat*1))=some (string s)∧
 R (bool (s.toList==(⟨#[109,101,114,103,101,115]⟩:ByteArray).toList)) o))))
 (R (bool false) o)))
theorem AI (a b:OA) (c d:Nat) (w:World) (R:RW) (hh:Pm a b c d w R):CR 233 #[pointer a,slice b c d] w R:=
 az (fn:=Tryz.f233) (by kernel_rfl) (by kernel_rfl) (by kernel_rfl) (by kernel_rfl) (by kernel_rfl) hh
def OR (a b:OA) (c d:Nat) (w:World) (R:RW):Prop:=
 CP 268 #[slice b c d,int .i64 2] w (fun f g=>
 ∃h i j k,f= .returned (tuple #[slice h i j,bool k])∧
 ∀l:KW,(∀m:World,(R (bool k) m)→l [] m)→
 ac k
 (∀n,n=g.drew→
 af a (fun o=>
 ∃p q r,n.cell? ((o.add 0).add 1)=some (slice p q r)∧
 af h (fun s=>
 (0:Int)≤0∧0< (i:Int)∧
 ∃t,n.cell? (s.add ((0:Int).toNat*1))=some (int .i64 t)∧
 af h (fun x=>
 (0:Int)≤1∧1< (i:Int)∧
 ∃y,n.cell? (x.add ((1:Int).toNat*1))=some (int .i64 y)∧
 ∀z,z=n.alloc (.cells #[int .i64 t,int .i64 y] 85)→
 (z.cell? ((o.add 0).add 1)=some (slice p q r)∧True)∧
 ∃a1 b1 c1 d1,(Builtin.append_ #[33,33] 33 #[slice p q r,slice (some (nb n)) 1 1]).run Tryz.prog z= .ok (slice a1 b1 c1) d1∧
 af a (fun e1=>
 (slice a1 b1 c1).oneCell'=true∧(∃u,d1.cell? ((e1.add 0).add 1)=some u)∧d1.frozen? ((e1.add 0).add 1)=false∧
 ∀f1,f1=(d1.setCell ((e1.add 0).add 1) (slice a1 b1 c1))→
 l [] f1)))))
 (l [] g))
theorem xK (a b:OA) (c d:Nat) (w:World) (R:RW) (hh:OR a b c d w R):CR 234 #[pointer a,slice b c d] w R:=
 az (fn:=Tryz.f234) (by kernel_rfl) (by kernel_rfl) (by kernel_rfl) (by kernel_rfl) (by kernel_rfl) hh
def Ow (a b:OA) (c d:Nat) (w:World) (R:RW):Prop:=
 ac ((c:Int) != 1)
 (R (bool false) w)
 (af b (fun f=>
 (0:Int)≤0∧0< (c:Int)∧
 ∃g,w.cell? (f.add ((0:Int).toNat*1))=some (string g)∧
 CP 269 #[string g] w (fun h i=>
 ∃j k,h= .returned (tuple #[string j,bool k])∧
 af a (fun l=>
 ∃m n o,i.cell? ((l.add 0).add 2)=some (slice m n o)∧
 ∀p,p=i.alloc (.cells #[string j] 9)→
 ∃q r s t,(Builtin.append_ #[32,32] 32 #[slice m n o,slice (some (nb i)) 1 1]).run Tryz.prog p= .ok (slice q r s) t∧
 af a (fun x=>
 (slice q r s).oneCell'=true∧(∃u,t.cell? ((x.add 0).add 2)=some u)∧t.frozen? ((x.add 0).add 2)=false∧
 ∀y,y=(t.setCell ((x.add 0).add 2) (slice q r s))→
 R (bool k) y)))))
theorem Ca (a b:OA) (c d:Nat) (w:World) (R:RW) (hh:Ow a b c d w R):CR 235 #[pointer a,slice b c d] w R:=
 az (fn:=Tryz.f235) (by kernel_rfl) (by kernel_rfl) (by kernel_rfl) (by kernel_rfl) (by kernel_rfl) hh
def O' (a b:OA) (c d:Nat) (w:World) (R:RW):Prop:=
 ac ((c:Int) != 2)
 (R (bool false) w)
 (af b (fun f=>
 (0:Int)≤0∧0< (c:Int)∧
 ∃g,w.cell? (f.add ((0:Int).toNat*1))=some (string g)∧
 CP 270 #[string g,int .i64 1073741824] w (fun h i=>
 ∃j k,h= .returned (tuple #[int .i64 j,bool k])∧
 af b (fun l=>
 (0:Int)≤1∧1< (c:Int)∧
 ∃m,i.cell? (l.add ((1:Int).toNat*1))=some (string m)∧
 CP 269 #[string m] i (fun n o=>
 ∃p q,n= .returned (tuple #[string p,bool q])∧
 af a (fun r=>
 ∃s t x,o.cell? ((r.add 0).add 3)=some (slice s t x)∧
 ∀y,y=o.alloc (.cells #[int .i64 j,string p] 87)→
 ∃z a1 b1 c1,(Builtin.append_ #[25,25] 25 #[slice s t x,slice (some (nb o)) 1 1]).run Tryz.prog y= .ok (slice z a1 b1) c1∧
 af a (fun d1=>
 (slice z a1 b1).oneCell'=true∧(∃u,c1.cell? ((d1.add 0).add 3)=some u)∧c1.frozen? ((d1.add 0).add 3)=false∧
 ∀e1,e1=(c1.setCell ((d1.add 0).add 3) (slice z a1 b1))→
 ac k
 (R (bool q) e1)
 (R (bool false) e1))))))))
theorem yI (a b:OA) (c d:Nat) (w:World) (R:RW) (hh:O' a b c d w R):CR 236 #[pointer a,slice b c d] w R:=
 az (fn:=Tryz.f236) (by kernel_rfl) (by kernel_rfl) (by kernel_rfl) (by kernel_rfl) (by kernel_rfl) hh
def Pc (a b:OA) (c d:Nat) (w:World) (R:RW):Prop:=
 CP 268 #[slice b c d,int .i64 3] w (fun f g=>
 ∃h i j k,f= .returned (tuple #[slice h i j,bool k])∧
 ∀l:KW,(∀m:World,(R (bool k) m)→l [] m)→
 ac k
 (∀n,n=g.drew→
 af a (fun o=>
 ∃p q r,n.cell? ((o.add 0).add 4)=some (slice p q r)∧
 af h (fun s=>
 (0:Int)≤0∧0< (i:Int)∧
 ∃t,n.cell? (s.add ((0:Int).toNat*1))=some (int .i64 t)∧
 af h (fun x=>
 (0:Int)≤1∧1< (i:Int)∧
 ∃y,n.cell? (x.add ((1:Int).toNat*1))=some (int .i64 y)∧
 af h (fun z=>
 (0:Int)≤2∧2< (i:Int)∧
 ∃a1,n.cell? (z.add ((2:Int).toNat*1))=some (int .i64 a1)∧
 ∀b1,b1=n.alloc (.cells #[int .i64 t,int .i64 y,int .i64 a1] 89)→
 (b1.cell? ((o.add 0).add 4)=some (slice p q r)∧True)∧
 ∃c1 d1 e1 f1,(Builtin.append_ #[23,23] 23 #[slice p q r,slice (some (nb n)) 1 1]).run Tryz.prog b1= .ok (slice c1 d1 e1) f1∧
 af a (fun g1=>
 (slice c1 d1 e1).oneCell'=true∧(∃u,f1.cell? ((g1.add 0).add 4)=some u)∧f1.frozen? ((g1.add 0).add 4)=false∧
 ∀h1,h1=(f1.setCell ((g1.add 0).add 4) (slice c1 d1 e1))→
 l [] h1))))))
 (l [] g))
theorem Bf (a b:OA) (c d:Nat) (w:World) (R:RW) (hh:Pc a b c d w R):CR 237 #[pointer a,slice b c d] w R:=
 az (fn:=Tryz.f237) (by kernel_rfl) (by kernel_rfl) (by kernel_rfl) (by kernel_rfl) (by kernel_rfl) hh
def MS (a b:OA) (c d:Nat) (w:World) (R:RW):Prop:=
 CP 268 #[slice b c d,int .i64 2] w (fun f g=>
 ∃h i j k,f= .returned (tuple #[slice h i j,bool k])∧
 ∀l:KW,(∀m:World,(R (bool k) m)→l [] m)→
 ac k
 (∀n,n=g.drew→
 af a (fun o=>
 ∃p q r,n.cell? ((o.add 0).add 5)=some (slice p q r)∧
 af h (fun s=>
 (0:Int)≤0∧0< (i:Int)∧
 ∃t,n.cell? (s.add ((0:Int).toNat*1))=some (int .i64 t)∧
 af h (fun x=>
 (0:Int)≤1∧1< (i:Int)∧
 ∃y,n.cell? (x.add ((1:Int).toNat*1))=some (int .i64 y)∧
 ∀z,z=n.alloc (.cells #[int .i64 t,int .i64 y] 170)→
 (z.cell? ((o.add 0).add 5)=some (slice p q r)∧True)∧
 ∃a1 b1 c1 d1,(Builtin.append_ #[24,24] 24 #[slice p q r,slice (some (nb n)) 1 1]).run Tryz.prog z= .ok (slice a1 b1 c1) d1∧
 af a (fun e1=>
 (slice a1 b1 c1).oneCell'=true∧(∃u,d1.cell? ((e1.add 0).add 5)=some u)∧d1.frozen? ((e1.add 0).add 5)=false∧
 ∀f1,f1=(d1.setCell ((e1.add 0).add 5) (slice a1 b1 c1))→
 l [] f1)))))
 (l [] g))
theorem zf (a b:OA) (c d:Nat) (w:World) (R:RW) (hh:MS a b c d w R):CR 238 #[pointer a,slice b c d] w R:=
 az (fn:=Tryz.f238) (by kernel_rfl) (by kernel_rfl) (by kernel_rfl) (by kernel_rfl) (by kernel_rfl) hh
def PS (a:OA) (b c:Nat) (d:Int) (w:World) (R:RW):Prop:=
 ac ((b:Int) != d)
 (R (tuple #[slice none 0 0,bool false]) w)
 (∀f:KW,(∀(g:Int) (h:OA) (i j:Nat) (k:Bool) (l:OA) (m n:Nat) (o:World),(ac (decide (g< (b:Int)))
 (af a (fun p=>
 (0:Int)≤g∧g< (b:Int)∧
 ∃q,o.cell? (p.add (g.toNat*1))=some (string q)∧
 CP 270 #[string q,int .i64 1073741824] o (fun r s=>
 ∃t u,r= .returned (tuple #[int .i64 t,bool u])∧
 ac (!u)
 (R (tuple #[slice none 0 0,bool false]) s)
 (∀x,x=s.alloc (.cells #[int .i64 t] 3)→
 ∃y z a1 b1,(Builtin.append_ #[28,28] 28 #[slice h i j,slice (some (nb s)) 1 1]).run Tryz.prog x= .ok (slice y z a1) b1∧
 Ar .i64 (g+1) (fun c1=>
 f [int .i64 c1,slice y z a1,bool k,slice l m n] b1)))))
 (R (tuple #[slice h i j,bool true]) o))→f [int .i64 g,slice h i j,bool k,slice l m n] o)→
 f [int .i64 0,slice none 0 0,bool false,slice none 0 0] w)
theorem xh (a:OA) (b c:Nat) (d:Int) (w:World) (R:RW) (hh:PS a b c d w R):CR 268 #[slice a b c,int .i64 d] w R:=
 az (fn:=Tryz.f268) (by kernel_rfl) (by kernel_rfl) (by kernel_rfl) (by kernel_rfl) (by kernel_rfl) hh
def Na (a:ByteArray) (w:World) (R:RW):Prop:=
 ac (a.toList==(⟨#[45]⟩:ByteArray).toList)
 (R (tuple #[string ⟨#[]⟩,bool true]) w)
 (ac (a.toList==(⟨#[]⟩:ByteArray).toList)
 (R (tuple #[string ⟨#[]⟩,bool false]) w)
 ((2:Int)≠0∧
 ac ((Int.tmod (a.size:Int) 2:Int) != 0)
 (R (tuple #[string ⟨#[]⟩,bool false]) w)
 ((2:Int)≠0∧
 ∃b c d f,(Instr.makeSlice 57 (int .i64 0) (int .i64 (IntKind.wrap .i64 (Int.tdiv (a.size:Int) 2)))).run Tryz.prog w= .ok (slice b c d) f∧
 ∀g:KW,(∀(h:Int) (i:OA) (j k:Nat) (l:Bool) (m:ByteArray) (n:World),(ac (decide (h< (a.size:Int)))
 (∀o,o=n.drew→
 (0:Int)≤h∧h< (a.size:Int)∧
 Ar .i64 (h+1) (fun p=>
 (0:Int)≤p∧p< (a.size:Int)∧
 CP 295 #[int .u8 (eu a h)] o (fun q r=>
 ∃s,q= .returned (int .i64 s)∧
 CP 295 #[int .u8 (eu a p)] r (fun t u=>
 ∃x,t= .returned (int .i64 x)∧
 ac (decide (s<0))
 (R (tuple #[string ⟨#[]⟩,bool false]) u)
 (ac (decide (x<0))
 (R (tuple #[string ⟨#[]⟩,bool false]) u)
 (Ar .i64 (s*16) (fun y=>
 Ar .i64 (y+x) (fun z=>
 ∀a1,a1=u.alloc (.cells #[int .u8 (IntKind.wrap .u8 z)] 5)→
 ∃b1 c1 d1 e1,(Builtin.append_ #[57,57] 57 #[slice i j k,slice (some (nb u)) 1 1]).run Tryz.prog a1= .ok (slice b1 c1 d1) e1∧
 Ar .i64 (h+2) (fun f1=>
 g [int .i64 f1,slice b1 c1 d1,bool l,string m] e1)))))))))
 (∃g1 h1,(convert 57 9 (slice i j k)).run Tryz.prog n= .ok (string g1) h1∧
 R (tuple #[string g1,bool true]) h1))→g [int .i64 h,slice i j k,bool l,string m] n)→
 g [int .i64 0,slice b c d,bool false,string ⟨#[]⟩] f)))
theorem BE (a:ByteArray) (w:World) (R:RW) (hh:Na a w R):CR 269 #[string a] w R:=
 az (fn:=Tryz.f269) (by kernel_rfl) (by kernel_rfl) (by kernel_rfl) (by kernel_rfl) (by kernel_rfl) hh
def Ps (a:ByteArray) (b:Int) (w:World) (R:RW):Prop:=
 CP 296 #[string a] w (fun c d=>
 ∃f g,c= .returned (tuple #[int .i64 f,g])∧
 ∃h i,(do eqGuard .neq 372 (.tmp 13) (.const (Value.nilIface)) g Value.nilIface;binOp .neq 372 g Value.nilIface).run Tryz.prog d= .ok (bool h) i∧
 ac h
 (R (tuple #[int .i64 0,bool false]) i)
 (ac (decide (f<0))
 (R (tuple #[int .i64 0,bool false]) i)
 (ac (decide (f>b))
 (R (tuple #[int .i64 0,bool false]) i)
 (CP 297 #[int .i64 f] i (fun j k=>
 ∃l,j= .returned (string l)∧
 ac (!(l.toList==a.toList))
 (R (tuple #[int .i64 0,bool false]) k)
 (R (tuple #[int .i64 f,bool true]) k))))))
theorem xx (a:ByteArray) (b:Int) (w:World) (R:RW) (hh:Ps a b w R):CR 270 #[string a,int .i64 b] w R:=
 az (fn:=Tryz.f270) (by kernel_rfl) (by kernel_rfl) (by kernel_rfl) (by kernel_rfl) (by kernel_rfl) hh
def N6 (a:Int) (w:World) (R:RW):Prop:=
 CP 315 #[string ⟨#[48,49,50,51,52,53,54,55,56,57,97,98,99,100,101,102]⟩,int .u8 a] w (fun b c=>
 ∃d,b= .returned (int .i64 d)∧
 R (int .i64 d) c)
theorem yG (a:Int) (w:World) (R:RW) (hh:N6 a w R):CR 295 #[int .u8 a] w R:=
 az (fn:=Tryz.f295) (by kernel_rfl) (by kernel_rfl) (by kernel_rfl) (by kernel_rfl) (by kernel_rfl) hh
def Py (a:Int) (w:World) (R:RW):Prop:=
 CP 318 #[int .i64 a] w (fun b c=>
 ∃d,b= .returned (string d)∧
 R (string d) c)
theorem zz (a:Int) (w:World) (R:RW) (hh:Py a w R):CR 297 #[int .i64 a] w R:=
 az (fn:=Tryz.f297) (by kernel_rfl) (by kernel_rfl) (by kernel_rfl) (by kernel_rfl) (by kernel_rfl) hh
end Go.Proofs.YtijbcdiffjjefaaGreatDoor.Eng
