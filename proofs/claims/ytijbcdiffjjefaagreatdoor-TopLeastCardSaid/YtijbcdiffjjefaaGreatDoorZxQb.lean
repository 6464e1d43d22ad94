/- vocab.Load, a vocabulary's spec and how often it was used, walked by the engine; the example of layer 10's laws; VocabNone. -/
import Derived.Test.YtijbcdiffjjefaaGreatDoorZxRx
import Derived.Test.YtijbcdiffjjefaaGreatDoorZxVo
import Derived.Test.YtijbcdiffjjefaaGreatDoorZxRi
import Derived.RangeFuncFrom
import Derived.RangeFuncCalls
import Derived.RangeFuncLeaves
import Derived.RangeFuncBox
import Derived.Shelf.Abstract
import Derived.Shelf.RegionOpen
import Derived.OwnWalkIn
import Derived.TacticsInMore
import Derived.LoopNIn
import Derived.LoopIn
import Derived.Test.YtijbcdiffjjefaaGreatDoorZxGg
import Derived.Test.YtijbcdiffjjefaaGreatDoorZxAd
import Derived.Test.YtijbcdiffjjefaaGreatDoorZxTab
set_option linter.unusedVariables false
set_option linter.unusedSimpArgs false
set_option maxRecDepth 100000
namespace Go.Proofs.YtijbcdiffjjefaaGreatDoor.Eng
open Go Go.RowKit
theorem nF:∀ {ms:List (Int×Int)} {es:List aT} {i:Nat} {q:Nat×Int},cm es i ms= .error q→q.1<i+ms.length
 | [],es,i,q,h=>by cases h
 |m::ms,es,i,q,h=>by
  rw [cm]at h;cases hx:bP es m with
  |error n=>rw [hx]at h;cases h;simp
  |ok x=>rw [hx]at h;have:=nF h;simp only [List.length_cons];omega
theorem mG:∀ {ts:List Bs} {es:List aT} {i:Nat} {q:Nat×Int},ek es i ts= .error q→q.1<i+ts.length
 | [],es,i,q,h=>by cases h
 |t::ts,es,i,q,h=>by
  rw [ek]at h;cases hp:pm (eO es t)with
  |none=>rw [hp]at h;cases h;simp
  |some m=>
   rw [hp]at h;dsimp only at h;cases hx:bP es m with
   |error n=>rw [hx]at h;cases h;simp
   |ok x=>rw [hx]at h;have:=mG h;simp only [List.length_cons];omega
theorem mF:∀ {xs ys:List (Int×Bs)} {i:Nat} {q:Nat×Int},bJ ys i xs=some q→q.1<i+xs.length
 | [],ys,i,q,h=>by cases h
 |x::xs,ys,i,q,h=>by
  rw [bJ]at h;split at h
  ·have:=mF h;simp only [List.length_cons];omega
  ·cases h;simp
theorem xJ {s:ak} {q:Int×Nat×Int} (h:cC s= .error q) (hs:gj s):q.2.1≤1000000:=by
 obtain⟨h1,h2,h3,_,_⟩:=hs;unfold cC at h;cases hl:kW s with
 |error r=>
  rw [hl]at h;cases h;unfold kW at hl;split at hl
  ·have:=mG hl;simp only;omega
  ·have:=nF hl;simp only;omega
 |ok T=>
  rw [hl]at h;dsimp only at h;cases hm:bJ [] 0 s.specials with
  |some r=>rw [hm]at h;cases h;have:=mF hm;simp only;omega
  |none=>
   rw [hm]at h;dsimp only at h;cases hf:s.specials.findIdx? (fun y=>decide (y.1< (T.length:Int)))with
   |some i=>
    rw [hf]at h;cases h;have:=(List.findIdx?_eq_some_iff_getElem.1 hf).1;simp only;omega
   |none=>rw [hf]at h;cases h
theorem ta (t:Bs) (w:World) (h:rY w):
  CP 31 #[.string (str t)] w fun e w'=>∃v,e= .returned v∧uL w t v w':=by
 refine Do (str t) w (uL w t) ?_;refine(rU t w h.pow h.errs h.mx).mono ?_;rintro e w1 ⟨v,rfl,hp,b1⟩;obtain⟨x,n,m,rfl,hcase⟩:∃(x:aY) (n m:Int),v= .tuple #[x.v,.int .i64 n,.int .i64 m]∧((60000<t.length∧n=0∧m=3)∨(¬60000<t.length∧((∃k:Nat,eN t= .error k∧n=(k:Int)∧m=2)∨∃s,eN t= .ok s∧n=0∧m=0∧cI w1 x s))):=by
  unfold dV at hp;split at hp
  ·rename_i hl;obtain⟨x,rfl,_⟩:=hp;exact⟨x,0,3,rfl,.inl ⟨hl,rfl,rfl⟩⟩
  ·rename_i hl;cases hq:eN t with
   |ok s=>rw [hq]at hp;obtain⟨x,rfl,hx⟩:=hp;exact⟨x,0,0,rfl,.inr ⟨hl,.inr ⟨s,rfl,rfl,rfl,hx⟩⟩⟩
   |error k=>rw [hq]at hp;obtain⟨x,rfl,_⟩:=hp;exact⟨x,k,2,rfl,.inr ⟨hl,.inl ⟨k,rfl,rfl,rfl⟩⟩⟩
 refine⟨_,_,_,_,_,_,_,_,_,_,_,_,_,_,_,_,n,m,rfl,?_⟩;intro w2 hw2;refine mL x w2 hw2 ?_;intro w3 h3 b3;have hb3:=ae b1 b3;rcases hcase with⟨hl,rfl,rfl⟩ |⟨hl,⟨k,hk,rfl,rfl⟩ |⟨s,hs,rfl,rfl,hx⟩⟩
 ·exact ac.yes rfl ⟨hb3,by rw [if_pos hl]⟩
 ·exact ac.yes rfl ⟨hb3,by rw [if_neg hl,hk]⟩
 ·have hright:=(Cg t s hs).2;have hx3:=hx.on b3;have hsm:=dc hright;refine ac.no rfl ⟨_,_,_,_,_,_,_,_,_,_,_,_,_,_,_,_,dF h3,?_⟩;refine(pQ w3 x s hx3 hright).mono ?_;rintro e w4 ⟨v,rfl,b4,hp⟩;have hb4:=ae hb3 b4;have h4:=aj b4 h3;cases hq:cC s with
  |error q=>
   rw [hq]at hp;obtain⟨rfl,hne⟩:=hp;refine⟨_,_,_,_,rfl,?_⟩;intro J hJ;have out:∀n:Int,n=wn s q→J [.int .i64 n] w4:=fun n hn=>hJ n w4 ⟨hb4,by rw [if_neg hl,hs];simp only [hq];exact⟨by rw [hn],hne⟩⟩;have hpl:=xJ hq hsm;have n1:=hx3.n1;have n2:=hx3.n2;obtain⟨k1,k2,_⟩:=hsm;rcases AY hq with e1 |e1
   ·exact ac.yes (by rw [e1];rfl) (Ar.ok64 (by omega) (by omega) (out _ (by rw [wn,if_pos e1])))
   ·refine ac.no (by rw [e1];rfl) (ac.yes (by rw [e1];rfl) ⟨_,_,_,ai _ _ h4 1,Ar.ok64 (by omega) (by omega) ⟨_,_,_,ai _ _ h4 2,Ar.ok64 (by omega) (by omega) (Ar.ok64 (by omega) (by omega) (out _ ?_))⟩⟩);rw [wn,if_neg (by omega),n1,n2]
  |ok T=>
   rw [hq]at hp;obtain⟨p,rfl,hN⟩:=hp;refine⟨_,_,_,_,rfl,?_⟩;intro J hJ;exact ac.no rfl (ac.no rfl (hJ 0 w4 ⟨hb4,by rw [if_neg hl,hs];simp only [hq];exact⟨p,rfl,hN.base hb3.size⟩⟩))
def jR (s:ak) (x:Int):Bool:=decide ((0≤x∧x<256)∨(x<0∧ -(s.specials.length:Int)≤x))
def fa (cut:Int→Int→Bool):List Int→Nat
 | []=>0
 | [_]=>1
 |x::y::r=>if cut x y=true then 1 else fa cut (y::r)+1
theorem qE (cut:Int→Int→Bool):∀l,fa cut l≤l.length
 | []=>Nat.le_refl _
 | [_]=>Nat.le_refl _
 |x::y::r=>by
  have:=qE cut (y::r);rw [fa];split
  ·simp
  ·simp at this⊢;omega
theorem GK (cut:Int→Int→Bool) {l:List Int} (h:l≠ []):1≤fa cut l:=by
 match l,h with
 | [_],_=>exact Nat.le_refl _
 |x::y::r,_=>
  rw [fa];split<;>omega
theorem oU (cut:Int→Int→Bool):∀ {l:List Int},l≠ []→chop cut l=l.take (fa cut l)::chop cut (l.drop (fa cut l))
 | [_],_=>rfl
 |x::y::r,_=>by
  rw [chop,fa];split
  ·rfl
  ·rw [oU cut (l:=y::r) (by simp)];rfl
theorem EM {cut:Int→Int→Bool}:∀ {l:List Int} {n:Nat},1≤n→n≤l.length→(∀j,j+1<n→∀a b,l[j]? =some a→l[j+1]? =some b→cut a b=false)→(n=l.length∨∃a b,l[n-1]? =some a∧l[n]? =some b∧cut a b=true)→fa cut l=n
 | [],n,h1,h2,_,_=>by simp at h2;omega
 | [x],n,h1,h2,_,_=>by simp at h2;rw [fa];omega
 |x::y::r,n,h1,h2,h3,h4=>by
  rw [fa];by_cases hn:n=1
  ·subst hn;rcases h4 with h4 |⟨a,b,ha,hb,hc⟩
   ·simp at h4
   ·simp at ha hb;subst ha hb;rw [if_pos hc]
  ·have hc:=h3 0 (by omega) x y rfl rfl;rw [if_neg (by rw [hc];decide)];have:=EM (cut:=cut) (l:=y::r) (n:=n-1) (by omega) (by simp at h2⊢;omega) (fun j hj a b ha hb=>h3 (j+1) (by omega) a b (by simpa using ha) (by simpa using hb)) (by
    rcases h4 with h4 |⟨a,b,ha,hb,hc⟩
    ·exact .inl (by simp at h4⊢;omega)
    ·refine .inr ⟨a,b,?_,?_,hc⟩
     ·rw [show n-1=(n-1-1)+1 by omega]at ha;simpa using ha
     ·rw [show n=(n-1)+1 by omega]at hb;simpa using hb)
   omega
theorem BH (w:World) (v:Nat) (c:Array Value) (tp bp mp:Nat) (h:ja w v c tp bp mp) (s:ak) (T:List aT) (hB:sJ w bp s.classes s.joins) (hcl:∀c∈s.classes,aQ c=true) (A:Option Addr) (C:Nat) (items:List Int) (hr:Rw ay 1 w A items) (hne:items≠ []) (hl:items.length≤1000000) (hok:∀x∈items,x<256):
  CP 261 #[.pointer (some ⟨v,0,none⟩),.slice A items.length C] w fun e w'=>e= .returned (.int .i64 ((fa (aK s T).cut items:Nat):Int))∧Below w.heap.size w w':=by
 refine aJ (wZ (some ⟨v,0,none⟩) A items.length C w (fun u w'=>u= .int .i64 ((fa (aK s T).cut items:Nat):Int)∧Below w.heap.size w w') ?_) (by rintro v w' ⟨rfl,h⟩;exact⟨rfl,h⟩);have hpos:0<items.length:=List.length_pos_iff.2 hne;obtain⟨p,hp,c0⟩:=bQ hr hpos rfl;have out:∀(n:Nat) (q:World),Below w.heap.size w q→1≤n→n≤items.length→(∀j,j+1<n→∀a b,items[j]? =some a→items[j+1]? =some b→(aK s T).cut a b=false)→(n=items.length∨∃a b,items[n-1]? =some a∧items[n]? =some b∧(aK s T).cut a b=true)→Value.int .i64 (n:Int)= .int .i64 ((fa (aK s T).cut items:Nat):Int)∧Below w.heap.size w q:=fun n q hq h1 h2 h3 h4=>⟨by rw [EM h1 h2 h3 h4],hq⟩;refine af.mk p hp ⟨by decide,by omega,_,c0,ac.mk (fun h0=>?_) fun h0=>?_⟩
 ·have h0:=of_decide_eq_true h0;refine out 1 w (Below.refl _ _) (Nat.le_refl _) hpos (fun j hj=>by omega) ?_;by_cases e:items.length=1
  ·exact .inl e.symm
  ·refine .inr ⟨items[0],items[1],List.getElem?_eq_getElem hpos,List.getElem?_eq_getElem (by omega),?_⟩;unfold Voc.cut;rw [decide_eq_true h0];rfl
 ·have h0:=of_decide_eq_false h0;intro I hI;have key:=bj (α:=World) (items.length-1) (fun i q=>(∀(j:Nat) (hj:j<items.length),j≤i→0≤items[j])∧(∀j,j+1<i+1→∀a b,items[j]? =some a→items[j+1]? =some b→(aK s T).cut a b=false)∧Below w.heap.size w q) (fun i q=>∀y4,I [.int .i64 ((i+1:Nat):Int),.int .i64 y4] q) w ⟨fun j hj hj0=>by obtain rfl:j=0:=(by omega);omega,fun j hj=>by omega,Below.refl _ _⟩ ?_ ?_
  ·exact key _
  ·rintro i hi ih q ⟨hnn,hnc,hq⟩ y4;refine hI _ y4 q (ac.yes (decide_eq_true (by omega)) ?_);intro q1 hq1;have hq1':=ae hq (show Below q.heap.size q q1 by subst hq1;exact aO q);obtain⟨p1,hp1,c1⟩:=bQ (hr.on hq1') (show i+1<items.length by omega) rfl;obtain⟨p2,hp2,c2⟩:=bQ (hr.on hq1') (show i<items.length by omega) rfl;refine af.mk p1 hp1 ⟨by omega,by omega,_,c1,ac.mk (fun hneg=>?_) fun hneg=>?_⟩
   ·have hneg:=of_decide_eq_true hneg;refine out (i+1) q1 hq1' (by omega) (by omega) hnc (.inr ⟨items[i],items[i+1],List.getElem?_eq_getElem (by omega),List.getElem?_eq_getElem (by omega),?_⟩);unfold Voc.cut;rw [decide_eq_true hneg];simp
   ·have hneg:=of_decide_eq_false hneg;have ha:=hnn i (by omega) (Nat.le_refl _);have ha2:=hok _ (List.getElem_mem (show i<items.length by omega));have hb2:=hok _ (List.getElem_mem (show i+1<items.length by omega));have wa:IntKind.wrap .u8 items[i]=items[i]:=di (by show(0:Int)≤_;omega) (by show _≤(255:Int);omega);have wb:IntKind.wrap .u8 items[i+1]=items[i+1]:=di (by show(0:Int)≤_;omega) (by show _≤(255:Int);omega);refine Ar.nat i (by omega) (by omega) (af.mk p2 hp2 ⟨by omega,by omega,_,c2,af.mk p1 hp1 ⟨by omega,by omega,_,c1,(lF (h.on hq1')).mono ?_⟩⟩);rintro e q2 ⟨rfl,hw⟩;subst q2;refine⟨_,rfl,⟨c1,trivial⟩,⟨c2,trivial⟩,?_⟩;rw [wa,wb];refine(o_ q1 bp s.classes s.joins (hB.on hq1') hcl _ _ ⟨ha,ha2⟩ ⟨by omega,hb2⟩).mono ?_;rintro e q3 ⟨rfl,b3⟩;have hq3:=ae hq1' b3;have hcut:(aK s T).cut items[i] items[i+1]=cutB s.classes s.joins items[i] items[i+1]:=by
     unfold Voc.cut;rw [decide_eq_false (by omega),decide_eq_false (by omega)];rfl
    refine⟨_,rfl,ac.mk (fun hc=>?_) fun hc=>?_⟩
    ·exact out (i+1) q3 hq3 (by omega) (by omega) hnc (.inr ⟨items[i],items[i+1],List.getElem?_eq_getElem (by omega),List.getElem?_eq_getElem (by omega),by rw [hcut];exact hc⟩)
    ·refine Ar.nat (i+1+1) rfl (by omega) (ih q3 ⟨fun j hj hji=>?_,fun j hj a b h1 h2=>?_,hq3⟩ _)
     ·by_cases e:j=i+1
      ·subst e;omega
      ·exact hnn j hj (by omega)
     ·by_cases e:j=i
      ·subst e;rw [List.getElem?_eq_getElem (by omega)]at h1 h2;cases h1;cases h2;rw [hcut];exact hc
      ·exact hnc j (by omega) a b h1 h2
  ·rintro q ⟨hnn,hnc,hq⟩ y4;refine hI _ y4 q (ac.no (decide_eq_false (by omega)) (out items.length q hq hpos (Nat.le_refl _) (fun j hj=>hnc j (by omega)) (.inl rfl)))
theorem CN (w:World) (c:Nat) (hc:c≤1000000):∃w1,(Instr.makeSlice kV (.int .i64 0) (.int .i64 (c:Int))).run Tryz.prog w= .ok (.slice (some (nb w)) 0 c) w1∧w1.ownsRow w.heap.size vg 1 (.slice (some (nb w)) 0 c) 0 (([]:List UInt8).flatMap kH)∧Below w.heap.size w w1:=by
 have h:(Tryz.prog.info? vg).map (fun i=>(i.zero,i.size,i.bytes))=some (some (.int .u8 0),1,1):=by kernel_rfl
 obtain⟨i,hi,he⟩:=Option.map_eq_some_iff.1 h;simp only [Prod.mk.injEq]at he;obtain⟨hz,hs,hb⟩:=he;have:=Go.run_make (P:=Tryz.prog) w kV vg i (.int .u8 0) (by kernel_rfl) hi hz .i64 .i64 0 (c:Int) (by omega) (by omega) (by rw [hb];omega) (by omega);refine⟨_,this,?_,ah _ _⟩;refine⟨rfl,.inr ⟨w.heap.size,c,_,rfl,Nat.le_refl _,ap _ _,Nat.zero_le _,by unfold maxLen;omega,?_,by simp⟩⟩;rw [size_madeCells,hs];simp
def rK (l:List Int):Bs:=l.map fun x=>UInt8.ofNat x.toNat
theorem Gh {l:List Int} (h:∀x∈l,0≤x∧x<256):dd (rK l)=l:=by
 unfold dd rK;rw [List.map_map];conv=>rhs;rw [←List.map_id l]
 apply List.map_congr_left;intro x hx;obtain⟨h1,h2⟩:=h x hx;show((UInt8.ofNat x.toNat).toNat:Int)=x;rw [UInt8.toNat_ofNat'];omega
theorem Mr {x:Int} (h:0≤x∧x<256):(#[Value.int .u8 (IntKind.wrap .u8 x)]:Array Value)=(kH (UInt8.ofNat x.toNat)).toArray:=by
 rw [di (by show(0:Int)≤_;omega) (by show _≤(255:Int);omega)];unfold kH;rw [UInt8.toNat_ofNat',show((x.toNat%2^8:Nat):Int)=x by omega]
theorem wj (w:World) (A:Option Addr) (C:Nat) (items:List Int) (hr:Rw ay 1 w A items) (hl:items.length≤100000) (hb:∀x∈items,0≤x∧x<256):
  CP 263 #[.slice A items.length C] w fun e w'=>e= .returned (.string (str (rK items)))∧Below w.heap.size w w':=by
 refine aJ (zQ A items.length C w (fun u w'=>u= .string (str (rK items))∧Below w.heap.size w w') ?_) (by rintro v w' ⟨rfl,h⟩;exact⟨rfl,h⟩);obtain⟨w1,hr1,o1,b1⟩:=CN w items.length (by omega);refine⟨_,_,_,w1,hr1,?_⟩;intro I hI;have key:=bj (α:=Sl×World) items.length (fun i y=>y.2.ownsRow w.heap.size vg 1 y.1.v y.1.n ((rK (items.take i)).flatMap kH)∧y.1.n=i∧Below w.heap.size w y.2) (fun i y=>I [.int .i64 (i:Int),y.1.v] y.2) (⟨some (nb w),0,items.length⟩,w1) ⟨o1,rfl,b1⟩ ?_ ?_
 ·exact key
 ·rintro i hi ih ⟨f,q⟩ ⟨hown,hfn,hB⟩;change q.ownsRow w.heap.size vg 1 f.v f.n _ at hown;change f.n=i at hfn;change Below w.heap.size w q at hB;obtain⟨p,hp,c0⟩:=bQ (hr.on hB) hi rfl;refine hI _ f.a f.n f.c q (ac.yes (decide_eq_true (by omega)) (af.mk p hp ⟨by omega,by omega,_,c0,?_⟩));intro q2 hq2;rw [Mr (hb _ (List.getElem_mem hi))]at hq2;obtain⟨f',q3,e1,e2,e3,e4,_⟩:=Ib.push hown (UInt8.ofNat items[i].toNat) hq2 rfl hB.size (by omega) (by decide);refine⟨f'.a,f'.n,f'.c,q3,e2,Ar.nat (i+1) rfl (by omega) (ih (f',q3) ⟨?_,by show f'.n=i+1;omega,e4 _ hB⟩)⟩;have e:rK (items.take (i+1))=rK (items.take i)++ [UInt8.ofNat items[i].toNat]:=by
   unfold rK;rw [List.take_add_one,List.getElem?_eq_getElem hi,List.map_append];rfl
  rw [e];exact e3
 ·rintro⟨f,q⟩ ⟨hown,hfn,hB⟩;change q.ownsRow w.heap.size vg 1 f.v f.n _ at hown;rw [List.take_length]at hown;exact hI _ f.a f.n f.c q (ac.no (decide_eq_false (by omega)) ⟨_,q,iO (P:=Tryz.prog) jq IE vX (by rw [←wX];exact hown),rfl,hB⟩)
theorem oS (V:Voc) (x:Int) (r:List Int):V.encP (x::r)=if x<0 then [V.sp.getD (-1-x).toNat 0]else after V.ms V.ms.length (x::r):=rfl
def E4 (s:ak) (p:List Int):Prop:=(∃x,p= [x]∧x<0∧ -(s.specials.length:Int)≤x)∨(p≠ []∧∀x∈p,0≤x∧x<256)
theorem tV (w:World) (v:Nat) (c:Array Value) (tp bp mp:Nat) (h:ja w v c tp bp mp) (s:ak) (T:List aT) (x:aY) (hP:bW w s T x tp bp mp) (A:Option Addr) (C:Nat) (p:List Int) (hr:Rw ay 1 w A p) (hp:E4 s p) (hl:p.length≤100000):
  CP 225 #[.pointer (some ⟨v,0,none⟩),.slice A p.length C] w fun e w'=>∃l:Sl,e= .returned l.v∧l.n=((aK s T).encP p).length∧w'.ownsRow w.heap.size bh 1 l.v l.n (((aK s T).encP p).flatMap ay)∧Below w.heap.size w w':=by
 refine aJ (Bx (some ⟨v,0,none⟩) A p.length C w (fun u w'=>∃l:Sl,u=l.v∧l.n=((aK s T).encP p).length∧w'.ownsRow w.heap.size bh 1 l.v l.n (((aK s T).encP p).flatMap ay)∧Below w.heap.size w w') ?_) (by rintro v w' ⟨l,rfl,h⟩;exact⟨l,rfl,h⟩);have hne:0<p.length:=by
  rcases hp with⟨x,rfl,_⟩ |⟨h,_⟩
  ·exact Nat.succ_pos _
  ·exact List.length_pos_iff.2 h
 obtain⟨a,ha,c0⟩:=bQ hr hne rfl;refine af.mk a ha ⟨by decide,by omega,_,c0,ac.mk (fun h0=>?_) fun h0=>?_⟩
 ·have h0:=of_decide_eq_true h0;rcases hp with⟨y,rfl,hy,hy2⟩ |⟨_,hb⟩
  ·intro w1 hw1;have b1:Below w.heap.size w w1:=by subst hw1;exact aO w
   obtain⟨a1,ha1,c1⟩:=bQ (hr.on b1) hne rfl;have hfew:=hP.few;refine af.mk a1 ha1 ⟨by decide,by simp,_,c1,(eV (h.on b1)).mono ?_⟩;rintro e w2 ⟨rfl,hw⟩;subst w2;refine⟨_,rfl,⟨c1,trivial⟩,(xE w1 mp s.specials (hP.on b1).marks (by omega) _ (by show -1000000000000≤y;omega)).mono ?_⟩;rintro e w3 ⟨rfl,b3⟩;refine⟨_,_,rfl,?_⟩;intro w4 hw4;have b4:Below w3.heap.size w3 w4:=by subst hw4;exact ah _ _
   have hb:=ae (ae b1 b3) b4;have eP:(aK s T).encP [y]= [((iz s.specials y).map (·.1)).getD 0]:=by
    rw [oS,if_pos hy,iz,if_pos hy];show [(s.specials.map (·.1)).getD (-1-y).toNat 0]=_;rw [List.getD,List.getElem?_map]
   refine⟨⟨some (nb w3),1,1⟩,rfl,by rw [eP];rfl,?_,hb⟩;rw [eP];have hz:=(ae b1 b3).size;subst hw4;exact⟨rfl,.inr ⟨w3.heap.size,1,_,rfl,hz,ap _ _,Nat.le_refl _,by unfold maxLen;omega,rfl,rfl⟩⟩
  ·exact absurd (hb _ (List.getElem_mem hne)).1 (by omega)
 ·have h0:=of_decide_eq_false h0;rcases hp with⟨y,rfl,hy,_⟩ |⟨hne2,hb⟩
  ·exact absurd hy h0
  ·refine(eT h).mono ?_;rintro e w2 ⟨rfl,hw⟩;subst w2;refine⟨_,rfl,(wj w A C p hr hl hb).mono ?_⟩;rintro e w3 ⟨rfl,b3⟩;have hP3:=hP.on b3;have hgood:=qK hP.ok;refine⟨_,rfl,(li w3 tp T hP3.tab hP3.ok.sound hP3.ok.pos (rK p) (by unfold rK;rw [List.length_map];exact hl)).mono ?_⟩;rintro e w4 ⟨A4,n4,C4,rfl,ho,hn,b4⟩;have eP:eO T (rK p)=(aK s T).encP p:=by
    rw [nJ hP.ok,Gh hb]
    match p,hne2,hb with
    |y::r,_,hb=>
     rw [oS,if_neg (by have:=(hb y List.mem_cons_self).1;omega)];rfl
   rw [eP]at ho hn;exact⟨_,_,_,rfl,⟨A4,n4,C4⟩,rfl,hn,aX ho b3.size,ae b3 b4⟩
theorem qy {α:Type} {P:Program} {g:Operand} {ps:Array Tmp} {assign body:Code} {Q:Exit→Act→World→Prop} {a:Act} {w:World} {n:Nat}
  {gf:Nat} {lb:Array Value} (hg:a.eval g= .func (.func gf) #[] lb) (eg:∀args w,(callFunc gf args).run P w= .ok (.enter gf args) w)
  {encs:α→Array Value} (x0:α) (last:α→Prop) (hps:∀i,(encs i).size=ps.size)
  (R R':α→World→Prop) (hRp:∀i W k o o',R i W→w.heap.size≤k→W.heap[k]? =some o→o.isCells=false→R i (W.putObj k o'))
  (hRp':∀i W k o o',R' i W→w.heap.size≤k→W.heap[k]? =some o→o.isCells=false→R' i (W.putObj k o'))
  (h0:∀o o',R x0 ((w.alloc o).alloc o'))
  (hseq:∀(l:Nat) (W:World) (Keep:World→Prop),(∀W W',Keep W→KeepsOthers W W'→Keep W')→
   (∀i W1,¬last i→R i W1→Keep W1→YieldAt Fence.wide 0 P l (encs i) W1 fun e W'=>e= .returned (.bool true)∧R' i W'∧Keep W')→R x0 W→Keep W→
   CallsIn Fence.wide 0 P gf (#[.func (.yield l) #[] #[]]++lb) W fun e W'=>(∃v,e= .returned v)∧(∃x,last x∧R x W')∧Keep W')
  (a₁:α→Act)
  (hassign:∀(l:Nat) (i:α) (W:World) (K:Act→World→Prop),K (a₁ i) W→
   assign.wpIn (Fence.wide.inRound l) 0 P (Exit.then K (fun _ _ _=>False)) {tmps:=(ps.zip (encs i)).foldl (fun t (p,v)=>t.setIfInBounds p v) a.tmps,defers:=[]} W)
  (hbody:∀(l:Nat) (i:α) (W:World),¬last i→R i W→body.wpIn (Fence.wide.inRound l) 0 P (fun e _ W'=>e= .normal∧KeepsOthers W W'∧R' i W') (a₁ i) W)
  (hdone:∀(D:Nat) (x:α) (W:World),w.heap.size≤D→last x→R x W→W.heap[D]? =some (.deferred (some []))→Q .normal {a with defers:={target:=.collected D,args:=#[]}::a.defers} W):
  (Code.rangeFunc g ps assign body).wpIn Fence.wide 0 P Q a w:=by
 refine wpIn_rangeFunc ?_;intro fn hfn;obtain⟨rec,hrec⟩:∃rec:LoopState→Loop,rec=fun st=>{state:=st,pending:=none,fn,tmps:=a.tmps,params:=ps,assign,body,defers:=w.heap.size}:=⟨_,rfl⟩;obtain⟨W1,hW1⟩:∃W1,(w.alloc (.deferred (some []))).alloc (.loop (rec .ready))=W1:=⟨_,rfl⟩;have hL1:W1.heap[w.heap.size+1]? =some (.loop (rec .ready)):=by
  rw [←hW1];have:=World.alloc_heap_new (w.alloc (.deferred (some []))) (.loop (rec .ready));rwa [World.size_alloc]at this
 have hK1:W1.heap[w.heap.size]? =some (.deferred (some [])):=by
  rw [←hW1];exact(Below.heap_alloc _ _ _ (by simp)).trans (World.alloc_heap_new w _)
 refine⟨w.heap.size+1,[{target:=.collected w.heap.size,args:=#[]}],W1,{target:=.fn (.func gf) lb,args:=#[.func (.yield (w.heap.size+1)) #[] #[]]},W1,gf,
  #[.func (.yield (w.heap.size+1)) #[] #[]]++lb,W1,?_,?_,?_,?_,fun h=>(by cases h),?_⟩
 ·rw [←hW1,hrec];exact run_enterLoop_outer _ _ _ _ _
 ·simp only [resolve,hg];simp [go_sem]
 ·intro f' _;trivial
 ·simp [invoke,go_sem,eg]
 ·refine(hseq (w.heap.size+1) W1 (fun W=>W.heap[w.heap.size+1]? =some (.loop (rec .ready))∧W.heap[w.heap.size]? =some (.deferred (some [])))
   (fun W W' h k=>⟨k.same _ _ h.1 rfl,k.same _ _ h.2 rfl⟩) ?_ (by rw [←hW1];exact h0 _ _) ⟨hL1,hK1⟩).mono ?_
  ·rintro i W hi hr ⟨hl,hk⟩;have hlt:w.heap.size+1<W.heap.size:=(Array.getElem?_eq_some_iff.1 hl).1;have hy:=run_yield (P:=P) (args:=encs i) hl (by rw [hrec];exact hps i);rw [hrec]at hy;refine⟨fn,_,assign,body,hy,roundIn_of_wpIn hfn (hassign _ i W _ ⟨_,run_beginRound hl (by rw [hrec]),?_⟩)⟩;have hl2:(W.putObj (w.heap.size+1) (.loop {rec .ready with state:=.busy})).heap[w.heap.size+1]? =some (.loop {rec .ready with state:=.busy}):=World.putObj_heap_same hlt;have hk2:(W.putObj (w.heap.size+1) (.loop {rec .ready with state:=.busy})).heap[w.heap.size]? =some (.deferred (some [])):=(World.putObj_heap_other (by omega)).trans hk;refine wpIn_mono (hbody _ i _ hi (hRp _ _ _ _ _ hr (by omega) hl rfl)) ?_;rintro e a3 W3 ⟨rfl,hk3,hr3⟩;have hl3:=hk3.same _ _ hl2 rfl;refine⟨_,_,run_endRound none hl3,rfl,hRp' _ _ _ _ _ hr3 (by omega) hl3 rfl,?_,(World.putObj_heap_other (by omega)).trans (hk3.same _ _ hk2 rfl)⟩;rw [hrec];exact World.putObj_heap_same (Array.getElem?_eq_some_iff.1 hl3).1
  ·rintro e W2 ⟨⟨v,rfl⟩,⟨x,hx,hr⟩,hl,hk⟩;have he:=run_endLoop (P:=P) hl (by rw [hrec];simp);rw [hrec]at he;exact⟨none,_,he,hdone _ x _ (Nat.le_refl _) hx (hRp _ _ _ _ _ hr (by omega) hl rfl) ((World.putObj_heap_other (by omega)).trans hk)⟩
open Go Go.RowKit Go.Shelf
attribute [local go_sem] Oper.semAt_some
abbrev Pl:=Nat×Sl
def jZ (k:Nat) (x:Pl):Pl:=(x.1+k,⟨cd x.2.a k x.2.c 1,x.2.n-k,x.2.c-k⟩)
structure Mq (w:World) (v tp bp mp Bi Bv:Nat) (c:Array Value) (s:ak) (items:List Int) (x:Pl):Prop where
 box:w.heap[Bi]? =some (.cells #[x.2.v] cq (0,0))
 vbox:w.heap[Bv]? =some (.cells #[.pointer (some ⟨v,0,none⟩)] 31 (0,0))
 blk:ja w v c tp bp mp
 bd:sJ w bp s.classes s.joins
 row:Rw ay 1 w x.2.a (items.drop x.1)
 len:x.2.n=(items.drop x.1).length
 cap:x.2.n≤x.2.c
set_option maxHeartbeats 2000000 in
theorem wm (v tp bp mp Bi Bv:Nat) (c:Array Value) (s:ak) (T:List aT) (hcl:∀c∈s.classes,aQ c=true) (items:List Int) (hl:items.length≤1000000) (hok:∀x∈items,x<256)
  (l:Nat) (R R':Pl→World→Prop) (Keep:World→Prop) (hK:∀W W',Keep W→KeepsOthers W W'→Keep W')
  (hR:∀x W,R x W→Mq W v tp bp mp Bi Bv c s items x)
  (hRb:∀x W W',R x W→Below W.heap.size W W'→R x W')
  (hR':∀x W,R' x W→W.heap[Bi]? =some (.cells #[x.2.v] cq (0,0)))
  (hRn:∀x W k,k=fa (aK s T).cut (items.drop x.1)→R' x W→R (jZ k x) (W.setCell ⟨Bi,0,none⟩ (jZ k x).2.v))
  (hY:∀x W1 k,k=fa (aK s T).cut (items.drop x.1)→R x W1→x.2.n≠0→Keep W1→YieldAt Fence.wide 0 Tryz.prog l #[.slice x.2.a k k] W1 fun e W'=>e= .returned (.bool true)∧R' x W'∧Keep W')
  (x0:Pl) (W:World) (h0:R x0 W) (hk0:Keep W):
  CallsIn Fence.wide 0 Tryz.prog 260 #[.func (.yield l) #[] #[],.pointer (some ⟨Bi,0,none⟩),.pointer (some ⟨Bv,0,none⟩)] W fun e W'=>(∃v,e= .returned v)∧(∃x:Pl,x.2.n=0∧R x W')∧Keep W':=by
 refine callsIn_of_wp Tryz.func260 rfl trivial ?_ rfl;simp only [Tryz.ntmps260,List.size_toArray,List.length_cons,List.length_nil,Nat.reduceAdd,Nat.reduceSub,Array.replicate_succ,Array.replicate_zero,List.push_toArray,List.append_toArray,List.nil_append,List.cons_append]
 gi_wp2
 gi_loopw [4] (fun _ wr=>∃x:Pl,R x wr∧Keep wr) (fun _ wr=>match wr.cell? ⟨Bi,0,none⟩with |some (.slice _ n _)=>n |_=>0)
 case atStart=>exact⟨x0,h0,hk0⟩
 case round=>
  obtain⟨x,hx,hk⟩:=hrel;have hI:=hR x wr hx;obtain⟨i,⟨a,n,cp⟩⟩:=x;have hb1:wr.cell? ⟨Bi,0,none⟩=some (.slice a n cp):=by simp [World.cell?,hI.box,Sl.v]
  have hb2:wr.cell? ⟨Bv,0,none⟩=some (.pointer (some ⟨v,0,none⟩)):=by simp [World.cell?,hI.vbox]
  by_cases hn:n=0
  ·subst hn
   gi_wp2
   go_end0
   exact⟨⟨_,rfl⟩,⟨_,rfl,hx⟩,hk⟩
  ·have hlen:(items.drop i).length=n:=hI.len.symm;have hn0:0<n:=by omega
   obtain⟨k,hkk⟩:∃k,fa (aK s T).cut (items.drop i)=k:=⟨_,rfl⟩;have hne:items.drop i≠ []:=fun e=>hn (by rw [←hlen,e];rfl);have hk1:=GK (aK s T).cut hne;have hk2:=qE (aK s T).cut (items.drop i);have hcap:n≤cp:=hI.cap;have hnl:n≤1000000:=by rw [←hlen,List.length_drop];omega
   rw [hkk]at hk1;rw [hkk,hlen]at hk2;have hc:=BH wr v c tp bp mp hI.blk s T hI.bd hcl a cp (items.drop i) hI.row hne (by omega) (fun x hx=>hok x (List.mem_of_mem_drop hx));rw [hkk,hlen]at hc;have hc:=(callsIn_wide (n:=0)).2 hc
   gi_wp2
   refine⟨trivial,rfl,?_⟩;refine CallsIn.mono hc ?_;rintro e w1 ⟨rfl,b1⟩;have hx1:=hRb _ _ _ hx b1;have hI1:=hR _ _ hx1;have hkp1:=hK _ _ hk (KeepsOthers.of_grownBy (row:=none) ⟨b1.os,b1.tape,b1.output,b1.size,fun j hj _=>b1.block j hj⟩ (fun j o e=>by cases e));have hb0:=hb1;have hb1:w1.cell? ⟨Bi,0,none⟩=some (.slice a n cp):=by simp [World.cell?,hI1.box,Sl.v]
   obtain⟨fn,tmps,assign,body,hy,hRd⟩:=hY _ w1 k hkk.symm hx1 hn hkp1;dsimp only at hy
   gi_wp2
   refine⟨rfl,hRd.mono ?_⟩;rintro e W3 ⟨rfl,hR3,hk3⟩;have hb3:=hR' _ _ hR3;have hc3:W3.cell? ⟨Bi,0,none⟩=some (.slice a n cp):=by simp [World.cell?,hb3,Sl.v]
   have hf3:W3.frozen? ⟨Bi,0,none⟩=false:=by simp [World.frozen?,hb3]
   gi_wp2
   have hR4:=hRn _ _ k hkk.symm hR3;have hk4:=hK _ _ hk3 (KeepsOthers.setCell W3 ⟨Bi,0,none⟩ (jZ k (i,⟨a,n,cp⟩)).2.v);have e4:(jZ k (i,⟨a,n,cp⟩)).2.v=Value.slice (if cp=k then a else Option.map (fun x=>x.add k) a) (n-k) (cp-k):=by
    unfold jZ cd Sl.v;dsimp only;rw [Nat.mul_one]
   rw [e4]at hR4 hk4;refine⟨⟨_,hR4,hk4⟩,?_⟩;obtain⟨b',hb'⟩:∃b',Value.slice b' (n-k) (cp-k)=Value.slice (if cp=k then a else Option.map (fun x=>x.add k) a) (n-k) (cp-k):=⟨_,rfl⟩;rw [←hb',World.cell?_setCell_same' _ _ _ (by rw [hc3];rfl),hb0];show n-k<n;omega
theorem AQ (V:Voc) (p:List Int):(V.encP p).length≤p.length:=by
 cases p with
 |nil=>exact Nat.le_refl _
 |cons x r=>
  rw [oS];split
  ·simp
  ·exact uG V.ms (x::r) _ (Nat.le_refl _)
theorem vG (V:Voc) (Z:List Int):(V.encode Z).length≤Z.length:=by
 have:=xF (f:=V.encP) (AQ V) (chop V.cut Z);rw [(g_ Z).2]at this;exact this
theorem D6 (V:Voc) {l:List Int} (hne:l≠ []):V.encode l=V.encP (l.take (fa V.cut l))++V.encode (l.drop (fa V.cut l)):=by
 unfold Voc.encode;rw [oU _ hne,List.flatMap_cons]
theorem pI {V:Voc}:∀ {x y:Int} {r:List Int},dR V.cut (x::y::r)→∀z∈x::y::r,0≤z
 |x,y,[],⟨h,_⟩,z,hz=>by
  unfold Voc.cut at h;simp at h hz;rcases hz with rfl |rfl<;>omega
 |x,y,u::r,⟨h,h2⟩,z,hz=>by
  have ih:=pI (V:=V) h2;rcases List.mem_cons.1 hz with rfl |hz
  ·unfold Voc.cut at h;simp at h;omega
  ·exact ih z hz
theorem IT {s:ak} {T:List aT} {l:List Int} (hne:l≠ []) (hok:∀x∈l,jR s x=true):E4 s (l.take (fa (aK s T).cut l)):=by
 have hc:=(g_ (cut:=(aK s T).cut) l).1;rw [oU _ hne]at hc;obtain⟨h1,h2⟩:=hc.head;have hmem:∀x∈l.take (fa (aK s T).cut l),jR s x=true:=fun x hx=>hok x (List.mem_of_mem_take hx);revert h1 h2 hmem;generalize l.take (fa (aK s T).cut l)=p;intro h1 h2 hmem
 match p,h1 with
 | [x],_=>
  have:=hmem x List.mem_cons_self;unfold jR at this;have:=of_decide_eq_true this;rcases this with h |h
  ·exact .inr ⟨by simp,fun y hy=>by simp at hy;subst hy;exact h⟩
  ·exact .inl ⟨x,rfl,h.1,h.2⟩
 |x::y::r,_=>
  refine .inr ⟨by simp,fun z hz=>?_⟩;have h0:=pI (V:=aK s T) h2 z hz;have:=hmem z hz;unfold jR at this;have:=of_decide_eq_true this;omega
attribute [local go_sem] Oper.semAt_some
abbrev Ce:TypeId:=31
theorem rC (w:World) (v:Option Addr) (A:Option Addr) (N C:Nat):
  CP 224 #[.pointer v,.slice A N C] w fun e w'=>e= .returned (.func (.func 260) #[] #[.pointer (some ⟨w.heap.size+1,0,none⟩),.pointer (some ⟨w.heap.size,0,none⟩)])∧w'=(w.alloc (.cells #[.pointer v] Ce)).alloc (.cells #[.slice A N C] cq):=by
 refine aJ (xy v A N C w (fun u w'=>u= .func (.func 260) #[] #[.pointer (some ⟨w.heap.size+1,0,none⟩),.pointer (some ⟨w.heap.size,0,none⟩)]∧w'=(w.alloc (.cells #[.pointer v] Ce)).alloc (.cells #[.slice A N C] cq)) ?_) (by rintro v w' ⟨rfl,h⟩;exact⟨rfl,h⟩);intro w1 hw1 w2 hw2;subst hw1 hw2;refine⟨?_,rfl⟩;unfold nb;rw [World.size_alloc]
structure Dv (w W:World) (v:Nat) (s:ak) (T:List aT) (Z:List Int) (i:Nat) (x:Pl):Prop where
 vb0:W.heap[w.heap.size]? =some (.cells #[.pointer (some ⟨v,0,none⟩)] Ce (0,0))
 vb:W.heap[w.heap.size+2]? =some (.cells #[.pointer (some ⟨v,0,none⟩)] Ce (0,0))
 bx:W.heap[w.heap.size+3]? =some (.cells #[x.2.v] cq (0,0))
 row:Rw ay 1 w x.2.a (Z.drop x.1)
 len:x.2.n=(Z.drop x.1).length
 cap:x.2.n≤x.2.c
 out:∃(ys:List Int) (o:Sl),Boxed W (w.heap.size+1) cq o.v∧W.ownsRow w.heap.size bh 1 o.v o.n (ys.flatMap ay)∧ys++(aK s T).encode (Z.drop i)=(aK s T).encode Z
 le:Below w.heap.size w W
theorem Dv.on {w W W':World} {v:Nat} {s:ak} {T:List aT} {Z:List Int} {i:Nat} {x:Pl} (h:Dv w W v s T Z i x) (hb:Below W.heap.size W W'):Dv w W' v s T Z i x:=by
 obtain⟨ys,o,h1,h2,h3⟩:=h.out;exact⟨aj hb h.vb0,aj hb h.vb,aj hb h.bx,h.row,h.len,h.cap,⟨ys,o,aj hb h1,aF h2 hb,h3⟩,ae h.le hb⟩
theorem Dv.put {w W:World} {v:Nat} {s:ak} {T:List aT} {Z:List Int} {i:Nat} {x:Pl} (h:Dv w W v s T Z i x) {k:Nat} {o o':Obj} (hk:w.heap.size≤k) (ho:W.heap[k]? =some o) (hc:o.isCells=false):Dv w (W.putObj k o') v s T Z i x:=by
 have keep:∀ {j:Nat} {c:Array Value} {t:TypeId} {f:Nat×Nat},W.heap[j]? =some (.cells c t f)→(W.putObj k o').heap[j]? =some (.cells c t f):=by
  intro j c t f hj;rw [World.putObj_heap_other fun e=>?_]
  ·exact hj
  ·subst e;rw [hj]at ho;cases ho;cases hc
 obtain⟨ys,y,h1,h2,h3⟩:=h.out;exact⟨keep h.vb0,keep h.vb,keep h.bx,h.row,h.len,h.cap,⟨ys,y,keep h1,ownsRow_putObj h2 o' ho hc,h3⟩,h.le.trans ((Below.refl _ W).grown (grownBy_putObj' W k o') h.le.size (fun j e=>by cases e;exact hk))⟩
theorem Dv.step {w W:World} {v:Nat} {s:ak} {T:List aT} {Z:List Int} {k:Nat} {x:Pl} (hk:k≤(Z.drop x.1).length) (h:Dv w W v s T Z (x.1+k) x):Dv w (W.setCell ⟨w.heap.size+3,0,none⟩ (jZ k x).2.v) v s T Z (jZ k x).1 (jZ k x):=by
 have hb:Boxed W (w.heap.size+3) cq x.2.v:=h.bx;have keep:∀ {j:Nat} {c:Array Value} {t:TypeId} {f:Nat×Nat},j≠w.heap.size+3→W.heap[j]? =some (.cells c t f)→(W.setCell ⟨w.heap.size+3,0,none⟩ (jZ k x).2.v).heap[j]? =some (.cells c t f):=by
  intro j c t f hne hj;rw [(grownBy_setCell' W (w.heap.size+3) _).block j (Array.getElem?_eq_some_iff.1 hj).1 (fun e=>hne (Option.some.inj e))];exact hj
 obtain⟨ys,y,h1,h2,h3⟩:=h.out;have hlen:=h.len;have hcap:=h.cap;obtain⟨i,⟨a,n,cp⟩⟩:=x;change n=(Z.drop i).length at hlen;change n≤cp at hcap;change k≤(Z.drop i).length at hk;refine⟨keep (by omega) h.vb0,keep (by omega) h.vb,hb.set _,?_,?_,?_,⟨ys,y,keep (by omega) h1,h2.kept (grownBy_setCell' W _ _) (.inr (hb.not_row (by decide) h2).symm),h3⟩,h.le.trans ((Below.refl _ W).setCell (p:=⟨w.heap.size+3,0,none⟩) (by show w.heap.size≤w.heap.size+3;omega) _)⟩
 ·have:=h.row.cut k cp (by show(Z.drop i).length≤cp;omega);rw [List.drop_drop]at this;exact this
 ·show n-k=(Z.drop (i+k)).length;rw [List.length_drop]at hlen⊢;omega
 ·show n-k≤cp-k;omega
theorem cG {F:Fence} {n:Nat} {P:Program} {o:Oper} {a:Act} {w w':World} {K:Act→World→Prop} {Q:Exit→Act→World→Prop} (s x:Operand) (t:TypeId)
  (hop:o.op=Op.call {callee:=Callee.builtin Builtin.append,args:=#[s,x],argTypes:=#[t,t]}) {vs vx v':Value} (hs:a.eval s=vs) (hx:a.eval x=vx)
  (hrun:(Builtin.append_ #[t,t] o.type #[vs,vx]).run P w= .ok v' w') (h:K (a.put o.dst v') w'):Oper.wpIn F n P o a w K Q:=by
 unfold Oper.wpIn;refine⟨?_,?_⟩
 ·simp [Oper.about,hop,resolve,Target.leads,Sem.run_pure]
 ·rw [Oper.semAt_plain F _ _ (by rw [hop];intro c hc';cases hc')];simp [execOp,hop,resolve,invoke,builtin,hs,hx,hrun,Result.andThen];exact h
set_option maxHeartbeats 4000000 in
theorem yy (w:World) (v:Nat) (c:Array Value) (tp bp mp:Nat) (h:ja w v c tp bp mp) (s:ak) (T:List aT) (x:aY) (hP:bW w s T x tp bp mp) (A:Option Addr) (C:Nat) (Z:List Int) (hr:Rw ay 1 w A Z) (hC:Z.length≤C) (hl:Z.length≤100000) (hZ:∀y∈Z,jR s y=true):
  CP 172 #[.pointer (some ⟨v,0,none⟩),.slice A Z.length C] w fun e w'=>∃l:Sl,e= .returned l.v∧l.n=((aK s T).encode Z).length∧w'.ownsRow w.heap.size bh 1 l.v l.n (((aK s T).encode Z).flatMap ay)∧Below w.heap.size w w':=by
 obtain⟨N,hN⟩:∃N,Z.length=N:=⟨_,rfl⟩;rw [hN];refine(callsIn_wide (n:=0)).1 ?_;refine callsIn_of_wp_marks Tryz.func172 rfl trivial ?_ rfl;simp only [Tryz.ntmps172,List.size_toArray,List.length_cons,List.length_nil,Nat.reduceAdd,Nat.reduceSub,Array.replicate_succ,Array.replicate_zero,List.push_toArray,List.append_toArray,List.nil_append,List.cons_append]
 gi_wp2_with (refine⟨trivial,rfl,?_⟩;refine CallsIn.mono (callsIn_wide.2 (rC _ _ _ _ _)) ?_;rintro e w' ⟨rfl,rfl⟩)
 obtain⟨W0,hW0⟩:∃W0,((((w.alloc (.cells #[.pointer (some ⟨v,0,none⟩)] Ce)).alloc (.cells #[.slice none 0 0] cq)).alloc (.cells #[.pointer (some ⟨v,0,none⟩)] Ce)).alloc (.cells #[.slice A N C] cq))=W0:=⟨_,rfl⟩;rw [hW0];have hz0:W0.heap.size=w.heap.size+4:=by rw [←hW0];simp only [World.size_alloc]
 have hT0:Dv w W0 v s T Z 0 (0,⟨A,N,C⟩):=by
  rw [←hW0];have e1:=Boxed.new w Ce (.pointer (some ⟨v,0,none⟩));have e2:=Boxed.new (w.alloc (.cells #[.pointer (some ⟨v,0,none⟩)] Ce)) cq (.slice none 0 0);have e3:=Boxed.new ((w.alloc (.cells #[.pointer (some ⟨v,0,none⟩)] Ce)).alloc (.cells #[.slice none 0 0] cq)) Ce (.pointer (some ⟨v,0,none⟩));have e4:=Boxed.new (((w.alloc (.cells #[.pointer (some ⟨v,0,none⟩)] Ce)).alloc (.cells #[.slice none 0 0] cq)).alloc (.cells #[.pointer (some ⟨v,0,none⟩)] Ce)) cq (.slice A N C);simp only [World.size_alloc]at e2 e3 e4;exact⟨((e1.alloc _).alloc _).alloc _,e3.alloc _,e4,by rw [List.drop_zero];exact hr,hN.symm,by show N≤C;omega,⟨[],dZ,(e2.alloc _).alloc _,cX _ _ _ _ ay,rfl⟩,((((Below.refl w.heap.size w).alloc (Nat.le_refl _) _).alloc (by simp only [World.size_alloc];omega) _).alloc (by simp only [World.size_alloc];omega) _).alloc (by simp only [World.size_alloc];omega) _⟩
 have hlt:∀y∈Z,y<256:=by
  intro y hy;have:=hZ y hy;unfold jR at this;have:=of_decide_eq_true this;omega
 have hcl:∀c∈s.classes,aQ c=true:=(nt hP.right).1;obtain⟨cut,hcut⟩:∃cut,(aK s T).cut=cut:=⟨_,rfl⟩;refine qy (n:=0) (gf:=260) (lb:=#[.pointer (some ⟨w.heap.size+3,0,none⟩),.pointer (some ⟨w.heap.size+2,0,none⟩)]) rfl (enters_of Tryz.func260 (by kernel_rfl) rfl)
  (encs:=fun y:Pl=>#[.slice y.2.a (fa cut (Z.drop y.1)) (fa cut (Z.drop y.1))]) ((0,⟨A,N,C⟩):Pl) (fun y:Pl=>y.2.n=0) (fun _=>rfl)
  (fun y W=>Dv w W v s T Z y.1 y) (fun y W=>Dv w W v s T Z (y.1+fa cut (Z.drop y.1)) y)
  (fun y W k o o' hy hk ho hc=>hy.put (by omega) ho hc) (fun y W k o o' hy hk ho hc=>hy.put (by omega) ho hc)
  (fun o o'=>(hT0.on (ah _ _)).on (ah _ _)) ?seq
  (fun y=>{tmps:=#[.pointer (some ⟨v,0,none⟩),.slice A N C,.pointer (some ⟨w.heap.size,0,none⟩),undef,.slice none 0 0,.pointer (some ⟨w.heap.size+1,0,none⟩),.slice y.2.a (fa cut (Z.drop y.1)) (fa cut (Z.drop y.1)),.pointer (some ⟨v,0,none⟩),.slice A N C,.func (.func 260) #[] #[.pointer (some ⟨w.heap.size+1+1+1,0,none⟩),.pointer (some ⟨w.heap.size+1+1,0,none⟩)],.slice y.2.a (fa cut (Z.drop y.1)) (fa cut (Z.drop y.1)),undef,undef,undef,undef,undef,undef],defers:=[]}) ?assign ?body ?done
 case seq=>
  intro l W Keep hK hY h0 hk0;refine wm v tp bp mp (w.heap.size+3) (w.heap.size+2) c s T hcl Z (by omega) hlt l (fun y W=>Dv w W v s T Z y.1 y) (fun y W=>Dv w W v s T Z (y.1+fa cut (Z.drop y.1)) y) Keep hK ?_ ?_ ?_ ?_ ?_ (0,⟨A,N,C⟩) W h0 hk0
  ·exact fun y W hy=>⟨hy.bx,hy.vb,h.on hy.le,hP.bound.on hy.le,hy.row.on hy.le,hy.len,hy.cap⟩
  ·exact fun y W W' hy hb=>hy.on hb
  ·exact fun y W hy=>hy.bx
  ·intro y W k hk hy;rw [←hcut, ←hk]at hy;exact hy.step (by rw [hk];exact qE _ _)
  ·intro y W1 k hk hy hn hkp;have:=hY y W1 hn hy hkp;rw [←hcut]at this;rw [hk, ←hcut];exact this
 case assign=>
  intro l y W K hK
  gi_wp2
  exact hK
 case body=>
  intro l y W hy hR;obtain⟨ys,⟨oa,on,oc⟩,hb,ho,he⟩:=hR.out;have hc1:W.cell? ⟨w.heap.size+1,0,none⟩=some (.slice oa on oc):=hb.cell;have hc2:W.cell? ⟨w.heap.size,0,none⟩=some (.pointer (some ⟨v,0,none⟩)):=(show Boxed W w.heap.size Ce _ from hR.vb0).cell;have hmx:Tryz.prog.follows .mixedOrders=true:=by kernel_rfl
  obtain⟨k,hk⟩:∃k,fa cut (Z.drop y.1)=k:=⟨_,rfl⟩;have hpc:∀q,Below W.heap.size W q→CallsIn (Fence.wide.inRound l) 0 Tryz.prog 225 #[.pointer (some ⟨v,0,none⟩),.slice y.2.a k k] q fun e q'=>∃la ln lc,e= .returned (.slice la ln lc)∧ln=((aK s T).encP ((Z.drop y.1).take k)).length∧q'.ownsRow q.heap.size bh 1 (.slice la ln lc) ln (((aK s T).encP ((Z.drop y.1).take k)).flatMap ay)∧Below q.heap.size q q':=by
   intro q hq;have hle:=hR.le;have hne:Z.drop y.1≠ []:=by
    intro e;have:=hR.len;rw [e]at this;exact hy this
   have hk2:k≤(Z.drop y.1).length:=by rw [←hk];exact qE _ _
   have hq':=ae hle hq;have hpo:=IT (s:=s) (T:=T) hne (fun z hz=>hZ z (List.mem_of_mem_drop hz));rw [hcut,hk]at hpo;have hkl:((Z.drop y.1).take k).length=k:=by rw [List.length_take,Nat.min_eq_left hk2]
   have:=tV q v c tp bp mp (h.on hq') s T x (hP.on hq') y.2.a k ((Z.drop y.1).take k) ((hR.row.on hq').take k) hpo (by rw [hkl];rw [List.length_drop]at hk2;omega);rw [hkl]at this;refine CallsIn.inRound l (callsIn_wide.2 (this.mono ?_));rintro e q' ⟨r,rfl,h1,h2,h3⟩;exact⟨_,_,_,rfl,h1,h2,h3⟩
  rw [hk]
  gi_wp2
  have hd:=aO W;have hoD:=aF ho hd;have hbD:Boxed W.drew (w.heap.size+1) cq (.slice oa on oc):=aj hd hb;have hc1D:W.drew.cell? ⟨w.heap.size+1,0,none⟩=some (.slice oa on oc):=hbD.cell;have hc2D:W.drew.cell? ⟨w.heap.size,0,none⟩=some (.pointer (some ⟨v,0,none⟩)):=(show Boxed W.drew w.heap.size Ce _ from aj hd hR.vb0).cell;have hys:ys.length≤100000:=by
   have h1:=congrArg List.length he;rw [List.length_append]at h1;have h2:=vG (aK s T) Z;omega
  have hps:((aK s T).encP ((Z.drop y.1).take k)).length≤100000:=by
   have h1:=AQ (aK s T) ((Z.drop y.1).take k);rw [List.length_take,List.length_drop]at h1;omega
  have hon:on=ys.length:=(Rw.of_own (s:=⟨oa,on,oc⟩) ho (fun _=>rfl) (by decide)).2;have happ:∀(W3:World) (la:Option Addr) (ln lc:Nat),Below W.drew.heap.size W.drew W3→ln=((aK s T).encP ((Z.drop y.1).take k)).length→W3.ownsRow W.drew.heap.size bh 1 (.slice la ln lc) ln (((aK s T).encP ((Z.drop y.1).take k)).flatMap ay)→
    ∃ra rn rc W4,(Builtin.append_ #[cq,cq] cq #[.slice oa on oc,.slice la ln lc]).run Tryz.prog W3= .ok (.slice ra rn rc) W4∧W4.frozen? ⟨w.heap.size+1,0,none⟩=false∧W4.cell? ⟨w.heap.size+1,0,none⟩=some (.slice oa on oc)∧KeepsOthers W (W4.setCell ⟨w.heap.size+1,0,none⟩ (.slice ra rn rc))∧Dv w (W4.setCell ⟨w.heap.size+1,0,none⟩ (.slice ra rn rc)) v s T Z (y.1+k) y:=by
   intro W3 la ln lc hlb hln hlo;have hle3:Below w.heap.size w W3:=ae (ae hR.le hd) hlb;have hb3:Boxed W3 (w.heap.size+1) cq (.slice oa on oc):=aj hlb hbD;have hb30:Boxed W3 w.heap.size Ce (.pointer (some ⟨v,0,none⟩)):=aj hlb (aj hd hR.vb0);have hb32:Boxed W3 (w.heap.size+2) Ce (.pointer (some ⟨v,0,none⟩)):=aj hlb (aj hd hR.vb);have hb33:Boxed W3 (w.heap.size+3) cq y.2.v:=aj hlb (aj hd hR.bx);have ho3:W3.ownsRow w.heap.size bh 1 (Sl.v ⟨oa,on,oc⟩) on (ys.flatMap ay):=aF hoD hlb;obtain⟨r,W4,hrn,hrun,ho4,hbel,hkeep,_⟩:=eL.spread (s:=⟨oa,on,oc⟩) (l:=⟨la,ln,lc⟩) ho3 (dk.of_own eL hlo) hle3.size (by show on≤_;omega) (by show ln≤_;omega) (by decide);have hB34:=hbel W3 (Below.refl _ _);have hg4:W3.grownBy W4 (Sl.v ⟨oa,on,oc⟩).ownBlock:=⟨hB34.os,hB34.tape,hB34.output,hB34.size,fun j hj hne=>hkeep j hj fun e=>hne e.symm⟩;have hb4:=hb3.kept hg4 (hb3.not_row (by decide) ho3);have hg5:=grownBy_setCell' W4 (w.heap.size+1) r.v;have to5:∀ {B:Nat} {t:TypeId} {u:Value},B≠w.heap.size+1→t≠bh→Boxed W3 B t u→Boxed (W4.setCell ⟨w.heap.size+1,0,none⟩ r.v) B t u:=fun hB ht hb=>(hb.kept hg4 (hb.not_row ht ho3)).kept hg5 (fun e=>hB (Option.some.inj e));have hne:Z.drop y.1≠ []:=by
    intro e;have:=hR.len;rw [e]at this;exact hy this
   refine⟨r.a,r.n,r.c,W4,hrun,hb4.frozen,hb4.cell,?_,?_⟩
   ·refine(((KeepsOthers.drew W).trans (KeepsOthers.of_grownBy (row:=none) ⟨hlb.os,hlb.tape,hlb.output,hlb.size,fun j hj _=>hlb.block j hj⟩ (fun j o e=>by cases e))).trans (KeepsOthers.of_grownBy hg4 fun j o ej hj=>?_)).trans (KeepsOthers.setCell _ _ _);rcases ho3.2 with⟨e0,_⟩ |⟨g,cap,cur,e0,_,hgb,_⟩
    ·rw [e0]at ej;simp [Value.ownBlock]at ej
    ·rw [e0]at ej;obtain rfl:g=j:=by simpa [Value.ownBlock]using ej
     rw [hgb]at hj;cases hj;rfl
   ·refine⟨to5 (by omega) (by decide) hb30,to5 (by omega) (by decide) hb32,to5 (by omega) (by decide) hb33,hR.row,hR.len,hR.cap,⟨ys++(aK s T).encP ((Z.drop y.1).take k),r,hb4.set r.v,ho4.kept hg5 (.inr (hb4.not_row (by decide) ho4).symm),?_⟩,(hbel w hle3).trans ((Below.refl _ W4).setCell (p:=⟨w.heap.size+1,0,none⟩) (by show w.heap.size≤w.heap.size+1;omega) _)⟩;rw [←he,D6 _ hne,hcut,hk,List.drop_drop,List.append_assoc]
  have hcs:∀W3,Below W.drew.heap.size W.drew W3→W3.cell? ⟨w.heap.size+1,0,none⟩=some (.slice oa on oc):=by
   intro W3 hlb;have:Boxed W3 (w.heap.size+1) cq (.slice oa on oc):=aj hlb hbD;exact this.cell
  have hcall:=hpc _ hd;clear hon;refine wpIn_region_any hmx ?_;change wpAnyIn _ _ _ _ _ _ _ _ _ (World.drew _);refine wpAnyIn_ready (rs:=[0,1,2]) (by kernel_rfl) (by simp) ?_;refine AllReadyIn.cons rfl (fun K hK=>?_) ?_
  ·go_simp
   refine hK _ _ ?_;clear hK K;refine wpAnyIn_ready (rs:=[1,2]) (by kernel_rfl) (by simp) ?_;refine AllReadyIn.cons rfl (fun K hK=>?_) ?_
   ·go_simp
    refine hK _ _ ?_;clear hK K;refine wpAnyIn_ready (rs:=[2]) (by kernel_rfl) (by simp) ?_;refine AllReadyIn.cons rfl (fun K hK=>?_) ?_
    ·go_simp
     refine hK _ _ ?_;clear hK K;refine wpAnyIn_ready (rs:=[3]) (by kernel_rfl) (by simp) ?_;refine AllReadyIn.cons rfl (fun K hK=>?_) ?_
     ·go_simp
      refine⟨trivial,rfl,?_⟩;refine CallsIn.mono hcall ?_;rintro e W3 ⟨la,ln,lc,rfl,hln,hlo,hlb⟩;obtain⟨ra,rn,rc,W4,hrn,hf4,hc4,hkk4,hR4⟩:=happ W3 la ln lc hlb hln hlo;have hc3:=hcs W3 hlb;clear hln hlo hlb;dsimp only;refine hK _ _ ?_;clear hK K;refine wpAnyIn_ready (rs:=[4]) (by kernel_rfl) (by simp) ?_;refine AllReadyIn.cons rfl (fun K hK=>?_) ?_
      ·rw [if_pos (by rfl)];refine cG _ _ _ rfl rfl rfl hrn ?_;clear hrn
       go_simp
       refine hK _ _ ?_;clear hK K;refine wpAnyIn_ready (rs:=[5]) (by kernel_rfl) (by simp) ?_;refine AllReadyIn.cons rfl (fun K hK=>?_) ?_
       ·go_simp
        refine hK _ _ ?_;clear hK K;refine wpAnyIn_done (by kernel_rfl) ?_ _;exact⟨rfl,hkk4,hR4⟩
       exact AllReadyIn.nil
      exact AllReadyIn.nil
     exact AllReadyIn.nil
    exact AllReadyIn.nil
   refine AllReadyIn.cons rfl (fun K hK=>?_) ?_
   ·go_simp
    refine hK _ _ ?_;clear hK K;refine wpAnyIn_ready (rs:=[1]) (by kernel_rfl) (by simp) ?_;refine AllReadyIn.cons rfl (fun K hK=>?_) ?_
    ·go_simp
     refine hK _ _ ?_;clear hK K;refine wpAnyIn_ready (rs:=[3]) (by kernel_rfl) (by simp) ?_;refine AllReadyIn.cons rfl (fun K hK=>?_) ?_
     ·go_simp
      refine⟨trivial,rfl,?_⟩;refine CallsIn.mono hcall ?_;rintro e W3 ⟨la,ln,lc,rfl,hln,hlo,hlb⟩;obtain⟨ra,rn,rc,W4,hrn,hf4,hc4,hkk4,hR4⟩:=happ W3 la ln lc hlb hln hlo;have hc3:=hcs W3 hlb;clear hln hlo hlb;dsimp only;refine hK _ _ ?_;clear hK K;refine wpAnyIn_ready (rs:=[4]) (by kernel_rfl) (by simp) ?_;refine AllReadyIn.cons rfl (fun K hK=>?_) ?_
      ·rw [if_pos (by rfl)];refine cG _ _ _ rfl rfl rfl hrn ?_;clear hrn
       go_simp
       refine hK _ _ ?_;clear hK K;refine wpAnyIn_ready (rs:=[5]) (by kernel_rfl) (by simp) ?_;refine AllReadyIn.cons rfl (fun K hK=>?_) ?_
       ·go_simp
        refine hK _ _ ?_;clear hK K;refine wpAnyIn_done (by kernel_rfl) ?_ _;exact⟨rfl,hkk4,hR4⟩
       exact AllReadyIn.nil
      exact AllReadyIn.nil
     exact AllReadyIn.nil
    exact AllReadyIn.nil
   exact AllReadyIn.nil
  refine AllReadyIn.cons rfl (fun K hK=>?_) ?_
  ·go_simp
   refine hK _ _ ?_;clear hK K;refine wpAnyIn_ready (rs:=[0,2]) (by kernel_rfl) (by simp) ?_;refine AllReadyIn.cons rfl (fun K hK=>?_) ?_
   ·go_simp
    refine hK _ _ ?_;clear hK K;refine wpAnyIn_ready (rs:=[2]) (by kernel_rfl) (by simp) ?_;refine AllReadyIn.cons rfl (fun K hK=>?_) ?_
    ·go_simp
     refine hK _ _ ?_;clear hK K;refine wpAnyIn_ready (rs:=[3]) (by kernel_rfl) (by simp) ?_;refine AllReadyIn.cons rfl (fun K hK=>?_) ?_
     ·go_simp
      refine⟨trivial,rfl,?_⟩;refine CallsIn.mono hcall ?_;rintro e W3 ⟨la,ln,lc,rfl,hln,hlo,hlb⟩;obtain⟨ra,rn,rc,W4,hrn,hf4,hc4,hkk4,hR4⟩:=happ W3 la ln lc hlb hln hlo;have hc3:=hcs W3 hlb;clear hln hlo hlb;dsimp only;refine hK _ _ ?_;clear hK K;refine wpAnyIn_ready (rs:=[4]) (by kernel_rfl) (by simp) ?_;refine AllReadyIn.cons rfl (fun K hK=>?_) ?_
      ·rw [if_pos (by rfl)];refine cG _ _ _ rfl rfl rfl hrn ?_;clear hrn
       go_simp
       refine hK _ _ ?_;clear hK K;refine wpAnyIn_ready (rs:=[5]) (by kernel_rfl) (by simp) ?_;refine AllReadyIn.cons rfl (fun K hK=>?_) ?_
       ·go_simp
        refine hK _ _ ?_;clear hK K;refine wpAnyIn_done (by kernel_rfl) ?_ _;exact⟨rfl,hkk4,hR4⟩
       exact AllReadyIn.nil
      exact AllReadyIn.nil
     exact AllReadyIn.nil
    exact AllReadyIn.nil
   refine AllReadyIn.cons rfl (fun K hK=>?_) ?_
   ·go_simp
    refine hK _ _ ?_;clear hK K;refine wpAnyIn_ready (rs:=[0,3]) (by kernel_rfl) (by simp) ?_;refine AllReadyIn.cons rfl (fun K hK=>?_) ?_
    ·go_simp
     refine hK _ _ ?_;clear hK K;refine wpAnyIn_ready (rs:=[3]) (by kernel_rfl) (by simp) ?_;refine AllReadyIn.cons rfl (fun K hK=>?_) ?_
     ·go_simp
      refine⟨trivial,rfl,?_⟩;refine CallsIn.mono hcall ?_;rintro e W3 ⟨la,ln,lc,rfl,hln,hlo,hlb⟩;obtain⟨ra,rn,rc,W4,hrn,hf4,hc4,hkk4,hR4⟩:=happ W3 la ln lc hlb hln hlo;have hc3:=hcs W3 hlb;clear hln hlo hlb;dsimp only;refine hK _ _ ?_;clear hK K;refine wpAnyIn_ready (rs:=[4]) (by kernel_rfl) (by simp) ?_;refine AllReadyIn.cons rfl (fun K hK=>?_) ?_
      ·rw [if_pos (by rfl)];refine cG _ _ _ rfl rfl rfl hrn ?_;clear hrn
       go_simp
       refine hK _ _ ?_;clear hK K;refine wpAnyIn_ready (rs:=[5]) (by kernel_rfl) (by simp) ?_;refine AllReadyIn.cons rfl (fun K hK=>?_) ?_
       ·go_simp
        refine hK _ _ ?_;clear hK K;refine wpAnyIn_done (by kernel_rfl) ?_ _;exact⟨rfl,hkk4,hR4⟩
       exact AllReadyIn.nil
      exact AllReadyIn.nil
     exact AllReadyIn.nil
    refine AllReadyIn.cons rfl (fun K hK=>?_) ?_
    ·go_simp
     refine⟨trivial,rfl,?_⟩;refine CallsIn.mono hcall ?_;rintro e W3 ⟨la,ln,lc,rfl,hln,hlo,hlb⟩;obtain⟨ra,rn,rc,W4,hrn,hf4,hc4,hkk4,hR4⟩:=happ W3 la ln lc hlb hln hlo;have hc3:=hcs W3 hlb;clear hln hlo hlb;dsimp only;refine hK _ _ ?_;clear hK K;refine wpAnyIn_ready (rs:=[0]) (by kernel_rfl) (by simp) ?_;refine AllReadyIn.cons rfl (fun K hK=>?_) ?_
     ·go_simp
      refine hK _ _ ?_;clear hK K;refine wpAnyIn_ready (rs:=[4]) (by kernel_rfl) (by simp) ?_;refine AllReadyIn.cons rfl (fun K hK=>?_) ?_
      ·rw [if_pos (by rfl)];refine cG _ _ _ rfl rfl rfl hrn ?_;clear hrn
       go_simp
       refine hK _ _ ?_;clear hK K;refine wpAnyIn_ready (rs:=[5]) (by kernel_rfl) (by simp) ?_;refine AllReadyIn.cons rfl (fun K hK=>?_) ?_
       ·go_simp
        refine hK _ _ ?_;clear hK K;refine wpAnyIn_done (by kernel_rfl) ?_ _;exact⟨rfl,hkk4,hR4⟩
       exact AllReadyIn.nil
      exact AllReadyIn.nil
     exact AllReadyIn.nil
    exact AllReadyIn.nil
   exact AllReadyIn.nil
  refine AllReadyIn.cons rfl (fun K hK=>?_) ?_
  ·go_simp
   refine hK _ _ ?_;clear hK K;refine wpAnyIn_ready (rs:=[0,1]) (by kernel_rfl) (by simp) ?_;refine AllReadyIn.cons rfl (fun K hK=>?_) ?_
   ·go_simp
    refine hK _ _ ?_;clear hK K;refine wpAnyIn_ready (rs:=[1]) (by kernel_rfl) (by simp) ?_;refine AllReadyIn.cons rfl (fun K hK=>?_) ?_
    ·go_simp
     refine hK _ _ ?_;clear hK K;refine wpAnyIn_ready (rs:=[3]) (by kernel_rfl) (by simp) ?_;refine AllReadyIn.cons rfl (fun K hK=>?_) ?_
     ·go_simp
      refine⟨trivial,rfl,?_⟩;refine CallsIn.mono hcall ?_;rintro e W3 ⟨la,ln,lc,rfl,hln,hlo,hlb⟩;obtain⟨ra,rn,rc,W4,hrn,hf4,hc4,hkk4,hR4⟩:=happ W3 la ln lc hlb hln hlo;have hc3:=hcs W3 hlb;clear hln hlo hlb;dsimp only;refine hK _ _ ?_;clear hK K;refine wpAnyIn_ready (rs:=[4]) (by kernel_rfl) (by simp) ?_;refine AllReadyIn.cons rfl (fun K hK=>?_) ?_
      ·rw [if_pos (by rfl)];refine cG _ _ _ rfl rfl rfl hrn ?_;clear hrn
       go_simp
       refine hK _ _ ?_;clear hK K;refine wpAnyIn_ready (rs:=[5]) (by kernel_rfl) (by simp) ?_;refine AllReadyIn.cons rfl (fun K hK=>?_) ?_
       ·go_simp
        refine hK _ _ ?_;clear hK K;refine wpAnyIn_done (by kernel_rfl) ?_ _;exact⟨rfl,hkk4,hR4⟩
       exact AllReadyIn.nil
      exact AllReadyIn.nil
     exact AllReadyIn.nil
    exact AllReadyIn.nil
   refine AllReadyIn.cons rfl (fun K hK=>?_) ?_
   ·go_simp
    refine hK _ _ ?_;clear hK K;refine wpAnyIn_ready (rs:=[0,3]) (by kernel_rfl) (by simp) ?_;refine AllReadyIn.cons rfl (fun K hK=>?_) ?_
    ·go_simp
     refine hK _ _ ?_;clear hK K;refine wpAnyIn_ready (rs:=[3]) (by kernel_rfl) (by simp) ?_;refine AllReadyIn.cons rfl (fun K hK=>?_) ?_
     ·go_simp
      refine⟨trivial,rfl,?_⟩;refine CallsIn.mono hcall ?_;rintro e W3 ⟨la,ln,lc,rfl,hln,hlo,hlb⟩;obtain⟨ra,rn,rc,W4,hrn,hf4,hc4,hkk4,hR4⟩:=happ W3 la ln lc hlb hln hlo;have hc3:=hcs W3 hlb;clear hln hlo hlb;dsimp only;refine hK _ _ ?_;clear hK K;refine wpAnyIn_ready (rs:=[4]) (by kernel_rfl) (by simp) ?_;refine AllReadyIn.cons rfl (fun K hK=>?_) ?_
      ·rw [if_pos (by rfl)];refine cG _ _ _ rfl rfl rfl hrn ?_;clear hrn
       go_simp
       refine hK _ _ ?_;clear hK K;refine wpAnyIn_ready (rs:=[5]) (by kernel_rfl) (by simp) ?_;refine AllReadyIn.cons rfl (fun K hK=>?_) ?_
       ·go_simp
        refine hK _ _ ?_;clear hK K;refine wpAnyIn_done (by kernel_rfl) ?_ _;exact⟨rfl,hkk4,hR4⟩
       exact AllReadyIn.nil
      exact AllReadyIn.nil
     exact AllReadyIn.nil
    refine AllReadyIn.cons rfl (fun K hK=>?_) ?_
    ·go_simp
     refine⟨trivial,rfl,?_⟩;refine CallsIn.mono hcall ?_;rintro e W3 ⟨la,ln,lc,rfl,hln,hlo,hlb⟩;obtain⟨ra,rn,rc,W4,hrn,hf4,hc4,hkk4,hR4⟩:=happ W3 la ln lc hlb hln hlo;have hc3:=hcs W3 hlb;clear hln hlo hlb;dsimp only;refine hK _ _ ?_;clear hK K;refine wpAnyIn_ready (rs:=[0]) (by kernel_rfl) (by simp) ?_;refine AllReadyIn.cons rfl (fun K hK=>?_) ?_
     ·go_simp
      refine hK _ _ ?_;clear hK K;refine wpAnyIn_ready (rs:=[4]) (by kernel_rfl) (by simp) ?_;refine AllReadyIn.cons rfl (fun K hK=>?_) ?_
      ·rw [if_pos (by rfl)];refine cG _ _ _ rfl rfl rfl hrn ?_;clear hrn
       go_simp
       refine hK _ _ ?_;clear hK K;refine wpAnyIn_ready (rs:=[5]) (by kernel_rfl) (by simp) ?_;refine AllReadyIn.cons rfl (fun K hK=>?_) ?_
       ·go_simp
        refine hK _ _ ?_;clear hK K;refine wpAnyIn_done (by kernel_rfl) ?_ _;exact⟨rfl,hkk4,hR4⟩
       exact AllReadyIn.nil
      exact AllReadyIn.nil
     exact AllReadyIn.nil
    exact AllReadyIn.nil
   exact AllReadyIn.nil
  exact AllReadyIn.nil
 case done=>
  intro D y W hD hy hR hK;obtain⟨ys,⟨oa,on,oc⟩,hb,ho,he⟩:=hR.out;have hc1:W.cell? ⟨w.heap.size+1,0,none⟩=some (.slice oa on oc):=hb.cell
  gi_wp2
  refine⟨by simp,.inl ⟨_,_,rfl,run_takeDeferred hK,?_⟩⟩;refine⟨_,results_tmp rfl _ _ _,?_⟩;have hnil:Z.drop y.1= []:=List.eq_nil_of_length_eq_zero (by rw [←hR.len];exact hy);rw [hnil]at he;have he:ys=(aK s T).encode Z:=by rw [←he];exact(List.append_nil ys).symm
  subst he;exact⟨⟨oa,on,oc⟩,rfl,(Rw.of_own (s:=⟨oa,on,oc⟩) ho (fun _=>rfl) (by decide)).2,ownsRow_putObj ho _ hK rfl,hR.le.trans ((Below.refl _ W).grown (grownBy_putObj' W D _) hR.le.size (fun j e=>by cases e;omega))⟩
theorem H0 {P:Program} (a b:Int) (ts:Array TypeId) (t:TypeId) (w:World):(Builtin.min_ ts t #[.int .i64 a,.int .i64 b]).run P w= .ok (.int .i64 (if b<a then b else a)) w:=by
 simp [Builtin.min_,Builtin.min2]
def iZ (xs:List (Int×Bs)) (t:Bs):Nat→Option Nat
 |0=>none
 |n+1=>match(xs.map (·.2)).idxOf? (t.take (n+1))with
  |some i=>some i
  |none=>iZ xs t n
def eF (xs:List (Int×Bs)) (t:Bs):Option Nat:=iZ xs t (min (eQ xs) t.length).toNat
theorem E7 {l:List Bs} {k:Bs} {i:Nat} (h:l.idxOf? k=some i):∃hi:i<l.length,l[i]=k:=by
 unfold List.idxOf? at h;obtain⟨hi,hp,_⟩:=List.findIdx?_eq_some_iff_getElem.1 h;exact⟨hi,by simpa using hp⟩
theorem lG {xs:List (Int×Bs)} {t:Bs}:∀ {n:Nat} {i:Nat},iZ xs t n=some i→∃(hi:i<xs.length) (k:Nat),1≤k∧k≤n∧(xs[i]).2=t.take k
 |n+1,i,h=>by
  unfold iZ at h;cases hx:(xs.map (·.2)).idxOf? (t.take (n+1))with
  |some j=>
   rw [hx]at h;cases h;obtain⟨hi,he⟩:=E7 hx;rw [List.length_map]at hi;rw [List.getElem_map]at he;exact⟨hi,n+1,by omega,Nat.le_refl _,he⟩
  |none=>
   rw [hx]at h;obtain⟨hi,k,h1,h2,h3⟩:=lG (n:=n) h;exact⟨hi,k,h1,by omega,h3⟩
theorem ue {xs:List (Int×Bs)} {b:UInt8} {r:Bs} (hf:gB xs b.toNat=false):∀n,iZ xs (b::r) n=none
 |0=>rfl
 |n+1=>by
  cases h:iZ xs (b::r) (n+1)with
  |none=>rfl
  |some i=>
   exfalso;obtain⟨hi,k,h1,_,h3⟩:=lG h;have:gB xs b.toNat=true:=by
    unfold gB;rw [List.any_eq_true];refine⟨xs[i],List.getElem_mem hi,?_⟩;rw [h3];obtain⟨m,rfl⟩:∃m,k=m+1:=⟨k-1,by omega⟩;simp
   rw [hf]at this;cases this
def LM:Option Nat→Value
 |none=>.tuple #[.int .i64 0,.bool false]
 |some i=>.tuple #[.int .i64 (-1- (i:Int)),.bool true]
theorem vc (xs:List (Int×Bs)):0≤eQ xs:=by
 unfold eQ;have:∀(l:List (Int×Bs)) (n:Int),0≤n→0≤l.foldl (fun n x=>if(x.2.length:Int)>n then(x.2.length:Int)else n) n:=by
  intro l;induction l with
  |nil=>exact fun n h=>h
  |cons x l ih=>
   intro n h;rw [List.foldl_cons];refine ih _ ?_;split<;>omega
 exact this xs 0 (Int.le_refl _)
theorem yB (w:World) (p:Nat) (xs:List (Int×Bs)) (h:nw w p xs) (hl:xs.length≤1000000) (t:Bs) (ht:t.length≤1000000000):
  CP 173 #[.pointer (some ⟨p,0,none⟩),.string (str t)] w fun e w'=>e= .returned (LM (eF xs t))∧Below w.heap.size w w':=by
 refine aJ (Cc (some ⟨p,0,none⟩) (str t) w (fun u w'=>u=LM (eF xs t)∧Below w.heap.size w w') ?_) (by rintro v w' ⟨rfl,h⟩;exact⟨rfl,h⟩);intro w1 hw1;have b1:Below w.heap.size w w1:=by subst hw1;exact aO w
 cases t with
 |nil=>
  refine ac.no rfl (ac.yes (by simp [str]) ⟨?_,b1⟩);have:eF xs []=none:=by
   unfold eF;have:=vc xs;rw [show(min (eQ xs) (([]:Bs).length:Int)).toNat=0 by simp;omega];rfl
  rw [this];rfl
 |cons b r=>
  have h1:=h.on b1;obtain⟨l,mi,mt,c,g1,g2,g3,g4,g5,g6⟩:=h1;have hb0:eu (str (b::r)) 0=(b.toNat:Int):=eU (b::r) 0 (by simp);have hb256:=b.toNat_lt;have hmn:=vc xs;refine ac.no rfl (ac.no ?_ ⟨by omega,by rw [aR];simp,af.mk _ rfl ?_⟩)
  ·rw [Bool.eq_false_iff];intro he;have:=(beq_iff_eq.1 he);simp [str]at this
  rw [hb0];refine⟨by omega,by omega,gB xs b.toNat,?_,ac.mk (fun hf=>?_) fun hf=>?_⟩
  ·rw [Addr.add_add,ai _ _ g1,show((b.toNat:Int)).toNat*1=b.toNat by omega];exact g2.first _ hb256
  ·have hf:gB xs b.toNat=false:=by simpa using hf
   rw [eF,ue hf];exact⟨rfl,b1⟩
  ·refine af.mk _ rfl ⟨_,by rw [ai _ _ g1];exact g2.most,?_⟩;obtain⟨M,hM⟩:∃M:Nat,M=(min (eQ xs) ((b::r).length:Int)).toNat:=⟨_,rfl⟩;have hMv:(if(((str (b::r)).size:Nat):Int) <eQ xs then(((str (b::r)).size:Nat):Int)else eQ xs)=(M:Int):=by
    rw [aR];split<;>omega
   refine⟨(M:Int),w1,by rw [←hMv];exact H0 _ _ _ _ _,?_⟩;intro I hI;have down:∀(n:Nat),n≤M→iZ xs (b::r) n=eF xs (b::r)→∀(q:World),Below w.heap.size w q→∀(y5:Bool) (y4:Int),I [.int .i64 (n:Int),.bool y5,.int .i64 y4] q:=by
    intro n;induction n with
    |zero=>
     intro hn he q hq y5 y4;refine hI _ _ _ q (ac.no (decide_eq_false (by omega)) ⟨?_,hq⟩);rw [←he];rfl
    |succ n ihn=>
     intro hn he q hq y5 y4;refine hI _ _ _ q (ac.yes (decide_eq_true (by omega)) ?_);intro q4 hq4;have b4:=ae hq (show Below q.heap.size q q4 by subst hq4;exact aO q);obtain⟨l,mi,mt,c,g1,g2,g3,g4,g5,g6⟩:=h.on b4;have hlk:=eS pB gw en g6 ((b::r).take (n+1));have hex:(str (b::r)).extract (0:Int).toNat (((n+1:Nat):Int)).toNat=str ((b::r).take (n+1)):=by
      rw [pC];rfl
     refine af.mk _ rfl ⟨_,by rw [ai _ _ g1];exact g2.c2,by omega,by omega,by rw [aR];omega,?_⟩;rw [hex];unfold iZ at he;rw [oY]at hlk;cases hx:(xs.map (·.2)).idxOf? ((b::r).take (n+1))with
     |some i=>
      rw [hx]at hlk he;obtain⟨hi,_⟩:=E7 hx;rw [List.length_map]at hi;refine⟨_,_,q4,hlk,ac.yes rfl ((mK i (by omega) q4).mono ?_)⟩;rintro e q6 ⟨rfl,hw⟩;subst q6;refine⟨_,rfl,?_,b4⟩;rw [←he];rfl
     |none=>
      rw [hx]at hlk he;exact⟨_,_,q4,hlk,ac.no rfl (Ar.nat n (by omega) (by omega) (ihn (by omega) he q4 b4 _ _))⟩
   exact down M (Nat.le_refl _) (by rw [hM];rfl) w1 b1 _ _
def lI (xs:List (Int×Bs)):Nat→Bs→List Int
 |0,_=>[]
 |_,[]=>[]
 |n+1,b::r=>match eF xs (b::r)with
  |none=>(b.toNat:Int)::lI xs n r
  |some i=>(-1- (i:Int))::lI xs n ((b::r).drop ((xs[i]?).map (·.2)|>.getD []).length)
def cM (xs:List (Int×Bs)) (t:Bs):List Int:=lI xs t.length t
theorem ku {xs:List (Int×Bs)} {t:Bs} {i:Nat} (h:eF xs t=some i):∃hi:i<xs.length,1≤(xs[i]).2.length∧(xs[i]).2<+:t:=by
 obtain⟨hi,k,h1,h2,h3⟩:=lG h;refine⟨hi,?_,by rw [h3];exact List.take_prefix _ _⟩;rw [h3,List.length_take];omega
theorem kL {xs:List (Int×Bs)}:∀ {n m:Nat} {t:Bs},t.length≤n→t.length≤m→lI xs n t=lI xs m t
 |0,0,_,_,_=>rfl
 |0,m+1,[],_,_=>rfl
 |n+1,0,[],_,_=>rfl
 |n+1,m+1,[],_,_=>rfl
 |0,m+1,b::r,h,_=>by simp at h
 |n+1,0,b::r,_,h=>by simp at h
 |n+1,m+1,b::r,h1,h2=>by
  unfold lI;have h1:r.length≤n:=by simpa using h1
  have h2:r.length≤m:=by simpa using h2
  cases hm:eF xs (b::r)with
  |none=>
   dsimp only;rw [kL h1 h2]
  |some i=>
   obtain⟨hi,hp,_⟩:=ku hm;dsimp only;rw [List.getElem?_eq_getElem hi];simp only [Option.map_some,Option.getD_some];have:((b::r).drop (xs[i]).2.length).length≤r.length:=by rw [List.length_drop];simp;omega
   rw [kL (n:=n) (m:=m) (by omega) (by omega)]
theorem p_ {xs:List (Int×Bs)} {b:UInt8} {r:Bs} (h:eF xs (b::r)=none):cM xs (b::r)=(b.toNat:Int)::cM xs r:=by
 unfold cM;rw [List.length_cons,lI,h]
theorem pL {xs:List (Int×Bs)} {b:UInt8} {r:Bs} {i:Nat} (h:eF xs (b::r)=some i) (hi:i<xs.length):cM xs (b::r)=(-1- (i:Int))::cM xs ((b::r).drop (xs[i]).2.length):=by
 unfold cM;rw [List.length_cons,lI,h];dsimp only;rw [List.getElem?_eq_getElem hi];simp only [Option.map_some,Option.getD_some];obtain⟨_,hp,_⟩:=ku h;rw [kL (m:=((b::r).drop (xs[i]).2.length).length) (by rw [List.length_drop];simp;omega) (Nat.le_refl _)]
theorem jL (xs:List (Int×Bs)):∀(n:Nat) (t:Bs),t.length≤n→(cM xs t).length≤t.length
 |_,[],_=>Nat.le_refl _
 |0,b::r,h=>by simp at h
 |n+1,b::r,h=>by
  have h:r.length≤n:=by simpa using h
  cases hm:eF xs (b::r)with
  |none=>
   rw [p_ hm];have:=jL xs n r h;simp;omega
  |some i=>
   obtain⟨hi,hp,_⟩:=ku hm;rw [pL hm hi];have hd:((b::r).drop (xs[i]).2.length).length≤r.length:=by rw [List.length_drop];simp;omega
   have:=jL xs n _ (by omega:((b::r).drop (xs[i]).2.length).length≤n);simp only [List.length_cons];omega
set_option maxHeartbeats 1000000 in
theorem tv (w:World) (p:Nat) (xs:List (Int×Bs)) (h:nw w p xs) (hl:xs.length≤1000000) (t:Bs) (ht:t.length≤1000000):
  CP 119 #[.pointer (some ⟨p,0,none⟩),.string (str t)] w fun e w'=>∃l:Sl,e= .returned l.v∧w'.ownsRow w.heap.size bh 1 l.v l.n ((cM xs t).flatMap ay)∧Below w.heap.size w w':=by
 refine aJ (yW (some ⟨p,0,none⟩) (str t) w (fun u w'=>∃l:Sl,u=l.v∧w'.ownsRow w.heap.size bh 1 l.v l.n ((cM xs t).flatMap ay)∧Below w.heap.size w w') ?_) (by rintro v w' ⟨l,rfl,h⟩;exact⟨l,rfl,h⟩);intro I hI;have loop:∀(d i:Nat) (f:Sl) (out:List Int) (q:World),t.length-i≤d→i≤t.length→out.length≤i→out++cM xs (t.drop i)=cM xs t→q.ownsRow w.heap.size bh 1 f.v f.n (out.flatMap ay)→Below w.heap.size w q→I [.int .i64 (i:Int),f.v] q:=by
  have fin:∀(i:Nat) (f:Sl) (out:List Int) (q:World),i=t.length→out++cM xs (t.drop i)=cM xs t→q.ownsRow w.heap.size bh 1 f.v f.n (out.flatMap ay)→Below w.heap.size w q→I [.int .i64 (i:Int),f.v] q:=by
   intro i f out q hi he ho hq;subst hi;rw [List.drop_length]at he;have he:out=cM xs t:=by rw [←he];exact(List.append_nil out).symm
   subst he;exact hI _ f.a f.n f.c q (ac.no (decide_eq_false (by rw [aR];omega)) ⟨f,rfl,ho,hq⟩)
  intro d;induction d with
  |zero=>
   intro i f out q hd hi hol he ho hq;exact fin i f out q (by omega) he ho hq
  |succ d ihd=>
   intro i f out q hd hi hol he ho hq;by_cases hlt:i=t.length
   ·exact fin i f out q hlt he ho hq
   have hlt:i<t.length:=by omega
   have hon:f.n=out.length:=(Rw.of_own ho (fun _=>rfl) (by decide)).2;have edrop:t.drop i=t[i]::t.drop (i+1):=List.drop_eq_getElem_cons hlt;refine hI _ f.a f.n f.c q (ac.yes (decide_eq_true (by rw [aR];omega)) ?_);intro J hJ;have hex:(str t).extract ((i:Int)).toNat ((((str t).size:Nat):Int)).toNat=str (t.drop i):=by
    rw [pC,aR];congr 1;rw [show((i:Int)).toNat=i by omega,show(((t.length:Nat):Int)).toNat=t.length by omega];exact List.take_of_length_le (by rw [List.length_drop];exact Nat.le_refl _)
   refine⟨by omega,by rw [aR];omega,by omega,?_⟩;rw [hex];refine(yB q p xs (h.on hq) hl (t.drop i) (by rw [List.length_drop];omega)).mono ?_;rintro e w3 ⟨rfl,b3⟩;have hq3:=ae hq b3;rw [edrop]at he⊢;cases hm:eF xs (t[i]::t.drop (i+1))with
   |none=>
    rw [p_ hm]at he;refine⟨_,_,rfl,ac.yes rfl ⟨by omega,by rw [aR];omega,?_⟩⟩;intro w4 hw4;have hbt:eu (str t) (i:Int)=((t[i]).toNat:Int):=eU t i hlt;have hb256:=(t[i]).toNat_lt;rw [hbt,di (by show(-9223372036854775808:Int)≤_;omega) (by show _≤(9223372036854775807:Int);omega)]at hw4;obtain⟨f',w5,e1,e2,e3,e4,_⟩:=eL.push (aF ho b3) ((t[i]).toNat:Int) hw4 rfl hq3.size (by omega) (by decide);exact⟨f'.a,f'.n,f'.c,w5,e2,Ar.nat (i+1) rfl (by omega) (hJ _ f'.a f'.n f'.c w5 (ihd (i+1) f' (out++ [((t[i]).toNat:Int)]) w5 (by omega) (by omega) (by rw [List.length_append];simp;omega) (by rw [List.append_assoc];exact he) e3 (e4 _ hq3)))⟩
   |some j=>
    obtain⟨hj,hp,hpre⟩:=ku hm;rw [pL hm hj]at he;refine⟨_,_,rfl,ac.no rfl ?_⟩;refine(oo w3 p xs (h.on hq3) hl (-1- (j:Int)) (by omega)).mono ?_;rintro e w6 ⟨rfl,b6⟩;have hq6:=ae hq3 b6;have hat:iz xs (-1- (j:Int))=some xs[j]:=by
     unfold iz;rw [if_pos (by omega),show(-1- (-1- (j:Int))).toNat=j by omega,List.getElem?_eq_getElem hj]
    rw [hat];refine⟨_,_,_,rfl,?_⟩;intro w7 hw7;refine aS [.int .i64 0,.string ⟨#[]⟩] [.int .i64 (xs[j]).1,.string (str (xs[j]).2)] rfl (by intro u hu;simp only [List.mem_cons,List.not_mem_nil,or_false]at hu;rcases hu with rfl |rfl<;>rfl) w7 hw7 ?_
    intro w8 x8 z8 b8;have hq8:=ae hq6 b8;intro w9 hw9;obtain⟨f',w10,e1,e2,e3,e4,e5⟩:=eL.push (aF (aF (aF ho b3) b6) b8) (-1- (j:Int)) hw9 rfl hq8.size (by omega) (by decide);have x10:w10.heap[w6.heap.size]? =some (.cells #[.int .i64 (xs[j]).1,.string (str (xs[j]).2)] 87 (0,0)):=by
     rw [e5 _ (Array.getElem?_eq_some_iff.1 x8).1 (fun e=>by
      have:=(cB (aF (aF ho b3) b6) _ e).2;omega)]
     exact x8
    have hple:=hpre.length_le;simp only [List.length_cons,List.length_drop]at hple;refine⟨f'.a,f'.n,f'.c,w10,e2,_,ai _ _ x10 1,Ar.nat (i+(xs[j]).2.length) (by rw [aR];omega) (by omega) (hJ _ f'.a f'.n f'.c w10 (ihd (i+(xs[j]).2.length) f' (out++ [-1- (j:Int)]) w10 (by omega) (by omega) (by rw [List.length_append];simp;omega) ?_ e3 (e4 _ hq8)))⟩;rw [List.append_assoc];rw [←edrop,List.drop_drop]at he;exact he
 have:=loop t.length 0 dZ [] w (by omega) (Nat.zero_le _) (Nat.le_refl _) rfl (cX _ _ _ _ ay) (Below.refl _ _);exact this
theorem vr (w:World) (A A2:Option Addr) (C C2:Nat) (xs ys:List Int) (hr:Rw ay 1 w A xs) (hr2:Rw ay 1 w A2 ys) (hl:xs.length≤1000000000):
  CP 52 #[.slice A xs.length C,.slice A2 ys.length C2] w fun e w'=>e= .returned (.bool (decide (xs=ys)))∧Below w.heap.size w w':=by
 refine aJ (Em A xs.length C A2 ys.length C2 w (fun u w'=>u= .bool (decide (xs=ys))∧Below w.heap.size w w') ?_) (by rintro v w' ⟨rfl,h⟩;exact⟨rfl,h⟩);refine ac.mk (fun hne=>⟨?_,Below.refl _ _⟩) fun heq=>?_
 ·have hne:¬(xs.length:Int)=(ys.length:Int):=by simpa using hne
  rw [decide_eq_false fun e=>hne (by rw [e])]
 ·have heq:(xs.length:Int)=(ys.length:Int):=by simpa using heq
  intro I hI;have key:=bj (α:=World) xs.length (fun i q=>(∀j,j<i→xs[j]? =ys[j]?)∧Below w.heap.size w q) (fun i q=>∀y4,I [.int .i64 (i:Int),.bool y4] q) w ⟨fun j hj=>absurd hj (Nat.not_lt_zero j),Below.refl _ _⟩ ?_ ?_
  ·exact key _
  ·rintro i hi ih q ⟨hs,hq⟩ y4;refine hI _ y4 q (ac.yes (decide_eq_true (by omega)) ?_);intro q1 hq1;have hq1':=ae hq (show Below q.heap.size q q1 by subst hq1;exact aO q);obtain⟨p1,hp1,c1⟩:=bQ (hr.on hq1') hi rfl;obtain⟨p2,hp2,c2⟩:=bQ (hr2.on hq1') (show i<ys.length by omega) rfl;refine af.mk p1 hp1 ⟨by omega,by omega,_,c1,af.mk p2 hp2 ⟨by omega,by omega,_,c2,ac.mk (fun h0=>⟨?_,hq1'⟩) fun h0=>?_⟩⟩
   ·have h0:¬xs[i]=ys[i]:=by simpa using h0
    rw [decide_eq_false fun e=>h0 (by subst e;rfl)]
   ·have h0:xs[i]=ys[i]:=by simpa using h0
    refine Ar.nat (i+1) rfl (by omega) (ih q1 ⟨fun j hj=>?_,hq1'⟩ _);by_cases e:j=i
    ·subst e;rw [List.getElem?_eq_getElem hi,List.getElem?_eq_getElem (by omega),h0]
    ·exact hs j (by omega)
  ·rintro q ⟨hs,hq⟩ y4;refine hI _ y4 q (ac.no (decide_eq_false (by omega)) ⟨?_,hq⟩);rw [decide_eq_true];apply List.ext_getElem?;intro j;by_cases hj:j<xs.length
   ·exact hs j hj
   ·rw [List.getElem?_eq_none_iff.2 (by omega),List.getElem?_eq_none_iff.2 (by omega)]
theorem Bl {n:Nat} (h1:¬n<10) (h2:n/10<10):Lib.itoa (n:Int)= [UInt8.ofNat (48+n/10),UInt8.ofNat (48+n%10)]:=by
 unfold Lib.itoa;rw [if_neg (by omega),show((n:Int)).toNat=n from Int.toNat_natCast n,iy h1,Lib.decDigits_one h2];rfl
theorem JK:Lib.itoa 48= [52,56]:=Bl (n:=48) (by decide) (by decide)
theorem Jn:Lib.itoa 57= [53,55]:=Bl (n:=57) (by decide) (by decide)
theorem Mp:Lib.itoa 1= [49]:=by
 unfold Lib.itoa;rw [if_neg (by decide),show(1:Int).toNat=1 from rfl,Lib.decDigits_one (by decide)];rfl
def sT:ak:={ranked:=true,tokens:=[[97,98],[97,98,99]],specials:=[(300,[60])],classes:=[(48,57,1)]}
def tT:Bs:=[118,111,99,97,98,32,114,97,110,107,115,10,116,111,107,101,110,32,54,49,54,50,10,116,111,107,101,110,32,54,49,54,50,54,51,10,115,112,101,99,105,97,108,32,51,48,48,32,51,99,10,99,108,97,115,115,32,52,56,32,53,55,32,49,10]
def TT:List aT:=bG++ [([97,98],(97,98)),([97,98,99],(256,99))]
theorem Dj:jU [60]= [51,99]∧jU [97,98]= [54,49,54,50]∧jU [97,98,99]= [54,49,54,50,54,51]:=by decide+kernel
theorem MG:sT.text=tT:=by
 unfold ak.text ak.lines ak.tail sT gp dQ ir iM;simp only [List.map_cons,List.map_nil,List.nil_append,List.append_nil,List.cons_append,GC,JK,Jn,Mp,Dj.1,Dj.2.1,Dj.2.2];decide+kernel
theorem Kh:sT.right=true:=by decide+kernel
theorem Jt:eN tT= .ok sT:=by rw [←MG];exact DV sT Kh
theorem JT:cC sT= .ok TT:=by
 have h:(match cC sT with | .ok t=>decide (t=TT) | .error _=>false)=true:=by decide+kernel
 cases hx:cC sT with
 |error q=>rw [hx]at h;cases h
 |ok t=>rw [hx]at h;rw [of_decide_eq_true h]
def bT:Bs:=[97,98,99,97,98,49,60]
def qu:List Int:=[257,256,49,300]
theorem Lc:cM sT.specials bT= [97,98,99,97,98,49, -1]:=by decide+kernel
theorem OF:(aK sT TT).encode [97,98,99,97,98,49, -1]=qu:=by decide+kernel
theorem Nn:(aK sT TT).Canon qu:=by decide+kernel
theorem Pz:(aK sT TT).Canon (qu.take 1):=by decide+kernel
theorem Nm:(aK sT TT).Canon (qu.take 2):=by decide+kernel
theorem OJ:(aK sT TT).Canon (qu.take 3):=by decide+kernel
theorem Kc:dz sT TT qu=(0,0):=by decide+kernel
theorem Gc {g:FuncId} {pre cap:Array Value} {args:List Value} {w:World} {R:Ending→World→Prop} (hg:gJ.fns g=true) (h:CP g (pre.toList++(args++cap.toList)).toArray w R):bE gJ (.func (.func g) pre cap) args w R:=by
 unfold bE;simp only [hg];exact h
theorem DW (w:World) (v:Nat) (c:Array Value) (tp bp mp:Nat) (h:ja w v c tp bp mp) (s:ak) (T:List aT) (x:aY) (hP:bW w s T x tp bp mp) (t:Bs) (ht:t.length≤4000) (hZ:∀y∈cM s.specials t,jR s y=true):
  CP 118 #[.pointer (some ⟨v,0,none⟩),.string (str t),.func (.func 119) #[.pointer (some ⟨mp,0,none⟩)] #[]] w fun e w'=>∃l:Sl,e= .returned (.tuple #[l.v,.int .i64 0])∧l.n=((aK s T).encode (cM s.specials t)).length∧w'.ownsRow w.heap.size bh 1 l.v l.n (((aK s T).encode (cM s.specials t)).flatMap ay)∧Below w.heap.size w w':=by
 refine aJ (A_ (some ⟨v,0,none⟩) (str t) (.func (.func 119) #[.pointer (some ⟨mp,0,none⟩)] #[]) w (fun u w'=>∃l:Sl,u= .tuple #[l.v,.int .i64 0]∧l.n=((aK s T).encode (cM s.specials t)).length∧w'.ownsRow w.heap.size bh 1 l.v l.n (((aK s T).encode (cM s.specials t)).flatMap ay)∧Below w.heap.size w w') ?_) (by rintro v w' ⟨l,rfl,h⟩;exact⟨l,rfl,h⟩);refine ac.no rfl (ac.no (by rw [aR];exact decide_eq_false (by omega)) ?_);refine Gc (by kernel_rfl) ?_;have hfew:=(dc hP.right).2.2.1;refine(tv w mp s.specials hP.marks hfew t (by omega)).mono ?_;rintro e w1 ⟨l,rfl,ho,b1⟩;have hn:=(Rw.of_own ho (fun _=>rfl) (by decide)).2;have hr:=(Rw.of_own ho (fun _=>rfl) (by decide)).1;have hle:=Kd ho;have hsh:=jL s.specials t.length t (Nat.le_refl _);refine⟨_,_,_,rfl,?_⟩;rw [hn];refine(yy w1 v c tp bp mp (h.on b1) s T x (hP.on b1) l.a l.c (cM s.specials t) hr (by omega) (by omega) hZ).mono ?_;rintro e w2 ⟨k,rfl,hk,hko,b2⟩;exact⟨_,_,_,rfl,k,rfl,hk,aX hko b1.size,ae b1 b2⟩
theorem uc (w:World) (v:Nat) (c:Array Value) (tp bp mp:Nat) (h:ja w v c tp bp mp) (s:ak) (T:List aT) (x:aY) (hP:bW w s T x tp bp mp) (t:Bs) (ht:t.length≤4000) (hZ:∀y∈cM s.specials t,jR s y=true):
  CP 57 #[.pointer (some ⟨v,0,none⟩),.string (str t)] w fun e w'=>∃l:Sl,e= .returned (.tuple #[l.v,.int .i64 0])∧l.n=((aK s T).encode (cM s.specials t)).length∧w'.ownsRow w.heap.size bh 1 l.v l.n (((aK s T).encode (cM s.specials t)).flatMap ay)∧Below w.heap.size w w':=by
 refine aJ (CY (some ⟨v,0,none⟩) (str t) w (fun u w'=>∃l:Sl,u= .tuple #[l.v,.int .i64 0]∧l.n=((aK s T).encode (cM s.specials t)).length∧w'.ownsRow w.heap.size bh 1 l.v l.n (((aK s T).encode (cM s.specials t)).flatMap ay)∧Below w.heap.size w w') ?_) (by rintro v w' ⟨l,rfl,h⟩;exact⟨l,rfl,h⟩);refine(eV h).mono ?_;rintro e w1 ⟨rfl,rfl⟩;refine⟨_,rfl,(DW w1 v c tp bp mp h s T x hP t ht hZ).mono ?_⟩;rintro e w2 ⟨l,rfl,hl⟩;exact⟨_,_,_,_,rfl,l,rfl,hl⟩
theorem Mz:∀y∈cM sT.specials bT,jR sT y=true:=by rw [Lc];decide+kernel
theorem od (w:World) (h:rY w):CP 12 #[] w fun e w'=>e= .returned (.bool true)∧Below w.heap.size w w':=by
 refine aN (D2 w) ?_;refine(ta tT w h).mono ?_;rintro e w1 ⟨u,rfl,b1,hp⟩;rw [if_neg (by decide),Jt]at hp;simp only [JT]at hp;obtain⟨v,rfl,hN⟩:=hp;have hvb:=hN.voc.2;have hvl:=hN.voc.1.lt;obtain⟨w0,x,tp,bp,mp,hR,_⟩:=hN;refine⟨_,_,_,rfl,(uc w1 v _ tp bp mp hR.vblk sT TT x hR.now bT (by decide) Mz).mono ?_⟩;rintro e w2 ⟨l,rfl,hl,ho,b2⟩;rw [Lc,OF]at hl ho;have hr:=(Rw.of_own ho (fun _=>rfl) (by decide)).1;have hV2:aW w2 v sT TT:=⟨_,_,_,_,_,_,_,_,hR.on b2⟩;have hne:qu≠ []→∀p,l.a=some p→p.block≠v:=fun _ p hp=>by
  have:=lU ho p hp;omega
 refine⟨_,_,_,_,rfl,?_⟩;rw [hl];refine(DM w2 v sT TT hV2 l.a l.c qu hr hne).mono ?_;rintro e w3 ⟨hV3,t3,hres⟩;obtain⟨_,_,o,ho',rfl⟩:=hres.resolve_left (fun h=>h.1 (by rw [Kc]));have hnone:o=none:=by
  cases o with
  |none=>rfl
  |some k=>exact absurd (show(aK sT TT).Canon (qu.take (k+1))from(match k,ho'.1 with |0,_=>Pz |1,_=>Nm |2,_=>OJ |3,_=>Nn)) ho'.2.2
 subst hnone;have hr3:=hr.touch t3 hne;have hb2:=ae b1 b2;have hb3:Below w.heap.size w w3:=hb2.trans (t3.below hvb hb2.size);refine⟨_,_,rfl,ac.yes rfl (ac.yes rfl ?_)⟩;intro w4 hw4;have b4:Below w3.heap.size w3 w4:=by subst hw4;exact ah _ _
 refine(vr w4 l.a (some (nb w3)) l.c 4 qu qu (hr3.on b4) (Mj w3 w4 qu _ rfl hw4) (by decide)).mono ?_;rintro e w5 ⟨rfl,b5⟩;exact⟨_,rfl,ac.yes (by simp) (ac.yes rfl ⟨rfl,ae (ae hb3 b4) b5⟩)⟩
set_option maxHeartbeats 1000000 in
theorem tN (w:World) (y:Gp) (ls:List Int) (cs:List (Int×Int×Int)) (js:List (Int×Int)) (xs:List (Int×Bs)) (h:xD w y ls cs js xs) (A1:Option Addr) (C1:Nat) (la:List Int) (hra:Rw ay 1 w A1 la) (A2:Option Addr) (C2:Nat) (lb:List Int) (hrb:Rw ay 1 w A2 lb) (hL:rY w):
  CP 3 #[y.v,.slice A1 la.length C1,.slice A2 lb.length C2] w fun e w'=>e= .returned (.bool true)∧Below w.heap.size w w':=by
 refine aJ (F6 y.l.a y.l.n y.l.c y.c.a y.c.n y.c.c y.j.a y.j.n y.j.c y.x.a y.x.n y.x.c A1 la.length C1 A2 lb.length C2 w (fun u w'=>u= .bool true∧Below w.heap.size w w') ?_) (by rintro v w' ⟨rfl,h⟩;exact⟨rfl,h⟩);intro w1 hw1;have hb1:Below w.heap.size w w1:=by subst hw1;exact ah _ _
 have l1:w1.heap[w.heap.size]? =some (.cells y.cells MM (0,0)):=by subst hw1;exact ap _ _
 refine⟨_,_,_,_,_,_,_,_,_,_,_,_,PT l1,?_⟩;refine(tS w1 y ls cs js xs (h.on hb1)).mono ?_;rintro e w2 ⟨c0,rfl,b2⟩;have hb2:=ae hb1 b2;have aw:∀ {q:World},Below w.heap.size w q→CP 12 #[] q fun e w'=>∃b:Bool,e= .returned (.bool b)∧(Value.bool b=Value.bool true∧Below w.heap.size w w'):=by
  intro q hq;refine(od q (hL.on hq)).mono ?_;rintro e w3 ⟨rfl,b3⟩;exact⟨true,rfl,rfl,ae hq b3⟩
 refine⟨c0,rfl,ac.mk (fun _=>aw hb2) fun _=>ac.mk (fun _=>aw hb2) fun ha30=>ac.mk (fun _=>aw hb2) fun hb30=>?_⟩;have ha30:=of_decide_eq_false ha30;have hb30:=of_decide_eq_false hb30;refine(od w2 (hL.on hb2)).mono ?_;rintro e w6 ⟨rfl,b6⟩;have hb6:=ae hb2 b6;refine⟨_,rfl,ac.no rfl ⟨_,_,_,_,_,_,_,_,_,_,_,_,PT (aj b6 (aj b2 l1)),?_⟩⟩;refine(Cz w6 y ls cs js xs (h.on hb6)).mono ?_;rintro e w8 ⟨u,rfl,v,r,s,T,rfl,hB8,hv,b8⟩;have hb8:=ae hb6 b8;refine⟨_,_,_,_,_,_,_,_,_,_,_,_,_,_,_,_,rfl,?_⟩;intro w9 hw9;refine aS (wM JV) (wM r) rfl (nv r) w9 hw9 ?_;intro w10 h10 hz10 b10;have hB:=hB8.on b10;have hb10:=ae hb8 b10;have hz6:=hb6.size;have hok:=hB.now.ok;have hVok:=hB.now.vok;have hvl:=hB8.voc.lt;have hwv:w.heap.size≤v:=Nat.le_trans hz6 hv;obtain⟨hl,hsq⟩:=Ix hB;refine(wN w10 v s T hB.voc hB.asc 1048576).mono ?_;rintro e w11 ⟨u,rfl,hV11,t11,hu⟩;rw [if_neg (by omega)]at hu;obtain⟨g,rfl,hG,hg⟩:=hu;have hb11:Below w.heap.size w w11:=hb10.trans (t11.below hwv hb10.size);have h11:=t11.held (by omega) h10;have hr11:=hB.rv w11 t11;have hrise:Ig s T:=lf hB.asc (by
  obtain⟨w0',x,tp,bp,mp,d,l,uses,hR⟩:=hB.voc;exact hR.now.ids)
 have hn:gN s T≤1006:=hl;have hmost:¬(((gN s T+2)*gN s T:Nat):Int)>1048576:=by
  have:(gN s T+2)*gN s T≤1008*1006:=Nat.mul_le_mul (by omega) hn;omega
 refine⟨_,_,rfl,(FN w11 g s T hG (by omega) hrise 1048576).mono ?_⟩;rintro e w12 ⟨b12,_,hu⟩;obtain⟨a,rfl,ha,hA⟩:=hu hmost;have hb12:=ae hb11 b12;have hM:(fK s T).Ok:=Hw (by omega);have hMn:(fK s T).n=gN s T:=rfl;have hMN:(fK s T).N=gN s T+2:=rfl;refine⟨_,_,rfl,ac.no rfl (ac.no rfl (ac.no rfl ?_))⟩;refine(CE w12 a g (fK s T) hA (by omega) (by omega)).mono ?_;rintro e w13 ⟨bb,f,rfl,hc,hLs,hA13,hbb,t13⟩;have b1113:Below w11.heap.size w11 w13:=b12.trans (t13.below ha b12.size);have hb13:=ae hb11 b1113;have h13:=aj b1113 h11;have hr13:=hr11.on b1113;have hG13:=hG.on b1113;have hLok:(Aut.least (fK s T) f).Ok:=Aut.least_ok hM hc.lt;have hLn:(Aut.least (fK s T) f).n=gN s T:=rfl;have hLN:(Aut.least (fK s T) f).N≤(fK s T).N:=Aut.met_few hM hc.lt _;refine⟨_,rfl,_,_,_,_,_,_,_,_,_,_,_,_,_,_,_,xH (x:=r) h13,?_⟩;refine(pP w13 r s T hr13 A1 C1 la (hra.on hb13) (by omega)).mono ?_;rintro e w14 ⟨rfl,b14⟩;have hb14:=ae hb13 b14;refine⟨_,rfl,ac.mk (fun _=>⟨rfl,hb14⟩) fun hna=>?_⟩;have hna:=mP (of_decide_eq_false hna);refine⟨_,_,_,_,_,_,_,_,_,_,_,_,_,_,_,xH (x:=r) (aj b14 h13),?_⟩;refine(pP w14 r s T (hr13.on b14) A2 C2 lb (hrb.on hb14) (by omega)).mono ?_;rintro e w15 ⟨rfl,b15⟩;have hb15:=ae hb14 b15;have b1315:=ae b14 b15;refine⟨_,rfl,ac.mk (fun _=>⟨rfl,hb15⟩) fun hnb=>?_⟩;have hnb:=mP (of_decide_eq_false hnb);have hA15:=hA13.on b1315;have hL15:=hLs.on b1315;have hG15:=hG13.on b1315;have s1:=vP hM hMn hc la 0 0 hna (Aut.Sim.zero hM f);have s2:=vP hM hMn hc lb 0 0 hnb (Aut.Sim.zero hM f);refine(iS w15 a g (fK s T) hA15 hM s T hG15 hMn A1 C1 la (hra.on hb15) (by omega) hna).mono ?_;rintro e w16 ⟨rfl,hp,rfl⟩;refine⟨_,_,rfl,(iS w16 a g (fK s T) hA15 hM s T hG15 hMn A2 C2 lb (hrb.on hb15) (by omega) hnb).mono ?_⟩;rintro e w17 ⟨rfl,hq,rfl⟩;refine⟨_,_,rfl,(iS w17 bb g _ hL15 hLok s T hG15 hLn A1 C1 la (hra.on hb15) (by omega) hna).mono ?_⟩;rintro e w18 ⟨rfl,hr,rfl⟩;refine⟨_,_,rfl,(iS w18 bb g _ hL15 hLok s T hG15 hLn A2 C2 lb (hrb.on hb15) (by omega) hnb).mono ?_⟩;rintro e w19 ⟨rfl,hs,rfl⟩;obtain⟨p,hpe⟩:∃p,pt (fK s T) s T 0 la=p:=⟨_,rfl⟩;obtain⟨q,hqe⟩:∃q,pt (fK s T) s T 0 lb=q:=⟨_,rfl⟩;obtain⟨x1,hre⟩:∃x,pt (Aut.least (fK s T) f) s T 0 la=x:=⟨_,rfl⟩;obtain⟨x2,hse⟩:∃x,pt (Aut.least (fK s T) f) s T 0 lb=x:=⟨_,rfl⟩;rw [hpe,hqe,hre,hse];rw [hpe]at hp s1;rw [hqe]at hq s2;rw [hre]at hr s1;rw [hse]at hs s2;refine⟨_,_,rfl,(tw w19 a g (fK s T) hA15 (by omega) (by omega) (p:Int) (q:Int)).mono ?_⟩;rintro e w20 ⟨b1,rfl,hk1,_,hA20,t20⟩;obtain⟨f1,hf1,hb1e⟩:=hk1 ⟨⟨by omega,by omega⟩,⟨by omega,by omega⟩⟩;have same:x1=x2↔f1 p=f1 q:=(Ew hM s1 s2).trans (HX hc hf1 hp hq);obtain⟨o0,hW⟩:=hA15;obtain⟨ca,hca⟩:=hW.typed;have hne:bb≠a:=by
  obtain⟨o1,hW1⟩:=hA;obtain⟨ca1,hca1⟩:=hW1.typed;have:=(Array.getElem?_eq_some_iff.1 hca1).1;omega
 have hL20:=hL15.touch hca t20 hne (by decide) (by decide) (by decide);have haw:w.heap.size≤a:=Nat.le_trans hb11.size ha;have hb20:Below w.heap.size w w20:=hb15.trans (t20.below haw hb15.size);refine⟨_,rfl,ac.yes ?_ ?_⟩
 ·rw [hb1e,Int.toNat_natCast,Int.toNat_natCast,beq_iff_eq,Bool.eq_iff_iff,beq_iff_eq,decide_eq_true_eq, ←same];omega
 refine(tw w20 bb g _ hL20 (by omega) (by omega) (x1:Int) (x2:Int)).mono ?_;rintro e w21 ⟨b2',rfl,hk2,_,hL21,t21⟩;obtain⟨f2,hf2,hb2e⟩:=hk2 ⟨⟨by omega,by omega⟩,⟨by omega,by omega⟩⟩;obtain⟨o2,hW2⟩:=hL20;obtain⟨cb,hcb⟩:=hW2.typed;have hA21:=hA20.touch hcb t21 (Ne.symm hne) (by decide) (by decide) (by decide);have hbw:w.heap.size≤bb:=by have:=hb12.size;omega
 have hb21:Below w.heap.size w w21:=hb20.trans (t21.below hbw hb20.size);refine⟨_,rfl,ac.yes ?_ ?_⟩
 ·rw [hb2e,Int.toNat_natCast,Int.toNat_natCast,beq_iff_eq,Bool.eq_iff_iff,beq_iff_eq,decide_eq_true_eq];constructor
  ·intro e;rw [Aut.least_cls hM hc hf2 hr hs e]
  ·intro e;rw [show x1=x2 by omega]
 refine(sP w21 a g _ hA21 (p:Int)).mono ?_;rintro e w22 ⟨rfl,rfl⟩;refine⟨_,rfl,(sP w22 bb g _ hL21 (x1:Int)).mono ?_⟩;rintro e w23 ⟨rfl,rfl⟩;refine⟨_,rfl,ac.yes ?_ ((jV w23 bb g _ hL21).mono ?_)⟩
 ·rw [beq_iff_eq,decide_eq_true ⟨by omega,by omega⟩,decide_eq_true ⟨by omega,by omega⟩,Bool.true_and,Bool.true_and,Int.toNat_natCast,Int.toNat_natCast];exact(s1.good hM hc).symm
 rintro e w24 ⟨rfl,rfl⟩;refine⟨_,rfl,(jV w24 a g _ hA21).mono ?_⟩;rintro e w25 ⟨rfl,rfl⟩;exact⟨_,rfl,by rw [decide_eq_true (by omega)],hb21⟩
open Go Go.Value
variable {w0 q q':World} {d v:Nat} {s:ak} {T:List aT} {last:Sl} {lst:List Int} {cnt off:Int}
section
variable {w0 q:World} {d v:Nat} {s:ak} {T:List aT} {all:List Int} {o:Option Nat} {last:Sl}
end
open Go Go.RowKit Go.ChangeShapes Go.WideShapes
section
variable {H:Type} {enc0:TypeId×Value→H} {w:World} {base:Nat} {spare:Nat→Bool} {held:Bool}
end
end Go.Proofs.YtijbcdiffjjefaaGreatDoor.Eng
