/- Sifted out of this repo's own templates by tool/sift.py. -/
import Derived.Test.YtijbcdiffjjefaaGreatDoorZtRw
import Derived.Test.YtijbcdiffjjefaaGreatDoorZtSh
import Derived.Below
import Derived.Lib.SplitLaws
import Derived.Lib.CountLaws
import Derived.Lib.Split
import Derived.Lib.Join
import Derived.Lib.ItoaNum
import Derived.Lib.AtoiAll
import Derived.Lib.ItoaMem
import Derived.Laws.MakeOwn
import Derived.Lib.AppendIntMem
import Derived.Lib.AtoiErrMem
import Derived.Lib.AppendStr
import Derived.Shelf.Strings.Builder1
set_option linter.unusedVariables false
set_option linter.unusedSimpArgs false
set_option maxRecDepth 100000
namespace Go.Proofs.YtijbcdiffjjefaaGreatDoor.Eng
open Go Go.RowKit Go.ChangeShapes Go.WideShapes
def mh (b:UInt8):Option Nat:=
 if 48≤b.toNat∧b.toNat≤57 then some (b.toNat-48)else if 97≤b.toNat∧b.toNat≤102 then some (b.toNat-87)else none
def pairs:List UInt8→Option (List UInt8)
 | []=>some []
 | [_]=>none
 |a::b::l=>match mh a,mh b,pairs l with
  |some x,some y,some r=>some (UInt8.ofNat (16*x+y)::r)
  |_,_,_=>none
def bW (l:List UInt8):Option (List UInt8):=if l= [45]then some []else if l= []then none else pairs l
theorem u6 {p:UInt8→Prop} (h:∀n:Fin 256,p (UInt8.ofNat n.val)) (b:UInt8):p b:=by
 have:=h ⟨b.toNat,b.toNat_lt⟩;simpa using this
theorem kf:∀b n,mh b=some n→n<16:=by
 intro b n h;unfold mh at h;split at h
 ·cases h;omega
 ·split at h
  ·cases h;omega
  ·cases h
theorem sd:∀n:Fin 16,mh (hx n.val)=some n.val:=by decide
theorem vL (n:Nat) (h:n<16):mh (hx n)=some n:=sd ⟨n,h⟩
theorem rY:∀n:Fin 256,∀k:Fin 16,mh (UInt8.ofNat n.val)=some k.val→hx k.val=UInt8.ofNat n.val:=by decide+kernel
theorem u7 (b:UInt8) (n:Nat) (h:mh b=some n):hx n=b:=
 u6 (p:=fun b=>∀n,mh b=some n→hx n=b) (fun k n h=>rY k ⟨n,kf _ n h⟩ h) b n h
theorem jM (l:List UInt8):(cL l).length=2*l.length:=by
 induction l with
 |nil=>rfl
 |cons b l ih=>simp [cL,ih];omega
theorem tL (l:List UInt8):pairs (cL l)=some l:=by
 induction l with
 |nil=>rfl
 |cons b l ih=>
  have hb:=b.toNat_lt;simp only [cL,pairs,vL _ (show b.toNat/16<16 by omega),vL _ (show b.toNat%16<16 by omega),ih];rw [Nat.div_add_mod b.toNat 16];simp
theorem tc (n:Nat):∀(l:List UInt8),l.length≤n→∀r,pairs l=some r→cL r=l:=by
 induction n with
 |zero=>
  intro l hl r h;cases l with
  |nil=>simp [pairs]at h;subst h;rfl
  |cons a l=>simp at hl
 |succ n ih=>
  intro l hl r h
  match l,hl,h with
  | [],_,h=>simp [pairs]at h;subst h;rfl
  | [_],_,h=>simp [pairs]at h
  |a::b::l,hl,h=>
   simp only [pairs]at h;split at h
   ·rename_i x y r' hx' hy hr;cases h;have h1:=kf _ _ hx';have h2:=kf _ _ hy;have hval:(UInt8.ofNat (16*x+y)).toNat=16*x+y:=by simp;omega
    simp only [cL,hval];rw [show(16*x+y)/16=x by omega,show(16*x+y)%16=y by omega,u7 _ _ hx',u7 _ _ hy,ih l (by simp at hl;omega) _ hr]
   ·cases h
theorem mC (l:List UInt8):bW (fR l)=some l:=by
 unfold fR;split
 ·rename_i h;subst h;rfl
 ·rename_i h;have hlen:=jM l;unfold bW;rw [if_neg,if_neg,tL]
  ·intro e;rw [e]at hlen;simp at hlen;exact h (List.eq_nil_of_length_eq_zero (by omega))
  ·intro e;rw [e]at hlen;simp at hlen;omega
theorem f8 (l r:List UInt8) (h:bW l=some r):fR r=l:=by
 unfold bW at h;split at h
 ·rename_i e;subst e;cases h;rfl
 ·rename_i e;split at h
  ·cases h
  ·rename_i e2;have hb:=tc l.length l (Nat.le_refl _) r h;unfold fR;rw [if_neg,hb];intro e3;subst e3;exact e2 hb.symm
def ax (c:UInt8):List UInt8→List (List UInt8)
 | []=>[[]]
 |b::l=>if b=c then []::ax c l else match ax c l with
  |h::t=>(b::h)::t
  | []=>[[b]]
theorem dO (c:UInt8) (l:List UInt8):ax c l≠ []:=by
 cases l with
 |nil=>simp [ax]
 |cons b l=>
  simp only [ax];split
  ·simp
  ·split<;>simp
theorem ka (c b:UInt8) (l:List UInt8):Lib.index (b::l) [c]=if b=c then 0 else if Lib.index l [c]= -1 then -1 else Lib.index l [c]+1:=by
 rw [Lib.index];by_cases h:b=c
 ·subst h;simp [List.isPrefixOf]
 ·have:¬c=b:=fun e=>h e.symm;simp [List.isPrefixOf,h,this]
theorem iT (c:UInt8):∀l,Lib.index l [c]= -1→ax c l= [l]
 | [],_=>rfl
 |b::l,h=>by
  rw [ka]at h;by_cases hb:b=c
  ·rw [if_pos hb]at h;omega
  ·rw [if_neg hb]at h;by_cases hi:Lib.index l [c]= -1
   ·simp only [ax,if_neg hb,iT c l hi]
   ·rw [if_neg hi]at h;have:=Lib.index_ge l [c];omega
theorem jN (c:UInt8):∀(l:List UInt8) (i:Nat),Lib.index l [c]=i→ax c l=l.take i::ax c (l.drop (i+1))
 | [],i,h=>by simp [Lib.index]at h
 |b::l,i,h=>by
  rw [ka]at h;by_cases hb:b=c
  ·rw [if_pos hb]at h;have:i=0:=by omega
   subst this;simp [ax,if_pos hb]
  ·rw [if_neg hb]at h;by_cases hi:Lib.index l [c]= -1
   ·rw [if_pos hi]at h;omega
   ·rw [if_neg hi]at h;have hg:=Lib.index_ge l [c];obtain⟨j,rfl⟩:∃j,i=j+1:=⟨i-1,by omega⟩;have:=jN c l j (by omega);simp only [ax,if_neg hb,this];simp
theorem jc (c:UInt8) (l:List UInt8):Lib.index l [c]= -1∨∃i:Nat,Lib.index l [c]=i∧i<l.length:=by
 have hg:=Lib.index_ge l [c];by_cases h:Lib.index l [c]= -1
 ·exact .inl h
 ·right;have:=Lib.index_room l [c] (by omega);refine⟨(Lib.index l [c]).toNat,by omega,?_⟩;simp at this;omega
theorem vk (c:UInt8) (l:List UInt8) (h:Lib.index l [c]= -1):Lib.cut l [c]=(l,[],false):=by
 unfold Lib.cut;rw [if_neg (by omega)]
theorem xH (c:UInt8) (l:List UInt8) (i:Nat) (h:Lib.index l [c]=i):Lib.cut l [c]=(l.take i,l.drop (i+1),true):=by
 unfold Lib.cut;rw [if_pos (by omega),h];simp
theorem qB (c:UInt8) (n:Nat):∀l:List UInt8,l.length≤n→Lib.splitK [c] 0 (Lib.count l [c]) l=ax c l:=by
 induction n with
 |zero=>
  intro l hl;have:l= []:=List.eq_nil_of_length_eq_zero (by omega);subst this;simp [ax,Lib.count_one,Lib.splitK]
 |succ n ih=>
  intro l hl;rcases jc c l with h |⟨i,h,hi⟩
  ·rw [Lib.count_miss h,iT c l h];simp [Lib.splitK]
  ·rw [Lib.count_hit (by simp) h,jN c l i h,Nat.add_comm];have:=ih (l.drop (i+1)) (by rw [List.length_drop];omega);simp only [Lib.splitK,h];rw [if_neg (by simp)];simp only [Int.toNat_natCast,Nat.add_zero,List.length_singleton,this]
theorem kI (c:UInt8) (s:ByteArray):(Lib.splitB ⟨#[c]⟩ 0 (Lib.countB s ⟨#[c]⟩) s).map (·.data.toList)=ax c s.data.toList:=by
 rw [Lib.splitB_data];exact qB c s.data.toList.length s.data.toList (Nat.le_refl _)
theorem pk (c:UInt8) (s:ByteArray):(ax c s.data.toList).length=Lib.countB s ⟨#[c]⟩+1:=by
 rw [←kI,List.length_map];exact Lib.splitB_all ⟨#[c]⟩ (show 1≤1 from Nat.le_refl 1) 0 _ s rfl
theorem qj (c:UInt8) (a r:List UInt8) (h:c∉a):ax c (a++c::r)=a::ax c r:=by
 induction a with
 |nil=>simp [ax]
 |cons b a ih=>
  have hb:¬b=c:=fun e=>h (by simp [e]);simp only [List.cons_append,ax,if_neg hb,ih (fun e=>h (by simp [e]))]
theorem tV (c:UInt8) (a:List UInt8) (h:c∉a):ax c a= [a]:=by
 induction a with
 |nil=>rfl
 |cons b a ih=>
  have hb:¬b=c:=fun e=>h (by simp [e]);simp only [ax,if_neg hb,ih (fun e=>h (by simp [e]))]
def rf (b:UInt8):Prop:=48≤b.toNat∧b.toNat≤57
def eQ (n:Nat) (l:List UInt8):Nat:=l.foldl step n
theorem wj (n:Nat):eQ n []=n:=rfl
theorem iR (n:Nat) (b:UInt8) (r:List UInt8):eQ n (b::r)=eQ (step n b) r:=by unfold eQ;rw [List.foldl_cons]
theorem kE (n:Nat) (b:UInt8):eQ n [b]=step n b:=rfl
def mO (l:List UInt8):Prop:=l≠ []∧(∀b∈l,rf b)∧(1<l.length→l.head?≠some 48)
def nW:Nat:=9223372036854775807
theorem jt (a b:List UInt8) (n:Nat):eQ n (a++b)=eQ (eQ n a) b:=List.foldl_append
theorem s7 (l:List UInt8):∀n,n≤eQ n l:=by
 induction l with
 |nil=>intro n;exact Nat.le_refl _
 |cons b l ih=>intro n;rw [iR];exact Nat.le_trans (by unfold step;omega) (ih _)
theorem lp (d:Nat) (h:d<10):(UInt8.ofNat (48+d)).toNat=48+d:=by simp;omega
theorem vd (b:UInt8) (h:rf b):UInt8.ofNat (48+(b.toNat-48))=b:=by
 unfold rf at h;rw [show 48+(b.toNat-48)=b.toNat by omega];simp
theorem oX (u:Nat):eQ 0 (Lib.decDigits u)=u:=by
 induction u using Nat.strongRecOn with
 |_ u ih=>
  rw [Lib.decDigits];split
  ·rename_i h;rw [kE,step,lp u h];omega
  ·rename_i h;rw [jt,ih (u/10) (by omega)];rw [kE,step,lp (u%10) (by omega)];omega
theorem sf (u:Nat):Lib.decDigits u≠ []:=by
 rw [Lib.decDigits];split<;>simp
theorem dp (u:Nat):∀b∈Lib.decDigits u,rf b:=by
 induction u using Nat.strongRecOn with
 |_ u ih=>
  rw [Lib.decDigits];split
  ·rename_i h;intro b hb;simp only [List.mem_singleton]at hb;subst hb;unfold rf;rw [lp u h];omega
  ·rename_i h;intro b hb;rcases List.mem_append.1 hb with hb |hb
   ·exact ih (u/10) (by omega) b hb
   ·simp only [List.mem_singleton]at hb;subst hb;unfold rf;rw [lp (u%10) (by omega)];omega
theorem wh (u:Nat):u≠0→(Lib.decDigits u).head?≠some 48:=by
 induction u using Nat.strongRecOn with
 |_ u ih=>
  intro h0;rw [Lib.decDigits];split
  ·rename_i h;intro e;simp only [List.head?_cons,Option.some.injEq]at e;have:=congrArg UInt8.toNat e;rw [lp u h]at this;simp at this;omega
  ·rename_i h;have hne:=sf (u/10);have:=ih (u/10) (by omega) (by omega);cases hd:Lib.decDigits (u/10)with
   |nil=>exact absurd hd hne
   |cons x xs=>rw [hd]at this;simpa using this
theorem pL (u:Nat):mO (Lib.decDigits u):=by
 refine⟨sf u,dp u,fun h=>?_⟩;by_cases h0:u=0
 ·subst h0;rw [Lib.decDigits]at h;simp at h
 ·exact wh u h0
theorem jr (n:Nat):∀l:List UInt8,l.length≤n→mO l→Lib.decDigits (eQ 0 l)=l:=by
 induction n with
 |zero=>intro l hl h;exact absurd (List.eq_nil_of_length_eq_zero (by omega)) h.1
 |succ n ih=>
  intro l hl h;obtain⟨l',b,rfl⟩:∃l' b,l=l'++ [b]:=⟨l.dropLast,l.getLast h.1,(List.dropLast_concat_getLast h.1).symm⟩;have hb:rf b:=h.2.1 b (by simp);have hb':=hb;unfold rf at hb';rw [jt,kE,step];cases hl':l' with
  |nil=>
   rw [wj];rw [Lib.decDigits_one (show 10*0+(b.toNat-48) <10 by omega),show 48+(10*0+(b.toNat-48))=48+(b.toNat-48) by omega,vd b hb];rfl
  |cons x t=>
   rw [←hl'];have hx:l'.head?≠some 48:=by
    have:=h.2.2 (by rw [hl'];simp);rw [hl']at this⊢;simpa using this
   have hxd:rf x:=h.2.1 x (by rw [hl'];simp);have hm:1≤eQ 0 l':=by
    rw [hl']at hx⊢;rw [iR];refine Nat.le_trans ?_ (s7 t _);unfold step;have hx48:x.toNat≠48:=by
     intro e;apply hx;simp only [List.head?_cons,Option.some.injEq];exact UInt8.toNat_inj.1 e
    unfold rf at hxd;omega
   have hrec:=ih l' (by simp at hl;omega) ⟨by rw [hl'];simp,fun c hc=>h.2.1 c (by simp [hc]),fun _=>hx⟩;rw [Lib.decDigits,dif_neg (by omega),show(10*eQ 0 l'+(b.toNat-48))/10=eQ 0 l' by omega,hrec,show(10*eQ 0 l'+(b.toNat-48))%10=b.toNat-48 by omega,vd b hb]
theorem nD (l:List UInt8):∀acc,(∀b∈l,rf b)→eQ acc l<18446744073709551616→Lib.parseUint10 acc l= .ok (eQ acc l):=by
 induction l with
 |nil=>intro acc _ _;rfl
 |cons b l ih=>
  intro acc hd hv;have hb:=hd b (by simp);unfold rf at hb;rw [iR]at hv⊢;have hge:=Nat.lt_of_le_of_lt (s7 l (step acc b)) hv;have hrec:=ih (step acc b) (fun c hc=>hd c (by simp [hc])) hv;unfold step at hge;rw [Lib.parseUint10,if_pos hb,if_neg (by omega),if_neg (by omega),show acc*10+(b.toNat-48)=step acc b by unfold step;omega];exact hrec
theorem il (u:Nat) (h:u≤nW):Lib.atoiAll (Lib.decDigits u)= .ok (u:Int):=by
 unfold nW at h;have hd:=dp u;have hv:=oX u;cases hl:Lib.decDigits u with
 |nil=>exact absurd hl (sf u)
 |cons c r=>
  have hc:rf c:=hd c (by rw [hl];simp);unfold rf at hc;have hp:Lib.parseMag (c::r)= .ok u:=by
   unfold Lib.parseMag;rw [if_neg (by simp), ←hl,nD _ 0 hd (by rw [hv];omega),hv]
  simp only [Lib.atoiAll];rw [if_neg (by omega),hp];simp only [];rw [if_neg (by omega),if_neg (by omega),if_neg (by omega)]
open Classical in
noncomputable def dn (l:List UInt8) (most:Int):Option Nat:=if mO l∧eQ 0 l≤nW∧(eQ 0 l:Int)≤most then some (eQ 0 l)else none
theorem jh (l:List UInt8) (most:Int) (u:Nat) (hu:u≤nW) (hm:(u:Int)≤most) (h:Lib.decDigits u=l):dn l most=some u:=by
 subst h;unfold dn;rw [oX,if_pos ⟨pL u,hu,hm⟩]
theorem pb (l:List UInt8) (most:Int) (h:∀u:Nat,u≤nW→(u:Int)≤most→Lib.decDigits u≠l):dn l most=none:=by
 unfold dn;rw [if_neg];rintro⟨h1,h2,h3⟩;exact h _ h2 h3 (jr l.length l (Nat.le_refl _) h1)
theorem gV (w:Bs):aZ [w]=w:=Lib.join_one w [32]
theorem ee (w x:Bs) (r:List Bs):aZ (w::x::r)=w++32::aZ (x::r):=by
 unfold aZ;rw [Lib.join_cons,Lib.join_cons];simp [Lib.joinTail]
theorem bH (ws:List Bs) (hne:ws≠ []) (h:∀w∈ws,32∉w):ax 32 (aZ ws)=ws:=by
 induction ws with
 |nil=>exact absurd rfl hne
 |cons w r ih=>
  cases r with
  |nil=>rw [gV];exact tV 32 w (h w (by simp))
  |cons x r=>
   rw [ee,qj 32 w _ (h w (by simp)),ih (by simp) (fun y hy=>h y (by simp [hy]))]
theorem dm (l:Bs):aZ (ax 32 l)=l:=by
 induction l with
 |nil=>rfl
 |cons b l ih=>
  simp only [ax];split
  ·rename_i hb;subst hb;cases hc:ax 32 l with
   |nil=>exact absurd hc (dO 32 l)
   |cons x r=>
    rw [ee, ←hc,ih];rfl
  ·cases hc:ax 32 l with
   |nil=>exact absurd hc (dO 32 l)
   |cons x r=>
    rw [hc]at ih;cases r with
    |nil=>rw [gV]at ih⊢;rw [ih]
    |cons y r=>rw [ee]at ih⊢;rw [List.cons_append,ih]
theorem rL (ls:List Bs) (h:∀l∈ls,10∉l):ax 10 (fS ls)=ls++ [[]]:=by
 induction ls with
 |nil=>rfl
 |cons l r ih=>
  have:fS (l::r)=l++10::fS r:=by simp [fS]
  rw [this,qj 10 l _ (h l (by simp)),ih (fun y hy=>h y (by simp [hy]))];rfl
theorem rh (t:Bs) (h:(ax 10 t).getLast?=some []):fS (ax 10 t).dropLast=t:=by
 induction t with
 |nil=>rfl
 |cons b t ih=>
  cases hc:ax 10 t with
  |nil=>exact absurd hc (dO 10 t)
  |cons x r=>
   simp only [ax,hc]at h⊢;rw [hc]at ih;split at h
   ·rename_i hb;subst hb;rw [if_pos rfl];rw [List.getLast?_cons_cons]at h;have:=ih h;rw [List.dropLast_cons_of_ne_nil (by simp)];simp only [fS,List.map_cons,List.flatten_cons]at this⊢;rw [this];rfl
   ·rename_i hb;rw [if_neg hb];cases r with
    |nil=>simp at h
    |cons y r=>
     rw [List.getLast?_cons_cons]at h;have:=ih (by rw [List.getLast?_cons_cons];exact h);rw [List.dropLast_cons_of_ne_nil (by simp)]at this⊢;simp only [fS,List.map_cons,List.flatten_cons,List.cons_append]at this⊢;rw [this]
theorem gg (c:UInt8) (l:Bs):∀w∈ax c l,c∉w:=by
 induction l with
 |nil=>intro w hw;simp [ax]at hw;subst hw;simp
 |cons b l ih=>
  intro w hw;simp only [ax]at hw;split at hw
  ·rcases List.mem_cons.1 hw with e |e
   ·subst e;simp
   ·exact ih w e
  ·rename_i hb;cases hc:ax c l with
   |nil=>exact absurd hc (dO c l)
   |cons x r=>
    rw [hc]at hw ih;rcases List.mem_cons.1 hw with e |e
    ·subst e;intro hm;rcases List.mem_cons.1 hm with e |e
     ·exact hb e.symm
     ·exact ih x (by simp) e
    ·exact ih w (by simp [e])
theorem gk (b:UInt8) (h:rf b):b≠32∧b≠10:=by
 unfold rf at h;constructor<;>(intro e;subst e;simp at h)
theorem bu (n:Int):32∉Lib.itoa n∧10∉Lib.itoa n:=by
 unfold Lib.itoa;split
 ·constructor
  ·intro h;rcases List.mem_cons.1 h with e |e
   ·cases e
   ·exact(gk _ (dp _ _ e)).1 rfl
  ·intro h;rcases List.mem_cons.1 h with e |e
   ·cases e
   ·exact(gk _ (dp _ _ e)).2 rfl
 ·exact⟨fun e=>(gk _ (dp _ _ e)).1 rfl,fun e=>(gk _ (dp _ _ e)).2 rfl⟩
theorem wI:∀n:Fin 16,hx n.val≠32∧hx n.val≠10:=by decide
theorem nr (l:Bs):32∉cL l∧10∉cL l:=by
 induction l with
 |nil=>simp [cL]
 |cons b l ih=>
  have hb:=b.toNat_lt;have h1:=wI ⟨b.toNat/16,by omega⟩;have h2:=wI ⟨b.toNat%16,by omega⟩;simp only [cL,List.mem_cons,not_or];exact⟨⟨fun e=>h1.1 e.symm,fun e=>h2.1 e.symm,ih.1⟩,⟨fun e=>h1.2 e.symm,fun e=>h2.2 e.symm,ih.2⟩⟩
theorem gp (l:Bs):32∉fR l∧10∉fR l:=by
 unfold fR;split
 ·decide
 ·exact nr l
abbrev co:Int:=1073741824
noncomputable def bY (w:Bs):Option Int:=(dn w co).map fun u=>(u:Int)
noncomputable def dj:List Bs→Option (Int×Int)
 | [a,b]=>match bY a,bY b with
  |some x,some y=>some (x,y)
  |_,_=>none
 |_=>none
noncomputable def ew:List Bs→Option (Int×Int×Int)
 | [a,b,c]=>match bY a,bY b,bY c with
  |some x,some y,some z=>some (x,y,z)
  |_,_,_=>none
 |_=>none
def lW:List Bs→Option Bs
 | [a]=>bW a
 |_=>none
noncomputable def dE:List Bs→Option (Int×Bs)
 | [a,b]=>match bY a,bW b with
  |some x,some y=>some (x,y)
  |_,_=>none
 |_=>none
noncomputable def gv (s:aj):List Bs→Option (aj×Nat)
 | []=>none
 |first::l=>
  if first=cP then
   (if l= [eZ]then some ({s with ranked:=true},0)else if l= [dz]then some ({s with ranked:=false},0)else none)
  else if first=wMerge then(dj l).map fun m=>({s with merges:=s.merges++ [m]},1)
  else if first=wToken then(lW l).map fun m=>({s with tokens:=s.tokens++ [m]},1)
  else if first=wSpecial then(dE l).map fun m=>({s with specials:=s.specials++ [m]},2)
  else if first=wClass then(ew l).map fun m=>({s with classes:=s.classes++ [m]},3)
  else if first=wJoin then(dj l).map fun m=>({s with joins:=s.joins++ [m]},4)
  else none
def eD (k n:Nat):Option (aj×Nat)→Option (aj×Nat)
 |none=>none
 |some (x,j)=>if(n=0↔j=0)∧k≤j∧x.right=true then some (x,j)else none
noncomputable def bo (s:aj) (k n:Nat) (line:Bs):Option (aj×Nat):=eD k n (gv s (ax 32 line))
noncomputable def bn (s:aj) (k n:Nat):List Bs→Except Nat (aj×Nat)
 | []=>.ok (s,k)
 |l::r=>match bo s k n l with
  |none=>.error (n+1)
  |some (x,j)=>bn x j (n+1) r
noncomputable def cu (t:Bs):Except Nat aj:=
 match bn {} 0 0 (ax 10 t).dropLast with
 | .error n=>.error n
 | .ok s=>if(ax 10 t).getLast?=some []∧(ax 10 t).dropLast≠ []then .ok s.1 else .error (ax 10 t).length
noncomputable def aL (l:List Bs) (i:Nat):Int:=match l[i]? with
 |some w=>(bY w).getD (-1)
 |none=> -1
def dc (l:List Bs) (i:Nat):Bs:=match l[i]? with
 |some w=>(bW w).getD []
 |none=>[]
noncomputable def fA (s:aj) (line:Bs) (l:List Bs):aj:=
 if l.head?=some cP then {s with ranked:=decide (line=dW true)}
 else if l.head?=some wMerge then {s with merges:=s.merges++ [(aL l 1,aL l 2)]}
 else if l.head?=some wToken then {s with tokens:=s.tokens++ [dc l 1]}
 else if l.head?=some wSpecial then {s with specials:=s.specials++ [(aL l 1,dc l 2)]}
 else if l.head?=some wClass then {s with classes:=s.classes++ [(aL l 1,aL l 2,aL l 3)]}
 else if l.head?=some wJoin then {s with joins:=s.joins++ [(aL l 1,aL l 2)]}
 else s
noncomputable def k8 (s:aj) (n:Nat) (line:Bs):Option aj:=
 if(fA s line (ax 32 line)).right=true∧(fA s line (ax 32 line)).lines.length=n+1∧(fA s line (ax 32 line)).lines[n]? =some line then some (fA s line (ax 32 line))else none
noncomputable def rt (s:aj) (n:Nat):List Bs→Except Nat aj
 | []=>.ok s
 |l::r=>match k8 s n l with
  |none=>.error (n+1)
  |some x=>rt x (n+1) r
theorem br {w:Bs} {x:Int} (h:bY w=some x):Lib.itoa x=w∧0≤x:=by
 unfold bY at h;obtain⟨u,hu,rfl⟩:=Option.map_eq_some_iff.1 h;unfold dn at hu;split at hu
 ·rename_i hc;cases hu;exact⟨by rw [Lib.itoa_nonneg];exact jr w.length w (Nat.le_refl _) hc.1,by omega⟩
 ·cases hu
theorem dU (u:Nat) (h:(u:Int)≤co):bY (Lib.itoa (u:Int))=some (u:Int):=by
 unfold bY;rw [Lib.itoa_nonneg,jh _ _ u (by unfold nW;unfold co at h;omega) h rfl];rfl
theorem dv {l:List Bs} {i:Nat} (h:0≤aL l i):∃w,l[i]? =some w∧bY w=some (aL l i):=by
 unfold aL at h⊢;split at h
 ·rename_i w hw;cases hn:bY w with
  |none=>rw [hn]at h;simp at h
  |some x=>exact⟨w,hw,by simp [hn]⟩
 ·omega
theorem jP {l:List Bs} {i:Nat} (h:dc l i≠ []):∃w,l[i]? =some w∧bW w=some (dc l i):=by
 unfold dc at h⊢;split at h
 ·rename_i w hw;cases hn:bW w with
  |none=>rw [hn]at h;simp at h
  |some x=>exact⟨w,hw,by simp [hn]⟩
 ·exact absurd rfl h
theorem eG {l:List Bs} {i:Nat} {w:Bs} {x:Int} (h:l[i]? =some w) (hx:bY w=some x):aL l i=x:=by
 unfold aL;rw [h];simp [hx]
theorem pW {l:List Bs} {i:Nat} {w x:Bs} (h:l[i]? =some w) (hx:bW w=some x):dc l i=x:=by
 unfold dc;rw [h];simp [hx]
theorem rT (m:Int×Int):ax 32 (dg m)= [wMerge,Lib.itoa m.1,Lib.itoa m.2]:=
 bH _ (by simp) (by intro w hw;simp at hw;rcases hw with rfl |rfl |rfl; ·decide
                            ·exact(bu _).1
                            ·exact(bu _).1)
theorem kP (t:Bs):ax 32 (dG t)= [wToken,fR t]:=
 bH _ (by simp) (by intro w hw;simp at hw;rcases hw with rfl |rfl; ·decide
                            ·exact(gp _).1)
theorem im (x:Int×Bs):ax 32 (bP x)= [wSpecial,Lib.itoa x.1,fR x.2]:=
 bH _ (by simp) (by intro w hw;simp at hw;rcases hw with rfl |rfl |rfl; ·decide
                            ·exact(bu _).1
                            ·exact(gp _).1)
theorem lB (c:Int×Int×Int):ax 32 (ez c)= [wClass,Lib.itoa c.1,Lib.itoa c.2.1,Lib.itoa c.2.2]:=
 bH _ (by simp) (by intro w hw;simp at hw;rcases hw with rfl |rfl |rfl |rfl; ·decide
                            ·exact(bu _).1
                            ·exact(bu _).1
                            ·exact(bu _).1)
theorem ma (m:Int×Int):ax 32 (iy m)= [wJoin,Lib.itoa m.1,Lib.itoa m.2]:=
 bH _ (by simp) (by intro w hw;simp at hw;rcases hw with rfl |rfl |rfl; ·decide
                            ·exact(bu _).1
                            ·exact(bu _).1)
theorem fZ (r:Bool):ax 32 (dW r)= [cP,if r then eZ else dz]:=
 bH _ (by simp) (by intro w hw;simp at hw;rcases hw with rfl |rfl; ·decide
                            ·cases r<;>decide)
theorem t' {s x:aj} {n:Nat} {line lk w:Bs} {pre post:List Bs} (hs:s.lines=pre++post) (hn:s.lines.length=n) (hx:x.lines=pre++lk::post)
  (hline:(ax 32 line).head?=some w) (hpost:∀p∈post,(ax 32 p).head?≠some w):(x.lines.length=n+1∧x.lines[n]? =some line)↔(post= []∧lk=line):=by
 rw [hs,List.length_append]at hn;rw [hx];constructor
 ·rintro⟨_,h⟩;cases post with
  |nil=>
   simp at hn;rw [List.getElem?_append_right (by omega)]at h;rw [show n-pre.length=0 by omega]at h;simpa using h
  |cons p r=>
   exfalso;rw [List.getElem?_append_right (by omega)]at h;simp at hn;rw [show n-pre.length=(r.length)+1 by omega,List.getElem?_cons_succ]at h;have hm:=List.mem_of_getElem? h;exact hpost line hm hline
 ·rintro⟨rfl,rfl⟩;simp at hn;subst hn;simp
def dq (s:aj):Nat:=if s.joins≠ []then 4 else if s.classes≠ []then 3 else if s.specials≠ []then 2 else if s.merges≠ []∨s.tokens≠ []then 1 else 0
def qU (s:aj) (k n:Nat) (done:List Bs):Prop:=(n=0∧s= {}∧k=0∧done= [])∨(0<n∧s.lines=done∧done.length=n∧s.right=true∧k=dq s)
theorem eJ {s x:aj} {n k j:Nat} {line lk w:Bs} {pre post done:List Bs} (item:Option (aj×Nat)) (hd:s.lines=done) (hs:s.lines=pre++post) (hn:s.lines.length=n) (h0:n≠0) (hx:x.lines=pre++lk::post)
  (hline:(ax 32 line).head?=some w) (hpost:∀p∈post,(ax 32 p).head?≠some w) (hj:j≠0) (hk:x.right=true→(k≤j↔post= [])) (hkind:x.right=true→post= []→dq x=j)
  (h1:∀y,item=some y→y=(x,j)∧lk=line) (h2:x.right=true→lk=line→item=some (x,j)):
  (if x.right=true∧x.lines.length=n+1∧x.lines[n]? =some line then some x else none)=
   (eD k n item).map (·.1)∧
  ∀y j',eD k n item=some (y,j')→qU y j' (n+1) (done++ [line]):=by
 have hll:=t' hs hn hx hline hpost;cases hi:item with
 |none=>
  refine⟨?_,by simp [eD]⟩;rw [if_neg]
  ·rfl
  ·rintro⟨hr,hl⟩;have:=h2 hr (hll.1 hl).2;rw [hi]at this;cases this
 |some y=>
  obtain⟨rfl,hlk⟩:=h1 y hi;by_cases hr:x.right=true
  ·by_cases hp:post= []
   ·have hc:x.right=true∧x.lines.length=n+1∧x.lines[n]? =some line:=⟨hr,hll.2 ⟨hp,hlk⟩⟩;have hc2:(n=0↔j=0)∧k≤j∧x.right=true:=⟨by constructor<;>intro e<;>omega,(hk hr).2 hp,hr⟩
    rw [if_pos hc];simp only [eD,if_pos hc2];refine⟨rfl,?_⟩;intro y j' e;cases e;refine .inr ⟨by omega,?_,?_,hr,(hkind hr hp).symm⟩
    ·rw [hx, ←hd,hs,hp,hlk];simp
    ·rw [←hd,List.length_append,hn];rfl
   ·rw [if_neg (by rintro⟨_,hl⟩;exact hp (hll.1 hl).1)];have hc2:¬((n=0↔j=0)∧k≤j∧x.right=true):=by rintro⟨_,h,_⟩;exact hp ((hk hr).1 h)
    simp only [eD,if_neg hc2];exact⟨rfl,by simp⟩
  ·rw [if_neg (by rintro⟨h,_⟩;exact hr h)];have hc2:¬((n=0↔j=0)∧k≤j∧x.right=true):=by rintro⟨_,_,h⟩;exact hr h
   simp only [eD,if_neg hc2];exact⟨rfl,by simp⟩
theorem dX {α:Type} {l:List α} {x:α} {most:Nat} {may:α→Bool} (h:aQ (l++ [x]) most may=true):may x=true:=by
 unfold aQ at h;simp only [Bool.and_eq_true,List.all_append,List.all_cons,List.all_nil]at h;exact h.2.2.1
theorem vS {a b:Bs} {x y:Int} (hx:bY a=some x) (hy:bY b=some y):dj [a,b]=some (x,y):=by simp [dj,hx,hy]
theorem tT {l:List Bs} {m:Int×Int} (h:dj l=some m):∃a b,l= [a,b]∧bY a=some m.1∧bY b=some m.2:=by
 match l,h with
 | [a,b],h=>
  simp only [dj]at h;split at h
  ·rename_i x y hx hy;cases h;exact⟨a,b,rfl,hx,hy⟩
  ·cases h
theorem tu {l:List Bs} {m:Int×Int×Int} (h:ew l=some m):∃a b c,l= [a,b,c]∧bY a=some m.1∧bY b=some m.2.1∧bY c=some m.2.2:=by
 match l,h with
 | [a,b,c],h=>
  simp only [ew]at h;split at h
  ·rename_i x y z hx hy hz;cases h;exact⟨a,b,c,rfl,hx,hy,hz⟩
  ·cases h
theorem vY {l:List Bs} {t:Bs} (h:lW l=some t):∃a,l= [a]∧bW a=some t:=by
 match l,h with
 | [a],h=>exact⟨a,rfl,h⟩
theorem tS {l:List Bs} {m:Int×Bs} (h:dE l=some m):∃a b,l= [a,b]∧bY a=some m.1∧bW b=some m.2:=by
 match l,h with
 | [a,b],h=>
  simp only [dE]at h;split at h
  ·rename_i x y hx hy;cases h;exact⟨a,b,rfl,hx,hy⟩
  ·cases h
theorem jU {w line:Bs} {l:List Bs} (hw:ax 32 line=w::l):
  (∀m,dj l=some m→(aL (w::l) 1,aL (w::l) 2)=m∧aZ [w,Lib.itoa (aL (w::l) 1),Lib.itoa (aL (w::l) 2)]=line)∧
  (0≤aL (w::l) 1→0≤aL (w::l) 2→aZ [w,Lib.itoa (aL (w::l) 1),Lib.itoa (aL (w::l) 2)]=line→dj l=some (aL (w::l) 1,aL (w::l) 2)):=by
 have hline:line=aZ (w::l):=by rw [←hw,dm]
 have hfree:=gg 32 line;rw [hw]at hfree;constructor
 ·intro m hm;obtain⟨a,b,rfl,ha,hb⟩:=tT hm;rw [eG (l:=[w,a,b]) (i:=1) rfl ha,eG (l:=[w,a,b]) (i:=2) rfl hb,(br ha).1,(br hb).1];exact⟨rfl,hline.symm⟩
 ·intro h1 h2 he;obtain⟨a,ha,hna⟩:=dv h1;obtain⟨b,hb,hnb⟩:=dv h2;rw [(br hna).1,(br hnb).1]at he;have hc:=bH [w,a,b] (by simp) (by
   intro x hx;simp at hx;rcases hx with rfl |rfl |rfl
   ·exact hfree _ (by simp)
   ·exact hfree _ (List.mem_of_getElem? ha)
   ·exact hfree _ (List.mem_of_getElem? hb))
  rw [he,hw]at hc;cases hc;exact vS hna hnb
theorem m6 {w line:Bs} {l:List Bs} (hw:ax 32 line=w::l):
  (∀m,ew l=some m→(aL (w::l) 1,aL (w::l) 2,aL (w::l) 3)=m∧aZ [w,Lib.itoa (aL (w::l) 1),Lib.itoa (aL (w::l) 2),Lib.itoa (aL (w::l) 3)]=line)∧
  (0≤aL (w::l) 1→0≤aL (w::l) 2→0≤aL (w::l) 3→aZ [w,Lib.itoa (aL (w::l) 1),Lib.itoa (aL (w::l) 2),Lib.itoa (aL (w::l) 3)]=line→ew l=some (aL (w::l) 1,aL (w::l) 2,aL (w::l) 3)):=by
 have hline:line=aZ (w::l):=by rw [←hw,dm]
 have hfree:=gg 32 line;rw [hw]at hfree;constructor
 ·intro m hm;obtain⟨a,b,c,rfl,ha,hb,hc⟩:=tu hm;rw [eG (l:=[w,a,b,c]) (i:=1) rfl ha,eG (l:=[w,a,b,c]) (i:=2) rfl hb,eG (l:=[w,a,b,c]) (i:=3) rfl hc,(br ha).1,(br hb).1,(br hc).1];exact⟨rfl,hline.symm⟩
 ·intro h1 h2 h3 he;obtain⟨a,ha,hna⟩:=dv h1;obtain⟨b,hb,hnb⟩:=dv h2;obtain⟨c,hc,hnc⟩:=dv h3;rw [(br hna).1,(br hnb).1,(br hnc).1]at he;have hcut:=bH [w,a,b,c] (by simp) (by
   intro x hx;simp at hx;rcases hx with rfl |rfl |rfl |rfl
   ·exact hfree _ (by simp)
   ·exact hfree _ (List.mem_of_getElem? ha)
   ·exact hfree _ (List.mem_of_getElem? hb)
   ·exact hfree _ (List.mem_of_getElem? hc))
  rw [he,hw]at hcut;cases hcut;simp [ew,hna,hnb,hnc]
theorem tn {w line:Bs} {l:List Bs} (hw:ax 32 line=w::l):
  (∀m,lW l=some m→dc (w::l) 1=m∧aZ [w,fR (dc (w::l) 1)]=line)∧
  (dc (w::l) 1≠ []→aZ [w,fR (dc (w::l) 1)]=line→lW l=some (dc (w::l) 1)):=by
 have hline:line=aZ (w::l):=by rw [←hw,dm]
 have hfree:=gg 32 line;rw [hw]at hfree;constructor
 ·intro m hm;obtain⟨a,rfl,ha⟩:=vY hm;rw [pW (l:=[w,a]) (i:=1) rfl ha,f8 _ _ ha];exact⟨rfl,hline.symm⟩
 ·intro h1 he;obtain⟨a,ha,hna⟩:=jP h1;rw [f8 _ _ hna]at he;have hcut:=bH [w,a] (by simp) (by
   intro x hx;simp at hx;rcases hx with rfl |rfl
   ·exact hfree _ (by simp)
   ·exact hfree _ (List.mem_of_getElem? ha))
  rw [he,hw]at hcut;cases hcut;exact hna
theorem rR {w line:Bs} {l:List Bs} (hw:ax 32 line=w::l):
  (∀m,dE l=some m→(aL (w::l) 1,dc (w::l) 2)=m∧aZ [w,Lib.itoa (aL (w::l) 1),fR (dc (w::l) 2)]=line)∧
  (0≤aL (w::l) 1→dc (w::l) 2≠ []→aZ [w,Lib.itoa (aL (w::l) 1),fR (dc (w::l) 2)]=line→dE l=some (aL (w::l) 1,dc (w::l) 2)):=by
 have hline:line=aZ (w::l):=by rw [←hw,dm]
 have hfree:=gg 32 line;rw [hw]at hfree;constructor
 ·intro m hm;obtain⟨a,b,rfl,ha,hb⟩:=tS hm;rw [eG (l:=[w,a,b]) (i:=1) rfl ha,pW (l:=[w,a,b]) (i:=2) rfl hb,(br ha).1,f8 _ _ hb];exact⟨rfl,hline.symm⟩
 ·intro h1 h2 he;obtain⟨a,ha,hna⟩:=dv h1;obtain⟨b,hb,hnb⟩:=jP h2;rw [(br hna).1,f8 _ _ hnb]at he;have hcut:=bH [w,a,b] (by simp) (by
   intro x hx;simp at hx;rcases hx with rfl |rfl |rfl
   ·exact hfree _ (by simp)
   ·exact hfree _ (List.mem_of_getElem? ha)
   ·exact hfree _ (List.mem_of_getElem? hb))
  rw [he,hw]at hcut;cases hcut;simp [dE,hna,hnb]
theorem tb (k n:Nat):eD k n none=none:=rfl
theorem kc {k n j:Nat} {x:aj} (h:¬(n=0↔j=0)):eD k n (some (x,j))=none:=by
 simp only [eD];rw [if_neg (fun e=>h e.1)]
theorem c_ {α:Type} {k n j:Nat} {o:Option α} {f:α→aj} (h:¬(n=0↔j=0)):eD k n (o.map fun m=>(f m,j))=none:=by
 cases o with
 |none=>rfl
 |some m=>exact kc h
theorem qz {line:Bs} {l:List Bs} (hw:ax 32 line=cP::l):(l= [eZ]↔line=dW true)∧(l= [dz]↔line=dW false):=by
 constructor
 ·constructor
  ·rintro rfl;rw [←dm line,hw];rfl
  ·rintro rfl;rw [fZ]at hw;simp at hw;exact hw.symm
 ·constructor
  ·rintro rfl;rw [←dm line,hw];rfl
  ·rintro rfl;rw [fZ]at hw;simp at hw;exact hw.symm
theorem jb:wMerge≠cP∧wToken≠cP∧wSpecial≠cP∧wClass≠cP∧wJoin≠cP∧wToken≠wMerge∧wSpecial≠wMerge∧wClass≠wMerge∧wJoin≠wMerge∧wSpecial≠wToken∧wClass≠wToken∧wJoin≠wToken∧wClass≠wSpecial∧wJoin≠wSpecial∧wJoin≠wClass:=by decide
theorem rS (line:Bs):k8 {} 0 line=(bo {} 0 0 line).map (·.1)∧∀y j,bo {} 0 0 line=some (y,j)→qU y j 1 [line]:=by
 cases hw:ax 32 line with
 |nil=>exact absurd hw (dO 32 line)
 |cons w l=>
  have hh:(w::l).head?=some w:=rfl;have two:∀x:aj,x.lines.length≠1→(if x.right=true∧x.lines.length=0+1∧x.lines[0]? =some line then some x else none)=none:=by
   intro x hx;rw [if_neg (fun e=>hx e.2.1)]
  by_cases h1:w=cP
  ·subst h1;obtain⟨hr,hm⟩:=qz hw;unfold k8 bo;rw [hw];simp only [fA,hh,if_true,gv];by_cases hl:l= [eZ]
   ·have hline:=hr.1 hl;rw [if_pos hl,decide_eq_true hline];have hg:eD 0 0 (some (({ranked:=true}:aj),0))=some ({ranked:=true},0):=by
     simp only [eD];rw [if_pos ⟨by simp,Nat.le_refl _,by decide⟩]
    rw [hg,if_pos ⟨by decide,rfl,by rw [hline];rfl⟩];refine⟨rfl,?_⟩;intro y j e;cases e;exact .inr ⟨by omega,by rw [hline];rfl,rfl,by decide,rfl⟩
   ·have hline:line≠dW true:=fun e=>hl (hr.2 e);rw [if_neg hl,decide_eq_false hline];by_cases hl2:l= [dz]
    ·have hline2:=hm.1 hl2;rw [if_pos hl2];have hg:eD 0 0 (some (({ranked:=false}:aj),0))=some ({ranked:=false},0):=by
      simp only [eD];rw [if_pos ⟨by simp,Nat.le_refl _,by decide⟩]
     rw [hg,if_pos ⟨by decide,rfl,by rw [hline2];rfl⟩];refine⟨rfl,?_⟩;intro y j e;cases e;exact .inr ⟨by omega,by rw [hline2];rfl,rfl,by decide,rfl⟩
    ·rw [if_neg hl2,tb,if_neg]
     ·exact⟨rfl,by simp⟩
     ·rintro⟨_,_,e⟩;apply hl2;rw [hm];have e:some (dW false)=some line:=e;exact(Option.some.inj e).symm
  ·have hread:bo {} 0 0 line=none:=by
    unfold bo;rw [hw];simp only [gv,if_neg h1];split
    ·exact c_ (by omega)
    ·split
     ·exact c_ (by omega)
     ·split
      ·exact c_ (by omega)
      ·split
       ·exact c_ (by omega)
       ·split
        ·exact c_ (by omega)
        ·rfl
   rw [hread];refine⟨?_,by simp⟩;unfold k8;rw [hw];simp only [fA,hh,Option.some.injEq,if_neg h1];split
   ·exact two _ (by simp [aj.lines,aj.tail])
   ·split
    ·exact two _ (by simp [aj.lines,aj.tail])
    ·split
     ·exact two _ (by simp [aj.lines,aj.tail])
     ·split
      ·exact two _ (by simp [aj.lines,aj.tail])
      ·split
       ·exact two _ (by simp [aj.lines,aj.tail])
       ·rw [if_neg]
        ·rfl
        ·rintro⟨_,_,e⟩;have e:some (dW false)=some line:=e;rw [←Option.some.inj e,fZ]at hw;cases hw;exact h1 rfl
theorem ga {s:aj} {w:Bs} (p:Bs):(p∈s.tokens.map dG→w≠wToken→(ax 32 p).head?≠some w)∧(p∈s.specials.map bP→w≠wSpecial→(ax 32 p).head?≠some w)∧
  (p∈s.classes.map ez→w≠wClass→(ax 32 p).head?≠some w)∧(p∈s.joins.map iy→w≠wJoin→(ax 32 p).head?≠some w):=by
 refine⟨?_,?_,?_,?_⟩
 ·intro h hw e;obtain⟨x,_,rfl⟩:=List.mem_map.1 h;rw [kP]at e;exact hw (Option.some.inj e).symm
 ·intro h hw e;obtain⟨x,_,rfl⟩:=List.mem_map.1 h;rw [im]at e;exact hw (Option.some.inj e).symm
 ·intro h hw e;obtain⟨x,_,rfl⟩:=List.mem_map.1 h;rw [lB]at e;exact hw (Option.some.inj e).symm
 ·intro h hw e;obtain⟨x,_,rfl⟩:=List.mem_map.1 h;rw [ma]at e;exact hw (Option.some.inj e).symm
theorem ri {s:aj} {k n:Nat} {done:List Bs} (line:Bs) (hn:0<n) (hd:s.lines=done) (hlen:done.length=n) (hk:k=dq s):
  k8 s n line=(bo s k n line).map (·.1)∧∀y j,bo s k n line=some (y,j)→qU y j (n+1) (done++ [line]):=by
 have hsn:s.lines.length=n:=by rw [hd,hlen]
 cases hw:ax 32 line with
 |nil=>exact absurd hw (dO 32 line)
 |cons w l=>
  have hh:(ax 32 line).head?=some w:=by rw [hw];rfl
  have hh':(w::l).head?=some w:=rfl;obtain⟨n1,n2,n3,n4,n5,n6,n7,n8,n9,n10,n11,n12,n13,n14,n15⟩:=jb;have same:∀x:aj,x.lines.length=n→(if x.right=true∧x.lines.length=n+1∧x.lines[n]? =some line then some x else none)=none:=by
   intro x hx;rw [if_neg (fun e=>by omega)]
  unfold k8 bo;rw [hw];by_cases h1:w=cP
  ·subst h1;simp only [fA,hh',if_true,gv];have hread:eD k n (if l= [eZ]then some ({s with ranked:=true},0)else if l= [dz]then some ({s with ranked:=false},0)else none)=none:=by
    split
    ·exact kc (by omega)
    ·split
     ·exact kc (by omega)
     ·rfl
   rw [hread,same _ (by rw [←hsn];rfl)];exact⟨rfl,by simp⟩
  ·simp only [fA,hh',Option.some.injEq,gv,if_neg h1];by_cases h2:w=wMerge
   ·subst h2;simp only [if_true];obtain⟨hp1,hp2⟩:=jU hw;refine eJ (j:=1) (pre:=dW s.ranked::s.merges.map dg) (post:=s.tokens.map dG++(s.specials.map bP++(s.classes.map ez++s.joins.map iy))) (lk:=dg (aL (wMerge::l) 1,aL (wMerge::l) 2)) _ hd rfl hsn (by omega) (by simp [aj.lines,aj.tail]) hh ?_ (by decide) ?_ ?_ ?_ ?_
    ·intro p hp;obtain⟨g1,g2,g3,g4⟩:=ga (s:=s) (w:=wMerge) p;simp only [List.mem_append]at hp;rcases hp with hp |hp |hp |hp
     ·exact g1 hp n6.symm
     ·exact g2 hp n7.symm
     ·exact g3 hp n8.symm
     ·exact g4 hp n9.symm
    ·intro hr;have hra:=(bv hr).1;have hnr:s.ranked=false:=by
      cases h:s.ranked
      ·rfl
      ·rw [if_pos (by simpa using h)]at hra;simp at hra
     have htok:s.tokens= []:=by simpa [hnr]using hra
     rw [hk,htok];unfold dq;constructor
     ·intro h;split at h
      ·omega
      ·split at h
       ·omega
       ·split at h
        ·omega
        ·rename_i a b c;simp at a b c;simp [a,b,c]
     ·intro h;simp at h;obtain⟨a,b,c⟩:=h;simp only [a,b,c,ne_eq,not_true_eq_false,if_false];split<;>omega
    ·intro hr hp;simp at hp;obtain⟨a,b,c,d⟩:=hp;simp [dq,a,b,c,d]
    ·intro y hy;obtain⟨m,hm,rfl⟩:=Option.map_eq_some_iff.1 hy;obtain⟨e1,e2⟩:=hp1 m hm;exact⟨by rw [e1],e2⟩
    ·intro hr he;have hmo:=dX (bv hr).2.1;simp only [cF,decide_eq_true_eq]at hmo;rw [hp2 hmo.1 hmo.2.2.1 he];rfl
   ·simp only [if_neg h2];by_cases h3:w=wToken
    ·subst h3;simp only [if_true];obtain⟨hp1,hp2⟩:=tn hw;refine eJ (j:=1) (pre:=dW s.ranked::(s.merges.map dg++s.tokens.map dG)) (post:=s.specials.map bP++(s.classes.map ez++s.joins.map iy)) (lk:=dG (dc (wToken::l) 1)) _ hd (by simp [aj.lines,aj.tail]) hsn (by omega) (by simp [aj.lines,aj.tail]) hh ?_ (by decide) ?_ ?_ ?_ ?_
     ·intro p hp;obtain⟨g1,g2,g3,g4⟩:=ga (s:=s) (w:=wToken) p;simp only [List.mem_append]at hp;rcases hp with hp |hp |hp
      ·exact g2 hp n10.symm
      ·exact g3 hp n11.symm
      ·exact g4 hp n12.symm
     ·intro hr;rw [hk];unfold dq;constructor
      ·intro h;split at h
       ·omega
       ·split at h
        ·omega
        ·split at h
         ·omega
         ·rename_i a b c;simp at a b c;simp [a,b,c]
      ·intro h;simp at h;obtain⟨a,b,c⟩:=h;simp only [a,b,c,ne_eq,not_true_eq_false,if_false];split<;>omega
     ·intro hr hp;simp at hp;obtain⟨a,b,c⟩:=hp;simp [dq,a,b,c]
     ·intro y hy;obtain⟨m,hm,rfl⟩:=Option.map_eq_some_iff.1 hy;obtain⟨e1,e2⟩:=hp1 m hm;exact⟨by rw [e1],e2⟩
     ·intro hr he;have hmo:=dX (bv hr).2.2.1;simp only [cZ,decide_eq_true_eq]at hmo;rw [hp2 (by intro e;rw [e]at hmo;simp at hmo) he];rfl
    ·simp only [if_neg h3];by_cases h4:w=wSpecial
     ·subst h4;simp only [if_true];obtain⟨hp1,hp2⟩:=rR hw;refine eJ (j:=2) (pre:=dW s.ranked::(s.merges.map dg++(s.tokens.map dG++s.specials.map bP))) (post:=s.classes.map ez++s.joins.map iy) (lk:=bP (aL (wSpecial::l) 1,dc (wSpecial::l) 2)) _ hd (by simp [aj.lines,aj.tail]) hsn (by omega) (by simp [aj.lines,aj.tail]) hh ?_ (by decide) ?_ ?_ ?_ ?_
      ·intro p hp;obtain⟨g1,g2,g3,g4⟩:=ga (s:=s) (w:=wSpecial) p;simp only [List.mem_append]at hp;rcases hp with hp |hp
       ·exact g3 hp n13.symm
       ·exact g4 hp n14.symm
      ·intro hr;rw [hk];unfold dq;constructor
       ·intro h;split at h
        ·omega
        ·split at h
         ·omega
         ·rename_i a b;simp at a b;simp [a,b]
       ·intro h;simp at h;obtain⟨a,b⟩:=h;simp only [a,b,ne_eq,not_true_eq_false,if_false];split
        ·omega
        ·split<;>omega
      ·intro hr hp;simp at hp;obtain⟨a,b⟩:=hp;simp [dq,a,b]
      ·intro y hy;obtain⟨m,hm,rfl⟩:=Option.map_eq_some_iff.1 hy;obtain⟨e1,e2⟩:=hp1 m hm;exact⟨by rw [e1],e2⟩
      ·intro hr he;have hmo:=dX (bv hr).2.2.2.1;simp only [aH,decide_eq_true_eq]at hmo;rw [hp2 hmo.1 (by intro e;rw [e]at hmo;simp at hmo) he];rfl
     ·simp only [if_neg h4];by_cases h5:w=wClass
      ·subst h5;simp only [if_true];obtain⟨hp1,hp2⟩:=m6 hw;refine eJ (j:=3) (pre:=dW s.ranked::(s.merges.map dg++(s.tokens.map dG++(s.specials.map bP++s.classes.map ez)))) (post:=s.joins.map iy) (lk:=ez (aL (wClass::l) 1,aL (wClass::l) 2,aL (wClass::l) 3)) _ hd (by simp [aj.lines,aj.tail]) hsn (by omega) (by simp [aj.lines,aj.tail]) hh ?_ (by decide) ?_ ?_ ?_ ?_
       ·intro p hp;obtain⟨g1,g2,g3,g4⟩:=ga (s:=s) (w:=wClass) p;exact g4 hp n15.symm
       ·intro hr;rw [hk];unfold dq;constructor
        ·intro h;split at h
         ·omega
         ·rename_i a;simp at a;simp [a]
        ·intro h;simp at h;simp only [h,ne_eq,not_true_eq_false,if_false];split
         ·omega
         ·split
          ·omega
          ·split<;>omega
       ·intro hr hp;simp at hp;simp [dq,hp]
       ·intro y hy;obtain⟨m,hm,rfl⟩:=Option.map_eq_some_iff.1 hy;obtain⟨e1,e2⟩:=hp1 m hm;exact⟨by rw [e1],e2⟩
       ·intro hr he;have hmo:=dX (bv hr).2.2.2.2.1;simp only [aS,decide_eq_true_eq]at hmo;rw [hp2 hmo.1 (by omega) hmo.2.2.2.1 he];rfl
      ·simp only [if_neg h5];by_cases h6:w=wJoin
       ·subst h6;simp only [if_true];obtain⟨hp1,hp2⟩:=jU hw;refine eJ (j:=4) (pre:=s.lines) (post:=[]) (lk:=iy (aL (wJoin::l) 1,aL (wJoin::l) 2)) _ hd (by simp) hsn (by omega) (by simp [aj.lines,aj.tail]) hh (by simp) (by decide) ?_ ?_ ?_ ?_
        ·intro hr;rw [hk];unfold dq;constructor
         ·intro _;rfl
         ·intro _;split
          ·omega
          ·split
           ·omega
           ·split
            ·omega
            ·split<;>omega
        ·intro hr hp;simp [dq]
        ·intro y hy;obtain⟨m,hm,rfl⟩:=Option.map_eq_some_iff.1 hy;obtain⟨e1,e2⟩:=hp1 m hm;exact⟨by rw [e1],e2⟩
        ·intro hr he;have hmo:=dX (bv hr).2.2.2.2.2;simp only [cQ,decide_eq_true_eq]at hmo;rw [hp2 hmo.1 hmo.2.2.1 he];rfl
       ·simp only [if_neg h6];rw [same s hsn];exact⟨rfl,by simp [eD]⟩
theorem xm {s:aj} {k n:Nat} {done:List Bs} (h:qU s k n done) (line:Bs):k8 s n line=(bo s k n line).map (·.1)∧∀y j,bo s k n line=some (y,j)→qU y j (n+1) (done++ [line]):=by
 rcases h with⟨rfl,rfl,rfl,rfl⟩ |⟨hn,hd,hl,_,hk⟩
 ·exact rS line
 ·exact ri line hn hd hl hk
theorem wk:∀(ls:List Bs) {s:aj} {k n:Nat} {done:List Bs},qU s k n done→
  (match bn s k n ls with | .ok x=>Except.ok x.1 | .error m=>.error m)=rt s n ls∧∀y j,bn s k n ls= .ok (y,j)→qU y j (n+ls.length) (done++ls)
 | [],s,k,n,done,h=>⟨rfl,fun y j e=>by cases e;simpa using h⟩
 |l::r,s,k,n,done,h=>by
  obtain⟨h1,h2⟩:=xm h l;simp only [bn,rt];cases hr:bo s k n l with
  |none=>
   rw [hr]at h1;rw [h1];exact⟨rfl,by simp⟩
  |some y=>
   obtain⟨y,j⟩:=y;rw [hr]at h1;rw [h1];obtain⟨g1,g2⟩:=wk r (h2 y j hr);refine⟨g1,?_⟩;intro z q e;have:=g2 z q e;rw [List.length_cons,show n+(r.length+1)=n+1+r.length by omega];simpa using this
theorem sI:qU {} 0 0 []:=.inl ⟨rfl,rfl,rfl,rfl⟩
theorem ct:∀(a b:List Bs) (s:aj) (k n:Nat),bn s k n (a++b)=match bn s k n a with | .ok x=>bn x.1 x.2 (n+a.length) b | .error m=>.error m
 | [],b,s,k,n=>rfl
 |l::a,b,s,k,n=>by
  simp only [List.cons_append,bn];cases bo s k n l with
  |none=>rfl
  |some y=>
   obtain⟨y,j⟩:=y;simp only [];rw [ct a b y j (n+1),List.length_cons,show n+(a.length+1)=n+1+a.length by omega]
theorem da {α:Type} {a b:List α} {most:Nat} {may:α→Bool} (h:aQ (a++b) most may=true):aQ a most may=true:=by
 unfold aQ at h⊢;simp only [Bool.and_eq_true,decide_eq_true_eq,List.all_append,List.length_append]at h⊢;exact⟨by omega,h.2.1⟩
theorem fU {s:aj} (h1:(if s.ranked then s.merges.isEmpty else s.tokens.isEmpty)=true) (h2:aQ s.merges 744 cF=true) (h3:aQ s.tokens 744 cZ=true) (h4:aQ s.specials 32 aH=true) (h5:aQ s.classes 64 aS=true) (h6:aQ s.joins 64 cQ=true):s.right=true:=by
 unfold aj.right;rw [h1,h2,h3,h4,h5,h6];rfl
theorem lb {m:Int×Int} (h1:0≤m.1) (h2:m.1≤co) (h3:0≤m.2) (h4:m.2≤co):dj [Lib.itoa m.1,Lib.itoa m.2]=some m:=by
 obtain⟨a,ha⟩:=Int.eq_ofNat_of_zero_le h1;obtain⟨b,hb⟩:=Int.eq_ofNat_of_zero_le h3;have e1:bY (Lib.itoa m.1)=some m.1:=by rw [ha];exact dU a (by rw [←ha];exact h2)
 have e2:bY (Lib.itoa m.2)=some m.2:=by rw [hb];exact dU b (by rw [←hb];exact h4)
 simp [dj,e1,e2]
theorem rr {m:Int×Int×Int} (h1:0≤m.1) (h2:m.1≤co) (h3:0≤m.2.1) (h4:m.2.1≤co) (h5:0≤m.2.2) (h6:m.2.2≤co):ew [Lib.itoa m.1,Lib.itoa m.2.1,Lib.itoa m.2.2]=some m:=by
 obtain⟨a,ha⟩:=Int.eq_ofNat_of_zero_le h1;obtain⟨b,hb⟩:=Int.eq_ofNat_of_zero_le h3;obtain⟨c,hc⟩:=Int.eq_ofNat_of_zero_le h5;have e1:bY (Lib.itoa m.1)=some m.1:=by rw [ha];exact dU a (by rw [←ha];exact h2)
 have e2:bY (Lib.itoa m.2.1)=some m.2.1:=by rw [hb];exact dU b (by rw [←hb];exact h4)
 have e3:bY (Lib.itoa m.2.2)=some m.2.2:=by rw [hc];exact dU c (by rw [←hc];exact h6)
 simp [ew,e1,e2,e3]
theorem r_ {m:Int×Bs} (h1:0≤m.1) (h2:m.1≤co):dE [Lib.itoa m.1,fR m.2]=some m:=by
 obtain⟨a,ha⟩:=Int.eq_ofNat_of_zero_le h1;have e1:bY (Lib.itoa m.1)=some m.1:=by rw [ha];exact dU a (by rw [←ha];exact h2)
 simp [dE,e1,mC]
theorem mN {α:Type} (put:aj→α→aj) (lineK:α→Bs) (j:Nat) (hj:j≠0):∀(ms:List α) (s:aj) (k n:Nat),n≠0→k≤j→
  (∀i,i<ms.length→((ms.take (i+1)).foldl put s).right=true)→(∀m∈ms,∀s,gv s (ax 32 (lineK m))=some (put s m,j))→
  bn s k n (ms.map lineK)= .ok (ms.foldl put s,if ms= []then k else j)
 | [],s,k,n,_,_,_,_=>rfl
 |m::ms,s,k,n,hn,hk,hr,ha=>by
  simp only [List.map_cons,bn];have hr0:(put s m).right=true:=by simpa using hr 0 (by simp)
  have hl:bo s k n (lineK m)=some (put s m,j):=by
   unfold bo;rw [ha m (by simp) s];simp only [eD];rw [if_pos ⟨by constructor<;>intro e<;>omega,hk,hr0⟩]
  rw [hl];simp only [];rw [mN put lineK j hj ms (put s m) j (n+1) (by omega) (Nat.le_refl _) (fun i hi=>by simpa using hr (i+1) (by simpa using hi)) (fun x hx=>ha x (by simp [hx]))];simp
theorem fu:∀(ms:List (Int×Int)) (s:aj),ms.foldl (fun(s:aj) m=>{s with merges:=s.merges++ [m]}) s= {s with merges:=s.merges++ms}
 | [],s=>by simp
 |m::ms,s=>by rw [List.foldl_cons,fu ms];simp
theorem fH:∀(ms:List Bs) (s:aj),ms.foldl (fun(s:aj) m=>{s with tokens:=s.tokens++ [m]}) s= {s with tokens:=s.tokens++ms}
 | [],s=>by simp
 |m::ms,s=>by rw [List.foldl_cons,fH ms];simp
theorem eE:∀(ms:List (Int×Bs)) (s:aj),ms.foldl (fun(s:aj) m=>{s with specials:=s.specials++ [m]}) s= {s with specials:=s.specials++ms}
 | [],s=>by simp
 |m::ms,s=>by rw [List.foldl_cons,eE ms];simp
theorem fe:∀(ms:List (Int×Int×Int)) (s:aj),ms.foldl (fun(s:aj) m=>{s with classes:=s.classes++ [m]}) s= {s with classes:=s.classes++ms}
 | [],s=>by simp
 |m::ms,s=>by rw [List.foldl_cons,fe ms];simp
theorem gU:∀(ms:List (Int×Int)) (s:aj),ms.foldl (fun(s:aj) m=>{s with joins:=s.joins++ [m]}) s= {s with joins:=s.joins++ms}
 | [],s=>by simp
 |m::ms,s=>by rw [List.foldl_cons,gU ms];simp
theorem d_ {α:Type} (l:List α) (i:Nat):∃r,l=l.take i++r:=⟨l.drop i,(List.take_append_drop i l).symm⟩
theorem jI {α:Type} {l:List α} {most:Nat} {may:α→Bool} (h:aQ l most may=true) {x:α} (hx:x∈l):may x=true:=by
 unfold aQ at h;simp only [Bool.and_eq_true,List.all_eq_true]at h;exact h.2 x hx
theorem bZ {α:Type} (most:Nat) (may:α→Bool):aQ [] most may=true:=by simp [aQ]
theorem sx (s:aj) (h:s.right=true):∃k,bn {} 0 0 s.lines= .ok (s,k):=by
 obtain⟨h1,h2,h3,h4,h5,h6⟩:=bv h;have w1:=fun(m:Int×Int) (hm:m∈s.merges)=>jI h2 hm;have w3:=fun(m:Int×Bs) (hm:m∈s.specials)=>jI h4 hm;have w4:=fun(m:Int×Int×Int) (hm:m∈s.classes)=>jI h5 hm;have w5:=fun(m:Int×Int) (hm:m∈s.joins)=>jI h6 hm;obtain⟨k1,n1,n2,n3,n4,n5,m1,m2,m3,m4,o1,o2,o3,q1,q2⟩:=jb;have hhead:bo {} 0 0 (dW s.ranked)=some ({ranked:=s.ranked},0):=by
  unfold bo;rw [fZ];cases s.ranked<;>rfl
 simp only [aj.lines,bn,hhead,aj.tail];have g1:=mN (fun(s:aj) m=>{s with merges:=s.merges++ [m]}) dg 1 (by decide) s.merges {ranked:=s.ranked} 0 1 (by decide) (by decide)
  (fun i hi=>by
   rw [fu];obtain⟨r,hr⟩:=d_ s.merges (i+1);refine fU ?_ (by rw [hr]at h2;simpa using da h2) (bZ _ _) (bZ _ _) (bZ _ _) (bZ _ _);cases hrk:s.ranked
   ·rfl
   ·rw [hrk]at h1;simp at h1;rw [h1]at hi;simp at hi)
  (fun m hm s'=>by
   have hmo:=w1 m hm;simp only [cF,decide_eq_true_eq]at hmo;rw [rT];simp only [gv,if_neg k1,if_true,lb hmo.1 (show m.1≤co by unfold co;omega) hmo.2.2.1 (show m.2≤co by unfold co;omega)];rfl)
 rw [fu]at g1;rw [ct,g1];simp only [List.nil_append];have e1:∀(α:Type) (l:List α),(if l= []then(0:Nat)else 1)≤1:=by intro α l;split<;>omega
 generalize hkA:(if s.merges= []then(0:Nat)else 1)=kA;have hA:kA≤1:=by rw [←hkA];split<;>omega
 have g2:=mN (fun(s:aj) m=>{s with tokens:=s.tokens++ [m]}) dG 1 (by decide) s.tokens {ranked:=s.ranked,merges:=s.merges} kA (1+(s.merges.map dg).length) (by omega) hA
  (fun i hi=>by
   rw [fH];obtain⟨r,hr⟩:=d_ s.tokens (i+1);refine fU ?_ h2 (by rw [hr]at h3;simpa using da h3) (bZ _ _) (bZ _ _) (bZ _ _);cases hrk:s.ranked
   ·rw [hrk]at h1;simp at h1;rw [h1]at hi;simp at hi
   ·rw [hrk]at h1;simpa using h1)
  (fun m hm s'=>by
   rw [kP];simp only [gv,if_neg n1,if_neg n5,if_true,lW,mC];rfl)
 rw [fH]at g2;rw [ct,g2];simp only [List.nil_append];generalize hkB:(if s.tokens= []then kA else 1)=kB;have hB:kB≤2:=by rw [←hkB];split<;>omega
 have hr0:(if s.ranked=true then s.merges.isEmpty else s.tokens.isEmpty)=true:=h1;have g3:=mN (fun(s:aj) m=>{s with specials:=s.specials++ [m]}) bP 2 (by decide) s.specials {ranked:=s.ranked,merges:=s.merges,tokens:=s.tokens} kB (1+(s.merges.map dg).length+(s.tokens.map dG).length) (by omega) hB
  (fun i hi=>by
   rw [eE];obtain⟨r,hr⟩:=d_ s.specials (i+1);exact fU hr0 h2 h3 (by rw [hr]at h4;simpa using da h4) (bZ _ _) (bZ _ _))
  (fun m hm s'=>by
   have hmo:=w3 m hm;simp only [aH,decide_eq_true_eq]at hmo;rw [im];simp only [gv,if_neg n2,if_neg m1,if_neg m4,if_true,r_ (m:=m) hmo.1 hmo.2.1];rfl)
 rw [eE]at g3;rw [ct,g3];simp only [List.nil_append];generalize hkC:(if s.specials= []then kB else 2)=kC;have hC:kC≤3:=by rw [←hkC];split<;>omega
 have g4:=mN (fun(s:aj) m=>{s with classes:=s.classes++ [m]}) ez 3 (by decide) s.classes {ranked:=s.ranked,merges:=s.merges,tokens:=s.tokens,specials:=s.specials} kC (1+(s.merges.map dg).length+(s.tokens.map dG).length+(s.specials.map bP).length) (by omega) hC
  (fun i hi=>by
   rw [fe];obtain⟨r,hr⟩:=d_ s.classes (i+1);exact fU hr0 h2 h3 h4 (by rw [hr]at h5;simpa using da h5) (bZ _ _))
  (fun m hm s'=>by
   have hmo:=w4 m hm;simp only [aS,decide_eq_true_eq]at hmo;rw [lB];simp only [gv,if_neg n3,if_neg m2,if_neg o1,if_neg o3,if_true,rr (m:=m) hmo.1 (by unfold co;omega) (by omega) (by unfold co;omega) hmo.2.2.2.1 (by unfold co;omega)];rfl)
 rw [fe]at g4;rw [ct,g4];simp only [List.nil_append];generalize hkD:(if s.classes= []then kC else 3)=kD;have hD:kD≤4:=by rw [←hkD];split<;>omega
 have g5:=mN (fun(s:aj) m=>{s with joins:=s.joins++ [m]}) iy 4 (by decide) s.joins {ranked:=s.ranked,merges:=s.merges,tokens:=s.tokens,specials:=s.specials,classes:=s.classes} kD (1+(s.merges.map dg).length+(s.tokens.map dG).length+(s.specials.map bP).length+(s.classes.map ez).length) (by omega) hD
  (fun i hi=>by
   rw [gU];obtain⟨r,hr⟩:=d_ s.joins (i+1);exact fU hr0 h2 h3 h4 h5 (by rw [hr]at h6;simpa using da h6))
  (fun m hm s'=>by
   have hmo:=w5 m hm;simp only [cQ,decide_eq_true_eq]at hmo;rw [ma];simp only [gv,if_neg n4,if_neg m3,if_neg o2,if_neg q1,if_neg q2,if_true,lb (m:=m) hmo.1 (by unfold co;omega) hmo.2.2.1 (by unfold co;omega)];rfl)
 rw [gU]at g5;exact⟨_,g5⟩
theorem rO (s:aj):∀l∈s.lines,10∉l:=by
 have join_free:∀ws:List Bs,(∀w∈ws,10∉w)→10∉aZ ws:=by
  intro ws;induction ws with
  |nil=>intro _;simp [aZ,Lib.join_nil]
  |cons w r ih=>
   intro h;cases r with
   |nil=>rw [gV];exact h w (by simp)
   |cons x r=>
    rw [ee];simp only [List.mem_append,List.mem_cons,not_or];exact⟨h w (by simp),by decide,ih fun y hy=>h y (by simp [hy])⟩
 intro l hl;simp only [aj.lines,aj.tail,List.mem_cons,List.mem_append,List.mem_map]at hl;rcases hl with rfl |⟨m,_,rfl⟩ |⟨m,_,rfl⟩ |⟨m,_,rfl⟩ |⟨m,_,rfl⟩ |⟨m,_,rfl⟩
 ·cases s.ranked<;>decide+kernel
 ·exact join_free _ (by intro w hw;simp at hw;rcases hw with rfl |rfl |rfl<;>first |decide |exact(bu _).2)
 ·exact join_free _ (by intro w hw;simp at hw;rcases hw with rfl |rfl<;>first |decide |exact(gp _).2)
 ·exact join_free _ (by intro w hw;simp at hw;rcases hw with rfl |rfl |rfl<;>first |decide |exact(bu _).2 |exact(gp _).2)
 ·exact join_free _ (by intro w hw;simp at hw;rcases hw with rfl |rfl |rfl |rfl<;>first |decide |exact(bu _).2)
 ·exact join_free _ (by intro w hw;simp at hw;rcases hw with rfl |rfl |rfl<;>first |decide |exact(bu _).2)
theorem kx (s:aj) (h:s.right=true):cu s.text= .ok s:=by
 obtain⟨k,hk⟩:=sx s h;unfold cu aj.text;rw [rL _ (rO s),List.dropLast_concat,hk];simp only [];rw [if_pos ⟨by simp,by simp [aj.lines]⟩]
theorem ro (t:Bs) (s:aj) (h:cu t= .ok s):s.text=t∧s.right=true:=by
 unfold cu at h;cases hr:bn {} 0 0 (ax 10 t).dropLast with
 |error m=>rw [hr]at h;cases h
 |ok x=>
  obtain⟨y,j⟩:=x;rw [hr]at h;simp only []at h;split at h
  ·rename_i hc;cases h;have:=(wk (ax 10 t).dropLast sI).2 _ _ hr;rcases this with⟨e,_⟩ |⟨_,hl,_,hright,_⟩
   ·have:(ax 10 t).dropLast= []:=List.eq_nil_of_length_eq_zero (by omega);exact absurd this hc.2
   ·refine⟨?_,hright⟩;unfold aj.text;rw [hl];exact rh t hc.1
  ·cases h
theorem sT (l:List UInt8):((str l).toList==(⟨#[]⟩:ByteArray).toList)=decide (l= []):=by
 rw [show(⟨#[]⟩:ByteArray)=str []from rfl,d9,d9];cases l<;>simp
theorem gJ:∀n:Fin 256,Lib.indexByte wA (UInt8.ofNat n.val)=match mh (UInt8.ofNat n.val)with |some k=>(k:Int) |none=> -1:=by decide+kernel
theorem kn (b:UInt8):Lib.indexByte wA b=match mh b with |some k=>(k:Int) |none=> -1:=
 u6 (p:=fun b=>Lib.indexByte wA b=match mh b with |some k=>(k:Int) |none=> -1) gJ b
theorem x9 (b:UInt8):((b.toNat:Int)).toNat.toUInt8=b:=by simp
theorem jQ (b:UInt8) (w:World):
  CP 295 #[.int .u8 b.toNat] w fun e w'=>e= .returned (.int .i64 (match mh b with |some k=>(k:Int) |none=> -1))∧w'=w:=by
 refine aK (qf b.toNat w) ?_;refine(Tryz.strings_IndexByte _ _ w).mono ?_;rintro e w' ⟨rfl,rfl⟩;rw [x9];exact⟨_,rfl,by rw [show(ByteArray.mk #[48,49,50,51,52,53,54,55,56,57,97,98,99,100,101,102]).data.toList=wA from rfl,kn],rfl⟩
def Bi:Option (List UInt8)→Value
 |some r=>.tuple #[.string (str r),.bool true]
 |none=>.tuple #[.string (str []),.bool false]
theorem bU (a b:List UInt8):((str a).toList==(str b).toList)=decide (a=b):=by
 rw [d9,d9];by_cases h:a=b
 ·subst h;simp
 ·simp [h]
theorem sH (l acc:List UInt8) (i:Nat) (h:i+1<l.length) (hp:pairs l=(pairs (l.drop i)).map (acc++ ·)) (x y:Nat) (hx:mh l[i]=some x) (hy:mh l[i+1]=some y):
  pairs l=(pairs (l.drop (i+2))).map ((acc++ [UInt8.ofNat (16*x+y)])++ ·):=by
 rw [hp,List.drop_eq_getElem_cons (show i<l.length by omega),List.drop_eq_getElem_cons (show i+1<l.length by omega)];simp only [pairs,hx,hy];cases pairs (l.drop (i+1+1))with
 |none=>rfl
 |some r=>simp
theorem mD (l acc:List UInt8) (i:Nat) (h:i+1<l.length) (hp:pairs l=(pairs (l.drop i)).map (acc++ ·)) (hb:mh l[i]=none∨mh l[i+1]=none):pairs l=none:=by
 rw [hp,List.drop_eq_getElem_cons (show i<l.length by omega),List.drop_eq_getElem_cons (show i+1<l.length by omega)];rcases hb with hb |hb
 ·simp [pairs,hb]
 ·simp only [pairs,hb];cases mh l[i]<;>rfl
theorem rn (l acc:List UInt8) (i:Nat) (h:l.length≤i) (hp:pairs l=(pairs (l.drop i)).map (acc++ ·)):pairs l=some acc:=by
 rw [hp,List.drop_eq_nil_of_le h];simp [pairs]
theorem ru (n:Nat):∀l:List UInt8,l.length≤n→∀r,pairs l=some r→l.length=2*r.length:=by
 induction n with
 |zero=>
  intro l hl r h;cases l with
  |nil=>simp [pairs]at h;subst h;rfl
  |cons a l=>simp at hl
 |succ n ih=>
  intro l hl r h
  match l,hl,h with
  | [],_,h=>simp [pairs]at h;subst h;rfl
  | [_],_,h=>simp [pairs]at h
  |a::b::l,hl,h=>
   simp only [pairs]at h;split at h
   ·rename_i x y r' _ _ hr;cases h;have:=ih l (by simp at hl;omega) _ hr;simp;omega
   ·cases h
theorem mZ (l:List UInt8) (h1:l≠ [45]) (h2:l≠ []):bW l=pairs l:=by
 unfold bW;rw [if_neg h1,if_neg h2]
theorem xJ (x y:Nat) (hx:x<16) (hy:y<16):IntKind.wrap .u8 ((x:Int)*16+y)=((UInt8.ofNat (16*x+y)).toNat:Int):=by
 rw [gj (k:=.u8) (by simp [IntKind.min,IntKind.signed];omega) (by simp [IntKind.max,IntKind.signed,IntKind.bits];omega)];have:(UInt8.ofNat (16*x+y)).toNat=16*x+y:=by simp;omega
 omega
theorem lh (l:List UInt8) (w:World) (hl:l.length≤2000000):
  CP 269 #[.string (str l)] w fun e w'=>e= .returned (Bi (bW l))∧Below w.heap.size w w':=by
 refine aK (q_ (str l) w) ?_;refine aa.mk ?_ ?_
 ·intro h;rw [show(⟨#[45]⟩:ByteArray)=str [45]from rfl,bU]at h;have h:=of_decide_eq_true h;subst h;exact⟨rfl,Below.refl _ _⟩
 ·intro h1;rw [show(⟨#[45]⟩:ByteArray)=str [45]from rfl,bU]at h1;have h1:=of_decide_eq_false h1;refine aa.mk ?_ ?_
  ·intro h;rw [sT]at h;have h:=of_decide_eq_true h;subst h;exact⟨rfl,Below.refl _ _⟩
  ·intro h2;rw [sT]at h2;have h2:=of_decide_eq_false h2;have hu:=mZ l h1 h2;rw [hu];refine⟨by decide,?_⟩;rw [aR,show Int.tmod (l.length:Int) 2=((l.length%2:Nat):Int)from rfl,show Int.tdiv (l.length:Int) 2=((l.length/2:Nat):Int)from rfl];refine aa.mk ?_ ?_
   ·intro h3;have h3:l.length%2≠0:=by
     intro e;rw [e]at h3;simp at h3
    refine⟨?_,Below.refl _ _⟩;cases hp:pairs l with
    |none=>rfl
    |some r=>have:=ru l.length l (Nat.le_refl _) r hp;omega
   ·intro h3;have h3:l.length%2=0:=by
     rcases Nat.mod_two_eq_zero_or_one l.length with e |e
     ·exact e
     ·rw [e]at h3;simp at h3
    refine⟨by decide,?_⟩;rw [gj (k:=.i64) (by simp [IntKind.min,IntKind.signed,IntKind.bits];omega) (by simp [IntKind.max,IntKind.signed,IntKind.bits];omega)];obtain⟨i,hi',hz,hs,hb⟩:=info_parts uw;obtain⟨w1,hr,hown,hg⟩:=run_make_own (P:=Tryz.prog) w w.heap.size so AD i _ 1 lg hi' hz hs .i64 .i64 (l.length/2) (by rw [hb];omega) (by simp [maxLen];omega) (Nat.le_refl _);refine⟨_,_,_,w1,hr,?_⟩;intro I hI;have key:=jl (α:=Option Addr×Nat×Nat×Bool×ByteArray×World) (l.length/2)
     (fun k x=>∃acc,pairs l=(pairs (l.drop (2*k))).map (acc++ ·)∧acc.length≤k∧x.2.2.2.2.2.ownsRow w.heap.size AD 1 (.slice x.1 x.2.1 x.2.2.1) x.2.1 (Lib.byteCells acc)∧Below w.heap.size w x.2.2.2.2.2)
     (fun k x=>I [.int .i64 ((2*k:Nat):Int),.slice x.1 x.2.1 x.2.2.1,.bool x.2.2.2.1,.string x.2.2.2.2.1] x.2.2.2.2.2) ?_ ?_ 0 (Nat.zero_le _) (some ⟨w.heap.size,0,none⟩,0,l.length/2,false,str [],w1)
    ·refine key ⟨[],?_,Nat.le_refl _,hown,(Below.refl _ w).grown hg (Nat.le_refl _) (fun _ h=>by cases h)⟩;simp
    ·rintro⟨bA,bN,bC,y3,y2,w2⟩ ⟨acc,hp,_,hown2,hB⟩;refine hI _ _ _ _ _ _ _ (aa.no (decide_eq_false (by omega)) ?_);have hd:=rn l acc _ (by omega) hp;refine⟨_,_,jp lg CJ Ax hown2,?_,hB⟩;rw [hd];rfl
    ·rintro k hk ih ⟨bA,bN,bC,y3,y2,w2⟩ ⟨acc,hp,hacc,hown2,hB⟩;have hi1:2*k+1<l.length:=by omega
     refine hI _ _ _ _ _ _ _ (aa.yes (decide_eq_true (by omega)) ?_);rintro w3 rfl;refine⟨by omega,by omega,Ar.ok64 (by omega) (by omega) ?_⟩;refine⟨by omega,by omega,?_⟩;rw [iv l (2*k) (by omega),show((2*k:Nat):Int)+1=((2*k+1:Nat):Int) by omega,iv l (2*k+1) hi1];refine(jQ _ w2.drew).mono ?_;rintro e w4 ⟨rfl,rfl⟩;refine⟨_,rfl,?_⟩;refine(jQ _ w2.drew).mono ?_;rintro e w5 ⟨rfl,rfl⟩;refine⟨_,rfl,?_⟩;cases hx:mh l[2*k]with
     |none=>
      refine aa.yes rfl ⟨?_,hB.drew⟩;rw [mD l acc _ hi1 hp (.inl hx)];rfl
     |some x=>
      cases hy:mh l[2*k+1]with
      |none=>
       refine aa.no (decide_eq_false (by dsimp only;omega)) (aa.yes rfl ⟨?_,hB.drew⟩);rw [mD l acc _ hi1 hp (.inr hy)];rfl
      |some y=>
       have h4:=kf _ _ hx;have h5:=kf _ _ hy;refine aa.no (decide_eq_false (by dsimp only;omega)) (aa.no (decide_eq_false (by dsimp only;omega)) ?_);dsimp only;refine Ar.ok64 (by omega) (by omega) (Ar.ok64 (by omega) (by omega) ?_);rw [xJ x y h4 h5];rintro w6 rfl;have hn:=hown2.1;dsimp only at hn hown2 hB;rw [Lib.byteCells_length]at hn;obtain⟨a',c',w7,hr,hown7,hg,_⟩:=eL (P:=Tryz.prog) so AD lg uw rfl (by decide) (oQ hown2) [.int .u8 (UInt8.ofNat (16*x+y)).toNat] rfl (by intro u hu;simp at hu;subst hu;rfl) (by omega) (by omega) hB.size;refine⟨_,_,_,w7,hr,Ar.ok64 (by omega) (by omega) ?_⟩;rw [jZ]at hown7;have:=ih (a',bN+1,c',y3,y2,w7) ⟨acc++ [UInt8.ofNat (16*x+y)],sH l acc _ hi1 hp x y hx hy,by simp;omega,hown7,dl hB.drew (oQ hown2) hg hB.size⟩;rw [show((2*k:Nat):Int)+2=((2*(k+1):Nat):Int) by omega];exact this
abbrev sv (w:World):Prop:=Lib.TabIs Tryz.prog w "internal/strconv.uint64pow10" .u64 Lib.pow10Tab
theorem sv.on {w w':World} (h:sv w) (hb:Below w.heap.size w w'):sv w':=Lib.tabBelow_of_tabIs h w' hb
theorem qE (n:Int) (w:World) (hn:C6 n) (ht:sv w):
  CP 297 #[.int .i64 n] w fun e w'=>e= .returned (.string (str (Lib.itoa n)))∧Below w.heap.size w w':=by
 refine aK (pO n w) ?_;refine(Tryz.strconv_Itoa n hn.1 hn.2 w ht).mono ?_;rintro e w' ⟨rfl,k,os,rfl⟩;exact⟨_,rfl,rfl,Lib.below_grow _ w (Nat.le_refl _) k os⟩
theorem mY (xs:List (List UInt8)) (s:List UInt8):dd xs++ [.string (str s)]=dd (xs++ [s]):=by simp [dd]
theorem wx {base:Nat} {w:World} {a:Option Addr} {n c:Nat} {xs:List (List UInt8)} (h:w.ownsRow base g_ 1 (.slice a n c) n (dd xs)) (s:List UInt8) (hx:xs.length≤1000000) (hB:base≤w.heap.size):
  ∃a' c' w3,(Builtin.append_ #[eI,eI] eI #[.slice a n c,.slice (some (nb w)) 1 1]).run Tryz.prog (w.alloc (.cells #[.string (str s)] g_))= .ok (.slice a' (n+1) c') w3∧
   w3.ownsRow base g_ 1 (.slice a' (n+1) c') (n+1) (dd (xs++ [s]))∧∀w0,Below base w0 w→Below base w0 w3:=by
 have hn:=(bc.of_own h).2.1;obtain⟨a',c',w4,hr,hown4,hg,_⟩:=eL (P:=Tryz.prog) eI g_ mU nn rfl (by decide) h [.string (str s)] rfl (by intro u hu;simp at hu;subst hu;rfl) (by omega) (by omega) hB;rw [mY]at hown4;exact⟨a',c',w4,hr,hown4,fun w0 hb=>dl hb h hg hB⟩
theorem lF (a b:Option Addr) (ca cb:Nat) (xs ys:List (List UInt8)) (w:World) (hx:bc w a xs) (hy:bc w b ys) (hl:xs.length≤1000000):
  CP 99 #[.slice a xs.length ca,.slice b ys.length cb] w fun e w'=>e= .returned (.bool (decide (xs=ys)))∧Below w.heap.size w w':=by
 refine aK (sk a xs.length ca b ys.length cb w) ?_;refine aa.mk ?_ ?_
 ·intro h;refine⟨?_,Below.refl _ _⟩;rw [decide_eq_false];intro e;subst e;simp at h
 ·intro h;have hlen:(xs.length:Int)=ys.length:=by simpa using h
  have hlen:xs.length=ys.length:=by omega
  intro I hI;have key:=jl (α:=Bool×World) xs.length (fun i x=>xs.take i=ys.take i∧Below w.heap.size w x.2) (fun i x=>I [.int .i64 (i:Int),.bool x.1] x.2) ?_ ?_ 0 (Nat.zero_le _) (false,w)
  ·exact key ⟨rfl,Below.refl _ _⟩
  ·rintro⟨y4,w1⟩ ⟨he,hB⟩;refine hI _ _ _ (aa.no (by simp) ⟨?_,hB⟩);rw [List.take_length,hlen,List.take_length]at he;rw [decide_eq_true he]
  ·rintro i hi ih ⟨y4,w1⟩ ⟨he,hB⟩;dsimp only at he hB;refine hI _ _ _ (aa.yes (by simp;omega) ?_);rintro w2 rfl;obtain⟨x,hxa,_,hcx⟩:=(hx.on hB) i _ (List.getElem?_eq_getElem hi);obtain⟨y,hyb,_,hcy⟩:=(hy.on hB) i _ (List.getElem?_eq_getElem (show i<ys.length by omega));refine ac.mk x hxa ⟨by omega,by omega,str xs[i],by simpa using hcx,ac.mk y hyb ⟨by omega,by omega,str ys[i],by simpa using hcy,aa.mk ?_ ?_⟩⟩
   ·intro hne;refine⟨?_,hB.drew⟩;rw [decide_eq_false];intro e;subst e;simp at hne
   ·intro hne;rw [bU]at hne;have heq:xs[i]=ys[i]:=by simpa using hne
    refine Ar.ok64 (by omega) (by omega) (ih (y4,w1.drew) ⟨?_,hB.drew⟩);rw [List.take_add_one,List.take_add_one,List.getElem?_eq_getElem hi,List.getElem?_eq_getElem (show i<ys.length by omega),he,heq]
abbrev Mx (w:World):Prop:=∃m,w.cell? ⟨0,0,none⟩=some (.int .i64 m)
theorem Mx.on {w w':World} (h:Mx w) (hb:Below w.heap.size w w'):Mx w':=by
 obtain⟨m,hm⟩:=h;have hlt:0<w.heap.size:=World.block_lt_of_cell? _ _ hm;exact⟨m,by rw [hb.cell hlt];exact hm⟩
theorem Ay (l:List UInt8) (w:World) (hl:l.length≤1000000) (hm:Mx w):
  CP 186 #[.string (str l)] w fun e w'=>e= .returned (.slice (some (nb w)) (ax 32 l).length (ax 32 l).length)∧bc w' (some (nb w)) (ax 32 l)∧Below w.heap.size w w':=by
 refine aK (qb (str l) w) ?_;obtain⟨m,hm⟩:=hm;refine(Tryz.strings_Split (str l) ⟨#[32]⟩ m w (by rw [aR];omega) hm (Nat.le_refl 1)).mono ?_;rintro e w1 ⟨rfl,rfl⟩;have hlen:(ax 32 l).length=Lib.countB (str l) ⟨#[32]⟩+1:=pk 32 (str l);refine⟨_,_,_,rfl,by rw [hlen],?_,ak _ _⟩;intro j s hj;refine⟨_,rfl,by rw [ao];exact Nat.lt_succ_self _,?_⟩;rw [au,Nat.zero_add,ay];rw [show ax 32 l=ax 32 (str l).data.toList from rfl, ←kI]at hj;rw [List.getElem?_map,Option.map_eq_some_iff]at hj;obtain⟨x,hx,rfl⟩:=hj;simp only [List.getElem?_toArray,List.getElem?_map,hx,Option.map_some]
theorem rZ (l:List UInt8) (w:World) (hl:l.length≤100000) (hm:Mx w):
  CP 128 #[.string (str l)] w fun e w'=>∃a c,e= .returned (.tuple #[.slice a ((ax 10 l).length-1) c,.bool (decide ((ax 10 l).getLast?=some []))])∧bc w' a (ax 10 l).dropLast∧Below w.heap.size w w':=by
 refine aK (pB (str l) w) ?_;intro I hI;have key:∀(k:Nat) (r:List UInt8),r.length≤k→∀(done:List (List UInt8)) (a:Option Addr) (n c:Nat) (y3:Bool) (yA:Option Addr) (yN yC:Nat) (w1:World),ax 10 l=done++ax 10 r→done.length+r.length≤l.length→
   w1.ownsRow w.heap.size g_ 1 (.slice a n c) n (dd done)→Below w.heap.size w w1→I [.slice a n c,.bool y3,.slice yA yN yC,.string (str r)] w1:=by
  intro k;induction k with
  |zero=>
   intro r hr done a n c y3 yA yN yC w1 hcut hle hown hB;have:r= []:=List.eq_nil_of_length_eq_zero (by omega);subst this;refine hI _ _ _ _ _ _ _ _ _ ?_;obtain⟨m,hm⟩:=hm.on hB;refine(Tryz.strings_Cut (str []) ⟨#[10]⟩ m w1 (by decide) hm).mono ?_;rintro e w2 ⟨rfl,q,rfl⟩;refine⟨_,_,_,rfl,?_⟩;rw [show Lib.cut (str []).data.toList (⟨#[10]⟩:ByteArray).data.toList=([],[],false)from rfl];refine aa.yes rfl ?_;obtain⟨hrow,hn,hc⟩:=bc.of_own hown;have hrow:bc (w1.drewN q) a done:=hrow;have hcut:ax 10 l=done++ [[]]:=hcut;refine⟨a,c,?_,?_,hB.trans ⟨rfl,rfl,rfl,Nat.le_refl _,fun _ _=>rfl⟩⟩
   ·rw [hcut];simp [hn]
   ·rw [hcut];simpa using hrow
  |succ k ih=>
   intro r hr done a n c y3 yA yN yC w1 hcut hle hown hB;refine hI _ _ _ _ _ _ _ _ _ ?_;obtain⟨m,hm1⟩:=hm.on hB;refine(Tryz.strings_Cut (str r) ⟨#[10]⟩ m w1 (by rw [aR];omega) hm1).mono ?_;rintro e w2 ⟨rfl,q,rfl⟩;refine⟨_,_,_,rfl,?_⟩;have hBq:Below w.heap.size w (w1.drewN q):=hB.trans ⟨rfl,rfl,rfl,Nat.le_refl _,fun _ _=>rfl⟩;obtain⟨hrow,hn,hc⟩:=bc.of_own hown;have hrow:bc (w1.drewN q) a done:=hrow;rw [show(str r).data.toList=r from rfl,show(⟨#[10]⟩:ByteArray).data.toList= [10]from rfl];rcases jc 10 r with h |⟨i,h,hi⟩
   ·rw [vk 10 r h];rw [iT 10 r h]at hcut;refine aa.yes rfl ?_;refine⟨a,c,?_,?_,hBq⟩
    ·rw [hcut,show(⟨#[]⟩:ByteArray)=str []from rfl,bU];simp [hn]
    ·rw [hcut];simpa using hrow
   ·rw [xH 10 r i h];rw [jN 10 r i h]at hcut;refine aa.no rfl ?_;rintro w3 rfl;obtain⟨a',c',w4,hrun,hown4,hB4⟩:=wx (w:=w1.drewN q) (base:=w.heap.size) hown (r.take i) (by omega) hBq.size;refine⟨_,_,_,w4,hrun,?_⟩;refine ih (r.drop (i+1)) (by rw [List.length_drop];omega) (done++ [r.take i]) a' (n+1) c' y3 yA yN yC w4 (by rw [hcut];simp) ?_ hown4 (hB4 _ hBq);rw [List.length_append,List.length_drop];simp;omega
 exact key l.length l (Nat.le_refl _) [] none 0 0 false none 0 0 w rfl (by simp) (bL _ _ _ _) (Below.refl _ _)
def Ak:Option Nat→Value
 |some u=>.tuple #[.int .i64 u,.bool true]
 |none=>.tuple #[.int .i64 0,.bool false]
theorem xu (n:Nat) (w:World):(do eqGuard .neq 372 (.tmp n) (.const Value.nilIface) Value.nilIface Value.nilIface;binOp .neq 372 Value.nilIface Value.nilIface).run Tryz.prog w= .ok (.bool false) w:=by kernel_rfl
theorem oZ (k:TypeId) (p:Option Addr) (n:Nat) (w:World):(do eqGuard .neq 372 (.tmp n) (.const Value.nilIface) (Value.iface k (.pointer p)) Value.nilIface;binOp .neq 372 (Value.iface k (.pointer p)) Value.nilIface).run Tryz.prog w= .ok (.bool true) w:=by kernel_rfl
abbrev ik (w:World):Prop:=(∃tp p,w.var? Tryz.prog "strconv.ErrSyntax" =some #[.iface tp p])∧(∃tp p,w.var? Tryz.prog "strconv.ErrRange" =some #[.iface tp p])
theorem wD {P:Program} {w w':World} {n:String} {cs:Array Value} (h:w.var? P n=some cs) (hb:Below w.heap.size w w'):w'.var? P n=some cs:=by
 unfold World.var? at*;cases hg:P.globalNamed n with
 |none=>simp [hg]at h
 |some g=>
  simp only [hg,Option.bind_some]at h⊢;have hlt:g<w.heap.size:=by
   rcases Nat.lt_or_ge g w.heap.size with h' |h'
   ·exact h'
   ·rw [Array.getElem?_eq_none h']at h;simp at h
  rw [hb.block g hlt];exact h
theorem ik.on {w w':World} (h:ik w) (hb:Below w.heap.size w w'):ik w':=by
 obtain⟨⟨t1,p1,h1⟩,⟨t2,p2,h2⟩⟩:=h;exact⟨⟨t1,p1,wD h1 hb⟩,⟨t2,p2,wD h2 hb⟩⟩
theorem oL {l:List UInt8} {v:Int} (h:Lib.atoiAll l= .ok v):C6 v:=by
 unfold C6;cases l with
 |nil=>simp [Lib.atoiAll]at h
 |cons c r=>
  simp only [Lib.atoiAll]at h;split at h
  ·cases h
  ·cases h
  ·split at h
   ·cases h
   ·split at h
    ·cases h
    ·injection h with h
     split at h<;>omega
theorem kF (l:List UInt8) (most:Int) (w:World) (hl:l.length≤1000000) (ht:sv w) (he:ik w):
  CP 270 #[.string (str l),.int .i64 most] w fun e w'=>e= .returned (Ak (dn l most))∧Below w.heap.size w w':=by
 refine aK (o0 (str l) most w) ?_;have none_of:(∀u:Nat,u≤nW→(u:Int)≤most→Lib.decDigits u≠l)→Ending.returned (Value.tuple #[.int .i64 0,.bool false])= .returned (Ak (dn l most)):=fun h=>by rw [pb l most h];rfl
 have bad:∀ {tp:TypeId} {x:Int} {w1:World} {N:Nat},(∀v,Lib.atoiAll l≠ .ok v)→Below w.heap.size w w1→Ending.returned (Value.tuple #[.int .i64 0,.bool false])= .returned (Ak (dn l most))∧Below w.heap.size w w1:=by
  intro tp x w1 N h hb;exact⟨none_of fun u hu _ e=>h u (by rw [←e];exact il u hu),hb⟩
 cases h:Lib.atoiAll l;case ok v=>
  have hv:=oL h;refine(Tryz.strconv_Atoi_ok (str l) (by rw [aR];omega) v h w).mono ?_;rintro e w1 ⟨rfl,hw⟩;have hb:Below w.heap.size w w1:=by
   rcases hw with rfl |⟨t,rfl⟩
   ·exact Below.refl _ _
   ·exact Lib.bytesWorld_below _ _ _
  refine⟨_,_,rfl,_,_,xu _ _,aa.no rfl (aa.mk ?_ ?_)⟩
  ·intro h0;have h0:=of_decide_eq_true h0;refine⟨none_of fun u hu _ e=>?_,hb⟩;rw [←e,il u hu]at h;injection h with h
   omega
  ·intro h0;have h0:=of_decide_eq_false h0;refine aa.mk ?_ ?_
   ·intro hm;have hm:=of_decide_eq_true hm;refine⟨none_of fun u hu hum e=>?_,hb⟩;rw [←e,il u hu]at h;injection h with h
    omega
   ·intro hm;have hm:=of_decide_eq_false hm;refine(qE v w1 hv (ht.on hb)).mono ?_;rintro e w3 ⟨rfl,h3⟩;have hb3:=ae hb h3;obtain⟨u,rfl⟩:∃u:Nat,v=u:=⟨v.toNat,by omega⟩;rw [Lib.itoa_nonneg];refine⟨_,rfl,aa.mk ?_ ?_⟩
    ·intro hne;rw [bU]at hne;have hne:Lib.decDigits u≠l:=by simpa using hne
     refine⟨none_of fun u' hu' _ e=>?_,hb3⟩;rw [←e,il u' hu']at h;injection h with h
     have:u'=u:=by omega
     subst this;exact hne e
    ·intro heq;rw [bU]at heq;have heq:Lib.decDigits u=l:=by simpa using heq
     refine⟨?_,hb3⟩;have hmax:=hv.2;rw [jh l most u (by unfold nW;omega) (by omega) heq];rfl
 case range=>
  obtain⟨_,⟨tp,p,hvar⟩⟩:=he;refine(Tryz.strconv_Atoi_range_var (str l) (by rw [aR];omega) h tp p w hvar).mono ?_;rintro e w1 ⟨N,rfl,_,_,hb⟩;exact⟨_,_,rfl,_,_,oZ _ _ _ _,aa.yes rfl (bad (tp:=tp) (x:=0) (N:=N) (fun v hv=>by rw [hv]at h;cases h) hb)⟩
 obtain⟨⟨tp,p,hvar⟩,_⟩:=he;refine(Tryz.strconv_Atoi_syntax_var (str l) (by rw [aR];omega) (by rw [show(str l).data.toList=l from rfl,h];trivial) tp p w hvar).mono ?_;rintro e w1 ⟨N,rfl,_,_,hb⟩;exact⟨_,_,rfl,_,_,oZ _ _ _ _,aa.yes rfl (bad (tp:=tp) (x:=0) (N:=N) (fun v hv=>by rw [hv]at h;cases h) hb)⟩
noncomputable def eP:List Bs→Option (List Int)
 | []=>some []
 |w::r=>match bY w with
  |none=>none
  |some x=>(eP r).map (x:: ·)
theorem rb (l:List Bs):(if l.length=2 then eP l else none)=(dj l).map fun m=>[m.1,m.2]:=by
 match l with
 | []=>rfl
 | [_]=>rfl
 | [a,b]=>
  simp only [eP,dj];cases bY a<;>cases bY b<;>simp
 |_::_::_::_=>simp [dj]
theorem ui (l:List Bs):(if l.length=3 then eP l else none)=(ew l).map fun m=>[m.1,m.2.1,m.2.2]:=by
 match l with
 | []=>rfl
 | [_]=>rfl
 | [_,_]=>rfl
 | [a,b,c]=>
  simp only [eP,ew];cases bY a<;>cases bY b<;>cases bY c<;>simp
 |_::_::_::_::_=>simp [ew]
def v8 (o:Option (List Int)) (e:Ending) (w':World):Prop:=match o with
 |some ns=>∃a c,e= .returned (.tuple #[.slice a ns.length c,.bool true])∧wu w' a ns
 |none=>e= .returned (.tuple #[.slice none 0 0,.bool false])
theorem e8 (a:Option Addr) (c:Nat) (ws:List Bs) (many:Nat) (w:World) (h:bc w a ws) (hl:∀x∈ws,x.length≤1000000) (hn:ws.length≤1000000) (ht:sv w) (he:ik w):
  CP 268 #[.slice a ws.length c,.int .i64 many] w fun e w'=>v8 (if ws.length=many then eP ws else none) e w'∧Below w.heap.size w w':=by
 refine aK (n_ a ws.length c many w) ?_;refine aa.mk ?_ ?_
 ·intro hc;have hc:(ws.length:Int)≠many:=by simpa using hc
  rw [if_neg (by omega)];exact⟨rfl,Below.refl _ _⟩
 ·intro hc;have hc:(ws.length:Int)=many:=by simpa using hc
  rw [if_pos (by omega)];intro I hI;refine cz (α:=Option Addr×Nat×Nat×List Int×World) ws.length
   (fun i x=>eP ws=(eP (ws.drop i)).map (x.2.2.2.1++ ·)∧x.2.2.2.2.ownsRow w.heap.size gQ 1 (.slice x.1 x.2.1 x.2.2.1) x.2.1 (x.2.2.2.1.flatMap eF)∧x.2.2.2.1.length=i∧Below w.heap.size w x.2.2.2.2)
   (fun i x=>I [.int .i64 (i:Int),.slice x.1 x.2.1 x.2.2.1,.bool false,.slice none 0 0] x.2.2.2.2) (none,0,0,[],w) ?_ ?_ ?_
  ·refine⟨?_,bL _ _ _ _,rfl,Below.refl _ _⟩;cases hns:eP ws<;>simp [hns]
  ·rintro i hi ih ⟨oA,oN,oC,ns,w1⟩ ⟨hnum,hown,hlen,hB⟩;dsimp only at hnum hown hlen hB;refine hI _ _ _ _ _ _ _ _ _ (aa.yes (by simp;omega) ?_);obtain⟨x,hxa,_,hcx⟩:=(h.on hB) i _ (List.getElem?_eq_getElem hi);refine ac.mk x hxa ⟨by omega,by omega,str ws[i],by simpa using hcx,?_⟩;refine(kF ws[i] co w1 (hl _ (List.getElem_mem hi)) (ht.on hB) (he.on hB)).mono ?_;rintro e w2 ⟨rfl,h2⟩;have hB2:=ae hB h2;rw [List.drop_eq_getElem_cons hi]at hnum;have hw:bY ws[i]=(dn ws[i] co).map fun u=>(u:Int):=rfl;cases hp:dn ws[i] co with
   |none=>
    refine⟨_,_,rfl,aa.yes rfl ⟨?_,hB2⟩⟩;rw [hnum,eP,hw,hp];rfl
   |some u=>
    refine⟨_,_,rfl,aa.no rfl ?_⟩;rintro w3 rfl;have hoN:oN=i:=by
     have:=(Rw.of_own (s:=⟨oA,oN,oC⟩) hown (fun _=>rfl) (by decide)).2;simp at this;omega
    obtain⟨a',c',w4,hr,hown4,hg,_⟩:=eL (P:=Tryz.prog) vn gQ s0 sP rfl (by decide) (bl hown h2) [.int .i64 (u:Int)] rfl (by intro v hv;simp at hv;subst hv;rfl) (by omega) (by omega) hB2.size;refine⟨a',oN+1,c',w4,hr,Ar.ok64 (by omega) (by omega) ?_⟩;refine ih (a',oN+1,c',ns++ [(u:Int)],w4) ⟨?_,?_,by simp [hlen],dl hB2 (bl hown h2) hg hB2.size⟩
    ·rw [hnum,eP,hw,hp];dsimp only [Option.map_some];cases eP (ws.drop (i+1))<;>simp
    ·rw [List.flatMap_append];exact hown4
  ·rintro⟨oA,oN,oC,ns,w1⟩ ⟨hnum,hown,hlen,hB⟩;dsimp only at hnum hown hlen hB;refine hI _ _ _ _ _ _ _ _ _ (aa.no (by simp) ⟨?_,hB⟩);rw [List.drop_length]at hnum;rw [hnum];obtain⟨h1,h2⟩:=Rw.of_own (s:=⟨oA,oN,oC⟩) hown (fun _=>rfl) (by decide);dsimp only at h1 h2;simp only [eP,Option.map_some,List.append_nil];exact⟨oA,oC,by rw [h2],h1.ints⟩
abbrev tR:TypeId:=211
abbrev qC (x:Sl) (s:aj):dR:=⟨x,sZ,2,s.merges.flatMap aF⟩
abbrev qa (x:Sl) (s:aj):dR:=⟨x,g_,1,s.tokens.flatMap cq⟩
abbrev pl (x:Sl) (s:aj):dR:=⟨x,rq,2,s.specials.flatMap aD⟩
abbrev oE (x:Sl) (s:aj):dR:=⟨x,vT,3,s.classes.flatMap a_⟩
abbrev pI (x:Sl) (s:aj):dR:=⟨x,xR,2,s.joins.flatMap aF⟩
abbrev nB (x:aI) (s:aj):List dR:=[qC x.s1 s,qa x.s2 s,pl x.s3 s,oE x.s4 s,pI x.s5 s]
abbrev nk (x:aI) (k:Int):Array Value:=#[.bool x.ranked,x.s1.v,x.s2.v,x.s3.v,x.s4.v,x.s5.v,.int .i64 k]
structure cA (B b:Nat) (x:aI) (s:aj) (k:Int) (w:World):Prop where
 hB:B≤b
 blk:w.heap[b]? =some (.cells (nk x k) tR (0,0))
 rk:x.ranked=s.ranked
 rows:bE w B (nB x s)
 off:∀r∈nB x s,r.blk≠some b
theorem cA.lt {B b:Nat} {x:aI} {s:aj} {k:Int} {w:World} (h:cA B b x s k w):b<w.heap.size:=(Array.getElem?_eq_some_iff.1 h.blk).1
theorem cA.on {B b:Nat} {x:aI} {s:aj} {k:Int} {w w':World} (h:cA B b x s k w) (hb:Below w.heap.size w w'):cA B b x s k w':=
 ⟨h.hB,by rw [hb.block b h.lt];exact h.blk,h.rk,h.rows.on hb,h.off⟩
theorem cA.spec {B b:Nat} {x:aI} {s:aj} {k:Int} {w:World} (h:cA B b x s k w):bF w x s:=by
 have o1:=Rw.of_own (h.rows.own (qC x.s1 s) (by simp)) (fun _=>rfl) (Nat.succ_pos _);have o2:=Rw.of_own (h.rows.own (qa x.s2 s) (by simp)) (fun _=>rfl) (Nat.succ_pos _);have o3:=Rw.of_own (h.rows.own (pl x.s3 s) (by simp)) (fun _=>rfl) (Nat.succ_pos _);have o4:=Rw.of_own (h.rows.own (oE x.s4 s) (by simp)) (fun _=>rfl) (Nat.succ_pos _);have o5:=Rw.of_own (h.rows.own (pI x.s5 s) (by simp)) (fun _=>rfl) (Nat.succ_pos _);exact⟨h.rk,o1.2,o1.1,o2.2,o2.1,o3.2,o3.1,o4.2,o4.1,o5.2,o5.1⟩
def dH (B b:Nat) (o:Option aj) (k:Int) (ok:Bool) (w':World):Prop:=match o with
 |some s'=>ok=true∧∃x',cA B b x' s' k w'
 |none=>ok=false
theorem yh {B b:Nat} {x:aI} {s:aj} {k:Int} {w:World} (h:cA B b x s k w) (hs:s.merges.length≤1000000) (m:Int×Int):
  ∃a' c' w3,(Builtin.append_ #[33,33] 33 #[x.s1.v,.slice (some (nb w)) 1 1]).run Tryz.prog (w.alloc (.cells (aF m).toArray sZ))= .ok (.slice a' (x.s1.n+1) c') w3∧
   (∃u,w3.cell? ((⟨b,0,none⟩:Addr).add 1)=some u)∧w3.frozen? ((⟨b,0,none⟩:Addr).add 1)=false∧
   ∀w4,w4=w3.setCell ((⟨b,0,none⟩:Addr).add 1) (.slice a' (x.s1.n+1) c')→cA B b {x with s1:=⟨a',x.s1.n+1,c'⟩} {s with merges:=s.merges++ [m]} k w4∧(∀w0,Below B w0 w→Below B w0 w4):=by
 have hn:x.s1.n=s.merges.length:=h.spec.n1;obtain⟨a',c',w3,hr,hc,hf,hk⟩:=fP (P:=Tryz.prog) (pre:=[]) (post:=[qa x.s2 s,pl x.s3 s,oE x.s4 s,pI x.s5 s]) (r:=qC x.s1 s) 1 h.blk (by simp) h.rows h.off h.hB 33 uP vr rfl (Nat.succ_pos _) (aF m) rfl (by intro u hu;simp [aF]at hu;rcases hu with rfl |rfl<;>rfl) (by dsimp only;omega) (by dsimp only;omega)
 refine⟨a',c',w3,hr,hc,hf,?_⟩;rintro w4 hw4;obtain⟨k1,k2,k3,k4⟩:=hk w4 hw4;have e:s.merges.flatMap aF++aF m=(s.merges++ [m]).flatMap aF:=by simp
 dsimp only at k2 k3;rw [e]at k2 k3;exact⟨⟨h.hB,k1.trans rfl,h.rk,k2,k3⟩,k4⟩
theorem xK {B b:Nat} {x:aI} {s:aj} {k:Int} {w:World} (h:cA B b x s k w) (hs:s.tokens.length≤1000000) (m:Bs):
  ∃a' c' w3,(Builtin.append_ #[eI,eI] eI #[x.s2.v,.slice (some (nb w)) 1 1]).run Tryz.prog (w.alloc (.cells (cq m).toArray g_))= .ok (.slice a' (x.s2.n+1) c') w3∧
   (∃u,w3.cell? ((⟨b,0,none⟩:Addr).add 2)=some u)∧w3.frozen? ((⟨b,0,none⟩:Addr).add 2)=false∧
   ∀w4,w4=w3.setCell ((⟨b,0,none⟩:Addr).add 2) (.slice a' (x.s2.n+1) c')→cA B b {x with s2:=⟨a',x.s2.n+1,c'⟩} {s with tokens:=s.tokens++ [m]} k w4∧(∀w0,Below B w0 w→Below B w0 w4):=by
 have hn:x.s2.n=s.tokens.length:=h.spec.n2;obtain⟨a',c',w3,hr,hc,hf,hk⟩:=fP (P:=Tryz.prog) (pre:=[qC x.s1 s]) (post:=[pl x.s3 s,oE x.s4 s,pI x.s5 s]) (r:=qa x.s2 s) 2 h.blk (by simp) h.rows h.off h.hB eI mU nn rfl (Nat.succ_pos _) (cq m) rfl (by intro u hu;simp [cq]at hu;rcases hu with rfl;rfl) (by dsimp only;omega) (by dsimp only;omega);refine⟨a',c',w3,hr,hc,hf,?_⟩;rintro w4 hw4;obtain⟨k1,k2,k3,k4⟩:=hk w4 hw4;have e:s.tokens.flatMap cq++cq m=(s.tokens++ [m]).flatMap cq:=by simp
 dsimp only at k2 k3;rw [e]at k2 k3;exact⟨⟨h.hB,k1.trans rfl,h.rk,k2,k3⟩,k4⟩
theorem xW {B b:Nat} {x:aI} {s:aj} {k:Int} {w:World} (h:cA B b x s k w) (hs:s.specials.length≤1000000) (m:Int×Bs):
  ∃a' c' w3,(Builtin.append_ #[25,25] 25 #[x.s3.v,.slice (some (nb w)) 1 1]).run Tryz.prog (w.alloc (.cells (aD m).toArray rq))= .ok (.slice a' (x.s3.n+1) c') w3∧
   (∃u,w3.cell? ((⟨b,0,none⟩:Addr).add 3)=some u)∧w3.frozen? ((⟨b,0,none⟩:Addr).add 3)=false∧
   ∀w4,w4=w3.setCell ((⟨b,0,none⟩:Addr).add 3) (.slice a' (x.s3.n+1) c')→cA B b {x with s3:=⟨a',x.s3.n+1,c'⟩} {s with specials:=s.specials++ [m]} k w4∧(∀w0,Below B w0 w→Below B w0 w4):=by
 have hn:x.s3.n=s.specials.length:=h.spec.n3;obtain⟨a',c',w3,hr,hc,hf,hk⟩:=fP (P:=Tryz.prog) (pre:=[qC x.s1 s,qa x.s2 s]) (post:=[oE x.s4 s,pI x.s5 s]) (r:=pl x.s3 s) 3 h.blk (by simp) h.rows h.off h.hB 25 rI sw rfl (Nat.succ_pos _) (aD m) rfl (by intro u hu;simp [aD]at hu;rcases hu with rfl |rfl<;>rfl) (by dsimp only;omega) (by dsimp only;omega)
 refine⟨a',c',w3,hr,hc,hf,?_⟩;rintro w4 hw4;obtain⟨k1,k2,k3,k4⟩:=hk w4 hw4;have e:s.specials.flatMap aD++aD m=(s.specials++ [m]).flatMap aD:=by simp
 dsimp only at k2 k3;rw [e]at k2 k3;exact⟨⟨h.hB,k1.trans rfl,h.rk,k2,k3⟩,k4⟩
theorem xO {B b:Nat} {x:aI} {s:aj} {k:Int} {w:World} (h:cA B b x s k w) (hs:s.classes.length≤1000000) (m:Int×Int×Int):
  ∃a' c' w3,(Builtin.append_ #[23,23] 23 #[x.s4.v,.slice (some (nb w)) 1 1]).run Tryz.prog (w.alloc (.cells (a_ m).toArray vT))= .ok (.slice a' (x.s4.n+1) c') w3∧
   (∃u,w3.cell? ((⟨b,0,none⟩:Addr).add 4)=some u)∧w3.frozen? ((⟨b,0,none⟩:Addr).add 4)=false∧
   ∀w4,w4=w3.setCell ((⟨b,0,none⟩:Addr).add 4) (.slice a' (x.s4.n+1) c')→cA B b {x with s4:=⟨a',x.s4.n+1,c'⟩} {s with classes:=s.classes++ [m]} k w4∧(∀w0,Below B w0 w→Below B w0 w4):=by
 have hn:x.s4.n=s.classes.length:=h.spec.n4;obtain⟨a',c',w3,hr,hc,hf,hk⟩:=fP (P:=Tryz.prog) (pre:=[qC x.s1 s,qa x.s2 s,pl x.s3 s]) (post:=[pI x.s5 s]) (r:=oE x.s4 s) 4 h.blk (by simp) h.rows h.off h.hB 23 uI wz rfl (Nat.succ_pos _) (a_ m) rfl (by intro u hu;simp [a_]at hu;rcases hu with rfl |rfl |rfl<;>rfl) (by dsimp only;omega) (by dsimp only;omega)
 refine⟨a',c',w3,hr,hc,hf,?_⟩;rintro w4 hw4;obtain⟨k1,k2,k3,k4⟩:=hk w4 hw4;have e:s.classes.flatMap a_++a_ m=(s.classes++ [m]).flatMap a_:=by simp
 dsimp only at k2 k3;rw [e]at k2 k3;exact⟨⟨h.hB,k1.trans rfl,h.rk,k2,k3⟩,k4⟩
theorem xh {B b:Nat} {x:aI} {s:aj} {k:Int} {w:World} (h:cA B b x s k w) (hs:s.joins.length≤1000000) (m:Int×Int):
  ∃a' c' w3,(Builtin.append_ #[24,24] 24 #[x.s5.v,.slice (some (nb w)) 1 1]).run Tryz.prog (w.alloc (.cells (aF m).toArray xR))= .ok (.slice a' (x.s5.n+1) c') w3∧
   (∃u,w3.cell? ((⟨b,0,none⟩:Addr).add 5)=some u)∧w3.frozen? ((⟨b,0,none⟩:Addr).add 5)=false∧
   ∀w4,w4=w3.setCell ((⟨b,0,none⟩:Addr).add 5) (.slice a' (x.s5.n+1) c')→cA B b {x with s5:=⟨a',x.s5.n+1,c'⟩} {s with joins:=s.joins++ [m]} k w4∧(∀w0,Below B w0 w→Below B w0 w4):=by
 have hn:x.s5.n=s.joins.length:=h.spec.n5;obtain⟨a',c',w3,hr,hc,hf,hk⟩:=fP (P:=Tryz.prog) (pre:=[qC x.s1 s,qa x.s2 s,pl x.s3 s,oE x.s4 s]) (post:=[]) (r:=pI x.s5 s) 5 h.blk (by simp) h.rows h.off h.hB 24 vm vA rfl (Nat.succ_pos _) (aF m) rfl (by intro u hu;simp [aF]at hu;rcases hu with rfl |rfl<;>rfl) (by dsimp only;omega) (by dsimp only;omega)
 refine⟨a',c',w3,hr,hc,hf,?_⟩;rintro w4 hw4;obtain⟨k1,k2,k3,k4⟩:=hk w4 hw4;have e:s.joins.flatMap aF++aF m=(s.joins++ [m]).flatMap aF:=by simp
 dsimp only at k2 k3;rw [e]at k2 k3;exact⟨⟨h.hB,k1.trans rfl,h.rk,k2,k3⟩,k4⟩
theorem lX (B b:Nat) (x:aI) (s:aj) (k:Int) (a:Option Addr) (c:Nat) (ws:List Bs) (w:World) (hR:cA B b x s k w) (hs:cH s) (h:bc w a ws) (hl:∀x∈ws,x.length≤1000000) (hn:ws.length≤1000000) (ht:sv w) (he:ik w):
  CP 234 #[.pointer (some ⟨b,0,none⟩),.slice a ws.length c] w fun e w'=>∃ok,e= .returned (.bool ok)∧dH B b ((dj ws).map fun m=>{s with merges:=s.merges++ [m]}) k ok w'∧Below B w w':=by
 refine aK (nV (some ⟨b,0,none⟩) a ws.length c w) ?_;have hBw:B≤w.heap.size:=Nat.le_trans hR.hB (Nat.le_of_lt hR.lt);refine(e8 a c ws 2 w h hl hn ht he).mono ?_;rintro e w1 ⟨hp,hB1⟩;rw [rb]at hp;have hBB:Below B w w1:=hB1.mono hBw;cases hm:dj ws with
 |none=>
  rw [hm]at hp;subst hp;refine⟨_,_,_,_,rfl,?_⟩;intro J hJ;exact aa.no rfl (hJ w1 ⟨false,rfl,rfl,hBB⟩)
 |some m=>
  rw [hm]at hp;obtain⟨ra,rc,rfl,hrow⟩:=hp;refine⟨_,_,_,_,rfl,?_⟩;intro J hJ;refine aa.yes rfl ?_;rintro w3 rfl;have hR3:cA B b x s k w1.drew:=(hR.on hB1).on ((Below.refl _ _).drew);have hns:([m.1,m.2]:List Int).length=2:=rfl;refine ac.mk ⟨b,0,none⟩ rfl ⟨_,_,_,(aE (j:=1) hR3.blk).trans rfl,?_⟩;obtain⟨p0,hp0,hlt0,hc0⟩:=hrow 0 _ rfl;obtain⟨p1,hp1,hlt1,hc1⟩:=hrow 1 _ rfl;refine ac.mk p0 hp0 ⟨by simp,by simp,m.1,hc0,?_⟩;refine ac.mk p1 hp1 ⟨by simp,by simp,m.2,hc1,?_⟩;rintro w4 rfl;have hR4:=hR3.on (ak w1.drew (.cells (aF m).toArray sZ));refine⟨⟨(aE (j:=1) hR4.blk).trans rfl,trivial⟩,?_⟩;obtain⟨a',c',w5,hr,hcc,hf,hk⟩:=yh hR3 hs.1 m;refine⟨a',_,c',w5,hr,?_⟩;refine ac.mk ⟨b,0,none⟩ rfl ⟨rfl,hcc,hf,?_⟩;intro w6 hw6;obtain⟨k1,k2⟩:=hk w6 hw6;exact hJ w6 ⟨true,rfl,⟨rfl,_,k1⟩,k2 w hBB.drew⟩
theorem lL (B b:Nat) (x:aI) (s:aj) (k:Int) (a:Option Addr) (c:Nat) (ws:List Bs) (w:World) (hR:cA B b x s k w) (hs:cH s) (h:bc w a ws) (hl:∀x∈ws,x.length≤1000000) (hn:ws.length≤1000000) (ht:sv w) (he:ik w):
  CP 237 #[.pointer (some ⟨b,0,none⟩),.slice a ws.length c] w fun e w'=>∃ok,e= .returned (.bool ok)∧dH B b ((ew ws).map fun m=>{s with classes:=s.classes++ [m]}) k ok w'∧Below B w w':=by
 refine aK (pe (some ⟨b,0,none⟩) a ws.length c w) ?_;have hBw:B≤w.heap.size:=Nat.le_trans hR.hB (Nat.le_of_lt hR.lt);refine(e8 a c ws 3 w h hl hn ht he).mono ?_;rintro e w1 ⟨hp,hB1⟩;rw [ui]at hp;have hBB:Below B w w1:=hB1.mono hBw;cases hm:ew ws with
 |none=>
  rw [hm]at hp;subst hp;refine⟨_,_,_,_,rfl,?_⟩;intro J hJ;exact aa.no rfl (hJ w1 ⟨false,rfl,rfl,hBB⟩)
 |some m=>
  rw [hm]at hp;obtain⟨ra,rc,rfl,hrow⟩:=hp;refine⟨_,_,_,_,rfl,?_⟩;intro J hJ;refine aa.yes rfl ?_;rintro w3 rfl;have hR3:cA B b x s k w1.drew:=(hR.on hB1).on ((Below.refl _ _).drew);have hns:([m.1,m.2.1,m.2.2]:List Int).length=3:=rfl;refine ac.mk ⟨b,0,none⟩ rfl ⟨_,_,_,(aE (j:=4) hR3.blk).trans rfl,?_⟩;obtain⟨p0,hp0,hlt0,hc0⟩:=hrow 0 _ rfl;obtain⟨p1,hp1,hlt1,hc1⟩:=hrow 1 _ rfl;obtain⟨p2,hp2,hlt2,hc2⟩:=hrow 2 _ rfl;refine ac.mk p0 hp0 ⟨by simp,by simp,m.1,hc0,?_⟩;refine ac.mk p1 hp1 ⟨by simp,by simp,m.2.1,hc1,?_⟩;refine ac.mk p2 hp2 ⟨by simp,by simp,m.2.2,hc2,?_⟩;rintro w4 rfl;have hR4:=hR3.on (ak w1.drew (.cells (a_ m).toArray vT));refine⟨⟨(aE (j:=4) hR4.blk).trans rfl,trivial⟩,?_⟩;obtain⟨a',c',w5,hr,hcc,hf,hk⟩:=xO hR3 hs.2.2.2.1 m;refine⟨a',_,c',w5,hr,?_⟩;refine ac.mk ⟨b,0,none⟩ rfl ⟨rfl,hcc,hf,?_⟩;intro w6 hw6;obtain⟨k1,k2⟩:=hk w6 hw6;exact hJ w6 ⟨true,rfl,⟨rfl,_,k1⟩,k2 w hBB.drew⟩
theorem nG (B b:Nat) (x:aI) (s:aj) (k:Int) (a:Option Addr) (c:Nat) (ws:List Bs) (w:World) (hR:cA B b x s k w) (hs:cH s) (h:bc w a ws) (hl:∀x∈ws,x.length≤1000000) (hn:ws.length≤1000000) (ht:sv w) (he:ik w):
  CP 238 #[.pointer (some ⟨b,0,none⟩),.slice a ws.length c] w fun e w'=>∃ok,e= .returned (.bool ok)∧dH B b ((dj ws).map fun m=>{s with joins:=s.joins++ [m]}) k ok w'∧Below B w w':=by
 refine aK (og (some ⟨b,0,none⟩) a ws.length c w) ?_;have hBw:B≤w.heap.size:=Nat.le_trans hR.hB (Nat.le_of_lt hR.lt);refine(e8 a c ws 2 w h hl hn ht he).mono ?_;rintro e w1 ⟨hp,hB1⟩;rw [rb]at hp;have hBB:Below B w w1:=hB1.mono hBw;cases hm:dj ws with
 |none=>
  rw [hm]at hp;subst hp;refine⟨_,_,_,_,rfl,?_⟩;intro J hJ;exact aa.no rfl (hJ w1 ⟨false,rfl,rfl,hBB⟩)
 |some m=>
  rw [hm]at hp;obtain⟨ra,rc,rfl,hrow⟩:=hp;refine⟨_,_,_,_,rfl,?_⟩;intro J hJ;refine aa.yes rfl ?_;rintro w3 rfl;have hR3:cA B b x s k w1.drew:=(hR.on hB1).on ((Below.refl _ _).drew);have hns:([m.1,m.2]:List Int).length=2:=rfl;refine ac.mk ⟨b,0,none⟩ rfl ⟨_,_,_,(aE (j:=5) hR3.blk).trans rfl,?_⟩;obtain⟨p0,hp0,hlt0,hc0⟩:=hrow 0 _ rfl;obtain⟨p1,hp1,hlt1,hc1⟩:=hrow 1 _ rfl;refine ac.mk p0 hp0 ⟨by simp,by simp,m.1,hc0,?_⟩;refine ac.mk p1 hp1 ⟨by simp,by simp,m.2,hc1,?_⟩;rintro w4 rfl;have hR4:=hR3.on (ak w1.drew (.cells (aF m).toArray xR));refine⟨⟨(aE (j:=5) hR4.blk).trans rfl,trivial⟩,?_⟩;obtain⟨a',c',w5,hr,hcc,hf,hk⟩:=xh hR3 hs.2.2.2.2 m;refine⟨a',_,c',w5,hr,?_⟩;refine ac.mk ⟨b,0,none⟩ rfl ⟨rfl,hcc,hf,?_⟩;intro w6 hw6;obtain⟨k1,k2⟩:=hk w6 hw6;exact hJ w6 ⟨true,rfl,⟨rfl,_,k1⟩,k2 w hBB.drew⟩
theorem lV (B b:Nat) (x:aI) (s:aj) (k:Int) (a:Option Addr) (c:Nat) (ws:List Bs) (w:World) (hR:cA B b x s k w) (hs:cH s) (h:bc w a ws) (hl:∀x∈ws,x.length≤1000000) (hn:ws.length≤1000000):
  CP 235 #[.pointer (some ⟨b,0,none⟩),.slice a ws.length c] w fun e w'=>∃ok,e= .returned (.bool ok)∧dH B b ((lW ws).map fun m=>{s with tokens:=s.tokens++ [m]}) k ok w'∧Below B w w':=by
 refine aK (o8 (some ⟨b,0,none⟩) a ws.length c w) ?_;have hBw:B≤w.heap.size:=Nat.le_trans hR.hB (Nat.le_of_lt hR.lt);refine aa.mk ?_ ?_
 ·intro hc;have hc:(ws.length:Int)≠1:=by simpa using hc
  refine⟨false,rfl,?_,Below.refl _ _⟩
  match ws,hc with
  | [],_=>rfl
  |_::_::_,_=>rfl
  | [_],hc=>simp at hc
 ·intro hc;have hc:(ws.length:Int)=1:=by simpa using hc
  match ws,hc,h,hl with
  | [t],_,h,hl=>
   obtain⟨p,hp,_,hcp⟩:=h 0 _ rfl;refine ac.mk p hp ⟨by simp,by simp,str t,hcp,?_⟩;have htl:=hl t (by simp);refine(lh t w (by omega)).mono ?_;rintro e w1 ⟨rfl,hB1⟩;have hBB:Below B w w1:=hB1.mono hBw;have hR1:=hR.on hB1;have fin:∀(o:Option Bs) (u:Bs) (q:Bool),(∀m,o=some m→u=m∧q=true)→(o=none→q=false)→
    ac (some ⟨b,0,none⟩) (fun pa_1=>
     ∃lA_2:Option Addr,∃lN_3:Nat,∃lC_4:Nat,w1.cell? ((pa_1.add 0).add 2)=some (Value.slice lA_2 lN_3 lC_4)∧
     ∀w2:World,w2=w1.alloc (.cells #[Value.string (str u)] g_)→
     ∃lA_5:Option Addr,∃lN_6:Nat,∃lC_7:Nat,∃w3:World,(Builtin.append_ #[eI,eI] eI #[Value.slice lA_2 lN_3 lC_4,Value.slice (some (nb w1)) 1 1]).run Tryz.prog w2= .ok (Value.slice lA_5 lN_6 lC_7) w3∧
     ac (some ⟨b,0,none⟩) (fun pa_8=>
     (Value.slice lA_5 lN_6 lC_7).oneCell'=true∧(∃u,w3.cell? ((pa_8.add 0).add 2)=some u)∧w3.frozen? ((pa_8.add 0).add 2)=false∧
     ∀w4:World,w4=(w3.setCell ((pa_8.add 0).add 2) (Value.slice lA_5 lN_6 lC_7))→
     ∃ok,Ending.returned (Value.bool q)= .returned (.bool ok)∧dH B b (o.map fun m=>{s with tokens:=s.tokens++ [m]}) k ok w4∧Below B w w4)):=by
    intro o u q h1 h2;refine ac.mk ⟨b,0,none⟩ rfl ⟨_,_,_,(aE (j:=2) hR1.blk).trans rfl,?_⟩;rintro w2 rfl;obtain⟨a',c',w5,hr,hcc,hf,hk⟩:=xK hR1 hs.2.1 u;refine⟨a',_,c',w5,hr,?_⟩;refine ac.mk ⟨b,0,none⟩ rfl ⟨rfl,hcc,hf,?_⟩;intro w6 hw6;obtain⟨k1,k2⟩:=hk w6 hw6;refine⟨q,rfl,?_,k2 w hBB⟩;cases o with
    |none=>exact h2 rfl
    |some m=>
     obtain⟨rfl,hq⟩:=h1 m rfl;exact⟨hq,_,k1⟩
   show ∃r0:ByteArray,∃r1:Bool,_;cases hu:bW t with
   |none=>exact⟨str [],false,rfl,fin _ [] false (by simp [lW,hu]) (fun _=>rfl)⟩
   |some m=>exact⟨str m,true,rfl,fin _ m true (by simp [lW,hu]) (by simp [lW,hu])⟩
theorem jz (B b:Nat) (x:aI) (s:aj) (k:Int) (a:Option Addr) (c:Nat) (ws:List Bs) (w:World) (hR:cA B b x s k w) (hs:cH s) (h:bc w a ws) (hl:∀x∈ws,x.length≤1000000) (hn:ws.length≤1000000) (ht:sv w) (he:ik w):
  CP 236 #[.pointer (some ⟨b,0,none⟩),.slice a ws.length c] w fun e w'=>∃ok,e= .returned (.bool ok)∧dH B b ((dE ws).map fun m=>{s with specials:=s.specials++ [m]}) k ok w'∧Below B w w':=by
 refine aK (qv (some ⟨b,0,none⟩) a ws.length c w) ?_;have hBw:B≤w.heap.size:=Nat.le_trans hR.hB (Nat.le_of_lt hR.lt);refine aa.mk ?_ ?_
 ·intro hc;have hc:(ws.length:Int)≠2:=by simpa using hc
  refine⟨false,rfl,?_,Below.refl _ _⟩
  match ws,hc with
  | [],_=>rfl
  | [_],_=>rfl
  |_::_::_::_,_=>rfl
  | [_,_],hc=>simp at hc
 ·intro hc;have hc:(ws.length:Int)=2:=by simpa using hc
  match ws,hc,h,hl with
  | [t,t2],_,h,hl=>
   obtain⟨p,hp,_,hcp⟩:=h 0 _ rfl;refine ac.mk p hp ⟨by simp,by simp,str t,hcp,?_⟩;have htl:=hl t (by simp);refine(kF t co w (by omega) ht he).mono ?_;rintro e w1 ⟨rfl,hB1⟩;obtain⟨p2,hp2,_,hcp2⟩:=(h.on hB1) 1 _ rfl;have hw:bY t=(dn t co).map fun u=>(u:Int):=rfl;have tail:∀(n:Int) (q1:Bool),(bY t=some n∧q1=true)∨(bY t=none∧q1=false)→
     ac a (fun pa_1=>
      (0:Int)≤1∧1< (([t,t2].length:Nat):Int)∧
      ∃s_2:ByteArray,w1.cell? (pa_1.add ((1:Int).toNat*1))=some (Value.string s_2)∧
      CP 269 #[Value.string s_2] w1 (fun e2 w2=>
      ∃r0_3:ByteArray,∃r1_4:Bool,e2= .returned (Value.tuple #[Value.string r0_3,Value.bool r1_4])∧
      ac (some ⟨b,0,none⟩) (fun pa_5=>
      ∃lA_6:Option Addr,∃lN_7:Nat,∃lC_8:Nat,w2.cell? ((pa_5.add 0).add 3)=some (Value.slice lA_6 lN_7 lC_8)∧
      ∀w3:World,w3=w2.alloc (.cells #[Value.int .i64 n,Value.string r0_3] rq)→
      ∃lA_9:Option Addr,∃lN_10:Nat,∃lC_11:Nat,∃w4:World,(Builtin.append_ #[25,25] 25 #[Value.slice lA_6 lN_7 lC_8,Value.slice (some (nb w2)) 1 1]).run Tryz.prog w3= .ok (Value.slice lA_9 lN_10 lC_11) w4∧
      ac (some ⟨b,0,none⟩) (fun pa_12=>
      (Value.slice lA_9 lN_10 lC_11).oneCell'=true∧(∃u,w4.cell? ((pa_12.add 0).add 3)=some u)∧w4.frozen? ((pa_12.add 0).add 3)=false∧
      ∀w5:World,w5=(w4.setCell ((pa_12.add 0).add 3) (Value.slice lA_9 lN_10 lC_11))→
      aa q1
       (∃ok,Ending.returned (Value.bool r1_4)= .returned (.bool ok)∧dH B b ((dE [t,t2]).map fun m=>{s with specials:=s.specials++ [m]}) k ok w5∧Below B w w5)
       (∃ok,Ending.returned (Value.bool false)= .returned (.bool ok)∧dH B b ((dE [t,t2]).map fun m=>{s with specials:=s.specials++ [m]}) k ok w5∧Below B w w5))))):=by
    intro n q1 hq;refine ac.mk p2 hp2 ⟨by simp,by simp,str t2,hcp2,?_⟩;have htl2:=hl t2 (by simp);refine(lh t2 w1 (by omega)).mono ?_;rintro e w2 ⟨rfl,hB2⟩;have hB12:=ae hB1 hB2;have hBB:Below B w w2:=hB12.mono hBw;have hR2:=hR.on hB12;have fin:∀(u:Bs) (q:Bool),(bW t2=some u∧q=true)∨(bW t2=none∧q=false)→
      ac (some ⟨b,0,none⟩) (fun pa_5=>
      ∃lA_6:Option Addr,∃lN_7:Nat,∃lC_8:Nat,w2.cell? ((pa_5.add 0).add 3)=some (Value.slice lA_6 lN_7 lC_8)∧
      ∀w3:World,w3=w2.alloc (.cells #[Value.int .i64 n,Value.string (str u)] rq)→
      ∃lA_9:Option Addr,∃lN_10:Nat,∃lC_11:Nat,∃w4:World,(Builtin.append_ #[25,25] 25 #[Value.slice lA_6 lN_7 lC_8,Value.slice (some (nb w2)) 1 1]).run Tryz.prog w3= .ok (Value.slice lA_9 lN_10 lC_11) w4∧
      ac (some ⟨b,0,none⟩) (fun pa_12=>
      (Value.slice lA_9 lN_10 lC_11).oneCell'=true∧(∃u,w4.cell? ((pa_12.add 0).add 3)=some u)∧w4.frozen? ((pa_12.add 0).add 3)=false∧
      ∀w5:World,w5=(w4.setCell ((pa_12.add 0).add 3) (Value.slice lA_9 lN_10 lC_11))→
      aa q1
       (∃ok,Ending.returned (Value.bool q)= .returned (.bool ok)∧dH B b ((dE [t,t2]).map fun m=>{s with specials:=s.specials++ [m]}) k ok w5∧Below B w w5)
       (∃ok,Ending.returned (Value.bool false)= .returned (.bool ok)∧dH B b ((dE [t,t2]).map fun m=>{s with specials:=s.specials++ [m]}) k ok w5∧Below B w w5))):=by
     intro u q hqq;refine ac.mk ⟨b,0,none⟩ rfl ⟨_,_,_,(aE (j:=3) hR2.blk).trans rfl,?_⟩;rintro w3 rfl;obtain⟨a',c',w5,hr,hcc,hf,hk⟩:=xW hR2 hs.2.2.1 (n,u);refine⟨a',_,c',w5,hr,?_⟩;refine ac.mk ⟨b,0,none⟩ rfl ⟨rfl,hcc,hf,?_⟩;intro w6 hw6;obtain⟨k1,k2⟩:=hk w6 hw6;have hk2:=k2 w hBB;rcases hq with⟨h1,rfl⟩ |⟨h1,rfl⟩
     ·refine aa.yes rfl ⟨q,rfl,?_,hk2⟩;rcases hqq with⟨h2,rfl⟩ |⟨h2,rfl⟩
      ·simp only [dE,h1,h2];exact⟨rfl,_,k1⟩
      ·simp only [dE,h1,h2];rfl
     ·refine aa.no rfl ⟨false,rfl,?_,hk2⟩;simp only [dE,h1];rfl
    cases hu:bW t2 with
    |none=>exact⟨str [],false,rfl,fin [] false (.inr ⟨hu,rfl⟩)⟩
    |some m=>exact⟨str m,true,rfl,fin m true (.inl ⟨hu,rfl⟩)⟩
   cases hp:dn t co with
   |none=>exact⟨0,false,rfl,tail 0 false (.inr ⟨by rw [hw,hp];rfl,rfl⟩)⟩
   |some u=>exact⟨(u:Int),true,rfl,tail u true (.inl ⟨by rw [hw,hp];rfl,rfl⟩)⟩
theorem jy {w:World} {a p:Addr} {u:Value} (h:p.block≠a.block):(w.setCell a u).cell? p=w.cell? p:=by
 unfold World.cell?;rw [ar h]
noncomputable def mw (l:List Bs):Option Bool:=if l= [eZ]then some true else if l= [dz]then some false else none
theorem m9 (B b:Nat) (x:aI) (s:aj) (k:Int) (a:Option Addr) (c:Nat) (ws:List Bs) (w:World) (hR:cA B b x s k w) (h:bc w a ws) (hoff:∀p,a=some p→p.block≠b) (hn:ws.length≤1000000):
  CP 233 #[.pointer (some ⟨b,0,none⟩),.slice a ws.length c] w fun e w'=>∃ok,e= .returned (.bool ok)∧dH B b ((mw ws).map fun q=>{s with ranked:=q}) k ok w'∧Below B w w':=by
 refine aK (ob (some ⟨b,0,none⟩) a ws.length c w) ?_;have put:∀q:Bool,∀w1,w1=w.setCell (((⟨b,0,none⟩:Addr).add 0).add 0) (.bool q)→cA B b {x with ranked:=q} {s with ranked:=q} k w1∧Below B w w1:=by
  intro q w1 hw1;rw [al]at hw1;subst hw1;refine⟨⟨hR.hB,(aV (j:=0) hR.blk _).trans rfl,rfl,hR.rows.setCell _ _ (by rw [ap];exact hR.off),hR.off⟩,aN (Below.refl _ _) hR.hB _⟩
 have c0:w.cell? (((⟨b,0,none⟩:Addr).add 0).add 0)=some (.bool x.ranked):=by rw [al];exact(aE (j:=0) hR.blk).trans rfl
 have f0:w.frozen? (((⟨b,0,none⟩:Addr).add 0).add 0)=false:=by rw [al];exact aM hR.blk
 refine aa.mk ?_ ?_
 ·intro hc;have hc1:(ws.length:Int)=1:=by simpa using hc
  match ws,hc1,hc,h with
  | [t],_,hc,h=>
   obtain⟨p,hp,_,hcp⟩:=h 0 _ rfl;have hpb:=hoff p hp;refine ac.mk p hp ⟨by simp,by simp,str t,hcp,?_⟩;refine ac.mk ⟨b,0,none⟩ rfl ⟨rfl,⟨_,c0⟩,f0,?_⟩;have eR:((str t).toList==(⟨#[114,97,110,107,115]⟩:ByteArray).toList)=decide (t=eZ):=by rw [show(⟨#[114,97,110,107,115]⟩:ByteArray)=str eZ from rfl,bU]
   have eM:((str t).toList==(⟨#[109,101,114,103,101,115]⟩:ByteArray).toList)=decide (t=dz):=by rw [show(⟨#[109,101,114,103,101,115]⟩:ByteArray)=str dz from rfl,bU]
   rw [eR];intro w1 hw1;obtain⟨hR1,hB1⟩:=put _ w1 hw1;have hc1:w1.cell? (p.add 0)=some (.string (str t)):=by
    rw [hw1,jy (by rw [ap,ap,ap];exact hpb)];exact hcp
   refine aa.yes hc (ac.mk p hp ⟨by simp,by simp,str t,hc1,?_⟩);rw [eR];refine aa.mk ?_ ?_
   ·intro ht;have ht:=of_decide_eq_true ht;subst ht;refine⟨true,rfl,?_,hB1⟩;unfold mw;rw [if_pos rfl];exact⟨rfl,_,hR1⟩
   ·intro ht;have ht':=of_decide_eq_false ht;refine ac.mk p hp ⟨by simp,by simp,str t,hc1,?_⟩;rw [eM];refine⟨_,rfl,?_,hB1⟩;unfold mw;rw [if_neg (by simpa using ht')];by_cases hm:t=dz
    ·rw [if_pos (by simpa using hm)];rw [ht]at hR1;exact⟨by simpa using hm,_,hR1⟩
    ·rw [if_neg (by simpa using hm)];exact decide_eq_false hm
 ·intro hc;have hc1:(ws.length:Int)≠1:=by simpa using hc
  refine ac.mk ⟨b,0,none⟩ rfl ⟨rfl,⟨_,c0⟩,f0,?_⟩;intro w2 hw2;obtain⟨hR1,hB1⟩:=put _ w2 hw2;refine aa.no hc ⟨false,rfl,?_,hB1⟩;unfold mw;rw [if_neg (by rintro rfl;simp at hc1),if_neg (by rintro rfl;simp at hc1)];rfl
def ou (B b:Nat) (o:Option (aj×Nat)) (k j:Int) (ok:Bool) (w':World):Prop:=match o with
 |some (s',j')=>ok=true∧j=j'∧∃x',cA B b x' s' k w'
 |none=>ok=false
theorem cS {B b:Nat} {o:Option aj} {k:Int} {n:Nat} {ok:Bool} {w':World} (h:dH B b o k ok w'):ou B b (o.map fun s=>(s,n)) k n ok w':=by
 cases o with
 |none=>exact h
 |some s=>exact⟨h.1,rfl,h.2⟩
theorem rg (s:aj) (first:Bs) (l:List Bs):
  gv s (first::l)=if first=cP then((mw l).map fun q=>{s with ranked:=q}).map fun s=>(s,0)else if first=wMerge then((dj l).map fun m=>{s with merges:=s.merges++ [m]}).map fun s=>(s,1)
   else if first=wToken then((lW l).map fun m=>{s with tokens:=s.tokens++ [m]}).map fun s=>(s,1)else if first=wSpecial then((dE l).map fun m=>{s with specials:=s.specials++ [m]}).map fun s=>(s,2)
   else if first=wClass then((ew l).map fun m=>{s with classes:=s.classes++ [m]}).map fun s=>(s,3)else if first=wJoin then((dj l).map fun m=>{s with joins:=s.joins++ [m]}).map fun s=>(s,4)else none:=by
 unfold gv mw;simp only [Option.map_map];split
 ·split
  ·rfl
  ·split<;>rfl
 ·rfl
theorem mT (B b:Nat) (x:aI) (s:aj) (k:Int) (first:Bs) (a:Option Addr) (c:Nat) (ws:List Bs) (w:World) (hR:cA B b x s k w) (hs:cH s) (h:bc w a ws) (hoff:∀p,a=some p→p.block≠b) (hl:∀x∈ws,x.length≤1000000) (hn:ws.length≤1000000) (ht:sv w) (he:ik w):
  CP 187 #[.pointer (some ⟨b,0,none⟩),.string (str first),.slice a ws.length c] w fun e w'=>∃(j:Int) (ok:Bool),e= .returned (.tuple #[.int .i64 j,.bool ok])∧ou B b (gv s (first::ws)) k j ok w'∧Below B w w':=by
 refine aK (pm (some ⟨b,0,none⟩) (str first) a ws.length c w) ?_;rw [rg];have e1:((str first).toList==(⟨#[118,111,99,97,98]⟩:ByteArray).toList)=decide (first=cP):=by rw [show(⟨#[118,111,99,97,98]⟩:ByteArray)=str cP from rfl,bU]
 have e2:((str first).toList==(⟨#[109,101,114,103,101]⟩:ByteArray).toList)=decide (first=wMerge):=by rw [show(⟨#[109,101,114,103,101]⟩:ByteArray)=str wMerge from rfl,bU]
 have e3:((str first).toList==(⟨#[116,111,107,101,110]⟩:ByteArray).toList)=decide (first=wToken):=by rw [show(⟨#[116,111,107,101,110]⟩:ByteArray)=str wToken from rfl,bU]
 have e4:((str first).toList==(⟨#[115,112,101,99,105,97,108]⟩:ByteArray).toList)=decide (first=wSpecial):=by rw [show(⟨#[115,112,101,99,105,97,108]⟩:ByteArray)=str wSpecial from rfl,bU]
 have e5:((str first).toList==(⟨#[99,108,97,115,115]⟩:ByteArray).toList)=decide (first=wClass):=by rw [show(⟨#[99,108,97,115,115]⟩:ByteArray)=str wClass from rfl,bU]
 have e6:((str first).toList==(⟨#[106,111,105,110]⟩:ByteArray).toList)=decide (first=wJoin):=by rw [show(⟨#[106,111,105,110]⟩:ByteArray)=str wJoin from rfl,bU]
 refine aa.mk ?_ ?_
 ·intro hc;rw [e1]at hc;rw [if_pos (of_decide_eq_true hc)];refine(m9 B b x s k a c ws w hR h hoff hn).mono ?_;rintro e w1 ⟨ok,rfl,hp,hB⟩;exact⟨ok,rfl,_,ok,rfl,cS (n:=0) hp,hB⟩
 intro hc;rw [e1]at hc;rw [if_neg (of_decide_eq_false hc)];refine aa.mk ?_ ?_
 ·intro hc;rw [e2]at hc;rw [if_pos (of_decide_eq_true hc)];refine(lX B b x s k a c ws w hR hs h hl hn ht he).mono ?_;rintro e w1 ⟨ok,rfl,hp,hB⟩;exact⟨ok,rfl,_,ok,rfl,cS (n:=1) hp,hB⟩
 intro hc;rw [e2]at hc;rw [if_neg (of_decide_eq_false hc)];refine aa.mk ?_ ?_
 ·intro hc;rw [e3]at hc;rw [if_pos (of_decide_eq_true hc)];refine(lV B b x s k a c ws w hR hs h hl hn).mono ?_;rintro e w1 ⟨ok,rfl,hp,hB⟩;exact⟨ok,rfl,_,ok,rfl,cS (n:=1) hp,hB⟩
 intro hc;rw [e3]at hc;rw [if_neg (of_decide_eq_false hc)];refine aa.mk ?_ ?_
 ·intro hc;rw [e4]at hc;rw [if_pos (of_decide_eq_true hc)];refine(jz B b x s k a c ws w hR hs h hl hn ht he).mono ?_;rintro e w1 ⟨ok,rfl,hp,hB⟩;exact⟨ok,rfl,_,ok,rfl,cS (n:=2) hp,hB⟩
 intro hc;rw [e4]at hc;rw [if_neg (of_decide_eq_false hc)];refine aa.mk ?_ ?_
 ·intro hc;rw [e5]at hc;rw [if_pos (of_decide_eq_true hc)];refine(lL B b x s k a c ws w hR hs h hl hn ht he).mono ?_;rintro e w1 ⟨ok,rfl,hp,hB⟩;exact⟨ok,rfl,_,ok,rfl,cS (n:=3) hp,hB⟩
 intro hc;rw [e5]at hc;rw [if_neg (of_decide_eq_false hc)];refine aa.mk ?_ ?_
 ·intro hc;rw [e6]at hc;rw [if_pos (of_decide_eq_true hc)];refine(nG B b x s k a c ws w hR hs h hl hn ht he).mono ?_;rintro e w1 ⟨ok,rfl,hp,hB⟩;exact⟨ok,rfl,_,ok,rfl,cS (n:=4) hp,hB⟩
 intro hc;rw [e6]at hc;rw [if_neg (of_decide_eq_false hc)];exact⟨0,false,rfl,rfl,Below.refl _ _⟩
theorem lf (c:UInt8) (l:Bs):∀w∈ax c l,w.length≤l.length:=by
 induction l with
 |nil=>intro w hw;simp [ax]at hw;subst hw;simp
 |cons b l ih=>
  intro w hw;simp only [ax]at hw;split at hw
  ·rcases List.mem_cons.1 hw with e |e
   ·subst e;simp
   ·have:=ih w e;simp;omega
  ·cases hc:ax c l with
   |nil=>exact absurd hc (dO c l)
   |cons x r=>
    rw [hc]at hw ih;rcases List.mem_cons.1 hw with e |e
    ·subst e;have:=ih x (by simp);simp;omega
    ·have:=ih w (by simp [e]);simp;omega
theorem k9 (c:UInt8) (l:Bs):(ax c l).length≤l.length+1:=by
 induction l with
 |nil=>simp [ax]
 |cons b l ih=>
  simp only [ax];split
  ·simp;omega
  ·cases hc:ax c l with
   |nil=>simp
   |cons x r=>rw [hc]at ih;simp at ih⊢;omega
def uA (B b:Nat) (o:Option (aj×Nat)) (ok:Bool) (w':World):Prop:=match o with
 |some (s',j)=>ok=true∧∃x',cA B b x' s' j w'
 |none=>ok=false
theorem nw (B b:Nat) (x:aI) (s:aj) (k n:Nat) (line:Bs) (w:World) (hR:cA B b x s k w) (hs:cH s) (hl:line.length≤100000) (ht:sv w) (he:ik w) (hm:Mx w):
  CP 129 #[.pointer (some ⟨b,0,none⟩),.int .i64 n,.string (str line)] w fun e w'=>∃ok:Bool,e= .returned (.bool ok)∧uA B b (bo s k n line) ok w'∧Below B w w':=by
 refine aK (qs (some ⟨b,0,none⟩) n (str line) w) ?_;have hBw:B≤w.heap.size:=Nat.le_trans hR.hB (Nat.le_of_lt hR.lt);refine(Ay line w (by omega) hm).mono ?_;rintro e w1 ⟨rfl,hrow,hB1⟩;refine⟨_,_,_,rfl,?_⟩;rintro w2 rfl;have hB2:Below w.heap.size w w1.drew:=hB1.drew;have hR2:=hR.on hB2;have hrow2:bc w1.drew (some (nb w)) (ax 32 line):=hrow;have hsm:=lf 32 line;have hct:=k9 32 line;obtain⟨first,ws,hcut⟩:∃f r,ax 32 line=f::r:=by
  cases hc:ax 32 line with
  |nil=>exact absurd hc (dO 32 line)
  |cons f r=>exact⟨f,r,rfl⟩
 have hln:bo s k n line=eD k n (gv s (first::ws)):=by unfold bo;rw [hcut]
 rw [hcut]at hrow2 hsm hct⊢;obtain⟨p,hp,_,hcp⟩:=hrow2 0 _ rfl;cases hp;refine ac.mk (nb w) rfl ⟨by simp,by simp,str first,hcp,by simp,by simp;omega,trivial,trivial,trivial,?_⟩;have hlt:=hR.lt;have htail:∃a',ce (some (nb w)) (1:Int).toNat (((first::ws).length:Nat):Int).toNat 1=a'∧bc w1.drew a' ws∧∀p,a'=some p→p.block≠b:=by
  refine⟨_,rfl,?_,?_⟩
  ·intro j t hj;have hj':=(List.getElem?_eq_some_iff.1 hj).1;obtain⟨p,hp,hlt,hc⟩:=hrow2 (j+1) t (by simpa using hj);cases hp;have:ce (some (nb w)) (1:Int).toNat (((first::ws).length:Nat):Int).toNat 1=some ((nb w).add 1):=by
    unfold ce;rw [if_neg (by simp;intro e;rw [e]at hj';simp at hj')];rfl
   refine⟨_,this,by rw [ap];exact hlt,?_⟩;rw [au]at hc⊢;rw [au];rw [←hc];congr 2;omega
  ·intro p hp;unfold ce at hp;split at hp
   ·cases hp;dsimp only;omega
   ·cases hp;rw [ap];dsimp only;omega
 obtain⟨a',ha',hrow',hoff'⟩:=htail;rw [ha'];have hlen:(((first::ws).length:Nat):Int).toNat- (1:Int).toNat=ws.length:=by simp
 rw [hlen];have hB2B:Below B w w1.drew:=hB2.mono hBw;refine(mT B b x s k first a' _ ws w1.drew hR2 hs hrow' hoff' (fun y hy=>by have:=hsm y (by simp [hy]);omega) (by simp at hct;omega) (ht.on hB2) (he.on hB2)).mono ?_;rintro e w3 ⟨j,ok,rfl,hp,hB3⟩;have hB23:Below B w w3:=hB2B.trans hB3;refine⟨_,_,rfl,?_⟩;rw [hln];cases ha:gv s (first::ws)with
 |none=>
  rw [ha]at hp;have hp:ok=false:=hp;subst hp;exact aa.yes rfl ⟨false,rfl,rfl,hB23⟩
 |some sj=>
  obtain⟨s',j'⟩:=sj;rw [ha]at hp;obtain⟨rfl,rfl,x',hR'⟩:=hp;refine aa.no rfl ?_;simp only [eD];refine aa.mk ?_ ?_
  ·intro hc;refine⟨false,rfl,?_,hB23⟩;rw [if_neg ?_]
   ·rfl
   ·rintro⟨h1,_⟩;have:((n:Int)==0)=((j':Int)==0):=by
     rw [Bool.eq_iff_iff];simp;omega
    rw [this]at hc;simp at hc
  ·intro hc;have h1:n=0↔j'=0:=by
    simp at hc;rw [Bool.eq_iff_iff]at hc;simp at hc;omega
   refine ac.mk ⟨b,0,none⟩ rfl ⟨_,(aE (j:=6) hR'.blk).trans rfl,aa.mk ?_ ?_⟩
   ·intro hk;have hk:=of_decide_eq_true hk;refine⟨false,rfl,?_,hB23⟩;rw [if_neg (by omega)];rfl
   ·intro hk;have hk:=of_decide_eq_false hk;have cc:∀j v,(nk x' k)[j]? =some v→w3.cell? (((⟨b,0,none⟩:Addr).add 0).add j)=some v:=by
     intro j v hv;rw [al,aE hR'.blk,hv]
    refine ac.mk ⟨b,0,none⟩ rfl ⟨x'.ranked,_,_,_,_,_,_,_,_,_,_,_,_,_,_,_,⟨?_,cc 1 _ rfl,cc 2 _ rfl,cc 3 _ rfl,cc 4 _ rfl,cc 5 _ rfl,trivial⟩,?_⟩
    ·rw [al];have:=aE (j:=0) hR'.blk;rw [al]at this;exact this
    refine(rj x' s' w3 hR'.spec).mono ?_;rintro e w4 ⟨rfl,hB4⟩;have hR4:=hR'.on hB4;have hB34:Below B w w4:=hB23.trans (hB4.mono (Nat.le_trans hR'.hB (Nat.le_of_lt hR'.lt)));refine⟨_,rfl,aa.mk ?_ ?_⟩
    ·intro hr;refine⟨false,rfl,?_,hB34⟩;rw [if_neg (by rintro⟨_,_,e⟩;rw [e]at hr;simp at hr)];rfl
    ·intro hr;have hr:s'.right=true:=by simpa using hr
     refine ac.mk ⟨b,0,none⟩ rfl ⟨rfl,⟨_,(aE (j:=6) hR4.blk).trans rfl⟩,aM hR4.blk,?_⟩;rintro w5 rfl;refine⟨true,rfl,?_,aN hB34 hR4.hB _⟩;rw [if_pos ⟨h1,by omega,hr⟩];refine⟨rfl,x',hR4.hB,(aV (j:=6) hR4.blk _).trans rfl,hR4.rk,hR4.rows.setCell _ _ (by rw [ap];exact hR4.off),hR4.off⟩
theorem jO {α:Type} {enc:α→List Value} {sz:Nat} {w:World} {a:Option Addr}:Rw enc sz w a []:=by
 intro j x hj;simp at hj
theorem jF (w:World):bF w cj {}:=⟨rfl,rfl,jO,rfl,jO,rfl,jO,rfl,jO,rfl,jO⟩
theorem lv {w w6:World} {c:Array Value} {T:TypeId} (R:Value→World→Prop) (n m:Int) (x:aI) (hblk:w6.heap[w.heap.size]? =some (.cells c T (0,0))) (hc:c.size=6)
  (hR:∀w7,(∀w0,Below w.heap.size w0 w6→Below w.heap.size w0 w7)→(∀j,j≠w.heap.size→w7.heap[j]? =w6.heap[j]?)→R (.tuple #[x.v,.int .i64 n,.int .i64 m]) w7):
  aG w6 (nb w) (fun w7=>
   ∃res0:Bool,∃res1A:Option Addr,∃res1N:Nat,∃res1C:Nat,∃res2A:Option Addr,∃res2N:Nat,∃res2C:Nat,∃res3A:Option Addr,∃res3N:Nat,∃res3C:Nat,∃res4A:Option Addr,∃res4N:Nat,∃res4C:Nat,∃res5A:Option Addr,∃res5N:Nat,∃res5C:Nat,(w7.cell? (nb w)=some (Value.bool res0)∧w7.cell? ((nb w).add 1)=some (Value.slice res1A res1N res1C)∧w7.cell? ((nb w).add 2)=some (Value.slice res2A res2N res2C)∧w7.cell? ((nb w).add 3)=some (Value.slice res3A res3N res3C)∧w7.cell? ((nb w).add 4)=some (Value.slice res4A res4N res4C)∧w7.cell? ((nb w).add 5)=some (Value.slice res5A res5N res5C)∧True)∧
   R (Value.tuple #[Value.agg #[Value.bool res0,Value.slice res1A res1N res1C,Value.slice res2A res2N res2C,Value.slice res3A res3N res3C,Value.slice res4A res4N res4C,Value.slice res5A res5N res5C],Value.int .i64 n,Value.int .i64 m]) w7)
   [Value.bool x.ranked,Value.slice x.s1.a x.s1.n x.s1.c,Value.slice x.s2.a x.s2.n x.s2.c,Value.slice x.s3.a x.s3.n x.s3.c,Value.slice x.s4.a x.s4.n x.s4.c,Value.slice x.s5.a x.s5.n x.s5.c] 0:=by
 refine cE _ 0 w6 c 0 hblk (by simp [hc]) (by intro v hv;simp at hv;rcases hv with rfl |rfl |rfl |rfl |rfl |rfl<;>rfl) ?_
 intro w7 h7 hne hsz hB;have h7':w7.heap[w.heap.size]? =some (.cells x.cells T (0,0)):=by
  rw [h7];congr 2;simp [d7,hc]
 have c0:w7.cell? (nb w)=some (Value.bool x.ranked):=by have:=aE (j:=0) h7';rw [al]at this;exact this.trans rfl
 exact⟨x.ranked,_,_,_,_,_,_,_,_,_,_,_,_,_,_,_,⟨c0,(aE (j:=1) h7').trans rfl,(aE (j:=2) h7').trans rfl,(aE (j:=3) h7').trans rfl,(aE (j:=4) h7').trans rfl,(aE (j:=5) h7').trans rfl,trivial⟩,hR w7 (fun w0 h=>hB _ w0 (Nat.le_refl _) h) hne⟩
def cd (t:Bs) (v:Value) (w':World):Prop:=
 if 60000<t.length then ∃x,v= .tuple #[x.v,.int .i64 0,.int .i64 3]∧bF w' x {}
 else match cu t with
  | .ok s=>∃x,v= .tuple #[x.v,.int .i64 0,.int .i64 0]∧bF w' x s
  | .error m=>∃x,v= .tuple #[x.v,.int .i64 m,.int .i64 2]∧bF w' x {}
theorem lr (t:Bs) (w:World) (ht:sv w) (he:ik w) (hm:Mx w):
  CP 90 #[.string (str t)] w fun e w'=>∃v,e= .returned v∧cd t v w'∧Below w.heap.size w w':=by
 refine(rC (str t) w (fun v w'=>cd t v w'∧Below w.heap.size w w') ?_);intro w1 hw1;have hb1:Below w.heap.size w w1:=by rw [hw1];exact ak _ _
 have k1:w1.heap[w.heap.size]? =some (.cells cj.cells bO (0,0)):=by rw [hw1];exact aC w _
 have hlt1:w.heap.size<w1.heap.size:=(Array.getElem?_eq_some_iff.1 k1).1;refine aa.mk ?_ ?_
 ·intro hc;have hc:=of_decide_eq_true hc;rw [aR]at hc;refine lv (fun v w'=>cd t v w'∧Below w.heap.size w w') 0 3 cj k1 rfl ?_;intro w7 hB hne;refine⟨?_,hB w hb1⟩;unfold cd;rw [if_pos (by omega)];exact⟨cj,rfl,jF w7⟩
 ·intro hc;have hc:=of_decide_eq_false hc;rw [aR]at hc;refine(rZ t w1 (by omega) (hm.on hb1)).mono ?_;rintro e w3 ⟨ra,rc,rfl,hrow,hB3⟩;refine⟨_,_,_,_,rfl,?_⟩;intro w4 hw4;have hlt3:w1.heap.size≤w3.heap.size:=hB3.size;have hb3:=ae hb1 hB3;have hb34:Below w3.heap.size w3 w4:=by rw [hw4];exact ak _ _
  have hR4:cA w3.heap.size w3.heap.size cj {} 0 w4:=by
   refine⟨Nat.le_refl _,by rw [hw4];exact aC w3 _,rfl,⟨?_,?_⟩,?_⟩
   ·intro r hr;simp at hr;rcases hr with rfl |rfl |rfl |rfl |rfl<;>exact bL _ _ _ _
   ·simp only [nB,List.pairwise_cons];refine⟨?_,?_,?_,?_,?_,List.Pairwise.nil⟩<;>(intro r' _ k hk;cases hk)
   ·intro r hr;simp at hr;rcases hr with rfl |rfl |rfl |rfl |rfl<;>(intro e;cases e)
  have hne0:=dO 10 t;have hlen:(ax 10 t).dropLast.length=(ax 10 t).length-1:=by simp
  have hpos:0< (ax 10 t).length:=List.length_pos_iff.2 hne0;have hcnt:=k9 10 t;have hsm:=lf 10 t;have kk:∀ {w5:World},Below w3.heap.size w4 w5→w5.heap[w.heap.size]? =some (.cells cj.cells bO (0,0)):=by
   intro w5 hB;rw [hB.block _ (by omega),hb34.block _ (by omega),hB3.block _ hlt1,k1]
  have bel:∀ {w5:World},Below w3.heap.size w4 w5→Below w.heap.size w w5:=fun hB=>ae hb3 (hb34.trans hB);have bad:∀(m:Nat) {w5:World},Below w3.heap.size w4 w5→cu t= .error m→∀z:Int,z=m→
    aG w5 (nb w) (fun w7=>
   ∃res0:Bool,∃res1A:Option Addr,∃res1N:Nat,∃res1C:Nat,∃res2A:Option Addr,∃res2N:Nat,∃res2C:Nat,∃res3A:Option Addr,∃res3N:Nat,∃res3C:Nat,∃res4A:Option Addr,∃res4N:Nat,∃res4C:Nat,∃res5A:Option Addr,∃res5N:Nat,∃res5C:Nat,(w7.cell? (nb w)=some (Value.bool res0)∧w7.cell? ((nb w).add 1)=some (Value.slice res1A res1N res1C)∧w7.cell? ((nb w).add 2)=some (Value.slice res2A res2N res2C)∧w7.cell? ((nb w).add 3)=some (Value.slice res3A res3N res3C)∧w7.cell? ((nb w).add 4)=some (Value.slice res4A res4N res4C)∧w7.cell? ((nb w).add 5)=some (Value.slice res5A res5N res5C)∧True)∧
   (fun v w'=>cd t v w'∧Below w.heap.size w w') (Value.tuple #[Value.agg #[Value.bool res0,Value.slice res1A res1N res1C,Value.slice res2A res2N res2C,Value.slice res3A res3N res3C,Value.slice res4A res4N res4C,Value.slice res5A res5N res5C],Value.int .i64 z,Value.int .i64 2]) w7)
   [Value.bool false,Value.slice none 0 0,Value.slice none 0 0,Value.slice none 0 0,Value.slice none 0 0,Value.slice none 0 0] 0:=by
   intro m w5 hB hp z hz;refine lv (fun v w'=>cd t v w'∧Below w.heap.size w w') z 2 cj (kk hB) rfl ?_;intro w7 hB7 hne;refine⟨?_,hB7 w (bel hB)⟩;unfold cd;rw [if_neg (by omega),hp];exact⟨cj,by rw [hz],jF w7⟩
  intro I hI;refine cz (α:=aI×aj×Nat×World) ((ax 10 t).length-1)
   (fun i y=>cA w3.heap.size w3.heap.size y.1 y.2.1 y.2.2.1 y.2.2.2∧cH y.2.1∧bn {} 0 0 (ax 10 t).dropLast=bn y.2.1 y.2.2.1 i ((ax 10 t).dropLast.drop i)∧Below w3.heap.size w4 y.2.2.2)
   (fun i y=>I [.int .i64 (i:Int),.int .i64 0,.int .i64 0] y.2.2.2) (cj,{},0,w4) ⟨hR4,by simp [cH],rfl,Below.refl _ _⟩ ?_ ?_
  ·rintro i hi ih ⟨x,s,k,w5⟩ ⟨hR,hs,hrd,hB⟩;dsimp only at hR hs hrd hB;refine hI _ _ _ _ (aa.yes (by simp;omega) ?_);have hi':i< (ax 10 t).dropLast.length:=by omega
   have hb5:Below w3.heap.size w3 w5:=hb34.trans hB;obtain⟨p,hpa,_,hcp⟩:=(hrow.on hb5) i _ (List.getElem?_eq_getElem hi');refine ac.mk p hpa ⟨by omega,by omega,str (ax 10 t).dropLast[i],by simpa using hcp,?_⟩;have hll:(ax 10 t).dropLast[i].length≤60000:=by
    have:=hsm _ (List.dropLast_subset _ (List.getElem_mem hi'));omega
   have hall:=bel hB;refine(nw _ _ x s k i (ax 10 t).dropLast[i] w5 hR hs (by omega) (ht.on hall) (he.on hall) (hm.on hall)).mono ?_;rintro e w6 ⟨ok,rfl,hp,hB6⟩;rw [List.drop_eq_getElem_cons hi',bn]at hrd;refine⟨_,rfl,?_⟩;cases hr:bo s k i (ax 10 t).dropLast[i]with
   |none=>
    rw [hr]at hp hrd;have hp:ok=false:=hp;subst hp;refine aa.yes rfl (Ar.ok64 (by omega) (by omega) ?_);exact bad (i+1) (hB.trans hB6) (by unfold cu;rw [hrd]) _ (by simp)
   |some sj=>
    obtain⟨s',j⟩:=sj;rw [hr]at hp hrd;obtain⟨rfl,x',hR'⟩:=hp;refine aa.no rfl (Ar.ok64 (by omega) (by omega) ?_);refine ih (x',s',j,w6) ⟨hR',?_,hrd,hB.trans hB6⟩;refine ej ?_;unfold bo eD at hr;split at hr
    ·cases hr
    ·split at hr
     ·rename_i hg;cases hr;exact hg.2.2
     ·cases hr
  ·rintro⟨x,s,k,w5⟩ ⟨hR,hs,hrd,hB⟩;dsimp only at hR hs hrd hB;refine hI _ _ _ _ (aa.no (by simp) ?_);rw [List.drop_eq_nil_of_le (by omega),bn]at hrd;refine aa.mk ?_ ?_
   ·intro hc1;have hc1:¬(ax 10 t).getLast?=some []:=by simpa using hc1
    refine Ar.ok64 (by omega) (by omega) ?_;exact bad (ax 10 t).length hB (by unfold cu;rw [hrd];dsimp only;rw [if_neg (fun h=>hc1 h.1)]) _ (by omega)
   ·intro hc1;have hc1:(ax 10 t).getLast?=some []:=by simpa using hc1
    refine aa.mk ?_ ?_
    ·intro hc2;have hc2:(((ax 10 t).length-1:Nat):Int)=0:=by simpa using hc2
     refine Ar.ok64 (by omega) (by omega) ?_;exact bad (ax 10 t).length hB (by unfold cu;rw [hrd];dsimp only;rw [if_neg (fun h=>h.2 (List.eq_nil_of_length_eq_zero (by omega)))]) _ (by omega)
    ·intro hc2;have hc2:(((ax 10 t).length-1:Nat):Int)≠0:=by simpa using hc2
     have cc:∀j v,(nk x k)[j]? =some v→w5.cell? (((nb w3).add 0).add j)=some v:=by
      intro j v hv;rw [al,aE hR.blk,hv]
     have cc0:w5.cell? ((nb w3).add 0)=some (.bool x.ranked):=(aE (j:=0) hR.blk).trans rfl;refine⟨x.ranked,_,_,_,_,_,_,_,_,_,_,_,_,_,_,_,⟨cc0,cc 1 _ rfl,cc 2 _ rfl,cc 3 _ rfl,cc 4 _ rfl,cc 5 _ rfl,trivial⟩,?_⟩;refine lv (fun v w'=>cd t v w'∧Below w.heap.size w w') 0 0 x (kk hB) rfl ?_;intro w7 hB7 hne;refine⟨?_,hB7 w (bel hB)⟩;unfold cd;rw [if_neg (by omega)];have hps:cu t= .ok s:=by
      unfold cu;rw [hrd];dsimp only;rw [if_pos ⟨hc1,fun h=>by rw [h]at hlen;simp at hlen;omega⟩]
     rw [hps];refine⟨x,rfl,?_⟩;have hsp:=hR.spec;have hsz:w5.heap.size≤w7.heap.size:=(hB7 w5 (Below.refl _ _)).size;have hoff:∀r∈nB x s,∀p,r.sl.a=some p→p.block≠w.heap.size:=by
      intro r hr p hp;have h1:r.blk=some p.block:=by
       unfold dR.blk Sl.v;rw [hp];rfl
      have:=(hR.rows.lt hr _ h1).1;omega
     exact⟨hsp.ranked,hsp.n1,hsp.r1.off hne hsz (hoff (qC x.s1 s) (by simp)),hsp.n2,hsp.r2.off hne hsz (hoff (qa x.s2 s) (by simp)),hsp.n3,hsp.r3.off hne hsz (hoff (pl x.s3 s) (by simp)),
      hsp.n4,hsp.r4.off hne hsz (hoff (oE x.s4 s) (by simp)),hsp.n5,hsp.r5.off hne hsz (hoff (pI x.s5 s) (by simp))⟩
end Go.Proofs.YtijbcdiffjjefaaGreatDoor.Eng
